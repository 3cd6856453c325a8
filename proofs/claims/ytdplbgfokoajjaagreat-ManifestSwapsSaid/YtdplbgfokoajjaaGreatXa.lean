/- The values, stores and the relation to the machine's world of a small program logic. -/
import Derived.Calls
import Derived.Defers
import Derived.Orders
import Derived.Tactics
import Derived.Laws.Cells
import Derived.Laws.World
import Derived.Lib.FrozenHead
import Derived.RowKit
import Derived.Maps.OwnSet
import Derived.RangeFuncRecord
import Derived.OrdersIn
import Derived.TacticsIn
import Derived.Below
import Derived.Laws.StructEq
section
set_option maxRecDepth 20000
set_option linter.unusedVariables false
namespace Go.Proofs.YtdplbgfokoajjaaGreat
open Go
inductive PV where
 | undef
 | bool (b : Bool)
 | int (k : IntKind) (n : Int)
 | str (s : ByteArray)
 | nilp
 | ptr (b g i : Nat) (p : List Nat)
 | laddr (x : PV)
 | nils
 | lit (xs : List PV)
 | ref (b g off len : Nat)
 | nilm
 | map (b : Nat)
 | nilf
 | fn (f : Fn) (first cap : List PV)
 | nili
 | iface (t : TypeId) (x : PV)
 | agg (t : TypeId) (fs : List PV)
 | tup (vs : List PV)
 deriving Inhabited
inductive TD where
 | bool
 | int (k : IntKind)
 | str
 | ptr (e : TypeId)
 | slice (e : TypeId)
 | arr (n : Nat) (e : TypeId)
 | map (k e : TypeId)
 | st
 | fn
 | ifc
 | other
 deriving Inhabited, DecidableEq
structure Env where
 P : Program
 kn : TypeId → Bool
 td : TypeId → TD
 agg : TypeId → Bool
 lay : TypeId → List TypeId
 size : TypeId → Nat
 bytes : TypeId → Nat
 zero : TypeId → PV
 fk : FuncId → Bool
inductive Blk where
 | cells (ty : TypeId) (g : Nat) (xs : List PV)
 | mp (K : TypeId) (es : List (Lit × PV))
 | loop (l : Nat) (st : LoopState) (pend : Option Code) (n : Nat) (fr : List (Nat × PV)) (ps : Array Tmp) (assign body : Code)
 deriving Inhabited
abbrev Store := List (Option Blk)
abbrev Fr := List (Nat × PV)
structure MB where
 blk : Nat
 base : Nat
 gen : Nat
 ty : TypeId
 cells : Nat
structure Cx where
 I : Nat → Prop
 F : Nat → Prop
 w : World
 mu : Nat → Option MB
 A : Nat → Prop
 top : Nat
def fits (E : Env) (T : TypeId) : PV → Bool
 | .agg t _ => t == T && E.agg T
 | .tup _ => false
 | .undef => false
 | _ => !E.agg T
def offOf (E : Env) (t k : Nat) : Nat := (((E.lay t).take k).map E.size).sum
def pathOff (E : Env) : TypeId → List Nat → Nat
 | _, [] => 0
 | t, k :: p => offOf E t k + pathOff E ((E.lay t).getD k 0) p
def typeAt (E : Env) : TypeId → List Nat → Option TypeId
 | t, [] => some t
 | t, k :: p => if E.agg t then (match (E.lay t)[k]? with | some u => typeAt E u p | none => none) else none
def Win (c : Array Value) (o : Nat) (cs : List Value) : Prop := ∀ j v, cs[j]? = some v → c[o + j]? = some v
def Cx.pure (c : Cx) : Cx := { c with mu := fun _ => none, A := fun _ => False }
mutual
inductive VC (E : Env) : Cx → PV → List Value → Prop
 | bool {c : Cx} (b : Bool) : VC E c (.bool b) [.bool b]
 | int {c : Cx} (k : IntKind) (n : Int) : VC E c (.int k n) [.int k n]
 | str {c : Cx} (s : ByteArray) : VC E c (.str s) [.string s]
 | nilp {c : Cx} : VC E c .nilp [.pointer none]
 | ptr {c : Cx} (b g i : Nat) (p : List Nat) (v : Value) (h1 : v.oneCell' = true) (hb : c.A b) (hle : ∀ m, c.mu b = some m → g ≤ m.gen)
   (h : ∀ m, c.mu b = some m → m.gen = g → v = .pointer (some ⟨m.blk, m.base + i * E.size m.ty + pathOff E m.ty p, none⟩)) : VC E c (.ptr b g i p) [v]
 | laddr {c : Cx} (x : PV) (k o : Nat) (cs : List Value) (ca : Array Value) (e : TypeId) (fz : Nat × Nat) (hI : c.I k) (hw : c.w.heap[k]? = some (.cells ca e fz))
   (hx : VC E c x cs) (hwin : Win ca o cs) : VC E c (.laddr x) [.pointer (some ⟨k, o, none⟩)]
 | nils {c : Cx} (a : Option Addr) : VC E c .nils [.slice a 0 0]
 | lit0 {c : Cx} (a : Option Addr) (n : Nat) : VC E c (.lit []) [.slice a 0 n]
 | lit {c : Cx} (xs : List PV) (T : TypeId) (k o cap : Nat) (cs : List Value) (ca : Array Value) (e : TypeId) (fz : Nat × Nat) (hI : c.I k) (hw : c.w.heap[k]? = some (.cells ca e fz))
   (hx : VCs E c.pure (List.replicate xs.length T) xs cs) (hwin : Win ca o cs) (hcap : xs.length ≤ cap) : VC E c (.lit xs) [.slice (some ⟨k, o, none⟩) xs.length cap]
 | ref {c : Cx} (b g off len : Nat) (v : Value) (h1 : v.oneCell' = true) (hb : c.A b) (hle : ∀ m, c.mu b = some m → g ≤ m.gen)
   (h : ∀ m, c.mu b = some m → m.gen = g → ∃ (a : Option Addr) (cap : Nat), v = .slice a len cap ∧ len ≤ cap ∧
    (cap = 0 ∨ (a = some ⟨m.blk, m.base + off * E.size m.ty, none⟩ ∧ m.base + (off + cap) * E.size m.ty ≤ m.cells))) : VC E c (.ref b g off len) [v]
 | nilm {c : Cx} : VC E c .nilm [.map none]
 | map {c : Cx} (b : Nat) (v : Value) (h1 : v.oneCell' = true) (hb : c.A b) (h : ∀ m, c.mu b = some m → m.gen = 0 → v = .map (some m.blk)) : VC E c (.map b) [v]
 | nilf {c : Cx} : VC E c .nilf [.nilFunc]
 | fn {c : Cx} (f : Fn) (first cap : List PV) (vs us : Array Value) (h1 : VL E c first vs.toList) (h2 : VL E c cap us.toList) : VC E c (.fn f first cap) [.func f vs us]
 | nili {c : Cx} : VC E c .nili [.nilIface]
 | ifaceA {c : Cx} (t : TypeId) (u : TypeId) (fs : List PV) (cs : List Value) (h : VC E c (.agg u fs) cs) : VC E c (.iface t (.agg u fs)) [.iface t (.agg cs.toArray)]
 | ifaceS {c : Cx} (t : TypeId) (x : PV) (v : Value) (h1 : v.oneCell' = true) (h : VC E c x [v]) : VC E c (.iface t x) [.iface t v]
 | agg {c : Cx} (t : TypeId) (fs : List PV) (cs : List Value) (h : VCs E c (E.lay t) fs cs) : VC E c (.agg t fs) cs
inductive VCs (E : Env) : Cx → List TypeId → List PV → List Value → Prop
 | nil {c : Cx} : VCs E c [] [] []
 | cons {c : Cx} {T : TypeId} {Ts : List TypeId} {x : PV} {xs : List PV} {cs ds : List Value} (hf : fits E T x = true) (h : VC E c x cs) (hs : VCs E c Ts xs ds) : VCs E c (T :: Ts) (x :: xs) (cs ++ ds)
inductive VL (E : Env) : Cx → List PV → List Value → Prop
 | nil {c : Cx} : VL E c [] []
 | undef {c : Cx} {xs : List PV} {v : Value} {vs : List Value} (hs : VL E c xs vs) : VL E c (.undef :: xs) (v :: vs)
 | one {c : Cx} {x : PV} {xs : List PV} {v : Value} {vs : List Value} (h1 : v.oneCell' = true) (hn : ∀ t fs, x ≠ .agg t fs) (h : VC E c x [v]) (hs : VL E c xs vs) : VL E c (x :: xs) (v :: vs)
 | agg {c : Cx} {t : TypeId} {fs xs : List PV} {cs : List Value} {vs : List Value} (h : VC E c (.agg t fs) cs) (hs : VL E c xs vs) : VL E c (.agg t fs :: xs) (.agg cs.toArray :: vs)
 | tup {c : Cx} {ys xs : List PV} {us : Array Value} {vs : List Value} (h : VL E c ys us.toList) (hs : VL E c xs vs) : VL E c (.tup ys :: xs) (.tuple us :: vs)
end
def V (E : Env) (c : Cx) (x : PV) (v : Value) : Prop := VL E c [x] [v]
structure Ext (c c' : Cx) : Prop where
 I : ∀ k, c.I k → c'.I k
 keeps : ∀ k, c.I k → c'.w.heap[k]? = c.w.heap[k]?
 A : ∀ b, c.A b → c'.A b
 mu : ∀ b, c.A b → ∀ m', c'.mu b = some m' → ∃ m, c.mu b = some m ∧ m.gen ≤ m'.gen ∧ (m'.gen = m.gen → m' = m)
theorem Ext.refl (c : Cx) : Ext c c := ⟨fun _ h => h, fun _ _ => rfl, fun _ h => h, fun _ _ m h => ⟨m, h, Nat.le_refl _, fun _ => rfl⟩⟩
theorem Ext.trans {a b c : Cx} (h : Ext a b) (k : Ext b c) : Ext a c :=
 ⟨fun i hi => k.I i (h.I i hi), fun i hi => (k.keeps i (h.I i hi)).trans (h.keeps i hi), fun i hi => k.A i (h.A i hi), fun i hi m'' hm => by
  obtain ⟨m', h1, h2, h3⟩ := k.mu i (h.A i hi) m'' hm
  obtain ⟨m, k1, k2, k3⟩ := h.mu i hi m' h1
  refine ⟨m, k1, Nat.le_trans k2 h2, fun e => ?_⟩
  have e1 : m''.gen = m'.gen := by omega
  have e2 : m'.gen = m.gen := by omega
  rw [h3 e1, k3 e2]⟩
theorem Ext.pure {a b : Cx} (h : Ext a b) : Ext a.pure b.pure := ⟨h.I, h.keeps, fun i hi => by simp [Cx.pure] at hi, fun i hi => by simp [Cx.pure] at hi⟩
theorem Ext.at {c c' : Cx} (e : Ext c c') {b g : Nat} (hb : c.A b) (hle : ∀ m, c.mu b = some m → g ≤ m.gen) {m' : MB} (hm : c'.mu b = some m') (hg : m'.gen = g) : c.mu b = some m' := by
 obtain ⟨m, k1, k2, k3⟩ := e.mu b hb m' hm
 have := hle m k1
 rw [k3 (by omega)]; exact k1
theorem Ext.le {c c' : Cx} (e : Ext c c') {b g : Nat} (hb : c.A b) (hle : ∀ m, c.mu b = some m → g ≤ m.gen) {m' : MB} (hm : c'.mu b = some m') : g ≤ m'.gen := by
 obtain ⟨m, k1, k2, k3⟩ := e.mu b hb m' hm
 exact Nat.le_trans (hle m k1) k2
mutual
theorem VC.ext {E : Env} {c c' : Cx} {x : PV} {cs : List Value} (h : VC E c x cs) (e : Ext c c') : VC E c' x cs :=
 match h with
 | .bool b => .bool b
 | .int k n => .int k n
 | .str s => .str s
 | .nilp => .nilp
 | .ptr b g i p v h1 hb hle h => .ptr b g i p v h1 (e.A b hb) (fun m' hm => e.le hb hle hm) fun m' hm hg => h _ (e.at hb hle hm hg) hg
 | .laddr x k o cs ca t fz hI hw hx hwin => .laddr x k o cs ca t fz (e.I _ hI) ((e.keeps _ hI).trans hw) (hx.ext e) hwin
 | .nils a => .nils a
 | .lit0 a n => .lit0 a n
 | .lit xs T k o cap cs ca t fz hI hw hx hwin hcap => .lit xs T k o cap cs ca t fz (e.I _ hI) ((e.keeps _ hI).trans hw) (hx.ext e.pure) hwin hcap
 | .ref b g off len v h1 hb hle h => .ref b g off len v h1 (e.A b hb) (fun m' hm => e.le hb hle hm) fun m' hm hg => h _ (e.at hb hle hm hg) hg
 | .nilm => .nilm
 | .map b v h1 hb h => .map b v h1 (e.A b hb) fun m' hm hg => h _ (e.at (g := 0) hb (fun _ _ => Nat.zero_le _) hm hg) hg
 | .nilf => .nilf
 | .fn f first cap vs us h1 h2 => .fn f first cap vs us (h1.ext e) (h2.ext e)
 | .nili => .nili
 | .ifaceA t u fs cs h => .ifaceA t u fs cs (h.ext e)
 | .ifaceS t x v h1 h => .ifaceS t x v h1 (h.ext e)
 | .agg t fs cs h => .agg t fs cs (h.ext e)
theorem VCs.ext {E : Env} {c c' : Cx} {Ts : List TypeId} {xs : List PV} {cs : List Value} (h : VCs E c Ts xs cs) (e : Ext c c') : VCs E c' Ts xs cs :=
 match h with
 | .nil => .nil
 | .cons hf h hs => .cons hf (h.ext e) (hs.ext e)
theorem VL.ext {E : Env} {c c' : Cx} {xs : List PV} {vs : List Value} (h : VL E c xs vs) (e : Ext c c') : VL E c' xs vs :=
 match h with
 | .nil => .nil
 | .undef hs => .undef (hs.ext e)
 | .one h1 hn h hs => .one h1 hn (h.ext e) (hs.ext e)
 | .agg h hs => .agg (h.ext e) (hs.ext e)
 | .tup h hs => .tup (h.ext e) (hs.ext e)
end
end Go.Proofs.YtdplbgfokoajjaaGreat
end
section
set_option maxRecDepth 20000
set_option linter.unusedVariables false
set_option linter.unusedSimpArgs false
namespace Go.Proofs.YtdplbgfokoajjaaGreat
open Go
structure Env.Fine (E : Env) : Prop where
 scalar : ∀ T, E.agg T = false → E.size T = 1
 aggr : ∀ T, E.agg T = true → E.size T = ((E.lay T).map E.size).sum
mutual
theorem VC.one {E : Env} {c : Cx} {x : PV} {cs : List Value} (h : VC E c x cs) : ∀ v ∈ cs, v.oneCell' = true :=
 match h with
 | .bool b => by simp [Value.oneCell']
 | .int k n => by simp [Value.oneCell']
 | .str s => by simp [Value.oneCell']
 | .nilp => by simp [Value.oneCell']
 | .ptr b g i p v h1 _ _ _ => by simpa using h1
 | .laddr x k o cs ca t fz hI hw hx hwin => by simp [Value.oneCell']
 | .nils a => by simp [Value.oneCell']
 | .lit0 a n => by simp [Value.oneCell']
 | .lit xs T k o cap cs ca t fz hI hw hx hwin hcap => by simp [Value.oneCell']
 | .ref b g off len v h1 _ _ _ => by simpa using h1
 | .nilm => by simp [Value.oneCell']
 | .map b v h1 _ _ => by simpa using h1
 | .nilf => by simp [Value.oneCell']
 | .fn f first cap vs us h1 h2 => by simp [Value.oneCell']
 | .nili => by simp [Value.oneCell']
 | .ifaceA t u fs cs h => by simp [Value.oneCell']
 | .ifaceS t x v h1 h => by simp [Value.oneCell']
 | .agg t fs cs h => h.one
theorem VCs.one {E : Env} {c : Cx} {Ts : List TypeId} {xs : List PV} {cs : List Value} (h : VCs E c Ts xs cs) : ∀ v ∈ cs, v.oneCell' = true :=
 match h with
 | .nil => by simp
 | .cons hf h hs => fun v hv => (List.mem_append.1 hv).elim (h.one v) (hs.one v)
end
theorem VC.scalar {E : Env} {c : Cx} {x : PV} {cs : List Value} (h : VC E c x cs) (hn : ∀ t fs, x ≠ .agg t fs) : ∃ v, cs = [v] := by
 cases h <;> first | exact ⟨_, rfl⟩ | exact absurd rfl (hn _ _)
theorem fits_agg {E : Env} {T t : TypeId} {fs : List PV} (h : fits E T (.agg t fs) = true) : t = T ∧ E.agg T = true := by
 simpa [fits] using h
theorem fits_scalar {E : Env} {T : TypeId} {x : PV} (h : fits E T x = true) (hn : ∀ t fs, x ≠ .agg t fs) : E.agg T = false := by
 cases x <;> simp_all [fits]
mutual
theorem VC.len {E : Env} (F : E.Fine) {c : Cx} {x : PV} {cs : List Value} (h : VC E c x cs) : ∀ T, fits E T x = true → cs.length = E.size T :=
 match h with
 | .bool b => fun T hf => by rw [F.scalar T (fits_scalar hf (by simp))]; rfl
 | .int k n => fun T hf => by rw [F.scalar T (fits_scalar hf (by simp))]; rfl
 | .str s => fun T hf => by rw [F.scalar T (fits_scalar hf (by simp))]; rfl
 | .nilp => fun T hf => by rw [F.scalar T (fits_scalar hf (by simp))]; rfl
 | .ptr b g i p v h1 _ _ _ => fun T hf => by rw [F.scalar T (fits_scalar hf (by simp))]; rfl
 | .laddr x k o cs ca t fz hI hw hx hwin => fun T hf => by rw [F.scalar T (fits_scalar hf (by simp))]; rfl
 | .nils a => fun T hf => by rw [F.scalar T (fits_scalar hf (by simp))]; rfl
 | .lit0 a n => fun T hf => by rw [F.scalar T (fits_scalar hf (by simp))]; rfl
 | .lit xs T k o cap cs ca t fz hI hw hx hwin hcap => fun T hf => by rw [F.scalar T (fits_scalar hf (by simp))]; rfl
 | .ref b g off len v h1 _ _ _ => fun T hf => by rw [F.scalar T (fits_scalar hf (by simp))]; rfl
 | .nilm => fun T hf => by rw [F.scalar T (fits_scalar hf (by simp))]; rfl
 | .map b v h1 _ _ => fun T hf => by rw [F.scalar T (fits_scalar hf (by simp))]; rfl
 | .nilf => fun T hf => by rw [F.scalar T (fits_scalar hf (by simp))]; rfl
 | .fn f first cap vs us h1 h2 => fun T hf => by rw [F.scalar T (fits_scalar hf (by simp))]; rfl
 | .nili => fun T hf => by rw [F.scalar T (fits_scalar hf (by simp))]; rfl
 | .ifaceA t u fs cs h => fun T hf => by rw [F.scalar T (fits_scalar hf (by simp))]; rfl
 | .ifaceS t x v h1 h => fun T hf => by rw [F.scalar T (fits_scalar hf (by simp))]; rfl
 | .agg t fs cs h => fun T hf => by
   obtain ⟨rfl, ha⟩ := fits_agg hf
   rw [F.aggr _ ha]; exact h.len F
theorem VCs.len {E : Env} (F : E.Fine) {c : Cx} {Ts : List TypeId} {xs : List PV} {cs : List Value} (h : VCs E c Ts xs cs) : cs.length = (Ts.map E.size).sum :=
 match h with
 | .nil => rfl
 | .cons hf h hs => by simp [h.len F _ hf, hs.len F]
end
def LW (cs : List Value) (o : Nat) (ds : List Value) : Prop := ∀ j v, ds[j]? = some v → cs[o + j]? = some v
theorem LW.refl (cs : List Value) : LW cs 0 cs := fun j v h => by simpa using h
theorem LW.trans {as bs cs : List Value} {o p : Nat} (h : LW as o bs) (k : LW bs p cs) : LW as (o + p) cs := fun j v hv => by
 rw [Nat.add_assoc]; exact h _ _ (k _ _ hv)
theorem LW.mid (as bs cs : List Value) : LW (as ++ (bs ++ cs)) as.length bs := fun j v h => by
 have hj : j < bs.length := by
  rcases Nat.lt_or_ge j bs.length with h' | h'
  ·exact h'
  ·simp [List.getElem?_eq_none h'] at h
 rw [List.getElem?_append_right (by omega), Nat.add_sub_cancel_left, List.getElem?_append_left hj]
 exact h
theorem LW.win {ca : Array Value} {o p : Nat} {cs ds : List Value} (h : Win ca o cs) (k : LW cs p ds) : Win ca (o + p) ds := fun j v hv => by
 rw [Nat.add_assoc]; exact h _ _ (k _ _ hv)
theorem VCs.get {E : Env} (F : E.Fine) {c : Cx} : ∀ {Ts : List TypeId} {xs : List PV} {cs : List Value}, VCs E c Ts xs cs → ∀ (k : Nat) (y : PV), xs[k]? = some y →
  ∃ T ds, Ts[k]? = some T ∧ fits E T y = true ∧ VC E c y ds ∧ LW cs ((Ts.take k).map E.size).sum ds
 | _, _, _, .nil => fun k y h => by simp at h
 | T :: Ts, x :: xs, _, .cons (cs := cs) (ds := ds) hf h hs => fun k y hy => by
  cases k with
  | zero =>
   simp at hy; subst hy
   exact ⟨T, cs, by simp, hf, h, by simpa using LW.mid [] cs ds⟩
  | succ k =>
   obtain ⟨U, es, h1, h2, h3, h4⟩ := hs.get F k y (by simpa using hy)
   refine ⟨U, es, by simpa using h1, h2, h3, ?_⟩
   have e := h.len F _ hf
   have m := LW.mid cs ds []
   simp only [List.append_nil] at m
   have := m.trans h4
   simpa [e] using this
def getP : PV → List Nat → Option PV
 | x, [] => some x
 | .agg _ fs, k :: p => match fs[k]? with | some y => getP y p | none => none
 | _, _ :: _ => none
theorem VC.getP {E : Env} (F : E.Fine) {c : Cx} : ∀ (p : List Nat) {x y : PV} {cs : List Value} {T : TypeId}, VC E c x cs → fits E T x = true → getP x p = some y →
  ∃ ds U, VC E c y ds ∧ LW cs (pathOff E T p) ds ∧ typeAt E T p = some U ∧ fits E U y = true
 | [], x, y, cs, T, h, hf, hg => by
  simp [Proofs.YtdplbgfokoajjaaGreat.getP] at hg; subst hg
  exact ⟨cs, T, h, LW.refl cs, rfl, hf⟩
 | k :: p, x, y, cs, T, h, hf, hg => by
  cases x <;> simp [Proofs.YtdplbgfokoajjaaGreat.getP] at hg
  rename_i t fs
  obtain ⟨rfl, ha⟩ := fits_agg hf
  cases hk : fs[k]? with
  | none => simp [hk] at hg
  | some z =>
   simp [hk] at hg
   cases h with
   | agg _ _ _ h =>
    obtain ⟨U, ds, h1, h2, h3, h4⟩ := h.get F k z hk
    obtain ⟨es, W, k1, k2, k3, k4⟩ := VC.getP F p h3 h2 hg
    refine ⟨es, W, k1, ?_, ?_, k4⟩
    ·simp only [pathOff, offOf, List.getD, h1, Option.getD_some]
     exact h4.trans k2
    ·simp only [typeAt, ha, if_true, h1]; exact k3
def splice (cs : List Value) (o : Nat) (ds : List Value) : List Value := cs.take o ++ ds ++ cs.drop (o + ds.length)
theorem VCs.set {E : Env} (F : E.Fine) {c : Cx} : ∀ {Ts : List TypeId} {xs : List PV} {cs : List Value}, VCs E c Ts xs cs → ∀ (k : Nat) (T : TypeId) (y : PV) (ds : List Value), Ts[k]? = some T → fits E T y = true → VC E c y ds →
  VCs E c Ts (xs.set k y) (splice cs ((Ts.take k).map E.size).sum ds)
 | _, _, _, .nil => fun k T y ds h => by simp at h
 | T :: Ts, x :: xs, _, .cons (cs := cs) (ds := es) hf h hs => fun k U y ds hk hy hv => by
  have e := h.len F _ hf
  cases k with
  | zero =>
   simp at hk; subst hk
   have e' := hv.len F _ hy
   have := VCs.cons hy hv hs
   simpa [splice, e', ← e] using this
  | succ k =>
   have ih := hs.set F k U y ds (by simpa using hk) hy hv
   have := VCs.cons hf h ih
   simp only [splice, List.set_cons_succ, List.take_succ_cons, List.map_cons, List.sum_cons, ← e]
   simp only [splice] at this
   rw [List.take_append, List.drop_append]
   simp only [Nat.add_sub_cancel_left, List.append_assoc] at this ⊢
   rw [List.take_of_length_le (by omega), List.drop_eq_nil_of_le (by omega : cs.length ≤ cs.length + _ + ds.length)]
   simpa [Nat.add_assoc, Nat.add_sub_cancel_left] using this
def setP : PV → List Nat → PV → Option PV
 | _, [], v => some v
 | .agg t fs, k :: p, v => match fs[k]? with | some y => (setP y p v).map fun z => .agg t (fs.set k z) | none => none
 | _, _ :: _, _ => none
theorem splice_splice {cs ds es : List Value} {o p : Nat} (h : LW cs o ds) (hp : p + es.length ≤ ds.length) (ho : o + ds.length ≤ cs.length) :
  splice cs o (splice ds p es) = splice cs (o + p) es := by
 apply List.ext_getElem?
 intro j
 have hl : (splice ds p es).length = ds.length := by simp [splice]; omega
 simp only [splice, List.getElem?_append, List.length_append, List.length_take, List.length_drop, List.getElem?_take, List.getElem?_drop]
 rw [Nat.min_eq_left (by omega : o ≤ cs.length), Nat.min_eq_left (by omega : o + p ≤ cs.length), Nat.min_eq_left (by omega : p ≤ ds.length)]
 by_cases h1 : j < o
 ·simp [h1, show j < o + (p + es.length + (ds.length - (p + es.length))) by omega, show j < o + p + es.length by omega, show j < o + p by omega]
 ·by_cases h2 : j < o + p
  ·have h3 : (ds[j - o]?) = cs[j]? := by
    have : j - o < ds.length := by omega
    rw [List.getElem?_eq_getElem this]
    have := h (j - o) _ (List.getElem?_eq_getElem this)
    rw [show o + (j - o) = j by omega] at this
    exact this.symm
   simp [h1, h2, show j < o + (p + es.length + (ds.length - (p + es.length))) by omega, show j - o < p by omega, show j - o < p + es.length by omega, show j < o + p + es.length by omega, h3]
  ·by_cases h4 : j < o + p + es.length
   ·simp [h1, h2, h4, show j < o + (p + es.length + (ds.length - (p + es.length))) by omega, show ¬ j - o < p by omega, show j - o < p + es.length by omega, show j - o - p = j - (o + p) by omega]
   ·by_cases h5 : j < o + ds.length
    ·have h3 : (ds[j - o]?) = cs[j]? := by
      have : j - o < ds.length := by omega
      rw [List.getElem?_eq_getElem this]
      have := h (j - o) _ (List.getElem?_eq_getElem this)
      rw [show o + (j - o) = j by omega] at this
      exact this.symm
     simp [h1, h2, h4, show j < o + (p + es.length + (ds.length - (p + es.length))) by omega, show ¬ j - o < p by omega, show ¬ j - o < p + es.length by omega]
     rw [show p + es.length + (j - o - (p + es.length)) = j - o by omega, h3, show o + p + es.length + (j - (o + p + es.length)) = j by omega]
    ·simp [h1, h2, h4, show ¬ j < o + (p + es.length + (ds.length - (p + es.length))) by omega]
     congr 1; omega
theorem VCs.fit_len {E : Env} (F : E.Fine) {c : Cx} {Ts : List TypeId} {xs : List PV} {cs : List Value} (h : VCs E c Ts xs cs) {k : Nat} {T : TypeId} (hk : Ts[k]? = some T) :
  ((Ts.take k).map E.size).sum + E.size T ≤ cs.length := by
 rw [h.len F]
 clear h
 induction Ts generalizing k with
 | nil => simp at hk
 | cons U Us ih =>
  cases k with
  | zero => simp at hk; subst hk; simp
  | succ k => have := ih (k := k) (by simpa using hk); simp only [List.take_succ_cons, List.map_cons, List.sum_cons]; omega
theorem pathOff_le {E : Env} (F : E.Fine) : ∀ (p : List Nat) (T U : TypeId), typeAt E T p = some U → pathOff E T p + E.size U ≤ E.size T
 | [], T, U, h => by simp [typeAt] at h; subst h; simp [pathOff]
 | k :: p, T, U, h => by
  simp only [typeAt] at h
  split at h
  ·rename_i ha
   split at h
   ·rename_i u hu
    have ih := pathOff_le F p u U h
    simp only [pathOff, offOf, List.getD, hu, Option.getD_some]
    rw [F.aggr T ha]
    have : ∀ (Ts : List TypeId) (k : Nat), Ts[k]? = some u → ((Ts.take k).map E.size).sum + E.size u ≤ (Ts.map E.size).sum := by
     intro Ts
     induction Ts with
     | nil => intro k h; simp at h
     | cons V Vs ih =>
      intro k hk
      cases k with
      | zero => simp at hk; subst hk; simp
      | succ k => have := ih k (by simpa using hk); simp only [List.take_succ_cons, List.map_cons, List.sum_cons]; omega
    have := this _ _ hu
    omega
   ·simp at h
  ·simp at h
theorem VC.setP {E : Env} (F : E.Fine) {c : Cx} : ∀ (p : List Nat) {x v x' : PV} {cs ds : List Value} {T U : TypeId}, VC E c x cs → fits E T x = true → setP x p v = some x' → typeAt E T p = some U → fits E U v = true → VC E c v ds →
  VC E c x' (splice cs (pathOff E T p) ds) ∧ fits E T x' = true
 | [], x, v, x', cs, ds, T, U, h, hf, hs, ht, hv, hd => by
  simp [Proofs.YtdplbgfokoajjaaGreat.setP] at hs; subst hs
  simp [typeAt] at ht; subst ht
  have e1 := h.len F _ hf
  have e2 := hd.len F _ hv
  refine ⟨?_, hv⟩
  simp [splice, pathOff, e1, e2, List.drop_eq_nil_of_le]
  exact hd
 | k :: p, x, v, x', cs, ds, T, U, h, hf, hs, ht, hv, hd => by
  cases x <;> simp [Proofs.YtdplbgfokoajjaaGreat.setP] at hs
  rename_i t fs
  obtain ⟨rfl, ha⟩ := fits_agg hf
  cases hk : fs[k]? with
  | none => simp [hk] at hs
  | some y =>
   simp [hk] at hs
   obtain ⟨z, hz, rfl⟩ := hs
   cases h with
   | agg _ _ _ h =>
    obtain ⟨W, es, h1, h2, h3, h4⟩ := h.get F k y hk
    have ht' : typeAt E W p = some U := by simpa [typeAt, ha, h1] using ht
    obtain ⟨i1, i2⟩ := VC.setP F p h3 h2 hz ht' hv hd
    have le := pathOff_le F p W U ht'
    have l1 := h3.len F _ h2
    have l2 := hd.len F _ hv
    have fl := h.fit_len F h1
    refine ⟨.agg _ _ _ ?_, by simp [fits, ha]⟩
    have := h.set F k W z _ h1 i2 i1
    rw [splice_splice h4 (by omega) (by omega)] at this
    simpa only [pathOff, offOf, List.getD, h1, Option.getD_some] using this
def FW (r : Option Nat) : Fence := { Fence.wide with round := r }
def wpr (P : Program) (c : Code) (Q : Exit → Act → World → Prop) (a : Act) (w : World) : Prop := ∀ r, c.wpIn (FW r) 0 P Q a w
def opr (P : Program) (o : Oper) (a : Act) (w : World) (K : Act → World → Prop) (Q : Exit → Act → World → Prop) : Prop := ∀ r, o.wpIn (FW r) 0 P a w K Q
def wpl (P : Program) (ops : Array Oper) (Q : Exit → Act → World → Prop) (os : List Oper) (a : Act) (w : World) : Prop := ∀ r, wpListIn (FW r) 0 P ops Q os a w
section
variable {P : Program} {Q Q' : Exit → Act → World → Prop} {a : Act} {w : World}
theorem FW_room (r : Option Nat) (n : Nat) : (FW r).room n := fun _ h => by simp [FW, Fence.wide] at h
theorem FW_depth (r : Option Nat) : (FW r).depth.isSome = true → 1 ≤ 0 := fun h => by simp [FW, Fence.wide] at h
theorem wr_mono {c : Code} (h : wpr P c Q a w) (q : ∀ e a w, Q e a w → Q' e a w) : wpr P c Q' a w := fun r => wpIn_mono (h r) q
theorem wp_of_wr {c : Code} (h : wpr P c Q a w) : c.wp P Q a w := wpIn_wide.1 (h none)
theorem wr_skip (h : Q .normal a w) : wpr P .skip Q a w := fun _ => wpIn_skip h
theorem wr_ret (h : Q .ret a w) : wpr P .ret Q a w := fun _ => wpIn_ret h
theorem wr_exit {id : Nat} (h : Q (.exit id) a w) : wpr P (.exit id) Q a w := fun _ => wpIn_exit h
theorem wr_seq {x y : Code} (h : wpr P x (Exit.then (wpr P y Q) Q) a w) : wpr P (.seq x y) Q a w := fun r =>
 wpIn_seq (wpIn_mono (h r) fun e a w he => by cases e <;> first | exact he r | exact he)
theorem wr_cond_true {c : Operand} {x y : Code} (hc : a.eval c = .bool true) (h : wpr P x Q a w) : wpr P (.cond c x y) Q a w := fun r => wpIn_cond_true hc (h r)
theorem wr_cond_false {c : Operand} {x y : Code} (hc : a.eval c = .bool false) (h : wpr P y Q a w) : wpr P (.cond c x y) Q a w := fun r => wpIn_cond_false hc (h r)
theorem wr_block {id : Nat} {c : Code} (h : wpr P c (Exit.inBlock id Q) a w) : wpr P (.block id c) Q a w := fun r => wpIn_block (h r)
theorem calls_FW {f : FuncId} {args : Array Value} {R : Ending → World → Prop} (h : Calls P f args w R) (r : Option Nat) (n : Nat) : CallsIn (FW r) n P f args w R := (callsIn_wide (n := n)).2 h
theorem semAt_ok {ρ : Operand → Value} {o : Oper} {n : Next} {w w' : World} (h : (execOp ρ o).run P w = .ok n w') (hn : ∀ d, n ≠ .defer d) (r : Option Nat) : Oper.semAt r ρ o = execOp ρ o :=
 Oper.semAt_eq r ρ o fun c hc => by
  simp only [execOp, hc, Sem.run_bind] at h
  cases hr : (resolve ρ c o.type).run P w with
  | ok d w1 =>
   rw [hr] at h
   simp only [Result.andThen, Sem.run_pure, Result.ok.injEq] at h
   exact hn d h.1.symm
  | halt x w1 => rw [hr] at h; simp [Result.andThen] at h
theorem opr_value {o : Oper} {K : Act → World → Prop} {n : Next} {val : Value} {w' : World} (h1 : (execOp a.eval o).run P w = .ok n w') (h2 : n = .value val ∨ (n = .skip ∧ val = undef)) (h : K (a.put o.dst val) w') : opr P o a w K Q := fun r => by
 refine ⟨fun _ _ => trivial, ?_⟩
 rw [semAt_ok h1 (by rcases h2 with rfl | ⟨rfl, _⟩ <;> simp) _, h1]
 rcases h2 with rfl | ⟨rfl, rfl⟩ <;> exact h
theorem opr_enter {o : Oper} {K : Act → World → Prop} {g : FuncId} {us : Array Value} {w' : World} (h1 : (execOp a.eval o).run P w = .ok (.enter g us) w')
  (h : Calls P g us w' fun | .returned v, w'' => K (a.put o.dst v) w'' | .panicked chain, w'' => Q (.panic chain) a w'' | .outgrown, _ => LetsOut Q) : opr P o a w K Q := fun r => by
 refine ⟨fun _ _ => trivial, ?_⟩
 rw [semAt_ok h1 (by simp) _, h1]
 exact ⟨FW_depth r, calls_FW h r _⟩
theorem opr_mono {o : Oper} {K K' : Act → World → Prop} (hk : ∀ a w, K a w → K' a w) (hq : ∀ e a w, Q e a w → Q' e a w) (h : opr P o a w K Q) : opr P o a w K' Q' := fun r => by
 have hh := h r
 unfold Oper.wpIn at *
 refine ⟨hh.1, ?_⟩
 have hh := hh.2
 generalize (o.semAt (FW r).round a.eval).run P w = rr at *
 have hout : LetsOut Q → LetsOut Q' := fun ⟨a0, w0, h0⟩ => ⟨a0, w0, hq _ _ _ h0⟩
 cases rr with
 | ok x w' =>
  cases x <;> simp only [Oper.uponIn] at hh ⊢ <;>
   first
    | exact hk _ _ hh
    | exact ⟨hh.1, CallsIn.mono hh.2 (fun e w'' he => by cases e <;> first | exact hk _ _ he | exact hq _ _ _ he | exact hout he)⟩
    | exact ⟨hh.1, RowsIn.mono hh.2 (fun _ _ he => hk _ _ he)⟩
    | exact ⟨hh.1, RoundIn.mono hh.2 (fun e w'' he => by cases e <;> first | exact hk _ _ he | exact hq _ _ _ he | exact hout he)⟩
 | halt x w' => cases x <;> simp only [Oper.uponIn] at hh ⊢ <;> first | exact hq _ _ _ hh | exact hh
theorem wpl_nil {ops : Array Oper} (h : Q .normal a w) : wpl P ops Q [] a w := fun _ => h
theorem wpl_step {ops : Array Oper} {o : Oper} {os : List Oper} (h : if Region.wanted o (yielded ops a.tmps) then opr P o a w (wpl P ops Q os) Q else wpl P ops Q os (a.put o.dst undef) w) : wpl P ops Q (o :: os) a w := fun r => by
 unfold wpListIn
 split
 ·rename_i hw; rw [if_pos hw] at h
  exact Oper.wpIn_mono (fun a w k => k r) (h r)
 ·rename_i hw; rw [if_neg hw] at h
  exact ⟨fun _ _ => trivial, h r⟩
theorem wr_region_list {id : Nat} {ops : Array Oper} (h : wpl P ops Q ops.toList a w) : wpr P (.region id ops false) Q a w := fun r => wpIn_region_list (h r)
def wpo (P : Program) (ops : Array Oper) (Q : Exit → Act → World → Prop) (i : Nat) (K : Act → World → Prop) (a : Act) (w : World) : Prop :=
 match ops[i]? with
 | none => K a w
 | some o => if Region.wanted o (yielded ops a.tmps) then opr P o a w K Q else K (a.put o.dst undef) w
def wpa (P : Program) (md : Region.Mode) (ops : Array Oper) (Q : Exit → Act → World → Prop) : Nat → Array Bool → Act → World → Prop
 | 0, listed, a, w => Region.ready md ops listed = [] ∧ Q .normal a w
 | fuel + 1, listed, a, w => (Region.ready md ops listed = [] → Q .normal a w) ∧ ∀ i ∈ Region.ready md ops listed, wpo P ops Q i (wpa P md ops Q fuel (listed.setIfInBounds i true)) a w
theorem wpo_in {ops : Array Oper} {i : Nat} {K : Act → World → Prop} (h : wpo P ops Q i K a w) (r : Option Nat) : wpOpIn (FW r) 0 P ops Q i K a w := by
 unfold wpo at h
 unfold wpOpIn
 cases ho : ops[i]? with
 | none => rw [ho] at h; exact h
 | some o =>
  rw [ho] at h
  simp only at h ⊢
  split
  ·rename_i hw; rw [if_pos hw] at h; exact h r
  ·rename_i hw; rw [if_neg hw] at h; exact ⟨fun _ _ => trivial, h⟩
theorem wpa_in {md : Region.Mode} {ops : Array Oper} (r : Option Nat) : ∀ (fuel : Nat) (listed : Array Bool) (a : Act) (w : World), wpa P md ops Q fuel listed a w → wpAnyIn (FW r) 0 P md ops Q fuel listed a w
 | 0, listed, a, w, h => h
 | fuel + 1, listed, a, w, h => ⟨h.1, fun i hi => wpOpIn_mono (fun a w => wpa_in r fuel _ a w) (wpo_in (h.2 i hi) r)⟩
theorem wr_region_any {id : Nat} {ops : Array Oper} (hm : P.follows .mixedOrders = true) (h : wpa P .any ops Q ops.size (Array.replicate ops.size false) a { w with drawn := w.drawn + 1 }) : wpr P (.region id ops true) Q a w := fun r =>
 wpIn_region_any hm (wpa_in r _ _ _ _ h)
def HeadR (P : Program) (c : Code) (Q : Exit → Act → World → Prop) (a : Act) (w : World) : Prop :=
 ∀ (b : Frame) (k : List Item) (cs : List Frame), ∃ e a' w', Q e a' w' ∧ ArrivesIn (Machine.fenced P Fence.wide) P (lone (b.atR a (.code c :: .inLoop c :: k)) cs w) b k cs e a' w'
theorem wpr_at {c : Code} (h : wpr P c Q a w) (b : Frame) (k : List Item) (cs : List Frame) : ∃ e a' w', Q e a' w' ∧ ArrivesIn (Machine.fenced P Fence.wide) P (lone (b.atR a (.code c :: k)) cs w) b k cs e a' w' := h b.roundOf b k cs rfl trivial (FW_room _ _)
theorem wpr_of_at {c : Code} (h : ∀ (b : Frame) (k : List Item) (cs : List Frame), ∃ e a' w', Q e a' w' ∧ ArrivesIn (Machine.fenced P Fence.wide) P (lone (b.atR a (.code c :: k)) cs w) b k cs e a' w') : wpr P c Q a w := fun _ b k cs _ _ _ => h b k cs
theorem HeadR.mono {c : Code} (h : HeadR P c Q a w) (q : ∀ e a w, Q e a w → Q' e a w) : HeadR P c Q' a w :=
 fun b k cs => let ⟨e, a', w', hq, ha⟩ := h b k cs; ⟨e, a', w', q _ _ _ hq, ha⟩
theorem calmW {fr : Frame} {cs : List Frame} {w : World} : (lone fr cs w).fenced P Fence.wide := fenced_wide P _
theorem HeadR.round {c : Code} (h : wpr P c (Exit.then (HeadR P c Q) Q) a w) : HeadR P c Q a w := by
 intro b k cs
 obtain ⟨e, a₁, w₁, hq, harr⟩ := wpr_at h b (.inLoop c :: k) cs
 cases e with
 | normal =>
  obtain ⟨e₂, a₂, w₂, hq₂, harr₂⟩ := hq b k cs
  exact ⟨e₂, a₂, w₂, hq₂, .of_steps (StepsIn.trans harr (.one calmW stepR_inLoop)) harr₂⟩
 | exit id => exact ⟨_, a₁, w₁, hq, .pass (x := .inLoop c) rfl (fun _ _ => .inl (by simp)) harr⟩
 | goto l => exact ⟨_, a₁, w₁, hq, .pass (x := .inLoop c) rfl (fun _ _ => .inl (by simp)) harr⟩
 | ret => exact ⟨_, a₁, w₁, hq, .pass (x := .inLoop c) rfl (fun _ _ => .inl (by simp)) harr⟩
 | panic ch => exact ⟨_, a₁, w₁, hq, .pass (x := .inLoop c) rfl (fun _ _ => .inl (by simp)) harr⟩
 | outgrown => exact ⟨_, a₁, w₁, hq, .pass (x := .inLoop c) rfl (fun _ _ => .inl (by simp)) harr⟩
theorem HeadR.loop {c : Code} (h : HeadR P c Q a w) : wpr P (.loop c) Q a w := wpr_of_at fun b k cs =>
 let ⟨e, a', w', hq, harr⟩ := h b k cs; ⟨e, a', w', hq, .of_steps (.one calmW stepR_loop) harr⟩
end
def asHeld (v : Value) : Option (DataW Value × List MemPlace) := some (.held v, [])
inductive ML (E : Env) (c : Cx) : List (Lit × PV) → List (Lit × DataW Value) → Prop
 | nil : ML E c [] []
 | cons {k : Lit} {x : PV} {v : Value} {es : List (Lit × PV)} {ds : List (Lit × DataW Value)} (h : V E c x v) (hs : ML E c es ds) : ML E c ((k, x) :: es) ((k, .held v) :: ds)
theorem ML.ext {E : Env} {c c' : Cx} (e : Ext c c') {es : List (Lit × PV)} {ds : List (Lit × DataW Value)} (h : ML E c es ds) : ML E c' es ds := by
 induction h with
 | nil => exact .nil
 | cons h _ ih => exact .cons (VL.ext h e) ih
theorem ML.len {E : Env} {c : Cx} {es : List (Lit × PV)} {ds : List (Lit × DataW Value)} (h : ML E c es ds) : es.length = ds.length := by
 induction h with
 | nil => rfl
 | cons h _ ih => simp [ih]
def Free (ca : Array Value) (fz : Nat × Nat) : Prop := fz.1 = fz.2 ∨ ca.size ≤ fz.1
theorem Free.not {ca : Array Value} {fz : Nat × Nat} (h : Free ca fz) {o : Nat} (ho : o < ca.size) : ¬ (fz.1 ≤ o ∧ o < fz.2) := by unfold Free at h; omega
def Fr.get : Fr → Nat → Option PV
 | [], _ => none
 | (k, x) :: r, t => if k = t then some x else Fr.get r t
def FR (E : Env) (c : Cx) (N : Nat) (fr : Fr) (tmps : Array Value) : Prop :=
 tmps.size = N ∧ ∀ t x, Fr.get fr t = some x → t < N ∧ V E c x (tmps.getD t undef)
def FRA (E : Env) (c : Cx) (N : Nat) (fr : Fr) (tmps : Array Value) : Prop :=
 tmps.size = N ∧ ∀ p ∈ fr, p.1 < N ∧ V E c p.2 (tmps.getD p.1 undef)
def BlkOK (E : Env) (c : Cx) (m : MB) : Blk → Prop
 | .cells ty g xs => m.gen = g ∧ m.ty = ty ∧ ∃ ca e fz cs, c.w.heap[m.blk]? = some (.cells ca e fz) ∧ ca.size = m.cells ∧ VCs E c (List.replicate xs.length ty) xs cs ∧ Win ca m.base cs ∧
   m.base + cs.length ≤ ca.size ∧ Free ca fz
 | .mp K es => m.gen = 0 ∧ m.ty = K ∧ ∃ ds : List (Lit × DataW Value), c.w.ownsMap E.P K asHeld m.blk es.length (.map ds) ∧ ML E c es ds
 | .loop l st pend n fr ps assign body => m.gen = 0 ∧ m.blk = l ∧ ∃ fn tmps dl, c.w.heap[m.blk]? = some (.loop { state := st, pending := pend, fn := fn, tmps := tmps, params := ps, assign := assign, body := body, defers := dl }) ∧ FRA E c n fr tmps
structure Now (E : Env) (c : Cx) (σ : Store) : Prop where
 top : c.top ≤ σ.length
 A : ∀ b, c.A b → b < σ.length
 IF : ∀ k, c.I k → c.F k
 imm : ∀ k, c.F k → k < c.w.heap.size
 dom : ∀ b m, c.mu b = some m → ∃ blk, σ[b]? = some (some blk) ∧ m.blk < c.w.heap.size ∧ ¬ c.F m.blk ∧ BlkOK E c m blk
 live : ∀ b blk, σ[b]? = some (some blk) → c.A b ∧ ∃ m, c.mu b = some m
 inj : ∀ b b' m m', c.mu b = some m → c.mu b' = some m' → m.blk = m'.blk → b = b'
 base : ∀ b m, c.mu b = some m → m.gen = 0 → m.base = 0
structure Step (c c' : Cx) : Prop where
 ext : Ext c c'
 F : ∀ k, c.F k → c'.F k
 keeps : ∀ k, c.F k → c'.w.heap[k]? = c.w.heap[k]?
 grow : ∀ k, c'.I k → c.I k ∨ c.w.heap.size ≤ k ∨ ∃ b m, c.mu b = some m ∧ m.blk = k
 muold : ∀ b m', c'.mu b = some m' → c.w.heap.size ≤ m'.blk ∨ ∃ b m, c.mu b = some m ∧ m.blk = m'.blk
 top : c'.top = c.top
 new : ∀ b, c'.A b → c.A b ∨ c.top ≤ b
 size : c.w.heap.size ≤ c'.w.heap.size
 os : c'.w.os = c.w.os
 tape : c'.w.tape = c.w.tape
 output : c'.w.output = c.w.output
theorem Step.refl (c : Cx) : Step c c := ⟨Ext.refl c, fun _ h => h, fun _ _ => rfl, fun _ h => .inl h, fun b m h => .inr ⟨b, m, h, rfl⟩, rfl, fun _ h => .inl h, Nat.le_refl _, rfl, rfl, rfl⟩
theorem Step.trans {a b c : Cx} (h : Step a b) (k : Step b c) : Step a c :=
 ⟨h.ext.trans k.ext, fun i hi => k.F i (h.F i hi), fun i hi => (k.keeps i (h.F i hi)).trans (h.keeps i hi),
  fun i hi => by
   rcases k.grow i hi with h1 | h1 | ⟨x, m, h1, h2⟩
   ·exact h.grow i h1
   ·exact .inr (.inl (Nat.le_trans h.size h1))
   ·rcases h.muold x m h1 with h3 | ⟨y, m', h3, h4⟩
    ·exact .inr (.inl (h2 ▸ h3))
    ·exact .inr (.inr ⟨y, m', h3, h4.trans h2⟩),
  fun x m hx => by
   rcases k.muold x m hx with h1 | ⟨y, m', h1, h2⟩
   ·exact .inl (Nat.le_trans h.size h1)
   ·rcases h.muold y m' h1 with h3 | ⟨z, m'', h3, h4⟩
    ·exact .inl (h2 ▸ h3)
    ·exact .inr ⟨z, m'', h3, h4.trans h2⟩,
  k.top.trans h.top, fun b hb => by
   rcases k.new b hb with h1 | h1
   ·exact h.new b h1
   ·exact .inr (h.top ▸ h1),
  Nat.le_trans h.size k.size, k.os.trans h.os, k.tape.trans h.tape, k.output.trans h.output⟩
def Cx.below (c : Cx) (z : Nat) : Cx := { c with A := fun b => c.A b ∧ b < z }
theorem Step.ofBelow {c c' : Cx} (h : Step c c') {z : Nat} (hz : c.top ≤ z) : Step (c.below z) c' :=
 ⟨⟨h.ext.I, h.ext.keeps, fun b hb => h.ext.A b hb.1, fun b hb => h.ext.mu b hb.1⟩, h.F, h.keeps, h.grow, h.muold, h.top, fun b hb => by
  rcases h.new b hb with h1 | h1
  ·rcases Nat.lt_or_ge b z with h2 | h2
   ·exact .inl ⟨h1, h2⟩
   ·exact .inr (Nat.le_trans hz h2)
  ·exact .inr h1, h.size, h.os, h.tape, h.output⟩
theorem Step.toBelow {c c' : Cx} {z : Nat} (h : Step (c.below z) c') : Step (c.below z) (c'.below z) :=
 ⟨⟨h.ext.I, h.ext.keeps, fun b hb => ⟨h.ext.A b hb, hb.2⟩, h.ext.mu⟩, h.F, h.keeps, h.grow, h.muold, h.top, fun b hb => h.new b hb.1, h.size, h.os, h.tape, h.output⟩
theorem Step.transB {a b c : Cx} {z : Nat} (h : Step (a.below z) b) (k : Step (b.below z) c) : Step (a.below z) c := h.toBelow.trans k
theorem Step.topB {a b : Cx} {z : Nat} (h : Step (a.below z) b) : b.top = a.top := h.top
def Cx.label (c : Cx) (n : Nat) : Cx := { c with top := n }
theorem Step.relabel {c c' : Cx} {n : Nat} (h : Step (c.label n) c') (hn : c.top ≤ n) : Step c (c'.label c.top) :=
 ⟨⟨h.ext.I, h.ext.keeps, h.ext.A, h.ext.mu⟩, h.F, h.keeps, h.grow, h.muold, rfl, fun b hb => (h.new b hb).imp id (fun h => Nat.le_trans hn h), h.size, h.os, h.tape, h.output⟩
def Fr.put (fr : Fr) (d : Option Tmp) (v : PV) : Fr :=
 match d with
 | some d => (d, v) :: fr
 | none => fr
inductive Ex where
 | normal
 | exit (id : Nat)
 | ret
 | pan (v : PV)
def ExOK (E : Env) (c : Cx) : Ex → Exit → Prop
 | .normal, .normal => True
 | .exit i, .exit j => i = j
 | .ret, .ret => True
 | .pan x, .panic ch => ∃ v, ch = [{ v := v, recovered := false }] ∧ V E c x v
 | _, _ => False
abbrev Post := Ex → Fr → Store → Prop
def Lift (E : Env) (N z : Nat) (ds : List Deferred) (cx : Cx) (Q : Post) (e : Exit) (a' : Act) (w' : World) : Prop :=
 ∃ ex fr' σ' cx', cx'.w = w' ∧ Q ex fr' σ' ∧ ExOK E cx' ex e ∧ Now E cx' σ' ∧ FR E cx' N fr' a'.tmps ∧ a'.defers = ds ∧ Step (cx.below z) cx'
def T (E : Env) (N z : Nat) (c : Code) (Q : Post) (fr : Fr) (σ : Store) : Prop :=
 ∀ (cx : Cx) (a : Act), cx.top ≤ z → Now E cx σ → FR E cx N fr a.tmps → wpr E.P c (Lift E N z a.defers cx Q) a cx.w
inductive Re where
 | ret (x : PV)
 | pan (x : PV)
def ReOK (E : Env) (c : Cx) : Re → Ending → Prop
 | .ret x, .returned v => V E c x v
 | .pan x, .panicked ch => ∃ v, ch = [{ v := v, recovered := false }] ∧ V E c x v
 | _, _ => False
def C (E : Env) (f : FuncId) (args : List PV) (σ : Store) (R : Re → Store → Prop) : Prop :=
 ∀ (cx : Cx) (vs : Array Value), Now E cx σ → VL E cx args vs.toList →
  Calls E.P f vs cx.w fun e w' => ∃ re σ' cx', cx'.w = w' ∧ R re σ' ∧ ReOK E cx' re e ∧ Now E cx' σ' ∧ Step cx cx'
theorem Now.immI {E : Env} {c : Cx} {σ : Store} (h : Now E c σ) (k : Nat) (hk : c.I k) : k < c.w.heap.size := h.imm k (h.IF k hk)
theorem FR.step {E : Env} {c c' : Cx} {N : Nat} {fr : Fr} {tmps : Array Value} (h : FR E c N fr tmps) (s : Step c c') : FR E c' N fr tmps :=
 ⟨h.1, fun t x ht => ⟨(h.2 t x ht).1, (h.2 t x ht).2.ext s.ext⟩⟩
theorem Lift.step {E : Env} {N z : Nat} {ds : List Deferred} {c c' : Cx} {Q : Post} {e : Exit} {a : Act} {w : World} (s : Step (c.below z) c') (h : Lift E N z ds c' Q e a w) : Lift E N z ds c Q e a w := by
 obtain ⟨ex, fr, σ, c2, h1, h2, h3, h4, h5, h6, h7⟩ := h
 exact ⟨ex, fr, σ, c2, h1, h2, h3, h4, h5, h6, s.transB h7⟩
theorem Lift.mono {E : Env} {N z : Nat} {ds : List Deferred} {c : Cx} {Q Q' : Post} {e : Exit} {a : Act} {w : World} (q : ∀ e fr σ, Q e fr σ → Q' e fr σ) (h : Lift E N z ds c Q e a w) : Lift E N z ds c Q' e a w := by
 obtain ⟨ex, fr, σ, c2, h1, h2, h3, h4, h5, h6, h7⟩ := h
 exact ⟨ex, fr, σ, c2, h1, q _ _ _ h2, h3, h4, h5, h6, h7⟩
section
variable {E : Env} {N z : Nat} {Q Q' : Post} {fr : Fr} {σ : Store}
theorem T.mono {c : Code} (h : T E N z c Q fr σ) (q : ∀ e fr σ, Q e fr σ → Q' e fr σ) : T E N z c Q' fr σ :=
 fun cx a ht hn hf => wr_mono (h cx a ht hn hf) fun e a w => Lift.mono q
theorem C.mono {f : FuncId} {args : List PV} {R R' : Re → Store → Prop} (h : C E f args σ R) (q : ∀ re σ, R re σ → R' re σ) : C E f args σ R' :=
 fun cx vs hn hv => (h cx vs hn hv).mono fun e w ⟨re, σ', cx', h1, h2, h3⟩ => ⟨re, σ', cx', h1, q _ _ h2, h3⟩
theorem Lift.now {ds : List Deferred} {cx : Cx} {ex : Ex} {e : Exit} {a : Act} (ht : cx.top ≤ z) (hq : Q ex fr σ) (he : ExOK E cx ex e) (hn : Now E cx σ) (hf : FR E cx N fr a.tmps) (hd : a.defers = ds) :
  Lift E N z ds cx Q e a cx.w := ⟨ex, fr, σ, cx, rfl, hq, he, hn, hf, hd, (Step.refl cx).ofBelow ht⟩
theorem T_skip (h : Q .normal fr σ) : T E N z .skip Q fr σ := fun cx a ht hn hf => wr_skip (.now ht h (by simp [ExOK]) hn hf rfl)
theorem T_ret (h : Q .ret fr σ) : T E N z .ret Q fr σ := fun cx a ht hn hf => wr_ret (.now ht h (by simp [ExOK]) hn hf rfl)
theorem T_exit {id : Nat} (h : Q (.exit id) fr σ) : T E N z (.exit id) Q fr σ := fun cx a ht hn hf => wr_exit (.now ht h (by simp [ExOK]) hn hf rfl)
def Post.seq (K : Fr → Store → Prop) (Q : Post) : Post
 | .normal, fr, σ => K fr σ
 | e, fr, σ => Q e fr σ
@[simp] theorem Post.seq_normal (K : Fr → Store → Prop) : Post.seq K Q .normal fr σ = K fr σ := rfl
@[simp] theorem Post.seq_exit (K : Fr → Store → Prop) (i : Nat) : Post.seq K Q (.exit i) fr σ = Q (.exit i) fr σ := rfl
@[simp] theorem Post.seq_ret (K : Fr → Store → Prop) : Post.seq K Q .ret fr σ = Q .ret fr σ := rfl
@[simp] theorem Post.seq_pan (K : Fr → Store → Prop) (v : PV) : Post.seq K Q (.pan v) fr σ = Q (.pan v) fr σ := rfl
theorem Lift.then {ds : List Deferred} {cx : Cx} {K : Fr → Store → Prop} {M : Act → World → Prop} {e : Exit} {a : Act} {w : World}
  (hM : ∀ (cx' : Cx) (a' : Act) fr' σ', K fr' σ' → Now E cx' σ' → FR E cx' N fr' a'.tmps → a'.defers = ds → Step (cx.below z) cx' → M a' cx'.w)
  (h : Lift E N z ds cx (Post.seq K Q) e a w) : Exit.then M (Lift E N z ds cx Q) e a w := by
 obtain ⟨ex, fr', σ', cx', rfl, h2, h3, h4, h5, h6, h7⟩ := h
 cases ex <;> cases e <;> simp only [ExOK] at h3 <;> try exact h3.elim
 ·exact hM cx' a fr' σ' h2 h4 h5 h6 h7
 ·exact ⟨_, fr', σ', cx', rfl, h2, h3, h4, h5, h6, h7⟩
 ·exact ⟨_, fr', σ', cx', rfl, h2, trivial, h4, h5, h6, h7⟩
 ·exact ⟨_, fr', σ', cx', rfl, h2, h3, h4, h5, h6, h7⟩
theorem T_seq {x y : Code} (h : T E N z x (Post.seq (T E N z y Q) Q) fr σ) : T E N z (.seq x y) Q fr σ := fun cx a ht hn hf =>
 wr_seq (wr_mono (h cx a ht hn hf) fun e a' w' hl => Lift.then (fun cx' a'' fr' σ' hk hn' hf' hd hs => by
  rw [← hd]; exact wr_mono (hk cx' a'' (hs.topB ▸ ht) hn' hf') fun e a w => Lift.step hs) hl)
theorem Fr.eval_tmp {cx : Cx} {a : Act} {t : Nat} {x : PV} (hf : FR E cx N fr a.tmps) (h : Fr.get fr t = some x) : V E cx x (a.eval (.tmp t)) := (hf.2 t x h).2
theorem V.bool_inv {cx : Cx} {b : Bool} {v : Value} (h : V E cx (.bool b) v) : v = .bool b := by
 cases h with
 | one h1 hn h hs => cases h; rfl
theorem T_cond {t : Nat} {x y : Code} {b : Bool} (hg : Fr.get fr t = some (.bool b)) (h1 : b = true → T E N z x Q fr σ) (h2 : b = false → T E N z y Q fr σ) :
  T E N z (.cond (.tmp t) x y) Q fr σ := fun cx a ht hn hf => by
 have := V.bool_inv (Fr.eval_tmp hf hg)
 cases b with
 | true => exact wr_cond_true this (h1 rfl cx a ht hn hf)
 | false => exact wr_cond_false this (h2 rfl cx a ht hn hf)
def Post.block (id : Nat) (Q : Post) : Post
 | .exit i, fr, σ => if i = id then Q .normal fr σ else Q (.exit i) fr σ
 | e, fr, σ => Q e fr σ
@[simp] theorem Post.block_normal (id : Nat) : Post.block id Q .normal fr σ = Q .normal fr σ := rfl
@[simp] theorem Post.block_exit (id i : Nat) : Post.block id Q (.exit i) fr σ = (if i = id then Q .normal fr σ else Q (.exit i) fr σ) := rfl
@[simp] theorem Post.block_ret (id : Nat) : Post.block id Q .ret fr σ = Q .ret fr σ := rfl
@[simp] theorem Post.block_pan (id : Nat) (v : PV) : Post.block id Q (.pan v) fr σ = Q (.pan v) fr σ := rfl
theorem T_block {id : Nat} {c : Code} (h : T E N z c (Post.block id Q) fr σ) : T E N z (.block id c) Q fr σ := fun cx a ht hn hf =>
 wr_block (wr_mono (h cx a ht hn hf) fun e a' w' hl => by
  obtain ⟨ex, fr', σ', cx', rfl, h2, h3, h4, h5, h6, h7⟩ := hl
  cases ex <;> cases e <;> simp only [ExOK] at h3 <;> try exact h3.elim
  ·exact ⟨.normal, fr', σ', cx', rfl, h2, trivial, h4, h5, h6, h7⟩
  ·subst h3
   simp only [Post.block_exit] at h2
   simp only [Exit.inBlock]
   split <;> rename_i hi
   ·rw [if_pos hi] at h2
    exact ⟨.normal, fr', σ', cx', rfl, h2, trivial, h4, h5, h6, h7⟩
   ·rw [if_neg hi] at h2
    exact ⟨.exit _, fr', σ', cx', rfl, h2, rfl, h4, h5, h6, h7⟩
  ·exact ⟨.ret, fr', σ', cx', rfl, h2, trivial, h4, h5, h6, h7⟩
  ·exact ⟨.pan _, fr', σ', cx', rfl, h2, h3, h4, h5, h6, h7⟩)
def TL (E : Env) (N z : Nat) (c : Code) (Q : Post) (fr : Fr) (σ : Store) : Prop :=
 ∀ (cx : Cx) (a : Act), cx.top ≤ z → Now E cx σ → FR E cx N fr a.tmps → HeadR E.P c (Lift E N z a.defers cx Q) a cx.w
theorem T_loop {c : Code} (h : TL E N z c Q fr σ) : T E N z (.loop c) Q fr σ := fun cx a ht hn hf => (h cx a ht hn hf).loop
theorem TL_round {c : Code} (h : T E N z c (Post.seq (TL E N z c Q) Q) fr σ) : TL E N z c Q fr σ := fun cx a ht hn hf =>
 .round (wr_mono (h cx a ht hn hf) fun e a' w' hl => Lift.then (fun cx' a'' fr' σ' hk hn' hf' hd hs => by
  rw [← hd]; exact (hk cx' a'' (hs.topB ▸ ht) hn' hf').mono fun e a w => Lift.step hs) hl)
theorem TL.mono {c : Code} (h : TL E N z c Q fr σ) (q : ∀ e fr σ, Q e fr σ → Q' e fr σ) : TL E N z c Q' fr σ :=
 fun cx a ht hn hf => (h cx a ht hn hf).mono fun e a w => Lift.mono q
theorem Fr.get_mem : ∀ {fr : Fr} {t : Nat} {x : PV}, Fr.get fr t = some x → (t, x) ∈ fr
 | [], t, x, h => by simp [Fr.get] at h
 | (k, y) :: r, t, x, h => by
  simp only [Fr.get] at h
  split at h
  ·rename_i e; subst e
   simp only [Option.some.injEq] at h; subst h
   simp
  ·exact List.mem_cons_of_mem _ (Fr.get_mem h)
def Fr.keep (ts : List Nat) (fr : Fr) : Fr := ts.filterMap fun t => (Fr.get fr t).map fun x => (t, x)
theorem Fr.get_keep : ∀ (ts : List Nat) (fr : Fr) (t : Nat) (x : PV), Fr.get (Fr.keep ts fr) t = some x → Fr.get fr t = some x
 | [], fr, t, x, h => by simp [Fr.keep, Fr.get] at h
 | u :: ts, fr, t, x, h => by
  simp only [Fr.keep, List.filterMap_cons] at h
  cases hu : Fr.get fr u with
  | none => simp only [hu, Option.map_none] at h; exact Fr.get_keep ts fr t x h
  | some y =>
   simp only [hu, Option.map_some, Fr.get] at h
   split at h
   ·rename_i e; subst e; rw [hu]; exact h
   ·exact Fr.get_keep ts fr t x h
theorem FR.keep {cx : Cx} {tmps : Array Value} (ts : List Nat) (h : FR E cx N fr tmps) : FR E cx N (Fr.keep ts fr) tmps :=
 ⟨h.1, fun t x ht => h.2 t x (Fr.get_keep ts fr t x ht)⟩
theorem T_keep {c : Code} (ts : List Nat) (h : T E N z c Q (Fr.keep ts fr) σ) : T E N z c Q fr σ := fun cx a ht hn hf => h cx a ht hn (hf.keep ts)
theorem TL_keep {c : Code} (ts : List Nat) (h : TL E N z c Q (Fr.keep ts fr) σ) : TL E N z c Q fr σ := fun cx a ht hn hf => h cx a ht hn (hf.keep ts)
end
def mkv0 (E : Env) (T : TypeId) (cs : List Value) : Value := if E.agg T then .agg cs.toArray else cs.headD undef
def TDOK (E : Env) (T : TypeId) : TD → Prop
 | .bool => E.P.underlying T = some .bool
 | .int k => E.P.underlying T = some (.int k)
 | .str => E.P.underlying T = some .string
 | .ptr e => E.P.underlying T = some (.pointer e)
 | .slice e => E.P.underlying T = some (.slice e) ∧ E.kn e = true ∧ 0 < E.size e
 | .arr n e => E.P.underlying T = some (.array n e) ∧ E.lay T = List.replicate n e ∧ E.kn e = true ∧ 0 < E.size e
 | .map k e => E.P.underlying T = some (.map k e) ∧ E.kn k = true ∧ E.kn e = true
 | .st => ∃ fields, E.P.underlying T = some (.struct fields) ∧ fields.size = (E.lay T).length ∧
   ∀ k f, fields[k]? = some f → (E.lay T)[k]? = some f.type ∧ f.offset = offOf E T k ∧ E.kn f.type = true ∧ 0 < E.size f.type
 | .fn => ∃ ps rs v, E.P.underlying T = some (.func ps rs v)
 | .ifc => ∃ ms, E.P.underlying T = some (.interface ms)
 | .other => True
structure Env.OK (E : Env) : Prop extends E.Fine where
 info : ∀ T, E.kn T = true → ∃ i, E.P.info? T = some i ∧ i.size = E.size T ∧ i.bytes = E.bytes T
 und : ∀ T, E.kn T = true → ∃ d, E.P.underlying T = some d ∧ (E.agg T = match d with | .struct _ | .array _ _ => true | _ => false)
 td : ∀ T, E.kn T = true → TDOK E T (E.td T)
 zero : ∀ T, E.kn T = true → ∃ i z, E.P.info? T = some i ∧ i.zero = some z ∧ z = mkv0 E T z.cells.toList ∧ ∀ c, VC E c (E.zero T) z.cells.toList ∧ fits E T (E.zero T) = true
 fn : ∀ f, E.fk f = true → ∃ g, E.P.funcs[f]? = some g ∧ (g.name == "runtime.NumGoroutine") = false ∧ g.body.isNone = false
theorem V.int_inv {E : Env} {c : Cx} {k : IntKind} {n : Int} {v : Value} (h : V E c (.int k n) v) : v = .int k n := by
 cases h with | one h1 hn h hs => cases h; rfl
theorem V.str_inv {E : Env} {c : Cx} {s : ByteArray} {v : Value} (h : V E c (.str s) v) : v = .string s := by
 cases h with | one h1 hn h hs => cases h; rfl
theorem V.nilp_inv {E : Env} {c : Cx} {v : Value} (h : V E c .nilp v) : v = .pointer none := by
 cases h with | one h1 hn h hs => cases h; rfl
theorem V.agg_inv {E : Env} {c : Cx} {t : TypeId} {fs : List PV} {v : Value} (h : V E c (.agg t fs) v) : ∃ cs, v = .agg cs.toArray ∧ VC E c (.agg t fs) cs := by
 cases h with
 | one h1 hn h hs => exact absurd rfl (hn _ _)
 | agg h hs => exact ⟨_, rfl, h⟩
theorem V.ptr_inv {E : Env} {c : Cx} {b g i : Nat} {p : List Nat} {v : Value} (h : V E c (.ptr b g i p) v) :
  c.A b ∧ (∀ m, c.mu b = some m → g ≤ m.gen) ∧ ∀ m, c.mu b = some m → m.gen = g → v = .pointer (some ⟨m.blk, m.base + i * E.size m.ty + pathOff E m.ty p, none⟩) := by
 cases h with | one h1 hn h hs => cases h with | ptr _ _ _ _ _ _ hb hle h => exact ⟨hb, hle, h⟩
theorem V.laddr_inv {E : Env} {c : Cx} {x : PV} {v : Value} (h : V E c (.laddr x) v) :
  ∃ k o cs ca e fz, v = .pointer (some ⟨k, o, none⟩) ∧ c.I k ∧ c.w.heap[k]? = some (.cells ca e fz) ∧ VC E c x cs ∧ Win ca o cs := by
 cases h with | one h1 hn h hs => cases h with | laddr _ k o cs ca e fz hI hw hx hwin => exact ⟨k, o, cs, ca, e, fz, rfl, hI, hw, hx, hwin⟩
theorem V.ref_inv {E : Env} {c : Cx} {b g off len : Nat} {v : Value} (h : V E c (.ref b g off len) v) :
  c.A b ∧ (∀ m, c.mu b = some m → g ≤ m.gen) ∧ ∀ m, c.mu b = some m → m.gen = g → ∃ (a : Option Addr) (cap : Nat), v = .slice a len cap ∧ len ≤ cap ∧
    (cap = 0 ∨ (a = some ⟨m.blk, m.base + off * E.size m.ty, none⟩ ∧ m.base + (off + cap) * E.size m.ty ≤ m.cells)) := by
 cases h with | one h1 hn h hs => cases h with | ref _ _ _ _ _ _ hb hle h => exact ⟨hb, hle, h⟩
theorem V.nils_inv {E : Env} {c : Cx} {v : Value} (h : V E c .nils v) : ∃ a, v = .slice a 0 0 := by
 cases h with | one h1 hn h hs => cases h with | nils a => exact ⟨a, rfl⟩
theorem V.lit_inv {E : Env} {c : Cx} {xs : List PV} {v : Value} (h : V E c (.lit xs) v) :
  (xs = [] ∧ ∃ a n, v = .slice a 0 n) ∨ ∃ T k o cap cs ca e fz, v = .slice (some ⟨k, o, none⟩) xs.length cap ∧ c.I k ∧ c.w.heap[k]? = some (.cells ca e fz) ∧
   VCs E c.pure (List.replicate xs.length T) xs cs ∧ Win ca o cs ∧ xs.length ≤ cap := by
 cases h with | one h1 hn h hs => cases h with
  | lit0 a n => exact .inl ⟨rfl, a, n, rfl⟩
  | lit _ T k o cap cs ca e fz hI hw hx hwin hcap => exact .inr ⟨T, k, o, cap, cs, ca, e, fz, rfl, hI, hw, hx, hwin, hcap⟩
theorem V.tup_inv {E : Env} {c : Cx} {xs : List PV} {v : Value} (h : V E c (.tup xs) v) : ∃ us, v = .tuple us ∧ VL E c xs us.toList := by
 cases h with
 | one h1 hn h hs => cases h
 | tup h hs => exact ⟨_, rfl, h⟩
theorem V_undef {E : Env} {c : Cx} (v : Value) : V E c .undef v := .undef .nil
theorem V_one {E : Env} {c : Cx} {x : PV} {v : Value} (h : VC E c x [v]) (hn : ∀ t fs, x ≠ .agg t fs) : V E c x v := .one (h.one v (by simp)) hn h .nil
theorem V_agg {E : Env} {c : Cx} {t : TypeId} {fs : List PV} {cs : List Value} (h : VC E c (.agg t fs) cs) : V E c (.agg t fs) (.agg cs.toArray) := .agg h .nil
abbrev mkv := mkv0
theorem V_of_VC {E : Env} {c : Cx} {x : PV} {cs : List Value} {T : TypeId} (h : VC E c x cs) (hf : fits E T x = true) : V E c x (mkv E T cs) := by
 by_cases hx : ∃ t fs, x = .agg t fs
 ·obtain ⟨t, fs, rfl⟩ := hx
  obtain ⟨rfl, ha⟩ := fits_agg hf
  simp only [mkv, mkv0, ha, if_true]
  exact V_agg h
 ·have hn : ∀ t fs, x ≠ .agg t fs := fun t fs e => hx ⟨t, fs, e⟩
  obtain ⟨v, rfl⟩ := h.scalar hn
  simp only [mkv, mkv0, fits_scalar hf hn, Bool.false_eq_true, if_false, List.headD_cons]
  exact V_one h hn
theorem VC_of_V {E : Env} {c : Cx} {x : PV} {v : Value} {T : TypeId} (h : V E c x v) (hf : fits E T x = true) : VC E c x v.cells.toList := by
 cases h with
 | undef hs => simp [fits] at hf
 | one h1 hn h hs =>
  have : v.cells.toList = [v] := by cases v <;> first | rfl | simp [Value.oneCell'] at h1
  rw [this]; exact h
 | agg h hs => simpa [Value.cells] using h
 | tup h hs => simp [fits] at hf
def ofConst : Value → Option PV
 | .bool b => some (.bool b)
 | .int k n => some (.int k n)
 | .string s => some (.str s)
 | .pointer none => some .nilp
 | .slice none 0 0 => some .nils
 | .map none => some .nilm
 | .nilFunc => some .nilf
 | .nilIface => some .nili
 | .tuple ⟨[]⟩ => some (.tup [])
 | _ => none
def Fr.eval (fr : Fr) : Operand → Option PV
 | .tmp t => Fr.get fr t
 | .const v => ofConst v
 | .func f => some (.fn (.func f) [] [])
 | .global _ => none
theorem V_ofConst {E : Env} {c : Cx} {v : Value} {x : PV} (h : ofConst v = some x) : V E c x v := by
 unfold ofConst at h
 split at h <;> simp only [Option.some.injEq, reduceCtorEq] at h <;> subst h <;> first
  | exact V_one (by constructor) (by simp)
  | exact .tup .nil .nil
def Ev (E : Env) (c : Cx) (fr : Fr) (ρ : Operand → Value) : Prop := ∀ (x : Operand) (v : PV), Fr.eval fr x = some v → V E c v (ρ x)
theorem FR.ev {E : Env} {c : Cx} {N : Nat} {fr : Fr} {a : Act} (h : FR E c N fr a.tmps) : Ev E c fr a.eval := fun x v hx => by
 cases x with
 | tmp t => exact (h.2 t v hx).2
 | const u => exact V_ofConst hx
 | func f =>
  simp only [Fr.eval, Option.some.injEq] at hx; subst hx
  exact V_one (.fn _ _ _ _ _ .nil .nil) (by simp)
 | global g => simp [Fr.eval] at hx
def Yld (E : Env) (nid : Nat) (o : Oper) (fr : Fr) (σ : Store) (v : PV) (σ' : Store) : Prop :=
 ∀ (cx : Cx) (ρ : Operand → Value), Now E cx σ → Ev E cx fr ρ → ¬ cx.A nid → cx.top ≤ nid → ∃ n val w' cx', (execOp ρ o).run E.P cx.w = .ok n w' ∧ (n = .value val ∨ (n = .skip ∧ val = undef)) ∧ cx'.w = w' ∧
  Now E cx' σ' ∧ V E cx' v val ∧ Step cx cx' ∧ ∀ b, cx'.A b → cx.A b ∨ b = nid
def OpW (E : Env) (N z : Nat) (o : Oper) (Q : Post) (K : Fr → Store → Prop) (fr : Fr) (σ : Store) : Prop :=
 ∀ (cx : Cx) (a : Act), cx.top ≤ z → Now E cx σ → FR E cx N fr a.tmps → opr E.P o a cx.w
  (fun a' w' => ∃ fr' σ' cx', cx'.w = w' ∧ K fr' σ' ∧ Now E cx' σ' ∧ FR E cx' N fr' a'.tmps ∧ a'.defers = a.defers ∧ Step cx cx') (Lift E N z a.defers cx Q)
theorem FR.put {E : Env} {c : Cx} {N : Nat} {fr : Fr} {a : Act} {d : Option Tmp} {x : PV} {v : Value} (h : FR E c N fr a.tmps) (hv : V E c x v) (hd : ∀ t, d = some t → t < N) :
  FR E c N (Fr.put fr d x) (a.put d v).tmps := by
 cases d with
 | none => exact h
 | some d =>
  have hd := hd d rfl
  refine ⟨by simp [Act.put, h.1], fun t y ht => ?_⟩
  simp only [Fr.put, Fr.get] at ht
  split at ht
  ·rename_i e; subst e
   simp only [Option.some.injEq] at ht; subst ht
   refine ⟨hd, ?_⟩
   have : (a.put (some d) v).tmps.getD d undef = v := by simp [Act.put, Array.getD, h.1, hd]
   rw [this]; exact hv
  ·rename_i e
   have : (a.put (some d) v).tmps.getD t undef = a.tmps.getD t undef := by
    simp only [Act.put, Array.getD_eq_getD_getElem?, Array.getElem?_setIfInBounds]
    simp [e]
   rw [this]; exact h.2 t y ht
theorem OpW_yld {E : Env} {N z : Nat} {o : Oper} {Q : Post} {K : Fr → Store → Prop} {fr : Fr} {σ σ' : Store} {v : PV} {nid : Nat} (hnid : σ.length ≤ nid) (h : Yld E nid o fr σ v σ') (hd : ∀ t, o.dst = some t → t < N)
  (hk : K (Fr.put fr o.dst v) σ') : OpW E N z o Q K fr σ := fun cx a ht hn hf => by
 obtain ⟨n, val, w', cx', h1, h2, h3, h4, h5, h6, _⟩ := h cx a.eval hn hf.ev (fun hA => by have := hn.A nid hA; omega) (Nat.le_trans hn.top hnid)
 subst h3
 have : FR E cx' N (Fr.put fr o.dst v) (a.put o.dst val).tmps := (hf.step h6).put h5 hd
 exact opr_value h1 h2 ⟨_, _, cx', rfl, hk, h4, this, by cases o.dst <;> rfl, h6⟩
theorem Yld_pure {E : Env} {nid : Nat} {o : Oper} {fr : Fr} {σ : Store} {v : PV}
  (h : ∀ (cx : Cx) (ρ : Operand → Value), Now E cx σ → Ev E cx fr ρ → ∃ val, (execOp ρ o).run E.P cx.w = .ok (.value val) cx.w ∧ V E cx v val) : Yld E nid o fr σ v σ := fun cx ρ hn he _ _ => by
 obtain ⟨val, h1, h2⟩ := h cx ρ hn he
 exact ⟨_, val, _, cx, h1, .inl rfl, rfl, hn, h2, Step.refl cx, fun _ h => .inl h⟩
def Store.at (σ : Store) (b : Nat) : Option Blk := match σ[b]? with | some (some x) => some x | _ => none
def Store.new (σ : Store) (nid : Nat) (x : Blk) : Store := if nid < σ.length then σ.set nid (some x) else σ ++ List.replicate (nid - σ.length) none ++ [some x]
theorem Store.new_self (σ : Store) (b : Nat) (x : Blk) : (Store.new σ b x)[b]? = some (some x) := by
 unfold Store.new
 split
 ·rename_i h; simp [h]
 ·rw [List.getElem?_append_right (by simp; omega)]
  have : b - (σ ++ List.replicate (b - σ.length) (none : Option Blk)).length = 0 := by simp; omega
  rw [this]; rfl
theorem Store.new_other (σ : Store) (b : Nat) (x y : Blk) (c : Nat) (h : c ≠ b) : (Store.new σ b x)[c]? = some (some y) ↔ σ[c]? = some (some y) := by
 unfold Store.new
 split
 ·rw [List.getElem?_set_ne (fun e => h e.symm)]
 ·rcases Nat.lt_or_ge c σ.length with h1 | h1
  ·rw [List.append_assoc, List.getElem?_append_left h1]
  ·rw [List.getElem?_eq_none h1]
   simp only [reduceCtorEq, iff_false]
   intro hx
   rcases Nat.lt_or_ge c b with h2 | h2
   ·rw [List.getElem?_append_left (by simp; omega), List.getElem?_append_right h1, List.getElem?_replicate] at hx
    split at hx <;> simp at hx
   ·rw [List.getElem?_eq_none (by simp; omega)] at hx; simp at hx
theorem Store.new_len (σ : Store) (b : Nat) (x : Blk) : σ.length ≤ (Store.new σ b x).length ∧ b < (Store.new σ b x).length := by
 unfold Store.new
 split
 ·rename_i h; simp [h]
 ·simp; omega
theorem Store.at_some {σ : Store} {b : Nat} {x : Blk} (h : Store.at σ b = some x) : σ[b]? = some (some x) := by
 unfold Store.at at h
 split at h
 ·rename_i y hy; simp only [Option.some.injEq] at h; subst h; exact hy
 ·simp at h
theorem BlkOK.ext {E : Env} {c c' : Cx} {m : MB} {blk : Blk} (h : BlkOK E c m blk) (e : Ext c c') (hw : c'.w.heap[m.blk]? = c.w.heap[m.blk]?) : BlkOK E c' m blk := by
 cases blk with
 | cells ty g xs =>
  obtain ⟨h1, h2, ca, el, fz, cs, h3, h4, h5, h6, h7, h8⟩ := h
  exact ⟨h1, h2, ca, el, fz, cs, hw.trans h3, h4, h5.ext e, h6, h7, h8⟩
 | mp K es =>
  obtain ⟨h1, h2, vs, ⟨en, cl, h3, h4⟩, h5⟩ := h
  exact ⟨h1, h2, vs, ⟨en, cl, hw.trans h3, h4⟩, h5.ext e⟩
 | loop l st pend n fr ps as bd =>
  obtain ⟨h1, h2, fn, tmps, dl, h3, h4⟩ := h
  exact ⟨h1, h2, fn, tmps, dl, hw.trans h3, h4.1, fun p hp => ⟨(h4.2 p hp).1, (h4.2 p hp).2.ext e⟩⟩
def Cx.at (c : Cx) (w : World) (b : Nat) (m : MB) : Cx := { c with w := w, mu := fun x => if x = b then some m else c.mu x }
theorem Now.change {E : Env} {c : Cx} {σ : Store} (hn : Now E c σ) {b : Nat} {m m' : MB} (hm : c.mu b = some m) {w : World} (hsz : c.w.heap.size ≤ w.heap.size)
  (hsame : ∀ k, k ≠ m.blk → k < c.w.heap.size → w.heap[k]? = c.w.heap[k]?) (hos : w.os = c.w.os) (htape : w.tape = c.w.tape) (hout : w.output = c.w.output)
  (hgen : m.gen ≤ m'.gen) (hkeep : m'.gen = m.gen → m' = m) (hblk : m'.blk = m.blk ∨ c.w.heap.size ≤ m'.blk) (hlt : m'.blk < w.heap.size) {blk : Blk}
  (hok : Ext c (c.at w b m') → BlkOK E (c.at w b m') m' blk) : Now E (c.at w b m') (σ.set b (some blk)) ∧ Step c (c.at w b m') := by
 obtain ⟨blk0, hb0, hlt0, hI0, hok0⟩ := hn.dom b m hm
 have hbl : b < σ.length := by
  rcases Nat.lt_or_ge b σ.length with h | h
  ·exact h
  ·simp [List.getElem?_eq_none h] at hb0
 have hext : Ext c (c.at w b m') := by
  refine ⟨fun k h => h, fun k hk => hsame k (fun e => hI0 (e ▸ hn.IF k hk)) (hn.immI k hk), fun b h => h, fun x hx m2 h2 => ?_⟩
  simp only [Cx.at] at h2
  split at h2
  ·rename_i e; subst e
   simp only [Option.some.injEq] at h2; subst h2
   exact ⟨m, hm, hgen, hkeep⟩
  ·exact ⟨m2, h2, Nat.le_refl _, fun _ => rfl⟩
 refine ⟨⟨by rw [List.length_set]; exact hn.top, fun x hx => by simpa using hn.A x hx, hn.IF, fun k hk => Nat.lt_of_lt_of_le (hn.imm k hk) hsz, ?_, ?_, ?_, fun x mx hx hg => by
   simp only [Cx.at] at hx
   split at hx
   ·simp only [Option.some.injEq] at hx; subst hx
    have e := hkeep (by omega)
    rw [e] at hg ⊢
    exact hn.base b m hm hg
   ·exact hn.base x mx hx hg⟩, ⟨hext, fun _ h => h, fun k hk => hsame k (fun e => hI0 (e ▸ hk)) (hn.imm k hk), fun _ h => .inl h, ?_, rfl, fun _ h => .inl h, hsz, hos, htape, hout⟩⟩
 ·intro x mx hx
  simp only [Cx.at] at hx
  split at hx
  ·rename_i e; subst e
   simp only [Option.some.injEq] at hx; subst hx
   refine ⟨blk, by simp [hbl], hlt, ?_, hok hext⟩
   rcases hblk with h | h
   ·rw [h]; exact hI0
   ·exact fun hk => by have := hn.imm _ hk; omega
  ·rename_i e
   obtain ⟨blkx, h1, h2, h3, h4⟩ := hn.dom x mx hx
   refine ⟨blkx, by rw [List.getElem?_set_ne (fun h => e h.symm)]; exact h1, Nat.lt_of_lt_of_le h2 hsz, h3, h4.ext hext (hsame _ (fun h => e (hn.inj _ _ _ _ hx hm h)) h2)⟩
 ·intro x bx hx
  by_cases e : x = b
  ·subst e; exact ⟨(hn.live x blk0 hb0).1, m', by simp [Cx.at]⟩
  ·rw [List.getElem?_set_ne (fun h => e h.symm)] at hx
   obtain ⟨h1, m1, h2⟩ := hn.live x bx hx
   exact ⟨h1, m1, by simp [Cx.at, e, h2]⟩
 ·intro x y mx my hx hy he
  simp only [Cx.at] at hx hy
  split at hx <;> split at hy
  ·rename_i e1 e2; omega
  ·rename_i e1 e2
   simp only [Option.some.injEq] at hx; subst hx
   rcases hblk with h | h
   ·exact absurd (hn.inj _ _ _ _ hm hy (h.symm.trans he)) (fun h => e2 h.symm)
   ·obtain ⟨_, _, h2, _⟩ := hn.dom y my hy; omega
  ·rename_i e1 e2
   simp only [Option.some.injEq] at hy; subst hy
   rcases hblk with h | h
   ·exact absurd (hn.inj _ _ _ _ hx hm (he.trans h)) e1
   ·obtain ⟨_, _, h2, _⟩ := hn.dom x mx hx; omega
  ·exact hn.inj _ _ _ _ hx hy he
 ·intro x mx hx
  simp only [Cx.at] at hx
  split at hx
  ·simp only [Option.some.injEq] at hx; subst hx
   rcases hblk with h | h
   ·exact .inr ⟨b, m, hm, h.symm⟩
   ·exact .inl h
  ·exact .inr ⟨x, mx, hx, rfl⟩
def Cx.add (c : Cx) (w : World) (b : Nat) (m : MB) : Cx := { c with w := w, mu := fun x => if x = b then some m else c.mu x, A := fun x => c.A x ∨ x = b }
theorem Now.alloc {E : Env} {c : Cx} {σ : Store} (hn : Now E c σ) {b : Nat} (hA : ¬ c.A b) (htop : c.top ≤ b) {m : MB} {w : World} (hsz : c.w.heap.size ≤ w.heap.size)
  (hsame : ∀ k, k < c.w.heap.size → w.heap[k]? = c.w.heap[k]?) (hos : w.os = c.w.os) (htape : w.tape = c.w.tape) (hout : w.output = c.w.output)
  (hblk : c.w.heap.size ≤ m.blk) (hlt : m.blk < w.heap.size) {blk : Blk} (hok : Ext c (c.add w b m) → BlkOK E (c.add w b m) m blk) (hbase : m.gen = 0 → m.base = 0 := by intro _; rfl) :
  Now E (c.add w b m) (Store.new σ b blk) ∧ Step c (c.add w b m) := by
 have hdead : ∀ x, σ[b]? ≠ some (some x) := fun x h => hA (hn.live b x h).1
 have hmu : c.mu b = none := by
  cases h : c.mu b with
  | none => rfl
  | some m0 => obtain ⟨_, h1, _⟩ := hn.dom b m0 h; exact absurd h1 (hdead _)
 have hext : Ext c (c.add w b m) := by
  refine ⟨fun k h => h, fun k hk => hsame k (hn.immI k hk), fun b h => .inl h, fun x hx m2 h2 => ?_⟩
  simp only [Cx.add] at h2
  split at h2
  ·rename_i e; subst e; exact absurd hx hA
  ·exact ⟨m2, h2, Nat.le_refl _, fun _ => rfl⟩
 refine ⟨⟨Nat.le_trans hn.top (Store.new_len σ b blk).1, ?_, hn.IF, fun k hk => Nat.lt_of_lt_of_le (hn.imm k hk) hsz, ?_, ?_, ?_, fun x mx hx hg => by
   simp only [Cx.add] at hx
   split at hx
   ·simp only [Option.some.injEq] at hx; subst hx; exact hbase hg
   ·exact hn.base x mx hx hg⟩, ⟨hext, fun _ h => h, fun k hk => hsame k (hn.imm k hk), fun _ h => .inl h, ?_, rfl, fun x hx => by (rcases hx with h | h; exact .inl h; exact .inr (h ▸ htop)), hsz, hos, htape, hout⟩⟩
 ·rintro x (hx | rfl)
  ·exact Nat.lt_of_lt_of_le (hn.A x hx) (Store.new_len σ b blk).1
  ·exact (Store.new_len σ _ blk).2
 ·intro x mx hx
  simp only [Cx.add] at hx
  split at hx
  ·rename_i e; subst e
   simp only [Option.some.injEq] at hx; subst hx
   exact ⟨blk, Store.new_self _ _ _, hlt, fun hk => by have := hn.imm _ hk; omega, hok hext⟩
  ·rename_i e
   obtain ⟨blkx, h1, h2, h3, h4⟩ := hn.dom x mx hx
   exact ⟨blkx, (Store.new_other _ _ _ _ _ e).2 h1, Nat.lt_of_lt_of_le h2 hsz, h3, h4.ext hext (hsame _ h2)⟩
 ·intro x bx hx
  by_cases e : x = b
  ·subst e; exact ⟨.inr rfl, m, by simp [Cx.add]⟩
  ·obtain ⟨h1, m1, h2⟩ := hn.live x bx ((Store.new_other _ _ _ _ _ e).1 hx)
   exact ⟨.inl h1, m1, by simp [Cx.add, e, h2]⟩
 ·intro x y mx my hx hy he
  simp only [Cx.add] at hx hy
  split at hx <;> split at hy
  ·rename_i e1 e2; omega
  ·simp only [Option.some.injEq] at hx; subst hx
   obtain ⟨_, _, h2, _⟩ := hn.dom y my hy; omega
  ·simp only [Option.some.injEq] at hy; subst hy
   obtain ⟨_, _, h2, _⟩ := hn.dom x mx hx; omega
  ·exact hn.inj _ _ _ _ hx hy he
 ·intro x mx hx
  simp only [Cx.add] at hx
  split at hx
  ·simp only [Option.some.injEq] at hx; subst hx; exact .inl hblk
  ·exact .inr ⟨x, mx, hx, rfl⟩
section
variable {E : Env}
theorem run_isAgg (O : E.OK) {T : TypeId} (hk : E.kn T = true) (w : World) : (isAgg T).run E.P w = .ok (E.agg T) w := by
 obtain ⟨d, h1, h2⟩ := O.und T hk
 simp only [isAgg, Sem.run_bind, run_underlying h1, Result.andThen_ok]
 rw [h2]
 cases d <;> rfl
theorem run_size (O : E.OK) {T : TypeId} (hk : E.kn T = true) (w : World) : (sizeOf T).run E.P w = .ok (E.size T) w := by
 obtain ⟨i, h1, h2, _⟩ := O.info T hk
 simp [sizeOf, typeInfo, h1, h2]
theorem add_lit' (k o j : Nat) : (⟨k, o, none⟩ : Addr).add j = ⟨k, o + j, none⟩ := by
 unfold Addr.add; split <;> simp_all
theorem cell_of_win {w : World} {k o : Nat} {ca : Array Value} {e : TypeId} {fz : Nat × Nat} {cs : List Value} (hw : w.heap[k]? = some (.cells ca e fz)) (hwin : Win ca o cs) (j : Nat) (v : Value) (h : cs[j]? = some v) :
  w.cell? ((⟨k, o, none⟩ : Addr).add j) = some v := by
 rw [add_lit']
 simp [World.cell?, hw, hwin j v h]
theorem run_loadVar (O : E.OK) {T : TypeId} (hk : E.kn T = true) {w : World} {k o : Nat} {ca : Array Value} {e : TypeId} {fz : Nat × Nat} {cs : List Value} (hw : w.heap[k]? = some (.cells ca e fz))
  (hwin : Win ca o cs) (hl : cs.length = E.size T) : (loadVar T ⟨k, o, none⟩).run E.P w = .ok (mkv E T cs) w := by
 simp only [loadVar, Sem.run_bind, run_isAgg O hk, Result.andThen_ok]
 by_cases ha : E.agg T = true
 ·simp only [ha, if_true, Sem.run_bind, run_size O hk, Result.andThen_ok, ← hl, run_loadCells_list w _ cs (cell_of_win hw hwin), Sem.run_pure, mkv, mkv0]
 ·have ha' : E.agg T = false := by simpa using ha
  have : cs.length = 1 := by rw [hl, O.scalar T ha']
  obtain ⟨v, rfl⟩ : ∃ v, cs = [v] := by
   match cs, this with
   | [v], _ => exact ⟨v, rfl⟩
  have hc := cell_of_win hw hwin 0 v (by simp)
  rw [add_lit'] at hc
  simp only [Nat.add_zero] at hc
  simp [ha', run_load, hc, mkv, mkv0]
theorem run_storeCells_free (P : Program) (g o : Nat) (t : TypeId) (fz : Nat × Nat) : ∀ (vs : List Value) (i : Nat) (cur : Array Value) (w : World), w.heap[g]? = some (.cells cur t fz) → Free cur fz →
  o + i + vs.length ≤ cur.size → (∀ v ∈ vs, v.oneCell' = true) → (storeCells ⟨g, o, none⟩ vs i).run P w = .ok () (w.setRow g (splice cur.toList (o + i) vs).toArray)
 | [], i, cur, w, hg, _, _, _ => by
  simp only [storeCells, splice, List.append_nil, List.length_nil, Nat.add_zero, List.take_append_drop, Array.toArray_toList]
  rw [setRow_self w g cur t fz hg]
  rfl
 | v :: rest, i, cur, w, hg, hfz, hl, h1 => by
  have hi : o + i < cur.size := by simp at hl; omega
  have hcell : w.cell? ⟨g, o + i, none⟩ = some cur[o + i] := by simp [World.cell?, hg, hi]
  have hfro : w.frozen? ⟨g, o + i, none⟩ = false := by
   have := hfz.not hi
   obtain ⟨lo, hi'⟩ := fz
   simp only [World.frozen?, hg, Bool.and_eq_false_iff, decide_eq_false_iff_not]
   simp only at this
   omega
  have hst : (store ((⟨g, o, none⟩ : Addr).add i) v).run P w = .ok () (w.setRow g (cur.setIfInBounds (o + i) v)) := by
   rw [add_lit', run_store P w _ v _ (h1 v (by simp)), hcell]
   simp [hfro, setCell_eq_setRow w g (o + i) cur t fz v hg]
  have ih := run_storeCells_free P g o t fz rest (i + 1) (cur.setIfInBounds (o + i) v) (w.setRow g (cur.setIfInBounds (o + i) v)) (setRow_heap w g cur _ t _ hg)
   (by unfold Free at *; simpa using hfz) (by simp at hl ⊢; omega) (fun x hx => h1 x (by simp [hx]))
  simp only [storeCells, Sem.run_bind, hst, Result.andThen_ok, ih, setRow_setRow]
  congr 3
  have e := list_seg_step cur.toList (o + i) v rest (by simp at hl ⊢; omega)
  simpa [splice, Array.toList_setIfInBounds, Nat.add_assoc] using e
theorem run_storeVar (O : E.OK) {T : TypeId} (hk : E.kn T = true) {w : World} {k o : Nat} {ca : Array Value} {e : TypeId} {fz : Nat × Nat} {v : Value} {ds : List Value} (hw : w.heap[k]? = some (.cells ca e fz))
  (hfree : Free ca fz) (hv : v.cells.toList = ds) (hl : ds.length = E.size T) (hone : ∀ x ∈ ds, x.oneCell' = true) (hfit : o + ds.length ≤ ca.size) :
  (storeVar T ⟨k, o, none⟩ v).run E.P w = .ok () (w.setRow k (splice ca.toList o ds).toArray) := by
 have hs : v.cells.size = E.size T := by rw [← hl, ← hv]; simp
 simp only [storeVar, Sem.run_bind, run_size O hk, Result.andThen_ok, hs, ne_eq, not_true_eq_false, if_false, hv]
 have := run_storeCells_free E.P k o e fz ds 0 ca w hw hfree (by simpa using hfit) hone
 simpa using this
section
variable {E : Env} {σ : Store} {cx : Cx}
theorem ownsMap_n {H : Type} {w : World} {P : Program} {k : TypeId} {R : Value → Option (DataW H × List MemPlace)} {b n : Nat} {ds : List (Lit × DataW H)} (h : w.ownsMap P k R b n (.map ds)) : w.ownsMap P k R b ds.length (.map ds) := by
 obtain ⟨es, clock, hb, F, hs, hD⟩ := h
 refine ⟨es, clock, hb, F, ?_, hD⟩
 simp only [DataW.map.injEq] at hD
 rw [hD, length_sorted]; simp
theorem Now.mp (hn : Now E cx σ) {b K : Nat} {es : List (Lit × PV)} (hb : Store.at σ b = some (.mp K es)) {v : Value} (hv : V E cx (.map b) v) :
  ∃ m ds, cx.mu b = some m ∧ m.gen = 0 ∧ m.ty = K ∧ v = .map (some m.blk) ∧ cx.w.ownsMap E.P K asHeld m.blk ds.length (.map ds) ∧ ML E cx es ds := by
 obtain ⟨hA, m, hm⟩ := hn.live b _ (Store.at_some hb)
 obtain ⟨blk, h1, h2, h3, h4⟩ := hn.dom b m hm
 rw [Store.at_some hb] at h1; simp only [Option.some.injEq] at h1; subst h1
 obtain ⟨k1, k2, ds, k3, k4⟩ := h4
 refine ⟨m, ds, hm, k1, k2, ?_, ownsMap_n k3, k4⟩
 cases hv with | one _ _ h hs => cases h with | map _ _ _ _ h => exact h m hm k1
end
end
section
variable {E : Env} {cx : Cx} {σ : Store} {nid : Nat}
theorem rep_off (E : Env) (T : TypeId) (n i : Nat) (h : i ≤ n) : (((List.replicate n T).take i).map E.size).sum = i * E.size T := by
 rw [List.take_replicate, Nat.min_eq_left h, List.map_replicate, List.sum_replicate_nat]
theorem VCs.elem (F : E.Fine) {c : Cx} {xs : List PV} {cs : List Value} {T : TypeId} (h : VCs E c (List.replicate xs.length T) xs cs) {i : Nat} {y : PV} (hy : xs[i]? = some y) :
  ∃ ds, fits E T y = true ∧ VC E c y ds ∧ LW cs (i * E.size T) ds := by
 have hi : i < xs.length := by
  rcases Nat.lt_or_ge i xs.length with h' | h'
  ·exact h'
  ·simp [List.getElem?_eq_none h'] at hy
 obtain ⟨U, ds, h1, h2, h3, h4⟩ := h.get F i y hy
 simp only [List.getElem?_replicate, hi, if_true, Option.some.injEq] at h1
 subst h1
 rw [rep_off E T _ i (by omega)] at h4
 exact ⟨ds, h2, h3, h4⟩
theorem Now.blk (hn : Now E cx σ) {b ty g : Nat} {xs : List PV} (h : Store.at σ b = some (.cells ty g xs)) :
  ∃ m ca e fz cs, cx.mu b = some m ∧ m.gen = g ∧ m.ty = ty ∧ cx.w.heap[m.blk]? = some (.cells ca e fz) ∧ ca.size = m.cells ∧ VCs E cx (List.replicate xs.length ty) xs cs ∧ Win ca m.base cs ∧
   m.base + cs.length ≤ ca.size ∧ Free ca fz := by
 obtain ⟨_, m, hm⟩ := hn.live b _ (Store.at_some h)
 obtain ⟨blk, h1, h2, h3, h4⟩ := hn.dom b m hm
 rw [Store.at_some h] at h1
 simp only [Option.some.injEq] at h1; subst h1
 obtain ⟨k1, k2, ca, e, fz, cs, k3, k4, k5, k6, k7, k8⟩ := h4
 exact ⟨m, ca, e, fz, cs, hm, k1, k2, k3, k4, k5, k6, k7, k8⟩
def sLoad (E : Env) (T : TypeId) (x : PV) (σ : Store) : Option PV :=
 match x with
 | .ptr b g i p => match Store.at σ b with
  | some (.cells ty g' xs) => if g' = g then (match xs[i]? with | some e => (match getP e p with | some y => if fits E T y then some y else none | none => none) | none => none) else none
  | _ => none
 | .laddr y => if fits E T y then some y else none
 | _ => none
theorem Now.place (O : E.OK) (hn : Now E cx σ) {b g i ty : Nat} {p : List Nat} {xs : List PV} {e : PV} {val : Value} (hv : V E cx (.ptr b g i p) val) (hb : Store.at σ b = some (.cells ty g xs)) (he : xs[i]? = some e) :
  ∃ m ca el fz cs ds, cx.mu b = some m ∧ m.gen = g ∧ m.ty = ty ∧ cx.w.heap[m.blk]? = some (.cells ca el fz) ∧ ca.size = m.cells ∧ VCs E cx (List.replicate xs.length ty) xs cs ∧ Win ca m.base cs ∧
   m.base + cs.length ≤ ca.size ∧ Free ca fz ∧ fits E ty e = true ∧ VC E cx e ds ∧ LW cs (i * E.size ty) ds ∧ val = .pointer (some ⟨m.blk, m.base + i * E.size ty + pathOff E ty p, none⟩) := by
 obtain ⟨m, ca, el, fz, cs, h1, h2, h3, h4, h5, h6, h7, h8, h9⟩ := hn.blk hb
 obtain ⟨_, _, k⟩ := hv.ptr_inv
 obtain ⟨ds, j1, j2, j3⟩ := h6.elem O.toFine he
 have := k m h1 h2
 rw [h3] at this
 exact ⟨m, ca, el, fz, cs, ds, h1, h2, h3, h4, h5, h6, h7, h8, h9, j1, j2, j3, this⟩
theorem load_ok (O : E.OK) (hn : Now E cx σ) {T : TypeId} (hk : E.kn T = true) {x v : PV} {val : Value} (hx : V E cx x val) (h : sLoad E T x σ = some v) :
  ∃ u, (Instr.loadAt T val).run E.P cx.w = .ok u cx.w ∧ V E cx v u := by
 unfold sLoad at h
 split at h
 ·rename_i b g i p
  split at h
  ·rename_i ty g' xs hb
   split at h
   ·rename_i hg; subst hg
    split at h
    ·rename_i e he
     split at h
     ·rename_i y hy
      split at h
      ·rename_i hf
       simp only [Option.some.injEq] at h; subst h
       obtain ⟨m, ca, el, fz, cs, ds, h1, h2, h3, h4, h5, h6, h7, h8, h9, j1, j2, j3, rfl⟩ := hn.place O hx hb he
       obtain ⟨es, U, k1, k2, k3, k4⟩ := VC.getP O.toFine p j2 j1 hy
       have hw := LW.win h7 (j3.trans k2)
       rw [← Nat.add_assoc] at hw
       refine ⟨_, ?_, V_of_VC k1 hf⟩
       simp only [Instr.loadAt, Instr.sureAddr, Sem.run_bind, Sem.run_pure, Result.andThen_ok]
       exact run_loadVar O hk h4 hw (k1.len O.toFine _ hf)
      ·simp at h
     ·simp at h
    ·simp at h
   ·simp at h
  ·simp at h
 ·rename_i y
  split at h
  ·rename_i hf
   simp only [Option.some.injEq] at h; subst h
   obtain ⟨k, o, cs, ca, e, fz, rfl, hI, hw, hc, hwin⟩ := hx.laddr_inv
   have hc' : VC E cx y cs := hc
   refine ⟨_, ?_, V_of_VC hc' hf⟩
   simp only [Instr.loadAt, Instr.sureAddr, Sem.run_bind, Sem.run_pure, Result.andThen_ok]
   exact run_loadVar O hk hw hwin (hc'.len O.toFine _ hf)
  ·simp at h
 ·simp at h
theorem Y_load (O : E.OK) {o : Oper} {T : TypeId} {x : Operand} {fr : Fr} {xv v : PV} (ho : o.op = .load T x) (hx : Fr.eval fr x = some xv) (hk : E.kn T = true) (h : sLoad E T xv σ = some v) : Yld E nid o fr σ v σ :=
 Yld_pure fun cx ρ hn he => by
  obtain ⟨u, h1, h2⟩ := load_ok O hn hk (he x xv hx) h
  exact ⟨u, by simp [execOp, ho, h1], h2⟩
def sStore (E : Env) (T : TypeId) (x v : PV) (σ : Store) : Option Store :=
 match x with
 | .ptr b g i p => match Store.at σ b with
  | some (.cells ty g' xs) => if g' = g then (match xs[i]? with | some e => (match setP e p v with
    | some e' => if fits E T v && (typeAt E ty p == some T) then some (σ.set b (some (.cells ty g (xs.set i e')))) else none | none => none) | none => none) else none
  | _ => none
 | _ => none
theorem Win_splice {ca : Array Value} {o p : Nat} {cs ds : List Value} (h : Win ca o cs) (hp : p + ds.length ≤ cs.length) (ho : o + cs.length ≤ ca.size) :
  Win (splice ca.toList (o + p) ds).toArray o (splice cs p ds) := by
 intro j v hv
 have hw : LW ca.toList o cs := fun j v h' => by simpa using h j v h'
 have e := splice_splice (es := ds) hw hp (by simpa using ho)
 rw [← e]
 have hlen : (splice cs p ds).length = cs.length := by simp [splice]; omega
 have := LW.mid (ca.toList.take o) (splice cs p ds) (ca.toList.drop (o + (splice cs p ds).length)) j v hv
 have hl : (ca.toList.take o).length = o := by simp; omega
 rw [hl] at this
 simpa [splice] using this
theorem splice_length {cs ds : List Value} {o : Nat} (h : o + ds.length ≤ cs.length) : (splice cs o ds).length = cs.length := by simp [splice]; omega
theorem store_ok (O : E.OK) (hn : Now E cx σ) {T : TypeId} (hk : E.kn T = true) {x v : PV} {σ' : Store} {val u : Value} (hx : V E cx x val) (hv : V E cx v u) (h : sStore E T x v σ = some σ') :
  ∃ w' cx', (Instr.storeAt T val u).run E.P cx.w = .ok () w' ∧ cx'.w = w' ∧ Now E cx' σ' ∧ Step cx cx' ∧ ∀ b, cx'.A b → cx.A b := by
 unfold sStore at h
 split at h
 ·rename_i b g i p
  split at h
  ·rename_i ty g' xs hb
   split at h
   ·rename_i hg; subst hg
    split at h
    ·rename_i e he
     split at h
     ·rename_i e' hy
      split at h
      ·rename_i hf
       simp only [Bool.and_eq_true, beq_iff_eq] at hf
       obtain ⟨hf, ht⟩ := hf
       simp only [Option.some.injEq] at h; subst h
       obtain ⟨m, ca, el, fz, cs, ds, h1, h2, h3, h4, h5, h6, h7, h8, h9, j1, j2, j3, rfl⟩ := hn.place O hx hb he
       have hvc := VC_of_V hv hf
       have l1 := hvc.len O.toFine _ hf
       have l1' : u.cells.size = E.size T := by simpa using l1
       have l2 := j2.len O.toFine _ j1
       have l3 := pathOff_le O.toFine p ty T ht
       obtain ⟨s1, s2⟩ := VC.setP O.toFine p j2 j1 hy ht hf hvc
       have hi : i < xs.length := by
        rcases Nat.lt_or_ge i xs.length with h' | h'
        ·exact h'
        ·simp [List.getElem?_eq_none h'] at he
       have hrep : (List.replicate xs.length ty)[i]? = some ty := by simp [List.getElem?_replicate, hi]
       have fl := h6.fit_len O.toFine hrep
       rw [rep_off E ty _ i (by omega)] at fl
       have s3 := h6.set O.toFine i ty e' _ hrep s2 s1
       rw [rep_off E ty _ i (by omega), splice_splice j3 (by omega) (by omega)] at s3
       have hrun := run_storeVar (o := m.base + (i * E.size ty + pathOff E ty p)) O hk h4 h9 (v := u) (ds := u.cells.toList) rfl l1 (hvc.one) (by omega)
       have hblk : m.blk < cx.w.heap.size := by obtain ⟨_, _, h, _⟩ := hn.dom b m h1; exact h
       have hlenS : ((splice ca.toList (m.base + (i * E.size ty + pathOff E ty p)) u.cells.toList).toArray).size = ca.size := by
        simp only [List.size_toArray]; rw [splice_length (by simp; omega)]; simp
       obtain ⟨hn', hs'⟩ := hn.change (m' := m) h1 (w := cx.w.setRow m.blk (splice ca.toList (m.base + (i * E.size ty + pathOff E ty p)) u.cells.toList).toArray) (by simp) (fun k hk _ => setRow_other _ _ _ _ hk) rfl rfl rfl
        (Nat.le_refl _) (fun _ => rfl) (.inl rfl) (by simpa using hblk) (blk := .cells ty g' (xs.set i e')) (fun ext => by
         refine ⟨h2, h3, _, el, fz, splice cs (i * E.size ty + pathOff E ty p) u.cells.toList, setRow_heap _ _ _ _ _ _ h4, hlenS.trans h5, ?_, Win_splice h7 (by omega) h8, ?_, ?_⟩
         ·rw [List.length_set]; exact s3.ext ext
         ·rw [splice_length (by omega), hlenS]; exact h8
         ·unfold Free at *; rw [hlenS]; exact h9)
       refine ⟨_, _, ?_, rfl, hn', hs', fun _ h => h⟩
       simp only [Instr.storeAt, Instr.sureAddr, Sem.run_bind, Sem.run_pure, Result.andThen_ok]
       rw [Nat.add_assoc]
       exact hrun
      ·simp at h
     ·simp at h
    ·simp at h
   ·simp at h
  ·simp at h
 ·simp at h
theorem Y_store (O : E.OK) {o : Oper} {T : TypeId} {x y : Operand} {fr : Fr} {xv yv : PV} {σ' : Store} (ho : o.op = .store T x y) (hx : Fr.eval fr x = some xv) (hy : Fr.eval fr y = some yv) (hk : E.kn T = true)
  (h : sStore E T xv yv σ = some σ') : Yld E nid o fr σ .undef σ' := fun cx ρ hn he hnid htop => by
 obtain ⟨w', cx', h1, h2, h3, h4, h5⟩ := store_ok O hn hk (he x xv hx) (he y yv hy) h
 exact ⟨.skip, undef, w', cx', by simp [execOp, ho, h1], .inr ⟨rfl, rfl⟩, h2, h3, V_undef _, h4, fun b hb => .inl (h5 b hb)⟩
theorem heap_alloc_old' (w : World) (o : Obj) (k : Nat) (h : k < w.heap.size) : (w.alloc o).heap[k]? = w.heap[k]? := by
 unfold World.alloc
 simp only [Array.getElem?_push, if_neg (Nat.ne_of_lt h)]
theorem heap_alloc_new' (w : World) (o : Obj) : (w.alloc o).heap[w.heap.size]? = some o := by unfold World.alloc; simp
theorem new_ok (hn : Now E cx σ) {nid : Nat} (hb : ¬ cx.A nid) (htop : cx.top ≤ nid) {T el : TypeId} {xs : List PV} {ca : Array Value} {cs : List Value} (hc : VCs E cx (List.replicate xs.length T) xs cs) (hwin : Win ca 0 cs) (hl : cs.length ≤ ca.size) :
  ∃ cx', cx'.w = cx.w.alloc (.cells ca el) ∧ Now E cx' (Store.new σ nid (.cells T 0 xs)) ∧ Step cx cx' ∧
   cx'.mu nid = some ⟨cx.w.heap.size, 0, 0, T, ca.size⟩ ∧ cx'.A nid ∧ ∀ b, cx'.A b → cx.A b ∨ b = nid := by
 obtain ⟨h1, h2⟩ := hn.alloc hb htop (m := ⟨cx.w.heap.size, 0, 0, T, ca.size⟩) (w := cx.w.alloc (.cells ca el)) (by simp) (fun k hk => heap_alloc_old' _ _ _ hk) rfl rfl rfl (Nat.le_refl _) (by simp)
  (blk := .cells T 0 xs) (fun ext => by
   refine ⟨rfl, rfl, ca, el, (0, 0), cs, heap_alloc_new' _ _, rfl, hc.ext ext, hwin, by simpa using hl, ?_⟩
   exact .inl rfl)
 exact ⟨_, rfl, h1, h2, by simp [Cx.add], .inr rfl, fun _ h => h⟩
theorem Win_self (cs : List Value) : Win cs.toArray 0 cs := fun j v h => by simpa using h
theorem V_newptr {c : Cx} {nid : Nat} {m : MB} (hA : c.A nid) (hm : c.mu nid = some m) (hg : m.gen = 0) (hb : m.base = 0) : V E c (.ptr nid 0 0 []) (.pointer (some ⟨m.blk, 0, none⟩)) :=
 V_one (.ptr _ _ _ _ _ rfl hA (fun m' h => by omega) (fun m' h _ => by rw [hm] at h; simp only [Option.some.injEq] at h; subst h; simp [pathOff, hb])) (by simp)
theorem Y_box (O : E.OK) {o : Oper} {T : TypeId} {x : Operand} {fr : Fr} {xv : PV}  (ho : o.op = .box T x) (hx : Fr.eval fr x = some xv) (hf : fits E T xv = true) :
  Yld E nid o fr σ (.ptr nid 0 0 []) (Store.new σ nid (.cells T 0 [xv])) := fun cx ρ hn he hnid htop => by
 have hv := VC_of_V (he x xv hx) hf
 obtain ⟨cx', h1, h2, h3, h4, h5, h6⟩ := new_ok (el := T) (xs := [xv]) (T := T) (ca := (ρ x).cells) (cs := (ρ x).cells.toList) hn hnid htop (by simpa using VCs.cons hf hv .nil) (fun j v h => by simpa using h) (by simp)
 refine ⟨.value (.pointer (some ⟨cx.w.heap.size, 0, none⟩)), _, _, cx', ?_, .inl rfl, h1, h2, V_newptr h5 h4 rfl rfl, h3, h6⟩
 simp [execOp, ho, Instr.box, newVar, newRow]
theorem Y_alloc (O : E.OK) {o : Oper} {T : TypeId} {fr : Fr}  (ho : o.op = .alloc T) (hk : E.kn T = true) :
  Yld E nid o fr σ (.ptr nid 0 0 []) (Store.new σ nid (.cells T 0 [E.zero T])) := fun cx ρ hn he hnid htop => by
 obtain ⟨i, z, h1, h2, h3, h4⟩ := O.zero T hk
 obtain ⟨hv, hf⟩ := h4 cx
 obtain ⟨cx', k1, k2, k3, k4, k5, k6⟩ := new_ok (el := T) (xs := [E.zero T]) (T := T) (ca := z.cells) (cs := z.cells.toList) hn hnid htop (by simpa using VCs.cons hf hv .nil) (fun j v h => by simpa using h) (by simp)
 refine ⟨.value (.pointer (some ⟨cx.w.heap.size, 0, none⟩)), _, _, cx', ?_, .inl rfl, k1, k2, V_newptr k5 k4 rfl rfl, k3, k6⟩
 simp [execOp, ho, Instr.alloc, newVar, newRow, zeroValue, typeInfo, h1, h2]
def sFieldAddr (E : Env) (T : TypeId) (x : PV) (k : Nat) (σ : Store) : Option PV :=
 match x with
 | .ptr b g i p => match Store.at σ b with
  | some (.cells ty g' xs) => if g' = g ∧ typeAt E ty p = some T ∧ k < (E.lay T).length then some (.ptr b g i (p ++ [k])) else none
  | _ => none
 | .laddr (.agg t fs) => if t = T then (match fs[k]? with | some y => some (.laddr y) | none => none) else none
 | _ => none
theorem pathOff_snoc (E : Env) : ∀ (p : List Nat) (ty T : TypeId) (k : Nat), typeAt E ty p = some T → pathOff E ty (p ++ [k]) = pathOff E ty p + offOf E T k
 | [], ty, T, k, h => by simp [typeAt] at h; subst h; simp [pathOff]
 | j :: p, ty, T, k, h => by
  simp only [typeAt] at h
  split at h
  ·split at h
   ·rename_i u hu
    simp only [List.cons_append, pathOff, List.getD, hu, Option.getD_some]
    rw [pathOff_snoc E p u T k h]; omega
   ·simp at h
  ·simp at h
theorem fieldAt_run (O : E.OK) {T : TypeId} {k : Nat} (hk : E.kn T = true) (hs : E.td T = .st) (hl : k < (E.lay T).length) (w : World) (b o : Nat) :
  (Instr.fieldAt T (.pointer (some ⟨b, o, none⟩)) k).run E.P w = .ok (.pointer (some ⟨b, o + offOf E T k, none⟩)) w := by
 have := O.td T hk
 rw [hs] at this
 obtain ⟨fields, h1, h2, h3⟩ := this
 have hkf : k < fields.size := by omega
 obtain ⟨f, hf⟩ : ∃ f, fields[k]? = some f := ⟨_, Array.getElem?_eq_getElem hkf⟩
 obtain ⟨j1, j2, j3, j4⟩ := h3 k f hf
 have : E.size f.type ≠ 0 := by omega
 simp [Instr.fieldAt, run_underlying h1, hf, Instr.sureAddr, fieldPlace, run_size O j3, this, j2, add_lit']
theorem Y_fieldAddr (O : E.OK) {o : Oper} {T : TypeId} {x : Operand} {k : Nat} {fr : Fr} {xv v : PV} (ho : o.op = .fieldAddr T x k) (hx : Fr.eval fr x = some xv) (hk : E.kn T = true) (hs : E.td T = .st)
  (h : sFieldAddr E T xv k σ = some v) : Yld E nid o fr σ v σ := Yld_pure fun cx ρ hn he => by
 have hv := he x xv hx
 unfold sFieldAddr at h
 split at h
 ·rename_i b g i p
  split at h
  ·rename_i ty g' xs hb
   split at h
   ·rename_i hc
    obtain ⟨rfl, ht, hl⟩ := hc
    simp only [Option.some.injEq] at h; subst h
    obtain ⟨m, ca, el, fz, cs, h1, h2, h3, h4, h5, h6, h7, h8, h9⟩ := hn.blk hb
    obtain ⟨hA, hle, hval⟩ := hv.ptr_inv
    have hval' := hval m h1 h2
    rw [h3] at hval'
    refine ⟨.pointer (some ⟨m.blk, m.base + i * E.size ty + pathOff E ty p + offOf E T k, none⟩), ?_, V_one (.ptr _ _ _ _ _ rfl hA hle fun m' hm' _ => ?_) (by simp)⟩
    ·simp only [execOp, ho, hval', Sem.run_bind, fieldAt_run O hk hs hl, Result.andThen_ok]; rfl
    rw [h1] at hm'; simp only [Option.some.injEq] at hm'; subst hm'
    rw [h3, pathOff_snoc E p ty T k ht]
    simp [Nat.add_assoc]
   ·simp at h
  ·simp at h
 ·rename_i t fs
  split at h
  ·rename_i e; subst e
   split at h
   ·rename_i y hy
    simp only [Option.some.injEq] at h; subst h
    obtain ⟨b, o', cs, ca, e, fz, hval, hI, hw, hc, hwin⟩ := hv.laddr_inv
    cases hc with
    | agg _ _ _ hc =>
     obtain ⟨U, ds, k1, k2, k3, k4⟩ := hc.get O.toFine k y hy
     have hl : k < (E.lay t).length := by
      rcases Nat.lt_or_ge k (E.lay t).length with h | h
      ·exact h
      ·simp [List.getElem?_eq_none h] at k1
     refine ⟨.pointer (some ⟨b, o' + offOf E t k, none⟩), ?_, V_one (.laddr _ _ _ ds ca e fz hI hw k3 (LW.win hwin k4)) (by simp)⟩
     simp only [execOp, ho, hval, Sem.run_bind, fieldAt_run O hk hs hl, Result.andThen_ok]; rfl
   ·simp at h
  ·simp at h
 ·simp at h
def sField (T : TypeId) (x : PV) (k : Nat) : Option PV :=
 match x with
 | .agg t fs => if t = T then fs[k]? else none
 | _ => none
theorem extract_win {cs ds : List Value} {o : Nat} (h : LW cs o ds) (hl : o + ds.length ≤ cs.length) : cs.toArray.extract o (o + ds.length) = ds.toArray := by
 apply Array.ext'
 simp only [List.extract_toArray, List.extract_eq_take_drop]
 apply List.ext_getElem?
 intro j
 by_cases hj : j < ds.length
 ·have := h j _ (List.getElem?_eq_getElem hj)
  rw [List.getElem?_take_of_lt (by omega), List.getElem?_drop, this, List.getElem?_eq_getElem hj]
 ·rw [List.getElem?_eq_none (by omega : ds.length ≤ j), List.getElem?_eq_none (by simp; omega)]
theorem run_part (O : E.OK) {U : TypeId} (hk : E.kn U = true) {cs ds : List Value} {o : Nat} (h : LW cs o ds) (hl : ds.length = E.size U) (hfit : o + ds.length ≤ cs.length) (w : World) :
  (part U cs.toArray o).run E.P w = .ok (mkv E U ds) w := by
 simp only [part, Sem.run_bind, run_isAgg O hk, Result.andThen_ok]
 by_cases ha : E.agg U = true
 ·simp only [ha, if_true, Sem.run_bind, run_size O hk, Result.andThen_ok, ← hl, extract_win h hfit, Sem.run_pure, mkv, mkv0]
 ·have ha' : E.agg U = false := by simpa using ha
  have : ds.length = 1 := by rw [hl, O.scalar U ha']
  obtain ⟨v, rfl⟩ : ∃ v, ds = [v] := by
   match ds, this with
   | [v], _ => exact ⟨v, rfl⟩
  have hc := h 0 v (by simp)
  simp only [Nat.add_zero] at hc
  simp [ha', hc, mkv, mkv0]
theorem Y_field (O : E.OK) {o : Oper} {T : TypeId} {x : Operand} {k : Nat} {fr : Fr} {xv v : PV} (ho : o.op = .field T x k) (hx : Fr.eval fr x = some xv) (hk : E.kn T = true) (hs : E.td T = .st)
  (h : sField T xv k = some v) : Yld E nid o fr σ v σ := Yld_pure fun cx ρ hn he => by
 have hv := he x xv hx
 unfold sField at h
 split at h
 ·rename_i t fs
  split at h
  ·rename_i e; subst e
   obtain ⟨cs, hval, hc⟩ := hv.agg_inv
   cases hc with
   | agg _ _ _ hc =>
    obtain ⟨U, ds, k1, k2, k3, k4⟩ := hc.get O.toFine k v h
    have htd := O.td t hk
    rw [hs] at htd
    obtain ⟨fields, h1, h2, h3⟩ := htd
    have hl : k < (E.lay t).length := by
     rcases Nat.lt_or_ge k (E.lay t).length with h | h
     ·exact h
     ·simp [List.getElem?_eq_none h] at k1
    obtain ⟨f, hf⟩ : ∃ f, fields[k]? = some f := ⟨_, Array.getElem?_eq_getElem (by omega)⟩
    obtain ⟨j1, j2, j3, j4⟩ := h3 k f hf
    rw [k1] at j1; simp only [Option.some.injEq] at j1; subst j1
    have fl := hc.fit_len O.toFine k1
    have l := k3.len O.toFine _ k2
    refine ⟨_, ?_, V_of_VC k3 k2⟩
    simp only [execOp, ho, Sem.run_bind, Instr.field, run_underlying h1, Result.andThen_ok, hf, hval, asAgg, Sem.run_pure, j2]
    rw [run_part O j3 (by simpa [offOf] using k4) l (by simp only [offOf]; omega)]
    rfl
  ·simp at h
 ·simp at h
theorem Y_move {o : Oper} {x : Operand} {fr : Fr} {v : PV} (ho : o.op = .move x ∨ o.op = .assign x) (hx : Fr.eval fr x = some v) : Yld E nid o fr σ v σ := Yld_pure fun cx ρ hn he =>
 ⟨ρ x, by rcases ho with ho | ho <;> simp [execOp, ho], he x v hx⟩
theorem Y_pick {o : Oper} {c x y : Operand} {fr : Fr} {b : Bool} {v : PV} (ho : o.op = .pick c x y) (hc : Fr.eval fr c = some (.bool b)) (hx : Fr.eval fr (if b then x else y) = some v) : Yld E nid o fr σ v σ :=
 Yld_pure fun cx ρ hn he => by
  have := V.bool_inv (he c _ hc)
  refine ⟨if b then ρ x else ρ y, by simp [execOp, ho, this, asBool], ?_⟩
  cases b <;> exact he _ _ hx
theorem VL.nth {c : Cx} : ∀ {xs : List PV} {vs : List Value}, VL E c xs vs → ∀ (k : Nat) (x : PV), xs[k]? = some x → ∃ v, vs[k]? = some v ∧ V E c x v
 | _, _, .nil, k, x, h => by simp at h
 | _, _, .undef (v := v) hs, k, x, h => by
  cases k with
  | zero => simp at h; subst h; exact ⟨v, by simp, V_undef _⟩
  | succ k => obtain ⟨u, h1, h2⟩ := hs.nth k x (by simpa using h); exact ⟨u, by simpa using h1, h2⟩
 | _, _, .one (v := v) h1 hn hv hs, k, x, h => by
  cases k with
  | zero => simp at h; subst h; exact ⟨v, by simp, .one h1 hn hv .nil⟩
  | succ k => obtain ⟨u, h1, h2⟩ := hs.nth k x (by simpa using h); exact ⟨u, by simpa using h1, h2⟩
 | _, _, .agg (cs := cs) hv hs, k, x, h => by
  cases k with
  | zero => simp at h; subst h; exact ⟨.agg cs.toArray, by simp, .agg hv .nil⟩
  | succ k => obtain ⟨u, h1, h2⟩ := hs.nth k x (by simpa using h); exact ⟨u, by simpa using h1, h2⟩
 | _, _, .tup (us := us) hv hs, k, x, h => by
  cases k with
  | zero => simp at h; subst h; exact ⟨.tuple us, by simp, .tup hv .nil⟩
  | succ k => obtain ⟨u, h1, h2⟩ := hs.nth k x (by simpa using h); exact ⟨u, by simpa using h1, h2⟩
theorem Y_extract {o : Oper} {x : Operand} {k : Nat} {fr : Fr} {xs : List PV} {v : PV} (ho : o.op = .extract x k) (hx : Fr.eval fr x = some (.tup xs)) (h : xs[k]? = some v) : Yld E nid o fr σ v σ :=
 Yld_pure fun cx ρ hn he => by
  obtain ⟨us, hval, hl⟩ := (he x _ hx).tup_inv
  obtain ⟨u, h1, h2⟩ := hl.nth k v h
  exact ⟨u, by simp [execOp, ho, hval, Instr.extract, show us[k]? = some u by simpa using h1], h2⟩
end
def sEqL (E : Env) : List TypeId → List PV → List PV → Option Bool
 | [], [], [] => some true
 | T :: Ts, x :: xs, y :: ys => match E.td T, x, y with
  | .int _, .int k a, .int k' b => if k = k' then (sEqL E Ts xs ys).map fun r => (a == b) && r else none
  | .bool, .bool a, .bool b => (sEqL E Ts xs ys).map fun r => (a == b) && r
  | .str, .str a, .str b => (sEqL E Ts xs ys).map fun r => (a.toList == b.toList) && r
  | _, _, _ => none
 | _, _, _ => none
def eqOK (E : Env) (T : TypeId) : Bool := E.kn T && (E.td T == .st) && !(E.P.eqGuardType E.P.depth T) && !(E.P.stoodInHeld T) && ((E.P.fieldsOf T).toList.all fun f => f.name != "_")
section
variable {E : Env} {cx : Cx}
theorem run_eqFields_flat (O : E.OK) (w : World) (d : Nat) (ca cb : Array Value) : ∀ (fs : List Go.Field) (Ts : List TypeId) (xs ys : List PV) (r : Bool), Ts = fs.map (·.type) → (∀ f ∈ fs, f.name ≠ "_" ∧ E.kn f.type = true) →
  (∀ (j : Nat) (f : Go.Field) (x : PV), fs[j]? = some f → xs[j]? = some x → ∃ ds, VC E cx x ds ∧ LW ca.toList f.offset ds) → (∀ (j : Nat) (f : Go.Field) (x : PV), fs[j]? = some f → ys[j]? = some x → ∃ ds, VC E cx x ds ∧ LW cb.toList f.offset ds) →
  sEqL E Ts xs ys = some r → (Op.eqFields (d + 1) ca cb fs).run E.P w = .ok r w
 | [], Ts, xs, ys, r, hT, hf, h1, h2, h => by
  subst hT
  cases xs <;> cases ys <;> simp [sEqL] at h
  subst h
  simp [Op.eqFields]
 | f :: fs, Ts, xs, ys, r, hT, hf, h1, h2, h => by
  subst hT
  cases xs with
  | nil => cases ys <;> simp [sEqL] at h
  | cons x xs =>
   cases ys with
   | nil => simp [sEqL] at h
   | cons y ys =>
    obtain ⟨hn, hk⟩ := hf f (by simp)
    have td := O.td f.type hk
    obtain ⟨ds, v1, l1⟩ := h1 0 f x rfl rfl
    obtain ⟨es, v2, l2⟩ := h2 0 f y rfl rfl
    have ih := fun r h => run_eqFields_flat O w d ca cb fs _ xs ys r rfl (fun g hg => hf g (by simp [hg])) (fun j g x a b => h1 (j + 1) g x (by simpa using a) (by simpa using b)) (fun j g x a b => h2 (j + 1) g x (by simpa using a) (by simpa using b)) h
    have at1 : ∀ v, ds = [v] → ca[f.offset]? = some v := fun v e => by subst e; simpa using l1 0 v rfl
    have at2 : ∀ v, es = [v] → cb[f.offset]? = some v := fun v e => by subst e; simpa using l2 0 v rfl
    simp only [List.map_cons, sEqL] at h
    split at h
    ·rename_i k0 k a k' b htd
     rw [htd] at td
     have hu : E.P.underlying f.type = some (.int k0) := td
     split at h
     ·rename_i hkk; subst hkk
      obtain ⟨q, hq, rfl⟩ := Option.map_eq_some_iff.1 h
      have a1 := at1 _ (by cases v1; rfl)
      have a2 := at2 _ (by cases v2; rfl)
      have ih := ih q hq
      have p1 : (part f.type ca f.offset).run E.P w = .ok (.int k a) w := by simp [part, isAgg, run_underlying hu, a1]
      have p2 : (part f.type cb f.offset).run E.P w = .ok (.int k b) w := by simp [part, isAgg, run_underlying hu, a2]
      have p3 : (Op.equalIn (d + 1) f.type (.int k a) (.int k b)).run E.P w = .ok (a == b) w := by simp [Op.equalIn, run_underlying hu]
      simp only [Op.eqFields, hn, ne_eq, not_false_eq_true, if_true, Sem.run_bind, p1, p2, p3, Result.andThen_ok]
      cases hab : (a == b) <;> simp [hab, ih]
     ·simp at h
    ·rename_i a b htd
     rw [htd] at td
     have hu : E.P.underlying f.type = some .bool := td
     obtain ⟨q, hq, rfl⟩ := Option.map_eq_some_iff.1 h
     have a1 := at1 _ (by cases v1; rfl)
     have a2 := at2 _ (by cases v2; rfl)
     have ih := ih q hq
     have p1 : (part f.type ca f.offset).run E.P w = .ok (.bool a) w := by simp [part, isAgg, run_underlying hu, a1]
     have p2 : (part f.type cb f.offset).run E.P w = .ok (.bool b) w := by simp [part, isAgg, run_underlying hu, a2]
     have p3 : (Op.equalIn (d + 1) f.type (.bool a) (.bool b)).run E.P w = .ok (a == b) w := by simp [Op.equalIn, run_underlying hu]
     simp only [Op.eqFields, hn, ne_eq, not_false_eq_true, if_true, Sem.run_bind, p1, p2, p3, Result.andThen_ok]
     cases hab : (a == b) <;> simp [hab, ih]
    ·rename_i a b htd
     rw [htd] at td
     have hu : E.P.underlying f.type = some .string := td
     obtain ⟨q, hq, rfl⟩ := Option.map_eq_some_iff.1 h
     have a1 := at1 _ (by cases v1; rfl)
     have a2 := at2 _ (by cases v2; rfl)
     have ih := ih q hq
     have p1 : (part f.type ca f.offset).run E.P w = .ok (.string a) w := by simp [part, isAgg, run_underlying hu, a1]
     have p2 : (part f.type cb f.offset).run E.P w = .ok (.string b) w := by simp [part, isAgg, run_underlying hu, a2]
     have p3 : (Op.equalIn (d + 1) f.type (.string a) (.string b)).run E.P w = .ok (a.toList == b.toList) w := by simp [Op.equalIn, run_underlying hu, beq_toListBytes]
     simp only [Op.eqFields, hn, ne_eq, not_false_eq_true, if_true, Sem.run_bind, p1, p2, p3, Result.andThen_ok]
     cases hab : (a.toList == b.toList) <;> simp [hab, ih]
    ·simp at h
theorem V.nilf_inv {v : Value} (h : V E cx .nilf v) : v = .nilFunc := by
 cases h with | one h1 hn h hs => cases h; rfl
theorem V.fn_is {f : Fn} {xs ys : List PV} {v : Value} (h : V E cx (.fn f xs ys) v) : ∃ us vs, v = .func f us vs := by
 cases h with | one h1 hn h hs => cases h with | fn _ _ _ us vs _ _ => exact ⟨us, vs, rfl⟩
theorem eq_agg (O : E.OK) {T : TypeId} {fs gs : List PV} {r : Bool} {v u : Value} (hk : eqOK E T = true) (h : sEqL E (E.lay T) fs gs = some r) (h1 : V E cx (.agg T fs) v) (h2 : V E cx (.agg T gs) u) (w : World) :
  ∃ ca cb, v = .agg ca ∧ u = .agg cb ∧ (E.P.eqGuardType E.P.depth T = false) ∧ (Op.equal T v u).run E.P w = .ok r w := by
 obtain ⟨cs, rfl, v1⟩ := V.agg_inv h1
 obtain ⟨ds, rfl, v2⟩ := V.agg_inv h2
 simp only [eqOK, Bool.and_eq_true, Bool.not_eq_true', beq_iff_eq] at hk
 obtain ⟨⟨⟨⟨hkn, htd⟩, hg⟩, hs⟩, hnm⟩ := hk
 have td := O.td T hkn
 rw [htd] at td
 obtain ⟨fields, hu, hsz, hf⟩ := td
 have hfo : E.P.fieldsOf T = fields := by simp [Program.fieldsOf, hu]
 rw [hfo] at hnm
 have hlay : E.lay T = fields.toList.map (·.type) := by
  apply List.ext_getElem?
  intro k
  rw [List.getElem?_map]
  have e : fields.toList[k]? = fields[k]? := by simp
  rw [e]
  cases hfk : fields[k]? with
  | some f => rw [(hf k f hfk).1]; rfl
  | none =>
   have : (E.lay T).length ≤ k := by
    rw [← hsz]
    rcases Nat.lt_or_ge k fields.size with h' | h'
    ·simp [h'] at hfk
    ·exact h'
   rw [List.getElem?_eq_none this]; rfl
 refine ⟨_, _, rfl, rfl, hg, ?_⟩
 have cell : ∀ {zs : List PV} {cs : List Value}, VC E cx (.agg T zs) cs → ∀ (j : Nat) (f : Go.Field) (x : PV), fields.toList[j]? = some f → zs[j]? = some x → ∃ ds, VC E cx x ds ∧ LW cs.toArray.toList f.offset ds := by
  intro zs cs hv j f x hfj hx
  cases hv with
  | agg _ _ _ hv =>
   obtain ⟨U, ds, a1, a2, a3, a4⟩ := hv.get O.toFine j x hx
   have := (hf j f (by simpa using hfj)).2.1
   exact ⟨ds, a3, by rw [this]; exact a4⟩
 have := run_eqFields_flat O w 9998 cs.toArray ds.toArray fields.toList (E.lay T) fs gs r hlay (fun f hfm => ?_) (cell v1) (cell v2) h
 ·have e := run_equalIn_struct w 9999 T cs.toArray ds.toArray (by rw [hfo]; exact hu) hs
  rw [hfo] at e
  exact e.trans this
 ·obtain ⟨j, hj⟩ := List.mem_iff_getElem?.1 hfm
  refine ⟨by simpa using List.all_eq_true.1 hnm f hfm, (hf j f (by simpa using hj)).2.2.1⟩
end
section
variable {E : Env} {cx : Cx} {σ : Store} {nid : Nat}
theorem VC.unpure {c : Cx} {x : PV} {cs : List Value} (h : VC E c.pure x cs) : VC E c x cs := h.ext ⟨fun _ h => h, fun _ _ => rfl, fun _ h => h.elim, fun _ h => h.elim⟩
theorem VCs.unpure {c : Cx} {Ts : List TypeId} {xs : List PV} {cs : List Value} (h : VCs E c.pure Ts xs cs) : VCs E c Ts xs cs := h.ext ⟨fun _ h => h, fun _ _ => rfl, fun _ h => h.elim, fun _ h => h.elim⟩
theorem getElem?_lt {α : Type} {l : List α} {i : Nat} {x : α} (h : l[i]? = some x) : i < l.length := by
 rcases Nat.lt_or_ge i l.length with h' | h'
 ·exact h'
 ·simp [List.getElem?_eq_none h'] at h
def sIndexAddr (E : Env) (T : TypeId) (x : PV) (i : Int) (σ : Store) : Option PV :=
 match E.td T, x with
 | .slice e, .lit xs => if 0 ≤ i then (match xs[i.toNat]? with | some y => if fits E e y then some (.laddr y) else none | none => none) else none
 | .slice e, .ref b g off len => if 0 ≤ i ∧ i < len then (match Store.at σ b with | some (.cells ty g' xs) => if g' = g ∧ ty = e ∧ off + len ≤ xs.length then some (.ptr b g (off + i.toNat) []) else none | _ => none) else none
 | .arr n e, .ptr b g j p => if 0 ≤ i ∧ i < n then (match Store.at σ b with | some (.cells ty g' xs) => if g' = g ∧ typeAt E ty p = some T then some (.ptr b g j (p ++ [i.toNat])) else none | _ => none) else none
 | _, _ => none
theorem indexAt_slice (O : E.OK) {T e : TypeId} (hs : E.td T = .slice e) (hk : E.kn T = true) {b o len cap : Nat} {k : IntKind} {i : Int} (h0 : 0 ≤ i) (h1 : i < len) (w : World) :
  (Instr.indexAt T (.slice (some ⟨b, o, none⟩) len cap) (.int k i)).run E.P w = .ok (.pointer (some ⟨b, o + i.toNat * E.size e, none⟩)) w := by
 have := O.td T hk
 rw [hs] at this
 obtain ⟨hu, hke, hpos⟩ := this
 simp only [Instr.indexAt, Sem.run_bind, asIntOf, Sem.run_pure, Result.andThen_ok, run_underlying hu]
 simp only [h0, h1, and_self, if_true, Sem.run_bind, run_size O hke, Result.andThen_ok, Sem.run_pure, add_lit']
theorem Y_indexAddr (O : E.OK) {o : Oper} {T : TypeId} {x ix : Operand} {fr : Fr} {xv v : PV} {k : IntKind} {i : Int} (ho : o.op = .indexAddr T x ix) (hx : Fr.eval fr x = some xv) (hi : Fr.eval fr ix = some (.int k i)) (hk : E.kn T = true)
  (h : sIndexAddr E T xv i σ = some v) : Yld E nid o fr σ v σ := Yld_pure fun cx ρ hn he => by
 have hv := he x xv hx
 have hiv := V.int_inv (he ix _ hi)
 unfold sIndexAddr at h
 split at h
 ·rename_i e xs hs
  split at h
  ·rename_i h0
   split at h
   ·rename_i y hy
    split at h
    ·rename_i hf
     simp only [Option.some.injEq] at h; subst h
     have hlt := getElem?_lt hy
     rcases hv.lit_inv with ⟨rfl, _⟩ | ⟨U, b, o', cap, cs, ca, el, fz, hval, hI, hw, hc, hwin, hcap⟩
     ·simp at hlt
     ·obtain ⟨ds, j1, j2, j3⟩ := hc.elem O.toFine hy
      have l1 := j2.len O.toFine _ j1
      have l2 := j2.len O.toFine _ hf
      have h1 : i < (xs.length : Int) := by omega
      refine ⟨.pointer (some ⟨b, o' + i.toNat * E.size e, none⟩), ?_, V_one (.laddr y b _ ds ca el fz hI hw (j2.ext ⟨fun _ h => h, fun _ _ => rfl, fun _ h => h.elim, fun _ h => h.elim⟩) ?_) (by simp)⟩
      ·simp only [execOp, ho, hval, hiv, Sem.run_bind, indexAt_slice O hs hk h0 h1, Result.andThen_ok]; rfl
      ·rw [← l2, l1]; exact LW.win hwin j3
    ·simp at h
   ·simp at h
  ·simp at h
 ·rename_i e b g off len hs
  split at h
  ·rename_i h0
   obtain ⟨h0, h1⟩ := h0
   split at h
   ·rename_i ty g' xs hb
    split at h
    ·rename_i hc
     obtain ⟨rfl, rfl, hl⟩ := hc
     simp only [Option.some.injEq] at h; subst h
     obtain ⟨m, ca, el, fz, cs, j1, j2, j3, j4, j5, j6, j7, j8, j9⟩ := hn.blk hb
     obtain ⟨hA, hle, hr⟩ := hv.ref_inv
     obtain ⟨a, cap, hval, hcap, hh⟩ := hr m j1 j2
     rcases hh with rfl | ⟨rfl, hfit⟩
     ·omega
     ·refine ⟨.pointer (some ⟨m.blk, m.base + off * E.size m.ty + i.toNat * E.size ty, none⟩), ?_, V_one (.ptr _ _ _ _ _ rfl hA hle fun m' hm' _ => ?_) (by simp)⟩
      ·simp only [execOp, ho, hval, hiv, Sem.run_bind, indexAt_slice O hs hk h0 h1, Result.andThen_ok]; rfl
      ·rw [j1] at hm'; simp only [Option.some.injEq] at hm'; subst hm'
       rw [j3]; simp [pathOff, Nat.add_mul, Nat.add_assoc]
    ·simp at h
   ·simp at h
  ·simp at h
 ·rename_i n e b g j p hs
  split at h
  ·rename_i h0
   obtain ⟨h0, h1⟩ := h0
   split at h
   ·rename_i ty g' xs hb
    split at h
    ·rename_i hc
     obtain ⟨rfl, ht⟩ := hc
     simp only [Option.some.injEq] at h; subst h
     have htd := O.td T hk
     rw [hs] at htd
     obtain ⟨hu, hlay, hke, hpos⟩ := htd
     obtain ⟨m, ca, el, fz, cs, j1, j2, j3, j4, j5, j6, j7, j8, j9⟩ := hn.blk hb
     obtain ⟨hA, hle, hval⟩ := hv.ptr_inv
     have hval' := hval m j1 j2
     have hoff : offOf E T i.toNat = i.toNat * E.size e := by
      rw [offOf, hlay]; exact rep_off E e n _ (by omega)
     refine ⟨.pointer (some ⟨m.blk, m.base + j * E.size m.ty + pathOff E m.ty p + i.toNat * E.size e, none⟩), ?_, V_one (.ptr _ _ _ _ _ rfl hA hle fun m' hm' _ => ?_) (by simp)⟩
     ·simp only [execOp, ho, hval', hiv, Sem.run_bind, Instr.indexAt, asIntOf, Sem.run_pure, Result.andThen_ok, run_underlying hu, Instr.sureAddr, h0, h1, and_self, if_true, run_size O hke, add_lit']
     ·rw [j1] at hm'; simp only [Option.some.injEq] at hm'; subst hm'
      rw [j3, pathOff_snoc E p ty T _ ht, hoff]; simp [Nat.add_assoc]
    ·simp at h
   ·simp at h
  ·simp at h
 ·simp at h
theorem Y_index (O : E.OK) {o : Oper} {T : TypeId} {x ix : Operand} {fr : Fr} {s : ByteArray} {k : IntKind} {i : Int} {b : UInt8} (ho : o.op = .index T x ix) (hx : Fr.eval fr x = some (.str s)) (hi : Fr.eval fr ix = some (.int k i)) (hk : E.kn T = true)
  (hs : E.td T = .str) (h0 : 0 ≤ i) (hb : s[i.toNat]? = some b) : Yld E nid o fr σ (.int .u8 b.toNat) σ := Yld_pure fun cx ρ hn he => by
 have hv := V.str_inv (he x _ hx)
 have hiv := V.int_inv (he ix _ hi)
 have htd := O.td T hk
 rw [hs] at htd
 refine ⟨.int .u8 b.toNat, ?_, V_one (.int _ _) (by simp)⟩
 simp [execOp, ho, hv, hiv, Instr.index, asIntOf, run_underlying (show E.P.underlying T = some .string from htd), h0, hb]
def sNilCheck (x : PV) (σ : Store) : Bool :=
 match x with
 | .ptr b g _ _ => match Store.at σ b with | some (.cells _ g' _) => g' == g | _ => false
 | .laddr _ => true
 | _ => false
theorem Y_nilCheck {o : Oper} {x : Operand} {fr : Fr} {v : PV} (ho : o.op = .nilCheck x) (hx : Fr.eval fr x = some v) (h : sNilCheck v σ = true) : Yld E nid o fr σ v σ := Yld_pure fun cx ρ hn he => by
 have hv := he x v hx
 refine ⟨ρ x, ?_, hv⟩
 unfold sNilCheck at h
 split at h
 ·split at h
  ·rename_i ty g' xs hb
   simp only [beq_iff_eq] at h; subst h
   obtain ⟨m, ca, el, fz, cs, j1, j2, _⟩ := hn.blk hb
   obtain ⟨_, _, hval⟩ := hv.ptr_inv
   simp [execOp, ho, hval m j1 j2]
  ·simp at h
 ·obtain ⟨k, o', cs, ca, e, fz, hval, _⟩ := hv.laddr_inv
  simp [execOp, ho, hval]
 ·simp at h
def sInt (op : BinOp) (k : IntKind) (a b : Int) : Option PV :=
 match op with
 | .add => some (.int k (k.wrap (a + b)))
 | .sub => some (.int k (k.wrap (a - b)))
 | .mul => some (.int k (k.wrap (a * b)))
 | .quo => if b = 0 then none else some (.int k (k.wrap (a.tdiv b)))
 | .rem => if b = 0 then none else some (.int k (a.tmod b))
 | .and | .or | .xor | .andNot => some (.int k (bits op k a b))
 | .eql => some (.bool (a == b))
 | .neq => some (.bool (a != b))
 | .lss => some (.bool (a < b))
 | .leq => some (.bool (a ≤ b))
 | .gtr => some (.bool (a > b))
 | .geq => some (.bool (a ≥ b))
 | _ => none
def sBin (E : Env) (op : BinOp) (T : TypeId) (x y : PV) : Option PV :=
 match x, y with
 | .int k a, .int k' b => match op with
  | .shl => if 0 ≤ b then some (.int k (k.wrap (a * 2 ^ (min b.toNat k.bits)))) else none
  | .shr => if 0 ≤ b then some (.int k (a.fdiv (2 ^ (min b.toNat k.bits)))) else none
  | _ => if k = k' then sInt op k a b else none
 | .str a, .str b => match op with
  | .add => if a.size + b.size ≤ 9223372036854775807 then some (.str (a ++ b)) else none
  | .eql => some (.bool (a.toList == b.toList))
  | .neq => some (.bool !(a.toList == b.toList))
  | .lss => some (.bool (Op.bytesLess a.toList b.toList))
  | .leq => some (.bool (Op.bytesLess a.toList b.toList || a.toList == b.toList))
  | .gtr => some (.bool !(Op.bytesLess a.toList b.toList || a.toList == b.toList))
  | .geq => some (.bool !(Op.bytesLess a.toList b.toList))
  | _ => none
 | .bool a, .bool b => match E.td T, op with
  | .bool, .eql => some (.bool (a == b))
  | .bool, .neq => some (.bool !(a == b))
  | _, _ => none
 | .agg t fs, .agg t' gs => if t = T ∧ t' = T ∧ eqOK E T = true then (match op with
  | .eql => (sEqL E (E.lay T) fs gs).map .bool
  | .neq => (sEqL E (E.lay T) fs gs).map fun r => .bool !r
  | _ => none) else none
 | .fn _ _ _, .nilf => match E.td T, op with
  | .fn, .eql => some (.bool false)
  | .fn, .neq => some (.bool true)
  | _, _ => none
 | .nilf, .nilf => match E.td T, op with
  | .fn, .eql => some (.bool true)
  | .fn, .neq => some (.bool false)
  | _, _ => none
 | _, _ => none
theorem eqGuard_int (P : Program) (op : BinOp) (T : TypeId) (x y : Operand) (k k' : IntKind) (a b : Int) (w : World) : (eqGuard op T x y (.int k a) (.int k' b)).run P w = .ok () w := by
 unfold eqGuard; cases op <;> simp
theorem eqGuard_str (P : Program) (op : BinOp) (T : TypeId) (x y : Operand) (a b : ByteArray) (w : World) : (eqGuard op T x y (.string a) (.string b)).run P w = .ok () w := by
 unfold eqGuard; cases op <;> simp
theorem eqGuard_bool (P : Program) (op : BinOp) (T : TypeId) (x y : Operand) (a b : Bool) (w : World) : (eqGuard op T x y (.bool a) (.bool b)).run P w = .ok () w := by
 unfold eqGuard; cases op <;> simp
theorem eqGuard_fn (P : Program) (op : BinOp) (T : TypeId) (x y : Operand) (f : Fn) (us vs : Array Value) (w : World) : (eqGuard op T x y (.func f us vs) .nilFunc).run P w = .ok () w := by
 unfold eqGuard; cases op <;> simp
theorem eqGuard_nilf (P : Program) (op : BinOp) (T : TypeId) (x y : Operand) (w : World) : (eqGuard op T x y .nilFunc .nilFunc).run P w = .ok () w := by
 unfold eqGuard; cases op <;> simp
theorem equal_bool (O : E.OK) {T : TypeId} (hk : E.kn T = true) (htd : E.td T = .bool) (a b : Bool) (w : World) : (Op.equal T (.bool a) (.bool b)).run E.P w = .ok (a == b) w := by
 have hu := O.td T hk
 rw [htd] at hu
 have hu : E.P.underlying T = some .bool := hu
 have : ∀ d, (Op.equalIn (d + 1) T (.bool a) (.bool b)).run E.P w = .ok (a == b) w := fun d => by
  simp only [Op.equalIn, Sem.run_bind, run_underlying hu, Result.andThen_ok, Sem.run_pure]
 exact this 9999
theorem Y_bin (O : E.OK) {o : Oper} {op : BinOp} {T yT : TypeId} {x y : Operand} {fr : Fr} {xv yv v : PV} (ho : o.op = .binOp op T x y yT) (hx : Fr.eval fr x = some xv) (hy : Fr.eval fr y = some yv) (hk : E.kn T = true)
  (h : sBin E op T xv yv = some v) : Yld E nid o fr σ v σ := Yld_pure fun cx ρ hn he => by
 have hxv := he x xv hx
 have hyv := he y yv hy
 unfold sBin at h
 split at h
 ·rename_i k a k' b
  have e1 := V.int_inv hxv
  have e2 := V.int_inv hyv
  split at h
  ·split at h
   ·rename_i hb
    simp only [Option.some.injEq] at h; subst h
    refine ⟨_, ?_, V_one (.int _ _) (by simp)⟩
    simp only [execOp, ho, e1, e2, Sem.run_bind, eqGuard_int, Result.andThen_ok, binOp, Op.shift, if_neg (by omega : ¬ b < 0), Sem.run_pure]
   ·simp at h
  ·split at h
   ·rename_i hb
    simp only [Option.some.injEq] at h; subst h
    refine ⟨_, ?_, V_one (.int _ _) (by simp)⟩
    simp only [execOp, ho, e1, e2, Sem.run_bind, eqGuard_int, Result.andThen_ok, binOp, Op.shift, if_neg (by omega : ¬ b < 0), Sem.run_pure]
   ·simp at h
  ·rename_i hns hnr
   split at h
   ·rename_i hkk; subst hkk
    unfold sInt at h
    have hb : ∀ r : Value, (binOp op T (.int k a) (.int k b)).run E.P cx.w = .ok r cx.w → (execOp ρ o).run E.P cx.w = .ok (.value r) cx.w := fun r hr => by
     simp only [execOp, ho, e1, e2, Sem.run_bind, eqGuard_int, Result.andThen_ok, hr, Sem.run_pure]
    split at h <;> (try split at h) <;> simp only [Option.some.injEq, reduceCtorEq] at h <;> subst h <;> refine ⟨_, hb _ ?_, V_one (by constructor) (by simp)⟩
    all_goals first
     | (simp [binOp, Op.intArith]; done)
     | (simp [binOp, Op.intDiv, *]; done)
     | (simp [binOp, Op.intCmp]; done)
     | (simp [binOp, Op.intBits, bits]; done)
     | rfl
   ·simp at h
 ·rename_i a b
  have e1 := V.str_inv hxv
  have e2 := V.str_inv hyv
  have hb : ∀ r : Value, (Op.stringOp op a b).run E.P cx.w = .ok r cx.w → (execOp ρ o).run E.P cx.w = .ok (.value r) cx.w := fun r hr => by
   have : binOp op T (.string a) (.string b) = Op.stringOp op a b := by cases op <;> rfl
   simp only [execOp, ho, e1, e2, Sem.run_bind, eqGuard_str, Result.andThen_ok, this, hr, Sem.run_pure]
  split at h <;> (try split at h) <;> simp only [Option.some.injEq, reduceCtorEq] at h <;> subst h <;> refine ⟨_, hb _ ?_, V_one (by constructor) (by simp)⟩
  all_goals simp only [Op.stringOp, Sem.run_pure]
  ·rename_i hs
   have : ¬ ((a.size + b.size : Nat) : Int) > IntKind.i64.max := by simp [IntKind.max, IntKind.signed, IntKind.bits]; omega
   simp only [this, if_false]; rfl
 ·rename_i a b
  have e1 := V.bool_inv hxv
  have e2 := V.bool_inv hyv
  split at h
  ·rename_i htd
   simp only [Option.some.injEq] at h; subst h
   refine ⟨_, ?_, V_one (.bool _) (by simp)⟩
   simp only [execOp, ho, e1, e2, Sem.run_bind, eqGuard_bool, Result.andThen_ok, binOp, equal_bool O hk htd, Sem.run_pure]
  ·rename_i htd
   simp only [Option.some.injEq] at h; subst h
   refine ⟨_, ?_, V_one (.bool _) (by simp)⟩
   simp only [execOp, ho, e1, e2, Sem.run_bind, eqGuard_bool, Result.andThen_ok, binOp, equal_bool O hk htd, Sem.run_pure]
  ·simp at h
 ·rename_i t fs t' gs
  split at h
  ·rename_i hc
   obtain ⟨rfl, rfl, hok⟩ := hc
   have gd : ∀ (S : TypeId) (ca cb : Array Value), E.P.eqGuardType E.P.depth S = false → (eqGuard op S x y (.agg ca) (.agg cb)).run E.P cx.w = .ok () cx.w := fun S ca cb hg => by
    unfold eqGuard; cases op <;> simp [hg]
   split at h
   ·obtain ⟨r, hr, rfl⟩ := Option.map_eq_some_iff.1 h
    obtain ⟨ca, cb, e1, e2, hg, he⟩ := eq_agg O hok hr hxv hyv cx.w
    refine ⟨.bool r, ?_, V_one (.bool _) (by simp)⟩
    rw [e1, e2] at he
    simp only [execOp, ho, e1, e2, Sem.run_bind, gd _ ca cb hg, Result.andThen_ok, binOp, he, Sem.run_pure]
   ·obtain ⟨r, hr, rfl⟩ := Option.map_eq_some_iff.1 h
    obtain ⟨ca, cb, e1, e2, hg, he⟩ := eq_agg O hok hr hxv hyv cx.w
    refine ⟨.bool !r, ?_, V_one (.bool _) (by simp)⟩
    rw [e1, e2] at he
    simp only [execOp, ho, e1, e2, Sem.run_bind, gd _ ca cb hg, Result.andThen_ok, binOp, he, Sem.run_pure]
   ·simp at h
  ·simp at h
 ·rename_i f xs ys
  obtain ⟨us, vs, e1⟩ := hxv.fn_is
  have e2 := hyv.nilf_inv
  have hu := O.td T hk
  split at h <;> simp only [Option.some.injEq, reduceCtorEq] at h <;> subst h
  ·rename_i htd
   rw [htd] at hu
   obtain ⟨ps, rs, vv, hu⟩ : ∃ ps rs v, E.P.underlying T = some (.func ps rs v) := hu
   have e : ∀ d, (Op.equalIn (d + 1) T (.func f us vs) .nilFunc).run E.P cx.w = .ok false cx.w := fun d => by simp [Op.equalIn, run_underlying hu]
   have e : (Op.equal T (.func f us vs) .nilFunc).run E.P cx.w = .ok false cx.w := e 9999
   refine ⟨_, ?_, V_one (.bool _) (by simp)⟩
   simp only [execOp, ho, e1, e2, Sem.run_bind, eqGuard_fn, Result.andThen_ok, binOp, e, Sem.run_pure]
  ·rename_i htd
   rw [htd] at hu
   obtain ⟨ps, rs, vv, hu⟩ : ∃ ps rs v, E.P.underlying T = some (.func ps rs v) := hu
   have e : ∀ d, (Op.equalIn (d + 1) T (.func f us vs) .nilFunc).run E.P cx.w = .ok false cx.w := fun d => by simp [Op.equalIn, run_underlying hu]
   have e : (Op.equal T (.func f us vs) .nilFunc).run E.P cx.w = .ok false cx.w := e 9999
   refine ⟨_, ?_, V_one (.bool _) (by simp)⟩
   simp only [execOp, ho, e1, e2, Sem.run_bind, eqGuard_fn, Result.andThen_ok, binOp, e, Sem.run_pure]; rfl
 ·have e1 := hxv.nilf_inv
  have e2 := hyv.nilf_inv
  have hu := O.td T hk
  split at h <;> simp only [Option.some.injEq, reduceCtorEq] at h <;> subst h
  ·rename_i htd
   rw [htd] at hu
   obtain ⟨ps, rs, vv, hu⟩ : ∃ ps rs v, E.P.underlying T = some (.func ps rs v) := hu
   have e : ∀ d, (Op.equalIn (d + 1) T .nilFunc .nilFunc).run E.P cx.w = .ok true cx.w := fun d => by simp [Op.equalIn, run_underlying hu]
   have e : (Op.equal T .nilFunc .nilFunc).run E.P cx.w = .ok true cx.w := e 9999
   refine ⟨_, ?_, V_one (.bool _) (by simp)⟩
   simp only [execOp, ho, e1, e2, Sem.run_bind, eqGuard_nilf, Result.andThen_ok, binOp, e, Sem.run_pure]
  ·rename_i htd
   rw [htd] at hu
   obtain ⟨ps, rs, vv, hu⟩ : ∃ ps rs v, E.P.underlying T = some (.func ps rs v) := hu
   have e : ∀ d, (Op.equalIn (d + 1) T .nilFunc .nilFunc).run E.P cx.w = .ok true cx.w := fun d => by simp [Op.equalIn, run_underlying hu]
   have e : (Op.equal T .nilFunc .nilFunc).run E.P cx.w = .ok true cx.w := e 9999
   refine ⟨_, ?_, V_one (.bool _) (by simp)⟩
   simp only [execOp, ho, e1, e2, Sem.run_bind, eqGuard_nilf, Result.andThen_ok, binOp, e, Sem.run_pure]; rfl
 ·simp at h
def sUn (op : UnOp) (x : PV) : Option PV :=
 match op, x with
 | .neg, .int k n => some (.int k (k.wrap (0 - n)))
 | .xor, .int k n => some (.int k (bits .xor k (if k.signed then -1 else k.max) n))
 | .not, .bool b => some (.bool !b)
 | _, _ => none
theorem Y_un {o : Oper} {op : UnOp} {T : TypeId} {x : Operand} {fr : Fr} {xv v : PV} (ho : o.op = .unOp op T x) (hx : Fr.eval fr x = some xv) (h : sUn op xv = some v) : Yld E nid o fr σ v σ := Yld_pure fun cx ρ hn he => by
 have hxv := he x xv hx
 unfold sUn at h
 split at h <;> simp only [Option.some.injEq, reduceCtorEq] at h <;> subst h
 ·have e1 := V.int_inv hxv
  exact ⟨_, by simp [execOp, ho, e1, Op.unary, Op.intArith], V_one (.int _ _) (by simp)⟩
 ·have e1 := V.int_inv hxv
  exact ⟨_, by simp [execOp, ho, e1, Op.unary, Op.intBits, bits], V_one (.int _ _) (by simp)⟩
 ·have e1 := V.bool_inv hxv
  exact ⟨_, by simp [execOp, ho, e1, Op.unary], V_one (.bool _) (by simp)⟩
theorem Y_convInt (O : E.OK) {o : Oper} {T U : TypeId} {x : Operand} {fr : Fr} {j k : IntKind} {n : Int} (ho : o.op = .convert T U x) (hx : Fr.eval fr x = some (.int j n)) (hkT : E.kn T = true) (hkU : E.kn U = true) (hU : E.td U = .int k) :
  Yld E nid o fr σ (.int k (k.wrap n)) σ := Yld_pure fun cx ρ hn he => by
 have e1 := V.int_inv (he x _ hx)
 obtain ⟨d, hd, _⟩ := O.und T hkT
 have hu := O.td U hkU
 rw [hU] at hu
 exact ⟨_, by simp [execOp, ho, e1, convert, run_underlying hd, run_underlying (show E.P.underlying U = some (.int k) from hu), Conv.intToInt], V_one (.int _ _) (by simp)⟩
theorem Y_makeFunc {o : Oper} {f : Fn} {first cap : Array Operand} {fr : Fr} {xs ys : List PV} (ho : o.op = .makeFunc f first cap)
  (h1 : ∀ (c : Cx) (ρ : Operand → Value), Ev E c fr ρ → VL E c xs (first.map ρ).toList) (h2 : ∀ (c : Cx) (ρ : Operand → Value), Ev E c fr ρ → VL E c ys (cap.map ρ).toList) : Yld E nid o fr σ (.fn f xs ys) σ :=
 Yld_pure fun cx ρ hn he => ⟨.func f (first.map ρ) (cap.map ρ), by simp [execOp, ho, Instr.makeFunc], V_one (.fn _ _ _ _ _ (h1 cx ρ he) (h2 cx ρ he)) (by simp)⟩
end
section
variable {E : Env} {cx : Cx} {σ : Store} {nid : Nat}
abbrev VR (E : Env) (c : Cx) (T : TypeId) (xs : List PV) (cs : List Value) : Prop := VCs E c (List.replicate xs.length T) xs cs
theorem VR.nil {c : Cx} {T : TypeId} : VR E c T [] [] := VCs.nil
theorem VR.cons {c : Cx} {T : TypeId} {x : PV} {xs : List PV} {cs ds : List Value} (hf : fits E T x = true) (h : VC E c x cs) (hs : VR E c T xs ds) : VR E c T (x :: xs) (cs ++ ds) := by
 simpa [VR, List.replicate_succ] using VCs.cons hf h hs
theorem VR.uncons {c : Cx} {T : TypeId} {x : PV} {xs : List PV} {cs : List Value} (h : VR E c T (x :: xs) cs) : ∃ ds es, cs = ds ++ es ∧ fits E T x = true ∧ VC E c x ds ∧ VR E c T xs es := by
 have h' : VCs E c (T :: List.replicate xs.length T) (x :: xs) cs := by simpa [VR, List.replicate_succ] using h
 cases h' with
 | cons hf hv hs => exact ⟨_, _, rfl, hf, hv, hs⟩
theorem VR.length (F : E.Fine) {c : Cx} {T : TypeId} {xs : List PV} {cs : List Value} (h : VR E c T xs cs) : cs.length = xs.length * E.size T := by
 rw [VCs.len F h, List.map_replicate, List.sum_replicate_nat]
theorem VR.app {c : Cx} {T : TypeId} : ∀ {xs ys : List PV} {cs ds : List Value}, VR E c T xs cs → VR E c T ys ds → VR E c T (xs ++ ys) (cs ++ ds)
 | [], ys, cs, ds, h, k => by
  have : cs = [] := by cases h; rfl
  subst this; exact k
 | x :: xs, ys, cs, ds, h, k => by
  obtain ⟨as, bs, rfl, hf, hv, hs⟩ := h.uncons
  rw [List.append_assoc]
  exact .cons hf hv (hs.app k)
theorem VR.drop (F : E.Fine) {c : Cx} {T : TypeId} : ∀ (k : Nat) {xs : List PV} {cs : List Value}, VR E c T xs cs → VR E c T (xs.drop k) (cs.drop (k * E.size T))
 | 0, xs, cs, h => by simpa using h
 | k + 1, [], cs, h => by
  have : cs = [] := by cases h; rfl
  subst this; simpa using h
 | k + 1, x :: xs, cs, h => by
  obtain ⟨as, bs, rfl, hf, hv, hs⟩ := h.uncons
  have l := hv.len F _ hf
  have := hs.drop F k
  have e : (k + 1) * E.size T = as.length + k * E.size T := by rw [l, Nat.add_mul, Nat.one_mul]; omega
  have hd : as.drop (as.length + k * E.size T) = [] := List.drop_eq_nil_of_le (by omega)
  rw [List.drop_succ_cons, e, List.drop_append, hd, Nat.add_sub_cancel_left]
  simpa using this
theorem VR.take (F : E.Fine) {c : Cx} {T : TypeId} : ∀ (k : Nat) {xs : List PV} {cs : List Value}, VR E c T xs cs → VR E c T (xs.take k) (cs.take (k * E.size T))
 | 0, xs, cs, h => by simpa using VR.nil
 | k + 1, [], cs, h => by
  have : cs = [] := by cases h; rfl
  subst this; simpa using h
 | k + 1, x :: xs, cs, h => by
  obtain ⟨as, bs, rfl, hf, hv, hs⟩ := h.uncons
  have l := hv.len F _ hf
  have := hs.take F k
  have e : (k + 1) * E.size T = as.length + k * E.size T := by rw [l, Nat.add_mul, Nat.one_mul]; omega
  have ht : as.take (as.length + k * E.size T) = as := List.take_of_length_le (by omega)
  rw [List.take_succ_cons, e, List.take_append, ht, Nat.add_sub_cancel_left]
  exact .cons hf hv this
theorem VR.cast (F : E.Fine) {c : Cx} {T U : TypeId} : ∀ {xs : List PV} {cs : List Value}, VR E c T xs cs → (∀ x ∈ xs, fits E U x = true) → VR E c U xs cs
 | [], cs, h, _ => by
  have : cs = [] := by cases h; rfl
  subst this; exact .nil
 | x :: xs, cs, h, hu => by
  obtain ⟨as, bs, rfl, hf, hv, hs⟩ := h.uncons
  exact .cons (hu x (by simp)) hv (hs.cast F fun y hy => hu y (by simp [hy]))
theorem VR.ext {c c' : Cx} {T : TypeId} {xs : List PV} {cs : List Value} (h : VR E c T xs cs) (e : Ext c c') : VR E c' T xs cs := VCs.ext h e
theorem LW_drop (cs : List Value) (k : Nat) : LW cs k (cs.drop k) := fun j v h => by simpa using h
theorem LW_take (cs : List Value) (k : Nat) : LW cs 0 (cs.take k) := fun j v h => by
 rw [List.getElem?_take] at h
 split at h
 ·simpa using h
 ·simp at h
def sSlice (E : Env) (T : TypeId) (x : PV) (lo hi max : Option Int) (σ : Store) : Option PV :=
 let l := lo.getD 0
 match E.td T, x with
 | .str, .str s => let h := hi.getD s.size; if max.isNone ∧ 0 ≤ l ∧ l ≤ h ∧ h ≤ s.size then some (.str (s.extract l.toNat h.toNat)) else none
 | .slice e, .lit xs => let h := hi.getD xs.length; let m := max.getD h; if 0 ≤ l ∧ l ≤ h ∧ h ≤ m ∧ m ≤ xs.length ∧ (max.isSome → hi.isSome) ∧ (∀ x ∈ xs, fits E e x = true) then some (.lit ((xs.take h.toNat).drop l.toNat)) else none
 | .slice e, .nils => let h := hi.getD 0; if l = 0 ∧ h = 0 ∧ max.getD 0 = 0 ∧ (max.isSome → hi.isSome) then some .nils else none
 | .slice e, .ref b g off len => let h := hi.getD len; let m := max.getD h; if 0 ≤ l ∧ l ≤ h ∧ h ≤ m ∧ m ≤ len ∧ (max.isSome → hi.isSome) then
   (match Store.at σ b with | some (.cells ty g' xs) => if g' = g ∧ ty = e then some (.ref b g (off + l.toNat) (h - l).toNat) else none | _ => none) else none
 | _, _ => none
theorem run_bounds {P : Program} {w : World} (len cap : Nat) (lo hi max : Option Int) (kl kh km : IntKind) (l h m : Int) (hl : l = lo.getD 0) (hh : h = hi.getD len) (hmx : m = max.getD cap) (h0 : 0 ≤ l) (h1 : l ≤ h) (h2 : h ≤ m) (h3 : m ≤ cap)
  (hs : max.isSome → hi.isSome) :
  (Instr.sliceBounds true len cap (lo.map fun n => .int kl n) (hi.map fun n => .int kh n) (max.map fun n => .int km n)).run P w = .ok (l.toNat, h.toNat, m.toNat) w := by
 have sb : ∀ (k : IntKind) (n : Int) (y : Nat) (c : BoundsCode), 0 ≤ n → n ≤ y → (Instr.sliceBound (.int k n) y c).run P w = .ok n.toNat w := fun k n y c a b => by
  simp [Instr.sliceBound, asIntOf, a, b]
 cases max with
 | none =>
  simp only [Option.getD_none] at hmx
  cases hi with
  | none =>
   simp only [Option.getD_none] at hh
   cases lo with
   | none => simp only [Option.getD_none] at hl; subst hl hh hmx; simp [Instr.sliceBounds]
   | some x => simp only [Option.getD_some] at hl; subst hl hh hmx; simp [Instr.sliceBounds, sb kl _ _ _ h0 h1]
  | some y =>
   simp only [Option.getD_some] at hh
   cases lo with
   | none => simp only [Option.getD_none] at hl; subst hl hh hmx; simp [Instr.sliceBounds, sb kh _ _ _ (by omega) h2]
   | some x => simp only [Option.getD_some] at hl; subst hl hh hmx; simp [Instr.sliceBounds, sb kh _ _ _ (by omega) h2, sb kl l h.toNat _ h0 (by omega)]
 | some z =>
  simp only [Option.getD_some] at hmx
  cases hi with
  | none => simp at hs
  | some y =>
   simp only [Option.getD_some] at hh
   cases lo with
   | none => simp only [Option.getD_none] at hl; subst hl hh hmx; simp [Instr.sliceBounds, sb km _ _ _ (by omega) h3, sb kh h m.toNat _ (by omega) (by omega)]
   | some x => simp only [Option.getD_some] at hl; subst hl hh hmx; simp [Instr.sliceBounds, sb km _ _ _ (by omega) h3, sb kh h m.toNat _ (by omega) (by omega), sb kl l h.toNat _ h0 (by omega)]
def OptInt (fr : Fr) (x : Option Operand) (n : Option Int) : Prop :=
 match x, n with
 | none, none => True
 | some x, some n => ∃ k, Fr.eval fr x = some (.int k n)
 | _, _ => False
theorem OptInt.val {c : Cx} {fr : Fr} {ρ : Operand → Value} (he : Ev E c fr ρ) {x : Option Operand} {n : Option Int} (h : OptInt fr x n) : ∃ k, x.map ρ = n.map fun n => .int k n := by
 cases x <;> cases n <;> simp only [OptInt] at h
 ·exact ⟨.i64, rfl⟩
 ·obtain ⟨k, hk⟩ := h
  exact ⟨k, by simp [V.int_inv (he _ _ hk)]⟩
theorem Y_slice (O : E.OK) {o : Oper} {T : TypeId} {x : Operand} {lo hi max : Option Operand} {l h m : Option Int} {fr : Fr} {xv v : PV} (ho : o.op = .slice T x lo hi max) (hx : Fr.eval fr x = some xv)
  (hl : OptInt fr lo l) (hh : OptInt fr hi h) (hm : OptInt fr max m) (hk : E.kn T = true) (hs : sSlice E T xv l h m σ = some v) : Yld E nid o fr σ v σ := Yld_pure fun cx ρ hn he => by
 have hv := he x xv hx
 obtain ⟨kl, el⟩ := hl.val he
 obtain ⟨kh, eh⟩ := hh.val he
 obtain ⟨km, em⟩ := hm.val he
 have htd := O.td T hk
 have hrun : ∀ u : Value, (Instr.sliceAt T (ρ x) (l.map fun n => .int kl n) (h.map fun n => .int kh n) (m.map fun n => .int km n)).run E.P cx.w = .ok u cx.w → (execOp ρ o).run E.P cx.w = .ok (.value u) cx.w := fun u hu => by
  simp only [execOp, ho, el, eh, em, Sem.run_bind, hu, Result.andThen_ok, Sem.run_pure]
 unfold sSlice at hs
 simp only at hs
 split at hs
 ·rename_i s htd'
  rw [htd'] at htd
  have hu : E.P.underlying T = some .string := htd
  split at hs
  ·rename_i hc
   obtain ⟨c1, c2, c3, c4⟩ := hc
   simp only [Option.some.injEq] at hs; subst hs
   have hmn : m = none := by cases m <;> simp_all
   subst hmn
   refine ⟨_, hrun _ ?_, V_one (.str _) (by simp)⟩
   have sb : ∀ (k : IntKind) (n : Int) (y : Nat) (c : BoundsCode), 0 ≤ n → n ≤ y → (Instr.sliceBound (.int k n) y c).run E.P cx.w = .ok n.toNat cx.w := fun k n y c a b => by
    simp [Instr.sliceBound, asIntOf, a, b]
   have hb : (Instr.sliceBounds false s.size s.size (l.map fun n => .int kl n) (h.map fun n => .int kh n) none).run E.P cx.w = .ok ((l.getD 0).toNat, (h.getD s.size).toNat, s.size) cx.w := by
    cases h with
    | none => cases l with
     | none => simp [Instr.sliceBounds]
     | some a => simp only [Option.getD_some, Option.getD_none] at c2 c3 c4; simp [Instr.sliceBounds, sb kl a s.size _ c2 c3]
    | some b => cases l with
     | none => simp only [Option.getD_some, Option.getD_none] at c2 c3 c4; simp [Instr.sliceBounds, sb kh b s.size _ (by omega) c4]
     | some a => simp only [Option.getD_some] at c2 c3 c4; simp [Instr.sliceBounds, sb kh b s.size _ (by omega) c4, sb kl a b.toNat _ c2 (by omega)]
   simp only [Instr.sliceAt, Sem.run_bind, run_underlying hu, Result.andThen_ok, Instr.slice, V.str_inv hv, Option.map_none, Option.isSome_none, Bool.false_eq_true, if_false, Sem.run_pure]
   simp [hb]
  ·simp at hs
 ·rename_i e xs htd'
  rw [htd'] at htd
  obtain ⟨hu, hke, hpos⟩ := htd
  split at hs
  ·rename_i hc
   obtain ⟨c1, c2, c3, c4, c5, c6⟩ := hc
   simp only [Option.some.injEq] at hs; subst hs
   have key : ∀ (a : Option Addr) (cap : Nat), xs.length ≤ cap → ρ x = .slice a xs.length cap → (Instr.sliceAt T (ρ x) (l.map fun n => .int kl n) (h.map fun n => .int kh n) (m.map fun n => .int km n)).run E.P cx.w =
     .ok (.slice (if (m.getD cap).toNat = (l.getD 0).toNat then a else a.map (·.add ((l.getD 0).toNat * E.size e))) ((h.getD xs.length).toNat - (l.getD 0).toNat) ((m.getD cap).toNat - (l.getD 0).toNat)) cx.w := fun a cap hcap hval => by
    have hb := run_bounds (P := E.P) (w := cx.w) xs.length cap l h m kl kh km _ _ _ rfl rfl rfl c1 c2 (by cases m <;> simp_all; omega) (by cases m <;> simp_all; omega) c5
    simp [Instr.sliceAt, run_underlying hu, hval, Instr.slice, hb, run_size O hke]
   rcases hv.lit_inv with ⟨rfl, a, n, hval⟩ | ⟨U, b, o', cap, cs, ca, el', fz, hval, hI, hw, hcs, hwin, hcap⟩
   ·have := key a n (by simp) (by simpa using hval)
    have e1 : (h.getD ([] : List PV).length).toNat - (l.getD 0).toNat = 0 := by simp at c2 c3 c4 ⊢; omega
    rw [e1] at this
    exact ⟨_, hrun _ this, by simpa using V_one (.lit0 _ _) (by simp)⟩
   ·have := key _ cap hcap hval
    refine ⟨_, hrun _ this, ?_⟩
    have hlen : ((xs.take (h.getD xs.length).toNat).drop (l.getD 0).toNat).length = (h.getD xs.length).toNat - (l.getD 0).toNat := by simp; omega
    by_cases he : (h.getD xs.length).toNat - (l.getD 0).toNat = 0
    ·have e0 : (xs.take (h.getD xs.length).toNat).drop (l.getD 0).toNat = [] := List.eq_nil_of_length_eq_zero (hlen.trans he)
     rw [e0, he]
     exact V_one (.lit0 _ _) (by simp)
    ·have hne : ¬ (m.getD (cap : Int)).toNat = (l.getD 0).toNat := by cases m <;> simp_all <;> omega
     rw [if_neg hne, ← hlen]
     have v1 : VR E cx.pure e xs cs := VR.cast O.toFine hcs c6
     have v2 := (v1.take O.toFine (h.getD xs.length).toNat).drop O.toFine (l.getD 0).toNat
     simp only [Option.map_some, add_lit']
     refine V_one (.lit _ e b _ _ _ ca el' fz hI hw v2 ?_ ?_) (by simp)
     ·have := LW.win hwin ((LW_take cs _).trans (LW_drop (cs.take ((h.getD xs.length).toNat * E.size e)) ((l.getD 0).toNat * E.size e)))
      simpa using this
     ·rw [hlen]; cases m <;> simp_all <;> omega
  ·simp at hs
 ·rename_i e htd'
  rw [htd'] at htd
  obtain ⟨hu, hke, hpos⟩ := htd
  split at hs
  ·rename_i hc
   obtain ⟨c1, c2, c3, c5⟩ := hc
   simp only [Option.some.injEq] at hs; subst hs
   obtain ⟨a, hval⟩ := hv.nils_inv
   have hb := run_bounds (P := E.P) (w := cx.w) 0 0 l h m kl kh km 0 0 0 (by omega) (by simpa using c2.symm) (by simpa using c3.symm) (by omega) (by omega) (by omega) (by omega) c5
   refine ⟨_, hrun (.slice a 0 0) ?_, V_one (.nils _) (by simp)⟩
   simp [Instr.sliceAt, run_underlying hu, hval, Instr.slice, hb, run_size O hke]
  ·simp at hs
 ·rename_i e b g off len htd'
  rw [htd'] at htd
  obtain ⟨hu, hke, hpos⟩ := htd
  split at hs
  ·rename_i hc
   obtain ⟨c1, c2, c3, c4, c5⟩ := hc
   split at hs
   ·rename_i ty g' xs hb
    split at hs
    ·rename_i hg
     obtain ⟨rfl, rfl⟩ := hg
     simp only [Option.some.injEq] at hs; subst hs
     obtain ⟨mb, ca, el', fz, cs, j1, j2, j3, j4, j5, j6, j7, j8, j9⟩ := hn.blk hb
     obtain ⟨hA, hle, hr⟩ := hv.ref_inv
     obtain ⟨a, cap, hval, hcap, hh⟩ := hr mb j1 j2
     have hbd := run_bounds (P := E.P) (w := cx.w) len cap l h m kl kh km _ _ _ rfl rfl rfl c1 c2 (by cases m <;> simp_all; omega) (by cases m <;> simp_all; omega) c5
     have := hrun (.slice (if (m.getD cap).toNat = (l.getD 0).toNat then a else a.map (·.add ((l.getD 0).toNat * E.size ty))) ((h.getD len).toNat - (l.getD 0).toNat) ((m.getD cap).toNat - (l.getD 0).toNat)) (by
      simp [Instr.sliceAt, run_underlying hu, hval, Instr.slice, hbd, run_size O hke])
     refine ⟨_, this, V_one (.ref _ _ _ _ _ rfl hA hle fun m' hm' _ => ?_) (by simp)⟩
     rw [j1] at hm'; simp only [Option.some.injEq] at hm'; subst hm'
     have elen : (h.getD (len : Int) - l.getD 0).toNat = (h.getD (len : Int)).toNat - (l.getD 0).toNat := by omega
     refine ⟨_, _, by rw [elen], ?_, ?_⟩
     ·rw [elen]; cases m <;> simp_all <;> omega
     ·by_cases hz : (m.getD (cap : Int)).toNat = (l.getD 0).toNat
      ·left; omega
      ·right
       have hcap0 : cap ≠ 0 := by cases m <;> simp_all <;> omega
       rcases hh with h | ⟨rfl, hfit⟩
       ·exact absurd h hcap0
       ·rw [if_neg hz, j3]
        refine ⟨by simp [add_lit', Nat.add_mul, Nat.add_assoc, j3], ?_⟩
        have : off + (l.getD 0).toNat + ((m.getD (cap : Int)).toNat - (l.getD 0).toNat) ≤ off + cap := by cases m <;> simp_all <;> omega
        rw [j3] at hfit
        have := Nat.mul_le_mul_right (E.size ty) this
        omega
    ·simp at hs
   ·simp at hs
  ·simp at hs
 ·simp at hs
end
end Go.Proofs.YtdplbgfokoajjaaGreat
end
