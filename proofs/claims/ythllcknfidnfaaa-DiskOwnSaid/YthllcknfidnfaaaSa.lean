/- The values, stores and the relation to the machine's world of a small program logic. -/
import Derived.Calls
import Derived.Defers
import Derived.Orders
import Derived.Tactics
import Derived.Laws.Cells
import Derived.Laws.World
import Derived.Lib.FrozenHead
import Derived.RowKit
import Derived.Maps.OwnSet
set_option linter.unusedVariables false
namespace Go.Proofs.Ythllcknfidnfaaa
open Go

/-- Values as the logic has them: a slice that nobody writes any more is its elements. -/
inductive PV where
  | undef
  | bool (b : Bool)
  | int (k : IntKind) (n : Int)
  | str (s : ByteArray)
  | nilp
  | ptr (b g i : Nat) (p : List Nat)
  | laddr (x : PV)
  | nils
  | lit (xs : List PV)
  | ref (b g off len : Nat)
  | nilm
  | map (b : Nat)
  | nilf
  | fn (f : Fn) (first cap : List PV)
  | nili
  | iface (t : TypeId) (x : PV)
  | agg (t : TypeId) (fs : List PV)
  | tup (vs : List PV)
  deriving Inhabited

/-- What a type is, as far as it is told. -/
inductive TD where
  | bool
  | int (k : IntKind)
  | str
  | ptr (e : TypeId)
  | slice (e : TypeId)
  | arr (n : Nat) (e : TypeId)
  | map (k e : TypeId)
  | st
  | fn
  | ifc
  | other
  deriving Inhabited, DecidableEq

/-- What is known of types: what it is; is it a struct or an array; its fields' types; its cells; its bytes; its zero value. 'kn': is it told? -/
structure Env where
  P : Program
  kn : TypeId → Bool
  td : TypeId → TD
  agg : TypeId → Bool
  lay : TypeId → List TypeId
  size : TypeId → Nat
  bytes : TypeId → Nat
  zero : TypeId → PV
  fk : FuncId → Bool

inductive Blk where
  | cells (ty : TypeId) (g : Nat) (xs : List PV)
  | mp (K : TypeId) (es : List (Lit × PV))
  deriving Inhabited

abbrev Store := List (Option Blk)
abbrev Fr := List (Nat × PV)

/-- Where a block of the store lies: block, first cell, how often it has moved, its elements' type. -/
structure MB where
  blk : Nat
  base : Nat
  gen : Nat
  ty : TypeId
  cells : Nat

structure Cx where
  I : Nat → Prop
  F : Nat → Prop
  w : World
  mu : Nat → Option MB
  A : Nat → Prop
  top : Nat

def fits (E : Env) (T : TypeId) : PV → Bool
  | .agg t _ => t == T && E.agg T
  | .tup _ => false
  | .undef => false
  | _ => !E.agg T

def offOf (E : Env) (t k : Nat) : Nat := (((E.lay t).take k).map E.size).sum
def pathOff (E : Env) : TypeId → List Nat → Nat
  | _, [] => 0
  | t, k :: p => offOf E t k + pathOff E ((E.lay t).getD k 0) p
def typeAt (E : Env) : TypeId → List Nat → Option TypeId
  | t, [] => some t
  | t, k :: p => if E.agg t then (match (E.lay t)[k]? with | some u => typeAt E u p | none => none) else none

/-- 'cs' lies in the cells from 'o' on. -/
def Win (c : Array Value) (o : Nat) (cs : List Value) : Prop := ∀ j v, cs[j]? = some v → c[o + j]? = some v

def Cx.pure (c : Cx) : Cx := { c with mu := fun _ => none, A := fun _ => False }

mutual
inductive VC (E : Env) : Cx → PV → List Value → Prop
  | bool {c : Cx} (b : Bool) : VC E c (.bool b) [.bool b]
  | int {c : Cx} (k : IntKind) (n : Int) : VC E c (.int k n) [.int k n]
  | str {c : Cx} (s : ByteArray) : VC E c (.str s) [.string s]
  | nilp {c : Cx} : VC E c .nilp [.pointer none]
  | ptr {c : Cx} (b g i : Nat) (p : List Nat) (v : Value) (h1 : v.oneCell' = true) (hb : c.A b) (hle : ∀ m, c.mu b = some m → g ≤ m.gen)
      (h : ∀ m, c.mu b = some m → m.gen = g → v = .pointer (some ⟨m.blk, m.base + i * E.size m.ty + pathOff E m.ty p, none⟩)) : VC E c (.ptr b g i p) [v]
  | laddr {c : Cx} (x : PV) (k o : Nat) (cs : List Value) (ca : Array Value) (e : TypeId) (fz : Nat × Nat) (hI : c.I k) (hw : c.w.heap[k]? = some (.cells ca e fz))
      (hx : VC E c x cs) (hwin : Win ca o cs) : VC E c (.laddr x) [.pointer (some ⟨k, o, none⟩)]
  | nils {c : Cx} (a : Option Addr) : VC E c .nils [.slice a 0 0]
  | lit0 {c : Cx} (a : Option Addr) (n : Nat) : VC E c (.lit []) [.slice a 0 n]
  | lit {c : Cx} (xs : List PV) (T : TypeId) (k o cap : Nat) (cs : List Value) (ca : Array Value) (e : TypeId) (fz : Nat × Nat) (hI : c.I k) (hw : c.w.heap[k]? = some (.cells ca e fz))
      (hx : VCs E c.pure (List.replicate xs.length T) xs cs) (hwin : Win ca o cs) (hcap : xs.length ≤ cap) : VC E c (.lit xs) [.slice (some ⟨k, o, none⟩) xs.length cap]
  | ref {c : Cx} (b g off len : Nat) (v : Value) (h1 : v.oneCell' = true) (hb : c.A b) (hle : ∀ m, c.mu b = some m → g ≤ m.gen)
      (h : ∀ m, c.mu b = some m → m.gen = g → ∃ (a : Option Addr) (cap : Nat), v = .slice a len cap ∧ len ≤ cap ∧
        (cap = 0 ∨ (a = some ⟨m.blk, m.base + off * E.size m.ty, none⟩ ∧ m.base + (off + cap) * E.size m.ty ≤ m.cells))) : VC E c (.ref b g off len) [v]
  | nilm {c : Cx} : VC E c .nilm [.map none]
  | map {c : Cx} (b : Nat) (v : Value) (h1 : v.oneCell' = true) (hb : c.A b) (h : ∀ m, c.mu b = some m → m.gen = 0 → v = .map (some m.blk)) : VC E c (.map b) [v]
  | nilf {c : Cx} : VC E c .nilf [.nilFunc]
  | fn {c : Cx} (f : Fn) (first cap : List PV) (vs us : Array Value) (h1 : VL E c first vs.toList) (h2 : VL E c cap us.toList) : VC E c (.fn f first cap) [.func f vs us]
  | nili {c : Cx} : VC E c .nili [.nilIface]
  | ifaceA {c : Cx} (t : TypeId) (u : TypeId) (fs : List PV) (cs : List Value) (h : VC E c (.agg u fs) cs) : VC E c (.iface t (.agg u fs)) [.iface t (.agg cs.toArray)]
  | ifaceS {c : Cx} (t : TypeId) (x : PV) (v : Value) (h1 : v.oneCell' = true) (h : VC E c x [v]) : VC E c (.iface t x) [.iface t v]
  | agg {c : Cx} (t : TypeId) (fs : List PV) (cs : List Value) (h : VCs E c (E.lay t) fs cs) : VC E c (.agg t fs) cs
inductive VCs (E : Env) : Cx → List TypeId → List PV → List Value → Prop
  | nil {c : Cx} : VCs E c [] [] []
  | cons {c : Cx} {T : TypeId} {Ts : List TypeId} {x : PV} {xs : List PV} {cs ds : List Value} (hf : fits E T x = true) (h : VC E c x cs) (hs : VCs E c Ts xs ds) : VCs E c (T :: Ts) (x :: xs) (cs ++ ds)
/-- Values, one by one, as they stand in temporaries. -/
inductive VL (E : Env) : Cx → List PV → List Value → Prop
  | nil {c : Cx} : VL E c [] []
  | undef {c : Cx} {xs : List PV} {v : Value} {vs : List Value} (hs : VL E c xs vs) : VL E c (.undef :: xs) (v :: vs)
  | one {c : Cx} {x : PV} {xs : List PV} {v : Value} {vs : List Value} (h1 : v.oneCell' = true) (hn : ∀ t fs, x ≠ .agg t fs) (h : VC E c x [v]) (hs : VL E c xs vs) : VL E c (x :: xs) (v :: vs)
  | agg {c : Cx} {t : TypeId} {fs xs : List PV} {cs : List Value} {vs : List Value} (h : VC E c (.agg t fs) cs) (hs : VL E c xs vs) : VL E c (.agg t fs :: xs) (.agg cs.toArray :: vs)
  | tup {c : Cx} {ys xs : List PV} {us : Array Value} {vs : List Value} (h : VL E c ys us.toList) (hs : VL E c xs vs) : VL E c (.tup ys :: xs) (.tuple us :: vs)
end

/-- One value. -/
def V (E : Env) (c : Cx) (x : PV) (v : Value) : Prop := VL E c [x] [v]

end Go.Proofs.Ythllcknfidnfaaa
