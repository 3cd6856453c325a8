/- The controller's layers in plain terms: numbers, policies, replicas, sims, a step. -/
import Derived.Test.YtncbfppafgjdiaaGreatXEnv
import Derived.Test.YtncbfppafgjdiaaGreatXe
section
set_option linter.unusedVariables false
namespace Go.Proofs.YtncbfppafgjdiaaGreat
open Go

structure BandV where
  above : Int
  delta : Int
  deriving DecidableEq, Inhabited
structure SlotV where
  from_ : Int
  n : Int
  deriving DecidableEq, Inhabited
structure PolV where
  kind : Int := 0
  target : Int := 0
  bands : List BandV := []
  kp : Int := 0
  ki : Int := 0
  kd : Int := 0
  period : Int := 0
  slots : List SlotV := []
  deriving DecidableEq, Inhabited
structure StaV where
  sum : Int := 0
  prev : Int := 0
  has : Bool := false
  deriving DecidableEq, Inhabited
structure ConfV where
  min : Int := 0
  max : Int := 0
  rate : Int := 0
  stable : Int := 0
  cap : Int := 0
  delay : Int := 0
  slack : Int := 0
  window : Int := 0
  margin : Int := 0
  ceil : Int := 0
  probe : Int := 0
  breach : Int := 0
  deriving DecidableEq, Inhabited
structure HoldV where
  cur : Int := 0
  last : Int := 0
  grew : Bool := false
  deriving DecidableEq, Inhabited
structure PlantV where
  ready : Int := 0
  start : List Int := []
  wait : Int := 0
  util : Int := 0
  deriving DecidableEq, Inhabited
structure MarkV where
  cost : Int := 0
  bad : Bool := false
  deriving DecidableEq, Inhabited
structure SimV where
  pol : PolV := {}
  state : StaV := {}
  hold : HoldV := {}
  plant : PlantV := {}
  marks : List MarkV := []
  deriving DecidableEq, Inhabited
structure ProbeV where
  on : Bool := false
  left : Int := 0
  bad : Int := 0
  id : Int := 0
  pol : PolV := {}
  state : StaV := {}
  deriving DecidableEq, Inhabited
structure LiveV where
  ins : Int := 0
  now : Int := 0
  util : Int := 0
  demand : Int := 0
  set_ : Bool := false
  conf : ConfV := {}
  pol : PolV := {}
  state : StaV := {}
  hold : HoldV := {}
  sim : SimV := {}
  shadows : List SimV := []
  probe : ProbeV := {}
  deriving DecidableEq, Inhabited
structure EvV where
  kind : Int := 0
  util : Int := 0
  demand : Int := 0
  t : Int := 0
  id : Int := 0
  n : Int := 0
  pol : PolV := {}
  conf : ConfV := {}
  body : List UInt8 := []
  deriving DecidableEq, Inhabited

/-- Numbers by thousandths. -/
def satF (n : Int) : Int := max (-1000000000) (min 1000000000 n)
def addF (a b : Int) : Int := satF (satF a + satF b)
def subF (a b : Int) : Int := satF (satF a - satF b)
def mulF (a b : Int) : Int := satF ((satF a * satF b).tdiv 1000)
def divF (a b : Int) : Int := satF (if satF b ≠ 0 then (satF a * 1000).tdiv (satF b) else if satF a = 0 then 0 else satF a * 1000000000)
def upF (n : Int) : Int := (satF n + 1000000999) / 1000 - 1000000
def nearF (n : Int) : Int := if satF n < 0 then -((-satF n + 500).tdiv 1000) else (satF n + 500).tdiv 1000
/-- Within bounds. -/
def intoR (n : Int) : Int := max 0 (min n 1000)

def trackW (target cur util : Int) : Int := intoR (upF (divF (mulF (1000 * intoR cur) (max 0 (min util 1000000000))) (max 1 (min target 1000000000))))
def findB (l : List BandV) (u : Int) : Nat := (l.takeWhile fun b => decide (b.above ≤ u)).length
def stepW (l : List BandV) (cur util : Int) : Int :=
  match l[findB l util - 1]? with
  | some b => if findB l util = 0 then intoR cur else intoR (intoR cur + b.delta)
  | none => intoR cur
def pidN (p : PolV) (s : StaV) (util : Int) : StaV × Int :=
  let e := subF util p.target
  let sum := addF s.sum e
  let d := if s.has then subF e s.prev else 0
  (⟨sum, e, true⟩, max (-1000) (min 1000 (nearF (addF (addF (addF 0 (mulF p.kp e)) (mulF p.ki sum)) (mulF p.kd d)))))
def schedAt (period t : Int) : Int := t % period
def schedW (period : Int) (l : List SlotV) (t : Int) : Int := ((l.reverse.find? fun s => decide (s.from_ ≤ schedAt period t)).map (·.n)).getD 0
def nextP (p : PolV) (s : StaV) (cur util t : Int) : StaV × Int :=
  if p.kind = 1 then (s, intoR (trackW p.target (intoR cur) util))
  else if p.kind = 2 then (s, intoR (stepW p.bands (intoR cur) util))
  else if p.kind = 3 then ((pidN p s util).1, intoR (intoR cur + (pidN p s util).2))
  else if p.kind = 4 then (s, intoR (schedW p.period p.slots t))
  else (s, intoR cur)

/-- Limits. -/
def intoH (c : ConfV) (h : HoldV) : HoldV := { h with cur := max c.min (min h.cur c.max) }
def limN (c : ConfV) (h : HoldV) (want now : Int) : HoldV :=
  let was := intoH c h
  let n := max c.min (min (max (was.cur - c.rate) (min want (was.cur + c.rate))) c.max)
  if n > was.cur then ⟨n, now, true⟩ else if was.grew = true ∧ now - was.last < c.stable then was else { was with cur := n }

/-- Replicas. -/
def newPl (n : Int) : PlantV := { ready := max 0 (min n 1000) }
def allPl (p : PlantV) : Int := p.ready + p.start.sum
def growPl (p : PlantV) (delay many : Int) : PlantV :=
  if delay = 0 then { p with ready := p.ready + many }
  else let s := p.start ++ List.replicate (delay - p.start.length).toNat 0
    { p with start := s.modify (delay - 1).toNat (· + many) }
def shrinkL : List Int → Int → List Int × Int
  | [], m => ([], m)
  | x :: xs, m => let r := shrinkL xs m; ((x - min x r.2) :: r.1, r.2 - min x r.2)
def shrinkPl (p : PlantV) (many : Int) : PlantV := { p with start := (shrinkL p.start many).1, ready := p.ready - (shrinkL p.start many).2 }
def trimZ (l : List Int) : List Int := (l.reverse.dropWhile (· == 0)).reverse
def comePl (p : PlantV) : PlantV := match p.start with | [] => p | x :: xs => { p with ready := p.ready + x, start := xs }
def sizePl (delay : Int) (p : PlantV) (want : Int) : PlantV :=
  let more := intoR want - allPl p
  if more > 0 then growPl p delay more else if more < 0 then shrinkPl p (-more) else p
def stepPl (c : ConfV) (p : PlantV) (want demand : Int) : PlantV × MarkV :=
  let q := sizePl c.delay (comePl p) want
  let todo := addF q.wait (max 0 (min demand 1000000))
  let can := satF (q.ready * c.cap)
  let r : PlantV := ⟨q.ready, trimZ q.start, max 0 (todo - can), divF todo can⟩
  (r, ⟨allPl r, decide (r.wait > c.slack)⟩)

/-- Marks. -/
def addM (window : Int) (l : List MarkV) (m : MarkV) : List MarkV := (l ++ [m]).drop (max 0 ((l.length : Int) + 1 - max 0 window)).toNat
def costM (l : List MarkV) : Int := (l.map (·.cost)).sum
def badM (l : List MarkV) : Int := (l.map fun m => if m.bad then (1 : Int) else 0).sum
def betterM (c : ConfV) (live other : List MarkV) : Bool :=
  decide ((live.length : Int) = c.window) && decide ((other.length : Int) = c.window) && decide (badM other ≤ c.ceil) && decide (costM other + c.margin ≤ costM live)

/-- Sims. -/
def newSim (p : PolV) (s : StaV) (h : HoldV) : SimV := { pol := p, state := s, hold := h, plant := newPl h.cur }
def stepSim (c : ConfV) (x : SimV) (demand now : Int) : SimV :=
  if x.pol.kind = 0 then x else
  let r := nextP x.pol x.state (intoH c x.hold).cur x.plant.util now
  let h := limN c x.hold r.2 now
  let q := stepPl c x.plant h.cur demand
  { x with state := r.1, hold := h, plant := q.1, marks := addM c.window x.marks q.2 }

/-- Promotions. -/
def beats (c : ConfV) (live x : SimV) : Bool := decide (x.pol.kind ≠ 0) && betterM c live.marks x.marks
def pickFrom (c : ConfV) (live : SimV) (l : List SimV) : List SimV → Nat → Nat → Nat
  | [], _, best => best
  | x :: xs, i, best => pickFrom c live l xs (i + 1) (if beats c live x = true ∧ (best = 0 ∨ costM x.marks < costM ((l.getD (best - 1) {}).marks)) then i + 1 else best)
def pickS (c : ConfV) (live : SimV) (l : List SimV) : Nat := pickFrom c live l l 0 0
def beginPr (c : ConfV) (id : Int) (p : PolV) (s : StaV) : ProbeV := { on := true, left := c.probe, id := id, pol := p, state := s }
def tickPr (p : ProbeV) (bad : Bool) : ProbeV := if p.on then { p with left := max 0 (p.left - 1), bad := p.bad + (if bad then 1 else 0) } else p
def breachedPr (c : ConfV) (p : ProbeV) : Bool := p.on && decide (p.bad > c.breach)
def overPr (c : ConfV) (p : ProbeV) : Bool := p.on && decide (p.left ≤ 0) && !breachedPr c p

/-- What may be. -/
def risingB (l : List BandV) : Bool := (l.all fun b => decide (0 ≤ b.above) && decide (b.above ≤ 1000000000)) && decide (l.Pairwise fun a b => a.above < b.above)
def risingS (l : List SlotV) (most : Int) : Bool := (l.all fun b => decide (0 ≤ b.from_) && decide (b.from_ ≤ most)) && decide (l.Pairwise fun a b => a.from_ < b.from_)
def noB (p : PolV) : Bool := p.bands.isEmpty
def noS (p : PolV) : Bool := decide (p.period = 0) && p.slots.isEmpty
def noK (p : PolV) : Bool := decide (p.kp = 0) && decide (p.ki = 0) && decide (p.kd = 0)
def wth (n a b : Int) : Bool := decide (a ≤ n) && decide (n ≤ b)
def okPol (p : PolV) : Bool :=
  if p.kind = 1 then wth p.target 1 1000000000 && noB p && noK p && noS p
  else if p.kind = 2 then risingB p.bands && (p.bands.all fun b => wth b.delta (-1000) 1000) && wth p.bands.length 1 8 && decide (p.target = 0) && noK p && noS p
  else if p.kind = 3 then wth p.target 1 1000000000 && wth p.kp (-1000000000) 1000000000 && wth p.ki (-1000000000) 1000000000 && wth p.kd (-1000000000) 1000000000 && noB p && noS p
  else if p.kind = 4 then risingS p.slots (p.period - 1) && (p.slots.all fun b => wth b.n 0 1000) && wth p.slots.length 1 8 && wth p.period 1 1099511627776 && decide ((p.slots.headD ⟨0, 0⟩).from_ = 0) && decide (p.target = 0) && noB p && noK p
  else false
def zeroPol (p : PolV) : Bool := decide (p = {})
def okConf (c : ConfV) : Bool :=
  decide (1 ≤ c.min) && decide (c.min ≤ c.max) && decide (c.max ≤ 1000) && wth c.rate 1 1000 && wth c.stable 0 1099511627776 && wth c.cap 1 1000000 && wth c.delay 0 8 && wth c.slack 0 1000000000 &&
  wth c.window 1 32 && wth c.margin 0 1000000000 && wth c.ceil 0 32 && wth c.probe 1 32 && wth c.breach 0 32
def okEv (e : EvV) : Bool :=
  if e.kind = 1 then decide (e = { kind := 1, util := e.util, demand := e.demand })
  else if e.kind = 2 then decide (e = { kind := 2, t := e.t })
  else if e.kind = 3 then decide (e = { kind := 3, id := e.id, pol := e.pol }) && wth e.id 0 3 && (okPol e.pol || decide (e.id ≠ 0) && zeroPol e.pol)
  else if e.kind = 4 then decide (e = { kind := 4, conf := e.conf }) && okConf e.conf
  else if e.kind = 5 then decide (e = { kind := 5, t := e.t, n := e.n }) && wth e.t 0 1099511627776 && wth e.n 0 1000
  else if e.kind = 6 then decide (e = { kind := 6, id := e.id }) && wth e.id 0 3
  else if e.kind = 7 then decide (e = { kind := 7, id := e.id }) && wth e.id 0 3
  else if e.kind = 8 then decide (e = { kind := 8, body := e.body }) && decide (e.body.length ≤ 1700)
  else false
def inEv (e : EvV) : Bool := wth e.kind 1 4

/-- A step. -/
def adoptL (l : LiveV) (p : PolV) (s : StaV) : LiveV := { l with pol := p, state := s, sim := newSim p s l.hold, probe := {} }
def thereL (l : LiveV) : LiveV := { l with shadows := l.shadows ++ List.replicate (3 - l.shadows.length) {} }
def policyL (l : LiveV) (e : EvV) : LiveV :=
  if e.id = 0 then adoptL l e.pol {} else
  let m := thereL l
  { m with shadows := m.shadows.set (e.id - 1).toNat (if e.pol.kind = 0 then {} else newSim e.pol {} l.hold) }
def sampleL (l : LiveV) (e : EvV) : LiveV := if 0 ≤ e.util ∧ e.util ≤ 1000000000 ∧ 0 ≤ e.demand ∧ e.demand ≤ 1000000 then { l with util := e.util, demand := e.demand } else l
def confL (l : LiveV) (e : EvV) : LiveV := { l with conf := e.conf, set_ := true, hold := intoH e.conf l.hold }
def rollL (l : LiveV) : LiveV := if breachedPr l.conf l.probe then adoptL l l.probe.pol l.probe.state else l
def rollO (l : LiveV) : List EvV := if breachedPr l.conf l.probe then [{ kind := 7, id := l.probe.id }] else []
def decideL (l : LiveV) : LiveV :=
  let r := nextP l.pol l.state l.hold.cur l.util l.now
  { l with state := r.1, hold := limN l.conf l.hold r.2 l.now }
def runL (l : LiveV) : LiveV := { l with sim := stepSim l.conf l.sim l.demand l.now, shadows := l.shadows.map fun x => stepSim l.conf x l.demand l.now }
def lastBad (m : List MarkV) : Bool := (m.getLast?.map (·.bad)).getD false
def judgeL (l : LiveV) : LiveV :=
  if l.probe.on then
    let p := tickPr l.probe (lastBad l.sim.marks)
    { l with probe := if overPr l.conf p then {} else p }
  else
    let id := pickS l.conf l.sim l.shadows
    if id = 0 then l else
    let x := l.shadows.getD (id - 1) {}
    { l with probe := beginPr l.conf id l.pol l.state, pol := x.pol, state := x.state, sim := x, shadows := l.shadows.set (id - 1) {} }
def judgeO (l : LiveV) : List EvV := if l.probe.on then [] else if pickS l.conf l.sim l.shadows = 0 then [] else [{ kind := 6, id := pickS l.conf l.sim l.shadows }]
def nowL (l : LiveV) (t : Int) : LiveV := { l with now := max (max l.now 0) (min t 1099511627776) }
def tickL (l : LiveV) (t : Int) : LiveV × List EvV :=
  let l0 := nowL l t
  if l0.set_ = false ∨ l0.pol.kind = 0 then (l0, []) else
  let l1 := rollL l0
  let l2 := decideL l1
  let l3 := runL l2
  (judgeL l3, rollO l0 ++ [{ kind := 5, t := l2.now, n := l2.hold.cur }] ++ judgeO l3)
def stepL (l : LiveV) (e : EvV) : LiveV × List EvV :=
  if okEv e = false ∨ inEv e = false then (l, []) else
  let m := { l with ins := if l.ins < 1099511627776 then l.ins + 1 else l.ins }
  if e.kind = 1 then (sampleL m e, [])
  else if e.kind = 2 then tickL m e.t
  else if e.kind = 3 then (policyL m e, [])
  else (confL m e, [])
end Go.Proofs.YtncbfppafgjdiaaGreat
end
section
/- Numbers by thousandths; limits. -/
set_option linter.unusedVariables false
set_option linter.unusedSimpArgs false
set_option maxRecDepth 20000
namespace Go.Proofs.YtncbfppafgjdiaaGreat
open Go
attribute [local irreducible] T TL C RG DP SP YR afterRG DPcall
abbrev i64 (n : Int) : PV := .int .i64 n
theorem tmix : tE.P.follows .mixedOrders = true := by kernel_rfl
abbrev eBand (b : BandV) : PV := .agg 73 [i64 b.above, i64 b.delta]
abbrev eSlot (b : SlotV) : PV := .agg 93 [i64 b.from_, i64 b.n]
abbrev ePol (p : PolV) : PV := .agg 30 [i64 p.kind, i64 p.target, .lit (p.bands.map eBand), i64 p.kp, i64 p.ki, i64 p.kd, i64 p.period, .lit (p.slots.map eSlot)]
abbrev eSta (s : StaV) : PV := .agg 32 [i64 s.sum, i64 s.prev, .bool s.has]
abbrev eConf (c : ConfV) : PV := .agg 26 [i64 c.min, i64 c.max, i64 c.rate, i64 c.stable, i64 c.cap, i64 c.delay, i64 c.slack, i64 c.window, i64 c.margin, i64 c.ceil, i64 c.probe, i64 c.breach]
abbrev eHold (h : HoldV) : PV := .agg 34 [i64 h.cur, i64 h.last, .bool h.grew]
abbrev ePlant (p : PlantV) : PV := .agg 37 [i64 p.ready, .lit (p.start.map i64), i64 p.wait, i64 p.util]
abbrev eMark (m : MarkV) : PV := .agg 71 [i64 m.cost, .bool m.bad]
abbrev eSim (x : SimV) : PV := .agg 40 [ePol x.pol, eSta x.state, eHold x.hold, ePlant x.plant, .lit (x.marks.map eMark)]
abbrev eProbe (p : ProbeV) : PV := .agg 43 [.bool p.on, i64 p.left, i64 p.bad, i64 p.id, ePol p.pol, eSta p.state]
abbrev eLive (l : LiveV) : PV := .agg 45 [i64 l.ins, i64 l.now, i64 l.util, i64 l.demand, .bool l.set_, eConf l.conf, ePol l.pol, eSta l.state, eHold l.hold, eSim l.sim, .lit (l.shadows.map eSim), eProbe l.probe]
def u8l (l : List UInt8) : List PV := l.map fun b => .int .u8 b.toNat
abbrev eEv (e : EvV) : PV := .agg 50 [i64 e.kind, i64 e.util, i64 e.demand, i64 e.t, i64 e.id, i64 e.n, ePol e.pol, eConf e.conf, .lit (u8l e.body)]
theorem satF_lo (n : Int) : -1000000000 ≤ satF n := by unfold satF; omega
theorem satF_hi (n : Int) : satF n ≤ 1000000000 := by unfold satF; omega
theorem satF_in {n : Int} (h1 : -1000000000 ≤ n) (h2 : n ≤ 1000000000) : satF n = n := by unfold satF; omega
section
variable {R : Re → Store → Prop} {σ : Store}
theorem C_sat {n : Int} (h : R (.ret (i64 (satF n))) σ) : C tE 160 [i64 n] σ R := by
  refine s_body' Tryz.func160 tOK rfl (by conv => lhs; simp) (by conv => lhs; simp) (by conv => lhs; simp [Fr.args]) rfl (by conv => lhs; try simp) fun R9 hR9 => ?_
  repeat' (first | refine go ?_ | refine s_seq fun y9 hy9 => ?_ | refine qT _ ?_ ?_ | refine qG _ ?_ ?_ | refine qN ?_ ?_ | (refine QB.mk fun hb9 => ?_; (try simp only [hb9]); (try simp at hb9); first | (exfalso; omega) | subst hb9 | skip))
  exact h
theorem C_fadd {a b : Int} (h : R (.ret (i64 (addF a b))) σ) : C tE 152 [i64 a, i64 b] σ R := by
  have := satF_lo a; have := satF_hi a; have := satF_lo b; have := satF_hi b
  refine s_body' Tryz.func152 tOK rfl (by conv => lhs; simp) (by conv => lhs; simp) (by conv => lhs; simp [Fr.args]) rfl (by conv => lhs; try simp) fun R9 hR9 => ?_
  repeat' (first | refine go ?_ | refine s_seq fun y9 hy9 => ?_ | refine qT _ ?_ ?_ | refine qG _ ?_ ?_ | refine qN ?_ ?_ | (refine QB.mk fun hb9 => ?_; (try simp only [hb9]); (try simp at hb9); first | (exfalso; omega) | subst hb9 | skip) | refine cE Tryz.func162 tOK fun R9 hR9 => ?_ | refine cE Tryz.func168 tOK fun R9 hR9 => ?_ | refine nZ (C_sat ?_))
  exact h
theorem C_fsub {a b : Int} (h : R (.ret (i64 (subF a b))) σ) : C tE 151 [i64 a, i64 b] σ R := by
  have := satF_lo a; have := satF_hi a; have := satF_lo b; have := satF_hi b
  refine s_body' Tryz.func151 tOK rfl (by conv => lhs; simp) (by conv => lhs; simp) (by conv => lhs; simp [Fr.args]) rfl (by conv => lhs; try simp) fun R9 hR9 => ?_
  repeat' (first | refine go ?_ | refine s_seq fun y9 hy9 => ?_ | refine qT _ ?_ ?_ | refine qG _ ?_ ?_ | refine qN ?_ ?_ | (refine QB.mk fun hb9 => ?_; (try simp only [hb9]); (try simp at hb9); first | (exfalso; omega) | subst hb9 | skip) | refine cE Tryz.func162 tOK fun R9 hR9 => ?_ | refine cE Tryz.func167 tOK fun R9 hR9 => ?_ | refine nZ (C_sat ?_))
  exact h
theorem mul_in {a b : Int} (h1 : -1000000000 ≤ a) (h2 : a ≤ 1000000000) (h3 : -1000000000 ≤ b) (h4 : b ≤ 1000000000) : -1000000000000000000 ≤ a * b ∧ a * b ≤ 1000000000000000000 := by
  have : (a * b).natAbs ≤ 1000000000 * 1000000000 := by rw [Int.natAbs_mul]; exact Nat.mul_le_mul (by omega) (by omega)
  omega
theorem C_fmul {a b : Int} (h : R (.ret (i64 (mulF a b))) σ) : C tE 145 [i64 a, i64 b] σ R := by
  have := mul_in (satF_lo a) (satF_hi a) (satF_lo b) (satF_hi b)
  refine s_body' Tryz.func145 tOK rfl (by conv => lhs; simp) (by conv => lhs; simp) (by conv => lhs; simp [Fr.args]) rfl (by conv => lhs; try simp) fun R9 hR9 => ?_
  repeat' (first | refine go ?_ | refine s_seq fun y9 hy9 => ?_ | refine qT _ ?_ ?_ | refine qG _ ?_ ?_ | refine qN ?_ ?_ | (refine QB.mk fun hb9 => ?_; (try simp only [hb9]); (try simp at hb9); first | (exfalso; omega) | subst hb9 | skip) | refine cE Tryz.func162 tOK fun R9 hR9 => ?_ | refine cE Tryz.func163 tOK fun R9 hR9 => ?_ | refine nZ (C_sat ?_))
  exact h
theorem C_fdiv {a b : Int} (h : R (.ret (i64 (divF a b))) σ) : C tE 148 [i64 a, i64 b] σ R := by
  have := satF_lo a; have := satF_hi a; have := satF_lo b; have := satF_hi b
  refine s_body' Tryz.func148 tOK rfl (by conv => lhs; simp) (by conv => lhs; simp) (by conv => lhs; simp [Fr.args]) rfl (by conv => lhs; try simp) fun R9 hR9 => ?_
  repeat' (first | refine go ?_ | refine s_seq fun y9 hy9 => ?_ | refine qT _ ?_ ?_ | refine qG _ ?_ ?_ | refine qN ?_ ?_ | (refine QB.mk fun hb9 => ?_; (try simp only [hb9]); (try simp at hb9); first | (exfalso; omega) | subst hb9 | skip) | refine cE Tryz.func162 tOK fun R9 hR9 => ?_ | refine cE Tryz.func164 tOK fun R9 hR9 => ?_ | refine nZ (C_sat ?_))
  all_goals simpa [divF, *] using h
theorem C_fup {a : Int} (h : R (.ret (i64 (upF a))) σ) : C tE 147 [i64 a] σ R := by
  have := satF_lo a; have := satF_hi a
  have e : (satF a + 1000000999).tdiv 1000 = (satF a + 1000000999) / 1000 := Int.tdiv_eq_ediv_of_nonneg (by omega)
  refine s_body' Tryz.func147 tOK rfl (by conv => lhs; simp) (by conv => lhs; simp) (by conv => lhs; simp [Fr.args]) rfl (by conv => lhs; try simp) fun R9 hR9 => ?_
  repeat' (first | refine go ?_ | refine s_seq fun y9 hy9 => ?_ | refine qT _ ?_ ?_ | refine qG _ ?_ ?_ | refine qN ?_ ?_ | (refine QB.mk fun hb9 => ?_; (try simp only [hb9]); (try simp at hb9); first | (exfalso; omega) | subst hb9 | skip) | refine nZ (C_sat ?_))
  have e' : (satF a + 1000000000 + 1000 - 1).tdiv 1000 - 1000000 = upF a := by unfold upF; rw [← e]; congr 2; omega
  rw [e', wi64 (by unfold upF; omega) (by unfold upF; omega)]
  exact h
theorem C_fnear {a : Int} (h : R (.ret (i64 (nearF a))) σ) : C tE 153 [i64 a] σ R := by
  have := satF_lo a; have := satF_hi a
  have := Int.natAbs_tdiv_le_natAbs (-satF a + 500) 1000
  refine s_body' Tryz.func153 tOK rfl (by conv => lhs; simp) (by conv => lhs; simp) (by conv => lhs; simp [Fr.args]) rfl (by conv => lhs; try simp) fun R9 hR9 => ?_
  repeat' (first | refine go ?_ | refine s_seq fun y9 hy9 => ?_ | refine qT _ ?_ ?_ | refine qG _ ?_ ?_ | refine qN ?_ ?_ | (refine QB.mk fun hb9 => ?_; (try simp only [hb9]); (try simp at hb9); first | (exfalso; omega) | subst hb9 | skip) | refine cE Tryz.func169 tOK fun R9 hR9 => ?_ | refine cE Tryz.func170 tOK fun R9 hR9 => ?_ | refine nZ (C_sat ?_))
  · rw [nearF, if_pos hb9] at h
    exact h
  · rw [nearF, if_neg (by omega)] at h
    exact h
theorem C_lwithin {n a b c d : Int} (h : R (.ret (i64 (max c (min (max a (min n b)) d)))) σ) : C tE 123 [i64 n, .agg 148 [.agg 147 [i64 a, i64 b], .agg 147 [i64 c, i64 d]]] σ R := by
  refine C_pure tOK (by simp) ?_
  refine s_body' Tryz.func123 tOK rfl (by conv => lhs; simp) (by conv => lhs; simp) (by conv => lhs; simp [Fr.args]) rfl (by conv => lhs; try simp) fun R9 hR9 => ?_
  repeat' (first | refine go ?_ | refine s_seq fun y9 hy9 => ?_ | refine qT _ ?_ ?_ | refine qG _ ?_ ?_ | refine qN ?_ ?_ | (refine QB.mk fun hb9 => ?_; (try simp only [hb9]); (try simp at hb9); first | (exfalso; omega) | subst hb9 | skip) | refine w_loop fun y9 hy9 => ?_ | (apply w_again; assumption))
  exact h
theorem C_linto {c : ConfV} {x : HoldV} (h : R (.ret (eHold (intoH c x))) σ) : C tE 94 [eConf c, eHold x] σ R := by
  refine C_pure tOK (by simp) ?_
  refine s_body' Tryz.func94 tOK rfl (by conv => lhs; simp) (by conv => lhs; simp) (by conv => lhs; simp [Fr.args]) rfl (by conv => lhs; try simp) fun R9 hR9 => ?_
  repeat' (first | refine go ?_ | refine s_seq fun y9 hy9 => ?_ | refine qT _ ?_ ?_ | refine qG _ ?_ ?_ | refine qN ?_ ?_ | (refine QB.mk fun hb9 => ?_; (try simp only [hb9]); (try simp at hb9); first | (exfalso; omega) | subst hb9 | skip))
  exact h
theorem C_into {n a b : Int} (hab : a ≤ b) (h : R (.ret (i64 (max a (min n b)))) σ) : C tE 144 [i64 n, i64 a, i64 b] σ R := by
  refine s_body' Tryz.func144 tOK rfl (by conv => lhs; simp) (by conv => lhs; simp) (by conv => lhs; simp [Fr.args]) rfl (by conv => lhs; try simp) fun R9 hR9 => ?_
  repeat' (first | refine go ?_ | refine s_seq fun y9 hy9 => ?_ | refine qT _ ?_ ?_ | refine qG _ ?_ ?_ | refine qN ?_ ?_ | (refine QB.mk fun hb9 => ?_; (try simp only [hb9]); (try simp at hb9); first | (exfalso; omega) | subst hb9 | skip))
  all_goals exact fin_i h (by omega)
theorem C_into64 {n a b : Int} (hab : a ≤ b) (h : R (.ret (i64 (max a (min n b)))) σ) : C tE 146 [i64 n, i64 a, i64 b] σ R := by
  refine s_body' Tryz.func146 tOK rfl (by conv => lhs; simp) (by conv => lhs; simp) (by conv => lhs; simp [Fr.args]) rfl (by conv => lhs; try simp) fun R9 hR9 => ?_
  repeat' (first | refine go ?_ | refine s_seq fun y9 hy9 => ?_ | refine qT _ ?_ ?_ | refine qG _ ?_ ?_ | refine qN ?_ ?_ | (refine QB.mk fun hb9 => ?_; (try simp only [hb9]); (try simp at hb9); first | (exfalso; omega) | subst hb9 | skip))
  all_goals exact fin_i h (by omega)
theorem C_lnext {c : ConfV} {x : HoldV} {w now : Int} (h1 : 0 ≤ c.rate) (h2 : c.rate ≤ 1000000000) (h3 : -1000000000 ≤ c.min) (h4 : c.max ≤ 1000000000) (h5 : c.min ≤ 1000000000) (h6 : -1000000000 ≤ c.max)
    (h7 : 0 ≤ now) (h8 : now ≤ 1099511627776) (h9 : 0 ≤ x.last) (h10 : x.last ≤ 1099511627776)
    (h : R (.ret (eHold (limN c x w now))) σ) : C tE 108 [eConf c, eHold x, i64 w, i64 now] σ R := by
  have b1 : -1000000000 ≤ (intoH c x).cur := by unfold intoH; simp; omega
  have b2 : (intoH c x).cur ≤ 1000000000 := by unfold intoH; simp; omega
  have b3 : (intoH c x).last = x.last := rfl
  unfold limN at h
  simp only at h
  obtain ⟨u, hu⟩ : ∃ u, intoH c x = u := ⟨_, rfl⟩
  rw [hu] at h b1 b2 b3
  obtain ⟨n, hn⟩ : ∃ n, max c.min (min (max (u.cur - c.rate) (min w (u.cur + c.rate))) c.max) = n := ⟨_, rfl⟩
  rw [hn] at h
  have hl : ∀ {R : Re → Store → Prop} {σ : Store}, R (.ret (i64 n)) σ → C tE 123 [i64 w, .agg 148 [.agg 147 [i64 (u.cur - c.rate), i64 (u.cur + c.rate)], .agg 147 [i64 c.min, i64 c.max]]] σ R := fun h => C_lwithin (by rw [hn]; exact h)
  clear hn
  refine C_pure tOK (by simp) ?_
  refine s_body' Tryz.func108 tOK rfl (by conv => lhs; simp) (by conv => lhs; simp) (by conv => lhs; simp [Fr.args]) rfl (by conv => lhs; try simp) fun R9 hR9 => ?_
  have F9 := @hu
  repeat' (first | refine gf ?_ | refine s_seq fun y9 hy9 => ?_ | refine qT _ ?_ ?_ | refine qG _ ?_ ?_ | refine qN ?_ ?_ | (refine QB.mk fun hb9 => ?_; (try simp only [hb9]); (try simp at hb9); first | (exfalso; omega) | subst hb9 | skip) | (refine nZ ?_; first | refine C_linto ?_ | refine hl ?_))
  all_goals (refine fin_v h ?_; (try simp only []); (repeat' split); all_goals (first | rfl | (exfalso; omega) | (simp_all; done) | (simp_all; omega)))
end
end Go.Proofs.YtncbfppafgjdiaaGreat
end
section
/- The document's numbers and limits; track, pid. -/
set_option linter.unusedVariables false
set_option linter.unusedSimpArgs false
set_option maxRecDepth 20000
namespace Go.Proofs.YtncbfppafgjdiaaGreat
open Go
attribute [local irreducible] T TL C RG DP SP YR afterRG DPcall
theorem satF_ge {n : Int} (h : 1000000000 ≤ n) : satF n = 1000000000 := by unfold satF; omega
theorem satF_le {n : Int} (h : n ≤ -1000000000) : satF n = -1000000000 := by unfold satF; omega
theorem td1000 (x : Int) : (0 ≤ x → 1000 * x.tdiv 1000 ≤ x ∧ x < 1000 * x.tdiv 1000 + 1000) ∧ (x < 0 → x ≤ 1000 * x.tdiv 1000 ∧ 1000 * x.tdiv 1000 < x + 1000) := by
  refine ⟨fun h => ?_, fun h => ?_⟩
  · rw [Int.tdiv_eq_ediv_of_nonneg h]; omega
  · have : x.tdiv 1000 = -((-x).tdiv 1000) := by rw [Int.neg_tdiv]; omega
    rw [this, Int.tdiv_eq_ediv_of_nonneg (by omega)]; omega
section
variable {R : Re → Store → Prop} {σ : Store}
theorem R_sat {n : Int} (h : R (.ret (i64 (satF n))) σ) : C tE 104 [i64 n] σ R := by
  refine s_body' Tryz.func104 tOK rfl (by conv => lhs; simp) (by conv => lhs; simp) (by conv => lhs; simp [Fr.args]) rfl (by conv => lhs; try simp) fun R9 hR9 => ?_
  repeat' (first | refine go ?_ | refine s_seq fun y9 hy9 => ?_ | refine qT _ ?_ ?_ | refine qG _ ?_ ?_ | refine qN ?_ ?_ | (refine QB.mk fun hb9 => ?_; (try simp only [hb9]); (try simp at hb9); first | (exfalso; omega) | subst hb9 | skip))
  all_goals exact fin_i h (by unfold satF; omega)
theorem R_add {a b : Int} (h : R (.ret (i64 (addF a b))) σ) : C tE 73 [i64 a, i64 b] σ R := by
  have := satF_lo a; have := satF_hi a; have := satF_lo b; have := satF_hi b
  refine s_body' Tryz.func73 tOK rfl (by conv => lhs; simp) (by conv => lhs; simp) (by conv => lhs; simp [Fr.args]) rfl (by conv => lhs; try simp) fun R9 hR9 => ?_
  repeat' (first | refine go ?_ | refine s_seq fun y9 hy9 => ?_ | refine qT _ ?_ ?_ | refine qG _ ?_ ?_ | refine qN ?_ ?_ | (refine QB.mk fun hb9 => ?_; (try simp only [hb9]); (try simp at hb9); first | (exfalso; omega) | subst hb9 | skip) | refine nZ (R_sat ?_))
  exact h
theorem R_sub {a b : Int} (h : R (.ret (i64 (subF a b))) σ) : C tE 79 [i64 a, i64 b] σ R := by
  have := satF_lo a; have := satF_hi a; have := satF_lo b; have := satF_hi b
  refine s_body' Tryz.func79 tOK rfl (by conv => lhs; simp) (by conv => lhs; simp) (by conv => lhs; simp [Fr.args]) rfl (by conv => lhs; try simp) fun R9 hR9 => ?_
  repeat' (first | refine go ?_ | refine s_seq fun y9 hy9 => ?_ | refine qT _ ?_ ?_ | refine qG _ ?_ ?_ | refine qN ?_ ?_ | (refine QB.mk fun hb9 => ?_; (try simp only [hb9]); (try simp at hb9); first | (exfalso; omega) | subst hb9 | skip) | refine nZ (R_sat ?_))
  exact h
theorem R_mul {a b : Int} (h : R (.ret (i64 (mulF a b))) σ) : C tE 77 [i64 a, i64 b] σ R := by
  have := mul_in (satF_lo a) (satF_hi a) (satF_lo b) (satF_hi b)
  refine s_body' Tryz.func77 tOK rfl (by conv => lhs; simp) (by conv => lhs; simp) (by conv => lhs; simp [Fr.args]) rfl (by conv => lhs; try simp) fun R9 hR9 => ?_
  repeat' (first | refine go ?_ | refine s_seq fun y9 hy9 => ?_ | refine qT _ ?_ ?_ | refine qG _ ?_ ?_ | refine qN ?_ ?_ | (refine QB.mk fun hb9 => ?_; (try simp only [hb9]); (try simp at hb9); first | (exfalso; omega) | subst hb9 | skip) | refine nZ (R_sat ?_))
  exact h
theorem R_div {a b : Int} (h : R (.ret (i64 (divF a b))) σ) : C tE 74 [i64 a, i64 b] σ R := by
  have := satF_lo a; have := satF_hi a; have := satF_lo b; have := satF_hi b
  unfold divF at h
  refine s_body' Tryz.func74 tOK rfl (by conv => lhs; simp) (by conv => lhs; simp) (by conv => lhs; simp [Fr.args]) rfl (by conv => lhs; try simp) fun R9 hR9 => ?_
  repeat' (first | refine go ?_ | refine s_seq fun y9 hy9 => ?_ | refine qT _ ?_ ?_ | refine qG _ ?_ ?_ | refine qN ?_ ?_ | (refine QB.mk fun hb9 => ?_; (try simp only [hb9]); (try simp at hb9); first | (exfalso; omega) | subst hb9 | skip) | refine nZ (R_sat ?_))
  · exact fin_i h (by rw [if_neg (show ¬ (satF b ≠ 0) by omega), if_neg (show ¬ satF a = 0 by omega)]; exact satF_ge (by omega))
  · exact fin_i h (by rw [if_neg (show ¬ (satF b ≠ 0) by omega), if_neg (show ¬ satF a = 0 by omega)]; exact satF_le (by omega))
  · exact fin_i h (by rw [if_neg (show ¬ (satF b ≠ 0) by omega), if_pos (show satF a = 0 by omega)]; rfl)
  · exact fin_i h (by rw [if_pos (show satF b ≠ 0 by omega), Int.mul_comm (satF a)])
theorem R_up {a : Int} (h : R (.ret (i64 (upF a))) σ) : C tE 76 [i64 a] σ R := by
  have := satF_lo a; have := satF_hi a
  have := (td1000 (satF a)).1; have := (td1000 (satF a)).2
  unfold upF at h
  refine s_body' Tryz.func76 tOK rfl (by conv => lhs; simp) (by conv => lhs; simp) (by conv => lhs; simp [Fr.args]) rfl (by conv => lhs; try simp) fun R9 hR9 => ?_
  repeat' (first | refine go ?_ | refine s_seq fun y9 hy9 => ?_ | refine qT _ ?_ ?_ | refine qG _ ?_ ?_ | refine qN ?_ ?_ | (refine QB.mk fun hb9 => ?_; (try simp only [hb9]); (try simp at hb9); first | (exfalso; omega) | subst hb9 | skip) | refine nZ (R_sat ?_))
  all_goals exact fin_i h (by omega)
theorem R_near {a : Int} (h : R (.ret (i64 (nearF a))) σ) : C tE 80 [i64 a] σ R := by
  have := satF_lo a; have := satF_hi a
  have := Int.natAbs_tdiv_le_natAbs (-satF a + 500) 1000
  unfold nearF at h
  refine s_body' Tryz.func80 tOK rfl (by conv => lhs; simp) (by conv => lhs; simp) (by conv => lhs; simp [Fr.args]) rfl (by conv => lhs; try simp) fun R9 hR9 => ?_
  repeat' (first | refine go ?_ | refine s_seq fun y9 hy9 => ?_ | refine qT _ ?_ ?_ | refine qG _ ?_ ?_ | refine qN ?_ ?_ | (refine QB.mk fun hb9 => ?_; (try simp only [hb9]); (try simp at hb9); first | (exfalso; omega) | subst hb9 | skip) | refine nZ (R_sat ?_))
  all_goals (refine fin_v h ?_; (try simp only []); (repeat' split); all_goals (first | rfl | (exfalso; omega) | (simp_all; done) | (simp_all; omega)))
theorem R_linto {c : ConfV} {x : HoldV} (hc : c.min ≤ c.max) (h : R (.ret (eHold (intoH c x))) σ) : C tE 37 [eConf c, eHold x] σ R := by
  refine C_pure tOK (by simp) ?_
  refine s_body' Tryz.func37 tOK rfl (by conv => lhs; simp) (by conv => lhs; simp) (by conv => lhs; simp [Fr.args]) rfl (by conv => lhs; try simp) fun R9 hR9 => ?_
  repeat' (first | refine go ?_ | refine s_seq fun y9 hy9 => ?_ | refine qT _ ?_ ?_ | refine qG _ ?_ ?_ | refine qN ?_ ?_ | (refine QB.mk fun hb9 => ?_; (try simp only [hb9]); (try simp at hb9); first | (exfalso; omega) | subst hb9 | skip))
  exact fin_v h (by unfold intoH; rw [show min (max x.cur c.min) c.max = max c.min (min x.cur c.max) by omega])
theorem C_twant {t c u : Int} (h : R (.ret (i64 (trackW t c u))) σ) : C tE 131 [i64 t, i64 c, i64 u] σ R := by
  unfold trackW intoR at h
  refine s_body' Tryz.func131 tOK rfl (by conv => lhs; simp) (by conv => lhs; simp) (by conv => lhs; simp [Fr.args]) rfl (by conv => lhs; try simp) fun R9 hR9 => ?_
  repeat' (first | refine go ?_ | refine s_seq fun y9 hy9 => ?_ | refine qT _ ?_ ?_ | refine qG _ ?_ ?_ | refine qN ?_ ?_ | (refine QB.mk fun hb9 => ?_; (try simp only [hb9]); (try simp at hb9); first | (exfalso; omega) | subst hb9 | skip) | (refine nZ ?_; first | refine C_into (by omega) ?_ | refine C_into64 (by omega) ?_ | refine C_fmul ?_ | refine C_fdiv ?_ | refine C_fup ?_))
  exact h
theorem R_twant {t c u : Int} (h : R (.ret (i64 (trackW t c u))) σ) : C tE 50 [i64 t, i64 c, i64 u] σ R := by
  unfold trackW intoR at h
  refine s_body' Tryz.func50 tOK rfl (by conv => lhs; simp) (by conv => lhs; simp) (by conv => lhs; simp [Fr.args]) rfl (by conv => lhs; try simp) fun R9 hR9 => ?_
  repeat' (first | refine go ?_ | refine s_seq fun y9 hy9 => ?_ | refine qT _ ?_ ?_ | refine qG _ ?_ ?_ | refine qN ?_ ?_ | (refine QB.mk fun hb9 => ?_; (try simp only [hb9]); (try simp at hb9); first | (exfalso; omega) | subst hb9 | skip) | (refine nZ ?_; first | refine R_mul ?_ | refine R_div ?_ | refine R_up ?_))
  rw [show max 0 (min c 1000) = min (max c 0) 1000 by omega, show max 0 (min u 1000000000) = min (max u 0) 1000000000 by omega, show max 1 (min t 1000000000) = min (max t 1) 1000000000 by omega] at h
  exact fin_i h (by omega)
theorem C_pid {p : PolV} {s : StaV} {u : Int} (h : R (.ret (.tup [eSta (pidN p s u).1, i64 (pidN p s u).2])) σ) : C tE 135 [ePol p, eSta s, i64 u] σ R := by
  refine C_pure tOK (by simp) ?_
  refine s_body' Tryz.func135 tOK rfl (by conv => lhs; simp) (by conv => lhs; simp) (by conv => lhs; simp [Fr.args]) rfl (by conv => lhs; try simp) fun R9 hR9 => ?_
  repeat' (first | refine go ?_ | refine s_seq fun y9 hy9 => ?_ | refine qT _ ?_ ?_ | refine qG _ ?_ ?_ | refine qN ?_ ?_ | (refine QB.mk fun hb9 => ?_; (try simp only [hb9]); (try simp at hb9); first | (exfalso; omega) | subst hb9 | skip) | refine w_loop fun y9 hy9 => ?_ | (apply w_again; assumption) | refine cE Tryz.func154 tOK fun R9 hR9 => ?_ | (refine nZ ?_; first | refine C_fsub ?_ | refine C_fadd ?_ | refine C_fmul ?_ | refine C_fnear ?_))
  all_goals exact fin_v h (by simp [pidN, *])
end
end Go.Proofs.YtncbfppafgjdiaaGreat
end
section
/- Lists of the controller's: frozen, copied, summed. -/
set_option linter.unusedVariables false
set_option linter.unusedSimpArgs false
set_option maxRecDepth 20000
namespace Go.Proofs.YtncbfppafgjdiaaGreat
open Go
attribute [local irreducible] T TL C RG DP SP YR afterRG DPcall
theorem fz_list {α : Type} (f : α → PV) {σ : Store} {n : Nat} (h : ∀ a, frz σ n (f a) = some (f a)) (l : List α) : (l.map f).mapM (frz σ n) = some (l.map f) := mapM_same fun x hx => by
  obtain ⟨a, _, rfl⟩ := List.mem_map.1 hx; exact h a
theorem all_fits {α : Type} (f : α → PV) {U : TypeId} (h : ∀ a, fits tE U (f a) = true) (l : List α) : (l.map f).all (fits tE U) = true := by
  rw [List.all_map, List.all_eq_true]; intro a _; exact h a
theorem mem_fits {α : Type} (f : α → PV) {U : TypeId} (h : ∀ a, fits tE U (f a) = true) (l : List α) : (∀ x ∈ l.map f, fits tE U x = true) = True := by
  refine eq_true fun x hx => ?_
  obtain ⟨a, _, rfl⟩ := List.mem_map.1 hx; exact h a
theorem map_take {α β : Type} (f : α → β) (l : List α) : (l.map f).take l.length = l.map f := by rw [← List.length_map (f := f), List.take_length]
@[simp] theorem pureL_map' {α : Type} (f : α → PV) (h : ∀ a, pureB (f a) = true) (l : List α) : pureL (l.map f) = true := pureL_map f h l
attribute [simp] map_take
@[simp high] theorem fz_eBand (σ : Store) (n : Nat) (l : List BandV) : (l.map eBand).mapM (frz σ (n + 2)) = some (l.map eBand) := fz_list eBand (fun a => by simp) l
@[simp high] theorem af_eBand (l : List BandV) : (l.map eBand).all (fits tE 73) = true := all_fits eBand (fun a => by simp) l
@[simp high] theorem mf_eBand (l : List BandV) : (∀ x ∈ l.map eBand, fits tE 73 x = true) = True := mem_fits eBand (fun a => by simp) l
@[simp high] theorem pl_eBand (l : List BandV) : pureL (l.map eBand) = true := pureL_map eBand (fun a => by simp) l
@[simp high] theorem fz_eSlot (σ : Store) (n : Nat) (l : List SlotV) : (l.map eSlot).mapM (frz σ (n + 2)) = some (l.map eSlot) := fz_list eSlot (fun a => by simp) l
@[simp high] theorem af_eSlot (l : List SlotV) : (l.map eSlot).all (fits tE 93) = true := all_fits eSlot (fun a => by simp) l
@[simp high] theorem mf_eSlot (l : List SlotV) : (∀ x ∈ l.map eSlot, fits tE 93 x = true) = True := mem_fits eSlot (fun a => by simp) l
@[simp high] theorem pl_eSlot (l : List SlotV) : pureL (l.map eSlot) = true := pureL_map eSlot (fun a => by simp) l
@[simp high] theorem fz_eMark (σ : Store) (n : Nat) (l : List MarkV) : (l.map eMark).mapM (frz σ (n + 2)) = some (l.map eMark) := fz_list eMark (fun a => by simp) l
@[simp high] theorem af_eMark (l : List MarkV) : (l.map eMark).all (fits tE 71) = true := all_fits eMark (fun a => by simp) l
@[simp high] theorem mf_eMark (l : List MarkV) : (∀ x ∈ l.map eMark, fits tE 71 x = true) = True := mem_fits eMark (fun a => by simp) l
@[simp high] theorem pl_eMark (l : List MarkV) : pureL (l.map eMark) = true := pureL_map eMark (fun a => by simp) l
@[simp high] theorem fz_i64 (σ : Store) (n : Nat) (l : List Int) : (l.map i64).mapM (frz σ (n + 1)) = some (l.map i64) := fz_list i64 (fun a => by simp) l
@[simp high] theorem af_i64 (l : List Int) : (l.map i64).all (fits tE 3) = true := all_fits i64 (fun a => by simp) l
@[simp high] theorem mf_i64 (l : List Int) : (∀ x ∈ l.map i64, fits tE 3 x = true) = True := mem_fits i64 (fun a => by simp) l
@[simp high] theorem pl_i64 (l : List Int) : pureL (l.map i64) = true := pureL_map i64 (fun a => by simp) l
@[simp high] theorem fz_eSim (σ : Store) (n : Nat) (l : List SimV) : (l.map eSim).mapM (frz σ (n + 4)) = some (l.map eSim) := fz_list eSim (fun a => by simp) l
@[simp high] theorem af_eSim (l : List SimV) : (l.map eSim).all (fits tE 40) = true := all_fits eSim (fun a => by simp) l
@[simp high] theorem mf_eSim (l : List SimV) : (∀ x ∈ l.map eSim, fits tE 40 x = true) = True := mem_fits eSim (fun a => by simp) l
@[simp high] theorem pl_eSim (l : List SimV) : pureL (l.map eSim) = true := pureL_map eSim (fun a => by simp) l
section
variable {R : Re → Store → Prop} {σ : Store}
theorem C_clone_eBand {l : List BandV} (hl : l.length ≤ 100000) (h : R (.ret (.lit (l.map eBand))) σ) : C tE 82 [.lit (l.map eBand)] σ R := by
  refine C_pure tOK (by simp) ?_
  cases l with
  | nil =>
    refine s_body' Tryz.func82 tOK rfl (by conv => lhs; simp) (by conv => lhs; simp) (by conv => lhs; simp [Fr.args]) rfl (by conv => lhs; try simp) fun R9 hR9 => ?_
    repeat' (first | refine go ?_ | refine s_seq fun y9 hy9 => ?_ | refine qT _ ?_ ?_ | refine qG _ ?_ ?_ | refine qN ?_ ?_ | (refine QB.mk fun hb9 => ?_; (try simp only [hb9]); (try simp at hb9); first | (exfalso; omega) | subst hb9 | skip))
    all_goals (refine fin_v h ?_; (try simp only []); (repeat' split); all_goals (first | rfl | (exfalso; omega) | (simp_all; done) | (simp_all; omega)))
  | cons x l =>
    simp at hl
    refine s_body' Tryz.func82 tOK rfl (by conv => lhs; simp) (by conv => lhs; simp) (by conv => lhs; simp [Fr.args]) rfl (by conv => lhs; try simp) fun R9 hR9 => ?_
    repeat' (first | refine go ?_ | refine s_seq fun y9 hy9 => ?_ | refine qT _ ?_ ?_ | refine qG _ ?_ ?_ | refine qN ?_ ?_ | (refine QB.mk fun hb9 => ?_; (try simp only [hb9]); (try simp at hb9); first | (exfalso; omega) | subst hb9 | skip))
    all_goals (refine fin_v h ?_; (try simp only []); (repeat' split); all_goals (first | rfl | (exfalso; omega) | (simp_all; done) | (simp_all; omega)))
theorem C_clone_eSlot {l : List SlotV} (hl : l.length ≤ 100000) (h : R (.ret (.lit (l.map eSlot))) σ) : C tE 83 [.lit (l.map eSlot)] σ R := by
  refine C_pure tOK (by simp) ?_
  cases l with
  | nil =>
    refine s_body' Tryz.func83 tOK rfl (by conv => lhs; simp) (by conv => lhs; simp) (by conv => lhs; simp [Fr.args]) rfl (by conv => lhs; try simp) fun R9 hR9 => ?_
    repeat' (first | refine go ?_ | refine s_seq fun y9 hy9 => ?_ | refine qT _ ?_ ?_ | refine qG _ ?_ ?_ | refine qN ?_ ?_ | (refine QB.mk fun hb9 => ?_; (try simp only [hb9]); (try simp at hb9); first | (exfalso; omega) | subst hb9 | skip))
    all_goals (refine fin_v h ?_; (try simp only []); (repeat' split); all_goals (first | rfl | (exfalso; omega) | (simp_all; done) | (simp_all; omega)))
  | cons x l =>
    simp at hl
    refine s_body' Tryz.func83 tOK rfl (by conv => lhs; simp) (by conv => lhs; simp) (by conv => lhs; simp [Fr.args]) rfl (by conv => lhs; try simp) fun R9 hR9 => ?_
    repeat' (first | refine go ?_ | refine s_seq fun y9 hy9 => ?_ | refine qT _ ?_ ?_ | refine qG _ ?_ ?_ | refine qN ?_ ?_ | (refine QB.mk fun hb9 => ?_; (try simp only [hb9]); (try simp at hb9); first | (exfalso; omega) | subst hb9 | skip))
    all_goals (refine fin_v h ?_; (try simp only []); (repeat' split); all_goals (first | rfl | (exfalso; omega) | (simp_all; done) | (simp_all; omega)))
theorem C_clone_eMark {l : List MarkV} (hl : l.length ≤ 100000) (h : R (.ret (.lit (l.map eMark))) σ) : C tE 85 [.lit (l.map eMark)] σ R := by
  refine C_pure tOK (by simp) ?_
  cases l with
  | nil =>
    refine s_body' Tryz.func85 tOK rfl (by conv => lhs; simp) (by conv => lhs; simp) (by conv => lhs; simp [Fr.args]) rfl (by conv => lhs; try simp) fun R9 hR9 => ?_
    repeat' (first | refine go ?_ | refine s_seq fun y9 hy9 => ?_ | refine qT _ ?_ ?_ | refine qG _ ?_ ?_ | refine qN ?_ ?_ | (refine QB.mk fun hb9 => ?_; (try simp only [hb9]); (try simp at hb9); first | (exfalso; omega) | subst hb9 | skip))
    all_goals (refine fin_v h ?_; (try simp only []); (repeat' split); all_goals (first | rfl | (exfalso; omega) | (simp_all; done) | (simp_all; omega)))
  | cons x l =>
    simp at hl
    refine s_body' Tryz.func85 tOK rfl (by conv => lhs; simp) (by conv => lhs; simp) (by conv => lhs; simp [Fr.args]) rfl (by conv => lhs; try simp) fun R9 hR9 => ?_
    repeat' (first | refine go ?_ | refine s_seq fun y9 hy9 => ?_ | refine qT _ ?_ ?_ | refine qG _ ?_ ?_ | refine qN ?_ ?_ | (refine QB.mk fun hb9 => ?_; (try simp only [hb9]); (try simp at hb9); first | (exfalso; omega) | subst hb9 | skip))
    all_goals (refine fin_v h ?_; (try simp only []); (repeat' split); all_goals (first | rfl | (exfalso; omega) | (simp_all; done) | (simp_all; omega)))
theorem C_clone_i64 {l : List Int} (hl : l.length ≤ 100000) (h : R (.ret (.lit (l.map i64))) σ) : C tE 84 [.lit (l.map i64)] σ R := by
  refine C_pure tOK (by simp) ?_
  cases l with
  | nil =>
    refine s_body' Tryz.func84 tOK rfl (by conv => lhs; simp) (by conv => lhs; simp) (by conv => lhs; simp [Fr.args]) rfl (by conv => lhs; try simp) fun R9 hR9 => ?_
    repeat' (first | refine go ?_ | refine s_seq fun y9 hy9 => ?_ | refine qT _ ?_ ?_ | refine qG _ ?_ ?_ | refine qN ?_ ?_ | (refine QB.mk fun hb9 => ?_; (try simp only [hb9]); (try simp at hb9); first | (exfalso; omega) | subst hb9 | skip))
    all_goals (refine fin_v h ?_; (try simp only []); (repeat' split); all_goals (first | rfl | (exfalso; omega) | (simp_all; done) | (simp_all; omega)))
  | cons x l =>
    simp at hl
    refine s_body' Tryz.func84 tOK rfl (by conv => lhs; simp) (by conv => lhs; simp) (by conv => lhs; simp [Fr.args]) rfl (by conv => lhs; try simp) fun R9 hR9 => ?_
    repeat' (first | refine go ?_ | refine s_seq fun y9 hy9 => ?_ | refine qT _ ?_ ?_ | refine qG _ ?_ ?_ | refine qN ?_ ?_ | (refine QB.mk fun hb9 => ?_; (try simp only [hb9]); (try simp at hb9); first | (exfalso; omega) | subst hb9 | skip))
    all_goals (refine fin_v h ?_; (try simp only []); (repeat' split); all_goals (first | rfl | (exfalso; omega) | (simp_all; done) | (simp_all; omega)))
theorem C_clone_eSim {l : List SimV} (hl : l.length ≤ 100000) (h : R (.ret (.lit (l.map eSim))) σ) : C tE 57 [.lit (l.map eSim)] σ R := by
  refine C_pure tOK (by simp) ?_
  cases l with
  | nil =>
    refine s_body' Tryz.func57 tOK rfl (by conv => lhs; simp) (by conv => lhs; simp) (by conv => lhs; simp [Fr.args]) rfl (by conv => lhs; try simp) fun R9 hR9 => ?_
    repeat' (first | refine go ?_ | refine s_seq fun y9 hy9 => ?_ | refine qT _ ?_ ?_ | refine qG _ ?_ ?_ | refine qN ?_ ?_ | (refine QB.mk fun hb9 => ?_; (try simp only [hb9]); (try simp at hb9); first | (exfalso; omega) | subst hb9 | skip))
    all_goals (refine fin_v h ?_; (try simp only []); (repeat' split); all_goals (first | rfl | (exfalso; omega) | (simp_all; done) | (simp_all; omega)))
  | cons x l =>
    simp at hl
    refine s_body' Tryz.func57 tOK rfl (by conv => lhs; simp) (by conv => lhs; simp) (by conv => lhs; simp [Fr.args]) rfl (by conv => lhs; try simp) fun R9 hR9 => ?_
    repeat' (first | refine go ?_ | refine s_seq fun y9 hy9 => ?_ | refine qT _ ?_ ?_ | refine qG _ ?_ ?_ | refine qN ?_ ?_ | (refine QB.mk fun hb9 => ?_; (try simp only [hb9]); (try simp at hb9); first | (exfalso; omega) | subst hb9 | skip))
    all_goals (refine fin_v h ?_; (try simp only []); (repeat' split); all_goals (first | rfl | (exfalso; omega) | (simp_all; done) | (simp_all; omega)))
end
end Go.Proofs.YtncbfppafgjdiaaGreat
end
section
/- Marks. -/
set_option linter.unusedVariables false
set_option linter.unusedSimpArgs false
set_option maxRecDepth 20000
namespace Go.Proofs.YtncbfppafgjdiaaGreat
open Go
attribute [local irreducible] T TL C RG DP SP YR afterRG DPcall
section
variable {R : Re → Store → Prop} {σ : Store}
theorem C_cost {l : List MarkV} (hl : l.length ≤ 100000) (hb : ∀ m ∈ l, -1000000000 ≤ m.cost ∧ m.cost ≤ 1000000000) (h : R (.ret (i64 (costM l))) σ) : C tE 128 [.lit (l.map eMark)] σ R := by
  have hs := psum_in (f := fun m : MarkV => m.cost) (b := 1000000000) (by decide) hb
  have ps := psum_succ (fun m : MarkV => m.cost) rfl l
  have pa := psum_all (fun m : MarkV => m.cost) l
  unfold costM at h
  rw [← pa] at h
  have h0 := psum_zero (fun m : MarkV => m.cost) l
  generalize psum (fun m : MarkV => m.cost) l = s at *
  refine C_pure tOK (by simp) ?_
  refine s_body' Tryz.func128 tOK rfl (by conv => lhs; simp) (by conv => lhs; simp) (by conv => lhs; simp [Fr.args]) rfl (by conv => lhs; try simp) fun R9 hR9 => ?_
  repeat' (first | refine go ?_ | refine s_seq fun y9 hy9 => ?_ | refine qT _ ?_ ?_ | refine qG _ ?_ ?_ | refine qN ?_ ?_ | (refine QB.mk fun hb9 => ?_; (try simp only [hb9]); (try simp at hb9); first | (exfalso; omega) | subst hb9 | skip) | refine cE Tryz.func140 tOK fun R9 hR9 => ?_)
  refine s_loop fun c9 hc9 => ?_
  refine w_trim 0 [1, 5, 8, 9, 10] (by conv => lhs; simp) (by conv => lhs; simp) (by first | rfl | simp) (by first | rfl | simp) ?_
  refine s_loopn l.length (fun j fr σ => fr = [(1, .fn (.func 141) [] []), (5, i64 (s j)), (8, .lit (l.map eMark)), (9, i64 l.length), (10, i64 j)] ∧ σ = []) ?_ ⟨by simp [h0], rfl⟩
  rintro j fr σ hj ⟨rfl, rfl⟩ ih
  have h1 := hs j
  have h2 := hs (j + 1)
  have h3 := ps j
  refine s_round hc9 ?_
  repeat' (first | refine go ?_ | refine s_seq fun y9 hy9 => ?_ | refine qT _ ?_ ?_ | refine qG _ ?_ ?_ | refine qN ?_ ?_ | (refine QB.mk fun hb9 => ?_; (try simp only [hb9]); (try simp at hb9); first | (exfalso; omega) | subst hb9 | skip) | refine cE Tryz.func141 tOK fun R9 hR9 => ?_)
  · refine w_back 0 [1, 5, 8, 9, 10] (by conv => lhs; simp) (by conv => lhs; simp) (by first | rfl | simp) (by first | rfl | simp) ?_
    exact ih hb9 _ _ ⟨by simp [h3], rfl⟩
  · have : j = l.length := by omega
    subst this
    exact h
theorem C_bad {l : List MarkV} (hl : l.length ≤ 100000) (h : R (.ret (i64 (badM l))) σ) : C tE 161 [.lit (l.map eMark)] σ R := by
  have hs := psum_in (f := fun m : MarkV => if m.bad then (1 : Int) else 0) (b := 1) (l := l) (by decide) (fun m _ => by cases m.bad <;> simp)
  have ps := psum_succ (fun m : MarkV => if m.bad then (1 : Int) else 0) rfl l
  have pa := psum_all (fun m : MarkV => if m.bad then (1 : Int) else 0) l
  unfold badM at h
  rw [← pa] at h
  have h0 := psum_zero (fun m : MarkV => if m.bad then (1 : Int) else 0) l
  generalize psum (fun m : MarkV => if m.bad then (1 : Int) else 0) l = s at *
  refine C_pure tOK (by simp) ?_
  refine s_body' Tryz.func161 tOK rfl (by conv => lhs; simp) (by conv => lhs; simp) (by conv => lhs; simp [Fr.args]) rfl (by conv => lhs; try simp) fun R9 hR9 => ?_
  repeat' (first | refine go ?_ | refine s_seq fun y9 hy9 => ?_ | refine qT _ ?_ ?_ | refine qG _ ?_ ?_ | refine qN ?_ ?_ | (refine QB.mk fun hb9 => ?_; (try simp only [hb9]); (try simp at hb9); first | (exfalso; omega) | subst hb9 | skip) | refine cE Tryz.func173 tOK fun R9 hR9 => ?_)
  refine s_loop fun c9 hc9 => ?_
  refine w_trim 0 [1, 5, 8, 9, 10] (by conv => lhs; simp) (by conv => lhs; simp) (by first | rfl | simp) (by first | rfl | simp) ?_
  refine s_loopn l.length (fun j fr σ => fr = [(1, .fn (.func 174) [] []), (5, i64 (s j)), (8, .lit (l.map eMark)), (9, i64 l.length), (10, i64 j)] ∧ σ = []) ?_ ⟨by simp [h0], rfl⟩
  rintro j fr σ hj ⟨rfl, rfl⟩ ih
  have h1 := hs j
  have h2 := hs (j + 1)
  have h3 := ps j
  refine s_round hc9 ?_
  repeat' (first | refine go ?_ | refine s_seq fun y9 hy9 => ?_ | refine qT _ ?_ ?_ | refine qG _ ?_ ?_ | refine qN ?_ ?_ | (refine QB.mk fun hb9 => ?_; (try simp only [hb9]); (try simp at hb9); first | (exfalso; omega) | subst hb9 | skip) | refine cE Tryz.func174 tOK fun R9 hR9 => ?_)
  · refine w_back 0 [1, 5, 8, 9, 10] (by conv => lhs; simp) (by conv => lhs; simp) (by first | rfl | simp) (by first | rfl | simp) ?_
    exact ih (by assumption) _ _ ⟨by simp [h3, hb9], rfl⟩
  · refine w_back 0 [1, 5, 8, 9, 10] (by conv => lhs; simp) (by conv => lhs; simp) (by first | rfl | simp) (by first | rfl | simp) ?_
    exact ih (by assumption) _ _ ⟨by simp [h3, hb9], rfl⟩
  · have : j = l.length := by omega
    subst this
    exact h
theorem fin_mk {l' l2 : List MarkV} {σ' : Store} {b g off len ty : Nat} (h : R (.ret (.lit (l2.map eMark))) σ) (hb : Store.at σ' b = some (.cells ty g (l'.map eMark))) (hl : off + len = l'.length) (e : l'.drop off = l2) : frzRe σ R (.ret (.ref b g off len)) σ' := by
  subst e
  refine f_ret (frz_row hb (by simp; omega) fun x hx => ?_) ?_
  · obtain ⟨a, _, rfl⟩ := List.mem_map.1 hx; simp
  · rw [← List.map_drop, List.take_of_length_le (by simp; omega)]; exact h
theorem C_addM {w : Int} {l : List MarkV} {m : MarkV} (hl : l.length ≤ 10000) (hw : -1000000 ≤ w) (hw2 : w ≤ 1000000) (h : R (.ret (.lit ((addM w l m).map eMark))) σ) : C tE 139 [i64 w, .lit (l.map eMark), eMark m] σ R := by
  refine C_pure tOK (by simp) ?_
  cases l with
  | nil =>
    refine s_body' Tryz.func139 tOK rfl (by conv => lhs; simp) (by conv => lhs; simp) (by conv => lhs; simp [Fr.args]) rfl (by conv => lhs; try simp) fun R9 hR9 => ?_
    repeat' (first | refine go ?_ | refine s_seq fun y9 hy9 => ?_ | refine qT _ ?_ ?_ | refine qG _ ?_ ?_ | refine qN ?_ ?_ | (refine QB.mk fun hb9 => ?_; (try simp only [hb9]); (try simp at hb9); first | (exfalso; omega) | subst hb9 | skip) | refine qD _ ?_ ?_ | (apply s_any' tOK tmix; exact rfl; iterate 4 (solve | (conv => lhs; try simp))) | (apply ra_two; iterate 3 exact rfl) | (apply ra_three; iterate 4 exact rfl) | refine cE Tryz.func85 tOK fun R9 hR9 => ?_)
    all_goals exact fin_mk (l' := [m]) (ty := 71) h (by simp) (by simp; omega) (by simp [addM])
  | cons x l =>
    simp at hl
    have hm := mf_eMark (x :: l)
    refine s_body' Tryz.func139 tOK rfl (by conv => lhs; simp) (by conv => lhs; simp) (by conv => lhs; simp [Fr.args]) rfl (by conv => lhs; try simp) fun R9 hR9 => ?_
    repeat' (first | refine go ?_ | refine s_seq fun y9 hy9 => ?_ | refine qT _ ?_ ?_ | refine qG _ ?_ ?_ | refine qN ?_ ?_ | (refine QB.mk fun hb9 => ?_; (try simp only [hb9]); (try simp at hb9); first | (exfalso; omega) | subst hb9 | skip) | refine qD _ ?_ ?_ | (apply s_any' tOK tmix; exact rfl; iterate 4 (solve | (conv => lhs; try simp))) | (apply ra_two; iterate 3 exact rfl) | (apply ra_three; iterate 4 exact rfl) | refine cE Tryz.func85 tOK fun R9 hR9 => ?_)
    all_goals exact fin_mk (l' := x :: l ++ [m]) (ty := 71) h (by simp) (by simp; omega) (by simp [addM])
end
end Go.Proofs.YtncbfppafgjdiaaGreat
end
section
/- Policies, sims and plants: copies, and new ones. -/
set_option linter.unusedVariables false
set_option linter.unusedSimpArgs false
set_option maxRecDepth 20000
namespace Go.Proofs.YtncbfppafgjdiaaGreat
open Go
attribute [local irreducible] T TL C RG DP SP YR afterRG DPcall
def lenP (p : PolV) : Prop := p.bands.length ≤ 10000 ∧ p.slots.length ≤ 10000
def lenS (x : SimV) : Prop := lenP x.pol ∧ x.plant.start.length ≤ 10000 ∧ x.marks.length ≤ 10000
section
variable {R : Re → Store → Prop} {σ : Store}
theorem C_fown {x : SimV} (hx : lenS x) (h : R (.ret (eSim x)) σ) : C tE 56 [eSim x] σ R := by
  obtain ⟨⟨h1, h2⟩, h3, h4⟩ := hx
  refine C_pure tOK (by simp) ?_
  refine s_body' Tryz.func56 tOK rfl (by conv => lhs; simp) (by conv => lhs; simp) (by conv => lhs; simp [Fr.args]) rfl (by conv => lhs; try simp) fun R9 hR9 => ?_
  repeat' (first | refine go ?_ | refine s_seq fun y9 hy9 => ?_ | refine qT _ ?_ ?_ | refine qG _ ?_ ?_ | refine qN ?_ ?_ | (refine QB.mk fun hb9 => ?_; (try simp only [hb9]); (try simp at hb9); first | (exfalso; omega) | subst hb9 | skip) | (refine nZ ?_; first | refine C_clone_eBand (by omega) ?_ | refine C_clone_eSlot (by omega) ?_ | refine C_clone_i64 (by omega) ?_ | refine C_clone_eMark (by omega) ?_))
  exact h
theorem C_plnew {n : Int} (h : R (.ret (ePlant (newPl n))) σ) : C tE 114 [i64 n] σ R := by
  refine C_pure tOK (by simp) ?_
  refine s_body' Tryz.func114 tOK rfl (by conv => lhs; simp) (by conv => lhs; simp) (by conv => lhs; simp [Fr.args]) rfl (by conv => lhs; try simp) fun R9 hR9 => ?_
  repeat' (first | refine go ?_ | refine s_seq fun y9 hy9 => ?_ | refine qT _ ?_ ?_ | refine qG _ ?_ ?_ | refine qN ?_ ?_ | (refine QB.mk fun hb9 => ?_; (try simp only [hb9]); (try simp at hb9); first | (exfalso; omega) | subst hb9 | skip))
  exact h
theorem C_fnew {p : PolV} {s : StaV} {x : HoldV} (hp : lenP p) (h : R (.ret (eSim (newSim p s x))) σ) : C tE 93 [ePol p, eSta s, eHold x] σ R := by
  have hl : lenS (newSim p s x) := ⟨hp, by simp [newSim, newPl], by simp [newSim]⟩
  refine C_pure tOK (by simp) ?_
  refine s_body' Tryz.func93 tOK rfl (by conv => lhs; simp) (by conv => lhs; simp) (by conv => lhs; simp [Fr.args]) rfl (by conv => lhs; try simp) fun R9 hR9 => ?_
  repeat' (first | refine go ?_ | refine s_seq fun y9 hy9 => ?_ | refine qT _ ?_ ?_ | refine qG _ ?_ ?_ | refine qN ?_ ?_ | (refine QB.mk fun hb9 => ?_; (try simp only [hb9]); (try simp at hb9); first | (exfalso; omega) | subst hb9 | skip) | refine sD tOK tmix [([],0),([],1),([],2),([],3),([3],4),([3,4],5),([0,1,2,3,4,5],6),([0,1,2,3,4,5,6],7),([0,1,2,3,4,5,6,7],8)] 6 ?_ | refine qD _ ?_ ?_ | (refine nZ ?_; first | refine C_plnew ?_ | refine (C_fown (x:=newSim p s x) hl) ?_) | (apply d_call []; exact rfl; (solve | (conv => lhs; try simp)); (solve | exact rfl | simp); (solve | (conv => lhs; try simp)); intro τ hτ; refine nZ ?_; first | exact C_plnew ⟨rfl, rfl⟩ | exact (C_fown (x:=newSim p s x) hl) ⟨rfl, rfl⟩))
  exact h
theorem C_pown {p : PolV} (hp : lenP p) (h : R (.ret (ePol p)) σ) : C tE 126 [ePol p] σ R := by
  obtain ⟨h1, h2⟩ := hp
  refine C_pure tOK (by simp) ?_
  refine s_body' Tryz.func126 tOK rfl (by conv => lhs; simp) (by conv => lhs; simp) (by conv => lhs; simp [Fr.args]) rfl (by conv => lhs; try simp) fun R9 hR9 => ?_
  repeat' (first | refine go ?_ | refine s_seq fun y9 hy9 => ?_ | refine qT _ ?_ ?_ | refine qG _ ?_ ?_ | refine qN ?_ ?_ | (refine QB.mk fun hb9 => ?_; (try simp only [hb9]); (try simp at hb9); first | (exfalso; omega) | subst hb9 | skip) | refine sD tOK tmix [([],0),([0],1),([0,1],2),([],3),([3],4),([0,1,2,3,4],5),([0,1,2,3,4],6),([0,1,2,3,4,5,6],7),([0,1,2,3,4,5,6,7],8),([0,1,2,3,4,5,6,7,8],9)] 7 ?_ | refine qD _ ?_ ?_ | (refine nZ ?_; first | refine C_clone_eBand (by omega) ?_ | refine C_clone_eSlot (by omega) ?_) | (apply d_call []; exact rfl; (solve | (conv => lhs; try simp)); (solve | exact rfl | simp); (solve | (conv => lhs; try simp)); intro τ hτ; refine nZ ?_; first | exact C_clone_eBand (by omega) ⟨rfl, rfl⟩ | exact C_clone_eSlot (by omega) ⟨rfl, rfl⟩))
  exact h
theorem R_pown {p : PolV} (hp : lenP p) (h : R (.ret (ePol p)) σ) : C tE 54 [ePol p] σ R := by
  obtain ⟨h1, h2⟩ := hp
  refine C_pure tOK (by simp) ?_
  refine s_body' Tryz.func54 tOK rfl (by conv => lhs; simp) (by conv => lhs; simp) (by conv => lhs; simp [Fr.args]) rfl (by conv => lhs; try simp) fun R9 hR9 => ?_
  repeat' (first | refine go ?_ | refine s_seq fun y9 hy9 => ?_ | refine qT _ ?_ ?_ | refine qG _ ?_ ?_ | refine qN ?_ ?_ | (refine QB.mk fun hb9 => ?_; (try simp only [hb9]); (try simp at hb9); first | (exfalso; omega) | subst hb9 | skip))
  exact h
theorem R_fown {x : SimV} (hx : lenS x) (h : R (.ret (eSim x)) σ) : C tE 46 [eSim x] σ R := by
  obtain ⟨h0, h3, h4⟩ := hx
  refine C_pure tOK (by simp) ?_
  refine s_body' Tryz.func46 tOK rfl (by conv => lhs; simp) (by conv => lhs; simp) (by conv => lhs; simp [Fr.args]) rfl (by conv => lhs; try simp) fun R9 hR9 => ?_
  repeat' (first | refine go ?_ | refine s_seq fun y9 hy9 => ?_ | refine qT _ ?_ ?_ | refine qG _ ?_ ?_ | refine qN ?_ ?_ | (refine QB.mk fun hb9 => ?_; (try simp only [hb9]); (try simp at hb9); first | (exfalso; omega) | subst hb9 | skip) | refine nZ ((R_pown h0) ?_))
  exact h
theorem R_plnew {n : Int} (h : R (.ret (ePlant (newPl n))) σ) : C tE 99 [i64 n] σ R := by
  have e : min (max n 0) 1000 = max 0 (min n 1000) := by omega
  refine C_pure tOK (by simp) ?_
  refine s_body' Tryz.func99 tOK rfl (by conv => lhs; simp) (by conv => lhs; simp) (by conv => lhs; simp [Fr.args]) rfl (by conv => lhs; try simp) fun R9 hR9 => ?_
  have F9 := @e
  repeat' (first | refine gf ?_ | refine s_seq fun y9 hy9 => ?_ | refine qT _ ?_ ?_ | refine qG _ ?_ ?_ | refine qN ?_ ?_ | (refine QB.mk fun hb9 => ?_; (try simp only [hb9]); (try simp at hb9); first | (exfalso; omega) | subst hb9 | skip))
  exact h
theorem R_fnew {p : PolV} {s : StaV} {x : HoldV} (hp : lenP p) (h : R (.ret (eSim (newSim p s x))) σ) : C tE 64 [ePol p, eSta s, eHold x] σ R := by
  have hl : lenS (newSim p s x) := ⟨hp, by simp [newSim, newPl], by simp [newSim]⟩
  refine C_pure tOK (by simp) ?_
  refine s_body' Tryz.func64 tOK rfl (by conv => lhs; simp) (by conv => lhs; simp) (by conv => lhs; simp [Fr.args]) rfl (by conv => lhs; try simp) fun R9 hR9 => ?_
  repeat' (first | refine go ?_ | refine s_seq fun y9 hy9 => ?_ | refine qT _ ?_ ?_ | refine qG _ ?_ ?_ | refine qN ?_ ?_ | (refine QB.mk fun hb9 => ?_; (try simp only [hb9]); (try simp at hb9); first | (exfalso; omega) | subst hb9 | skip) | refine sD tOK tmix [([],0),([],1),([],2),([],3),([3],4),([3,4],5),([0,1,2,3,4,5],6),([0,1,2,3,4,5,6],7),([0,1,2,3,4,5,6,7],8)] 6 ?_ | refine qD _ ?_ ?_ | (refine nZ ?_; first | refine R_plnew ?_ | refine (R_fown (x:=newSim p s x) hl) ?_) | (apply d_call []; exact rfl; (solve | (conv => lhs; try simp)); (solve | exact rfl | simp); (solve | (conv => lhs; try simp)); intro τ hτ; refine nZ ?_; first | exact R_plnew ⟨rfl, rfl⟩ | exact (R_fown (x:=newSim p s x) hl) ⟨rfl, rfl⟩))
  exact h
theorem C_cown1 {p : PolV} (hp : lenP p) (h : R (.ret (ePol p)) σ) : C tE 55 [ePol p] σ R := by
  have hl : lenS { pol := p } := ⟨hp, by simp, by simp⟩
  refine C_pure tOK (by simp) ?_
  refine s_body' Tryz.func55 tOK rfl (by conv => lhs; simp) (by conv => lhs; simp) (by conv => lhs; simp [Fr.args]) rfl (by conv => lhs; try simp) fun R9 hR9 => ?_
  repeat' (first | refine go ?_ | refine s_seq fun y9 hy9 => ?_ | refine qT _ ?_ ?_ | refine qG _ ?_ ?_ | refine qN ?_ ?_ | (refine QB.mk fun hb9 => ?_; (try simp only [hb9]); (try simp at hb9); first | (exfalso; omega) | subst hb9 | skip) | refine nZ ((C_fown (x:={pol:=p}) hl) ?_))
  exact h
end
end Go.Proofs.YtncbfppafgjdiaaGreat
end
section
/- Promotions, and who beats whom. -/
set_option linter.unusedVariables false
set_option linter.unusedSimpArgs false
set_option maxRecDepth 20000
namespace Go.Proofs.YtncbfppafgjdiaaGreat
open Go
attribute [local irreducible] T TL C RG DP SP YR afterRG DPcall
section
variable {R : Re → Store → Prop} {σ : Store}
theorem C_begin {c : ConfV} {id : Int} {p : PolV} {s : StaV} (hp : lenP p) (h : R (.ret (eProbe (beginPr c id p s))) σ) : C tE 113 [eConf c, i64 id, ePol p, eSta s] σ R := by
  refine C_pure tOK (by simp) ?_
  refine s_body' Tryz.func113 tOK rfl (by conv => lhs; simp) (by conv => lhs; simp) (by conv => lhs; simp [Fr.args]) rfl (by conv => lhs; try simp) fun R9 hR9 => ?_
  repeat' (first | refine go ?_ | refine s_seq fun y9 hy9 => ?_ | refine qT _ ?_ ?_ | refine qG _ ?_ ?_ | refine qN ?_ ?_ | (refine QB.mk fun hb9 => ?_; (try simp only [hb9]); (try simp at hb9); first | (exfalso; omega) | subst hb9 | skip) | refine sD tOK tmix [([],0),([0],1),([],2),([],3),([3],4),([],5),([0,1,2,3,4,5],6),([0,1,2,3,4,5,6],7)] 6 ?_ | refine qD _ ?_ ?_ | refine nZ ((C_pown hp) ?_) | (apply d_call []; exact rfl; (solve | (conv => lhs; try simp)); (solve | exact rfl | simp); (solve | (conv => lhs; try simp)); intro τ hτ; refine nZ ?_; first | exact (C_pown hp) ⟨rfl, rfl⟩))
  exact h
theorem C_ptick {p : ProbeV} {b : Bool} (hp : lenP p.pol) (h1 : -1000000000 ≤ p.left) (h2 : p.left ≤ 1000000000) (h3 : -1100000000 ≤ p.bad) (h4 : p.bad ≤ 1100000000) (h : R (.ret (eProbe (tickPr p b))) σ) : C tE 110 [eProbe p, .bool b] σ R := by
  unfold tickPr at h
  refine C_pure tOK (by simp) ?_
  refine s_body' Tryz.func110 tOK rfl (by conv => lhs; simp) (by conv => lhs; simp) (by conv => lhs; simp [Fr.args]) rfl (by conv => lhs; try simp) fun R9 hR9 => ?_
  repeat' (first | refine go ?_ | refine s_seq fun y9 hy9 => ?_ | refine qT _ ?_ ?_ | refine qG _ ?_ ?_ | refine qN ?_ ?_ | (refine QB.mk fun hb9 => ?_; (try simp only [hb9]); (try simp at hb9); first | (exfalso; omega) | subst hb9 | skip) | refine nZ ((C_pown hp) ?_))
  all_goals (refine fin_v h ?_; (try simp only []); (repeat' split); all_goals (first | rfl | (exfalso; omega) | (simp_all; done) | (simp_all; omega)))
theorem C_breached {c : ConfV} {p : ProbeV} (h : R (.ret (.bool (breachedPr c p))) σ) : C tE 105 [eConf c, eProbe p] σ R := by
  unfold breachedPr at h
  refine C_pure tOK (by simp) ?_
  refine s_body' Tryz.func105 tOK rfl (by conv => lhs; simp) (by conv => lhs; simp) (by conv => lhs; simp [Fr.args]) rfl (by conv => lhs; try simp) fun R9 hR9 => ?_
  repeat' (first | refine go ?_ | refine s_seq fun y9 hy9 => ?_ | refine qT _ ?_ ?_ | refine qG _ ?_ ?_ | refine qN ?_ ?_ | (refine QB.mk fun hb9 => ?_; (try simp only [hb9]); (try simp at hb9); first | (exfalso; omega) | subst hb9 | skip))
  all_goals (refine fin_v h ?_; (try simp only []); (repeat' split); all_goals (first | rfl | (exfalso; omega) | (simp_all; done) | (simp_all; omega)))
theorem C_over {c : ConfV} {p : ProbeV} (h : R (.ret (.bool (overPr c p))) σ) : C tE 111 [eConf c, eProbe p] σ R := by
  unfold overPr at h
  refine C_pure tOK (by simp) ?_
  refine s_body' Tryz.func111 tOK rfl (by conv => lhs; simp) (by conv => lhs; simp) (by conv => lhs; simp [Fr.args]) rfl (by conv => lhs; try simp) fun R9 hR9 => ?_
  repeat' (first | refine go ?_ | refine s_seq fun y9 hy9 => ?_ | refine qT _ ?_ ?_ | refine qG _ ?_ ?_ | refine qN ?_ ?_ | (refine QB.mk fun hb9 => ?_; (try simp only [hb9]); (try simp at hb9); first | (exfalso; omega) | subst hb9 | skip) | refine nZ (C_breached ?_))
  all_goals (refine fin_v h ?_; (try simp only []); (repeat' split); all_goals (first | rfl | (exfalso; omega) | (simp_all; done) | (simp_all; omega)))
theorem C_better {c : ConfV} {a b : List MarkV} (ha : a.length ≤ 10000) (hb : b.length ≤ 10000) (hca : ∀ m ∈ a, -1000000000 ≤ m.cost ∧ m.cost ≤ 1000000000) (hcb : ∀ m ∈ b, -1000000000 ≤ m.cost ∧ m.cost ≤ 1000000000) (hm : -1000000000 ≤ c.margin) (hm2 : c.margin ≤ 1000000000)
    (h : R (.ret (.bool (betterM c a b))) σ) : C tE 143 [eConf c, .lit (a.map eMark), .lit (b.map eMark)] σ R := by
  have h1 := psum_in (f := fun m : MarkV => m.cost) (b := 1000000000) (by decide) hca a.length
  have h2 := psum_in (f := fun m : MarkV => m.cost) (b := 1000000000) (by decide) hcb b.length
  rw [psum_all] at h1 h2
  have h1 : -(1000000000 * (a.length : Int)) ≤ costM a ∧ costM a ≤ 1000000000 * a.length := h1
  have h2 : -(1000000000 * (b.length : Int)) ≤ costM b ∧ costM b ≤ 1000000000 * b.length := h2
  have e1 : ∀ (n : Nat), n ≤ 10000 → n ≤ 100000 := fun n hn => by omega
  unfold betterM at h
  refine C_pure tOK (by simp) ?_
  refine s_body' Tryz.func143 tOK rfl (by conv => lhs; simp) (by conv => lhs; simp) (by conv => lhs; simp [Fr.args]) rfl (by conv => lhs; try simp) fun R9 hR9 => ?_
  repeat' (first | refine go ?_ | refine s_seq fun y9 hy9 => ?_ | refine qT _ ?_ ?_ | refine qG _ ?_ ?_ | refine qN ?_ ?_ | (refine QB.mk fun hb9 => ?_; (try simp only [hb9]); (try simp at hb9); first | (exfalso; omega) | subst hb9 | skip) | refine sD tOK tmix [([],0),([0],1),([0,1],2),([0,1,2],3),([0,1],4),([0,1,4],5),([0,1,2,3,4,5],6),([0,1,2,3,4,5,6],7),([0,1,2,3,4,5,6,7],8),([0,1,2,3,4,5,6,7,8],9),([0,1,2,3,4,5,6,7,8,9],10),([0,1,2,3,4,5,6,7,8],11),([0,1,2,3,4,5,6,7,8,11],12),([0,1,2,3,4,5,6,7,8,9,10,11,12],13),([0,1,2,3,4,5,6,7,8],14),([0,1,2,3,4,5,6,7,8,9,10,14],15),([0,1,2,3,4,5,6,7,8,9,10,11,12,13,14,15],16),([0,1,2,3,4,5,6,7,8,9,10,11,12,13,14,15,16],17),([0,1,2,3,4,5,6,7,8,9,10,11,12,13,14,15,16,17],18)] 16 ?_ | refine qD _ ?_ ?_ | (refine nZ ?_; first | refine (C_bad (e1 _ ha)) ?_ | refine (C_bad (e1 _ hb)) ?_ | refine (C_cost (e1 _ ha) hca) ?_ | refine (C_cost (e1 _ hb) hcb) ?_) | (apply d_call []; exact rfl; (solve | (conv => lhs; try simp)); (solve | exact rfl | simp); (solve | (conv => lhs; try simp)); intro τ hτ; refine nZ ?_; first | exact (C_bad (e1 _ ha)) ⟨rfl, rfl⟩ | exact (C_bad (e1 _ hb)) ⟨rfl, rfl⟩ | exact (C_cost (e1 _ ha) hca) ⟨rfl, rfl⟩ | exact (C_cost (e1 _ hb) hcb) ⟨rfl, rfl⟩))
  all_goals (refine fin_v h ?_; (try simp only []); (repeat' split); all_goals (first | rfl | (exfalso; omega) | (simp_all; done) | (simp_all; omega)))
end
end Go.Proofs.YtncbfppafgjdiaaGreat
end
section
/- The document's marks and promotions. -/
set_option linter.unusedVariables false
set_option linter.unusedSimpArgs false
set_option maxRecDepth 20000
namespace Go.Proofs.YtncbfppafgjdiaaGreat
open Go
attribute [local irreducible] T TL C RG DP SP YR afterRG DPcall
section
variable {R : Re → Store → Prop} {σ : Store}
theorem R_cost {l : List MarkV} (hl : l.length ≤ 100000) (hb : ∀ m ∈ l, -1000000000 ≤ m.cost ∧ m.cost ≤ 1000000000) (h : R (.ret (i64 (costM l))) σ) : C tE 22 [.lit (l.map eMark)] σ R := by
  have hs := psum_in (f := fun m : MarkV => m.cost) (b := 1000000000) (by decide) hb
  have ps := psum_succ (fun m : MarkV => m.cost) rfl l
  have pa := psum_all (fun m : MarkV => m.cost) l
  unfold costM at h
  rw [← pa] at h
  have h0 := psum_zero (fun m : MarkV => m.cost) l
  generalize psum (fun m : MarkV => m.cost) l = s at *
  refine C_pure tOK (by simp) ?_
  refine s_body' Tryz.func22 tOK rfl (by conv => lhs; simp) (by conv => lhs; simp) (by conv => lhs; simp [Fr.args]) rfl (by conv => lhs; try simp) fun R9 hR9 => ?_
  repeat' (first | refine go ?_ | refine s_seq fun y9 hy9 => ?_ | refine qT _ ?_ ?_ | refine qG _ ?_ ?_ | refine qN ?_ ?_ | (refine QB.mk fun hb9 => ?_; (try simp only [hb9]); (try simp at hb9); first | (exfalso; omega) | subst hb9 | skip))
  refine s_loop fun c9 hc9 => ?_
  refine w_trim 0 [0, 3, 4] (by conv => lhs; simp) (by conv => lhs; simp) (by first | rfl | simp) (by first | rfl | simp) ?_
  refine s_loopn (l.length) (fun j fr σ => fr = [(0, .lit (l.map eMark)), (3, i64 (s j)), (4, i64 j)] ∧ σ = []) ?_ ⟨by simp [h0], by first | rfl | simp [h0]⟩
  rintro j fr σ hj ⟨rfl, rfl⟩ ih
  have h1 := hs j
  have h2 := hs (j + 1)
  have h3 := ps j
  refine s_round hc9 ?_
  repeat' (first | refine go ?_ | refine s_seq fun y9 hy9 => ?_ | refine qT _ ?_ ?_ | refine qG _ ?_ ?_ | refine qN ?_ ?_ | (refine QB.mk fun hb9 => ?_; (try simp only [hb9]); (try simp at hb9); first | (exfalso; omega) | subst hb9 | skip))
  · (refine w_back 0 [0, 3, 4] (by conv => lhs; simp) (by conv => lhs; simp) (by first | rfl | simp) (by first | rfl | simp) ?_; exact ih (by assumption) _ _ ⟨by first | (simp [h3]; done) | (simp [h3]; omega), by first | rfl | (simp [h3]; done)⟩)
  · have : j = l.length := by omega
    subst this
    exact h
theorem R_bad {l : List MarkV} (hl : l.length ≤ 100000) (h : R (.ret (i64 (badM l))) σ) : C tE 19 [.lit (l.map eMark)] σ R := by
  have hs := psum_in (f := fun m : MarkV => if m.bad then (1 : Int) else 0) (b := 1) (l := l) (by decide) (fun m _ => by cases m.bad <;> simp)
  have ps := psum_succ (fun m : MarkV => if m.bad then (1 : Int) else 0) rfl l
  have pa := psum_all (fun m : MarkV => if m.bad then (1 : Int) else 0) l
  unfold badM at h
  rw [← pa] at h
  have h0 := psum_zero (fun m : MarkV => if m.bad then (1 : Int) else 0) l
  generalize psum (fun m : MarkV => if m.bad then (1 : Int) else 0) l = s at *
  refine C_pure tOK (by simp) ?_
  refine s_body' Tryz.func19 tOK rfl (by conv => lhs; simp) (by conv => lhs; simp) (by conv => lhs; simp [Fr.args]) rfl (by conv => lhs; try simp) fun R9 hR9 => ?_
  repeat' (first | refine go ?_ | refine s_seq fun y9 hy9 => ?_ | refine qT _ ?_ ?_ | refine qG _ ?_ ?_ | refine qN ?_ ?_ | (refine QB.mk fun hb9 => ?_; (try simp only [hb9]); (try simp at hb9); first | (exfalso; omega) | subst hb9 | skip))
  refine s_loop fun c9 hc9 => ?_
  refine w_trim 0 [0, 3, 4] (by conv => lhs; simp) (by conv => lhs; simp) (by first | rfl | simp) (by first | rfl | simp) ?_
  refine s_loopn (l.length) (fun j fr σ => fr = [(0, .lit (l.map eMark)), (3, i64 (s j)), (4, i64 j)] ∧ σ = []) ?_ ⟨by simp [h0], by first | rfl | simp [h0]⟩
  rintro j fr σ hj ⟨rfl, rfl⟩ ih
  have h1 := hs j
  have h2 := hs (j + 1)
  have h3 := ps j
  refine s_round hc9 ?_
  repeat' (first | refine go ?_ | refine s_seq fun y9 hy9 => ?_ | refine qT _ ?_ ?_ | refine qG _ ?_ ?_ | refine qN ?_ ?_ | (refine QB.mk fun hb9 => ?_; (try simp only [hb9]); (try simp at hb9); first | (exfalso; omega) | subst hb9 | skip))
  · (refine w_back 0 [0, 3, 4] (by conv => lhs; simp) (by conv => lhs; simp) (by first | rfl | simp) (by first | rfl | simp) ?_; exact ih (by assumption) _ _ ⟨by first | (simp [h3,hb9]; done) | (simp [h3,hb9]; omega), by first | rfl | (simp [h3,hb9]; done)⟩)
  · (refine w_back 0 [0, 3, 4] (by conv => lhs; simp) (by conv => lhs; simp) (by first | rfl | simp) (by first | rfl | simp) ?_; exact ih (by assumption) _ _ ⟨by first | (simp [h3,hb9]; done) | (simp [h3,hb9]; omega), by first | rfl | (simp [h3,hb9]; done)⟩)
  · have : j = l.length := by omega
    subst this
    exact h
theorem R_better {c : ConfV} {a b : List MarkV} (ha : a.length ≤ 10000) (hb : b.length ≤ 10000) (hca : ∀ m ∈ a, -1000000000 ≤ m.cost ∧ m.cost ≤ 1000000000) (hcb : ∀ m ∈ b, -1000000000 ≤ m.cost ∧ m.cost ≤ 1000000000) (hm : -1000000000 ≤ c.margin) (hm2 : c.margin ≤ 1000000000)
    (h : R (.ret (.bool (betterM c a b))) σ) : C tE 120 [eConf c, .lit (a.map eMark), .lit (b.map eMark)] σ R := by
  have h1 := psum_in (f := fun m : MarkV => m.cost) (b := 1000000000) (by decide) hca a.length
  have h2 := psum_in (f := fun m : MarkV => m.cost) (b := 1000000000) (by decide) hcb b.length
  rw [psum_all] at h1 h2
  have h1 : -(1000000000 * (a.length : Int)) ≤ costM a ∧ costM a ≤ 1000000000 * a.length := h1
  have h2 : -(1000000000 * (b.length : Int)) ≤ costM b ∧ costM b ≤ 1000000000 * b.length := h2
  have e1 : ∀ (n : Nat), n ≤ 10000 → n ≤ 100000 := fun n hn => by omega
  unfold betterM at h
  refine C_pure tOK (by simp) ?_
  refine s_body' Tryz.func120 tOK rfl (by conv => lhs; simp) (by conv => lhs; simp) (by conv => lhs; simp [Fr.args]) rfl (by conv => lhs; try simp) fun R9 hR9 => ?_
  repeat' (first | refine go ?_ | refine s_seq fun y9 hy9 => ?_ | refine qT _ ?_ ?_ | refine qG _ ?_ ?_ | refine qN ?_ ?_ | (refine QB.mk fun hb9 => ?_; (try simp only [hb9]); (try simp at hb9); first | (exfalso; omega) | subst hb9 | skip) | refine sD tOK tmix [([],0),([0],1),([],2),([2],3),([0,1,2,3],4),([0,1,2,3,4],5),([0,1,2,3,4,5],6),([0,1,2,3,4,5,6],7),([0,1,2,3,4,5],8),([0,1,2,3,4,5,8],9),([0,1,2,3,4,5,6,7,8,9],10),([0,1,2,3,4,5,6,7,8,9,10],11),([0,1,2,3,4,5,6,7,8,9,10,11],12),([0,1,2,3,4,5,6,7,8,9,10,11,12],13),([0,1,2,3,4,5,6,7,8,9,10,11,12,13],14),([0,1,2,3,4,5,6,7,8,9,10,11,12],15),([0,1,2,3,4,5,6,7,8,9,10,11,12,15],16),([0,1,2,3,4,5,6,7,8,9,10,11,12,13,14,15,16],17),([0,1,2,3,4,5,6,7,8,9,10,11,12,13,14,15,16,17],18),([0,1,2,3,4,5,6,7,8,9,10,11,12,13,14,15,16,17,18],19),([0,1,2,3,4,5,6,7,8,9,10,11,12,13,14,15,16,17,18,19],20),([0,1,2,3,4,5,6,7,8,9,10,11,12,13,14,15,16,17,18,19,20],21),([0,1,2,3,4,5,6,7,8,9,10,11,12,13,14,15,16,17,18,19],22),([0,1,2,3,4,5,6,7,8,9,10,11,12,13,14,15,16,17,18,19,22],23),([0,1,2,3,4,5,6,7,8,9,10,11,12,13,14,15,16,17,18,19,20,21,22,23],24),([0,1,2,3,4,5,6,7,8,9,10,11,12,13,14,15,16,17,18,19],25),([0,1,2,3,4,5,6,7,8,9,10,11,12,13,14,15,16,17,18,19,20,21,25],26),([0,1,2,3,4,5,6,7,8,9,10,11,12,13,14,15,16,17,18,19,20,21,22,23,24,25,26],27),([0,1,2,3,4,5,6,7,8,9,10,11,12,13,14,15,16,17,18,19,20,21,22,23,24,25,26,27],28),([0,1,2,3,4,5,6,7,8,9,10,11,12,13,14,15,16,17,18,19,20,21,22,23,24,25,26,27,28],29)] 27 ?_ | refine qD _ ?_ ?_ | (refine nZ ?_; first | refine (R_bad (e1 _ ha)) ?_ | refine (R_bad (e1 _ hb)) ?_ | refine (R_cost (e1 _ ha) hca) ?_ | refine (R_cost (e1 _ hb) hcb) ?_) | (apply d_call []; exact rfl; (solve | (conv => lhs; try simp)); (solve | exact rfl | simp); (solve | (conv => lhs; try simp)); intro τ hτ; refine nZ ?_; first | exact (R_bad (e1 _ ha)) ⟨rfl, rfl⟩ | exact (R_bad (e1 _ hb)) ⟨rfl, rfl⟩ | exact (R_cost (e1 _ ha) hca) ⟨rfl, rfl⟩ | exact (R_cost (e1 _ hb) hcb) ⟨rfl, rfl⟩))
  all_goals (refine fin_v h ?_; (try simp only []); (repeat' split); all_goals (first | rfl | (exfalso; omega) | (simp_all; done) | (simp_all; omega)))
theorem R_addM {w : Int} {l : List MarkV} {m : MarkV} (hl : l.length ≤ 10000) (hw : -1000000 ≤ w) (hw2 : w ≤ 1000000) (h : R (.ret (.lit ((addM w l m).map eMark))) σ) : C tE 49 [i64 w, .lit (l.map eMark), eMark m] σ R := by
  refine C_pure tOK (by simp) ?_
  refine s_body' Tryz.func49 tOK rfl (by conv => lhs; simp) (by conv => lhs; simp) (by conv => lhs; simp [Fr.args]) rfl (by conv => lhs; try simp) fun R9 hR9 => ?_
  repeat' (first | refine go ?_ | refine s_seq fun y9 hy9 => ?_ | refine qT _ ?_ ?_ | refine qG _ ?_ ?_ | refine qN ?_ ?_ | (refine QB.mk fun hb9 => ?_; (try simp only [hb9]); (try simp at hb9); first | (exfalso; omega) | subst hb9 | skip) | refine sD tOK tmix [([],0),([],4),([0,1],1),([],5),([3],2),([0,1,2,3,4],3),([0,1,2,3,4,5],6)] 5 ?_ | refine qD _ ?_ ?_)
  exact fin_mk (l' := l ++ [m]) (ty := 71) h (by simp) (by simp; omega) (by unfold addM; congr 1; omega)
theorem R_begin {c : ConfV} {id : Int} {p : PolV} {s : StaV} (hp : lenP p) (h : R (.ret (eProbe (beginPr c id p s))) σ) : C tE 103 [eConf c, i64 id, ePol p, eSta s] σ R := by
  refine C_pure tOK (by simp) ?_
  refine s_body' Tryz.func103 tOK rfl (by conv => lhs; simp) (by conv => lhs; simp) (by conv => lhs; simp [Fr.args]) rfl (by conv => lhs; try simp) fun R9 hR9 => ?_
  repeat' (first | refine go ?_ | refine s_seq fun y9 hy9 => ?_ | refine qT _ ?_ ?_ | refine qG _ ?_ ?_ | refine qN ?_ ?_ | (refine QB.mk fun hb9 => ?_; (try simp only [hb9]); (try simp at hb9); first | (exfalso; omega) | subst hb9 | skip) | refine sD tOK tmix [([],0),([0],1),([],2),([],3),([3],4),([],5),([0,1,2,3,4,5],6),([0,1,2,3,4,5,6],7)] 6 ?_ | refine qD _ ?_ ?_ | refine nZ ((R_pown hp) ?_) | (apply d_call []; exact rfl; (solve | (conv => lhs; try simp)); (solve | exact rfl | simp); (solve | (conv => lhs; try simp)); intro τ hτ; refine nZ ?_; first | exact (R_pown hp) ⟨rfl, rfl⟩))
  exact h
theorem R_ptick {p : ProbeV} {b : Bool} (hp : lenP p.pol) (h1 : -1000000000 ≤ p.left) (h2 : p.left ≤ 1000000000) (h3 : -1100000000 ≤ p.bad) (h4 : p.bad ≤ 1100000000) (h : R (.ret (eProbe (tickPr p b))) σ) : C tE 100 [eProbe p, .bool b] σ R := by
  have e : max (p.left - 1) 0 = max 0 (p.left - 1) := by omega
  unfold tickPr at h
  refine C_pure tOK (by simp) ?_
  refine s_body' Tryz.func100 tOK rfl (by conv => lhs; simp) (by conv => lhs; simp) (by conv => lhs; simp [Fr.args]) rfl (by conv => lhs; try simp) fun R9 hR9 => ?_
  have F9 := @e
  repeat' (first | refine gf ?_ | refine s_seq fun y9 hy9 => ?_ | refine qT _ ?_ ?_ | refine qG _ ?_ ?_ | refine qN ?_ ?_ | (refine QB.mk fun hb9 => ?_; (try simp only [hb9]); (try simp at hb9); first | (exfalso; omega) | subst hb9 | skip) | refine nZ ((R_pown hp) ?_))
  all_goals (refine fin_v h ?_; (try simp only []); (repeat' split); all_goals (first | rfl | (exfalso; omega) | (simp_all; done) | (simp_all; omega)))
theorem R_breached {c : ConfV} {p : ProbeV} (h : R (.ret (.bool (breachedPr c p))) σ) : C tE 65 [eConf c, eProbe p] σ R := by
  unfold breachedPr at h
  refine C_pure tOK (by simp) ?_
  refine s_body' Tryz.func65 tOK rfl (by conv => lhs; simp) (by conv => lhs; simp) (by conv => lhs; simp [Fr.args]) rfl (by conv => lhs; try simp) fun R9 hR9 => ?_
  repeat' (first | refine go ?_ | refine s_seq fun y9 hy9 => ?_ | refine qT _ ?_ ?_ | refine qG _ ?_ ?_ | refine qN ?_ ?_ | (refine QB.mk fun hb9 => ?_; (try simp only [hb9]); (try simp at hb9); first | (exfalso; omega) | subst hb9 | skip))
  all_goals (refine fin_v h ?_; (try simp only []); (repeat' split); all_goals (first | rfl | (exfalso; omega) | (simp_all; done) | (simp_all; omega)))
theorem R_over {c : ConfV} {p : ProbeV} (h : R (.ret (.bool (overPr c p))) σ) : C tE 101 [eConf c, eProbe p] σ R := by
  unfold overPr at h
  refine C_pure tOK (by simp) ?_
  refine s_body' Tryz.func101 tOK rfl (by conv => lhs; simp) (by conv => lhs; simp) (by conv => lhs; simp [Fr.args]) rfl (by conv => lhs; try simp) fun R9 hR9 => ?_
  repeat' (first | refine go ?_ | refine s_seq fun y9 hy9 => ?_ | refine qT _ ?_ ?_ | refine qG _ ?_ ?_ | refine qN ?_ ?_ | (refine QB.mk fun hb9 => ?_; (try simp only [hb9]); (try simp at hb9); first | (exfalso; omega) | subst hb9 | skip) | refine nZ (R_breached ?_))
  all_goals (refine fin_v h ?_; (try simp only []); (repeat' split); all_goals (first | rfl | (exfalso; omega) | (simp_all; done) | (simp_all; omega)))
theorem C_zero {p : PolV} (h : R (.ret (.bool (decide (p.kind = 0)))) σ) : C tE 87 [ePol p] σ R := by
  refine C_pure tOK (by simp) ?_
  refine s_body' Tryz.func87 tOK rfl (by conv => lhs; simp) (by conv => lhs; simp) (by conv => lhs; simp [Fr.args]) rfl (by conv => lhs; try simp) fun R9 hR9 => ?_
  repeat' (first | refine go ?_ | refine s_seq fun y9 hy9 => ?_ | refine qT _ ?_ ?_ | refine qG _ ?_ ?_ | refine qN ?_ ?_ | (refine QB.mk fun hb9 => ?_; (try simp only [hb9]); (try simp at hb9); first | (exfalso; omega) | subst hb9 | skip))
  all_goals (refine fin_v h ?_; (try simp only []); (repeat' split); all_goals (first | rfl | (exfalso; omega) | (simp_all; done) | (simp_all; omega)))
theorem R_zero {p : PolV} (h : R (.ret (.bool (decide (p.kind = 0)))) σ) : C tE 47 [ePol p] σ R := by
  refine C_pure tOK (by simp) ?_
  refine s_body' Tryz.func47 tOK rfl (by conv => lhs; simp) (by conv => lhs; simp) (by conv => lhs; simp [Fr.args]) rfl (by conv => lhs; try simp) fun R9 hR9 => ?_
  repeat' (first | refine go ?_ | refine s_seq fun y9 hy9 => ?_ | refine qT _ ?_ ?_ | refine qG _ ?_ ?_ | refine qN ?_ ?_ | (refine QB.mk fun hb9 => ?_; (try simp only [hb9]); (try simp at hb9); first | (exfalso; omega) | subst hb9 | skip))
  all_goals (refine fin_v h ?_; (try simp only []); (repeat' split); all_goals (first | rfl | (exfalso; omega) | (simp_all; done) | (simp_all; omega)))
end
end Go.Proofs.YtncbfppafgjdiaaGreat
end
section
/- Bands and slots. -/
set_option linter.unusedVariables false
set_option linter.unusedSimpArgs false
set_option maxRecDepth 20000
namespace Go.Proofs.YtncbfppafgjdiaaGreat
open Go
attribute [local irreducible] T TL C RG DP SP YR afterRG DPcall
theorem gt_cons {α : Type} [Inhabited α] (x : α) (l : List α) (k : Nat) : gt (x :: l) (k + 1) = gt l k := by simp [gt]
theorem gt_zero {α : Type} [Inhabited α] (x : α) (l : List α) : gt (x :: l) 0 = x := by simp [gt]
theorem findB_eq : ∀ {l : List BandV} {u : Int} {i : Nat}, i ≤ l.length → (∀ k, k < i → (gt l k).above ≤ u) → (∀ k, i ≤ k → k < l.length → u < (gt l k).above) → findB l u = i
  | [], u, i, hi, h1, h2 => by simp at hi; subst hi; rfl
  | x :: l, u, i, hi, h1, h2 => by
    unfold findB
    cases i with
    | zero =>
      have := h2 0 (by omega) (by simp)
      rw [gt_zero] at this
      rw [List.takeWhile_cons, if_neg (by simp; omega)]; rfl
    | succ i =>
      have := h1 0 (by omega)
      rw [gt_zero] at this
      rw [List.takeWhile_cons, if_pos (by simpa using this), List.length_cons]
      have := findB_eq (l := l) (u := u) (i := i) (by simpa using hi) (fun k hk => by have := h1 (k + 1) (by omega); rwa [gt_cons] at this) (fun k hk hl => by have := h2 (k + 1) (by omega) (by simpa using hl); rwa [gt_cons] at this)
      unfold findB at this
      rw [this]
def upB (l : List BandV) : Prop := ∀ i j, i < j → j < l.length → (gt l i).above < (gt l j).above
theorem rev_gt {α : Type} [Inhabited α] {l : List α} {j : Nat} (hj : j < l.length) {h : j < l.reverse.length} : l.reverse[j] = gt l (l.length - 1 - j) := by
  have : l.length - 1 - j < l.length := by omega
  simp [gt, this]
theorem findB_lo : ∀ (l : List BandV) (u : Int) (k : Nat), k < findB l u → (gt l k).above ≤ u
  | [], u, k, h => by simp [findB] at h
  | x :: l, u, k, h => by
    unfold findB at h
    rw [List.takeWhile_cons] at h
    split at h
    · rename_i hx
      cases k with
      | zero => rw [gt_zero]; simpa using hx
      | succ k => rw [gt_cons]; exact findB_lo l u k (by simpa [findB] using h)
    · simp at h
theorem findB_hi : ∀ (l : List BandV) (u : Int), findB l u < l.length → u < (gt l (findB l u)).above
  | [], u, h => by simp at h
  | x :: l, u, h => by
    unfold findB at h ⊢
    rw [List.takeWhile_cons] at h ⊢
    split
    · rename_i hx
      rw [if_pos hx] at h
      simp only [List.length_cons] at h ⊢
      rw [gt_cons]; exact findB_hi l u (by simpa [findB] using h)
    · rename_i hx
      simp only [List.length_nil]
      rw [gt_zero]; simpa using hx
theorem findB_iff {l : List BandV} {u : Int} (hs : upB l) (k : Nat) (hk : k < l.length) : (gt l k).above ≤ u ↔ k < findB l u := by
  constructor
  · intro h
    rcases Nat.lt_or_ge k (findB l u) with h1 | h1
    · exact h1
    · have h2 := findB_hi l u (by omega)
      rcases Nat.lt_or_ge (findB l u) k with h3 | h3
      · have := hs _ k h3 hk; omega
      · have : k = findB l u := by omega
        rw [← this] at h2; omega
  · exact findB_lo l u k
section
variable {R : Re → Store → Prop} {σ : Store}
theorem C_bsearch {l : List BandV} {u : Int} (hl : l.length ≤ 10000) (hs : upB l) (h : R (.ret (.tup [i64 (findB l u), .bool false])) σ) : C tE 165 [.lit (l.map eBand), i64 u, .fn (.func 166) [] []] σ R := by
  refine C_pure tOK (by simp) ?_
  refine s_body' Tryz.func165 tOK rfl (by conv => lhs; simp) (by conv => lhs; simp) (by conv => lhs; simp [Fr.args]) rfl (by conv => lhs; try simp) fun R9 hR9 => ?_
  repeat' (first | refine go ?_ | refine s_seq fun y9 hy9 => ?_ | refine qT _ ?_ ?_ | refine qG _ ?_ ?_ | refine qN ?_ ?_ | (refine QB.mk fun hb9 => ?_; (try simp only [hb9]); (try simp at hb9); first | (exfalso; omega) | subst hb9 | skip))
  refine s_loop fun c9 hc9 => ?_
  refine w_trim 0 [0, 1, 2, 8, 9, 10] (by conv => lhs; simp) (by conv => lhs; simp) (by first | rfl | simp) (by first | rfl | simp) ?_
  refine s_loopn l.length (fun r fr σ => ∃ a b : Nat, fr = [(0, .lit (l.map eBand)), (1, i64 u), (2, .fn (.func 166) [] []), (8, i64 l.length), (9, i64 a), (10, i64 b)] ∧ σ = [] ∧ a ≤ b ∧ b ≤ l.length ∧ b - a + r ≤ l.length ∧ (∀ k, k < a → (gt l k).above ≤ u) ∧ (∀ k, b ≤ k → k < l.length → u < (gt l k).above)) ?_
    ⟨0, l.length, rfl, rfl, by omega, by omega, by omega, fun k hk => by omega, fun k hk hk2 => by omega⟩
  rintro r fr σ hr ⟨a, b, rfl, rfl, k1, k2, k3, ha, hb⟩ ih
  obtain ⟨m, hm⟩ : ∃ m : Nat, (a + b) / 2 = m := ⟨_, rfl⟩
  have hf : ((a : Int) + b).fdiv 2 = m := by rw [Int.fdiv_eq_ediv_of_nonneg _ (by decide)]; omega
  have e : (2 : Int) ^ min 1 IntKind.u64.bits = 2 := by decide
  refine s_round hc9 ?_
  have F9 := And.intro @e <| @hf
  repeat' (first | refine gf ?_ | refine s_seq fun y9 hy9 => ?_ | refine qT _ ?_ ?_ | refine qG _ ?_ ?_ | refine qN ?_ ?_ | (refine QB.mk fun hb9 => ?_; (try simp only [hb9]); (try simp at hb9); first | (exfalso; omega) | subst hb9 | skip) | refine cE Tryz.func166 tOK fun R9 hR9 => ?_)
  · refine w_back 0 [0, 1, 2, 8, 9, 10] (by conv => lhs; simp) (by conv => lhs; simp) (by rfl) (by first | rfl | simp) ?_
    refine ih (by omega) _ _ ⟨m + 1, b, by simp, rfl, by omega, k2, by omega, fun k hk => ?_, hb⟩
    rcases Nat.lt_or_ge k m with h1 | h1
    · have := hs k m h1 (by omega); omega
    · have : k = m := by omega
      subst this; assumption
  · refine w_back 0 [0, 1, 2, 8, 9, 10] (by conv => lhs; simp) (by conv => lhs; simp) (by rfl) (by first | rfl | simp) ?_
    refine ih (by omega) _ _ ⟨a, m, by simp, rfl, by omega, by omega, by omega, ha, fun k hk hl => ?_⟩
    rcases Nat.lt_or_ge m k with h1 | h1
    · have := hs m k h1 (by omega); omega
    · have : k = m := by omega
      subst this; assumption
  all_goals
    have hab : a = b := by omega
    subst hab
    rw [findB_eq k2 ha hb] at h
    exact h
theorem C_sfind {l : List BandV} {u : Int} (hl : l.length ≤ 10000) (hs : upB l) (h : R (.ret (i64 (findB l u - 1))) σ) : C tE 150 [.lit (l.map eBand), i64 u] σ R := by
  have hb : findB l u ≤ l.length := (List.takeWhile_sublist _).length_le
  refine s_body' Tryz.func150 tOK rfl (by conv => lhs; simp) (by conv => lhs; simp) (by conv => lhs; simp [Fr.args]) rfl (by conv => lhs; try simp) fun R9 hR9 => ?_
  repeat' (first | refine go ?_ | refine s_seq fun y9 hy9 => ?_ | refine qT _ ?_ ?_ | refine qG _ ?_ ?_ | refine qN ?_ ?_ | (refine QB.mk fun hb9 => ?_; (try simp only [hb9]); (try simp at hb9); first | (exfalso; omega) | subst hb9 | skip) | refine nZ ((C_bsearch hl hs) ?_))
  exact h
theorem C_swant {l : List BandV} {c u : Int} (hl : l.length ≤ 10000) (hs : upB l) (hd : ∀ b ∈ l, -1000000 ≤ b.delta ∧ b.delta ≤ 1000000) (h : R (.ret (i64 (stepW l c u))) σ) : C tE 133 [.lit (l.map eBand), i64 c, i64 u] σ R := by
  have hb : findB l u ≤ l.length := (List.takeWhile_sublist _).length_le
  have hq := gt_all (P := fun b : BandV => -1000000 ≤ b.delta ∧ b.delta ≤ 1000000) hd (by decide) (findB l u - 1)
  unfold stepW intoR at h
  refine C_pure tOK (by simp) ?_
  have hk : findB l u = 0 ∨ ∃ k, findB l u = k + 1 ∧ k < l.length := by
    rcases Nat.eq_zero_or_pos (findB l u) with h0 | h0
    · exact .inl h0
    · exact .inr ⟨findB l u - 1, by omega, by omega⟩
  rcases hk with h0 | ⟨k, h0, hlt⟩
  · rw [h0] at h
    refine s_body' Tryz.func133 tOK rfl (by conv => lhs; simp) (by conv => lhs; simp) (by conv => lhs; simp [Fr.args]) rfl (by conv => lhs; try simp) fun R9 hR9 => ?_
    have F9 := @h0
    repeat' (first | refine gf ?_ | refine s_seq fun y9 hy9 => ?_ | refine qT _ ?_ ?_ | refine qG _ ?_ ?_ | refine qN ?_ ?_ | (refine QB.mk fun hb9 => ?_; (try simp only [hb9]); (try simp at hb9); first | (exfalso; omega) | subst hb9 | skip) | refine cE Tryz.func149 tOK fun R9 hR9 => ?_ | refine nZ ((C_sfind hl hs) ?_))
    exact fin_i h (by split <;> simp)
  · rw [h0] at h hq
    simp only [Nat.add_sub_cancel, gq hlt] at h hq
    refine s_body' Tryz.func133 tOK rfl (by conv => lhs; simp) (by conv => lhs; simp) (by conv => lhs; simp [Fr.args]) rfl (by conv => lhs; try simp) fun R9 hR9 => ?_
    have F9 := @h0
    repeat' (first | refine gf ?_ | refine s_seq fun y9 hy9 => ?_ | refine qT _ ?_ ?_ | refine qG _ ?_ ?_ | refine qN ?_ ?_ | (refine QB.mk fun hb9 => ?_; (try simp only [hb9]); (try simp at hb9); first | (exfalso; omega) | subst hb9 | skip) | refine cE Tryz.func149 tOK fun R9 hR9 => ?_ | refine nZ ((C_sfind hl hs) ?_))
    exact fin_i h (by simp)
theorem C_sat_ {p t : Int} (hp : 1 ≤ p) (hp2 : p ≤ 1099511627776) (h : R (.ret (i64 (schedAt p t))) σ) : C tE 155 [i64 p, i64 t] σ R := by
  have h1 := Int.tmod_lt_of_pos t (show 0 < p by omega)
  have h2 : -p < t.tmod p := by have := Int.tmod_lt_of_pos (-t) (show 0 < p by omega); rw [Int.neg_tmod] at this; omega
  have h3 : (t.tmod p + p).tmod p = schedAt p t := by
    rw [Int.tmod_eq_emod_of_nonneg (by omega)]
    unfold schedAt
    rw [Int.add_emod_right]
    have := Int.tmod_add_mul_tdiv t p
    rw [show t.tmod p = t + p * (-(t.tdiv p)) by rw [Int.mul_neg]; omega, Int.add_mul_emod_self_left]
  refine s_body' Tryz.func155 tOK rfl (by conv => lhs; simp) (by conv => lhs; simp) (by conv => lhs; simp [Fr.args]) rfl (by conv => lhs; try simp) fun R9 hR9 => ?_
  have F9 := @h3
  repeat' (first | refine gf ?_ | refine s_seq fun y9 hy9 => ?_ | refine qT _ ?_ ?_ | refine qG _ ?_ ?_ | refine qN ?_ ?_ | (refine QB.mk fun hb9 => ?_; (try simp only [hb9]); (try simp at hb9); first | (exfalso; omega) | subst hb9 | skip))
  exact h
theorem C_schwant {p t : Int} {l : List SlotV} (hl : l.length ≤ 10000) (hp : 1 ≤ p) (hp2 : p ≤ 1099511627776) (h : R (.ret (i64 (schedW p l t))) σ) : C tE 137 [i64 p, .lit (l.map eSlot), i64 t] σ R := by
  refine C_pure tOK (by simp) ?_
  refine z_enter Tryz.func137 tOK rfl (by conv => lhs; simp) (by conv => lhs; simp) (by conv => lhs; simp [Fr.args]) rfl fun R9 hR9 => ?_
  repeat' (first | ((with_reducible refine iRG ?_); first | (apply o_yield; exact rfl; (solve | (conv => lhs; try simp)); (solve | (conv => lhs; try simp))) | (apply o_move; exact rfl) | (apply o_assign; exact rfl) | (apply o_load; exact rfl; exact rfl; (solve | exact rfl | (conv => lhs; simp))) | (apply o_fa; exact rfl; exact rfl; exact rfl; (solve | (conv => lhs; try simp))) | (apply o_bin; exact rfl; exact rfl; exact rfl; exact rfl; (solve | (conv => lhs; try simp; try simp (disch := omega) only [wi64, wu64, dect, decf, beqt, beqf, bnet, bnef, ift, iff_, ipt, ipf, wtdiv, gq]; try simp))) | (apply o_store; exact rfl; exact rfl; exact rfl; (solve | exact rfl | (conv => lhs; simp))) | (apply o_nilCheck; exact rfl; (solve | exact rfl | simp)) | (apply g_run; exact rfl) | (apply g_not; exact rfl) | (apply g_skip; exact rfl) | (apply g_if; exact rfl; all_goals (intro hb9; ((try simp only [hb9]); (try simp at hb9); first | (exfalso; omega) | subst hb9 | skip))) | (apply o_op; exact rfl; exact rfl; (solve | (conv => lhs; try simp; try simp (disch := omega) only [wi64, wu64, dect, decf, beqt, beqf, bnet, bnef, ift, iff_, ipt, ipf, wtdiv, gq]; try simp))) | (apply o_op0; exact rfl; exact rfl; (solve | (conv => lhs; try simp; try simp (disch := omega) only [wi64, wu64, dect, decf, beqt, beqf, bnet, bnef, ift, iff_, ipt, ipf, wtdiv, gq]; try simp))) | (apply o_call; exact rfl; (solve | (conv => lhs; try simp))) | (apply o_nil1; exact rfl; (solve | (conv => lhs; try simp))) | (apply o_nil2; exact rfl; (solve | (conv => lhs; try simp))) | (apply w_end; exact rfl)) | ((with_reducible refine iT ?_); first | refine s_seq fun y9 hy9 => ?_ | (apply s_reg' tOK; exact rfl; (solve | (conv => lhs; simp))) | refine s_block ?_ | (apply w_ret; exact rfl) | (apply w_skip; exact rfl) | (apply w_exit; exact rfl) | (apply s_ift; exact rfl) | (apply s_iff; exact rfl) | (apply T_if; exact rfl; all_goals (intro hb9; ((try simp only [hb9]); (try simp at hb9); first | (exfalso; omega) | subst hb9 | skip)))) | ((with_reducible refine iSP ?_); first | (apply s_next; assumption) | (apply r_fin; (solve | (conv => lhs; try simp)); (solve | (conv => lhs; try simp))) | (apply n_fin; (solve | (conv => lhs; try simp)); (solve | (conv => lhs; try simp))) | (apply zt_end; exact rfl) | (apply y_bound; exact rfl; assumption; (solve | (conv => lhs; try simp))) | (apply y_on; exact rfl; (solve | (conv => lhs; try simp))) | (apply y_ret; exact rfl; (solve | (conv => lhs; try simp))) | (apply y_exit; exact rfl; (solve | (conv => lhs; try simp)))) | ((with_reducible refine iA ?_); first | refine a_ret ?_ | refine a_ret0 ?_) | ((with_reducible refine iC ?_); first | refine (C_sat_ hp hp2) ?_ | (refine c_nz (by first | (solve | (conv => lhs; simp)) | rfl) ((C_sat_ hp hp2) ?_)) | (refine s_body' Tryz.func156 tOK rfl (by conv => lhs; simp) (by conv => lhs; simp) (by conv => lhs; simp [Fr.args]) rfl (by conv => lhs; try simp) fun R9 hR9 => ?_) | (refine s_body' Tryz.func171 tOK rfl (by conv => lhs; simp) (by conv => lhs; simp) (by conv => lhs; simp [Fr.args]) rfl (by conv => lhs; try simp) fun R9 hR9 => ?_)) | ((with_reducible refine iTZ ?_); first | refine z_seq fun y9 hy9 => ?_ | refine z_block ?_ | (apply z_range tOK [6,7]; exact rfl; exact rfl; (solve | (conv => lhs; try simp)); (solve | (conv => lhs; try simp)); intro l9 as9 bd9 has9 hbd9 args9 τ9 hargs9 hτ9; simp at hargs9 hτ9; subst hargs9 hτ9) | (apply z_T; (solve | (conv => lhs; try simp)))) | ((with_reducible refine iSD ?_); first | (apply z_next; assumption) | (apply zd_ret; (solve | (conv => lhs; try simp)); (solve | (conv => lhs; try simp))) | (apply zd_normal; (solve | (conv => lhs; try simp)); (solve | (conv => lhs; try simp))) | refine zm_normal ?_ | refine zm_ret ?_) | (apply z_over; exact rfl; exact rfl; (solve | (conv => lhs; try simp))) | (apply z_left; exact rfl; exact rfl; (solve | (conv => lhs; try simp))) | (apply y_walk (b := 3); exact rfl; assumption; exact rfl; exact rfl; (solve | (conv => lhs; try simp)); (solve | (conv => lhs; try simp))) | (apply s_R; assumption) | (apply f_ret; (solve | (conv => lhs; try simp))))
  refine s_loop fun c9 hc9 => ?_
  refine w_trim 4 [0, 1, 3] (by conv => lhs; simp) (by conv => lhs; simp) (by first | rfl | simp) (by first | rfl | simp) ?_
  refine s_loopn (l.length) (fun j fr σ => fr = [(0, .fn (.yield l9) [] []), (1, .ptr 2 0 0 []), (3, i64 ((l.length : Int) - 1 - j))] ∧ σ = [some (.cells 3 0 [i64 0]), some (.cells 2 0 [i64 (schedAt p t)]), some (.cells 28 0 [.lit (l.map eSlot)]), some (.loop l9 .ready none 23 [(6, .ptr 0 0 0 []), (7, .ptr 1 0 0 [])] #[15, 16] as9 bd9)] ∧ ∀ k, k < j → ¬ (gt l (l.length - 1 - k)).from_ ≤ schedAt p t) ?_ ⟨by simp, by first | rfl | simp, by first | (intros; omega) | simp⟩
  rintro j fr σ hj ⟨rfl, rfl, hS⟩ ih
  have ex : ((l.length : Int) - 1 - j).toNat = l.length - 1 - j := by omega
  refine s_round hc9 ?_
  repeat' (first | ((with_reducible refine iRG ?_); first | (apply o_yield; exact rfl; (solve | (conv => lhs; try simp [ex])); (solve | (conv => lhs; try simp [ex]))) | (apply o_move; exact rfl) | (apply o_assign; exact rfl) | (apply o_load; exact rfl; exact rfl; (solve | exact rfl | (conv => lhs; simp [ex]))) | (apply o_fa; exact rfl; exact rfl; exact rfl; (solve | (conv => lhs; try simp [ex]))) | (apply o_bin; exact rfl; exact rfl; exact rfl; exact rfl; (solve | (conv => lhs; try simp [ex]; try simp (disch := omega) only [wi64, wu64, dect, decf, beqt, beqf, bnet, bnef, ift, iff_, ipt, ipf, wtdiv, gq]; try simp [ex]))) | (apply o_store; exact rfl; exact rfl; exact rfl; (solve | exact rfl | (conv => lhs; simp [ex]))) | (apply o_nilCheck; exact rfl; (solve | exact rfl | simp)) | (apply g_run; exact rfl) | (apply g_not; exact rfl) | (apply g_skip; exact rfl) | (apply g_if; exact rfl; all_goals (intro hb9; ((try simp only [hb9]); (try simp at hb9); first | (exfalso; omega) | subst hb9 | skip))) | (apply o_op; exact rfl; exact rfl; (solve | (conv => lhs; try simp [ex]; try simp (disch := omega) only [wi64, wu64, dect, decf, beqt, beqf, bnet, bnef, ift, iff_, ipt, ipf, wtdiv, gq]; try simp [ex]))) | (apply o_op0; exact rfl; exact rfl; (solve | (conv => lhs; try simp [ex]; try simp (disch := omega) only [wi64, wu64, dect, decf, beqt, beqf, bnet, bnef, ift, iff_, ipt, ipf, wtdiv, gq]; try simp [ex]))) | (apply o_call; exact rfl; (solve | (conv => lhs; try simp [ex]))) | (apply o_nil1; exact rfl; (solve | (conv => lhs; try simp [ex]))) | (apply o_nil2; exact rfl; (solve | (conv => lhs; try simp [ex]))) | (apply w_end; exact rfl)) | ((with_reducible refine iT ?_); first | refine s_seq fun y9 hy9 => ?_ | (apply s_reg' tOK; exact rfl; (solve | (conv => lhs; simp))) | refine s_block ?_ | (apply w_ret; exact rfl) | (apply w_skip; exact rfl) | (apply w_exit; exact rfl) | (apply s_ift; exact rfl) | (apply s_iff; exact rfl) | (apply T_if; exact rfl; all_goals (intro hb9; ((try simp only [hb9]); (try simp at hb9); first | (exfalso; omega) | subst hb9 | skip)))) | ((with_reducible refine iSP ?_); first | (apply s_next; assumption) | (apply r_fin; (solve | (conv => lhs; try simp [ex])); (solve | (conv => lhs; try simp [ex]))) | (apply n_fin; (solve | (conv => lhs; try simp [ex])); (solve | (conv => lhs; try simp [ex]))) | (apply zt_end; exact rfl) | (apply y_bound; exact rfl; assumption; (solve | (conv => lhs; try simp [ex]))) | (apply y_on; exact rfl; (solve | (conv => lhs; try simp [ex]))) | (apply y_ret; exact rfl; (solve | (conv => lhs; try simp [ex]))) | (apply y_exit; exact rfl; (solve | (conv => lhs; try simp [ex])))) | ((with_reducible refine iA ?_); first | refine a_ret ?_ | refine a_ret0 ?_) | ((with_reducible refine iTZ ?_); first | refine z_seq fun y9 hy9 => ?_ | refine z_block ?_ | (apply z_range tOK [6,7]; exact rfl; exact rfl; (solve | (conv => lhs; try simp [ex])); (solve | (conv => lhs; try simp [ex])); intro l9 as9 bd9 has9 hbd9 args9 τ9 hargs9 hτ9; simp at hargs9 hτ9; subst hargs9 hτ9) | (apply z_T; (solve | (conv => lhs; try simp [ex])))) | ((with_reducible refine iSD ?_); first | (apply z_next; assumption) | (apply zd_ret; (solve | (conv => lhs; try simp [ex])); (solve | (conv => lhs; try simp [ex]))) | (apply zd_normal; (solve | (conv => lhs; try simp [ex])); (solve | (conv => lhs; try simp [ex]))) | refine zm_normal ?_ | refine zm_ret ?_) | (apply z_over; exact rfl; exact rfl; (solve | (conv => lhs; try simp [ex]))) | (apply z_left; exact rfl; exact rfl; (solve | (conv => lhs; try simp [ex]))) | (apply y_walk (b := 3); exact rfl; assumption; exact rfl; exact rfl; (solve | (conv => lhs; try simp [ex])); (solve | (conv => lhs; try simp [ex]))) | (apply s_R; assumption) | (apply f_ret; (solve | (conv => lhs; try simp [ex]))))
  · have e : (l.reverse.find? fun s => decide (s.from_ ≤ schedAt p t)) = some (gt l (l.length - 1 - j)) := by
      have hjl : j < l.reverse.length := by simp; omega
      rw [List.find?_eq_some_iff_getElem]
      refine ⟨by simpa using hb9, j, hjl, rev_gt (by omega), fun k hk => ?_⟩
      rw [rev_gt (by omega)]
      simpa using hS k hk
    exact fin_i h (by unfold schedW; rw [e]; rfl)
  · refine w_back 4 [0, 1, 3] (by conv => lhs; simp) (by conv => lhs; simp) (by rfl) (by first | rfl | simp) ?_
    refine ih (by omega) _ _ ⟨by simp; omega, rfl, fun k hk => ?_⟩
    rcases Nat.lt_or_ge k j with h1 | h1
    · exact hS k h1
    · have : k = j := by omega
      subst this; omega
  · have e : (l.reverse.find? fun s => decide (s.from_ ≤ schedAt p t)) = none := by
      rw [List.find?_eq_none]
      intro x hx
      obtain ⟨k, hk, rfl⟩ := List.getElem_of_mem hx
      have hk' : k < l.length := by simpa using hk
      rw [rev_gt hk']
      simpa using hS k (by omega)
    exact fin_i h (by unfold schedW; rw [e]; rfl)
theorem R_at {p t : Int} (hp : 1 ≤ p) (hp2 : p ≤ 1099511627776) (h : R (.ret (i64 (schedAt p t))) σ) : C tE 81 [i64 p, i64 t] σ R := by
  have h1 := Int.tmod_lt_of_pos t (show 0 < p by omega)
  have h2 : -p < t.tmod p := by have := Int.tmod_lt_of_pos (-t) (show 0 < p by omega); rw [Int.neg_tmod] at this; omega
  have h3 : (t.tmod p + p).tmod p = schedAt p t := by
    rw [Int.tmod_eq_emod_of_nonneg (by omega)]
    unfold schedAt
    rw [Int.add_emod_right]
    have := Int.tmod_add_mul_tdiv t p
    rw [show t.tmod p = t + p * (-(t.tdiv p)) by rw [Int.mul_neg]; omega, Int.add_mul_emod_self_left]
  refine s_body' Tryz.func81 tOK rfl (by conv => lhs; simp) (by conv => lhs; simp) (by conv => lhs; simp [Fr.args]) rfl (by conv => lhs; try simp) fun R9 hR9 => ?_
  repeat' (first | refine go ?_ | refine s_seq fun y9 hy9 => ?_ | refine qT _ ?_ ?_ | refine qG _ ?_ ?_ | refine qN ?_ ?_ | (refine QB.mk fun hb9 => ?_; (try simp only [hb9]); (try simp at hb9); first | (exfalso; omega) | subst hb9 | skip))
  · exact fin_i h (by rw [← h3, Int.tmod_eq_of_lt (by omega) (by omega)])
  · exact fin_i h (by rw [← h3, Int.tmod_eq_emod_of_nonneg (by omega), Int.add_emod_right, Int.emod_eq_of_lt (by omega) (by omega)])
theorem R_schwant {p t : Int} {l : List SlotV} (hl : l.length ≤ 10000) (hp : 1 ≤ p) (hp2 : p ≤ 1099511627776) (h : R (.ret (i64 (schedW p l t))) σ) : C tE 53 [i64 p, .lit (l.map eSlot), i64 t] σ R := by
  have hs : ∀ j, j < l.length → ((((l.take (j + 1)).reverse.find? fun s => decide (s.from_ ≤ schedAt p t)).map (·.n)).getD 0 = if (gt l j).from_ ≤ schedAt p t then (gt l j).n else (((l.take j).reverse.find? fun s => decide (s.from_ ≤ schedAt p t)).map (·.n)).getD 0) := fun j hj => by
    rw [List.take_add_one, gq hj, Option.toList, List.reverse_append]
    simp only [List.reverse_cons, List.reverse_nil, List.nil_append, List.singleton_append, List.find?_cons]
    split <;> rename_i hc <;> simp at hc
    · rw [if_pos hc]; rfl
    · rw [if_neg (by omega)]
  have hz : (((l.take l.length).reverse.find? fun s => decide (s.from_ ≤ schedAt p t)).map (·.n)).getD 0 = schedW p l t := by rw [List.take_length]; rfl
  have h0 : (((l.take 0).reverse.find? fun s => decide (s.from_ ≤ schedAt p t)).map (·.n)).getD 0 = 0 := rfl
  generalize hg : (fun j => (((l.take j).reverse.find? fun s => decide (s.from_ ≤ schedAt p t)).map (·.n)).getD 0) = q
  have hq : ∀ j, (((l.take j).reverse.find? fun s => decide (s.from_ ≤ schedAt p t)).map (·.n)).getD 0 = q j := fun j => by rw [← hg]
  simp only [hq] at hs hz h0
  clear hq hg
  refine C_pure tOK (by simp) ?_
  refine s_body' Tryz.func53 tOK rfl (by conv => lhs; simp) (by conv => lhs; simp) (by conv => lhs; simp [Fr.args]) rfl (by conv => lhs; try simp) fun R9 hR9 => ?_
  repeat' (first | refine go ?_ | refine s_seq fun y9 hy9 => ?_ | refine qT _ ?_ ?_ | refine qG _ ?_ ?_ | refine qN ?_ ?_ | (refine QB.mk fun hb9 => ?_; (try simp only [hb9]); (try simp at hb9); first | (exfalso; omega) | subst hb9 | skip) | refine nZ ((R_at hp hp2) ?_))
  refine s_loop fun c9 hc9 => ?_
  refine w_trim 0 [1, 7, 8, 9] (by conv => lhs; simp) (by conv => lhs; simp) (by first | rfl | simp) (by first | rfl | simp) ?_
  refine s_loopn (l.length) (fun j fr σ => fr = [(1, .lit (l.map eSlot)), (7, i64 (schedAt p t)), (8, i64 (q j)), (9, i64 j)] ∧ σ = []) ?_ ⟨by simp [h0], by first | rfl | simp [h0]⟩
  rintro j fr σ hj ⟨rfl, rfl⟩ ih
  have hs := hs j
  refine s_round hc9 ?_
  repeat' (first | refine go ?_ | refine s_seq fun y9 hy9 => ?_ | refine qT _ ?_ ?_ | refine qG _ ?_ ?_ | refine qN ?_ ?_ | (refine QB.mk fun hb9 => ?_; (try simp only [hb9]); (try simp at hb9); first | (exfalso; omega) | subst hb9 | skip))
  · have e := hs (by assumption)
    rw [if_pos hb9] at e
    (refine w_back 0 [1, 7, 8, 9] (by conv => lhs; simp) (by conv => lhs; simp) (by first | rfl | simp) (by first | rfl | simp) ?_; exact ih (by assumption) _ _ ⟨by first | (simp [e]; done) | (simp [e]; omega), by first | rfl | (simp [e]; done)⟩)
  · have e := hs (by assumption)
    rw [if_neg (by omega)] at e
    (refine w_back 0 [1, 7, 8, 9] (by conv => lhs; simp) (by conv => lhs; simp) (by first | rfl | simp) (by first | rfl | simp) ?_; exact ih (by assumption) _ _ ⟨by first | (simp [e]; done) | (simp [e]; omega), by first | rfl | (simp [e]; done)⟩)
  · have : j = l.length := by omega
    subst this
    rw [hz]; exact h
theorem R_sfind {l : List BandV} {u : Int} (hl : l.length ≤ 10000) (hs : upB l) (h : R (.ret (i64 (findB l u - 1))) σ) : C tE 78 [.lit (l.map eBand), i64 u] σ R := by
  have hb : findB l u ≤ l.length := (List.takeWhile_sublist _).length_le
  have h1 : ∀ k, k < l.length → ((gt l k).above ≤ u ↔ k < findB l u) := findB_iff hs
  refine C_pure tOK (by simp) ?_
  refine s_body' Tryz.func78 tOK rfl (by conv => lhs; simp) (by conv => lhs; simp) (by conv => lhs; simp [Fr.args]) rfl (by conv => lhs; try simp) fun R9 hR9 => ?_
  repeat' (first | refine go ?_ | refine s_seq fun y9 hy9 => ?_ | refine qT _ ?_ ?_ | refine qG _ ?_ ?_ | refine qN ?_ ?_ | (refine QB.mk fun hb9 => ?_; (try simp only [hb9]); (try simp at hb9); first | (exfalso; omega) | subst hb9 | skip))
  refine s_loop fun c9 hc9 => ?_
  refine w_trim 0 [0, 1, 5, 6] (by conv => lhs; simp) (by conv => lhs; simp) (by first | rfl | simp) (by first | rfl | simp) ?_
  refine s_loopn (l.length) (fun j fr σ => fr = [(0, .lit (l.map eBand)), (1, i64 u), (5, i64 ((min j (findB l u) : Nat) - 1)), (6, i64 j)] ∧ σ = []) ?_ ⟨by simp, by first | rfl | simp⟩
  rintro j fr σ hj ⟨rfl, rfl⟩ ih
  have h1 := h1 j
  refine s_round hc9 ?_
  repeat' (first | refine go ?_ | refine s_seq fun y9 hy9 => ?_ | refine qT _ ?_ ?_ | refine qG _ ?_ ?_ | refine qN ?_ ?_ | (refine QB.mk fun hb9 => ?_; (try simp only [hb9]); (try simp at hb9); first | (exfalso; omega) | subst hb9 | skip))
  · have e := (h1 (by assumption)).1 hb9
    (refine w_back 0 [0, 1, 5, 6] (by conv => lhs; simp) (by conv => lhs; simp) (by first | rfl | simp) (by first | rfl | simp) ?_; exact ih (by assumption) _ _ ⟨by first | (simp; done) | (simp; omega), by first | rfl | (simp; done)⟩)
  · have e : ¬ j < findB l u := fun hh => by have := (h1 (by assumption)).2 hh; omega
    (refine w_back 0 [0, 1, 5, 6] (by conv => lhs; simp) (by conv => lhs; simp) (by first | rfl | simp) (by first | rfl | simp) ?_; exact ih (by assumption) _ _ ⟨by first | (simp; done) | (simp; omega), by first | rfl | (simp; done)⟩)
  · exact fin_i h (by omega)
theorem R_swant {l : List BandV} {c u : Int} (hl : l.length ≤ 10000) (hs : upB l) (hd : ∀ b ∈ l, -1000000 ≤ b.delta ∧ b.delta ≤ 1000000) (h : R (.ret (i64 (stepW l c u))) σ) : C tE 51 [.lit (l.map eBand), i64 c, i64 u] σ R := by
  have hb : findB l u ≤ l.length := (List.takeWhile_sublist _).length_le
  have hq := gt_all (P := fun b : BandV => -1000000 ≤ b.delta ∧ b.delta ≤ 1000000) hd (by decide) (findB l u - 1)
  unfold stepW intoR at h
  refine C_pure tOK (by simp) ?_
  have hk : findB l u = 0 ∨ ∃ k, findB l u = k + 1 ∧ k < l.length := by
    rcases Nat.eq_zero_or_pos (findB l u) with h0 | h0
    · exact .inl h0
    · exact .inr ⟨findB l u - 1, by omega, by omega⟩
  rcases hk with h0 | ⟨k, h0, hlt⟩
  · rw [h0] at h
    refine s_body' Tryz.func51 tOK rfl (by conv => lhs; simp) (by conv => lhs; simp) (by conv => lhs; simp [Fr.args]) rfl (by conv => lhs; try simp) fun R9 hR9 => ?_
    have F9 := @h0
    repeat' (first | refine gf ?_ | refine s_seq fun y9 hy9 => ?_ | refine qT _ ?_ ?_ | refine qG _ ?_ ?_ | refine qN ?_ ?_ | (refine QB.mk fun hb9 => ?_; (try simp only [hb9]); (try simp at hb9); first | (exfalso; omega) | subst hb9 | skip) | refine nZ ((R_sfind hl hs) ?_))
    exact fin_i h (by split <;> (try simp) <;> omega)
  · rw [h0] at h hq
    simp only [Nat.add_sub_cancel, gq hlt] at h hq
    refine s_body' Tryz.func51 tOK rfl (by conv => lhs; simp) (by conv => lhs; simp) (by conv => lhs; simp [Fr.args]) rfl (by conv => lhs; try simp) fun R9 hR9 => ?_
    have F9 := @h0
    repeat' (first | refine gf ?_ | refine s_seq fun y9 hy9 => ?_ | refine qT _ ?_ ?_ | refine qG _ ?_ ?_ | refine qN ?_ ?_ | (refine QB.mk fun hb9 => ?_; (try simp only [hb9]); (try simp at hb9); first | (exfalso; omega) | subst hb9 | skip) | refine nZ ((R_sfind hl hs) ?_))
    exact fin_i h (by simp; omega)
end
end Go.Proofs.YtncbfppafgjdiaaGreat
end
section
/- What any policy wants. -/
set_option linter.unusedVariables false
set_option linter.unusedSimpArgs false
set_option maxRecDepth 20000
namespace Go.Proofs.YtncbfppafgjdiaaGreat
open Go
attribute [local irreducible] T TL C RG DP SP YR afterRG DPcall
/-- A policy that can be asked. -/
structure askP (p : PolV) : Prop where
  len : lenP p
  up : upB p.bands
  delta : ∀ b ∈ p.bands, -1000000 ≤ b.delta ∧ b.delta ≤ 1000000
  slot : ∀ s ∈ p.slots, -1000000 ≤ s.n ∧ s.n ≤ 1000000
  kb : -9223372036854775808 ≤ p.kind ∧ p.kind ≤ 9223372036854775807
  per : p.kind = 4 → 1 ≤ p.period ∧ p.period ≤ 1099511627776
theorem intoR_lo (n : Int) : 0 ≤ intoR n := by unfold intoR; omega
theorem intoR_hi (n : Int) : intoR n ≤ 1000 := by unfold intoR; omega
theorem pidN_lo (p : PolV) (s : StaV) (u : Int) : -1000 ≤ (pidN p s u).2 ∧ (pidN p s u).2 ≤ 1000 := by unfold pidN; simp only; omega
section
variable {R : Re → Store → Prop} {σ : Store}
theorem R_pid {p : PolV} {s : StaV} {u : Int} (h : R (.ret (.tup [eSta (pidN p s u).1, i64 (pidN p s u).2])) σ) : C tE 52 [ePol p, eSta s, i64 u] σ R := by
  have a0 : ∀ x, addF 0 (mulF p.kp x) = mulF p.kp x := fun x => by
    have h1 : -1000000000 ≤ mulF p.kp x := by unfold mulF; exact satF_lo _
    have h2 : mulF p.kp x ≤ 1000000000 := by unfold mulF; exact satF_hi _
    unfold addF
    rw [satF_in h1 h2, show satF 0 = 0 from rfl, Int.zero_add, satF_in h1 h2]
  have mm : ∀ n : Int, min (max n (-1000)) 1000 = max (-1000) (min 1000 n) := fun n => by omega
  refine C_pure tOK (by simp) ?_
  refine s_body' Tryz.func52 tOK rfl (by conv => lhs; simp) (by conv => lhs; simp) (by conv => lhs; simp [Fr.args]) rfl (by conv => lhs; try simp) fun R9 hR9 => ?_
  have F9 := @mm
  repeat' (first | refine gf ?_ | refine s_seq fun y9 hy9 => ?_ | refine qT _ ?_ ?_ | refine qG _ ?_ ?_ | refine qN ?_ ?_ | (refine QB.mk fun hb9 => ?_; (try simp only [hb9]); (try simp at hb9); first | (exfalso; omega) | subst hb9 | skip) | refine sD tOK tmix [([],0),([0],1),([],2),([0,1,2],3),([],4),([4],5),([],6),([0,1,2,3,4,5,6],7),([0,1,2,3,4,5,6,7],8),([0,1,2,3,4,5,6,7,8],9)] 7 ?_ | refine qD _ ?_ ?_ | (refine nZ ?_; first | refine R_sub ?_ | refine R_add ?_ | refine R_mul ?_ | refine R_near ?_) | (apply d_call []; exact rfl; (solve | (conv => lhs; try simp [mm])); (solve | exact rfl | simp); (solve | (conv => lhs; try simp [mm])); intro τ hτ; refine nZ ?_; first | exact R_sub ⟨rfl, rfl⟩ | exact R_add ⟨rfl, rfl⟩ | exact R_mul ⟨rfl, rfl⟩ | exact R_near ⟨rfl, rfl⟩))
  all_goals exact fin_v h (by simp [pidN, a0, *])
theorem C_pinto {n : Int} (h : R (.ret (i64 (intoR n))) σ) : C tE 121 [i64 n] σ R := by
  refine s_body' Tryz.func121 tOK rfl (by conv => lhs; simp) (by conv => lhs; simp) (by conv => lhs; simp [Fr.args]) rfl (by conv => lhs; try simp) fun R9 hR9 => ?_
  repeat' (first | refine go ?_ | refine s_seq fun y9 hy9 => ?_ | refine qT _ ?_ ?_ | refine qG _ ?_ ?_ | refine qN ?_ ?_ | (refine QB.mk fun hb9 => ?_; (try simp only [hb9]); (try simp at hb9); first | (exfalso; omega) | subst hb9 | skip))
  exact h
/-- The entry of the table of kinds. -/
def kindV (k : Int) : PV := if k = 1 then .agg 142 [.fn (.func 130) [] [], .nilf] else if k = 2 then .agg 142 [.fn (.func 132) [] [], .nilf] else if k = 3 then .agg 142 [.nilf, .fn (.func 134) [] []]
  else if k = 4 then .agg 142 [.fn (.func 136) [] [], .nilf] else .agg 142 [.nilf, .nilf]
theorem kindV_1 : kindV 1 = .agg 142 [.fn (.func 130) [] [], .nilf] := rfl
theorem kindV_2 : kindV 2 = .agg 142 [.fn (.func 132) [] [], .nilf] := rfl
theorem kindV_3 : kindV 3 = .agg 142 [.nilf, .fn (.func 134) [] []] := rfl
theorem kindV_4 : kindV 4 = .agg 142 [.fn (.func 136) [] [], .nilf] := rfl
theorem kindV_o {k : Int} (h : ¬ 1 = k ∧ ¬ 2 = k ∧ ¬ 3 = k ∧ ¬ 4 = k) : kindV k = .agg 142 [.nilf, .nilf] := by
  unfold kindV
  rw [if_neg (by omega), if_neg (by omega), if_neg (by omega), if_neg (by omega)]
theorem kindV_fits (k : Int) : fits tE 142 (kindV k) = true := by
  have hk5 : k = 1 ∨ k = 2 ∨ k = 3 ∨ k = 4 ∨ (¬ 1 = k ∧ ¬ 2 = k ∧ ¬ 3 = k ∧ ¬ 4 = k) := by omega
  rcases hk5 with rfl | rfl | rfl | rfl | h
  · rfl
  · rfl
  · rfl
  · rfl
  · rw [kindV_o h]; rfl
@[simp] theorem kindV_pure (k : Int) : pureB (kindV k) = true := by
  have hk5 : k = 1 ∨ k = 2 ∨ k = 3 ∨ k = 4 ∨ (¬ 1 = k ∧ ¬ 2 = k ∧ ¬ 3 = k ∧ ¬ 4 = k) := by omega
  rcases hk5 with rfl | rfl | rfl | rfl | h
  · rfl
  · rfl
  · rfl
  · rfl
  · rw [kindV_o h]; rfl
theorem intoR_intoR (n : Int) : intoR (intoR n) = intoR n := by unfold intoR; omega
theorem kindV_get (k : Int) (es : List (Lit × PV)) (z : PV) (he : es = [(.int .i64 1, .agg 142 [.fn (.func 130) [] [], .nilf]), (.int .i64 2, .agg 142 [.fn (.func 132) [] [], .nilf]), (.int .i64 3, .agg 142 [.nilf, .fn (.func 134) [] []]), (.int .i64 4, .agg 142 [.fn (.func 136) [] [], .nilf])]) (hz : z = .agg 142 [.nilf, .nilf]) :
    (mget (.int .i64 k) es).getD z = kindV k := by
  subst he hz
  have hk5 : k = 1 ∨ k = 2 ∨ k = 3 ∨ k = 4 ∨ (¬ 1 = k ∧ ¬ 2 = k ∧ ¬ 3 = k ∧ ¬ 4 = k) := by omega
  rcases hk5 with rfl | rfl | rfl | rfl | ⟨h1, h2, h3, h4⟩
  · rfl
  · rfl
  · rfl
  · rfl
  · have e1 : ¬ k = 1 := fun h => h1 h.symm
    have e2 : ¬ k = 2 := fun h => h2 h.symm
    have e3 : ¬ k = 3 := fun h => h3 h.symm
    have e4 : ¬ k = 4 := fun h => h4 h.symm
    simp [kindV, h1, h2, h3, h4, e1, e2, e3, e4]
attribute [-simp] mget
set_option maxHeartbeats 4000000 in
theorem C_policy {p : PolV} {s : StaV} {c u t : Int} (hp : askP p) (h : R (.ret (.tup [eSta (nextP p s c u t).1, i64 (nextP p s c u t).2])) σ) : C tE 107 [ePol p, eSta s, i64 c, i64 u, i64 t] σ R := by
  have b1 := intoR_lo c; have b2 := intoR_hi c
  have b3 := (pidN_lo p s u).1; have b4 := (pidN_lo p s u).2
  obtain ⟨⟨l1, l2⟩, up, dl, sl, ⟨kb1, kb2⟩, per⟩ := hp
  unfold nextP at h
  have hg := kindV_get p.kind _ _ rfl rfl
  have hf := kindV_fits p.kind
  simp at hf
  have cp : p.kind = 4 → ∀ {R : Re → Store → Prop} {σ : Store}, R (.ret (i64 (schedW p.period p.slots t))) σ → C tE 137 [i64 p.period, .lit (p.slots.map eSlot), i64 t] σ R := fun hk R σ h => C_schwant l2 (per hk).1 (per hk).2 h
  refine C_pure tOK (by simp) ?_
  refine s_body' Tryz.func107 tOK rfl (by conv => lhs; simp) (by conv => lhs; simp) (by conv => lhs; simp [Fr.args]) rfl (by conv => lhs; try simp) fun R9 hR9 => ?_
  repeat' (first | refine go ?_ | refine s_seq fun y9 hy9 => ?_ | refine qT _ ?_ ?_ | refine qG _ ?_ ?_ | refine qN ?_ ?_ | (refine QB.mk fun hb9 => ?_; (try simp only [hb9]); (try simp at hb9); first | (exfalso; omega) | subst hb9 | skip) | refine sD tOK tmix [([],1),([],2),([],3),([1,2],4),([],5),([],6),([0,1,2,3,4,5],7),([],0),([0,1,2,3,4,5,6,7],8)] 8 ?_ | refine sD tOK tmix [([],0),([],1),([],2),([1,2],3),([0,1,2,3],4),([0,1,2,3,4],5)] 4 ?_ | refine qD _ ?_ ?_ | refine nZ (C_pinto ?_) | (apply d_call []; exact rfl; (solve | (conv => lhs; try simp)); (solve | exact rfl | simp); (solve | (conv => lhs; try simp)); intro τ hτ; refine nZ ?_; first | exact C_pinto ⟨rfl, rfl⟩))
  refine j_seq [(5, .ptr 0 0 0 []), (6, .ptr 1 0 0 []), (10, .ptr 2 0 0 []), (12, .fn (.func 121) [] []), (13, .ptr 3 0 0 []), (14, i64 (intoR c)), (15, .ptr 4 0 0 [])] [some (.cells 30 0 [ePol p]), some (.cells 32 0 [eSta s]), some (.cells 32 0 [eSta {}]), some (.cells 138 0 [.agg 138 [eSta s, i64 (intoR c), i64 u, i64 t]]), some (.cells 142 0 [kindV p.kind])] (by assumption) ?_ fun y8 hy8 key => ?_
  · clear hg hf
    have hk5 : p.kind = 1 ∨ p.kind = 2 ∨ p.kind = 3 ∨ p.kind = 4 ∨ (¬ 1 = p.kind ∧ ¬ 2 = p.kind ∧ ¬ 3 = p.kind ∧ ¬ 4 = p.kind) := by omega
    rcases hk5 with hk | hk | hk | hk | hk
    all_goals
      first | rw [hk, kindV_1] | rw [hk, kindV_2] | rw [hk, kindV_3] | rw [hk, kindV_4] | rw [kindV_o hk]
    all_goals
      repeat' (first | refine go ?_ | refine s_seq fun y9 hy9 => ?_ | refine qT _ ?_ ?_ | refine qG _ ?_ ?_ | refine qN ?_ ?_ | (refine QB.mk fun hb9 => ?_; (try simp only [hb9]); (try simp at hb9); first | (exfalso; omega) | subst hb9 | skip) | refine sD tOK tmix [([],1),([],2),([],3),([1,2],4),([],5),([],6),([0,1,2,3,4,5],7),([],0),([0,1,2,3,4,5,6,7],8)] 8 ?_ | refine sD tOK tmix [([],1),([],2),([1],3),([0,1,2],4),([],0),([0,1,2,3,4],5)] 5 ?_ | refine sD tOK tmix [([],0),([],1),([],2),([1,2],3),([0,1,2,3],4),([0,1,2,3,4],5)] 4 ?_ | refine qD _ ?_ ?_ | refine cE Tryz.func130 tOK fun R9 hR9 => ?_ | refine cE Tryz.func132 tOK fun R9 hR9 => ?_ | refine cE Tryz.func134 tOK fun R9 hR9 => ?_ | refine cE Tryz.func136 tOK fun R9 hR9 => ?_ | (refine nZ ?_; first | refine C_pinto ?_ | refine C_twant ?_ | refine (C_swant l1 up dl) ?_ | refine C_pid ?_ | refine (cp hk) ?_) | (apply d_call []; exact rfl; (solve | (conv => lhs; try simp)); (solve | exact rfl | simp); (solve | (conv => lhs; try simp)); intro τ hτ; refine nZ ?_; first | exact C_pinto ⟨rfl, rfl⟩ | exact C_twant ⟨rfl, rfl⟩ | exact (C_swant l1 up dl) ⟨rfl, rfl⟩ | exact C_pid ⟨rfl, rfl⟩ | exact (cp hk) ⟨rfl, rfl⟩))
    all_goals refine fin_v h ?_
    all_goals first
      | (simp [hk]; done)
      | rw [if_neg (fun e => hk.1 e.symm), if_neg (fun e => hk.2.1 e.symm), if_neg (fun e => hk.2.2.1 e.symm), if_neg (fun e => hk.2.2.2 e.symm), intoR_intoR]
  · have F9 := And.intro @hg <| @hf
    repeat' (first | refine gf ?_ | refine s_seq fun y9 hy9 => ?_ | refine qT _ ?_ ?_ | refine qG _ ?_ ?_ | refine qN ?_ ?_ | (refine QB.mk fun hb9 => ?_; (try simp only [hb9]); (try simp at hb9); first | (exfalso; omega) | subst hb9 | skip) | refine sD tOK tmix [([],1),([],2),([],3),([1,2],4),([],5),([],6),([0,1,2,3,4,5],7),([],0),([0,1,2,3,4,5,6,7],8)] 8 ?_ | refine sD tOK tmix [([],0),([],1),([],2),([1,2],3),([0,1,2,3],4),([0,1,2,3,4],5)] 4 ?_ | refine qD _ ?_ ?_ | (apply s_any' (id := 4) tOK tmix; exact rfl; iterate 4 (solve | (conv => lhs; try simp [hg,hf]))) | (apply ra_two; iterate 3 exact rfl) | (apply ra_three; iterate 4 exact rfl) | refine cE Tryz.func122 tOK fun R9 hR9 => ?_)
    all_goals
      first | (refine w_join tOK [0, 1, 2, 3, 13] [5, 6, 10, 12, 13, 14, 15] hy8 key (by decide) ?_ ?_ ?_ ?_ ?_; exact rfl; (solve | simp [Fr.keep, nth]); (solve | simp [Fr.keep, nth]); (solve | simp [Fr.keep, nth]); (solve | simp [Fr.keep, nth])) | (refine w_join tOK [0, 1, 2, 3, 4] [5, 6, 10, 12, 13, 14, 15] hy8 key (by decide) ?_ ?_ ?_ ?_ ?_; exact rfl; (solve | simp [Fr.keep, nth]); (solve | simp [Fr.keep, nth]); (solve | simp [Fr.keep, nth]); (solve | simp [Fr.keep, nth])) | (refine w_join tOK [0, 1, 2, 3, 5] [5, 6, 10, 12, 13, 14, 15] hy8 key (by decide) ?_ ?_ ?_ ?_ ?_; exact rfl; (solve | simp [Fr.keep, nth]); (solve | simp [Fr.keep, nth]); (solve | simp [Fr.keep, nth]); (solve | simp [Fr.keep, nth])) | (refine w_join tOK [0, 1, 2, 3, 12] [5, 6, 10, 12, 13, 14, 15] hy8 key (by decide) ?_ ?_ ?_ ?_ ?_; exact rfl; (solve | simp [Fr.keep, nth]); (solve | simp [Fr.keep, nth]); (solve | simp [Fr.keep, nth]); (solve | simp [Fr.keep, nth]))
end
end Go.Proofs.YtncbfppafgjdiaaGreat
end
section
/- The document's policies and limits. -/
set_option linter.unusedVariables false
set_option linter.unusedSimpArgs false
set_option maxRecDepth 20000
namespace Go.Proofs.YtncbfppafgjdiaaGreat
open Go
attribute [local irreducible] T TL C RG DP SP YR afterRG DPcall
section
variable {R : Re → Store → Prop} {σ : Store}
theorem R_policy {p : PolV} {s : StaV} {c u t : Int} (hp : askP p) (h : R (.ret (.tup [eSta (nextP p s c u t).1, i64 (nextP p s c u t).2])) σ) : C tE 21 [ePol p, eSta s, i64 c, i64 u, i64 t] σ R := by
  have b1 := intoR_lo c; have b2 := intoR_hi c
  have b3 := (pidN_lo p s u).1; have b4 := (pidN_lo p s u).2
  obtain ⟨⟨l1, l2⟩, up, dl, sl, ⟨kb1, kb2⟩, per⟩ := hp
  unfold nextP at h
  have cp : p.kind = 4 → ∀ {R : Re → Store → Prop} {σ : Store}, R (.ret (i64 (schedW p.period p.slots t))) σ → C tE 53 [i64 p.period, .lit (p.slots.map eSlot), i64 t] σ R := fun hk R σ h => R_schwant l2 (per hk).1 (per hk).2 h
  have q1 : min (max c 0) 1000 = intoR c := by unfold intoR; omega
  have q2 : ∀ n : Int, min (max n 0) 1000 = intoR n := fun n => by unfold intoR; omega
  refine C_pure tOK (by simp) ?_
  have hk5 : p.kind = 1 ∨ p.kind = 2 ∨ p.kind = 3 ∨ p.kind = 4 ∨ (¬ p.kind = 1 ∧ ¬ p.kind = 2 ∧ ¬ p.kind = 3 ∧ ¬ p.kind = 4) := by omega
  rcases hk5 with hk | hk | hk | hk | ⟨g1, g2, g3, g4⟩
  · refine s_body' Tryz.func21 tOK rfl (by conv => lhs; simp) (by conv => lhs; simp) (by conv => lhs; simp [Fr.args]) rfl (by conv => lhs; try simp) fun R9 hR9 => ?_
    have F9 := And.intro @q2 <| @hk
    repeat' (first | refine gf ?_ | refine s_seq fun y9 hy9 => ?_ | refine qT _ ?_ ?_ | refine qG _ ?_ ?_ | refine qN ?_ ?_ | (refine QB.mk fun hb9 => ?_; (try simp only [hb9]); (try simp at hb9); first | (exfalso; omega) | subst hb9 | skip) | refine nZ (R_twant ?_))
    exact fin_v h (by simp [hk])
  · refine s_body' Tryz.func21 tOK rfl (by conv => lhs; simp) (by conv => lhs; simp) (by conv => lhs; simp [Fr.args]) rfl (by conv => lhs; try simp) fun R9 hR9 => ?_
    have F9 := And.intro @q2 <| @hk
    repeat' (first | refine gf ?_ | refine s_seq fun y9 hy9 => ?_ | refine qT _ ?_ ?_ | refine qG _ ?_ ?_ | refine qN ?_ ?_ | (refine QB.mk fun hb9 => ?_; (try simp only [hb9]); (try simp at hb9); first | (exfalso; omega) | subst hb9 | skip) | refine nZ ((R_swant l1 up dl) ?_))
    exact fin_v h (by simp [hk])
  · refine s_body' Tryz.func21 tOK rfl (by conv => lhs; simp) (by conv => lhs; simp) (by conv => lhs; simp [Fr.args]) rfl (by conv => lhs; try simp) fun R9 hR9 => ?_
    have F9 := And.intro @q2 <| @hk
    repeat' (first | refine gf ?_ | refine s_seq fun y9 hy9 => ?_ | refine qT _ ?_ ?_ | refine qG _ ?_ ?_ | refine qN ?_ ?_ | (refine QB.mk fun hb9 => ?_; (try simp only [hb9]); (try simp at hb9); first | (exfalso; omega) | subst hb9 | skip) | refine nZ (R_pid ?_))
    exact fin_v h (by simp [hk])
  · refine s_body' Tryz.func21 tOK rfl (by conv => lhs; simp) (by conv => lhs; simp) (by conv => lhs; simp [Fr.args]) rfl (by conv => lhs; try simp) fun R9 hR9 => ?_
    have F9 := And.intro @q2 <| @hk
    repeat' (first | refine gf ?_ | refine s_seq fun y9 hy9 => ?_ | refine qT _ ?_ ?_ | refine qG _ ?_ ?_ | refine qN ?_ ?_ | (refine QB.mk fun hb9 => ?_; (try simp only [hb9]); (try simp at hb9); first | (exfalso; omega) | subst hb9 | skip) | refine nZ ((cp hk) ?_))
    exact fin_v h (by simp [hk])
  · refine s_body' Tryz.func21 tOK rfl (by conv => lhs; simp) (by conv => lhs; simp) (by conv => lhs; simp [Fr.args]) rfl (by conv => lhs; try simp) fun R9 hR9 => ?_
    have F9 := And.intro @q2 <| And.intro @g1 <| And.intro @g2 <| And.intro @g3 <| @g4
    repeat' (first | refine gf ?_ | refine s_seq fun y9 hy9 => ?_ | refine qT _ ?_ ?_ | refine qG _ ?_ ?_ | refine qN ?_ ?_ | (refine QB.mk fun hb9 => ?_; (try simp only [hb9]); (try simp at hb9); first | (exfalso; omega) | subst hb9 | skip))
    exact fin_v h (by simp [g1, g2, g3, g4, intoR_intoR])
theorem R_limit {c : ConfV} {x : HoldV} {w now : Int} (h0 : c.min ≤ c.max) (h1 : 0 ≤ c.rate) (h2 : c.rate ≤ 1000000000) (h3 : -1000000000 ≤ c.min) (h4 : c.max ≤ 1000000000)
    (h7 : 0 ≤ now) (h8 : now ≤ 1099511627776) (h9 : 0 ≤ x.last) (h10 : x.last ≤ 1099511627776)
    (h : R (.ret (eHold (limN c x w now))) σ) : C tE 25 [eConf c, eHold x, i64 w, i64 now] σ R := by
  have b1 : c.min ≤ (intoH c x).cur := by unfold intoH; simp; omega
  have b2 : (intoH c x).cur ≤ c.max := by unfold intoH; simp; omega
  have b3 : (intoH c x).last = x.last := rfl
  unfold limN at h
  simp only at h
  obtain ⟨u, hu⟩ : ∃ u, intoH c x = u := ⟨_, rfl⟩
  rw [hu] at h b1 b2 b3
  obtain ⟨n, hn⟩ : ∃ n, max c.min (min (max (u.cur - c.rate) (min w (u.cur + c.rate))) c.max) = n := ⟨_, rfl⟩
  rw [hn] at h
  have hq : ∀ y, min (max y c.min) c.max = max c.min (min y c.max) := fun y => by omega
  refine C_pure tOK (by simp) ?_
  refine s_body' Tryz.func25 tOK rfl (by conv => lhs; simp) (by conv => lhs; simp) (by conv => lhs; simp [Fr.args]) rfl (by conv => lhs; try simp) fun R9 hR9 => ?_
  have F9 := And.intro @hu <| @hq
  repeat' (first | refine gf ?_ | refine s_seq fun y9 hy9 => ?_ | refine qT _ ?_ ?_ | refine qG _ ?_ ?_ | refine qN ?_ ?_ | (refine QB.mk fun hb9 => ?_; (try simp only [hb9]); (try simp at hb9); first | (exfalso; omega) | subst hb9 | skip) | refine nZ ((R_linto h0) ?_))
  all_goals
    refine fin_v h ?_
    (repeat' split) <;> first | rfl | (exfalso; omega) | (simp_all; done) | (simp_all; omega) | skip
    all_goals fail
end
end Go.Proofs.YtncbfppafgjdiaaGreat
end
section
/- Replicas: all of them. -/
set_option linter.unusedVariables false
set_option linter.unusedSimpArgs false
set_option maxRecDepth 20000
namespace Go.Proofs.YtncbfppafgjdiaaGreat
open Go
attribute [local irreducible] T TL C RG DP SP YR afterRG DPcall
/-- Replicas that can be reckoned with. -/
structure numPl (p : PlantV) : Prop where
  r0 : -1000000000 ≤ p.ready
  r1 : p.ready ≤ 1000000000
  len : p.start.length ≤ 10000
  s : ∀ n ∈ p.start, -1000000000 ≤ n ∧ n ≤ 1000000000
section
variable {R : Re → Store → Prop} {σ : Store}
theorem C_all {p : PlantV} (hp : numPl p) (h : R (.ret (i64 (allPl p))) σ) : C tE 157 [ePlant p] σ R := by
  obtain ⟨a1, a2, a3, a4⟩ := hp
  have hs := psum_in (f := fun m : Int => m) (b := 1000000000) (l := p.start) (by decide) (fun m hm => by have := a4 m hm; omega)
  have ps := psum_succ (fun m : Int => m) rfl p.start
  have pa := psum_all (fun m : Int => m) p.start
  unfold allPl at h
  rw [List.map_id'] at pa
  rw [← pa] at h
  have h0 := psum_zero (fun m : Int => m) p.start
  generalize psum (fun m : Int => m) p.start = s at *
  refine C_pure tOK (by simp) ?_
  refine s_body' Tryz.func157 tOK rfl (by conv => lhs; simp) (by conv => lhs; simp) (by conv => lhs; simp [Fr.args]) rfl (by conv => lhs; try simp) fun R9 hR9 => ?_
  repeat' (first | refine go ?_ | refine s_seq fun y9 hy9 => ?_ | refine qT _ ?_ ?_ | refine qG _ ?_ ?_ | refine qN ?_ ?_ | (refine QB.mk fun hb9 => ?_; (try simp only [hb9]); (try simp at hb9); first | (exfalso; omega) | subst hb9 | skip))
  refine s_loop fun c9 hc9 => ?_
  refine w_trim 1 [1, 3, 9, 10, 11] (by conv => lhs; simp) (by conv => lhs; simp) (by first | rfl | simp) (by first | rfl | simp) ?_
  refine s_loopn (p.start.length) (fun j fr σ => fr = [(1, .ptr 0 0 0 []), (3, i64 (p.ready + s j)), (9, .lit (p.start.map i64)), (10, i64 p.start.length), (11, i64 j)] ∧ σ = [some (.cells 37 0 [ePlant p])]) ?_ ⟨by simp [h0], by first | rfl | simp [h0]⟩
  rintro j fr σ hj ⟨rfl, rfl⟩ ih
  have h1 := hs j
  have h2 := hs (j + 1)
  have h3 := ps j
  refine s_round hc9 ?_
  repeat' (first | refine go ?_ | refine s_seq fun y9 hy9 => ?_ | refine qT _ ?_ ?_ | refine qG _ ?_ ?_ | refine qN ?_ ?_ | (refine QB.mk fun hb9 => ?_; (try simp only [hb9]); (try simp at hb9); first | (exfalso; omega) | subst hb9 | skip))
  · (refine w_back 1 [1, 3, 9, 10, 11] (by conv => lhs; simp) (by conv => lhs; simp) (by first | rfl | simp) (by first | rfl | simp) ?_; exact ih (by assumption) _ _ ⟨by first | (simp [h3,Int.add_assoc]; done) | (simp [h3,Int.add_assoc]; omega), by first | rfl | (simp [h3,Int.add_assoc]; done)⟩)
  · have : j = p.start.length := by omega
    subst this
    exact h
theorem R_all {p : PlantV} (hp : numPl p) (h : R (.ret (i64 (allPl p))) σ) : C tE 75 [ePlant p] σ R := by
  obtain ⟨a1, a2, a3, a4⟩ := hp
  have hs := psum_in (f := fun m : Int => m) (b := 1000000000) (l := p.start) (by decide) (fun m hm => by have := a4 m hm; omega)
  have ps := psum_succ (fun m : Int => m) rfl p.start
  have pa := psum_all (fun m : Int => m) p.start
  unfold allPl at h
  rw [List.map_id'] at pa
  rw [← pa] at h
  have h0 := psum_zero (fun m : Int => m) p.start
  generalize psum (fun m : Int => m) p.start = s at *
  refine C_pure tOK (by simp) ?_
  refine s_body' Tryz.func75 tOK rfl (by conv => lhs; simp) (by conv => lhs; simp) (by conv => lhs; simp [Fr.args]) rfl (by conv => lhs; try simp) fun R9 hR9 => ?_
  repeat' (first | refine go ?_ | refine s_seq fun y9 hy9 => ?_ | refine qT _ ?_ ?_ | refine qG _ ?_ ?_ | refine qN ?_ ?_ | (refine QB.mk fun hb9 => ?_; (try simp only [hb9]); (try simp at hb9); first | (exfalso; omega) | subst hb9 | skip))
  refine s_loop fun c9 hc9 => ?_
  refine w_trim 1 [1, 3, 4] (by conv => lhs; simp) (by conv => lhs; simp) (by first | rfl | simp) (by first | rfl | simp) ?_
  refine s_loopn (p.start.length) (fun j fr σ => fr = [(1, .ptr 0 0 0 []), (3, i64 (p.ready + s j)), (4, i64 j)] ∧ σ = [some (.cells 37 0 [ePlant p])]) ?_ ⟨by simp [h0], by first | rfl | simp [h0]⟩
  rintro j fr σ hj ⟨rfl, rfl⟩ ih
  have h1 := hs j
  have h2 := hs (j + 1)
  have h3 := ps j
  refine s_round hc9 ?_
  repeat' (first | refine go ?_ | refine s_seq fun y9 hy9 => ?_ | refine qT _ ?_ ?_ | refine qG _ ?_ ?_ | refine qN ?_ ?_ | (refine QB.mk fun hb9 => ?_; (try simp only [hb9]); (try simp at hb9); first | (exfalso; omega) | subst hb9 | skip))
  · (refine w_back 1 [1, 3, 4] (by conv => lhs; simp) (by conv => lhs; simp) (by first | rfl | simp) (by first | rfl | simp) ?_; exact ih (by assumption) _ _ ⟨by first | (simp [h3,Int.add_assoc]; done) | (simp [h3,Int.add_assoc]; omega), by first | rfl | (simp [h3,Int.add_assoc]; done)⟩)
  · have : j = p.start.length := by omega
    subst this
    exact h
end
end Go.Proofs.YtncbfppafgjdiaaGreat
end
