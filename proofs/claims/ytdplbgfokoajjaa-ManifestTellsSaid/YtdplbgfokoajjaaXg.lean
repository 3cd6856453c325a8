/-
  DERIVED: THE SHELF's CONTRACTS AT THIS DUMP, IN PLAIN WORDS (tools/lay-plain.mjs out of 'YtdplbgfokoajjaaDl0.lean', which tools/lay-shelf.mjs wrote): THE SAME DECLARATIONS UNDER THE SAME NAMES: 'import', 'namespace', 'open', 'def', 'theorem' AND NOTHING ELSE: no command of the shelf's: FOR A HAND-IN. Each laying: the table of numbers ('.._ren') and one theorem, a field a fact of the dump's own or the kernel's comparison; each contract: ONE APPLICATION.
-/
import Derived.Test.YtdplbgfokoajjaaXd
import Derived.Test.YtdplbgfokoajjaaXEnv
import Derived.Shelf.GgClosure.StringsIndexFuncTop
import Derived.Shelf.SlGeneric
import Derived.Ground.GgwProg
import Derived.Shelf.SlIter.Nil
import Derived.Shelf.SortM.Plain
import Derived.Shelf.SortM.SortNone
import Derived.Ground.GgzProg
import Derived.Ground.SlgmProg
import Derived.IntWalk
import Derived.Lib.EndianBits
section
namespace Go.Proofs
open Go.Shelf
def Try.cf_ren : Go.Shelf.Ren := ⟨fun | 17 => 89 | 15 => 95 | 20 => 107 | n => n, fun | 9 => 9 | 23 => 105 | 4 => 4 | 3 => 3 | 0 => 0 | 21 => 21 | n => n, fun | n => n⟩
theorem Try.cf : Go.Proofs.LaysGw.n17 Try.prog Try.cf_ren := {
  mixed := by kernel_rfl
  f15 := Try.func95.trans (congrArg some (by kernel_rfl))
  f17 := Try.func89.trans (congrArg some (by kernel_rfl))
  f20 := Try.func107.trans (congrArg some (by kernel_rfl))
  t0 := Try.underlying0
  a0 := Try.isAgg0
  z0 := Try.sizeOf0
  v0 := Try.zeroValue0
  i0 := by kernel_rfl
  t3 := Try.underlying3
  a3 := Try.isAgg3
  z3 := Try.sizeOf3
  v3 := Try.zeroValue3
  i3 := by kernel_rfl
  t4 := Try.underlying4
  a4 := Try.isAgg4
  z4 := Try.sizeOf4
  v4 := Try.zeroValue4
  i4 := by kernel_rfl
  t9 := Try.underlying9
  a9 := Try.isAgg9
  z9 := Try.sizeOf9
  v9 := Try.zeroValue9
  i9 := by kernel_rfl
  t21 := Try.underlying21
  a21 := Try.isAgg21
  z21 := Try.sizeOf21
  v21 := Try.zeroValue21
  i21 := by kernel_rfl
  t23 := Try.underlying105
  a23 := Try.isAgg105
  z23 := Try.sizeOf105
  v23 := Try.zeroValue105
  i23 := by kernel_rfl }
def Try.keysA_ren : Go.Shelf.Ren := ⟨fun | 7 => 59 | 10 => 85 | n => n, fun | 23 => 72 | 26 => 9 | 3 => 79 | 28 => 86 | 0 => 0 | 27 => 85 | 33 => 95 | 4 => 4 | n => n, fun | n => n⟩
theorem Try.keysA : Go.Proofs.SlLaysZ.n7 Try.prog Try.keysA_ren := {
  mixed := by kernel_rfl
  f7 := ⟨Try.f59.name, by decide, Try.func59.trans (congrArg some (by kernel_rfl))⟩
  f10 := ⟨Try.f85.name, by decide, Try.func85.trans (congrArg some (by kernel_rfl))⟩
  t0 := Try.underlying0
  a0 := Try.isAgg0
  z0 := Try.sizeOf0
  v0 := Try.zeroValue0
  t4 := Try.underlying4
  a4 := Try.isAgg4
  z4 := Try.sizeOf4
  v4 := Try.zeroValue4
  t23 := Try.underlying72
  a23 := Try.isAgg72
  z23 := Try.sizeOf72
  v23 := Try.zeroValue72
  t26 := Try.underlying9
  a26 := Try.isAgg9
  z26 := Try.sizeOf9
  v26 := Try.zeroValue9
  t27 := Try.underlying85
  a27 := Try.isAgg85
  z27 := Try.sizeOf85
  v27 := Try.zeroValue85
  t28 := Try.underlying86
  a28 := Try.isAgg86
  z28 := Try.sizeOf86
  v28 := Try.zeroValue86
  t33 := Try.underlying95
  a33 := Try.isAgg95
  z33 := Try.sizeOf95
  v33 := Try.zeroValue95 }
def Try.sortedA_ren : Go.Shelf.Ren := ⟨fun | 6 => 58 | 8 => 83 | 9 => 84 | 11 => 92 | 13 => 94 | 12 => 93 | 23 => 105 | 24 => 106 | 14 => 96 | 15 => 97 | 16 => 98 | 17 => 99 | 18 => 100 | 19 => 101 | 20 => 102 | 21 => 103 | 22 => 104 | 25 => 108 | 26 => 109 | 27 => 110 | 28 => 111 | 29 => 112 | 30 => 113 | 31 => 114 | n => n, fun | 26 => 9 | 28 => 86 | 24 => 46 | 0 => 0 | 3 => 3 | 37 => 61 | 48 => 56 | 50 => 62 | 4 => 4 | 40 => 115 | 39 => 114 | 45 => 120 | 5 => 5 | 9 => 9 | 51 => 125 | 55 => 129 | 57 => 131 | 58 => 132 | 33 => 95 | n => n, fun | n => n⟩
theorem Try.sortedA : Go.Proofs.SlLaysZ.n6 Try.prog Try.sortedA_ren := {
  mixed := by kernel_rfl
  f6 := ⟨Try.f58.name, by decide, Try.func58.trans (congrArg some (by kernel_rfl))⟩
  f8 := ⟨Try.f83.name, by decide, Try.func83.trans (congrArg some (by kernel_rfl))⟩
  f11 := ⟨Try.f92.name, by decide, Try.func92.trans (congrArg some (by kernel_rfl))⟩
  t0 := Try.underlying0
  a0 := Try.isAgg0
  z0 := Try.sizeOf0
  v0 := Try.zeroValue0
  t24 := Try.underlying46
  a24 := Try.isAgg46
  z24 := Try.sizeOf46
  v24 := Try.zeroValue46
  t26 := Try.underlying9
  a26 := Try.isAgg9
  z26 := Try.sizeOf9
  v26 := Try.zeroValue9
  t28 := Try.underlying86
  a28 := Try.isAgg86
  z28 := Try.sizeOf86
  v28 := Try.zeroValue86
  i26 := by kernel_rfl }
def Try.sortA_ren : Go.Shelf.Ren := ⟨fun | 6 => 84 | 8 => 94 | 9 => 93 | 19 => 105 | 20 => 106 | 21 => 96 | 22 => 97 | 23 => 98 | 24 => 99 | 25 => 100 | 26 => 101 | 27 => 102 | 28 => 103 | 29 => 104 | 36 => 108 | 31 => 109 | 32 => 110 | 37 => 111 | 38 => 112 | 39 => 113 | 41 => 114 | n => n, fun | 27 => 46 | 29 => 9 | 3 => 3 | 32 => 61 | 26 => 46 | 0 => 0 | 44 => 56 | 46 => 62 | 4 => 4 | 36 => 115 | 35 => 114 | 41 => 120 | 5 => 5 | 9 => 9 | 53 => 125 | 57 => 129 | 63 => 131 | 64 => 132 | n => n, fun | n => n⟩
theorem Try.sortA : Go.Proofs.SlLaysM.n6 Try.prog Try.sortA_ren := {
  mixed := by kernel_rfl
  f6 := ⟨Try.f84.name, by decide, Try.func84.trans (congrArg some (by kernel_rfl))⟩
  f8 := Try.func94.trans (congrArg some (by kernel_rfl))
  f9 := ⟨Try.f93.name, by decide, Try.func93.trans (congrArg some (by kernel_rfl))⟩
  f19 := Try.func105.trans (congrArg some (by kernel_rfl))
  f20 := Try.func106.trans (congrArg some (by kernel_rfl))
  f21 := ⟨Try.f96.name, by decide, Try.func96.trans (congrArg some (by kernel_rfl))⟩
  f22 := ⟨Try.f97.name, by decide, Try.func97.trans (congrArg some (by kernel_rfl))⟩
  f23 := ⟨Try.f98.name, by decide, Try.func98.trans (congrArg some (by kernel_rfl))⟩
  f24 := ⟨Try.f99.name, by decide, Try.func99.trans (congrArg some (by kernel_rfl))⟩
  f25 := ⟨Try.f100.name, by decide, Try.func100.trans (congrArg some (by kernel_rfl))⟩
  f26 := ⟨Try.f101.name, by decide, Try.func101.trans (congrArg some (by kernel_rfl))⟩
  f27 := ⟨Try.f102.name, by decide, Try.func102.trans (congrArg some (by kernel_rfl))⟩
  f28 := ⟨Try.f103.name, by decide, Try.func103.trans (congrArg some (by kernel_rfl))⟩
  f29 := ⟨Try.f104.name, by decide, Try.func104.trans (congrArg some (by kernel_rfl))⟩
  f31 := Try.func109.trans (congrArg some (by kernel_rfl))
  f32 := Try.func110.trans (congrArg some (by kernel_rfl))
  f36 := ⟨Try.f108.name, by decide, Try.func108.trans (congrArg some (by kernel_rfl))⟩
  f37 := ⟨Try.f111.name, by decide, Try.func111.trans (congrArg some (by kernel_rfl))⟩
  f38 := ⟨Try.f112.name, by decide, Try.func112.trans (congrArg some (by kernel_rfl))⟩
  f39 := ⟨Try.f113.name, by decide, Try.func113.trans (congrArg some (by kernel_rfl))⟩
  f41 := ⟨Try.f114.name, by decide, Try.func114.trans (congrArg some (by kernel_rfl))⟩
  t0 := Try.underlying0
  a0 := Try.isAgg0
  z0 := Try.sizeOf0
  v0 := Try.zeroValue0
  t3 := Try.underlying3
  a3 := Try.isAgg3
  z3 := Try.sizeOf3
  v3 := Try.zeroValue3
  t4 := Try.underlying4
  a4 := Try.isAgg4
  z4 := Try.sizeOf4
  v4 := Try.zeroValue4
  t5 := Try.underlying5
  a5 := Try.isAgg5
  z5 := Try.sizeOf5
  v5 := Try.zeroValue5
  t9 := Try.underlying9
  a9 := Try.isAgg9
  z9 := Try.sizeOf9
  v9 := Try.zeroValue9
  t26 := Try.underlying46
  a26 := Try.isAgg46
  z26 := Try.sizeOf46
  v26 := Try.zeroValue46
  t27 := Try.underlying46
  a27 := Try.isAgg46
  z27 := Try.sizeOf46
  v27 := Try.zeroValue46
  t29 := Try.underlying9
  a29 := Try.isAgg9
  z29 := Try.sizeOf9
  v29 := Try.zeroValue9
  t32 := Try.underlying61
  a32 := Try.isAgg61
  z32 := Try.sizeOf61
  v32 := Try.zeroValue61
  t35 := Try.underlying114
  a35 := Try.isAgg114
  z35 := Try.sizeOf114
  v35 := Try.zeroValue114
  t36 := Try.underlying115
  a36 := Try.isAgg115
  z36 := Try.sizeOf115
  v36 := Try.zeroValue115
  t41 := Try.underlying120
  a41 := Try.isAgg120
  z41 := Try.sizeOf120
  v41 := Try.zeroValue120
  t44 := Try.underlying56
  a44 := Try.isAgg56
  z44 := Try.sizeOf56
  v44 := Try.zeroValue56
  t46 := Try.underlying62
  a46 := Try.isAgg62
  z46 := Try.sizeOf62
  v46 := Try.zeroValue62
  t53 := Try.underlying125
  a53 := Try.isAgg125
  z53 := Try.sizeOf125
  v53 := Try.zeroValue125
  t57 := Try.underlying129
  a57 := Try.isAgg129
  z57 := Try.sizeOf129
  v57 := Try.zeroValue129
  t63 := Try.underlying131
  a63 := Try.isAgg131
  z63 := Try.sizeOf131
  v63 := Try.zeroValue131
  t64 := Try.underlying132
  a64 := Try.isAgg132
  z64 := Try.sizeOf132
  v64 := Try.zeroValue132 }
end Go.Proofs
end
section
/- Package disk: what it calls of the library. -/
set_option linter.unusedVariables false
set_option linter.unusedSimpArgs false
namespace Go.Proofs
open Go Go.RowKit Go.Maps Go.Sort Go.Shelf Go.Lib

/-- A rune that no name may have. -/
def oddR (r : Nat) : Bool := !(decide (97 ≤ r) && decide (r ≤ 122) || decide (48 ≤ r) && decide (r ≤ 57) || decide (r = 46) || decide (r = 45))
theorem Try.odd (w : World) : PredAt Try.prog 88 #[] encR oddR w := fun W r _ => by
  unfold FnGives
  have z1 : (97 : Int) ≤ (r : Int) ↔ 97 ≤ r := by omega
  have z2 : (r : Int) ≤ 122 ↔ r ≤ 122 := by omega
  have z3 : (48 : Int) ≤ (r : Int) ↔ 48 ≤ r := by omega
  have z4 : (r : Int) ≤ 57 ↔ r ≤ 57 := by omega
  have z5 : (r : Int) = 46 ↔ r = 46 := by omega
  have z6 : (r : Int) = 45 ↔ r = 45 := by omega
  by_cases h1 : 97 ≤ r <;> by_cases h2 : r ≤ 122 <;> by_cases h3 : 48 ≤ r <;> by_cases h4 : r ≤ 57 <;> by_cases h5 : r = 46 <;> by_cases h6 : r = 45
  all_goals first
    | (exfalso; omega)
    | (go_enter Try.func88, Try.ntmps88
       go_wp2
       all_goals first | (exfalso; omega) | (go_ret; exact ⟨by simp [oddR, h1, h2, h3, h4, h5, h6] <;> omega, 0, rfl⟩))
theorem Try.contains (s : ByteArray) (w : World) : Calls Try.prog 89 #[.string s, .func (.func 88) #[] #[]] w fun e w' => e = .returned (.bool (decide (0 ≤ idxFunc oddR true s))) ∧ Below w.heap.size w w' :=
  Any.strings_ContainsFunc Try.cf 88 #[] (enters_of Try.func88 (by kernel_rfl) rfl) oddR s w (Try.odd w)

/-- slices.Sort's two contracts at this dump. -/
theorem Try.sorts (m : Nat) : AnyZ.SortsIn Try.prog Try.sortedA_ren Fence.wide m :=
  ⟨fun blk off cap ss W hH hblk hsz => callsIn_wide.2 (AnyM.slices_Sort_string Try.sortA blk off cap ss W hH hblk hsz),
   fun p cap W => callsIn_wide.2 (AnyM.slices_Sort_string_none Try.sortA p cap W)⟩

theorem Try.sorted {H : Type} (B b nn : Nat) (D0 : DataW H) (R : Value → Option (DataW H × List MemPlace)) (w : World) (hB : B < w.heap.size) (hcell : w.cell? ⟨B, 0, none⟩ = some (.map (some b))) (hown : w.ownsMap Try.prog 9 R b nn D0)
    (hmax : Maps.size D0 ≤ maxLen) (hbytes : Maps.size D0 * 16 ≤ 140737488355328) :
    Calls Try.prog 58 #[.func (.func 85) #[] #[.pointer (some ⟨B, 0, none⟩)]] w fun e w' => ∃ (v : Value) (ss : List (List UInt8)), e = .returned v ∧ ss.Perm (strKeys D0) ∧
      w'.ownsRow w.heap.size 9 1 v ss.length ((ss.mergeSort (fun x y => decide (x ≤ y))).map encStr) ∧ (v = .slice none 0 0 ↔ ss = []) ∧ Below w.heap.size w w' := by
  refine (callsIn_wide (n := 5)).1 ?_
  have hseq : SeqGives Fence.wide 2 Try.prog 85 #[.pointer (some ⟨B, 0, none⟩)] encStr (fun ss => ss.Perm (strKeys D0)) (Maps.size D0) w :=
    AnyZ.keys_gives (ρ := Try.keysA_ren) { Try.keysA with } Fence.wide _ trivial rfl (by omega) B b nn D0 _ hB hcell hown
  exact AnyZ.sorted_in Try.sortedA Fence.wide 5 trivial trivial trivial trivial rfl (by omega) (Try.sorts _) (enters_of Try.func84 (by kernel_rfl) rfl) 85 #[.pointer (some ⟨B, 0, none⟩)] trivial (enters_of Try.func85 (by kernel_rfl) rfl) _ _ hmax hbytes _ hseq
end Go.Proofs

namespace Go.Proofs.Ytdplbgfokoajjaa
open Go

section
variable {E : Env}
theorem VL.cons_inv {c : Cx} {x : PV} {xs : List PV} {vs : List Value} (h : VL E c (x :: xs) vs) : ∃ v us, vs = v :: us ∧ V E c x v ∧ VL E c xs us := by
  cases h with
  | undef hs => exact ⟨_, _, rfl, .undef .nil, hs⟩
  | one h1 hn h hs => exact ⟨_, _, rfl, .one h1 hn h .nil, hs⟩
  | agg h hs => exact ⟨_, _, rfl, .agg h .nil, hs⟩
  | tup h hs => exact ⟨_, _, rfl, .tup h .nil, hs⟩
theorem VL.nil_inv {c : Cx} {vs : List Value} (h : VL E c [] vs) : vs = [] := by cases h; rfl
theorem arr_of {vs : Array Value} {l : List Value} (h : vs.toList = l) : vs = l.toArray := by rw [← h]
end

theorem C_contains {R : Re → Store → Prop} {σ : Store} {s : ByteArray} (h : R (.ret (.bool (decide (0 ≤ Lib.idxFunc oddR true s)))) σ) : C tE 89 [.str s, .fn (.func 88) [] []] σ R :=
  C_below fun cx vs hn hv => by
    obtain ⟨v, us, e1, h1, h2⟩ := hv.cons_inv
    obtain ⟨u, us', rfl, h3, h4⟩ := h2.cons_inv
    have := h4.nil_inv; subst this
    obtain ⟨a, b, rfl, h5, h6⟩ := h3.fn_inv
    have ea : a = #[] := by simpa using h5.nil_inv
    have eb : b = #[] := by simpa using h6.nil_inv
    subst ea; subst eb
    rw [h1.str_inv] at e1
    rw [arr_of e1]
    refine (Try.contains s cx.w).mono ?_
    rintro e w' ⟨rfl, hb⟩
    exact ⟨hb, _, h, V_one (.bool _) (by simp)⟩

/-- Names, as values. -/
def strs (l : List (List UInt8)) : List PV := l.map fun n => .str ⟨n.toArray⟩
theorem VCs_strs {c : Cx} : ∀ l : List (List UInt8), VCs tE c (List.replicate (strs l).length 9) (strs l) (l.map encStr)
  | [] => .nil
  | n :: l => by
    have := VCs.cons (E := tE) (c := c) (T := 9) (x := .str ⟨n.toArray⟩) (by simp [fits]) (.str _) (VCs_strs l)
    simpa [strs, List.replicate_succ] using this

theorem ML.keys {E : Env} {c : Cx} {es : List (Lit × PV)} {ds : List (Lit × DataW Value)} (h : ML E c es ds) : ds.map (·.1) = es.map (·.1) := by
  induction h with
  | nil => rfl
  | cons h hs ih => simp [ih]

theorem C_sorted {R : Re → Store → Prop} {σ : Store} {i b : Nat} {T : TypeId} {es : List (Lit × PV)} (h0 : Store.at σ i = some (.cells T 0 [.map b])) (h1 : Store.at σ b = some (.mp 9 es)) (hl : es.length < 1000000000)
    (h : R (.ret (.lit (strs ((es.map fun p => strOf p.1).mergeSort fun x y => decide (x ≤ y))))) σ) :
    C tE 58 [.fn (.func 85) [] [.ptr i 0 0 []]] σ R :=
  C_below fun cx vs hn hv => by
    obtain ⟨v, us, e1, h2, h3⟩ := hv.cons_inv
    have := h3.nil_inv; subst this
    obtain ⟨a, d, rfl, h5, h6⟩ := h2.fn_inv
    have ea : a = #[] := by simpa using h5.nil_inv
    subst ea
    obtain ⟨p, us, e2, h7, h8⟩ := h6.cons_inv
    have := h8.nil_inv; subst this
    obtain ⟨m, ca, el, fz, cs, j1, j2, j3, j4, j5, j6, j7, j8, j9⟩ := hn.blk h0
    have hbase := hn.base i m j1 j2
    have hp : p = .pointer (some ⟨m.blk, 0, none⟩) := by
      have := h7.ptr_inv.2.2 m j1 j2
      simpa [hbase, pathOff] using this
    have hmapv : ∃ u, VC tE cx (.map b) [u] ∧ cs = [u] := by
      cases j6 with
      | cons hf hx hs =>
        cases hs
        obtain ⟨u, rfl⟩ := hx.scalar (by simp)
        exact ⟨u, hx, by simp⟩
    obtain ⟨u, hu, rfl⟩ := hmapv
    obtain ⟨mb, ds, k1, k2, k3, k4, k5, k6⟩ := hn.mp h1 (V_one hu (by simp))
    have hcell : cx.w.cell? ⟨m.blk, 0, none⟩ = some (.map (some mb.blk)) := by
      have := j7 0 u rfl
      rw [hbase] at this
      simp only [World.cell?, j4]
      rw [← k4]; simpa using this
    have hlen := k6.len
    have hB : m.blk < cx.w.heap.size := by obtain ⟨_, _, h, _⟩ := hn.dom i m j1; exact h
    rw [arr_of e1, show d = #[p] from arr_of e2, hp]
    refine (Try.sorted m.blk mb.blk ds.length (.map ds) asHeld cx.w hB hcell k5 ?_ ?_).mono ?_
    · simp only [Maps.size]; have : 1000000000 ≤ maxLen := by decide
      omega
    · simp only [Maps.size]; omega
    rintro e w' ⟨v, ss, rfl, hperm, hrow, _, hb⟩
    have hk : strKeys (DataW.map ds) = es.map fun p => strOf p.1 := by
      have := congrArg (List.map strOf) k6.keys
      simpa [strKeys, List.map_map, Function.comp_def] using this
    rw [hk] at hperm
    have hm : ss.mergeSort (fun x y => decide (x ≤ y)) = (es.map fun p => strOf p.1).mergeSort (fun x y => decide (x ≤ y)) := mergeSort_of_perm hperm
    rw [hm] at hrow
    exact ⟨hb, _, h, V_row hrow (by simp [strs, hperm.length_eq]) (VCs_strs _)⟩
end Go.Proofs.Ytdplbgfokoajjaa
end
section
/- Package disk: what its functions hand back, and leave. -/
set_option linter.unusedVariables false
set_option linter.unusedSimpArgs false
set_option maxRecDepth 4000
namespace Go.Proofs.Ytdplbgfokoajjaa
open Go
theorem tmix : tE.P.follows .mixedOrders = true := by kernel_rfl
attribute [local simp] RF_nil RF_cons afterRF_ret nilCmp sop sGuard isCall sCallee Fr.eval Fr.get Fr.put ofConst sLoad sStore sBuiltin Fr.args bodyQ sRes oneOf sBin sInt sUn
attribute [local simp] RD_nil RD_cons noConf clear accAdd Tab.pr Tab.slot foot wid idOf refId Op.operands Call.operands sFieldAddr sNilCheck sLookup keyLit sMapSet sMapDel sLen Store.at Store.new getP setP typeAt fits evalParts sBuildSlice sFill sList sApp sAppend frzRe frz pureB pureL

abbrev i64 (n : Int) : PV := .int .i64 n
/-- A file: its bytes, and how many of them last. -/
structure Fl where
  b : List UInt8
  last : Int
def u8l (l : List UInt8) : List PV := l.map fun b => .int .u8 b.toNat
abbrev u8s (l : List UInt8) : PV := .lit (u8l l)
def encF (f : Fl) : PV := .agg 79 [u8s f.b, i64 f.last]
structure Dk where
  room : Int
  files : List (List UInt8 × Fl)
  fuse : Int
  fail : Int
def encFs (l : List (List UInt8 × Fl)) : List (Lit × PV) := l.map fun p => (.string p.1, encF p.2)
def dkB (d : Dk) : Blk := .cells 74 0 [.agg 74 [i64 d.room, .map 1, i64 d.fuse, i64 d.fail]]
def dkS (d : Dk) : Store := [some (dkB d), some (.mp 9 (encFs d.files))]
attribute [local simp] dkB dkS u8s

theorem frz_u8l (σ : Store) (n : Nat) {l : List UInt8} : ∀ x ∈ u8l l, frz σ (n + 1) x = some x := fun x hx => by
  obtain ⟨b, _, rfl⟩ := List.mem_map.1 hx; rfl
theorem u8_fit (l : List UInt8) : ((l.map fun b => PV.int .u8 b.toNat).all (fits tE 5)) = true := by
  rw [List.all_map, List.all_eq_true]; intro b _; simp [fits]
theorem u8_fit' (l : List UInt8) : ∀ x ∈ (l.map fun b => PV.int .u8 b.toNat), fits tE 5 x = true := fun x hx => List.all_eq_true.1 (u8_fit l) x hx

section
variable {R : Re → Store → Prop} {σ : Store} {l : List UInt8}
theorem C_clone (hl : l.length < 1000000000) (h : R (.ret (u8s l)) σ) : C tE 56 [u8s l] σ R := by
  refine C_pure tOK (by simp [pureL, pureB]) ?_
  unfold u8s u8l
  cases l with
  | nil =>
    refine C_bodyk tOK Try.func56 rfl (Nat.le_of_ble_eq_true rfl) fun K hK => ?_; simp
    repeat (first | (refine T_seqk fun K hK => ?_) | (refine T_reg tOK rfl ?_; simp) | (refine T_ret ?_; try simp) | (refine T_skip ?_; try simp) | (refine T_blockk fun K hK => ?_) | (with_reducible apply_assumption -exfalso -symm) | (rw [afterRF_ret]; simp) | (refine T_exit ?_; try simp) | (refine T_cond_t ?_ ?_; · (simp; done)) | (refine T_cond_f ?_ ?_; · (simp; done)) | (rintro _ _ (_ | _) hz9 <;> first | (simp; done) | (simp at hz9; done)) | (refine And.intro ?_ ?_) | (simp only [Post.block_ret, Post.block_exit, Post.block_normal, Post.block_pan, Post.seq_ret, Post.seq_exit, Post.seq_normal, Post.seq_pan]; try simp) | (refine T_loop (TL_round ?_)) | (refine TL_round ?_))
  | cons b l =>
    have hl' : 2 * (l.length + 1) ≤ 281474976709656 := by simp at hl; omega
    refine C_bodyk tOK Try.func56 rfl (Nat.le_of_ble_eq_true rfl) fun K hK => ?_; simp
    repeat (first | (refine T_seqk fun K hK => ?_) | (refine T_reg tOK rfl ?_; simp [hl']) | (refine T_ret ?_; try simp) | (refine T_skip ?_; try simp) | (refine T_blockk fun K hK => ?_) | (with_reducible apply_assumption -exfalso -symm) | (rw [afterRF_ret]; simp [hl']) | (refine T_exit ?_; try simp) | (refine T_cond_t ?_ ?_; · (simp; done)) | (refine T_cond_f ?_ ?_; · (simp; done)) | (rintro _ _ (_ | _) hz9 <;> first | (simp; done) | (simp at hz9; done)) | (refine And.intro ?_ ?_) | (simp only [Post.block_ret, Post.block_exit, Post.block_normal, Post.block_pan, Post.seq_ret, Post.seq_exit, Post.seq_normal, Post.seq_pan]; try simp [hl']) | (refine T_loop (TL_round ?_)) | (refine TL_round ?_))
    rw [frzRe, frz_row (xs := u8l (b :: l)) rfl (by simp [u8l]) (frz_u8l _ _)]
    have e : ((u8l (b :: l)).drop 0).take (l.length + 1) = u8l (b :: l) := by rw [List.drop_zero]; exact List.take_of_length_le (by simp [u8l])
    rw [e]; exact h
end

section
variable {R : Re → Store → Prop} {d : Dk} {n : Int}
theorem C_fuse (h : R (.ret (.tup [])) (dkS { d with fuse := max n (-1) })) : C tE 45 [.ptr 0 0 0 [], i64 n] (dkS d) R := by
  refine C_bodyk tOK Try.func45 rfl (Nat.le_of_ble_eq_true rfl) fun K hK => ?_; simp
  repeat (first | (refine T_seqk fun K hK => ?_) | (refine T_reg tOK rfl ?_; simp) | (refine T_ret ?_; try simp) | (refine T_skip ?_; try simp) | (refine T_blockk fun K hK => ?_) | (with_reducible apply_assumption -exfalso -symm) | (rw [afterRF_ret]; simp) | (refine T_exit ?_; try simp) | (refine T_cond_t ?_ ?_; · (simp; done)) | (refine T_cond_f ?_ ?_; · (simp; done)) | (rintro _ _ (_ | _) hz9 <;> first | (simp; done) | (simp at hz9; done)) | (refine And.intro ?_ ?_) | (simp only [Post.block_ret, Post.block_exit, Post.block_normal, Post.block_pan, Post.seq_ret, Post.seq_exit, Post.seq_normal, Post.seq_pan]; try simp) | (refine T_loop (TL_round ?_)) | (refine TL_round ?_))
end

/-- May a file be named so? -/
def named (s : ByteArray) : Bool := !s.toList.isEmpty && decide ((s.size : Int) ≤ 16) && !decide (0 ≤ Lib.idxFunc oddR true s)

section
variable {R : Re → Store → Prop} {σ : Store} {d : Dk} {n : Int} {s : ByteArray}
set_option maxHeartbeats 400000 in
theorem C_named (h : R (.ret (.bool (named s))) σ) : C tE 72 [.str s] σ R := by
  unfold named at h
  by_cases e : s.toList = []
  · have e' : s.toList.isEmpty = true := by simp [e]
    have h : R (.ret (.bool false)) σ := by simpa [e] using h
    refine C_bodyk tOK Try.func72 rfl (Nat.le_of_ble_eq_true rfl) fun K hK => ?_; simp
    repeat (first | (refine T_seqk fun K hK => ?_) | (refine T_reg tOK rfl ?_; simp [e]) | (refine T_ret ?_; try simp) | (refine T_skip ?_; try simp) | (refine T_blockk fun K hK => ?_) | (with_reducible apply_assumption -exfalso -symm) | (rw [afterRF_ret]; simp [e]) | (refine T_exit ?_; try simp) | (refine T_cond_t ?_ ?_; · (simp; done)) | (refine T_cond_f ?_ ?_; · (simp; done)) | (rintro _ _ (_ | _) hz9 <;> first | (simp; done) | (simp at hz9; done)) | (refine And.intro ?_ ?_) | (simp only [Post.block_ret, Post.block_exit, Post.block_normal, Post.block_pan, Post.seq_ret, Post.seq_exit, Post.seq_normal, Post.seq_pan]; try simp [e]) | (refine T_loop (TL_round ?_)) | (refine TL_round ?_) | (refine C_contains ?_; simp [e]))
  · have e' : s.toList.isEmpty = false := by simp [e]
    clear e
    cases l : decide ((s.size : Int) ≤ 16) with
    | true =>
      have h : R (.ret (.bool (!decide (0 ≤ Lib.idxFunc oddR true s)))) σ := by simpa only [e', l, Bool.not_false, Bool.true_and] using h
      refine C_bodyk tOK Try.func72 rfl (Nat.le_of_ble_eq_true rfl) fun K hK => ?_; simp
      repeat (first | (refine T_seqk fun K hK => ?_) | (refine T_reg tOK rfl ?_; simp [e',l]) | (refine T_ret ?_; try simp) | (refine T_skip ?_; try simp) | (refine T_blockk fun K hK => ?_) | (with_reducible apply_assumption -exfalso -symm) | (rw [afterRF_ret]; simp [e',l]) | (refine T_exit ?_; try simp) | (refine T_cond_t ?_ ?_; · (simp; done)) | (refine T_cond_f ?_ ?_; · (simp; done)) | (rintro _ _ (_ | _) hz9 <;> first | (simp; done) | (simp at hz9; done)) | (refine And.intro ?_ ?_) | (simp only [Post.block_ret, Post.block_exit, Post.block_normal, Post.block_pan, Post.seq_ret, Post.seq_exit, Post.seq_normal, Post.seq_pan]; try simp [e',l]) | (refine T_loop (TL_round ?_)) | (refine TL_round ?_) | (refine C_contains ?_; simp [e',l]))
    | false =>
      have h : R (.ret (.bool false)) σ := by simpa only [e', l, Bool.not_false, Bool.true_and, Bool.false_and] using h
      refine C_bodyk tOK Try.func72 rfl (Nat.le_of_ble_eq_true rfl) fun K hK => ?_; simp
      repeat (first | (refine T_seqk fun K hK => ?_) | (refine T_reg tOK rfl ?_; simp [e',l]) | (refine T_ret ?_; try simp) | (refine T_skip ?_; try simp) | (refine T_blockk fun K hK => ?_) | (with_reducible apply_assumption -exfalso -symm) | (rw [afterRF_ret]; simp [e',l]) | (refine T_exit ?_; try simp) | (refine T_cond_t ?_ ?_; · (simp; done)) | (refine T_cond_f ?_ ?_; · (simp; done)) | (rintro _ _ (_ | _) hz9 <;> first | (simp; done) | (simp at hz9; done)) | (refine And.intro ?_ ?_) | (simp only [Post.block_ret, Post.block_exit, Post.block_normal, Post.block_pan, Post.seq_ret, Post.seq_exit, Post.seq_normal, Post.seq_pan]; try simp [e',l]) | (refine T_loop (TL_round ?_)) | (refine TL_round ?_) | (refine C_contains ?_; simp [e',l]))
theorem C_fail (h : R (.ret (.tup [])) (dkS { d with fail := max n 0 })) : C tE 30 [.ptr 0 0 0 [], i64 n] (dkS d) R := by
  refine C_bodyk tOK Try.func30 rfl (Nat.le_of_ble_eq_true rfl) fun K hK => ?_; simp
  repeat (first | (refine T_seqk fun K hK => ?_) | (refine T_reg tOK rfl ?_; simp) | (refine T_ret ?_; try simp) | (refine T_skip ?_; try simp) | (refine T_blockk fun K hK => ?_) | (with_reducible apply_assumption -exfalso -symm) | (rw [afterRF_ret]; simp) | (refine T_exit ?_; try simp) | (refine T_cond_t ?_ ?_; · (simp; done)) | (refine T_cond_f ?_ ?_; · (simp; done)) | (rintro _ _ (_ | _) hz9 <;> first | (simp; done) | (simp at hz9; done)) | (refine And.intro ?_ ?_) | (simp only [Post.block_ret, Post.block_exit, Post.block_normal, Post.block_pan, Post.seq_ret, Post.seq_exit, Post.seq_normal, Post.seq_pan]; try simp) | (refine T_loop (TL_round ?_)) | (refine TL_round ?_))
end

theorem encFs_all (p : Nat → Bool) (l : List (List UInt8 × Fl)) : ∀ a ∈ encFs l, allB p a.2 = true := fun a ha => by
  obtain ⟨x, _, rfl⟩ := List.mem_map.1 ha
  simp [encF, u8s, allB, allL]
def names (d : Dk) : List (List UInt8) := (d.files.map (·.1)).mergeSort fun x y => decide (x ≤ y)
section
variable {R : Re → Store → Prop} {d : Dk} {n : Int} {s : ByteArray}
theorem C_list (hl : d.files.length < 1000000000) (h : R (.ret (.lit (strs (names d)))) (dkS d)) : C tE 22 [.ptr 0 0 0 []] (dkS d) R := by
  have hn : ((encFs d.files).map fun p => strOf p.1) = d.files.map (·.1) := by simp [encFs, strOf, Function.comp_def]
  refine C_new tOK ?_
  refine C_bodyk tOK Try.func22 rfl (Nat.le_of_ble_eq_true rfl) fun K hK => ?_; simp
  repeat (first | (refine T_seqk fun K hK => ?_) | (refine T_reg tOK rfl ?_; simp) | (refine T_ret ?_; try simp) | (refine T_skip ?_; try simp) | (refine T_blockk fun K hK => ?_) | (with_reducible apply_assumption -exfalso -symm) | (rw [afterRF_ret]; simp) | (refine T_exit ?_; try simp) | (refine T_cond_t ?_ ?_; · (simp; done)) | (refine T_cond_f ?_ ?_; · (simp; done)) | (rintro _ _ (_ | _) hz9 <;> first | (simp; done) | (simp at hz9; done)) | (refine And.intro ?_ ?_) | (simp only [Post.block_ret, Post.block_exit, Post.block_normal, Post.block_pan, Post.seq_ret, Post.seq_exit, Post.seq_normal, Post.seq_pan]; try simp) | (refine T_loop (TL_round ?_)) | (refine TL_round ?_) | (refine C_bodyk tOK Try.func59 rfl (Nat.le_of_ble_eq_true rfl) fun K hK => ?_; simp))
  refine C_sorted (i := 2) (b := 1) (T := 72) (es := encFs d.files) rfl rfl (by simpa [encFs] using hl) ?_
  rw [hn]
  repeat (first | (refine T_seqk fun K hK => ?_) | (refine T_reg tOK rfl ?_; simp) | (refine T_ret ?_; try simp) | (refine T_skip ?_; try simp) | (refine T_blockk fun K hK => ?_) | (with_reducible apply_assumption -exfalso -symm) | (rw [afterRF_ret]; simp) | (refine T_exit ?_; try simp) | (refine T_cond_t ?_ ?_; · (simp; done)) | (refine T_cond_f ?_ ?_; · (simp; done)) | (rintro _ _ (_ | _) hz9 <;> first | (simp; done) | (simp at hz9; done)) | (refine And.intro ?_ ?_) | (simp only [Post.block_ret, Post.block_exit, Post.block_normal, Post.block_pan, Post.seq_ret, Post.seq_exit, Post.seq_normal, Post.seq_pan]; try simp) | (refine T_loop (TL_round ?_)) | (refine TL_round ?_))
  · exact .inl rfl
  · simpa [frzT, frzN, names] using h
end

def dget (n : List UInt8) (l : List (List UInt8 × Fl)) : Option Fl := (l.find? fun p => p.1 == n).map (·.2)
theorem mget_enc (n : List UInt8) : ∀ l, mget (.string n) (encFs l) = (dget n l).map encF
  | [] => rfl
  | p :: l => by
    have ih := mget_enc n l
    unfold mget dget encFs at *
    simp only [List.map_cons, List.find?_cons, Lit.sameKey] at *
    cases h : p.1 == n
    · simpa [h] using ih
    · simp [h]
section
variable {R : Re → Store → Prop} {σ : Store} {d : Dk} {n : Int} {s : ByteArray}
theorem C_clone0 (h : R (.ret (u8s [])) σ) : C tE 56 [.nils] σ R := by
  refine C_pure tOK rfl ?_
  refine C_bodyk tOK Try.func56 rfl (Nat.le_of_ble_eq_true rfl) fun K hK => ?_; simp
  repeat (first | (refine T_seqk fun K hK => ?_) | (refine T_reg tOK rfl ?_; simp) | (refine T_ret ?_; try simp) | (refine T_skip ?_; try simp) | (refine T_blockk fun K hK => ?_) | (with_reducible apply_assumption -exfalso -symm) | (rw [afterRF_ret]; simp) | (refine T_exit ?_; try simp) | (refine T_cond_t ?_ ?_; · (simp; done)) | (refine T_cond_f ?_ ?_; · (simp; done)) | (rintro _ _ (_ | _) hz9 <;> first | (simp; done) | (simp at hz9; done)) | (refine And.intro ?_ ?_) | (simp only [Post.block_ret, Post.block_exit, Post.block_normal, Post.block_pan, Post.seq_ret, Post.seq_exit, Post.seq_normal, Post.seq_pan]; try simp) | (refine T_loop (TL_round ?_)) | (refine TL_round ?_))
theorem C_read (hs : s.size ≤ maxLen) (hb : ∀ f, dget s.data.toList d.files = some f → f.b.length < 1000000000)
    (h : R (.ret (.tup [u8s ((dget s.data.toList d.files).elim [] (·.b)), .bool (dget s.data.toList d.files).isSome])) (dkS d)) : C tE 19 [.ptr 0 0 0 [], .str s] (dkS d) R := by
  have hm := mget_enc s.data.toList d.files
  refine C_new tOK ?_
  cases hg : dget s.data.toList d.files with
  | none =>
    rw [hg] at hm h
    refine C_bodyk tOK Try.func19 rfl (Nat.le_of_ble_eq_true rfl) fun K hK => ?_; simp
    repeat (first | (refine T_seqk fun K hK => ?_) | (refine T_reg tOK rfl ?_; simp [hs,hm]) | (refine T_ret ?_; try simp) | (refine T_skip ?_; try simp) | (refine T_blockk fun K hK => ?_) | (with_reducible apply_assumption -exfalso -symm) | (rw [afterRF_ret]; simp [hs,hm]) | (refine T_exit ?_; try simp) | (refine T_cond_t ?_ ?_; · (simp; done)) | (refine T_cond_f ?_ ?_; · (simp; done)) | (rintro _ _ (_ | _) hz9 <;> first | (simp; done) | (simp at hz9; done)) | (refine And.intro ?_ ?_) | (simp only [Post.block_ret, Post.block_exit, Post.block_normal, Post.block_pan, Post.seq_ret, Post.seq_exit, Post.seq_normal, Post.seq_pan]; try simp [hs,hm]) | (refine T_loop (TL_round ?_)) | (refine TL_round ?_) | (refine C_clone0 ?_; simp [hs,hm]))
    · exact .inl rfl
    · simpa [frzT, frzN] using h
  | some f =>
    have hb := hb f hg
    rw [hg] at hm h
    refine C_bodyk tOK Try.func19 rfl (Nat.le_of_ble_eq_true rfl) fun K hK => ?_; simp
    repeat (first | (refine T_seqk fun K hK => ?_) | (refine T_reg tOK rfl ?_; simp [hs,hm,encF]) | (refine T_ret ?_; try simp) | (refine T_skip ?_; try simp) | (refine T_blockk fun K hK => ?_) | (with_reducible apply_assumption -exfalso -symm) | (rw [afterRF_ret]; simp [hs,hm,encF]) | (refine T_exit ?_; try simp) | (refine T_cond_t ?_ ?_; · (simp; done)) | (refine T_cond_f ?_ ?_; · (simp; done)) | (rintro _ _ (_ | _) hz9 <;> first | (simp; done) | (simp at hz9; done)) | (refine And.intro ?_ ?_) | (simp only [Post.block_ret, Post.block_exit, Post.block_normal, Post.block_pan, Post.seq_ret, Post.seq_exit, Post.seq_normal, Post.seq_pan]; try simp [hs,hm,encF]) | (refine T_loop (TL_round ?_)) | (refine TL_round ?_))
    refine C_clone hb ?_
    repeat (first | (refine T_seqk fun K hK => ?_) | (refine T_reg tOK rfl ?_; simp) | (refine T_ret ?_; try simp) | (refine T_skip ?_; try simp) | (refine T_blockk fun K hK => ?_) | (with_reducible apply_assumption -exfalso -symm) | (rw [afterRF_ret]; simp) | (refine T_exit ?_; try simp) | (refine T_cond_t ?_ ?_; · (simp; done)) | (refine T_cond_f ?_ ?_; · (simp; done)) | (rintro _ _ (_ | _) hz9 <;> first | (simp; done) | (simp at hz9; done)) | (refine And.intro ?_ ?_) | (simp only [Post.block_ret, Post.block_exit, Post.block_normal, Post.block_pan, Post.seq_ret, Post.seq_exit, Post.seq_normal, Post.seq_pan]; try simp) | (refine T_loop (TL_round ?_)) | (refine TL_round ?_))
    · exact .inl rfl
    · simpa [frzT, frzN] using h
theorem C_synced (hs : s.size ≤ maxLen)
    (h : R (.ret (i64 ((dget s.data.toList d.files).elim 0 (·.last)))) (dkS d)) : C tE 26 [.ptr 0 0 0 [], .str s] (dkS d) R := by
  have hm := mget_enc s.data.toList d.files
  refine C_new tOK ?_
  cases hg : dget s.data.toList d.files with
  | none =>
    rw [hg] at hm h
    refine C_bodyk tOK Try.func26 rfl (Nat.le_of_ble_eq_true rfl) fun K hK => ?_; simp
    repeat (first | (refine T_seqk fun K hK => ?_) | (refine T_reg tOK rfl ?_; simp [hs,hm]) | (refine T_ret ?_; try simp) | (refine T_skip ?_; try simp) | (refine T_blockk fun K hK => ?_) | (with_reducible apply_assumption -exfalso -symm) | (rw [afterRF_ret]; simp [hs,hm]) | (refine T_exit ?_; try simp) | (refine T_cond_t ?_ ?_; · (simp; done)) | (refine T_cond_f ?_ ?_; · (simp; done)) | (rintro _ _ (_ | _) hz9 <;> first | (simp; done) | (simp at hz9; done)) | (refine And.intro ?_ ?_) | (simp only [Post.block_ret, Post.block_exit, Post.block_normal, Post.block_pan, Post.seq_ret, Post.seq_exit, Post.seq_normal, Post.seq_pan]; try simp [hs,hm]) | (refine T_loop (TL_round ?_)) | (refine TL_round ?_))
    · exact .inl rfl
    · simpa [frzT, frzN] using h
  | some f =>
    rw [hg] at hm h
    refine C_bodyk tOK Try.func26 rfl (Nat.le_of_ble_eq_true rfl) fun K hK => ?_; simp
    repeat (first | (refine T_seqk fun K hK => ?_) | (refine T_reg tOK rfl ?_; simp [hs,hm,encF]) | (refine T_ret ?_; try simp) | (refine T_skip ?_; try simp) | (refine T_blockk fun K hK => ?_) | (with_reducible apply_assumption -exfalso -symm) | (rw [afterRF_ret]; simp [hs,hm,encF]) | (refine T_exit ?_; try simp) | (refine T_cond_t ?_ ?_; · (simp; done)) | (refine T_cond_f ?_ ?_; · (simp; done)) | (rintro _ _ (_ | _) hz9 <;> first | (simp; done) | (simp at hz9; done)) | (refine And.intro ?_ ?_) | (simp only [Post.block_ret, Post.block_exit, Post.block_normal, Post.block_pan, Post.seq_ret, Post.seq_exit, Post.seq_normal, Post.seq_pan]; try simp [hs,hm,encF]) | (refine T_loop (TL_round ?_)) | (refine TL_round ?_))
    · exact .inl rfl
    · simpa [frzT, frzN] using h
end
end Go.Proofs.Ytdplbgfokoajjaa
end
section
/- Package sum: the sum of bytes. -/
set_option linter.unusedVariables false
set_option linter.unusedSimpArgs false
set_option maxRecDepth 4000
namespace Go.Proofs.Ytdplbgfokoajjaa
open Go
attribute [local simp] RF_nil RF_cons afterRF_ret nilCmp sop sGuard isCall sCallee Fr.eval Fr.get Fr.put ofConst sLoad sStore sBuiltin Fr.args bodyQ sRes oneOf sBin sInt sUn
attribute [local simp] RD_nil RD_cons noConf clear accAdd Tab.pr Tab.slot foot wid idOf refId Op.operands Call.operands sFieldAddr sNilCheck sLookup keyLit sMapSet sMapDel sLen Store.at Store.new getP setP typeAt fits evalParts sBuildSlice sFill sList sApp sAppend frzRe frz pureB pureL
attribute [local simp] optEval sSlice sIndexAddr

@[simp] theorem all_u8l {p : PV → Prop} {l : List UInt8} : (∀ x, x ∈ u8l l → p x) ↔ ∀ b ∈ l, p (.int .u8 b.toNat) := by simp [u8l]
theorem get_of {α : Type} {xs : List α} {i : Nat} {x : α} (h : xs[i]? = some x) (hlt : i < xs.length) : xs[i]'hlt = x := by
  rw [List.getElem?_eq_getElem hlt] at h; exact Option.some.inj h
/-- One bit of a sum's register. -/
def cs (r : Nat) : Nat := (r / 2) ^^^ (if r % 2 = 1 then 3988292384 else 0)
def csN : Nat → Nat → Nat
  | 0, r => r
  | k + 1, r => cs (csN k r)
/-- One byte. -/
def cs8 (r : Nat) : Nat := csN 8 r
def crcStep (r : Nat) (c : UInt8) : Nat := (r / 256) ^^^ cs8 ((r % 256) ^^^ c.toNat)
def crcM (s : Nat) (l : List UInt8) : Nat := 4294967295 ^^^ l.foldl crcStep (4294967295 ^^^ s)
def crc (l : List UInt8) : Nat := crcM 0 l
theorem cs_lt {r : Nat} (h : r < 4294967296) : cs r < 4294967296 := by
  unfold cs
  exact Nat.xor_lt_two_pow (n := 32) (by omega) (by split <;> omega)
theorem csN_lt {r : Nat} (h : r < 4294967296) : ∀ k, csN k r < 4294967296
  | 0 => h
  | k + 1 => cs_lt (csN_lt h k)
theorem cs8_lt {r : Nat} (h : r < 4294967296) : cs8 r < 4294967296 := csN_lt h 8
theorem crcStep_lt {r : Nat} (h : r < 4294967296) (c : UInt8) : crcStep r c < 4294967296 := by
  unfold crcStep
  have h1 := UInt8.toNat_lt c
  have : (r % 256) ^^^ c.toNat < 256 := Nat.xor_lt_two_pow (n := 8) (by omega) (by omega)
  exact Nat.xor_lt_two_pow (n := 32) (by omega) (cs8_lt (by omega))
theorem fold_lt : ∀ (l : List UInt8) {r : Nat}, r < 4294967296 → l.foldl crcStep r < 4294967296
  | [], r, h => h
  | c :: l, r, h => fold_lt l (crcStep_lt h c)
theorem crcM_lt {s : Nat} (h : s < 4294967296) (l : List UInt8) : crcM s l < 4294967296 :=
  Nat.xor_lt_two_pow (n := 32) (by omega) (fold_lt l (Nat.xor_lt_two_pow (n := 32) (by omega) h))
theorem xor_nat (k : IntKind) (j : Nat) (hj : j ≤ k.bits) (hk : ∀ n : Int, 0 ≤ n → n < 2 ^ j → k.wrap n = n) (a b : Nat) (ha : a < 2 ^ j) (hb : b < 2 ^ j) : bits .xor k a b = ((a ^^^ b : Nat) : Int) := by
  have hp : 2 ^ j ≤ 2 ^ k.bits := Nat.pow_le_pow_right (by decide) hj
  have ha' : a % 2 ^ k.bits = a := Nat.mod_eq_of_lt (Nat.lt_of_lt_of_le ha hp)
  have hb' : b % 2 ^ k.bits = b := Nat.mod_eq_of_lt (Nat.lt_of_lt_of_le hb hp)
  simp only [bits, BitVec.ofInt_natCast, BitVec.toNat_xor, BitVec.toNat_ofNat, ha', hb']
  exact hk _ (Int.natCast_nonneg _) (by exact_mod_cast Nat.xor_lt_two_pow ha hb)
theorem xor32 {a b : Nat} (ha : a < 4294967296) (hb : b < 4294967296) : bits .xor .u32 (a : Int) (b : Int) = ((a ^^^ b : Nat) : Int) := xor_nat .u32 32 (by decide) wraps_u32 a b ha hb
theorem xor8 {a b : Nat} (ha : a < 256) (hb : b < 256) : bits .xor .u8 (a : Int) (b : Int) = ((a ^^^ b : Nat) : Int) := xor_nat .u8 8 (by decide) wraps_u8 a b ha hb
theorem shr_nat (k : IntKind) (a s : Nat) : (a : Int).fdiv (2 ^ min s k.bits) = ((a / 2 ^ min s k.bits : Nat) : Int) := by
  rw [Int.fdiv_eq_ediv_of_nonneg _ (Int.pow_nonneg (by decide))]; simp
theorem cs_bits {r : Nat} (h : r < 4294967296) : bits .xor .u32 ((r : Int).fdiv (2 ^ min 1 IntKind.u32.bits)) (bits .and .u32 3988292384 (IntKind.u32.wrap (-bits .and .u32 (r : Int) 1))) = ((cs r : Nat) : Int) := by
  have h1 : bits .and .u32 (r : Int) 1 = ((r % 2 : Nat) : Int) := by
    have := bits_mask .u32 32 (by decide) wraps_u32 1 (by decide) (r : Int) (by omega) (by omega)
    simpa using this
  have h2 : (r : Int).fdiv (2 ^ min 1 IntKind.u32.bits) = ((r / 2 : Nat) : Int) := shr_nat .u32 r 1
  rw [h1, h2]
  unfold cs
  rcases Nat.mod_two_eq_zero_or_one r with e | e
  · rw [e]
    have : bits .and .u32 3988292384 (IntKind.u32.wrap (-((0 : Nat) : Int))) = ((0 : Nat) : Int) := by decide
    rw [this, xor32 (by omega) (by omega)]; simp
  · rw [e]
    have : bits .and .u32 3988292384 (IntKind.u32.wrap (-((1 : Nat) : Int))) = ((3988292384 : Nat) : Int) := by decide
    rw [this, xor32 (by omega) (by omega)]; simp

def tabF (k i : Nat) : PV := .int .u32 (if i < k then (cs8 i : Int) else 0)
def tabL (k : Nat) : List PV := (List.range 256).map (tabF k)
theorem tabL_len (k : Nat) : (tabL k).length = 256 := by simp [tabL]
theorem tabL_get {k i : Nat} (h : i < 256) : (tabL k)[i]? = some (tabF k i) := by simp [tabL, h]
theorem tabL_set {k : Nat} (h : k < 256) : (tabL k).set k (.int .u32 (cs8 k : Int)) = tabL (k + 1) := by
  apply List.ext_getElem?
  intro i
  rw [List.getElem?_set, tabL_len]
  by_cases hi : i < 256
  · rw [tabL_get hi]
    by_cases e : k = i
    · subst e
      simp [h, tabL_get hi, tabF]
    · rw [if_neg e, tabL_get hi]
      simp only [tabF]
      have : (i < k) = (i < k + 1) := by simp; omega
      simp [this]
  · rw [List.getElem?_eq_none (by rw [tabL_len]; omega), List.getElem?_eq_none (by rw [tabL_len]; omega)]
    split
    · simp_all
    · rfl
theorem tabL_0 : tabL 0 = List.replicate 256 (.int .u32 0) := by
  unfold tabL
  apply List.ext_getElem <;> simp [tabF, -List.reduceReplicate]
section
variable {R : Re → Store → Prop} {σ : Store}
set_option maxHeartbeats 1000000 in
theorem C_table (h : R (.ret (.agg 103 (tabL 256))) σ) : C tE 86 [] σ R := by
  refine C_pure tOK rfl ?_
  refine C_bodyk tOK Try.func86 rfl (Nat.le_of_ble_eq_true rfl) fun K hK => ?_; simp
  repeat (first | (refine T_seqk fun K hK => ?_) | (refine T_reg tOK rfl ?_; simp [-List.reduceReplicate]) | (refine T_ret ?_; try simp) | (refine T_skip ?_; try simp) | (refine T_blockk fun K hK => ?_) | (with_reducible apply_assumption -exfalso -symm) | (rw [afterRF_ret]; simp [-List.reduceReplicate]) | (refine T_exit ?_; try simp) | (refine T_cond_t ?_ ?_; · (simp; done)) | (refine T_cond_f ?_ ?_; · (simp; done)) | (rintro _ _ (_ | _) hz9 <;> first | (simp; done) | (simp at hz9; done)) | (refine And.intro ?_ ?_) | (simp only [Post.block_ret, Post.block_exit, Post.block_normal, Post.block_pan, Post.seq_ret, Post.seq_exit, Post.seq_normal, Post.seq_pan]; try simp [-List.reduceReplicate]))
  refine T_loop ?_
  refine TL_keep [0, 1, 4] ?_
  simp [-List.reduceReplicate, Fr.keep]
  rw [← tabL_0]
  refine TL_ix (fun k => [(0, .ptr 0 0 0 []), (1, .ptr 1 0 0 []), (4, i64 k)]) (fun k => [some (.cells 103 0 [.agg 103 (tabL 0)]), some (.cells 103 0 [.agg 103 (tabL k)])]) 256 (fun _ => True) trivial (fun _ => ?_) (fun k hk _ ih => ?_)
  · refine TL_round ?_
    repeat (first | (refine T_seqk fun K hK => ?_) | (refine T_reg tOK rfl ?_; simp [-List.reduceReplicate]) | (refine T_ret ?_; try simp) | (refine T_skip ?_; try simp) | (refine T_blockk fun K hK => ?_) | (with_reducible apply_assumption -exfalso -symm) | (rw [afterRF_ret]; simp [-List.reduceReplicate]) | (refine T_exit ?_; try simp) | (refine T_cond_t ?_ ?_; · (simp; done)) | (refine T_cond_f ?_ ?_; · (simp; done)) | (rintro _ _ (_ | _) hz9 <;> first | (simp; done) | (simp at hz9; done)) | (refine And.intro ?_ ?_) | (simp only [Post.block_ret, Post.block_exit, Post.block_normal, Post.block_pan, Post.seq_ret, Post.seq_exit, Post.seq_normal, Post.seq_pan]; try simp [-List.reduceReplicate]))
  · refine TL_round ?_
    replace ih := PLift.up (ih trivial)
    have hk0 : decide ((k : Int) < 256) = true := by rw [decide_eq_true_eq]; omega
    have hw : IntKind.u32.wrap (k : Int) = (k : Int) := wraps_u32 _ (by omega) (by omega)
    have hwk : IntKind.i64.wrap ((k : Int) + 1) = ((k + 1 : Nat) : Int) := by rw [IntWalk.i64_in _ (by omega)]; omega
    repeat (first | (refine T_seqk fun K hK => ?_) | (refine T_reg tOK rfl ?_; simp [-List.reduceReplicate,hk0,hw]) | (refine T_ret ?_; try simp) | (refine T_skip ?_; try simp) | (refine T_blockk fun K hK => ?_) | (with_reducible apply_assumption -exfalso -symm) | (rw [afterRF_ret]; simp [-List.reduceReplicate,hk0,hw]) | (refine T_exit ?_; try simp) | (refine T_cond_t ?_ ?_; · (simp; done)) | (refine T_cond_f ?_ ?_; · (simp; done)) | (rintro _ _ (_ | _) hz9 <;> first | (simp; done) | (simp at hz9; done)) | (refine And.intro ?_ ?_) | (simp only [Post.block_ret, Post.block_exit, Post.block_normal, Post.block_pan, Post.seq_ret, Post.seq_exit, Post.seq_normal, Post.seq_pan]; try simp [-List.reduceReplicate,hk0,hw]))
    refine T_loop ?_
    refine TL_keep [0, 1, 2, 3, 4, 9] ?_
    simp [-List.reduceReplicate, Fr.keep]
    refine TL_ix (fun j => [(0, .ptr 0 0 0 []), (1, .ptr 1 0 0 []), (2, i64 k), (3, .int .u32 (csN j k : Nat)), (4, i64 k), (9, i64 j)]) (fun j => [some (.cells 103 0 [.agg 103 (tabL 0)]), some (.cells 103 0 [.agg 103 (tabL k)])]) 8 (fun _ => True) trivial (fun _ => ?_) (fun j hj _ ih2 => ?_)
    · refine TL_round ?_
      have hkI : (k : Int) < 256 := by omega
      have hget : (tabL k)[k]? = some (tabF k k) := tabL_get hk
      have hlt : k < (tabL k).length := by rw [tabL_len]; exact hk
      have hset : (tabL k).set k (.int .u32 (csN 8 k : Nat)) = tabL (k + 1) := tabL_set hk
      have hrep : (List.replicate 256 (56 : Nat))[k]? = some 56 := by rw [List.getElem?_replicate, if_pos hk]
      repeat (first | (refine T_seqk fun K hK => ?_) | (refine T_reg tOK rfl ?_; simp [-List.reduceReplicate,hkI,hlt,hset,hwk,hrep]) | (refine T_ret ?_; try simp) | (refine T_skip ?_; try simp) | (refine T_blockk fun K hK => ?_) | (with_reducible apply_assumption -exfalso -symm) | (rw [afterRF_ret]; simp [-List.reduceReplicate,hkI,hlt,hset,hwk,hrep]) | (refine T_exit ?_; try simp) | (refine T_cond_t ?_ ?_; · (simp; done)) | (refine T_cond_f ?_ ?_; · (simp; done)) | (rintro _ _ (_ | _) hz9 <;> first | (simp; done) | (simp at hz9; done)) | (refine And.intro ?_ ?_) | (simp only [Post.block_ret, Post.block_exit, Post.block_normal, Post.block_pan, Post.seq_ret, Post.seq_exit, Post.seq_normal, Post.seq_pan]; try simp [-List.reduceReplicate,hkI,hlt,hset,hwk,hrep]))
      refine TL_keep [0, 1, 4] ?_
      simpa [-List.reduceReplicate, Fr.keep] using ih.down
    · refine TL_round ?_
      replace ih2 := PLift.up (ih2 trivial)
      have hj0 : decide ((j : Int) < 8) = true := by rw [decide_eq_true_eq]; omega
      have hwj : IntKind.i64.wrap ((j : Int) + 1) = ((j + 1 : Nat) : Int) := by rw [IntWalk.i64_in _ (by omega)]; omega
      have hb := cs_bits (csN_lt (r := k) (by omega) j)
      repeat (first | (refine T_seqk fun K hK => ?_) | (refine T_reg tOK rfl ?_; simp [-List.reduceReplicate,hj0,hwj,hb]) | (refine T_ret ?_; try simp) | (refine T_skip ?_; try simp) | (refine T_blockk fun K hK => ?_) | (with_reducible apply_assumption -exfalso -symm) | (rw [afterRF_ret]; simp [-List.reduceReplicate,hj0,hwj,hb]) | (refine T_exit ?_; try simp) | (refine T_cond_t ?_ ?_; · (simp; done)) | (refine T_cond_f ?_ ?_; · (simp; done)) | (rintro _ _ (_ | _) hz9 <;> first | (simp; done) | (simp at hz9; done)) | (refine And.intro ?_ ?_) | (simp only [Post.block_ret, Post.block_exit, Post.block_normal, Post.block_pan, Post.seq_ret, Post.seq_exit, Post.seq_normal, Post.seq_pan]; try simp [-List.reduceReplicate,hj0,hwj,hb]))
      refine TL_keep [0, 1, 2, 3, 4, 9] ?_
      simpa [-List.reduceReplicate, Fr.keep, csN] using ih2.down
theorem shr32_8 (a : Nat) : (a : Int).fdiv (2 ^ min 8 IntKind.u32.bits) = (a : Int) / 256 := (shr_nat .u32 a 8).trans (by simp [IntKind.bits])
@[simp] theorem notc32 : (if IntKind.u32.signed = true then (-1 : Int) else IntKind.u32.max) = 4294967295 := rfl
theorem pureL_u8 (l : List UInt8) : pureL (u8l l) = true := by
  unfold u8l
  exact pureL_map _ (fun _ => rfl) l
theorem fold_take {α β : Type} (f : β → α → β) (r : β) {l : List α} {k : Nat} {c : α} (h : l[k]? = some c) : (l.take (k + 1)).foldl f r = f ((l.take k).foldl f r) c := by
  rw [List.take_add_one, h]; simp [List.foldl_append]
theorem wrap8 (n : Nat) : IntKind.u8.wrap (n : Int) = (n : Int) % 256 := IntKind.wrap_u8 _
theorem C_more {s : Nat} {l : List UInt8} (hs : s < 4294967296) (hl : l.length < 1000000000) (h : R (.ret (.int .u32 (crcM s l : Nat))) σ) : C tE 65 [.int .u32 s, u8s l] σ R := by
  have hll : (u8l l).length = l.length := by simp [u8l]
  have h0 : bits .xor .u32 4294967295 (s : Int) = ((4294967295 ^^^ s : Nat) : Int) := xor32 (a := 4294967295) (by decide) hs
  have hr0 : 4294967295 ^^^ s < 4294967296 := Nat.xor_lt_two_pow (n := 32) (by decide) hs
  refine C_pure tOK (by simp [u8s, pureL_u8]) ?_
  unfold u8s
  refine C_bodyk tOK Try.func65 rfl (Nat.le_of_ble_eq_true rfl) fun K hK => ?_; simp
  repeat (first | (refine T_seqk fun K hK => ?_) | (refine T_reg tOK rfl ?_; simp [-List.reduceReplicate,h0,hll]) | (refine T_ret ?_; try simp) | (refine T_skip ?_; try simp) | (refine T_blockk fun K hK => ?_) | (with_reducible apply_assumption -exfalso -symm) | (rw [afterRF_ret]; simp [-List.reduceReplicate,h0,hll]) | (refine T_exit ?_; try simp) | (refine T_cond_t ?_ ?_; · (simp; done)) | (refine T_cond_f ?_ ?_; · (simp; done)) | (rintro _ _ (_ | _) hz9 <;> first | (simp; done) | (simp at hz9; done)) | (refine And.intro ?_ ?_) | (simp only [Post.block_ret, Post.block_exit, Post.block_normal, Post.block_pan, Post.seq_ret, Post.seq_exit, Post.seq_normal, Post.seq_pan]; try simp [-List.reduceReplicate,h0,hll]) | (refine C_table ?_; simp [-List.reduceReplicate,h0,hll]))
  refine T_loop ?_
  refine TL_keep [5, 6, 12, 13, 14] ?_
  simp [-List.reduceReplicate, Fr.keep,h0]
  refine TL_ix (fun k => [(5, .ptr 0 0 0 []), (6, .int .u32 ((l.take k).foldl crcStep (4294967295 ^^^ s) : Nat)), (12, .lit (u8l l)), (13, i64 l.length), (14, i64 k)]) (fun k => [some (.cells 103 0 [.agg 103 (tabL 256)])]) l.length (fun _ => True) trivial (fun _ => ?_) (fun k hk _ ih => ?_)
  · refine TL_round ?_
    have hfin : bits .xor .u32 4294967295 ((l.foldl crcStep (4294967295 ^^^ s) : Nat) : Int) = (crcM s l : Nat) := xor32 (a := 4294967295) (by decide) (fold_lt l hr0)
    repeat (first | (refine T_seqk fun K hK => ?_) | (refine T_reg tOK rfl ?_; simp [-List.reduceReplicate,List.take_length,hfin]) | (refine T_ret ?_; try simp) | (refine T_skip ?_; try simp) | (refine T_blockk fun K hK => ?_) | (with_reducible apply_assumption -exfalso -symm) | (rw [afterRF_ret]; simp [-List.reduceReplicate,List.take_length,hfin]) | (refine T_exit ?_; try simp) | (refine T_cond_t ?_ ?_; · (simp; done)) | (refine T_cond_f ?_ ?_; · (simp; done)) | (rintro _ _ (_ | _) hz9 <;> first | (simp; done) | (simp at hz9; done)) | (refine And.intro ?_ ?_) | (simp only [Post.block_ret, Post.block_exit, Post.block_normal, Post.block_pan, Post.seq_ret, Post.seq_exit, Post.seq_normal, Post.seq_pan]; try simp [-List.reduceReplicate,List.take_length,hfin]))
  · refine TL_round ?_
    replace ih := PLift.up (ih trivial)
    have hk0 : decide (k < l.length) = true := by simpa using hk
    have hwk : IntKind.i64.wrap ((k : Int) + 1) = ((k + 1 : Nat) : Int) := by rw [IntWalk.i64_in _ (by omega)]; omega
    have hlk : l[k]? = some l[k] := List.getElem?_eq_getElem hk
    have hel : (u8l l)[k]? = some (.int .u8 (l[k]).toNat) := by simp [u8l, hlk]
    have hlt : k < (u8l l).length := by omega
    have hel2 := get_of hel hlt
    have hfo := fold_take crcStep (4294967295 ^^^ s) hlk
    generalize l[k] = c at *
    have hr := fold_lt (l.take k) hr0
    generalize (l.take k).foldl crcStep (4294967295 ^^^ s) = r at *
    have hc := UInt8.toNat_lt c
    have hx8 : bits .xor .u8 ((r : Int) % 256) (c.toNat : Int) = (((r % 256) ^^^ c.toNat : Nat) : Int) := xor8 (a := r % 256) (by omega) (by omega)
    have hix : (r % 256) ^^^ c.toNat < 256 := Nat.xor_lt_two_pow (n := 8) (by omega) (by omega)
    have hget : (tabL 256)[(r % 256) ^^^ c.toNat]? = some (.int .u32 (cs8 ((r % 256) ^^^ c.toNat) : Nat)) := by rw [tabL_get hix]; simp [tabF, hix]
    have hx32 : bits .xor .u32 ((r : Int) / 256) (cs8 ((r % 256) ^^^ c.toNat) : Nat) = (crcStep r c : Nat) := xor32 (a := r / 256) (by omega) (cs8_lt (by omega))
    have hlt2 : (r % 256) ^^^ c.toNat < (tabL 256).length := by rw [tabL_len]; exact hix
    have hget2 := get_of hget hlt2
    have hrep : (List.replicate 256 (56 : Nat))[(r % 256) ^^^ c.toNat]? = some 56 := by rw [List.getElem?_replicate, if_pos hix]
    generalize (r % 256) ^^^ c.toNat = ix at *
    have hixI : (ix : Int) < 256 := by omega
    repeat (first | (refine T_seqk fun K hK => ?_) | (refine T_reg tOK rfl ?_; simp [-List.reduceReplicate,hk0,hwk,hel2,hlt,shr32_8,wrap8,hx8,hixI,hget2,hx32,hlt2,hrep]) | (refine T_ret ?_; try simp) | (refine T_skip ?_; try simp) | (refine T_blockk fun K hK => ?_) | (with_reducible apply_assumption -exfalso -symm) | (rw [afterRF_ret]; simp [-List.reduceReplicate,hk0,hwk,hel2,hlt,shr32_8,wrap8,hx8,hixI,hget2,hx32,hlt2,hrep]) | (refine T_exit ?_; try simp) | (refine T_cond_t ?_ ?_; · (simp; done)) | (refine T_cond_f ?_ ?_; · (simp; done)) | (rintro _ _ (_ | _) hz9 <;> first | (simp; done) | (simp at hz9; done)) | (refine And.intro ?_ ?_) | (simp only [Post.block_ret, Post.block_exit, Post.block_normal, Post.block_pan, Post.seq_ret, Post.seq_exit, Post.seq_normal, Post.seq_pan]; try simp [-List.reduceReplicate,hk0,hwk,hel2,hlt,shr32_8,wrap8,hx8,hixI,hget2,hx32,hlt2,hrep]))
    refine TL_keep [5, 6, 12, 13, 14] ?_
    simpa [-List.reduceReplicate, Fr.keep, hfo] using ih.down
theorem crc_lt (l : List UInt8) : crc l < 4294967296 := crcM_lt (by decide) l
theorem C_of {l : List UInt8} (hl : l.length < 1000000000) (h : R (.ret (.int .u32 (crc l : Nat))) σ) : C tE 33 [u8s l] σ R := by
  refine C_pure tOK (by simp [u8s, pureL_u8]) ?_
  refine C_bodyk tOK Try.func33 rfl (Nat.le_of_ble_eq_true rfl) fun K hK => ?_; simp
  repeat (first | (refine T_seqk fun K hK => ?_) | (refine T_reg tOK rfl ?_; simp) | (refine T_ret ?_; try simp) | (refine T_skip ?_; try simp) | (refine T_blockk fun K hK => ?_) | (with_reducible apply_assumption -exfalso -symm) | (rw [afterRF_ret]; simp) | (refine T_exit ?_; try simp) | (refine T_cond_t ?_ ?_; · (simp; done)) | (refine T_cond_f ?_ ?_; · (simp; done)) | (rintro _ _ (_ | _) hz9 <;> first | (simp; done) | (simp at hz9; done)) | (refine And.intro ?_ ?_) | (simp only [Post.block_ret, Post.block_exit, Post.block_normal, Post.block_pan, Post.seq_ret, Post.seq_exit, Post.seq_normal, Post.seq_pan]; try simp) | (refine T_loop (TL_round ?_)) | (refine TL_round ?_))
  refine C_more (s := 0) (by decide) hl ?_
  repeat (first | (refine T_seqk fun K hK => ?_) | (refine T_reg tOK rfl ?_; simp) | (refine T_ret ?_; try simp) | (refine T_skip ?_; try simp) | (refine T_blockk fun K hK => ?_) | (with_reducible apply_assumption -exfalso -symm) | (rw [afterRF_ret]; simp) | (refine T_exit ?_; try simp) | (refine T_cond_t ?_ ?_; · (simp; done)) | (refine T_cond_f ?_ ?_; · (simp; done)) | (rintro _ _ (_ | _) hz9 <;> first | (simp; done) | (simp at hz9; done)) | (refine And.intro ?_ ?_) | (simp only [Post.block_ret, Post.block_exit, Post.block_normal, Post.block_pan, Post.seq_ret, Post.seq_exit, Post.seq_normal, Post.seq_pan]; try simp) | (refine T_loop (TL_round ?_)) | (refine TL_round ?_))
end
end Go.Proofs.Ytdplbgfokoajjaa
end
section
/- Package manifest: whether a list is right. -/
set_option linter.unusedVariables false
set_option linter.unusedSimpArgs false
set_option maxRecDepth 4000
namespace Go.Proofs.Ytdplbgfokoajjaa
open Go
attribute [local simp] RF_nil RF_cons afterRF_ret nilCmp sop sGuard isCall sCallee Fr.eval Fr.get Fr.put ofConst sLoad sStore sBuiltin Fr.args bodyQ sRes oneOf sBin sInt sUn
attribute [local simp] RD_nil RD_cons noConf clear accAdd Tab.pr Tab.slot foot wid idOf refId Op.operands Call.operands sFieldAddr sNilCheck sLookup keyLit sMapSet sMapDel sLen Store.at Store.new getP setP typeAt fits evalParts sBuildSlice sFill sList sApp sAppend frzRe frz pureB pureL
attribute [local simp] optEval sSlice sIndexAddr xop sClear

def is (l : List Int) : List PV := l.map (.int .i64)
@[simp] theorem all_is {p : PV → Prop} {l : List Int} : (∀ x, x ∈ is l → p x) ↔ ∀ b ∈ l, p (.int .i64 b) := by simp [is]
theorem is_len (l : List Int) : (is l).length = l.length := by simp [is]
theorem pureL_is (l : List Int) : pureL (is l) = true := by
  unfold is
  exact pureL_map _ (fun _ => rfl) l
theorem is_get {l : List Int} {k : Nat} (h : k < l.length) : (is l)[k]? = some (.int .i64 l[k]) := by simp [is, h]
theorem is_fit (l : List Int) : ∀ x ∈ is l, fits tE 2 x = true := fun x hx => by
  obtain ⟨b, _, rfl⟩ := List.mem_map.1 hx; rfl
def inB (n : Int) : Bool := decide (0 ≤ n) && decide (n ≤ 1073741824)
def rises : List Int → Bool
  | [] => true
  | [_] => true
  | a :: b :: l => decide (a < b) && rises (b :: l)
def okL (l : List Int) : Bool := decide (0 < l.length) && decide (l.length ≤ 40) && l.all inB && rises l

section
variable {R : Re → Store → Prop} {σ : Store} {l : List Int} {a b n : Int}
theorem C_bad (h : R (.ret (.bool (!inB n))) σ) : C tE 37 [.int .i64 n] σ R := by
  refine C_pure tOK rfl ?_
  unfold inB at h
  cases h1 : decide (n < 0) with
  | true =>
    have h1' : decide (0 ≤ n) = false := by simp at h1 ⊢; omega
    rw [h1'] at h
    refine C_bodyk tOK Try.func37 rfl (Nat.le_of_ble_eq_true rfl) fun K hK => ?_; simp
    repeat (first | (refine T_seqk fun K hK => ?_) | (refine T_reg tOK rfl ?_; simp [h1]) | (refine T_ret ?_; try simp) | (refine T_skip ?_; try simp) | (refine T_blockk fun K hK => ?_) | (with_reducible apply_assumption -exfalso -symm) | (rw [afterRF_ret]; simp [h1]) | (refine T_exit ?_; try simp) | (refine T_cond_t ?_ ?_; · (simp; done)) | (refine T_cond_f ?_ ?_; · (simp; done)) | (rintro _ _ (_ | _) hz9 <;> first | (simp; done) | (simp at hz9; done)) | (refine And.intro ?_ ?_) | (simp only [Post.block_ret, Post.block_exit, Post.block_normal, Post.block_pan, Post.seq_ret, Post.seq_exit, Post.seq_normal, Post.seq_pan]; try simp [h1]) | (refine T_loop (TL_round ?_)) | (refine TL_round ?_))
  | false =>
    have h1' : decide (0 ≤ n) = true := by simp at h1 ⊢; omega
    have h2' : (!decide (n ≤ 1073741824)) = decide (1073741824 < n) := by rw [Bool.eq_iff_iff]; simp
    rw [h1', Bool.true_and, h2'] at h
    refine C_bodyk tOK Try.func37 rfl (Nat.le_of_ble_eq_true rfl) fun K hK => ?_; simp
    repeat (first | (refine T_seqk fun K hK => ?_) | (refine T_reg tOK rfl ?_; simp [h1]) | (refine T_ret ?_; try simp) | (refine T_skip ?_; try simp) | (refine T_blockk fun K hK => ?_) | (with_reducible apply_assumption -exfalso -symm) | (rw [afterRF_ret]; simp [h1]) | (refine T_exit ?_; try simp) | (refine T_cond_t ?_ ?_; · (simp; done)) | (refine T_cond_f ?_ ?_; · (simp; done)) | (rintro _ _ (_ | _) hz9 <;> first | (simp; done) | (simp at hz9; done)) | (refine And.intro ?_ ?_) | (simp only [Post.block_ret, Post.block_exit, Post.block_normal, Post.block_pan, Post.seq_ret, Post.seq_exit, Post.seq_normal, Post.seq_pan]; try simp [h1]) | (refine T_loop (TL_round ?_)) | (refine TL_round ?_))
theorem C_less (h : R (.ret (.bool (decide (a < b)))) σ) : C tE 69 [.int .i64 a, .int .i64 b] σ R := by
  refine C_bodyk tOK Try.func69 rfl (Nat.le_of_ble_eq_true rfl) fun K hK => ?_; simp
  repeat (first | (refine T_seqk fun K hK => ?_) | (refine T_reg tOK rfl ?_; simp) | (refine T_ret ?_; try simp) | (refine T_skip ?_; try simp) | (refine T_blockk fun K hK => ?_) | (with_reducible apply_assumption -exfalso -symm) | (rw [afterRF_ret]; simp) | (refine T_exit ?_; try simp) | (refine T_cond_t ?_ ?_; · (simp; done)) | (refine T_cond_f ?_ ?_; · (simp; done)) | (rintro _ _ (_ | _) hz9 <;> first | (simp; done) | (simp at hz9; done)) | (refine And.intro ?_ ?_) | (simp only [Post.block_ret, Post.block_exit, Post.block_normal, Post.block_pan, Post.seq_ret, Post.seq_exit, Post.seq_normal, Post.seq_pan]; try simp) | (refine T_loop (TL_round ?_)) | (refine TL_round ?_) | (refine C_bodyk tOK Try.func87 rfl (Nat.le_of_ble_eq_true rfl) fun K hK => ?_; simp))
theorem C_idx (hl : l.length < 1000000000) (h : ∀ i : Int, decide (0 ≤ i) = !l.all inB → R (.ret (.int .i64 i)) σ) : C tE 68 [.lit (is l), .fn (.func 37) [] []] σ R := by
  have hll := is_len l
  refine C_pure tOK (by simp [pureL_is]) ?_
  refine C_bodyk tOK Try.func68 rfl (Nat.le_of_ble_eq_true rfl) fun K hK => ?_; simp
  repeat (first | (refine T_seqk fun K hK => ?_) | (refine T_reg tOK rfl ?_; simp [hll]) | (refine T_ret ?_; try simp) | (refine T_skip ?_; try simp) | (refine T_blockk fun K hK => ?_) | (with_reducible apply_assumption -exfalso -symm) | (rw [afterRF_ret]; simp [hll]) | (refine T_exit ?_; try simp) | (refine T_cond_t ?_ ?_; · (simp; done)) | (refine T_cond_f ?_ ?_; · (simp; done)) | (rintro _ _ (_ | _) hz9 <;> first | (simp; done) | (simp at hz9; done)) | (refine And.intro ?_ ?_) | (simp only [Post.block_ret, Post.block_exit, Post.block_normal, Post.block_pan, Post.seq_ret, Post.seq_exit, Post.seq_normal, Post.seq_pan]; try simp [hll]))
  refine T_loop ?_
  refine TL_keep [0, 1, 7, 8] ?_
  simp [Fr.keep]
  refine TL_ix (fun k => [(0, .lit (is l)), (1, .fn (.func 37) [] []), (7, i64 l.length), (8, i64 k)]) (fun _ => []) l.length (fun k => (l.take k).all inB = true) (by simp) (fun hp => ?_) (fun k hk hp ih => ?_)
  · rw [List.take_length] at hp
    refine TL_round ?_
    replace h := h (-1) (by rw [hp]; rfl)
    repeat (first | (refine T_seqk fun K hK => ?_) | (refine T_reg tOK rfl ?_; simp) | (refine T_ret ?_; try simp) | (refine T_skip ?_; try simp) | (refine T_blockk fun K hK => ?_) | (with_reducible apply_assumption -exfalso -symm) | (rw [afterRF_ret]; simp) | (refine T_exit ?_; try simp) | (refine T_cond_t ?_ ?_; · (simp; done)) | (refine T_cond_f ?_ ?_; · (simp; done)) | (rintro _ _ (_ | _) hz9 <;> first | (simp; done) | (simp at hz9; done)) | (refine And.intro ?_ ?_) | (simp only [Post.block_ret, Post.block_exit, Post.block_normal, Post.block_pan, Post.seq_ret, Post.seq_exit, Post.seq_normal, Post.seq_pan]; try simp))
  · have hk0 : decide (k < l.length) = true := by simpa using hk
    have hwk : IntKind.i64.wrap ((k : Int) + 1) = ((k + 1 : Nat) : Int) := by rw [IntWalk.i64_in _ (by omega)]; omega
    have hlt : k < (is l).length := by omega
    have hek := is_get hk
    have hel := get_of hek hlt
    rw [List.take_add_one, List.all_append, hp, List.getElem?_eq_getElem hk] at ih
    simp at ih
    refine TL_round ?_
    cases hb : inB l[k] with
    | true =>
      have ih := PLift.up (ih hb)
      repeat (first | (refine T_seqk fun K hK => ?_) | (refine T_reg tOK rfl ?_; simp [hk0,hwk,hek,hel,hlt,hll,hb]) | (refine T_ret ?_; try simp) | (refine T_skip ?_; try simp) | (refine T_blockk fun K hK => ?_) | (with_reducible apply_assumption -exfalso -symm) | (rw [afterRF_ret]; simp [hk0,hwk,hek,hel,hlt,hll,hb]) | (refine T_exit ?_; try simp) | (refine T_cond_t ?_ ?_; · (simp; done)) | (refine T_cond_f ?_ ?_; · (simp; done)) | (rintro _ _ (_ | _) hz9 <;> first | (simp; done) | (simp at hz9; done)) | (refine And.intro ?_ ?_) | (simp only [Post.block_ret, Post.block_exit, Post.block_normal, Post.block_pan, Post.seq_ret, Post.seq_exit, Post.seq_normal, Post.seq_pan]; try simp [hk0,hwk,hek,hel,hlt,hll,hb]) | (refine C_bad ?_; simp [hk0,hwk,hek,hel,hlt,hll,hb]))
      refine TL_keep [0, 1, 7, 8] ?_
      simpa [Fr.keep] using ih.down
    | false =>
      clear ih
      replace h := h k (by
        have : l.all inB = false := by
          rw [List.all_eq_false]; exact ⟨l[k], List.getElem_mem hk, by simp [hb]⟩
        rw [this]; simp)
      repeat (first | (refine T_seqk fun K hK => ?_) | (refine T_reg tOK rfl ?_; simp [hk0,hwk,hek,hel,hlt,hll,hb]) | (refine T_ret ?_; try simp) | (refine T_skip ?_; try simp) | (refine T_blockk fun K hK => ?_) | (with_reducible apply_assumption -exfalso -symm) | (rw [afterRF_ret]; simp [hk0,hwk,hek,hel,hlt,hll,hb]) | (refine T_exit ?_; try simp) | (refine T_cond_t ?_ ?_; · (simp; done)) | (refine T_cond_f ?_ ?_; · (simp; done)) | (rintro _ _ (_ | _) hz9 <;> first | (simp; done) | (simp at hz9; done)) | (refine And.intro ?_ ?_) | (simp only [Post.block_ret, Post.block_exit, Post.block_normal, Post.block_pan, Post.seq_ret, Post.seq_exit, Post.seq_normal, Post.seq_pan]; try simp [hk0,hwk,hek,hel,hlt,hll,hb]) | (refine C_bad ?_; simp [hk0,hwk,hek,hel,hlt,hll,hb]))
theorem C_cont (hl : l.length < 1000000000) (h : R (.ret (.bool (!l.all inB))) σ) : C tE 38 [.lit (is l), .fn (.func 37) [] []] σ R := by
  refine C_pure tOK (by simp [pureL_is]) ?_
  refine C_bodyk tOK Try.func38 rfl (Nat.le_of_ble_eq_true rfl) fun K hK => ?_; simp
  repeat (first | (refine T_seqk fun K hK => ?_) | (refine T_reg tOK rfl ?_; simp) | (refine T_ret ?_; try simp) | (refine T_skip ?_; try simp) | (refine T_blockk fun K hK => ?_) | (with_reducible apply_assumption -exfalso -symm) | (rw [afterRF_ret]; simp) | (refine T_exit ?_; try simp) | (refine T_cond_t ?_ ?_; · (simp; done)) | (refine T_cond_f ?_ ?_; · (simp; done)) | (rintro _ _ (_ | _) hz9 <;> first | (simp; done) | (simp at hz9; done)) | (refine And.intro ?_ ?_) | (simp only [Post.block_ret, Post.block_exit, Post.block_normal, Post.block_pan, Post.seq_ret, Post.seq_exit, Post.seq_normal, Post.seq_pan]; try simp) | (refine T_loop (TL_round ?_)) | (refine TL_round ?_))
  refine C_idx hl fun i hi => ?_
  rw [← hi] at h
  repeat (first | (refine T_seqk fun K hK => ?_) | (refine T_reg tOK rfl ?_; simp) | (refine T_ret ?_; try simp) | (refine T_skip ?_; try simp) | (refine T_blockk fun K hK => ?_) | (with_reducible apply_assumption -exfalso -symm) | (rw [afterRF_ret]; simp) | (refine T_exit ?_; try simp) | (refine T_cond_t ?_ ?_; · (simp; done)) | (refine T_cond_f ?_ ?_; · (simp; done)) | (rintro _ _ (_ | _) hz9 <;> first | (simp; done) | (simp at hz9; done)) | (refine And.intro ?_ ?_) | (simp only [Post.block_ret, Post.block_exit, Post.block_normal, Post.block_pan, Post.seq_ret, Post.seq_exit, Post.seq_normal, Post.seq_pan]; try simp) | (refine T_loop (TL_round ?_)) | (refine TL_round ?_))
/-- No number is below the one ahead of it. -/
def sortedB (l : List Int) : Bool := (List.range (l.length - 1)).all fun i => decide (l.getD i 0 ≤ l.getD (i + 1) 0)
theorem C_issorted (hl : l.length < 1000000000) (h : R (.ret (.bool (sortedB l))) σ) : C tE 39 [.lit (is l)] σ R := by
  have hll := is_len l
  refine C_pure tOK (by simp [pureL_is]) ?_
  refine C_bodyk tOK Try.func39 rfl (Nat.le_of_ble_eq_true rfl) fun K hK => ?_; simp
  have hw0 : IntKind.i64.wrap ((l.length : Int) - 1) = (l.length : Int) - 1 := IntWalk.i64_in _ (by omega)
  repeat (first | (refine T_seqk fun K hK => ?_) | (refine T_reg tOK rfl ?_; simp [hll,hw0]) | (refine T_ret ?_; try simp) | (refine T_skip ?_; try simp) | (refine T_blockk fun K hK => ?_) | (with_reducible apply_assumption -exfalso -symm) | (rw [afterRF_ret]; simp [hll,hw0]) | (refine T_exit ?_; try simp) | (refine T_cond_t ?_ ?_; · (simp; done)) | (refine T_cond_f ?_ ?_; · (simp; done)) | (rintro _ _ (_ | _) hz9 <;> first | (simp; done) | (simp at hz9; done)) | (refine And.intro ?_ ?_) | (simp only [Post.block_ret, Post.block_exit, Post.block_normal, Post.block_pan, Post.seq_ret, Post.seq_exit, Post.seq_normal, Post.seq_pan]; try simp [hll,hw0]) | (refine T_draw tOK tmix [([], 0), ([], 1), ([0, 1], 2), ([0, 1, 2], 3), ([], 4), ([], 5), ([5], 6), ([4, 5, 6], 7), ([4, 5, 6, 7], 8), ([0, 1, 2, 3, 4, 5, 6, 7, 8], 9)] 9 (by decide +kernel) ?_; simp [hll,hw0]))
  refine T_loop ?_
  refine TL_keep [0, 3] ?_
  simp [Fr.keep]
  cases l with
  | nil =>
    refine TL_round ?_
    simp [sortedB] at h
    repeat (first | (refine T_seqk fun K hK => ?_) | (refine T_reg tOK rfl ?_; simp) | (refine T_ret ?_; try simp) | (refine T_skip ?_; try simp) | (refine T_blockk fun K hK => ?_) | (with_reducible apply_assumption -exfalso -symm) | (rw [afterRF_ret]; simp) | (refine T_exit ?_; try simp) | (refine T_cond_t ?_ ?_; · (simp; done)) | (refine T_cond_f ?_ ?_; · (simp; done)) | (rintro _ _ (_ | _) hz9 <;> first | (simp; done) | (simp at hz9; done)) | (refine And.intro ?_ ?_) | (simp only [Post.block_ret, Post.block_exit, Post.block_normal, Post.block_pan, Post.seq_ret, Post.seq_exit, Post.seq_normal, Post.seq_pan]; try simp) | (refine T_draw tOK tmix [([], 0), ([], 1), ([0, 1], 2), ([0, 1, 2], 3), ([], 4), ([], 5), ([5], 6), ([4, 5, 6], 7), ([4, 5, 6, 7], 8), ([0, 1, 2, 3, 4, 5, 6, 7, 8], 9)] 9 (by decide +kernel) ?_; simp))
  | cons x l' =>
  generalize hL : x :: l' = l at *
  have hpos : 0 < l.length := by rw [← hL]; simp
  refine TL_st (l.length - 1) (fun j fr σ => fr = [(0, .lit (is l)), (3, i64 ((l.length - 1 - j : Nat) : Int))] ∧ σ = [] ∧ ∀ i, l.length - 1 - j ≤ i → i < l.length - 1 → l.getD i 0 ≤ l.getD (i + 1) 0) ?_ ?_ ⟨by congr; omega, rfl, fun i h1 h2 => by omega⟩
  · rintro fr σ ⟨rfl, rfl, hp⟩
    have hs : sortedB l = true := by
      unfold sortedB
      rw [List.all_eq_true]
      intro i hi
      simp only [decide_eq_true_eq]
      exact hp i (by omega) (by simpa using hi)
    rw [hs] at h
    refine TL_round ?_
    repeat (first | (refine T_seqk fun K hK => ?_) | (refine T_reg tOK rfl ?_; simp) | (refine T_ret ?_; try simp) | (refine T_skip ?_; try simp) | (refine T_blockk fun K hK => ?_) | (with_reducible apply_assumption -exfalso -symm) | (rw [afterRF_ret]; simp) | (refine T_exit ?_; try simp) | (refine T_cond_t ?_ ?_; · (simp; done)) | (refine T_cond_f ?_ ?_; · (simp; done)) | (rintro _ _ (_ | _) hz9 <;> first | (simp; done) | (simp at hz9; done)) | (refine And.intro ?_ ?_) | (simp only [Post.block_ret, Post.block_exit, Post.block_normal, Post.block_pan, Post.seq_ret, Post.seq_exit, Post.seq_normal, Post.seq_pan]; try simp) | (refine T_draw tOK tmix [([], 0), ([], 1), ([0, 1], 2), ([0, 1, 2], 3), ([], 4), ([], 5), ([5], 6), ([4, 5, 6], 7), ([4, 5, 6, 7], 8), ([0, 1, 2, 3, 4, 5, 6, 7, 8], 9)] 9 (by decide +kernel) ?_; simp))
  · rintro k fr σ hk ⟨rfl, rfl, hp⟩ ih
    replace ih := PLift.up ih
    obtain ⟨m, hm⟩ : ∃ m, l.length - 1 - k = m + 1 := ⟨l.length - 1 - k - 1, by omega⟩
    have hm2 : l.length - 1 - (k + 1) = m := by omega
    rw [hm] at hp ⊢
    rw [hm2] at ih
    have g0 : decide (0 < ((m + 1 : Nat) : Int)) = true := by rw [decide_eq_true_eq]; omega
    have hw : IntKind.i64.wrap (((m + 1 : Nat) : Int) - 1) = (m : Int) := by rw [IntWalk.i64_in _ (by omega)]; omega
    have h1 : m + 1 < l.length := by omega
    have h0 : m < l.length := by omega
    have l1 : m + 1 < (is l).length := by omega
    have l0 : m < (is l).length := by omega
    have e1 := get_of (is_get h1) l1
    have e0 := get_of (is_get h0) l0
    have f1 : l.getD (m + 1) 0 = l[m + 1] := by simp [h1]
    have f0 : l.getD m 0 = l[m] := by simp [h0]
    generalize hx1 : l[m + 1] = x1 at *
    generalize hx0 : l[m] = x0 at *
    have hm0 : (0 : Int) ≤ (m : Int) + 1 := by omega
    have hwm : IntKind.i64.wrap (m : Int) = m := IntWalk.i64_in _ (by omega)
    push_cast at g0 hw ⊢
    refine TL_round ?_
    cases hb : decide (x1 < x0) with
    | true =>
      clear ih
      have hs : sortedB l = false := by
        unfold sortedB
        rw [List.all_eq_false]
        refine ⟨m, by simp; omega, ?_⟩
        simp only [decide_eq_true_eq] at hb ⊢
        omega
      rw [hs] at h
      repeat (first | (refine T_seqk fun K hK => ?_) | (refine T_reg tOK rfl ?_; simp [g0,hw,hwm,hm0,l1,l0,e1,e0,hb]) | (refine T_ret ?_; try simp) | (refine T_skip ?_; try simp) | (refine T_blockk fun K hK => ?_) | (with_reducible apply_assumption -exfalso -symm) | (rw [afterRF_ret]; simp [g0,hw,hwm,hm0,l1,l0,e1,e0,hb]) | (refine T_exit ?_; try simp) | (refine T_cond_t ?_ ?_; · (simp; done)) | (refine T_cond_f ?_ ?_; · (simp; done)) | (rintro _ _ (_ | _) hz9 <;> first | (simp; done) | (simp at hz9; done)) | (refine And.intro ?_ ?_) | (simp only [Post.block_ret, Post.block_exit, Post.block_normal, Post.block_pan, Post.seq_ret, Post.seq_exit, Post.seq_normal, Post.seq_pan]; try simp [g0,hw,hwm,hm0,l1,l0,e1,e0,hb]) | (refine T_draw tOK tmix [([], 0), ([], 1), ([0, 1], 2), ([0, 1, 2], 3), ([], 4), ([], 5), ([5], 6), ([4, 5, 6], 7), ([4, 5, 6, 7], 8), ([0, 1, 2, 3, 4, 5, 6, 7, 8], 9)] 9 (by decide +kernel) ?_; simp [g0,hw,hwm,hm0,l1,l0,e1,e0,hb]) | (refine RD_call (rd := []) (fun τ _ => C_less ⟨rfl, rfl⟩) ?_; simp [g0,hw,hwm,hm0,l1,l0,e1,e0,hb]) | (refine C_less ?_; simp [g0,hw,hwm,hm0,l1,l0,e1,e0,hb]))
    | false =>
      repeat (first | (refine T_seqk fun K hK => ?_) | (refine T_reg tOK rfl ?_; simp [g0,hw,hwm,hm0,l1,l0,e1,e0,hb]) | (refine T_ret ?_; try simp) | (refine T_skip ?_; try simp) | (refine T_blockk fun K hK => ?_) | (with_reducible apply_assumption -exfalso -symm) | (rw [afterRF_ret]; simp [g0,hw,hwm,hm0,l1,l0,e1,e0,hb]) | (refine T_exit ?_; try simp) | (refine T_cond_t ?_ ?_; · (simp; done)) | (refine T_cond_f ?_ ?_; · (simp; done)) | (rintro _ _ (_ | _) hz9 <;> first | (simp; done) | (simp at hz9; done)) | (refine And.intro ?_ ?_) | (simp only [Post.block_ret, Post.block_exit, Post.block_normal, Post.block_pan, Post.seq_ret, Post.seq_exit, Post.seq_normal, Post.seq_pan]; try simp [g0,hw,hwm,hm0,l1,l0,e1,e0,hb]) | (refine T_draw tOK tmix [([], 0), ([], 1), ([0, 1], 2), ([0, 1, 2], 3), ([], 4), ([], 5), ([5], 6), ([4, 5, 6], 7), ([4, 5, 6, 7], 8), ([0, 1, 2, 3, 4, 5, 6, 7, 8], 9)] 9 (by decide +kernel) ?_; simp [g0,hw,hwm,hm0,l1,l0,e1,e0,hb]) | (refine RD_call (rd := []) (fun τ _ => C_less ⟨rfl, rfl⟩) ?_; simp [g0,hw,hwm,hm0,l1,l0,e1,e0,hb]) | (refine C_less ?_; simp [g0,hw,hwm,hm0,l1,l0,e1,e0,hb]))
      refine TL_fall 0 [0, 3] (by simp) (by simp [Fr.keep]) (by simp [belowFr, belowB, belowL_of_pure 0 _ (pureL_is l)]) (by simp) rfl (ih.down _ _ ⟨rfl, rfl, fun i h1 h2 => ?_⟩)
      rcases Nat.lt_or_ge m i with h3 | h3
      · exact hp i (by omega) h2
      · have : i = m := by omega
        subst this
        rw [f0, f1]; simpa using hb
theorem C_clone64 (hl : l.length < 1000000000) (hne : l ≠ []) (h : R (.ret (.ref σ.length 1 0 l.length)) (σ ++ [some (.cells 2 1 (is l))])) : C tE 41 [.lit (is l)] σ R := by
  obtain ⟨x, l', rfl⟩ : ∃ x l', l = x :: l' := by
    cases l with
    | nil => exact absurd rfl hne
    | cons x l' => exact ⟨x, l', rfl⟩
  have hl' : (2 * (l'.length + 1) + 1000) * 8 ≤ 281474976710656 := by simp at hl; omega
  have hft := is_fit (x :: l')
  simp only [is, List.map_cons, List.mem_cons, forall_eq_or_imp, List.length_cons] at h hft
  unfold is
  refine C_bodyk tOK Try.func41 rfl (Nat.le_of_ble_eq_true rfl) fun K hK => ?_; simp
  repeat (first | (refine T_seqk fun K hK => ?_) | (refine T_reg tOK rfl ?_; simp [hl']) | (refine T_ret ?_; try simp) | (refine T_skip ?_; try simp) | (refine T_blockk fun K hK => ?_) | (with_reducible apply_assumption -exfalso -symm) | (rw [afterRF_ret]; simp [hl']) | (refine T_exit ?_; try simp) | (refine T_cond_t ?_ ?_; · (simp; done)) | (refine T_cond_f ?_ ?_; · (simp; done)) | (rintro _ _ (_ | _) hz9 <;> first | (simp; done) | (simp at hz9; done)) | (refine And.intro ?_ ?_) | (simp only [Post.block_ret, Post.block_exit, Post.block_normal, Post.block_pan, Post.seq_ret, Post.seq_exit, Post.seq_normal, Post.seq_pan]; try simp [hl']) | (refine T_loop (TL_round ?_)) | (refine TL_round ?_))
/-- No number is the one ahead of it. -/
def noAdj (l : List Int) (k : Nat) : Prop := ∀ i, i + 1 < k → l.getD (i + 1) 0 ≠ l.getD i 0
theorem C_compact {g : Nat} (hl : l.length < 1000000000) (h1 : noAdj l l.length → R (.ret (.ref 0 g 0 l.length)) [some (.cells 2 g (is l))])
    (h2 : ∀ k ys, k < l.length → ys.length = l.length → ¬ noAdj l l.length → R (.ret (.ref 0 g 0 k)) [some (.cells 2 g (is ys))]) : C tE 40 [.ref 0 g 0 l.length] [some (.cells 2 g (is l))] R := by
  have hll := is_len l
  cases h0 : decide ((l.length : Int) < 2) with
  | true =>
    replace h1 := h1 (fun i hi => by simp at h0; omega)
    clear h2
    refine C_bodyk tOK Try.func40 rfl (Nat.le_of_ble_eq_true rfl) fun K hK => ?_; simp
    repeat (first | (refine T_seqk fun K hK => ?_) | (refine T_reg tOK rfl ?_; simp [h0]) | (refine T_ret ?_; try simp) | (refine T_skip ?_; try simp) | (refine T_blockk fun K hK => ?_) | (with_reducible apply_assumption -exfalso -symm) | (rw [afterRF_ret]; simp [h0]) | (refine T_exit ?_; try simp) | (refine T_cond_t ?_ ?_; · (simp; done)) | (refine T_cond_f ?_ ?_; · (simp; done)) | (rintro _ _ (_ | _) hz9 <;> first | (simp; done) | (simp at hz9; done)) | (refine And.intro ?_ ?_) | (simp only [Post.block_ret, Post.block_exit, Post.block_normal, Post.block_pan, Post.seq_ret, Post.seq_exit, Post.seq_normal, Post.seq_pan]; try simp [h0]) | (refine T_draw tOK tmix [([], 0), ([], 1), ([0, 1], 2), ([0, 1, 2], 3), ([], 4), ([], 5), ([5], 6), ([4, 5, 6], 7), ([4, 5, 6, 7], 8), ([0, 1, 2, 3, 4, 5, 6, 7, 8], 9)] 9 (by decide +kernel) ?_; simp [h0]) | (refine T_draw tOK tmix [([], 0), ([], 1), ([0, 1], 2), ([0, 1, 2], 3), ([], 4), ([], 5), ([5], 6), ([4, 5, 6], 7), ([4, 5, 6, 7], 8), ([0, 1, 2, 3, 4, 5, 6, 7, 8], 9)] 9 (by decide +kernel) ?_; simp [h0]))
  | false =>
    refine C_bodyk tOK Try.func40 rfl (Nat.le_of_ble_eq_true rfl) fun K hK => ?_; simp
    repeat (first | (refine T_seqk fun K hK => ?_) | (refine T_reg tOK rfl ?_; simp [h0]) | (refine T_ret ?_; try simp) | (refine T_skip ?_; try simp) | (refine T_blockk fun K hK => ?_) | (with_reducible apply_assumption -exfalso -symm) | (rw [afterRF_ret]; simp [h0]) | (refine T_exit ?_; try simp) | (refine T_cond_t ?_ ?_; · (simp; done)) | (refine T_cond_f ?_ ?_; · (simp; done)) | (rintro _ _ (_ | _) hz9 <;> first | (simp; done) | (simp at hz9; done)) | (refine And.intro ?_ ?_) | (simp only [Post.block_ret, Post.block_exit, Post.block_normal, Post.block_pan, Post.seq_ret, Post.seq_exit, Post.seq_normal, Post.seq_pan]; try simp [h0]) | (refine T_draw tOK tmix [([], 0), ([], 1), ([0, 1], 2), ([0, 1, 2], 3), ([], 4), ([], 5), ([5], 6), ([4, 5, 6], 7), ([4, 5, 6, 7], 8), ([0, 1, 2, 3, 4, 5, 6, 7, 8], 9)] 9 (by decide +kernel) ?_; simp [h0]) | (refine T_draw tOK tmix [([], 0), ([], 1), ([0, 1], 2), ([0, 1, 2], 3), ([], 4), ([], 5), ([5], 6), ([4, 5, 6], 7), ([4, 5, 6, 7], 8), ([0, 1, 2, 3, 4, 5, 6, 7, 8], 9)] 9 (by decide +kernel) ?_; simp [h0]))
    have hlen2 : 2 ≤ l.length := by simp at h0; omega
    refine T_loop ?_
    refine TL_keep [0, 3] ?_
    simp [Fr.keep]
    refine TL_st (l.length - 1) (fun j fr σ => fr = [(0, .ref 0 g 0 l.length), (3, i64 ((j + 1 : Nat) : Int))] ∧ σ = [some (.cells 2 g (is l))] ∧ noAdj l (j + 1)) ?_ ?_ ⟨rfl, rfl, fun i hi => by omega⟩
    · rintro fr σ ⟨rfl, rfl, hp⟩
      rw [show l.length - 1 + 1 = l.length by omega] at hp ⊢
      replace h1 := h1 hp
      clear h2
      refine TL_round ?_
      repeat (first | (refine T_seqk fun K hK => ?_) | (refine T_reg tOK rfl ?_; simp [h0]) | (refine T_ret ?_; try simp) | (refine T_skip ?_; try simp) | (refine T_blockk fun K hK => ?_) | (with_reducible apply_assumption -exfalso -symm) | (rw [afterRF_ret]; simp [h0]) | (refine T_exit ?_; try simp) | (refine T_cond_t ?_ ?_; · (simp; done)) | (refine T_cond_f ?_ ?_; · (simp; done)) | (rintro _ _ (_ | _) hz9 <;> first | (simp; done) | (simp at hz9; done)) | (refine And.intro ?_ ?_) | (simp only [Post.block_ret, Post.block_exit, Post.block_normal, Post.block_pan, Post.seq_ret, Post.seq_exit, Post.seq_normal, Post.seq_pan]; try simp [h0]) | (refine T_draw tOK tmix [([], 0), ([], 1), ([0, 1], 2), ([0, 1, 2], 3), ([], 4), ([], 5), ([5], 6), ([4, 5, 6], 7), ([4, 5, 6, 7], 8), ([0, 1, 2, 3, 4, 5, 6, 7, 8], 9)] 9 (by decide +kernel) ?_; simp [h0]) | (refine T_draw tOK tmix [([], 0), ([], 1), ([0, 1], 2), ([0, 1, 2], 3), ([], 4), ([], 5), ([5], 6), ([4, 5, 6], 7), ([4, 5, 6, 7], 8), ([0, 1, 2, 3, 4, 5, 6, 7, 8], 9)] 9 (by decide +kernel) ?_; simp [h0]))
    · rintro j fr σ hj ⟨rfl, rfl, hp⟩ ih
      have hk : j + 1 < l.length := by omega
      have hk' : j < l.length := by omega
      have g0 : decide ((j + 1 : Int) < l.length) = true := by rw [decide_eq_true_eq]; omega
      have hw : IntKind.i64.wrap ((j : Int) + 1 - 1) = (j : Int) := by rw [IntWalk.i64_in _ (by omega)]; omega
      have hw2 : IntKind.i64.wrap ((j : Int) + 1 + 1) = (j : Int) + 1 + 1 := by rw [IntWalk.i64_in _ (by omega)]
      have e1 := is_get hk
      have e0 := is_get hk'
      have l1 : j + 1 < (is l).length := by omega
      have l0 : j < (is l).length := by omega
      have e1' := get_of e1 l1
      have e0' := get_of e0 l0
      have b1 : (j : Int) + 1 < l.length := by omega
      have b0 : (j : Int) < l.length := by omega
      have b2 : (0 : Int) ≤ (j : Int) + 1 := by omega
      have hwj : IntKind.i64.wrap (j : Int) = j := IntWalk.i64_in _ (by omega)
      refine TL_round ?_
      cases hb : (l[j + 1] == l[j]) with
      | true =>
        clear ih h1
        have hadj : ¬ noAdj l l.length := fun hn => by
          have := hn j (by omega)
          simp [hk, hk'] at this hb
          exact this hb
        replace h2 : ∀ k ys, k < l.length → ys.length = l.length → R (.ret (.ref 0 g 0 k)) [some (.cells 2 g (is ys))] := fun k ys a1 a2 => h2 k ys a1 a2 hadj
        clear hadj hp
        obtain ⟨m, hm⟩ : ∃ m, l.length = j + 1 + m + 1 := ⟨l.length - (j + 1) - 1, by omega⟩
        have b3 : (j : Int) + 1 ≤ l.length := by omega
        have b4 : ((l.length : Int) - ((j : Int) + 1)).toNat = m + 1 := by omega
        repeat (first | (refine T_seqk fun K hK => ?_) | (refine T_reg tOK rfl ?_; simp [hll,g0,hw,hwj,hw2,e1,e0,e1',e0',l1,l0,hb,b0,b1,b2,hk,hk',b3,b4]) | (refine T_ret ?_; try simp) | (refine T_skip ?_; try simp) | (refine T_blockk fun K hK => ?_) | (with_reducible apply_assumption -exfalso -symm) | (rw [afterRF_ret]; simp [hll,g0,hw,hwj,hw2,e1,e0,e1',e0',l1,l0,hb,b0,b1,b2,hk,hk',b3,b4]) | (refine T_exit ?_; try simp) | (refine T_cond_t ?_ ?_; · (simp; done)) | (refine T_cond_f ?_ ?_; · (simp; done)) | (rintro _ _ (_ | _) hz9 <;> first | (simp; done) | (simp at hz9; done)) | (refine And.intro ?_ ?_) | (simp only [Post.block_ret, Post.block_exit, Post.block_normal, Post.block_pan, Post.seq_ret, Post.seq_exit, Post.seq_normal, Post.seq_pan]; try simp [hll,g0,hw,hwj,hw2,e1,e0,e1',e0',l1,l0,hb,b0,b1,b2,hk,hk',b3,b4]) | (refine T_draw tOK tmix [([], 0), ([], 1), ([0, 1], 2), ([0, 1, 2], 3), ([], 4), ([], 5), ([5], 6), ([4, 5, 6], 7), ([4, 5, 6, 7], 8), ([0, 1, 2, 3, 4, 5, 6, 7, 8], 9)] 9 (by decide +kernel) ?_; simp [hll,g0,hw,hwj,hw2,e1,e0,e1',e0',l1,l0,hb,b0,b1,b2,hk,hk',b3,b4]) | (refine T_draw tOK tmix [([], 0), ([], 1), ([0, 1], 2), ([0, 1, 2], 3), ([], 4), ([], 5), ([5], 6), ([4, 5, 6], 7), ([4, 5, 6, 7], 8), ([0, 1, 2, 3, 4, 5, 6, 7, 8], 9)] 9 (by decide +kernel) ?_; simp [hll,g0,hw,hwj,hw2,e1,e0,e1',e0',l1,l0,hb,b0,b1,b2,hk,hk',b3,b4]))
        clear g0 hw hw2 e1 e0 e1' e0' l1 l0 hb b1 b0 b2 hwj b3 b4
        refine T_loop ?_
        refine TL_fall (fr' := [(0, .ref 0 g 0 l.length), (3, i64 ((j + 1 : Nat) : Int)), (4, .ref 0 g (j + 1) (m + 1)), (5, i64 1)]) (σ' := [some (.cells 2 g (is l))]) 1 [0, 3, 4, 5] (by simp) (by simp [Fr.keep]) (by simp [belowFr, belowB]) (by simp) (by simp [belowStore, belowBlk, belowL_of_pure 1 _ (pureL_is l)]) ?_
        refine TL_st m (fun i fr σ => ∃ (kk : Nat) (ys : List Int), fr = [(0, .ref 0 g 0 l.length), (3, i64 kk), (4, .ref 0 g (j + 1) (m + 1)), (5, i64 ((i + 1 : Nat) : Int))] ∧ σ = [some (.cells 2 g (is ys))] ∧ ys.length = l.length ∧ j + 1 ≤ kk ∧ kk ≤ j + 1 + i) ?_ ?_ ⟨j + 1, l, by simp, rfl, rfl, by omega, by omega⟩
        · rintro fr σ ⟨kk, ys, rfl, rfl, hys, hk1, hk2⟩
          have hly := is_len ys
          have c1 : (0 : Int) ≤ kk := by omega
          have c2 : kk ≤ l.length := by omega
          have c2' : (kk : Int) ≤ l.length := by omega
          have c3 : ((l.length : Int) - kk).toNat = l.length - kk := by omega
          have c4 : kk + (l.length - kk) = l.length := by omega
          have hz : (is ys).take kk ++ List.replicate (l.length - kk) (.int .i64 0) = is (ys.take kk ++ List.replicate (l.length - kk) 0) := by simp [is]
          have hz2 : (is ys).drop l.length = [] := List.drop_eq_nil_of_le (by omega)
          replace h2 := h2 kk (ys.take kk ++ List.replicate (l.length - kk) 0) (by omega) (by simp; omega)
          refine TL_round ?_
          repeat (first | (refine T_seqk fun K hK => ?_) | (refine T_reg tOK rfl ?_; simp [hly,hys,c2,c2',c3,c4,hz,hz2]) | (refine T_ret ?_; try simp) | (refine T_skip ?_; try simp) | (refine T_blockk fun K hK => ?_) | (with_reducible apply_assumption -exfalso -symm) | (rw [afterRF_ret]; simp [hly,hys,c2,c2',c3,c4,hz,hz2]) | (refine T_exit ?_; try simp) | (refine T_cond_t ?_ ?_; · (simp; done)) | (refine T_cond_f ?_ ?_; · (simp; done)) | (rintro _ _ (_ | _) hz9 <;> first | (simp; done) | (simp at hz9; done)) | (refine And.intro ?_ ?_) | (simp only [Post.block_ret, Post.block_exit, Post.block_normal, Post.block_pan, Post.seq_ret, Post.seq_exit, Post.seq_normal, Post.seq_pan]; try simp [hly,hys,c2,c2',c3,c4,hz,hz2]) | (refine T_draw tOK tmix [([], 0), ([], 1), ([0, 1], 2), ([0, 1, 2], 3), ([], 4), ([], 5), ([5], 6), ([4, 5, 6], 7), ([4, 5, 6, 7], 8), ([0, 1, 2, 3, 4, 5, 6, 7, 8], 9)] 9 (by decide +kernel) ?_; simp [hly,hys,c2,c2',c3,c4,hz,hz2]) | (refine T_draw tOK tmix [([], 0), ([], 1), ([0, 1], 2), ([0, 1, 2], 3), ([], 4), ([], 5), ([5], 6), ([4, 5, 6], 7), ([4, 5, 6, 7], 8), ([0, 1, 2, 3, 4, 5, 6, 7, 8], 9)] 9 (by decide +kernel) ?_; simp [hly,hys,c2,c2',c3,c4,hz,hz2]))
        · rintro i fr σ hi ⟨kk, ys, rfl, rfl, hys, hk1, hk2⟩ ih
          have hly := is_len ys
          have a1 : j + 1 + (i + 1) < ys.length := by omega
          have a0 : j + 1 + i < ys.length := by omega
          have ak : kk < ys.length := by omega
          have e1 := is_get a1
          have e0 := is_get a0
          have l1 : j + 1 + (i + 1) < (is ys).length := by omega
          have l0 : j + 1 + i < (is ys).length := by omega
          have e1' := get_of e1 l1
          have e0' := get_of e0 l0
          have b1 : (i : Int) + 1 < (m : Int) + 1 := by omega
          have b0 : (i : Int) < (m : Int) + 1 := by omega
          have b2 : (0 : Int) ≤ (i : Int) + 1 := by omega
          have g0 : decide ((i : Int) + 1 < (m : Int) + 1) = true := by rw [decide_eq_true_eq]; omega
          have hw : IntKind.i64.wrap ((i : Int) + 1 - 1) = (i : Int) := by rw [IntWalk.i64_in _ (by omega)]; omega
          have hw2 : IntKind.i64.wrap ((i : Int) + 1 + 1) = (i : Int) + 1 + 1 := by rw [IntWalk.i64_in _ (by omega)]
          have hwi : IntKind.i64.wrap (i : Int) = i := IntWalk.i64_in _ (by omega)
          have hs1 : j + 1 + (m + 1) ≤ l.length := by omega
          have ak' : kk < l.length := by omega
          have hwk : IntKind.i64.wrap ((kk : Int) + 1) = (kk : Int) + 1 := by rw [IntWalk.i64_in _ (by omega)]
          have hset : (is ys).set kk (.int .i64 ys[j + 1 + (i + 1)]) = is (ys.set kk ys[j + 1 + (i + 1)]) := by simp [is, List.map_set]
          replace ih := PLift.up ih
          clear h2
          refine TL_round ?_
          cases hb : bne ys[j + 1 + (i + 1)] ys[j + 1 + i] with
          | true =>
            repeat (first | (refine T_seqk fun K hK => ?_) | (refine T_reg tOK rfl ?_; simp [hly,hys,g0,hw,hwi,hw2,e1,e0,e1',e0',l1,l0,hb,b0,b1,b2,a1,a0,hs1,ak,ak',hset,hwk]) | (refine T_ret ?_; try simp) | (refine T_skip ?_; try simp) | (refine T_blockk fun K hK => ?_) | (with_reducible apply_assumption -exfalso -symm) | (rw [afterRF_ret]; simp [hly,hys,g0,hw,hwi,hw2,e1,e0,e1',e0',l1,l0,hb,b0,b1,b2,a1,a0,hs1,ak,ak',hset,hwk]) | (refine T_exit ?_; try simp) | (refine T_cond_t ?_ ?_; · (simp; done)) | (refine T_cond_f ?_ ?_; · (simp; done)) | (rintro _ _ (_ | _) hz9 <;> first | (simp; done) | (simp at hz9; done)) | (refine And.intro ?_ ?_) | (simp only [Post.block_ret, Post.block_exit, Post.block_normal, Post.block_pan, Post.seq_ret, Post.seq_exit, Post.seq_normal, Post.seq_pan]; try simp [hly,hys,g0,hw,hwi,hw2,e1,e0,e1',e0',l1,l0,hb,b0,b1,b2,a1,a0,hs1,ak,ak',hset,hwk]) | (refine T_draw tOK tmix [([], 0), ([], 1), ([0, 1], 2), ([0, 1, 2], 3), ([], 4), ([], 5), ([5], 6), ([4, 5, 6], 7), ([4, 5, 6, 7], 8), ([0, 1, 2, 3, 4, 5, 6, 7, 8], 9)] 9 (by decide +kernel) ?_; simp [hly,hys,g0,hw,hwi,hw2,e1,e0,e1',e0',l1,l0,hb,b0,b1,b2,a1,a0,hs1,ak,ak',hset,hwk]) | (refine T_draw tOK tmix [([], 0), ([], 1), ([0, 1], 2), ([0, 1, 2], 3), ([], 4), ([], 5), ([5], 6), ([4, 5, 6], 7), ([4, 5, 6, 7], 8), ([0, 1, 2, 3, 4, 5, 6, 7, 8], 9)] 9 (by decide +kernel) ?_; simp [hly,hys,g0,hw,hwi,hw2,e1,e0,e1',e0',l1,l0,hb,b0,b1,b2,a1,a0,hs1,ak,ak',hset,hwk]))
            generalize ys[j + 1 + (i + 1)] = y at *
            refine TL_fall (fr' := [(0, .ref 0 g 0 l.length), (3, i64 ((kk + 1 : Nat) : Int)), (4, .ref 0 g (j + 1) (m + 1)), (5, i64 ((i + 1 + 1 : Nat) : Int))]) (σ' := [some (.cells 2 g (is (ys.set kk y)))]) 1 [0, 3, 4, 5] (by simp) (by simp [Fr.keep]) (by simp [belowFr, belowB]) (by simp) (by simp [belowStore, belowBlk, belowL_of_pure 1 _ (pureL_is _)]) (ih.down _ _ ⟨kk + 1, _, rfl, rfl, by simpa using hys, by omega, by omega⟩)
          | false =>
            repeat (first | (refine T_seqk fun K hK => ?_) | (refine T_reg tOK rfl ?_; simp [hly,hys,g0,hw,hwi,hw2,e1,e0,e1',e0',l1,l0,hb,b0,b1,b2,a1,a0,hs1]) | (refine T_ret ?_; try simp) | (refine T_skip ?_; try simp) | (refine T_blockk fun K hK => ?_) | (with_reducible apply_assumption -exfalso -symm) | (rw [afterRF_ret]; simp [hly,hys,g0,hw,hwi,hw2,e1,e0,e1',e0',l1,l0,hb,b0,b1,b2,a1,a0,hs1]) | (refine T_exit ?_; try simp) | (refine T_cond_t ?_ ?_; · (simp; done)) | (refine T_cond_f ?_ ?_; · (simp; done)) | (rintro _ _ (_ | _) hz9 <;> first | (simp; done) | (simp at hz9; done)) | (refine And.intro ?_ ?_) | (simp only [Post.block_ret, Post.block_exit, Post.block_normal, Post.block_pan, Post.seq_ret, Post.seq_exit, Post.seq_normal, Post.seq_pan]; try simp [hly,hys,g0,hw,hwi,hw2,e1,e0,e1',e0',l1,l0,hb,b0,b1,b2,a1,a0,hs1]) | (refine T_draw tOK tmix [([], 0), ([], 1), ([0, 1], 2), ([0, 1, 2], 3), ([], 4), ([], 5), ([5], 6), ([4, 5, 6], 7), ([4, 5, 6, 7], 8), ([0, 1, 2, 3, 4, 5, 6, 7, 8], 9)] 9 (by decide +kernel) ?_; simp [hly,hys,g0,hw,hwi,hw2,e1,e0,e1',e0',l1,l0,hb,b0,b1,b2,a1,a0,hs1]) | (refine T_draw tOK tmix [([], 0), ([], 1), ([0, 1], 2), ([0, 1, 2], 3), ([], 4), ([], 5), ([5], 6), ([4, 5, 6], 7), ([4, 5, 6, 7], 8), ([0, 1, 2, 3, 4, 5, 6, 7, 8], 9)] 9 (by decide +kernel) ?_; simp [hly,hys,g0,hw,hwi,hw2,e1,e0,e1',e0',l1,l0,hb,b0,b1,b2,a1,a0,hs1]))
            refine TL_fall (fr' := [(0, .ref 0 g 0 l.length), (3, i64 kk), (4, .ref 0 g (j + 1) (m + 1)), (5, i64 ((i + 1 + 1 : Nat) : Int))]) (σ' := [some (.cells 2 g (is ys))]) 1 [0, 3, 4, 5] (by simp) (by simp [Fr.keep]) (by simp [belowFr, belowB]) (by simp) (by simp [belowStore, belowBlk, belowL_of_pure 1 _ (pureL_is _)]) (ih.down _ _ ⟨kk, ys, rfl, rfl, hys, by omega, by omega⟩)
      | false =>
        replace ih := PLift.up ih
        clear h2 h1
        repeat (first | (refine T_seqk fun K hK => ?_) | (refine T_reg tOK rfl ?_; simp [hll,g0,hw,hwj,hw2,e1,e0,e1',e0',l1,l0,hb,b0,b1,b2,hk,hk']) | (refine T_ret ?_; try simp) | (refine T_skip ?_; try simp) | (refine T_blockk fun K hK => ?_) | (with_reducible apply_assumption -exfalso -symm) | (rw [afterRF_ret]; simp [hll,g0,hw,hwj,hw2,e1,e0,e1',e0',l1,l0,hb,b0,b1,b2,hk,hk']) | (refine T_exit ?_; try simp) | (refine T_cond_t ?_ ?_; · (simp; done)) | (refine T_cond_f ?_ ?_; · (simp; done)) | (rintro _ _ (_ | _) hz9 <;> first | (simp; done) | (simp at hz9; done)) | (refine And.intro ?_ ?_) | (simp only [Post.block_ret, Post.block_exit, Post.block_normal, Post.block_pan, Post.seq_ret, Post.seq_exit, Post.seq_normal, Post.seq_pan]; try simp [hll,g0,hw,hwj,hw2,e1,e0,e1',e0',l1,l0,hb,b0,b1,b2,hk,hk']) | (refine T_draw tOK tmix [([], 0), ([], 1), ([0, 1], 2), ([0, 1, 2], 3), ([], 4), ([], 5), ([5], 6), ([4, 5, 6], 7), ([4, 5, 6, 7], 8), ([0, 1, 2, 3, 4, 5, 6, 7, 8], 9)] 9 (by decide +kernel) ?_; simp [hll,g0,hw,hwj,hw2,e1,e0,e1',e0',l1,l0,hb,b0,b1,b2,hk,hk']) | (refine T_draw tOK tmix [([], 0), ([], 1), ([0, 1], 2), ([0, 1, 2], 3), ([], 4), ([], 5), ([5], 6), ([4, 5, 6], 7), ([4, 5, 6, 7], 8), ([0, 1, 2, 3, 4, 5, 6, 7, 8], 9)] 9 (by decide +kernel) ?_; simp [hll,g0,hw,hwj,hw2,e1,e0,e1',e0',l1,l0,hb,b0,b1,b2,hk,hk']))
        refine TL_fall (fr' := [(0, .ref 0 g 0 l.length), (3, i64 ((j + 1 + 1 : Nat) : Int))]) (σ' := [some (.cells 2 g (is l))]) 1 [0, 3] (by simp) (by simp [Fr.keep]) (by simp [belowFr, belowB]) (by simp) (by simp [belowStore, belowBlk, belowL_of_pure 1 _ (pureL_is l)]) (ih.down _ _ ⟨rfl, rfl, fun i hi => ?_⟩)
        rcases Nat.lt_or_ge (i + 1) (j + 1) with h | h
        · exact hp i h
        · have : i = j := by omega
          subst this
          simp [hk, hk'] at hb ⊢
          exact hb
theorem rises_iff : ∀ {l : List Int}, rises l = true ↔ ∀ i, i + 1 < l.length → l.getD i 0 < l.getD (i + 1) 0
  | [] => by simp [rises]
  | [a] => by simp [rises]
  | a :: b :: l => by
    have ih := rises_iff (l := b :: l)
    simp only [rises, Bool.and_eq_true, decide_eq_true_eq, ih]
    constructor
    · rintro ⟨h1, h2⟩ i hi
      cases i with
      | zero => simpa using h1
      | succ i => exact h2 i (by simp at hi ⊢; omega)
    · intro h
      exact ⟨h 0 (by simp), fun i hi => h (i + 1) (by simp at hi ⊢; omega)⟩
theorem rises_of {l : List Int} (h1 : sortedB l = true) (h2 : noAdj l l.length) : rises l = true := rises_iff.2 fun i hi => by
  have := List.all_eq_true.1 h1 i (by simp; omega)
  simp only [decide_eq_true_eq] at this
  have := h2 i hi
  omega
theorem rises_not1 {l : List Int} (h1 : sortedB l = false) : rises l = false := by
  cases h : rises l with
  | false => rfl
  | true =>
    have := rises_iff.1 h
    rw [sortedB, List.all_eq_false] at h1
    obtain ⟨i, hi, h2⟩ := h1
    have := this i (by simp at hi; omega)
    simp only [decide_eq_true_eq] at h2
    omega
theorem rises_not2 {l : List Int} (h1 : ¬ noAdj l l.length) : rises l = false := by
  cases h : rises l with
  | false => rfl
  | true =>
    have := rises_iff.1 h
    exact absurd (fun i hi => by have := this i hi; omega) h1
set_option maxHeartbeats 1000000 in
theorem C_right (hl : l.length < 1000000000) (h : R (.ret (.bool (okL l))) σ) : C tE 8 [.lit (is l)] σ R := by
  have hll := is_len l
  refine C_pure tOK (by simp [pureL_is]) ?_
  unfold okL at h
  cases c1 : decide (0 < l.length) with
  | false =>
    rw [c1] at h
    simp only [Bool.false_and] at h
    refine C_bodyk tOK Try.func8 rfl (Nat.le_of_ble_eq_true rfl) fun K hK => ?_; simp
    repeat (first | (refine T_seqk fun K hK => ?_) | (refine T_reg tOK rfl ?_; simp [hll,c1]) | (refine T_ret ?_; try simp) | (refine T_skip ?_; try simp) | (refine T_blockk fun K hK => ?_) | (with_reducible apply_assumption -exfalso -symm) | (rw [afterRF_ret]; simp [hll,c1]) | (refine T_exit ?_; try simp) | (refine T_cond_t ?_ ?_; · (simp; done)) | (refine T_cond_f ?_ ?_; · (simp; done)) | (rintro _ _ (_ | _) hz9 <;> first | (simp; done) | (simp at hz9; done)) | (refine And.intro ?_ ?_) | (simp only [Post.block_ret, Post.block_exit, Post.block_normal, Post.block_pan, Post.seq_ret, Post.seq_exit, Post.seq_normal, Post.seq_pan]; try simp [hll,c1]) | (refine T_loop (TL_round ?_)) | (refine TL_round ?_))
  | true =>
    rw [c1] at h
    cases c2 : decide (l.length ≤ 40) with
    | false =>
      rw [c2] at h
      simp only [Bool.and_false, Bool.false_and] at h
      have c2' : decide ((l.length : Int) ≤ 40) = false := by rw [decide_eq_false_iff_not] at c2 ⊢; omega
      refine C_bodyk tOK Try.func8 rfl (Nat.le_of_ble_eq_true rfl) fun K hK => ?_; simp
      repeat (first | (refine T_seqk fun K hK => ?_) | (refine T_reg tOK rfl ?_; simp [hll,c1,c2']) | (refine T_ret ?_; try simp) | (refine T_skip ?_; try simp) | (refine T_blockk fun K hK => ?_) | (with_reducible apply_assumption -exfalso -symm) | (rw [afterRF_ret]; simp [hll,c1,c2']) | (refine T_exit ?_; try simp) | (refine T_cond_t ?_ ?_; · (simp; done)) | (refine T_cond_f ?_ ?_; · (simp; done)) | (rintro _ _ (_ | _) hz9 <;> first | (simp; done) | (simp at hz9; done)) | (refine And.intro ?_ ?_) | (simp only [Post.block_ret, Post.block_exit, Post.block_normal, Post.block_pan, Post.seq_ret, Post.seq_exit, Post.seq_normal, Post.seq_pan]; try simp [hll,c1,c2']) | (refine T_loop (TL_round ?_)) | (refine TL_round ?_))
    | true =>
      rw [c2] at h
      have c2' : decide ((l.length : Int) ≤ 40) = true := by rw [decide_eq_true_eq] at c2 ⊢; omega
      cases c3 : l.all inB with
      | false =>
        rw [c3] at h
        simp only [Bool.and_false, Bool.false_and] at h
        refine C_bodyk tOK Try.func8 rfl (Nat.le_of_ble_eq_true rfl) fun K hK => ?_; simp
        repeat (first | (refine T_seqk fun K hK => ?_) | (refine T_reg tOK rfl ?_; simp [hll,c1,c2',c3]) | (refine T_ret ?_; try simp) | (refine T_skip ?_; try simp) | (refine T_blockk fun K hK => ?_) | (with_reducible apply_assumption -exfalso -symm) | (rw [afterRF_ret]; simp [hll,c1,c2',c3]) | (refine T_exit ?_; try simp) | (refine T_cond_t ?_ ?_; · (simp; done)) | (refine T_cond_f ?_ ?_; · (simp; done)) | (rintro _ _ (_ | _) hz9 <;> first | (simp; done) | (simp at hz9; done)) | (refine And.intro ?_ ?_) | (simp only [Post.block_ret, Post.block_exit, Post.block_normal, Post.block_pan, Post.seq_ret, Post.seq_exit, Post.seq_normal, Post.seq_pan]; try simp [hll,c1,c2',c3]) | (refine T_loop (TL_round ?_)) | (refine TL_round ?_))
        refine C_cont hl ?_
        rw [c3]
        repeat (first | (refine T_seqk fun K hK => ?_) | (refine T_reg tOK rfl ?_; simp) | (refine T_ret ?_; try simp) | (refine T_skip ?_; try simp) | (refine T_blockk fun K hK => ?_) | (with_reducible apply_assumption -exfalso -symm) | (rw [afterRF_ret]; simp) | (refine T_exit ?_; try simp) | (refine T_cond_t ?_ ?_; · (simp; done)) | (refine T_cond_f ?_ ?_; · (simp; done)) | (rintro _ _ (_ | _) hz9 <;> first | (simp; done) | (simp at hz9; done)) | (refine And.intro ?_ ?_) | (simp only [Post.block_ret, Post.block_exit, Post.block_normal, Post.block_pan, Post.seq_ret, Post.seq_exit, Post.seq_normal, Post.seq_pan]; try simp) | (refine T_loop (TL_round ?_)) | (refine TL_round ?_))
      | true =>
        rw [c3] at h
        cases c4 : sortedB l with
        | false =>
          rw [rises_not1 c4] at h
          simp only [Bool.and_false] at h
          refine C_bodyk tOK Try.func8 rfl (Nat.le_of_ble_eq_true rfl) fun K hK => ?_; simp
          repeat (first | (refine T_seqk fun K hK => ?_) | (refine T_reg tOK rfl ?_; simp [hll,c1,c2',c3]) | (refine T_ret ?_; try simp) | (refine T_skip ?_; try simp) | (refine T_blockk fun K hK => ?_) | (with_reducible apply_assumption -exfalso -symm) | (rw [afterRF_ret]; simp [hll,c1,c2',c3]) | (refine T_exit ?_; try simp) | (refine T_cond_t ?_ ?_; · (simp; done)) | (refine T_cond_f ?_ ?_; · (simp; done)) | (rintro _ _ (_ | _) hz9 <;> first | (simp; done) | (simp at hz9; done)) | (refine And.intro ?_ ?_) | (simp only [Post.block_ret, Post.block_exit, Post.block_normal, Post.block_pan, Post.seq_ret, Post.seq_exit, Post.seq_normal, Post.seq_pan]; try simp [hll,c1,c2',c3]) | (refine T_loop (TL_round ?_)) | (refine TL_round ?_))
          refine C_cont hl ?_
          rw [c3]
          repeat (first | (refine T_seqk fun K hK => ?_) | (refine T_reg tOK rfl ?_; simp) | (refine T_ret ?_; try simp) | (refine T_skip ?_; try simp) | (refine T_blockk fun K hK => ?_) | (with_reducible apply_assumption -exfalso -symm) | (rw [afterRF_ret]; simp) | (refine T_exit ?_; try simp) | (refine T_cond_t ?_ ?_; · (simp; done)) | (refine T_cond_f ?_ ?_; · (simp; done)) | (rintro _ _ (_ | _) hz9 <;> first | (simp; done) | (simp at hz9; done)) | (refine And.intro ?_ ?_) | (simp only [Post.block_ret, Post.block_exit, Post.block_normal, Post.block_pan, Post.seq_ret, Post.seq_exit, Post.seq_normal, Post.seq_pan]; try simp) | (refine T_loop (TL_round ?_)) | (refine TL_round ?_))
          refine C_issorted hl ?_
          rw [c4]
          repeat (first | (refine T_seqk fun K hK => ?_) | (refine T_reg tOK rfl ?_; simp) | (refine T_ret ?_; try simp) | (refine T_skip ?_; try simp) | (refine T_blockk fun K hK => ?_) | (with_reducible apply_assumption -exfalso -symm) | (rw [afterRF_ret]; simp) | (refine T_exit ?_; try simp) | (refine T_cond_t ?_ ?_; · (simp; done)) | (refine T_cond_f ?_ ?_; · (simp; done)) | (rintro _ _ (_ | _) hz9 <;> first | (simp; done) | (simp at hz9; done)) | (refine And.intro ?_ ?_) | (simp only [Post.block_ret, Post.block_exit, Post.block_normal, Post.block_pan, Post.seq_ret, Post.seq_exit, Post.seq_normal, Post.seq_pan]; try simp) | (refine T_loop (TL_round ?_)) | (refine TL_round ?_))
        | true =>
          simp only [Bool.and_self, Bool.true_and] at h
          refine C_bodyk tOK Try.func8 rfl (Nat.le_of_ble_eq_true rfl) fun K hK => ?_; simp
          repeat (first | (refine T_seqk fun K hK => ?_) | (refine T_reg tOK rfl ?_; simp [hll,c1,c2',c3]) | (refine T_ret ?_; try simp) | (refine T_skip ?_; try simp) | (refine T_blockk fun K hK => ?_) | (with_reducible apply_assumption -exfalso -symm) | (rw [afterRF_ret]; simp [hll,c1,c2',c3]) | (refine T_exit ?_; try simp) | (refine T_cond_t ?_ ?_; · (simp; done)) | (refine T_cond_f ?_ ?_; · (simp; done)) | (rintro _ _ (_ | _) hz9 <;> first | (simp; done) | (simp at hz9; done)) | (refine And.intro ?_ ?_) | (simp only [Post.block_ret, Post.block_exit, Post.block_normal, Post.block_pan, Post.seq_ret, Post.seq_exit, Post.seq_normal, Post.seq_pan]; try simp [hll,c1,c2',c3]) | (refine T_loop (TL_round ?_)) | (refine TL_round ?_))
          refine C_cont hl ?_
          rw [c3]
          repeat (first | (refine T_seqk fun K hK => ?_) | (refine T_reg tOK rfl ?_; simp) | (refine T_ret ?_; try simp) | (refine T_skip ?_; try simp) | (refine T_blockk fun K hK => ?_) | (with_reducible apply_assumption -exfalso -symm) | (rw [afterRF_ret]; simp) | (refine T_exit ?_; try simp) | (refine T_cond_t ?_ ?_; · (simp; done)) | (refine T_cond_f ?_ ?_; · (simp; done)) | (rintro _ _ (_ | _) hz9 <;> first | (simp; done) | (simp at hz9; done)) | (refine And.intro ?_ ?_) | (simp only [Post.block_ret, Post.block_exit, Post.block_normal, Post.block_pan, Post.seq_ret, Post.seq_exit, Post.seq_normal, Post.seq_pan]; try simp) | (refine T_loop (TL_round ?_)) | (refine TL_round ?_))
          refine C_issorted hl ?_
          rw [c4]
          repeat (first | (refine T_seqk fun K hK => ?_) | (refine T_reg tOK rfl ?_; simp) | (refine T_ret ?_; try simp) | (refine T_skip ?_; try simp) | (refine T_blockk fun K hK => ?_) | (with_reducible apply_assumption -exfalso -symm) | (rw [afterRF_ret]; simp) | (refine T_exit ?_; try simp) | (refine T_cond_t ?_ ?_; · (simp; done)) | (refine T_cond_f ?_ ?_; · (simp; done)) | (rintro _ _ (_ | _) hz9 <;> first | (simp; done) | (simp at hz9; done)) | (refine And.intro ?_ ?_) | (simp only [Post.block_ret, Post.block_exit, Post.block_normal, Post.block_pan, Post.seq_ret, Post.seq_exit, Post.seq_normal, Post.seq_pan]; try simp) | (refine T_loop (TL_round ?_)) | (refine TL_round ?_))
          refine C_clone64 hl (by intro e; subst e; simp at c1) ?_
          repeat (first | (refine T_seqk fun K hK => ?_) | (refine T_reg tOK rfl ?_; simp) | (refine T_ret ?_; try simp) | (refine T_skip ?_; try simp) | (refine T_blockk fun K hK => ?_) | (with_reducible apply_assumption -exfalso -symm) | (rw [afterRF_ret]; simp) | (refine T_exit ?_; try simp) | (refine T_cond_t ?_ ?_; · (simp; done)) | (refine T_cond_f ?_ ?_; · (simp; done)) | (rintro _ _ (_ | _) hz9 <;> first | (simp; done) | (simp at hz9; done)) | (refine And.intro ?_ ?_) | (simp only [Post.block_ret, Post.block_exit, Post.block_normal, Post.block_pan, Post.seq_ret, Post.seq_exit, Post.seq_normal, Post.seq_pan]; try simp) | (refine T_loop (TL_round ?_)) | (refine TL_round ?_))
          refine C_compact hl (fun hn => ?_) (fun k ys hk hy hn => ?_)
          · rw [rises_of c4 hn] at h
            repeat (first | (refine T_seqk fun K hK => ?_) | (refine T_reg tOK rfl ?_; simp [hll]) | (refine T_ret ?_; try simp) | (refine T_skip ?_; try simp) | (refine T_blockk fun K hK => ?_) | (with_reducible apply_assumption -exfalso -symm) | (rw [afterRF_ret]; simp [hll]) | (refine T_exit ?_; try simp) | (refine T_cond_t ?_ ?_; · (simp; done)) | (refine T_cond_f ?_ ?_; · (simp; done)) | (rintro _ _ (_ | _) hz9 <;> first | (simp; done) | (simp at hz9; done)) | (refine And.intro ?_ ?_) | (simp only [Post.block_ret, Post.block_exit, Post.block_normal, Post.block_pan, Post.seq_ret, Post.seq_exit, Post.seq_normal, Post.seq_pan]; try simp [hll]) | (refine T_loop (TL_round ?_)) | (refine TL_round ?_))
            simpa [hll] using h
          · rw [rises_not2 hn] at h
            have hne : ((k : Int) == (l.length : Int)) = false := by rw [beq_eq_false_iff_ne]; omega
            clear hn
            repeat (first | (refine T_seqk fun K hK => ?_) | (refine T_reg tOK rfl ?_; simp [hll,hne]) | (refine T_ret ?_; try simp) | (refine T_skip ?_; try simp) | (refine T_blockk fun K hK => ?_) | (with_reducible apply_assumption -exfalso -symm) | (rw [afterRF_ret]; simp [hll,hne]) | (refine T_exit ?_; try simp) | (refine T_cond_t ?_ ?_; · (simp; done)) | (refine T_cond_f ?_ ?_; · (simp; done)) | (rintro _ _ (_ | _) hz9 <;> first | (simp; done) | (simp at hz9; done)) | (refine And.intro ?_ ?_) | (simp only [Post.block_ret, Post.block_exit, Post.block_normal, Post.block_pan, Post.seq_ret, Post.seq_exit, Post.seq_normal, Post.seq_pan]; try simp [hll,hne]) | (refine T_loop (TL_round ?_)) | (refine TL_round ?_))
            simpa [hll,hne] using h
end
end Go.Proofs.Ytdplbgfokoajjaa
end
section
/- Package manifest: a list's bytes, and the list of bytes. -/
set_option linter.unusedVariables false
set_option linter.unusedSimpArgs false
set_option maxRecDepth 20000
namespace Go.Proofs.Ytdplbgfokoajjaa
open Go
attribute [local simp] RF_nil RF_cons afterRF_ret nilCmp sop sGuard isCall sCallee Fr.eval Fr.get Fr.put ofConst sLoad sStore sBuiltin Fr.args bodyQ sRes oneOf sBin sInt sUn
attribute [local simp] RD_nil RD_cons noConf clear accAdd Tab.pr Tab.slot foot wid idOf refId Op.operands Call.operands sFieldAddr sNilCheck sLookup keyLit sMapSet sMapDel sLen Store.at Store.new getP setP typeAt fits evalParts sBuildSlice sFill sList sApp sAppend frzRe frz pureB pureL
attribute [local simp] optEval sSlice sIndexAddr xop sClear

def be4 (n : Nat) : List UInt8 := [UInt8.ofNat (n / 16777216), UInt8.ofNat (n / 65536), UInt8.ofNat (n / 256), UInt8.ofNat n]
def rd4 : List UInt8 → Int
  | [a, b, c, d] => (a.toNat : Int) * 16777216 + (b.toNat : Int) * 65536 + (c.toNat : Int) * 256 + d.toNat
  | _ => 0
theorem shr32_16 (a : Nat) : (a : Int).fdiv (2 ^ min 16 IntKind.u32.bits) = (a : Int) / 65536 := (shr_nat .u32 a 16).trans (by simp [IntKind.bits])
theorem shr32_24 (a : Nat) : (a : Int).fdiv (2 ^ min 24 IntKind.u32.bits) = (a : Int) / 16777216 := (shr_nat .u32 a 24).trans (by simp [IntKind.bits])
theorem wrap8d (n d : Nat) : IntKind.u8.wrap ((n : Int) / (d : Int)) = ((UInt8.ofNat (n / d)).toNat : Int) := by
  rw [IntKind.wrap_u8]; simp
theorem w8_24 (n : Nat) : IntKind.u8.wrap ((n : Int) / 16777216) = ((UInt8.ofNat (n / 16777216)).toNat : Int) := wrap8d n 16777216
theorem w8_16 (n : Nat) : IntKind.u8.wrap ((n : Int) / 65536) = ((UInt8.ofNat (n / 65536)).toNat : Int) := wrap8d n 65536
theorem w8_8 (n : Nat) : IntKind.u8.wrap ((n : Int) / 256) = ((UInt8.ofNat (n / 256)).toNat : Int) := wrap8d n 256
theorem wrap8n (n : Nat) : IntKind.u8.wrap (n : Int) = ((UInt8.ofNat n).toNat : Int) := by
  rw [IntKind.wrap_u8]; simp
section
variable {R : Re → Store → Prop} {σ : Store}
theorem C_four {n : Nat} (h : R (.ret (u8s (be4 n))) σ) : C tE 32 [.int .u32 n] σ R := by
  refine C_pure tOK rfl ?_
  refine C_bodyk tOK Try.func32 rfl (Nat.le_of_ble_eq_true rfl) fun K hK => ?_; simp
  repeat (first | (refine T_seqk fun K hK => ?_) | (refine T_reg tOK rfl ?_; simp [shr32_8,shr32_16,shr32_24,w8_24,w8_16,w8_8,wrap8n,-UInt8.toNat_ofNat']) | (refine T_ret ?_; try simp) | (refine T_skip ?_; try simp) | (refine T_blockk fun K hK => ?_) | (with_reducible apply_assumption -exfalso -symm) | (rw [afterRF_ret]; simp [shr32_8,shr32_16,shr32_24,w8_24,w8_16,w8_8,wrap8n,-UInt8.toNat_ofNat']) | (refine T_exit ?_; try simp) | (refine T_cond_t ?_ ?_; · (simp; done)) | (refine T_cond_f ?_ ?_; · (simp; done)) | (rintro _ _ (_ | _) hz9 <;> first | (simp; done) | (simp at hz9; done)) | (refine And.intro ?_ ?_) | (simp only [Post.block_ret, Post.block_exit, Post.block_normal, Post.block_pan, Post.seq_ret, Post.seq_exit, Post.seq_normal, Post.seq_pan]; try simp [shr32_8,shr32_16,shr32_24,w8_24,w8_16,w8_8,wrap8n,-UInt8.toNat_ofNat']) | (refine T_loop (TL_round ?_)) | (refine TL_round ?_))
theorem frz_u8 (σ : Store) (n : Nat) {l : List UInt8} : ∀ x ∈ u8l l, frz σ (n + 1) x = some x := fun x hx => by
  obtain ⟨b, _, rfl⟩ := List.mem_map.1 hx; rfl
theorem u8l_len (l : List UInt8) : (u8l l).length = l.length := by simp [u8l]
theorem C_of_ref {b g n : Nat} {l : List UInt8} (hb : Store.at σ b = some (.cells 5 g (u8l l))) (hn : n = l.length) (hl : l.length < 1000000000) (h : R (.ret (.int .u32 (crc l : Nat))) σ) : C tE 33 [.ref b g 0 n] σ R := by
  subst hn
  refine C_lend tOK (args' := [u8s l]) ?_ (C_of hl ⟨rfl, h⟩)
  simp only [List.mapM_cons, List.mapM_nil]
  rw [frz_row (xs := u8l l) hb (by rw [u8l_len]; omega) (frz_u8 _ _)]
  rw [List.drop_zero, List.take_of_length_le (by rw [u8l_len]; exact Nat.le_refl _)]
  rfl
theorem frz_u8row {σ : Store} {b g n : Nat} {l : List UInt8} (hb : Store.at σ b = some (.cells 5 g (u8l l))) (hn : n = l.length) : frz σ 6 (.ref b g 0 n) = some (u8s l) := by
  subst hn
  rw [frz_row (xs := u8l l) hb (by rw [u8l_len]; omega) (frz_u8 _ _)]
  rw [List.drop_zero, List.take_of_length_le (by rw [u8l_len]; exact Nat.le_refl _)]
theorem u8_fitl (l : List UInt8) : ∀ x ∈ u8l l, fits tE 5 x = true := u8_fit' l
def mbody (l : List Int) : List UInt8 := l.flatMap fun n => be4 n.toNat
def mout (l : List Int) : List UInt8 := UInt8.ofNat l.length :: mbody l
def manPut (l : List Int) : List UInt8 := if okL l then mout l ++ be4 (crc (mout l)) else []
theorem be4_len (n : Nat) : (be4 n).length = 4 := rfl
theorem mbody_len (l : List Int) : (mbody l).length = 4 * l.length := by
  induction l with
  | nil => rfl
  | cons x l ih => simp only [mbody, List.flatMap_cons, List.length_append, be4_len, List.length_cons] at ih ⊢; omega
theorem mbody_take {l : List Int} {k : Nat} (h : k < l.length) : mbody (l.take (k + 1)) = mbody (l.take k) ++ be4 (l[k]).toNat := by
  rw [List.take_add_one, List.getElem?_eq_getElem h]; simp only [mbody, List.flatMap_append, Option.toList, List.flatMap_cons, List.flatMap_nil, List.append_nil]
theorem u8l_app (a b : List UInt8) : u8l (a ++ b) = u8l a ++ u8l b := by simp [u8l]
theorem w32 {n : Int} (h : inB n = true) : IntKind.u32.wrap n = ((n.toNat : Nat) : Int) := by
  unfold inB at h
  simp only [Bool.and_eq_true, decide_eq_true_eq] at h
  rw [wraps_u32 _ h.1 (by omega)]; omega
set_option maxHeartbeats 1000000 in
theorem C_put {l : List Int} (hl : l.length < 1000000000) (h : R (.ret (u8s (manPut l))) σ) : C tE 10 [.lit (is l)] σ R := by
  have hll := is_len l
  refine C_pure tOK (by simp [pureL_is]) ?_
  unfold manPut at h
  cases c : okL l with
  | false =>
    rw [c] at h
    refine C_bodyk tOK Try.func10 rfl (Nat.le_of_ble_eq_true rfl) fun K hK => ?_; simp
    repeat (first | (refine T_seqk fun K hK => ?_) | (refine T_reg tOK rfl ?_; simp) | (refine T_ret ?_; try simp) | (refine T_skip ?_; try simp) | (refine T_blockk fun K hK => ?_) | (with_reducible apply_assumption -exfalso -symm) | (rw [afterRF_ret]; simp) | (refine T_exit ?_; try simp) | (refine T_cond_t ?_ ?_; · (simp; done)) | (refine T_cond_f ?_ ?_; · (simp; done)) | (rintro _ _ (_ | _) hz9 <;> first | (simp; done) | (simp at hz9; done)) | (refine And.intro ?_ ?_) | (simp only [Post.block_ret, Post.block_exit, Post.block_normal, Post.block_pan, Post.seq_ret, Post.seq_exit, Post.seq_normal, Post.seq_pan]; try simp) | (refine T_loop (TL_round ?_)) | (refine TL_round ?_))
    refine C_right hl ?_
    rw [c]
    repeat (first | (refine T_seqk fun K hK => ?_) | (refine T_reg tOK rfl ?_; simp) | (refine T_ret ?_; try simp) | (refine T_skip ?_; try simp) | (refine T_blockk fun K hK => ?_) | (with_reducible apply_assumption -exfalso -symm) | (rw [afterRF_ret]; simp) | (refine T_exit ?_; try simp) | (refine T_cond_t ?_ ?_; · (simp; done)) | (refine T_cond_f ?_ ?_; · (simp; done)) | (rintro _ _ (_ | _) hz9 <;> first | (simp; done) | (simp at hz9; done)) | (refine And.intro ?_ ?_) | (simp only [Post.block_ret, Post.block_exit, Post.block_normal, Post.block_pan, Post.seq_ret, Post.seq_exit, Post.seq_normal, Post.seq_pan]; try simp) | (refine T_loop (TL_round ?_)) | (refine TL_round ?_))
  | true =>
    rw [c, if_pos rfl] at h
    have hin : l.all inB = true := by unfold okL at c; simp only [Bool.and_eq_true] at c; exact c.1.2
    have h40 : l.length ≤ 40 := by unfold okL at c; simp only [Bool.and_eq_true, decide_eq_true_eq] at c; exact c.1.1.2
    have hw := wrap8n l.length
    refine C_bodyk tOK Try.func10 rfl (Nat.le_of_ble_eq_true rfl) fun K hK => ?_; simp
    repeat (first | (refine T_seqk fun K hK => ?_) | (refine T_reg tOK rfl ?_; simp [hll]) | (refine T_ret ?_; try simp) | (refine T_skip ?_; try simp) | (refine T_blockk fun K hK => ?_) | (with_reducible apply_assumption -exfalso -symm) | (rw [afterRF_ret]; simp [hll]) | (refine T_exit ?_; try simp) | (refine T_cond_t ?_ ?_; · (simp; done)) | (refine T_cond_f ?_ ?_; · (simp; done)) | (rintro _ _ (_ | _) hz9 <;> first | (simp; done) | (simp at hz9; done)) | (refine And.intro ?_ ?_) | (simp only [Post.block_ret, Post.block_exit, Post.block_normal, Post.block_pan, Post.seq_ret, Post.seq_exit, Post.seq_normal, Post.seq_pan]; try simp [hll]))
    refine C_right hl ?_
    rw [c]
    repeat (first | (refine T_seqk fun K hK => ?_) | (refine T_reg tOK rfl ?_; simp [hll,hw,-UInt8.toNat_ofNat']) | (refine T_ret ?_; try simp) | (refine T_skip ?_; try simp) | (refine T_blockk fun K hK => ?_) | (with_reducible apply_assumption -exfalso -symm) | (rw [afterRF_ret]; simp [hll,hw,-UInt8.toNat_ofNat']) | (refine T_exit ?_; try simp) | (refine T_cond_t ?_ ?_; · (simp; done)) | (refine T_cond_f ?_ ?_; · (simp; done)) | (rintro _ _ (_ | _) hz9 <;> first | (simp; done) | (simp at hz9; done)) | (refine And.intro ?_ ?_) | (simp only [Post.block_ret, Post.block_exit, Post.block_normal, Post.block_pan, Post.seq_ret, Post.seq_exit, Post.seq_normal, Post.seq_pan]; try simp [hll,hw,-UInt8.toNat_ofNat']))
    refine T_loop ?_
    refine TL_keep [3, 13, 14, 15] ?_
    simp [Fr.keep,-UInt8.toNat_ofNat']
    refine TL_ix (fun k => [(3, .ref 0 k 0 (4 * k + 1)), (13, .lit (is l)), (14, i64 l.length), (15, i64 k)]) (fun k => [some (.cells 5 k (u8l (UInt8.ofNat l.length :: mbody (l.take k))))]) l.length (fun _ => True) trivial (fun _ => ?_) (fun k hk _ ih => ?_)
    · rw [List.take_length]
      have hml := mbody_len l
      have hol : (UInt8.ofNat l.length :: mbody l).length = 4 * l.length + 1 := by simp [hml]
      have hq : 2 * (4 * l.length + 1 + 4) + 1000 ≤ 281474976710656 := by omega
      have htk : (u8l (mout l)).take (4 * l.length + 1) = u8l (mout l) := List.take_of_length_le (by rw [u8l_len, mout, hol]; exact Nat.le_refl _)
      have hol2 : (u8l (mout l)).length = 4 * l.length + 1 := by rw [u8l_len, mout, hol]
      have hb4 : (u8l (be4 (crc (mout l)))).length = 4 := rfl
      have happ := (u8l_app (mout l) (be4 (crc (mout l)))).symm
      rw [show UInt8.ofNat l.length :: mbody l = mout l from rfl]
      refine TL_round ?_
      repeat (first | (refine T_seqk fun K hK => ?_) | (refine T_reg tOK rfl ?_; simp [hll]) | (refine T_ret ?_; try simp) | (refine T_skip ?_; try simp) | (refine T_blockk fun K hK => ?_) | (with_reducible apply_assumption -exfalso -symm) | (rw [afterRF_ret]; simp [hll]) | (refine T_exit ?_; try simp) | (refine T_cond_t ?_ ?_; · (simp; done)) | (refine T_cond_f ?_ ?_; · (simp; done)) | (rintro _ _ (_ | _) hz9 <;> first | (simp; done) | (simp at hz9; done)) | (refine And.intro ?_ ?_) | (simp only [Post.block_ret, Post.block_exit, Post.block_normal, Post.block_pan, Post.seq_ret, Post.seq_exit, Post.seq_normal, Post.seq_pan]; try simp [hll]))
      refine C_of_ref (l := mout l) rfl (by rw [mout, hol]) (by rw [mout, hol]; omega) ?_
      repeat (first | (refine T_seqk fun K hK => ?_) | (refine T_reg tOK rfl ?_; simp [hll]) | (refine T_ret ?_; try simp) | (refine T_skip ?_; try simp) | (refine T_blockk fun K hK => ?_) | (with_reducible apply_assumption -exfalso -symm) | (rw [afterRF_ret]; simp [hll]) | (refine T_exit ?_; try simp) | (refine T_cond_t ?_ ?_; · (simp; done)) | (refine T_cond_f ?_ ?_; · (simp; done)) | (rintro _ _ (_ | _) hz9 <;> first | (simp; done) | (simp at hz9; done)) | (refine And.intro ?_ ?_) | (simp only [Post.block_ret, Post.block_exit, Post.block_normal, Post.block_pan, Post.seq_ret, Post.seq_exit, Post.seq_normal, Post.seq_pan]; try simp [hll]))
      refine C_four ?_
      repeat (first | (refine T_seqk fun K hK => ?_) | (refine T_reg tOK rfl ?_; simp [hq,htk,hol2,hb4,happ]) | (refine T_ret ?_; try simp) | (refine T_skip ?_; try simp) | (refine T_blockk fun K hK => ?_) | (with_reducible apply_assumption -exfalso -symm) | (rw [afterRF_ret]; simp [hq,htk,hol2,hb4,happ]) | (refine T_exit ?_; try simp) | (refine T_cond_t ?_ ?_; · (simp; done)) | (refine T_cond_f ?_ ?_; · (simp; done)) | (rintro _ _ (_ | _) hz9 <;> first | (simp; done) | (simp at hz9; done)) | (refine And.intro ?_ ?_) | (simp only [Post.block_ret, Post.block_exit, Post.block_normal, Post.block_pan, Post.seq_ret, Post.seq_exit, Post.seq_normal, Post.seq_pan]; try simp [hq,htk,hol2,hb4,happ]))
      have hfr := frz_u8row (σ := [some (.cells 5 (l.length + 1) (u8l (mout l ++ be4 (crc (mout l)))))]) (b := 0) (n := 4 * l.length + 1 + 4) rfl (by rw [List.length_append, be4_len, mout, hol])
      rw [frzRe, hfr]
      exact h
    · replace ih := PLift.up (ih trivial)
      have hk0 : decide (k < l.length) = true := by simpa using hk
      have hwk : IntKind.i64.wrap ((k : Int) + 1) = ((k + 1 : Nat) : Int) := by rw [IntWalk.i64_in _ (by omega)]; omega
      have hek := is_get hk
      have hlt : k < (is l).length := by omega
      have hel := get_of hek hlt
      have hb := mbody_take hk
      have hmem := w32 (List.all_eq_true.1 hin l[k] (List.getElem_mem hk))
      have hlen := mbody_len (l.take k)
      rw [List.length_take, Nat.min_eq_left (by omega)] at hlen
      have hx0 : 0 ≤ l[k] := by
        have := List.all_eq_true.1 hin l[k] (List.getElem_mem hk)
        simp only [inB, Bool.and_eq_true, decide_eq_true_eq] at this; exact this.1
      obtain ⟨x, hx⟩ := Int.eq_ofNat_of_zero_le hx0
      rw [hx] at hb hmem hel hek
      simp only [Int.toNat_natCast] at hb hmem
      have hq : 2 * (4 * k + 1 + 4) + 1000 ≤ 281474976710656 := by omega
      have happ := u8l_app (UInt8.ofNat l.length :: mbody (l.take k)) (be4 x)
      have hol2 : (u8l (UInt8.ofNat l.length :: mbody (l.take k))).length = 4 * k + 1 := by rw [u8l_len, List.length_cons, hlen]
      have htk : (u8l (UInt8.ofNat l.length :: mbody (l.take k))).take (4 * k + 1) = u8l (UInt8.ofNat l.length :: mbody (l.take k)) := List.take_of_length_le (by rw [hol2]; exact Nat.le_refl _)
      have hb4 : (u8l (be4 x)).length = 4 := rfl
      rw [List.cons_append, ← hb] at happ
      replace happ := happ.symm
      generalize hX : mbody (l.take k) = X at *
      refine TL_round ?_
      repeat (first | (refine T_seqk fun K hK => ?_) | (refine T_reg tOK rfl ?_; simp [hll,hk0,hwk,hek,hel,hlt,hmem,hq,hol2,htk,hb4,happ]) | (refine T_ret ?_; try simp) | (refine T_skip ?_; try simp) | (refine T_blockk fun K hK => ?_) | (with_reducible apply_assumption -exfalso -symm) | (rw [afterRF_ret]; simp [hll,hk0,hwk,hek,hel,hlt,hmem,hq,hol2,htk,hb4,happ]) | (refine T_exit ?_; try simp) | (refine T_cond_t ?_ ?_; · (simp; done)) | (refine T_cond_f ?_ ?_; · (simp; done)) | (rintro _ _ (_ | _) hz9 <;> first | (simp; done) | (simp at hz9; done)) | (refine And.intro ?_ ?_) | (simp only [Post.block_ret, Post.block_exit, Post.block_normal, Post.block_pan, Post.seq_ret, Post.seq_exit, Post.seq_normal, Post.seq_pan]; try simp [hll,hk0,hwk,hek,hel,hlt,hmem,hq,hol2,htk,hb4,happ]) | (refine C_four ?_; simp [hll,hk0,hwk,hek,hel,hlt,hmem,hq,hol2,htk,hb4,happ]))
      refine TL_keep [3, 13, 14, 15] ?_
      simpa [Fr.keep, Nat.mul_add, Nat.add_right_comm] using ih.down
end
end Go.Proofs.Ytdplbgfokoajjaa
end
