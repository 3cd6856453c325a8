/- Package disk: what it calls of the library. -/
import Derived.Test.YthllcknfidnfaaaSac
import Derived.Test.YthllcknfidnfaaaEnv
import Derived.Shelf.GgClosure.StringsIndexFuncTop
import Derived.Shelf.SlGeneric
import Derived.Ground.GgwProg
import Derived.Shelf.SlIter.Nil
import Derived.Shelf.SortM.Plain
import Derived.Shelf.SortM.SortNone
import Derived.Ground.GgzProg
import Derived.Ground.SlgmProg
set_option linter.unusedVariables false
set_option linter.unusedSimpArgs false
namespace Go.Proofs
open Go.Shelf
def Try.cf_ren : Go.Shelf.Ren := ⟨fun | 17 => 55 | 15 => 65 | 20 => 77 | n => n, fun | 9 => 9 | 23 => 75 | 4 => 4 | 3 => 3 | 0 => 0 | 21 => 21 | n => n, fun | n => n⟩
theorem Try.cf : Go.Proofs.LaysGw.n17 Try.prog Try.cf_ren := {
  mixed := by kernel_rfl
  f15 := Try.func65.trans (congrArg some (by kernel_rfl))
  f17 := Try.func55.trans (congrArg some (by kernel_rfl))
  f20 := Try.func77.trans (congrArg some (by kernel_rfl))
  t0 := Try.underlying0
  a0 := Try.isAgg0
  z0 := Try.sizeOf0
  v0 := Try.zeroValue0
  i0 := by kernel_rfl
  t3 := Try.underlying3
  a3 := Try.isAgg3
  z3 := Try.sizeOf3
  v3 := Try.zeroValue3
  i3 := by kernel_rfl
  t4 := Try.underlying4
  a4 := Try.isAgg4
  z4 := Try.sizeOf4
  v4 := Try.zeroValue4
  i4 := by kernel_rfl
  t9 := Try.underlying9
  a9 := Try.isAgg9
  z9 := Try.sizeOf9
  v9 := Try.zeroValue9
  i9 := by kernel_rfl
  t21 := Try.underlying21
  a21 := Try.isAgg21
  z21 := Try.sizeOf21
  v21 := Try.zeroValue21
  i21 := by kernel_rfl
  t23 := Try.underlying75
  a23 := Try.isAgg75
  z23 := Try.sizeOf75
  v23 := Try.zeroValue75
  i23 := by kernel_rfl }
def Try.keysA_ren : Go.Shelf.Ren := ⟨fun | 7 => 32 | 10 => 53 | n => n, fun | 23 => 52 | 26 => 9 | 3 => 56 | 28 => 59 | 0 => 0 | 27 => 58 | 33 => 63 | 4 => 4 | n => n, fun | n => n⟩
theorem Try.keysA : Go.Proofs.SlLaysZ.n7 Try.prog Try.keysA_ren := {
  mixed := by kernel_rfl
  f7 := ⟨Try.f32.name, by decide, Try.func32.trans (congrArg some (by kernel_rfl))⟩
  f10 := ⟨Try.f53.name, by decide, Try.func53.trans (congrArg some (by kernel_rfl))⟩
  t0 := Try.underlying0
  a0 := Try.isAgg0
  z0 := Try.sizeOf0
  v0 := Try.zeroValue0
  t4 := Try.underlying4
  a4 := Try.isAgg4
  z4 := Try.sizeOf4
  v4 := Try.zeroValue4
  t23 := Try.underlying52
  a23 := Try.isAgg52
  z23 := Try.sizeOf52
  v23 := Try.zeroValue52
  t26 := Try.underlying9
  a26 := Try.isAgg9
  z26 := Try.sizeOf9
  v26 := Try.zeroValue9
  t27 := Try.underlying58
  a27 := Try.isAgg58
  z27 := Try.sizeOf58
  v27 := Try.zeroValue58
  t28 := Try.underlying59
  a28 := Try.isAgg59
  z28 := Try.sizeOf59
  v28 := Try.zeroValue59
  t33 := Try.underlying63
  a33 := Try.isAgg63
  z33 := Try.sizeOf63
  v33 := Try.zeroValue63 }
def Try.sortedA_ren : Go.Shelf.Ren := ⟨fun | 6 => 31 | 8 => 51 | 9 => 52 | 11 => 62 | 13 => 64 | 12 => 63 | 23 => 75 | 24 => 76 | 14 => 66 | 15 => 67 | 16 => 68 | 17 => 69 | 18 => 70 | 19 => 71 | 20 => 72 | 21 => 73 | 22 => 74 | 25 => 78 | 26 => 79 | 27 => 80 | 28 => 81 | 29 => 82 | 30 => 83 | 31 => 84 | n => n, fun | 26 => 9 | 28 => 59 | 24 => 28 | 0 => 0 | 3 => 3 | 37 => 84 | 48 => 96 | 50 => 98 | 4 => 4 | 40 => 88 | 39 => 87 | 45 => 93 | 5 => 5 | 9 => 9 | 51 => 100 | 55 => 104 | 57 => 106 | 58 => 107 | 33 => 63 | n => n, fun | n => n⟩
theorem Try.sortedA : Go.Proofs.SlLaysZ.n6 Try.prog Try.sortedA_ren := {
  mixed := by kernel_rfl
  f6 := ⟨Try.f31.name, by decide, Try.func31.trans (congrArg some (by kernel_rfl))⟩
  f8 := ⟨Try.f51.name, by decide, Try.func51.trans (congrArg some (by kernel_rfl))⟩
  f11 := ⟨Try.f62.name, by decide, Try.func62.trans (congrArg some (by kernel_rfl))⟩
  t0 := Try.underlying0
  a0 := Try.isAgg0
  z0 := Try.sizeOf0
  v0 := Try.zeroValue0
  t24 := Try.underlying28
  a24 := Try.isAgg28
  z24 := Try.sizeOf28
  v24 := Try.zeroValue28
  t26 := Try.underlying9
  a26 := Try.isAgg9
  z26 := Try.sizeOf9
  v26 := Try.zeroValue9
  t28 := Try.underlying59
  a28 := Try.isAgg59
  z28 := Try.sizeOf59
  v28 := Try.zeroValue59
  i26 := by kernel_rfl }
def Try.sortA_ren : Go.Shelf.Ren := ⟨fun | 6 => 52 | 8 => 64 | 9 => 63 | 19 => 75 | 20 => 76 | 21 => 66 | 22 => 67 | 23 => 68 | 24 => 69 | 25 => 70 | 26 => 71 | 27 => 72 | 28 => 73 | 29 => 74 | 36 => 78 | 31 => 79 | 32 => 80 | 37 => 81 | 38 => 82 | 39 => 83 | 41 => 84 | n => n, fun | 27 => 28 | 29 => 9 | 3 => 3 | 32 => 84 | 26 => 28 | 0 => 0 | 44 => 96 | 46 => 98 | 4 => 4 | 36 => 88 | 35 => 87 | 41 => 93 | 5 => 5 | 9 => 9 | 53 => 100 | 57 => 104 | 63 => 106 | 64 => 107 | n => n, fun | n => n⟩
theorem Try.sortA : Go.Proofs.SlLaysM.n6 Try.prog Try.sortA_ren := {
  mixed := by kernel_rfl
  f6 := ⟨Try.f52.name, by decide, Try.func52.trans (congrArg some (by kernel_rfl))⟩
  f8 := Try.func64.trans (congrArg some (by kernel_rfl))
  f9 := ⟨Try.f63.name, by decide, Try.func63.trans (congrArg some (by kernel_rfl))⟩
  f19 := Try.func75.trans (congrArg some (by kernel_rfl))
  f20 := Try.func76.trans (congrArg some (by kernel_rfl))
  f21 := ⟨Try.f66.name, by decide, Try.func66.trans (congrArg some (by kernel_rfl))⟩
  f22 := ⟨Try.f67.name, by decide, Try.func67.trans (congrArg some (by kernel_rfl))⟩
  f23 := ⟨Try.f68.name, by decide, Try.func68.trans (congrArg some (by kernel_rfl))⟩
  f24 := ⟨Try.f69.name, by decide, Try.func69.trans (congrArg some (by kernel_rfl))⟩
  f25 := ⟨Try.f70.name, by decide, Try.func70.trans (congrArg some (by kernel_rfl))⟩
  f26 := ⟨Try.f71.name, by decide, Try.func71.trans (congrArg some (by kernel_rfl))⟩
  f27 := ⟨Try.f72.name, by decide, Try.func72.trans (congrArg some (by kernel_rfl))⟩
  f28 := ⟨Try.f73.name, by decide, Try.func73.trans (congrArg some (by kernel_rfl))⟩
  f29 := ⟨Try.f74.name, by decide, Try.func74.trans (congrArg some (by kernel_rfl))⟩
  f31 := Try.func79.trans (congrArg some (by kernel_rfl))
  f32 := Try.func80.trans (congrArg some (by kernel_rfl))
  f36 := ⟨Try.f78.name, by decide, Try.func78.trans (congrArg some (by kernel_rfl))⟩
  f37 := ⟨Try.f81.name, by decide, Try.func81.trans (congrArg some (by kernel_rfl))⟩
  f38 := ⟨Try.f82.name, by decide, Try.func82.trans (congrArg some (by kernel_rfl))⟩
  f39 := ⟨Try.f83.name, by decide, Try.func83.trans (congrArg some (by kernel_rfl))⟩
  f41 := ⟨Try.f84.name, by decide, Try.func84.trans (congrArg some (by kernel_rfl))⟩
  t0 := Try.underlying0
  a0 := Try.isAgg0
  z0 := Try.sizeOf0
  v0 := Try.zeroValue0
  t3 := Try.underlying3
  a3 := Try.isAgg3
  z3 := Try.sizeOf3
  v3 := Try.zeroValue3
  t4 := Try.underlying4
  a4 := Try.isAgg4
  z4 := Try.sizeOf4
  v4 := Try.zeroValue4
  t5 := Try.underlying5
  a5 := Try.isAgg5
  z5 := Try.sizeOf5
  v5 := Try.zeroValue5
  t9 := Try.underlying9
  a9 := Try.isAgg9
  z9 := Try.sizeOf9
  v9 := Try.zeroValue9
  t26 := Try.underlying28
  a26 := Try.isAgg28
  z26 := Try.sizeOf28
  v26 := Try.zeroValue28
  t27 := Try.underlying28
  a27 := Try.isAgg28
  z27 := Try.sizeOf28
  v27 := Try.zeroValue28
  t29 := Try.underlying9
  a29 := Try.isAgg9
  z29 := Try.sizeOf9
  v29 := Try.zeroValue9
  t32 := Try.underlying84
  a32 := Try.isAgg84
  z32 := Try.sizeOf84
  v32 := Try.zeroValue84
  t35 := Try.underlying87
  a35 := Try.isAgg87
  z35 := Try.sizeOf87
  v35 := Try.zeroValue87
  t36 := Try.underlying88
  a36 := Try.isAgg88
  z36 := Try.sizeOf88
  v36 := Try.zeroValue88
  t41 := Try.underlying93
  a41 := Try.isAgg93
  z41 := Try.sizeOf93
  v41 := Try.zeroValue93
  t44 := Try.underlying96
  a44 := Try.isAgg96
  z44 := Try.sizeOf96
  v44 := Try.zeroValue96
  t46 := Try.underlying98
  a46 := Try.isAgg98
  z46 := Try.sizeOf98
  v46 := Try.zeroValue98
  t53 := Try.underlying100
  a53 := Try.isAgg100
  z53 := Try.sizeOf100
  v53 := Try.zeroValue100
  t57 := Try.underlying104
  a57 := Try.isAgg104
  z57 := Try.sizeOf104
  v57 := Try.zeroValue104
  t63 := Try.underlying106
  a63 := Try.isAgg106
  z63 := Try.sizeOf106
  v63 := Try.zeroValue106
  t64 := Try.underlying107
  a64 := Try.isAgg107
  z64 := Try.sizeOf107
  v64 := Try.zeroValue107 }
end Go.Proofs
namespace Go.Proofs
open Go Go.RowKit Go.Maps Go.Sort Go.Shelf Go.Lib

/-- A rune that no name may have. -/
def oddR (r : Nat) : Bool := !(decide (97 ≤ r) && decide (r ≤ 122) || decide (48 ≤ r) && decide (r ≤ 57) || decide (r = 46) || decide (r = 45))
theorem Try.odd (w : World) : PredAt Try.prog 54 #[] encR oddR w := fun W r _ => by
  unfold FnGives
  have z1 : (97 : Int) ≤ (r : Int) ↔ 97 ≤ r := by omega
  have z2 : (r : Int) ≤ 122 ↔ r ≤ 122 := by omega
  have z3 : (48 : Int) ≤ (r : Int) ↔ 48 ≤ r := by omega
  have z4 : (r : Int) ≤ 57 ↔ r ≤ 57 := by omega
  have z5 : (r : Int) = 46 ↔ r = 46 := by omega
  have z6 : (r : Int) = 45 ↔ r = 45 := by omega
  by_cases h1 : 97 ≤ r <;> by_cases h2 : r ≤ 122 <;> by_cases h3 : 48 ≤ r <;> by_cases h4 : r ≤ 57 <;> by_cases h5 : r = 46 <;> by_cases h6 : r = 45
  all_goals first
    | (exfalso; omega)
    | (go_enter Try.func54, Try.ntmps54
       go_wp2
       all_goals first | (exfalso; omega) | (go_ret; exact ⟨by simp [oddR, h1, h2, h3, h4, h5, h6] <;> omega, 0, rfl⟩))
theorem Try.contains (s : ByteArray) (w : World) : Calls Try.prog 55 #[.string s, .func (.func 54) #[] #[]] w fun e w' => e = .returned (.bool (decide (0 ≤ idxFunc oddR true s))) ∧ Below w.heap.size w w' :=
  Any.strings_ContainsFunc Try.cf 54 #[] (enters_of Try.func54 (by kernel_rfl) rfl) oddR s w (Try.odd w)

/-- slices.Sort's two contracts at this dump. -/
theorem Try.sorts (m : Nat) : AnyZ.SortsIn Try.prog Try.sortedA_ren Fence.wide m :=
  ⟨fun blk off cap ss W hH hblk hsz => callsIn_wide.2 (AnyM.slices_Sort_string Try.sortA blk off cap ss W hH hblk hsz),
   fun p cap W => callsIn_wide.2 (AnyM.slices_Sort_string_none Try.sortA p cap W)⟩

theorem Try.sorted {H : Type} (B b nn : Nat) (D0 : DataW H) (R : Value → Option (DataW H × List MemPlace)) (w : World) (hB : B < w.heap.size) (hcell : w.cell? ⟨B, 0, none⟩ = some (.map (some b))) (hown : w.ownsMap Try.prog 9 R b nn D0)
    (hmax : Maps.size D0 ≤ maxLen) (hbytes : Maps.size D0 * 16 ≤ 140737488355328) :
    Calls Try.prog 31 #[.func (.func 53) #[] #[.pointer (some ⟨B, 0, none⟩)]] w fun e w' => ∃ (v : Value) (ss : List (List UInt8)), e = .returned v ∧ ss.Perm (strKeys D0) ∧
      w'.ownsRow w.heap.size 9 1 v ss.length ((ss.mergeSort (fun x y => decide (x ≤ y))).map encStr) ∧ (v = .slice none 0 0 ↔ ss = []) ∧ Below w.heap.size w w' := by
  refine (callsIn_wide (n := 5)).1 ?_
  have hseq : SeqGives Fence.wide 2 Try.prog 53 #[.pointer (some ⟨B, 0, none⟩)] encStr (fun ss => ss.Perm (strKeys D0)) (Maps.size D0) w :=
    AnyZ.keys_gives (ρ := Try.keysA_ren) { Try.keysA with } Fence.wide _ trivial rfl (by omega) B b nn D0 _ hB hcell hown
  exact AnyZ.sorted_in Try.sortedA Fence.wide 5 trivial trivial trivial trivial rfl (by omega) (Try.sorts _) (enters_of Try.func52 (by kernel_rfl) rfl) 53 #[.pointer (some ⟨B, 0, none⟩)] trivial (enters_of Try.func53 (by kernel_rfl) rfl) _ _ hmax hbytes _ hseq
end Go.Proofs

namespace Go.Proofs.Ythllcknfidnfaaa
open Go

section
variable {E : Env}
theorem VL.cons_inv {c : Cx} {x : PV} {xs : List PV} {vs : List Value} (h : VL E c (x :: xs) vs) : ∃ v us, vs = v :: us ∧ V E c x v ∧ VL E c xs us := by
  cases h with
  | undef hs => exact ⟨_, _, rfl, .undef .nil, hs⟩
  | one h1 hn h hs => exact ⟨_, _, rfl, .one h1 hn h .nil, hs⟩
  | agg h hs => exact ⟨_, _, rfl, .agg h .nil, hs⟩
  | tup h hs => exact ⟨_, _, rfl, .tup h .nil, hs⟩
theorem VL.nil_inv {c : Cx} {vs : List Value} (h : VL E c [] vs) : vs = [] := by cases h; rfl
theorem arr_of {vs : Array Value} {l : List Value} (h : vs.toList = l) : vs = l.toArray := by rw [← h]
end

theorem C_contains {R : Re → Store → Prop} {σ : Store} {s : ByteArray} (h : R (.ret (.bool (decide (0 ≤ Lib.idxFunc oddR true s)))) σ) : C tE 55 [.str s, .fn (.func 54) [] []] σ R :=
  C_below fun cx vs hn hv => by
    obtain ⟨v, us, e1, h1, h2⟩ := hv.cons_inv
    obtain ⟨u, us', rfl, h3, h4⟩ := h2.cons_inv
    have := h4.nil_inv; subst this
    obtain ⟨a, b, rfl, h5, h6⟩ := h3.fn_inv
    have ea : a = #[] := by simpa using h5.nil_inv
    have eb : b = #[] := by simpa using h6.nil_inv
    subst ea; subst eb
    rw [h1.str_inv] at e1
    rw [arr_of e1]
    refine (Try.contains s cx.w).mono ?_
    rintro e w' ⟨rfl, hb⟩
    exact ⟨hb, _, h, V_one (.bool _) (by simp)⟩

/-- Names, as values. -/
def strs (l : List (List UInt8)) : List PV := l.map fun n => .str ⟨n.toArray⟩
theorem VCs_strs {c : Cx} : ∀ l : List (List UInt8), VCs tE c (List.replicate (strs l).length 9) (strs l) (l.map encStr)
  | [] => .nil
  | n :: l => by
    have := VCs.cons (E := tE) (c := c) (T := 9) (x := .str ⟨n.toArray⟩) (by simp [fits]) (.str _) (VCs_strs l)
    simpa [strs, List.replicate_succ] using this

theorem ML.keys {E : Env} {c : Cx} {es : List (Lit × PV)} {ds : List (Lit × DataW Value)} (h : ML E c es ds) : ds.map (·.1) = es.map (·.1) := by
  induction h with
  | nil => rfl
  | cons h hs ih => simp [ih]

theorem C_sorted {R : Re → Store → Prop} {σ : Store} {i b : Nat} {T : TypeId} {es : List (Lit × PV)} (h0 : Store.at σ i = some (.cells T 0 [.map b])) (h1 : Store.at σ b = some (.mp 9 es)) (hl : es.length < 1000000000)
    (h : R (.ret (.lit (strs ((es.map fun p => strOf p.1).mergeSort fun x y => decide (x ≤ y))))) σ) :
    C tE 31 [.fn (.func 53) [] [.ptr i 0 0 []]] σ R :=
  C_below fun cx vs hn hv => by
    obtain ⟨v, us, e1, h2, h3⟩ := hv.cons_inv
    have := h3.nil_inv; subst this
    obtain ⟨a, d, rfl, h5, h6⟩ := h2.fn_inv
    have ea : a = #[] := by simpa using h5.nil_inv
    subst ea
    obtain ⟨p, us, e2, h7, h8⟩ := h6.cons_inv
    have := h8.nil_inv; subst this
    obtain ⟨m, ca, el, fz, cs, j1, j2, j3, j4, j5, j6, j7, j8, j9⟩ := hn.blk h0
    have hbase := hn.base i m j1 j2
    have hp : p = .pointer (some ⟨m.blk, 0, none⟩) := by
      have := h7.ptr_inv.2.2 m j1 j2
      simpa [hbase, pathOff] using this
    have hmapv : ∃ u, VC tE cx (.map b) [u] ∧ cs = [u] := by
      cases j6 with
      | cons hf hx hs =>
        cases hs
        obtain ⟨u, rfl⟩ := hx.scalar (by simp)
        exact ⟨u, hx, by simp⟩
    obtain ⟨u, hu, rfl⟩ := hmapv
    obtain ⟨mb, ds, k1, k2, k3, k4, k5, k6⟩ := hn.mp h1 (V_one hu (by simp))
    have hcell : cx.w.cell? ⟨m.blk, 0, none⟩ = some (.map (some mb.blk)) := by
      have := j7 0 u rfl
      rw [hbase] at this
      simp only [World.cell?, j4]
      rw [← k4]; simpa using this
    have hlen := k6.len
    have hB : m.blk < cx.w.heap.size := by obtain ⟨_, _, h, _⟩ := hn.dom i m j1; exact h
    rw [arr_of e1, show d = #[p] from arr_of e2, hp]
    refine (Try.sorted m.blk mb.blk ds.length (.map ds) asHeld cx.w hB hcell k5 ?_ ?_).mono ?_
    · simp only [Maps.size]; have : 1000000000 ≤ maxLen := by decide
      omega
    · simp only [Maps.size]; omega
    rintro e w' ⟨v, ss, rfl, hperm, hrow, _, hb⟩
    have hk : strKeys (DataW.map ds) = es.map fun p => strOf p.1 := by
      have := congrArg (List.map strOf) k6.keys
      simpa [strKeys, List.map_map, Function.comp_def] using this
    rw [hk] at hperm
    have hm : ss.mergeSort (fun x y => decide (x ≤ y)) = (es.map fun p => strOf p.1).mergeSort (fun x y => decide (x ≤ y)) := mergeSort_of_perm hperm
    rw [hm] at hrow
    exact ⟨hb, _, h, V_row hrow (by simp [strs, hperm.length_eq]) (VCs_strs _)⟩
end Go.Proofs.Ythllcknfidnfaaa
