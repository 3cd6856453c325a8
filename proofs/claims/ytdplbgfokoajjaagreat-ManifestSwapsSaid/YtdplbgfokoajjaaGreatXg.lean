/-
  DERIVED: THE SHELF's CONTRACTS AT THIS DUMP, IN PLAIN WORDS (tools/lay-plain.mjs out of 'YtdplbgfokoajjaaGreatDl0.lean', which tools/lay-shelf.mjs wrote): THE SAME DECLARATIONS UNDER THE SAME NAMES: 'import', 'namespace', 'open', 'def', 'theorem' AND NOTHING ELSE: no command of the shelf's: FOR A HAND-IN. Each laying: the table of numbers ('.._ren') and one theorem, a field a fact of the dump's own or the kernel's comparison; each contract: ONE APPLICATION.
-/
import Derived.Test.YtdplbgfokoajjaaGreatXd
import Derived.Test.YtdplbgfokoajjaaGreatXEnv
import Derived.Shelf.GgClosure.StringsIndexFuncTop
import Derived.Shelf.SlGeneric
import Derived.Ground.GgwProg
import Derived.Shelf.SlIter.Nil
import Derived.Shelf.SortM.Plain
import Derived.Shelf.SortM.SortNone
import Derived.Ground.GgzProg
import Derived.Ground.SlgmProg
import Derived.IntWalk
section
namespace Go.Proofs
open Go.Shelf
def Tryz.cf_ren : Go.Shelf.Ren := ⟨fun | 17 => 85 | 15 => 94 | 20 => 107 | n => n, fun | 9 => 9 | 23 => 102 | 4 => 4 | 3 => 3 | 0 => 0 | 21 => 21 | n => n, fun | n => n⟩
theorem Tryz.cf : Go.Proofs.LaysGw.n17 Tryz.prog Tryz.cf_ren := {
 mixed := by kernel_rfl
 f15 := Tryz.func94.trans (congrArg some (by kernel_rfl))
 f17 := Tryz.func85.trans (congrArg some (by kernel_rfl))
 f20 := Tryz.func107.trans (congrArg some (by kernel_rfl))
 t0 := Tryz.underlying0
 a0 := Tryz.isAgg0
 z0 := Tryz.sizeOf0
 v0 := Tryz.zeroValue0
 i0 := by kernel_rfl
 t3 := Tryz.underlying3
 a3 := Tryz.isAgg3
 z3 := Tryz.sizeOf3
 v3 := Tryz.zeroValue3
 i3 := by kernel_rfl
 t4 := Tryz.underlying4
 a4 := Tryz.isAgg4
 z4 := Tryz.sizeOf4
 v4 := Tryz.zeroValue4
 i4 := by kernel_rfl
 t9 := Tryz.underlying9
 a9 := Tryz.isAgg9
 z9 := Tryz.sizeOf9
 v9 := Tryz.zeroValue9
 i9 := by kernel_rfl
 t21 := Tryz.underlying21
 a21 := Tryz.isAgg21
 z21 := Tryz.sizeOf21
 v21 := Tryz.zeroValue21
 i21 := by kernel_rfl
 t23 := Tryz.underlying102
 a23 := Tryz.isAgg102
 z23 := Tryz.sizeOf102
 v23 := Tryz.zeroValue102
 i23 := by kernel_rfl }
def Tryz.keysA_ren : Go.Shelf.Ren := ⟨fun | 7 => 50 | 10 => 80 | n => n, fun | 23 => 52 | 26 => 9 | 3 => 72 | 28 => 69 | 0 => 0 | 27 => 68 | 33 => 86 | 4 => 4 | n => n, fun | n => n⟩
theorem Tryz.keysA : Go.Proofs.SlLaysZ.n7 Tryz.prog Tryz.keysA_ren := {
 mixed := by kernel_rfl
 f7 := ⟨Tryz.f50.name, by decide, Tryz.func50.trans (congrArg some (by kernel_rfl))⟩
 f10 := ⟨Tryz.f80.name, by decide, Tryz.func80.trans (congrArg some (by kernel_rfl))⟩
 t0 := Tryz.underlying0
 a0 := Tryz.isAgg0
 z0 := Tryz.sizeOf0
 v0 := Tryz.zeroValue0
 t4 := Tryz.underlying4
 a4 := Tryz.isAgg4
 z4 := Tryz.sizeOf4
 v4 := Tryz.zeroValue4
 t23 := Tryz.underlying52
 a23 := Tryz.isAgg52
 z23 := Tryz.sizeOf52
 v23 := Tryz.zeroValue52
 t26 := Tryz.underlying9
 a26 := Tryz.isAgg9
 z26 := Tryz.sizeOf9
 v26 := Tryz.zeroValue9
 t27 := Tryz.underlying68
 a27 := Tryz.isAgg68
 z27 := Tryz.sizeOf68
 v27 := Tryz.zeroValue68
 t28 := Tryz.underlying69
 a28 := Tryz.isAgg69
 z28 := Tryz.sizeOf69
 v28 := Tryz.zeroValue69
 t33 := Tryz.underlying86
 a33 := Tryz.isAgg86
 z33 := Tryz.sizeOf86
 v33 := Tryz.zeroValue86 }
def Tryz.sortedA_ren : Go.Shelf.Ren := ⟨fun | 6 => 49 | 8 => 78 | 9 => 79 | 11 => 90 | 13 => 92 | 12 => 91 | 23 => 105 | 24 => 106 | 14 => 96 | 15 => 97 | 16 => 98 | 17 => 99 | 18 => 100 | 19 => 101 | 20 => 102 | 21 => 103 | 22 => 104 | 25 => 108 | 26 => 109 | 27 => 110 | 28 => 111 | 29 => 112 | 30 => 113 | 31 => 114 | n => n, fun | 26 => 9 | 28 => 69 | 24 => 44 | 0 => 0 | 3 => 3 | 37 => 82 | 48 => 76 | 50 => 97 | 4 => 4 | 40 => 116 | 39 => 115 | 45 => 121 | 5 => 5 | 9 => 9 | 51 => 126 | 55 => 130 | 57 => 132 | 58 => 133 | 33 => 86 | n => n, fun | n => n⟩
theorem Tryz.sortedA : Go.Proofs.SlLaysZ.n6 Tryz.prog Tryz.sortedA_ren := {
 mixed := by kernel_rfl
 f6 := ⟨Tryz.f49.name, by decide, Tryz.func49.trans (congrArg some (by kernel_rfl))⟩
 f8 := ⟨Tryz.f78.name, by decide, Tryz.func78.trans (congrArg some (by kernel_rfl))⟩
 f11 := ⟨Tryz.f90.name, by decide, Tryz.func90.trans (congrArg some (by kernel_rfl))⟩
 t0 := Tryz.underlying0
 a0 := Tryz.isAgg0
 z0 := Tryz.sizeOf0
 v0 := Tryz.zeroValue0
 t24 := Tryz.underlying44
 a24 := Tryz.isAgg44
 z24 := Tryz.sizeOf44
 v24 := Tryz.zeroValue44
 t26 := Tryz.underlying9
 a26 := Tryz.isAgg9
 z26 := Tryz.sizeOf9
 v26 := Tryz.zeroValue9
 t28 := Tryz.underlying69
 a28 := Tryz.isAgg69
 z28 := Tryz.sizeOf69
 v28 := Tryz.zeroValue69
 i26 := by kernel_rfl }
def Tryz.sortA_ren : Go.Shelf.Ren := ⟨fun | 6 => 79 | 8 => 92 | 9 => 91 | 19 => 105 | 20 => 106 | 21 => 96 | 22 => 97 | 23 => 98 | 24 => 99 | 25 => 100 | 26 => 101 | 27 => 102 | 28 => 103 | 29 => 104 | 36 => 108 | 31 => 109 | 32 => 110 | 37 => 111 | 38 => 112 | 39 => 113 | 41 => 114 | n => n, fun | 27 => 44 | 29 => 9 | 3 => 3 | 32 => 82 | 26 => 44 | 0 => 0 | 44 => 76 | 46 => 97 | 4 => 4 | 36 => 116 | 35 => 115 | 41 => 121 | 5 => 5 | 9 => 9 | 53 => 126 | 57 => 130 | 63 => 132 | 64 => 133 | n => n, fun | n => n⟩
theorem Tryz.sortA : Go.Proofs.SlLaysM.n6 Tryz.prog Tryz.sortA_ren := {
 mixed := by kernel_rfl
 f6 := ⟨Tryz.f79.name, by decide, Tryz.func79.trans (congrArg some (by kernel_rfl))⟩
 f8 := Tryz.func92.trans (congrArg some (by kernel_rfl))
 f9 := ⟨Tryz.f91.name, by decide, Tryz.func91.trans (congrArg some (by kernel_rfl))⟩
 f19 := Tryz.func105.trans (congrArg some (by kernel_rfl))
 f20 := Tryz.func106.trans (congrArg some (by kernel_rfl))
 f21 := ⟨Tryz.f96.name, by decide, Tryz.func96.trans (congrArg some (by kernel_rfl))⟩
 f22 := ⟨Tryz.f97.name, by decide, Tryz.func97.trans (congrArg some (by kernel_rfl))⟩
 f23 := ⟨Tryz.f98.name, by decide, Tryz.func98.trans (congrArg some (by kernel_rfl))⟩
 f24 := ⟨Tryz.f99.name, by decide, Tryz.func99.trans (congrArg some (by kernel_rfl))⟩
 f25 := ⟨Tryz.f100.name, by decide, Tryz.func100.trans (congrArg some (by kernel_rfl))⟩
 f26 := ⟨Tryz.f101.name, by decide, Tryz.func101.trans (congrArg some (by kernel_rfl))⟩
 f27 := ⟨Tryz.f102.name, by decide, Tryz.func102.trans (congrArg some (by kernel_rfl))⟩
 f28 := ⟨Tryz.f103.name, by decide, Tryz.func103.trans (congrArg some (by kernel_rfl))⟩
 f29 := ⟨Tryz.f104.name, by decide, Tryz.func104.trans (congrArg some (by kernel_rfl))⟩
 f31 := Tryz.func109.trans (congrArg some (by kernel_rfl))
 f32 := Tryz.func110.trans (congrArg some (by kernel_rfl))
 f36 := ⟨Tryz.f108.name, by decide, Tryz.func108.trans (congrArg some (by kernel_rfl))⟩
 f37 := ⟨Tryz.f111.name, by decide, Tryz.func111.trans (congrArg some (by kernel_rfl))⟩
 f38 := ⟨Tryz.f112.name, by decide, Tryz.func112.trans (congrArg some (by kernel_rfl))⟩
 f39 := ⟨Tryz.f113.name, by decide, Tryz.func113.trans (congrArg some (by kernel_rfl))⟩
 f41 := ⟨Tryz.f114.name, by decide, Tryz.func114.trans (congrArg some (by kernel_rfl))⟩
 t0 := Tryz.underlying0
 a0 := Tryz.isAgg0
 z0 := Tryz.sizeOf0
 v0 := Tryz.zeroValue0
 t3 := Tryz.underlying3
 a3 := Tryz.isAgg3
 z3 := Tryz.sizeOf3
 v3 := Tryz.zeroValue3
 t4 := Tryz.underlying4
 a4 := Tryz.isAgg4
 z4 := Tryz.sizeOf4
 v4 := Tryz.zeroValue4
 t5 := Tryz.underlying5
 a5 := Tryz.isAgg5
 z5 := Tryz.sizeOf5
 v5 := Tryz.zeroValue5
 t9 := Tryz.underlying9
 a9 := Tryz.isAgg9
 z9 := Tryz.sizeOf9
 v9 := Tryz.zeroValue9
 t26 := Tryz.underlying44
 a26 := Tryz.isAgg44
 z26 := Tryz.sizeOf44
 v26 := Tryz.zeroValue44
 t27 := Tryz.underlying44
 a27 := Tryz.isAgg44
 z27 := Tryz.sizeOf44
 v27 := Tryz.zeroValue44
 t29 := Tryz.underlying9
 a29 := Tryz.isAgg9
 z29 := Tryz.sizeOf9
 v29 := Tryz.zeroValue9
 t32 := Tryz.underlying82
 a32 := Tryz.isAgg82
 z32 := Tryz.sizeOf82
 v32 := Tryz.zeroValue82
 t35 := Tryz.underlying115
 a35 := Tryz.isAgg115
 z35 := Tryz.sizeOf115
 v35 := Tryz.zeroValue115
 t36 := Tryz.underlying116
 a36 := Tryz.isAgg116
 z36 := Tryz.sizeOf116
 v36 := Tryz.zeroValue116
 t41 := Tryz.underlying121
 a41 := Tryz.isAgg121
 z41 := Tryz.sizeOf121
 v41 := Tryz.zeroValue121
 t44 := Tryz.underlying76
 a44 := Tryz.isAgg76
 z44 := Tryz.sizeOf76
 v44 := Tryz.zeroValue76
 t46 := Tryz.underlying97
 a46 := Tryz.isAgg97
 z46 := Tryz.sizeOf97
 v46 := Tryz.zeroValue97
 t53 := Tryz.underlying126
 a53 := Tryz.isAgg126
 z53 := Tryz.sizeOf126
 v53 := Tryz.zeroValue126
 t57 := Tryz.underlying130
 a57 := Tryz.isAgg130
 z57 := Tryz.sizeOf130
 v57 := Tryz.zeroValue130
 t63 := Tryz.underlying132
 a63 := Tryz.isAgg132
 z63 := Tryz.sizeOf132
 v63 := Tryz.zeroValue132
 t64 := Tryz.underlying133
 a64 := Tryz.isAgg133
 z64 := Tryz.sizeOf133
 v64 := Tryz.zeroValue133 }
end Go.Proofs
end
section
set_option maxRecDepth 20000
set_option linter.unusedVariables false
set_option linter.unusedSimpArgs false
namespace Go.Proofs
open Go Go.RowKit Go.Maps Go.Sort Go.Shelf Go.Lib
def oddR (r : Nat) : Bool := !(decide (97 ≤ r) && decide (r ≤ 122) || decide (48 ≤ r) && decide (r ≤ 57) || decide (r = 46) || decide (r = 45))
theorem Tryz.odd (w : World) : PredAt Tryz.prog 84 #[] encR oddR w := fun W r _ => by
  unfold FnGives
  have z1 : (97 : Int) ≤ (r : Int) ↔ 97 ≤ r := by omega
  have z2 : (r : Int) ≤ 122 ↔ r ≤ 122 := by omega
  have z3 : (48 : Int) ≤ (r : Int) ↔ 48 ≤ r := by omega
  have z4 : (r : Int) ≤ 57 ↔ r ≤ 57 := by omega
  have z5 : (r : Int) = 46 ↔ r = 46 := by omega
  have z6 : (r : Int) = 45 ↔ r = 45 := by omega
  by_cases h1 : 97 ≤ r <;> by_cases h2 : r ≤ 122 <;> by_cases h3 : 48 ≤ r <;> by_cases h4 : r ≤ 57 <;> by_cases h5 : r = 46 <;> by_cases h6 : r = 45
  all_goals first
    | (exfalso; omega)
    | (go_enter Tryz.func84, Tryz.ntmps84
       go_wp2
       all_goals first | (exfalso; omega) | (go_ret; exact ⟨by simp [oddR, h1, h2, h3, h4, h5, h6] <;> omega, 0, rfl⟩))
theorem Tryz.contains (s : ByteArray) (w : World) : Calls Tryz.prog 85 #[.string s, .func (.func 84) #[] #[]] w fun e w' => e = .returned (.bool (decide (0 ≤ idxFunc oddR true s))) ∧ Below w.heap.size w w' :=
 Any.strings_ContainsFunc Tryz.cf 84 #[] (enters_of Tryz.func84 (by kernel_rfl) rfl) oddR s w (Tryz.odd w)
theorem Tryz.sorts (m : Nat) : AnyZ.SortsIn Tryz.prog Tryz.sortedA_ren Fence.wide m :=
  ⟨fun blk off cap ss W hH hblk hsz => callsIn_wide.2 (AnyM.slices_Sort_string Tryz.sortA blk off cap ss W hH hblk hsz),
   fun p cap W => callsIn_wide.2 (AnyM.slices_Sort_string_none Tryz.sortA p cap W)⟩
theorem Tryz.sorted {H : Type} (B b nn : Nat) (D0 : DataW H) (R : Value → Option (DataW H × List MemPlace)) (w : World) (hB : B < w.heap.size) (hcell : w.cell? ⟨B, 0, none⟩ = some (.map (some b))) (hown : w.ownsMap Tryz.prog 9 R b nn D0)
  (hmax : Maps.size D0 ≤ maxLen) (hbytes : Maps.size D0 * 16 ≤ 140737488355328) :
  Calls Tryz.prog 49 #[.func (.func 80) #[] #[.pointer (some ⟨B, 0, none⟩)]] w fun e w' => ∃ (v : Value) (ss : List (List UInt8)), e = .returned v ∧ ss.Perm (strKeys D0) ∧
   w'.ownsRow w.heap.size 9 1 v ss.length ((ss.mergeSort (fun x y => decide (x ≤ y))).map encStr) ∧ (v = .slice none 0 0 ↔ ss = []) ∧ Below w.heap.size w w' := by
 refine (callsIn_wide (n := 5)).1 ?_
 have hseq : SeqGives Fence.wide 2 Tryz.prog 80 #[.pointer (some ⟨B, 0, none⟩)] encStr (fun ss => ss.Perm (strKeys D0)) (Maps.size D0) w :=
  AnyZ.keys_gives (ρ := Tryz.keysA_ren) { Tryz.keysA with } Fence.wide _ trivial rfl (by omega) B b nn D0 _ hB hcell hown
 exact AnyZ.sorted_in Tryz.sortedA Fence.wide 5 trivial trivial trivial trivial rfl (by omega) (Tryz.sorts _) (enters_of Tryz.func79 (by kernel_rfl) rfl) 80 #[.pointer (some ⟨B, 0, none⟩)] trivial (enters_of Tryz.func80 (by kernel_rfl) rfl) _ _ hmax hbytes _ hseq
end Go.Proofs
namespace Go.Proofs.YtdplbgfokoajjaaGreat
open Go
section
variable {E : Env}
theorem VL.cons_inv {c : Cx} {x : PV} {xs : List PV} {vs : List Value} (h : VL E c (x :: xs) vs) : ∃ v us, vs = v :: us ∧ V E c x v ∧ VL E c xs us := by
 cases h with
 | undef hs => exact ⟨_, _, rfl, .undef .nil, hs⟩
 | one h1 hn h hs => exact ⟨_, _, rfl, .one h1 hn h .nil, hs⟩
 | agg h hs => exact ⟨_, _, rfl, .agg h .nil, hs⟩
 | tup h hs => exact ⟨_, _, rfl, .tup h .nil, hs⟩
theorem VL.nil_inv {c : Cx} {vs : List Value} (h : VL E c [] vs) : vs = [] := by cases h; rfl
theorem arr_of {vs : Array Value} {l : List Value} (h : vs.toList = l) : vs = l.toArray := by rw [← h]
end
theorem C_contains {R : Re → Store → Prop} {σ : Store} {s : ByteArray} (h : R (.ret (.bool (decide (0 ≤ Lib.idxFunc oddR true s)))) σ) : C tE 85 [.str s, .fn (.func 84) [] []] σ R :=
 C_below fun cx vs hn hv => by
  obtain ⟨v, us, e1, h1, h2⟩ := hv.cons_inv
  obtain ⟨u, us', rfl, h3, h4⟩ := h2.cons_inv
  have := h4.nil_inv; subst this
  obtain ⟨a, b, rfl, h5, h6⟩ := h3.fn_inv
  have ea : a = #[] := by simpa using h5.nil_inv
  have eb : b = #[] := by simpa using h6.nil_inv
  subst ea; subst eb
  rw [h1.str_inv] at e1
  rw [arr_of e1]
  refine (Tryz.contains s cx.w).mono ?_
  rintro e w' ⟨rfl, hb⟩
  exact ⟨hb, _, h, V_one (.bool _) (by simp)⟩
def strs (l : List (List UInt8)) : List PV := l.map fun n => .str ⟨n.toArray⟩
theorem VCs_strs {c : Cx} : ∀ l : List (List UInt8), VCs tE c (List.replicate (strs l).length 9) (strs l) (l.map encStr)
 | [] => .nil
 | n :: l => by
  have := VCs.cons (E := tE) (c := c) (T := 9) (x := .str ⟨n.toArray⟩) (by simp [fits]) (.str _) (VCs_strs l)
  simpa [strs, List.replicate_succ] using this
theorem ML.keys {E : Env} {c : Cx} {es : List (Lit × PV)} {ds : List (Lit × DataW Value)} (h : ML E c es ds) : ds.map (·.1) = es.map (·.1) := by
 induction h with
 | nil => rfl
 | cons h hs ih => simp [ih]
theorem C_sorted {R : Re → Store → Prop} {σ : Store} {i b : Nat} {T : TypeId} {es : List (Lit × PV)} (h0 : Store.at σ i = some (.cells T 0 [.map b])) (h1 : Store.at σ b = some (.mp 9 es)) (hl : es.length < 1000000000)
  (h : R (.ret (.lit (strs ((es.map fun p => strOf p.1).mergeSort fun x y => decide (x ≤ y))))) σ) :
  C tE 49 [.fn (.func 80) [] [.ptr i 0 0 []]] σ R :=
 C_below fun cx vs hn hv => by
  obtain ⟨v, us, e1, h2, h3⟩ := hv.cons_inv
  have := h3.nil_inv; subst this
  obtain ⟨a, d, rfl, h5, h6⟩ := h2.fn_inv
  have ea : a = #[] := by simpa using h5.nil_inv
  subst ea
  obtain ⟨p, us, e2, h7, h8⟩ := h6.cons_inv
  have := h8.nil_inv; subst this
  obtain ⟨m, ca, el, fz, cs, j1, j2, j3, j4, j5, j6, j7, j8, j9⟩ := hn.blk h0
  have hbase := hn.base i m j1 j2
  have hp : p = .pointer (some ⟨m.blk, 0, none⟩) := by
   have := h7.ptr_inv.2.2 m j1 j2
   simpa [hbase, pathOff] using this
  have hmapv : ∃ u, VC tE cx (.map b) [u] ∧ cs = [u] := by
   cases j6 with
   | cons hf hx hs =>
    cases hs
    obtain ⟨u, rfl⟩ := hx.scalar (by simp)
    exact ⟨u, hx, by simp⟩
  obtain ⟨u, hu, rfl⟩ := hmapv
  obtain ⟨mb, ds, k1, k2, k3, k4, k5, k6⟩ := hn.mp h1 (V_one hu (by simp))
  have hcell : cx.w.cell? ⟨m.blk, 0, none⟩ = some (.map (some mb.blk)) := by
   have := j7 0 u rfl
   rw [hbase] at this
   simp only [World.cell?, j4]
   rw [← k4]; simpa using this
  have hlen := k6.len
  have hB : m.blk < cx.w.heap.size := by obtain ⟨_, _, h, _⟩ := hn.dom i m j1; exact h
  rw [arr_of e1, show d = #[p] from arr_of e2, hp]
  refine (Tryz.sorted m.blk mb.blk ds.length (.map ds) asHeld cx.w hB hcell k5 ?_ ?_).mono ?_
  ·simp only [Maps.size]; have : 1000000000 ≤ maxLen := by decide
   omega
  ·simp only [Maps.size]; omega
  rintro e w' ⟨v, ss, rfl, hperm, hrow, _, hb⟩
  have hk : strKeys (DataW.map ds) = es.map fun p => strOf p.1 := by
   have := congrArg (List.map strOf) k6.keys
   simpa [strKeys, List.map_map, Function.comp_def] using this
  rw [hk] at hperm
  have hm : ss.mergeSort (fun x y => decide (x ≤ y)) = (es.map fun p => strOf p.1).mergeSort (fun x y => decide (x ≤ y)) := mergeSort_of_perm hperm
  rw [hm] at hrow
  exact ⟨hb, _, h, V_row hrow (by simp [strs, hperm.length_eq]) (VCs_strs _)⟩
end Go.Proofs.YtdplbgfokoajjaaGreat
end
section
set_option linter.unusedVariables false
set_option linter.unusedSimpArgs false
set_option maxRecDepth 20000
namespace Go.Proofs.YtdplbgfokoajjaaGreat
open Go
theorem tmix : tE.P.follows .mixedOrders = true := by kernel_rfl
attribute [local simp] RF_nil RF_cons afterRF_ret nilCmp sop sGuard isCall sCallee Fr.eval Fr.get Fr.put ofConst sLoad sStore sBuiltin Fr.args bodyQ sRes oneOf sBin sInt sUn
attribute [local simp] RD_nil RD_cons noConf clear accAdd Tab.pr Tab.slot foot wid idOf refId Op.operands Call.operands sFieldAddr sNilCheck sLookup keyLit sMapSet sMapDel sLen Store.at Store.new getP setP typeAt fits evalParts sBuildSlice sFill sList sApp sAppend frzRe frz pureB pureL
abbrev i64 (n : Int) : PV := .int .i64 n
structure Fl where
 b : List UInt8
 last : Int
def u8l (l : List UInt8) : List PV := l.map fun b => .int .u8 b.toNat
abbrev u8s (l : List UInt8) : PV := .lit (u8l l)
def encF (f : Fl) : PV := .agg 72 [u8s f.b, i64 f.last]
structure Dk where
 room : Int
 files : List (List UInt8 × Fl)
 fuse : Int
 fail : Int
def encFs (l : List (List UInt8 × Fl)) : List (Lit × PV) := l.map fun p => (.string p.1, encF p.2)
def dkB (d : Dk) : Blk := .cells 54 0 [.agg 54 [i64 d.room, .map 1, i64 d.fuse, i64 d.fail]]
def dkS (d : Dk) : Store := [some (dkB d), some (.mp 9 (encFs d.files))]
attribute [local simp] dkB dkS u8s
theorem frz_u8l (σ : Store) (n : Nat) {l : List UInt8} : ∀ x ∈ u8l l, frz σ (n + 1) x = some x := fun x hx => by
 obtain ⟨b, _, rfl⟩ := List.mem_map.1 hx; rfl
theorem u8_fit (l : List UInt8) : ((l.map fun b => PV.int .u8 b.toNat).all (fits tE 5)) = true := by
 rw [List.all_map, List.all_eq_true]; intro b _; simp [fits]
theorem u8_fit' (l : List UInt8) : ∀ x ∈ (l.map fun b => PV.int .u8 b.toNat), fits tE 5 x = true := fun x hx => List.all_eq_true.1 (u8_fit l) x hx
section
variable {R : Re → Store → Prop} {σ : Store} {l : List UInt8}
theorem C_clone (hl : l.length < 1000000000) (h : R (.ret (u8s l)) σ) : C tE 74 [u8s l] σ R := by
 refine C_pure tOK (by simp [pureL, pureB]) ?_
 unfold u8s u8l
 cases l with
 | nil =>
  refine C_bodyk tOK Tryz.func74 rfl (Nat.le_of_ble_eq_true rfl) fun K hK => ?_; simp
  repeat (first | (refine T_seqk fun K hK => ?_) | (refine T_reg tOK rfl ?_; simp) | (refine T_ret ?_; try simp) | (refine T_skip ?_; try simp) | (refine T_blockk fun K hK => ?_) | (with_reducible apply_assumption -exfalso -symm) | (rw [afterRF_ret]; simp) | (refine T_exit ?_; try simp) | (refine T_cond_t ?_ ?_; · (simp; done)) | (refine T_cond_f ?_ ?_; · (simp; done)) | (rintro _ _ (_ | _) hz9 <;> first | (simp; done) | (simp at hz9; done)) | (refine And.intro ?_ ?_) | (simp only [Post.block_ret, Post.block_exit, Post.block_normal, Post.block_pan, Post.seq_ret, Post.seq_exit, Post.seq_normal, Post.seq_pan]; try simp) | (refine T_loop (TL_round ?_)) | (refine TL_round ?_))
 | cons b l =>
  have hl' : 2 * (l.length + 1) ≤ 281474976709656 := by simp at hl; omega
  refine C_bodyk tOK Tryz.func74 rfl (Nat.le_of_ble_eq_true rfl) fun K hK => ?_; simp
  repeat (first | (refine T_seqk fun K hK => ?_) | (refine T_reg tOK rfl ?_; simp [hl']) | (refine T_ret ?_; try simp) | (refine T_skip ?_; try simp) | (refine T_blockk fun K hK => ?_) | (with_reducible apply_assumption -exfalso -symm) | (rw [afterRF_ret]; simp [hl']) | (refine T_exit ?_; try simp) | (refine T_cond_t ?_ ?_; · (simp; done)) | (refine T_cond_f ?_ ?_; · (simp; done)) | (rintro _ _ (_ | _) hz9 <;> first | (simp; done) | (simp at hz9; done)) | (refine And.intro ?_ ?_) | (simp only [Post.block_ret, Post.block_exit, Post.block_normal, Post.block_pan, Post.seq_ret, Post.seq_exit, Post.seq_normal, Post.seq_pan]; try simp [hl']) | (refine T_loop (TL_round ?_)) | (refine TL_round ?_))
  rw [frzRe, frz_row (xs := u8l (b :: l)) rfl (by simp [u8l]) (frz_u8l _ _)]
  have e : ((u8l (b :: l)).drop 0).take (l.length + 1) = u8l (b :: l) := by rw [List.drop_zero]; exact List.take_of_length_le (by simp [u8l])
  rw [e]; exact h
end
section
variable {R : Re → Store → Prop} {d : Dk} {n : Int}
theorem C_fuse (h : R (.ret (.tup [])) (dkS { d with fuse := max n (-1) })) : C tE 28 [.ptr 0 0 0 [], i64 n] (dkS d) R := by
 refine C_bodyk tOK Tryz.func28 rfl (Nat.le_of_ble_eq_true rfl) fun K hK => ?_; simp
 repeat (first | (refine T_seqk fun K hK => ?_) | (refine T_reg tOK rfl ?_; simp) | (refine T_ret ?_; try simp) | (refine T_skip ?_; try simp) | (refine T_blockk fun K hK => ?_) | (with_reducible apply_assumption -exfalso -symm) | (rw [afterRF_ret]; simp) | (refine T_exit ?_; try simp) | (refine T_cond_t ?_ ?_; · (simp; done)) | (refine T_cond_f ?_ ?_; · (simp; done)) | (rintro _ _ (_ | _) hz9 <;> first | (simp; done) | (simp at hz9; done)) | (refine And.intro ?_ ?_) | (simp only [Post.block_ret, Post.block_exit, Post.block_normal, Post.block_pan, Post.seq_ret, Post.seq_exit, Post.seq_normal, Post.seq_pan]; try simp) | (refine T_loop (TL_round ?_)) | (refine TL_round ?_))
end
def named (s : ByteArray) : Bool := !s.toList.isEmpty && decide ((s.size : Int) ≤ 16) && !decide (0 ≤ Lib.idxFunc oddR true s)
section
variable {R : Re → Store → Prop} {σ : Store} {d : Dk} {n : Int} {s : ByteArray}
set_option maxHeartbeats 400000 in
theorem C_named (h : R (.ret (.bool (named s))) σ) : C tE 60 [.str s] σ R := by
 unfold named at h
 by_cases e : s.toList = []
 ·have e' : s.toList.isEmpty = true := by simp [e]
  have h : R (.ret (.bool false)) σ := by simpa [e] using h
  refine C_bodyk tOK Tryz.func60 rfl (Nat.le_of_ble_eq_true rfl) fun K hK => ?_; simp
  repeat (first | (refine T_seqk fun K hK => ?_) | (refine T_reg tOK rfl ?_; simp [e]) | (refine T_ret ?_; try simp) | (refine T_skip ?_; try simp) | (refine T_blockk fun K hK => ?_) | (with_reducible apply_assumption -exfalso -symm) | (rw [afterRF_ret]; simp [e]) | (refine T_exit ?_; try simp) | (refine T_cond_t ?_ ?_; · (simp; done)) | (refine T_cond_f ?_ ?_; · (simp; done)) | (rintro _ _ (_ | _) hz9 <;> first | (simp; done) | (simp at hz9; done)) | (refine And.intro ?_ ?_) | (simp only [Post.block_ret, Post.block_exit, Post.block_normal, Post.block_pan, Post.seq_ret, Post.seq_exit, Post.seq_normal, Post.seq_pan]; try simp [e]) | (refine T_loop (TL_round ?_)) | (refine TL_round ?_) | (refine C_contains ?_; simp [e]))
 ·have e' : s.toList.isEmpty = false := by simp [e]
  clear e
  cases l : decide ((s.size : Int) ≤ 16) with
  | true =>
   have h : R (.ret (.bool (!decide (0 ≤ Lib.idxFunc oddR true s)))) σ := by simpa only [e', l, Bool.not_false, Bool.true_and] using h
   refine C_bodyk tOK Tryz.func60 rfl (Nat.le_of_ble_eq_true rfl) fun K hK => ?_; simp
   repeat (first | (refine T_seqk fun K hK => ?_) | (refine T_reg tOK rfl ?_; simp [e',l]) | (refine T_ret ?_; try simp) | (refine T_skip ?_; try simp) | (refine T_blockk fun K hK => ?_) | (with_reducible apply_assumption -exfalso -symm) | (rw [afterRF_ret]; simp [e',l]) | (refine T_exit ?_; try simp) | (refine T_cond_t ?_ ?_; · (simp; done)) | (refine T_cond_f ?_ ?_; · (simp; done)) | (rintro _ _ (_ | _) hz9 <;> first | (simp; done) | (simp at hz9; done)) | (refine And.intro ?_ ?_) | (simp only [Post.block_ret, Post.block_exit, Post.block_normal, Post.block_pan, Post.seq_ret, Post.seq_exit, Post.seq_normal, Post.seq_pan]; try simp [e',l]) | (refine T_loop (TL_round ?_)) | (refine TL_round ?_) | (refine C_contains ?_; simp [e',l]))
  | false =>
   have h : R (.ret (.bool false)) σ := by simpa only [e', l, Bool.not_false, Bool.true_and, Bool.false_and] using h
   refine C_bodyk tOK Tryz.func60 rfl (Nat.le_of_ble_eq_true rfl) fun K hK => ?_; simp
   repeat (first | (refine T_seqk fun K hK => ?_) | (refine T_reg tOK rfl ?_; simp [e',l]) | (refine T_ret ?_; try simp) | (refine T_skip ?_; try simp) | (refine T_blockk fun K hK => ?_) | (with_reducible apply_assumption -exfalso -symm) | (rw [afterRF_ret]; simp [e',l]) | (refine T_exit ?_; try simp) | (refine T_cond_t ?_ ?_; · (simp; done)) | (refine T_cond_f ?_ ?_; · (simp; done)) | (rintro _ _ (_ | _) hz9 <;> first | (simp; done) | (simp at hz9; done)) | (refine And.intro ?_ ?_) | (simp only [Post.block_ret, Post.block_exit, Post.block_normal, Post.block_pan, Post.seq_ret, Post.seq_exit, Post.seq_normal, Post.seq_pan]; try simp [e',l]) | (refine T_loop (TL_round ?_)) | (refine TL_round ?_) | (refine C_contains ?_; simp [e',l]))
theorem C_fail (h : R (.ret (.tup [])) (dkS { d with fail := max n 0 })) : C tE 24 [.ptr 0 0 0 [], i64 n] (dkS d) R := by
 refine C_bodyk tOK Tryz.func24 rfl (Nat.le_of_ble_eq_true rfl) fun K hK => ?_; simp
 repeat (first | (refine T_seqk fun K hK => ?_) | (refine T_reg tOK rfl ?_; simp) | (refine T_ret ?_; try simp) | (refine T_skip ?_; try simp) | (refine T_blockk fun K hK => ?_) | (with_reducible apply_assumption -exfalso -symm) | (rw [afterRF_ret]; simp) | (refine T_exit ?_; try simp) | (refine T_cond_t ?_ ?_; · (simp; done)) | (refine T_cond_f ?_ ?_; · (simp; done)) | (rintro _ _ (_ | _) hz9 <;> first | (simp; done) | (simp at hz9; done)) | (refine And.intro ?_ ?_) | (simp only [Post.block_ret, Post.block_exit, Post.block_normal, Post.block_pan, Post.seq_ret, Post.seq_exit, Post.seq_normal, Post.seq_pan]; try simp) | (refine T_loop (TL_round ?_)) | (refine TL_round ?_))
end
theorem encFs_all (p : Nat → Bool) (l : List (List UInt8 × Fl)) : ∀ a ∈ encFs l, allB p a.2 = true := fun a ha => by
 obtain ⟨x, _, rfl⟩ := List.mem_map.1 ha
 simp [encF, u8s, allB, allL]
def names (d : Dk) : List (List UInt8) := (d.files.map (·.1)).mergeSort fun x y => decide (x ≤ y)
section
variable {R : Re → Store → Prop} {d : Dk} {n : Int} {s : ByteArray}
theorem C_list (hl : d.files.length < 1000000000) (h : R (.ret (.lit (strs (names d)))) (dkS d)) : C tE 16 [.ptr 0 0 0 []] (dkS d) R := by
 have hn : ((encFs d.files).map fun p => strOf p.1) = d.files.map (·.1) := by simp [encFs, strOf, Function.comp_def]
 refine C_new tOK ?_
 refine C_bodyk tOK Tryz.func16 rfl (Nat.le_of_ble_eq_true rfl) fun K hK => ?_; simp
 repeat (first | (refine T_seqk fun K hK => ?_) | (refine T_reg tOK rfl ?_; simp) | (refine T_ret ?_; try simp) | (refine T_skip ?_; try simp) | (refine T_blockk fun K hK => ?_) | (with_reducible apply_assumption -exfalso -symm) | (rw [afterRF_ret]; simp) | (refine T_exit ?_; try simp) | (refine T_cond_t ?_ ?_; · (simp; done)) | (refine T_cond_f ?_ ?_; · (simp; done)) | (rintro _ _ (_ | _) hz9 <;> first | (simp; done) | (simp at hz9; done)) | (refine And.intro ?_ ?_) | (simp only [Post.block_ret, Post.block_exit, Post.block_normal, Post.block_pan, Post.seq_ret, Post.seq_exit, Post.seq_normal, Post.seq_pan]; try simp) | (refine T_loop (TL_round ?_)) | (refine TL_round ?_) | (refine C_bodyk tOK Tryz.func50 rfl (Nat.le_of_ble_eq_true rfl) fun K hK => ?_; simp))
 refine C_sorted (i := 2) (b := 1) (T := 52) (es := encFs d.files) rfl rfl (by simpa [encFs] using hl) ?_
 rw [hn]
 repeat (first | (refine T_seqk fun K hK => ?_) | (refine T_reg tOK rfl ?_; simp) | (refine T_ret ?_; try simp) | (refine T_skip ?_; try simp) | (refine T_blockk fun K hK => ?_) | (with_reducible apply_assumption -exfalso -symm) | (rw [afterRF_ret]; simp) | (refine T_exit ?_; try simp) | (refine T_cond_t ?_ ?_; · (simp; done)) | (refine T_cond_f ?_ ?_; · (simp; done)) | (rintro _ _ (_ | _) hz9 <;> first | (simp; done) | (simp at hz9; done)) | (refine And.intro ?_ ?_) | (simp only [Post.block_ret, Post.block_exit, Post.block_normal, Post.block_pan, Post.seq_ret, Post.seq_exit, Post.seq_normal, Post.seq_pan]; try simp) | (refine T_loop (TL_round ?_)) | (refine TL_round ?_))
 ·exact .inl rfl
 ·simpa [frzT, frzN, names] using h
end
def dget (n : List UInt8) (l : List (List UInt8 × Fl)) : Option Fl := (l.find? fun p => p.1 == n).map (·.2)
theorem mget_enc (n : List UInt8) : ∀ l, mget (.string n) (encFs l) = (dget n l).map encF
 | [] => rfl
 | p :: l => by
  have ih := mget_enc n l
  unfold mget dget encFs at *
  simp only [List.map_cons, List.find?_cons, Lit.sameKey] at *
  cases h : p.1 == n
  ·simpa [h] using ih
  ·simp [h]
section
variable {R : Re → Store → Prop} {σ : Store} {d : Dk} {n : Int} {s : ByteArray}
theorem C_clone0 (h : R (.ret (u8s [])) σ) : C tE 74 [.nils] σ R := by
 refine C_pure tOK rfl ?_
 refine C_bodyk tOK Tryz.func74 rfl (Nat.le_of_ble_eq_true rfl) fun K hK => ?_; simp
 repeat (first | (refine T_seqk fun K hK => ?_) | (refine T_reg tOK rfl ?_; simp) | (refine T_ret ?_; try simp) | (refine T_skip ?_; try simp) | (refine T_blockk fun K hK => ?_) | (with_reducible apply_assumption -exfalso -symm) | (rw [afterRF_ret]; simp) | (refine T_exit ?_; try simp) | (refine T_cond_t ?_ ?_; · (simp; done)) | (refine T_cond_f ?_ ?_; · (simp; done)) | (rintro _ _ (_ | _) hz9 <;> first | (simp; done) | (simp at hz9; done)) | (refine And.intro ?_ ?_) | (simp only [Post.block_ret, Post.block_exit, Post.block_normal, Post.block_pan, Post.seq_ret, Post.seq_exit, Post.seq_normal, Post.seq_pan]; try simp) | (refine T_loop (TL_round ?_)) | (refine TL_round ?_))
theorem C_read (hs : s.size ≤ maxLen) (hb : ∀ f, dget s.data.toList d.files = some f → f.b.length < 1000000000)
  (h : R (.ret (.tup [u8s ((dget s.data.toList d.files).elim [] (·.b)), .bool (dget s.data.toList d.files).isSome])) (dkS d)) : C tE 39 [.ptr 0 0 0 [], .str s] (dkS d) R := by
 have hm := mget_enc s.data.toList d.files
 refine C_new tOK ?_
 cases hg : dget s.data.toList d.files with
 | none =>
  rw [hg] at hm h
  refine C_bodyk tOK Tryz.func39 rfl (Nat.le_of_ble_eq_true rfl) fun K hK => ?_; simp
  repeat (first | (refine T_seqk fun K hK => ?_) | (refine T_reg tOK rfl ?_; simp [hs,hm]) | (refine T_ret ?_; try simp) | (refine T_skip ?_; try simp) | (refine T_blockk fun K hK => ?_) | (with_reducible apply_assumption -exfalso -symm) | (rw [afterRF_ret]; simp [hs,hm]) | (refine T_exit ?_; try simp) | (refine T_cond_t ?_ ?_; · (simp; done)) | (refine T_cond_f ?_ ?_; · (simp; done)) | (rintro _ _ (_ | _) hz9 <;> first | (simp; done) | (simp at hz9; done)) | (refine And.intro ?_ ?_) | (simp only [Post.block_ret, Post.block_exit, Post.block_normal, Post.block_pan, Post.seq_ret, Post.seq_exit, Post.seq_normal, Post.seq_pan]; try simp [hs,hm]) | (refine T_loop (TL_round ?_)) | (refine TL_round ?_) | (refine C_clone0 ?_; simp [hs,hm]))
  ·exact .inl rfl
  ·simpa [frzT, frzN] using h
 | some f =>
  have hb := hb f hg
  rw [hg] at hm h
  refine C_bodyk tOK Tryz.func39 rfl (Nat.le_of_ble_eq_true rfl) fun K hK => ?_; simp
  repeat (first | (refine T_seqk fun K hK => ?_) | (refine T_reg tOK rfl ?_; simp [hs,hm,encF]) | (refine T_ret ?_; try simp) | (refine T_skip ?_; try simp) | (refine T_blockk fun K hK => ?_) | (with_reducible apply_assumption -exfalso -symm) | (rw [afterRF_ret]; simp [hs,hm,encF]) | (refine T_exit ?_; try simp) | (refine T_cond_t ?_ ?_; · (simp; done)) | (refine T_cond_f ?_ ?_; · (simp; done)) | (rintro _ _ (_ | _) hz9 <;> first | (simp; done) | (simp at hz9; done)) | (refine And.intro ?_ ?_) | (simp only [Post.block_ret, Post.block_exit, Post.block_normal, Post.block_pan, Post.seq_ret, Post.seq_exit, Post.seq_normal, Post.seq_pan]; try simp [hs,hm,encF]) | (refine T_loop (TL_round ?_)) | (refine TL_round ?_))
  refine C_clone hb ?_
  repeat (first | (refine T_seqk fun K hK => ?_) | (refine T_reg tOK rfl ?_; simp) | (refine T_ret ?_; try simp) | (refine T_skip ?_; try simp) | (refine T_blockk fun K hK => ?_) | (with_reducible apply_assumption -exfalso -symm) | (rw [afterRF_ret]; simp) | (refine T_exit ?_; try simp) | (refine T_cond_t ?_ ?_; · (simp; done)) | (refine T_cond_f ?_ ?_; · (simp; done)) | (rintro _ _ (_ | _) hz9 <;> first | (simp; done) | (simp at hz9; done)) | (refine And.intro ?_ ?_) | (simp only [Post.block_ret, Post.block_exit, Post.block_normal, Post.block_pan, Post.seq_ret, Post.seq_exit, Post.seq_normal, Post.seq_pan]; try simp) | (refine T_loop (TL_round ?_)) | (refine TL_round ?_))
  ·exact .inl rfl
  ·simpa [frzT, frzN] using h
theorem C_synced (hs : s.size ≤ maxLen)
  (h : R (.ret (i64 ((dget s.data.toList d.files).elim 0 (·.last)))) (dkS d)) : C tE 20 [.ptr 0 0 0 [], .str s] (dkS d) R := by
 have hm := mget_enc s.data.toList d.files
 refine C_new tOK ?_
 cases hg : dget s.data.toList d.files with
 | none =>
  rw [hg] at hm h
  refine C_bodyk tOK Tryz.func20 rfl (Nat.le_of_ble_eq_true rfl) fun K hK => ?_; simp
  repeat (first | (refine T_seqk fun K hK => ?_) | (refine T_reg tOK rfl ?_; simp [hs,hm]) | (refine T_ret ?_; try simp) | (refine T_skip ?_; try simp) | (refine T_blockk fun K hK => ?_) | (with_reducible apply_assumption -exfalso -symm) | (rw [afterRF_ret]; simp [hs,hm]) | (refine T_exit ?_; try simp) | (refine T_cond_t ?_ ?_; · (simp; done)) | (refine T_cond_f ?_ ?_; · (simp; done)) | (rintro _ _ (_ | _) hz9 <;> first | (simp; done) | (simp at hz9; done)) | (refine And.intro ?_ ?_) | (simp only [Post.block_ret, Post.block_exit, Post.block_normal, Post.block_pan, Post.seq_ret, Post.seq_exit, Post.seq_normal, Post.seq_pan]; try simp [hs,hm]) | (refine T_loop (TL_round ?_)) | (refine TL_round ?_))
  ·exact .inl rfl
  ·simpa [frzT, frzN] using h
 | some f =>
  rw [hg] at hm h
  refine C_bodyk tOK Tryz.func20 rfl (Nat.le_of_ble_eq_true rfl) fun K hK => ?_; simp
  repeat (first | (refine T_seqk fun K hK => ?_) | (refine T_reg tOK rfl ?_; simp [hs,hm,encF]) | (refine T_ret ?_; try simp) | (refine T_skip ?_; try simp) | (refine T_blockk fun K hK => ?_) | (with_reducible apply_assumption -exfalso -symm) | (rw [afterRF_ret]; simp [hs,hm,encF]) | (refine T_exit ?_; try simp) | (refine T_cond_t ?_ ?_; · (simp; done)) | (refine T_cond_f ?_ ?_; · (simp; done)) | (rintro _ _ (_ | _) hz9 <;> first | (simp; done) | (simp at hz9; done)) | (refine And.intro ?_ ?_) | (simp only [Post.block_ret, Post.block_exit, Post.block_normal, Post.block_pan, Post.seq_ret, Post.seq_exit, Post.seq_normal, Post.seq_pan]; try simp [hs,hm,encF]) | (refine T_loop (TL_round ?_)) | (refine TL_round ?_))
  ·exact .inl rfl
  ·simpa [frzT, frzN] using h
end
end Go.Proofs.YtdplbgfokoajjaaGreat
end
section
set_option linter.unusedVariables false
set_option linter.unusedSimpArgs false
set_option maxRecDepth 20000
namespace Go.Proofs.YtdplbgfokoajjaaGreat
open Go
attribute [local simp] RF_nil RF_cons afterRF_ret nilCmp sop sGuard isCall sCallee Fr.eval Fr.get Fr.put ofConst sLoad sStore sBuiltin Fr.args bodyQ sRes oneOf sBin sInt sUn
attribute [local simp] RD_nil RD_cons noConf clear accAdd Tab.pr Tab.slot foot wid idOf refId Op.operands Call.operands sFieldAddr sNilCheck sLookup keyLit sMapSet sMapDel sLen Store.at Store.new getP setP typeAt fits evalParts sBuildSlice sFill sList sApp sAppend frzRe frz pureB pureL
attribute [local simp] dkB dkS u8s
def tot (fs : List (List UInt8 × Fl)) (g : List UInt8 → Bool) : Nat := ((fs.filter fun p => g p.1).map fun p => p.2.b.length).sum
def used (fs : List (List UInt8 × Fl)) : Nat := (fs.map fun p => p.2.b.length).sum
theorem tot_cons (p : List UInt8 × Fl) (fs : List (List UInt8 × Fl)) (g : List UInt8 → Bool) : tot (p :: fs) g = (if g p.1 then p.2.b.length else 0) + tot fs g := by
 unfold tot
 simp only [List.filter_cons]
 split <;> simp
theorem tot_le (g : List UInt8 → Bool) : ∀ fs, tot fs g ≤ used fs
 | [] => by simp [tot, used]
 | p :: fs => by
  have := tot_le g fs
  rw [tot_cons]
  simp only [used, List.map_cons, List.sum_cons] at this ⊢
  split <;> omega
theorem tot_all {g : List UInt8 → Bool} (h : ∀ n, g n = true) (fs : List (List UInt8 × Fl)) : tot fs g = used fs := by
 unfold tot used
 rw [List.filter_eq_self.2 fun p _ => h p.1]
theorem tot_none {g : List UInt8 → Bool} (fs : List (List UInt8 × Fl)) (h : ∀ p ∈ fs, g p.1 = false) : tot fs g = 0 := by
 unfold tot
 rw [List.filter_eq_nil_iff.2 fun p hp => by simp [h p hp]]; rfl
theorem tot_congr {g g' : List UInt8 → Bool} : ∀ fs : List (List UInt8 × Fl), (∀ p ∈ fs, g p.1 = g' p.1) → tot fs g = tot fs g'
 | [], _ => rfl
 | p :: fs, h => by rw [tot_cons, tot_cons, h p (by simp), tot_congr fs fun q hq => h q (by simp [hq])]
theorem tot_one {n : List UInt8} {f : Fl} {g : List UInt8 → Bool} (hg : g n = false) : ∀ fs : List (List UInt8 × Fl), fs.Pairwise (fun p q => p.1 ≠ q.1) → dget n fs = some f → tot fs (fun m => g m || m == n) = tot fs g + f.b.length
 | [], _, h => by simp [dget] at h
 | p :: fs, hp, h => by
  obtain ⟨h1, h2⟩ := List.pairwise_cons.1 hp
  rw [tot_cons, tot_cons]
  by_cases e : p.1 = n
  ·have hf : p.2 = f := by simpa [dget, e] using h
   subst e; subst hf
   have := tot_congr (g := fun m => g m || m == p.1) (g' := g) fs fun q hq => by
    have := h1 q hq
    simp [Ne.symm this]
   rw [this]
   simp [hg]; omega
  ·have hd : dget n fs = some f := by simpa [dget, List.find?_cons, e] using h
   have := tot_one hg fs h2 hd
   rw [this]
   simp [e]; omega
structure UsedSt (cx1 : Cx) (r b n : Nat) (ds : List (Lit × DataW Value)) (fs : List (List UInt8 × Fl)) (dl : List Deferred) (left : Lit → Bool) (cnt : Nat) (a : Act) (w : World) : Prop where
 sz : a.tmps.size = 21
 it : a.tmps[10]? = some (.pointer (some ⟨r, 0, none⟩))
 acc : a.tmps[3]? = some (.int .i64 (tot fs fun n => !left (.string n)))
 dl : a.defers = dl
 rg : w.ranges tE.P 9 asHeld b r n (.map ds) left cnt
 bl : RowKit.Below cx1.w.heap.size cx1.w w
 nw : cx1.w.heap.size ≤ r
theorem getD_of {a : Array Value} {t : Nat} {v : Value} (h : a[t]? = some v) : a.getD t undef = v := by simp [Array.getD_eq_getD_getElem?, h]
section
variable {R : Re → Store → Prop} {d : Dk}
set_option maxHeartbeats 1000000 in
theorem C_used (hl : used d.files < 1000000000) (h : R (.ret (i64 (used d.files))) (dkS d)) : C tE 18 [.ptr 0 0 0 []] (dkS d) R := by
 refine C_bodyk tOK Tryz.func18 rfl (Nat.le_of_ble_eq_true rfl) fun K hK => ?_; simp
 refine T_seqk fun K1 hK1 => ?_
 refine T_reg tOK rfl ?_
 simp
 apply hK1
 refine T_seqk fun K2 hK2 => ?_
 refine T_reg tOK rfl ?_
 simp
 apply hK2
 refine T_seqk fun K3 hK3 => ?_
 have hfin : ∀ fr, Fr.get fr 3 = some (i64 (used d.files)) → K3 fr (dkS d) := fun fr hfr => by
  apply hK3
  repeat (first | (refine T_seqk fun K hK => ?_) | (refine T_reg tOK rfl ?_; simp [hfr]) | (refine T_ret ?_; try simp) | (refine T_skip ?_; try simp) | (refine T_blockk fun K hK => ?_) | (with_reducible apply_assumption -exfalso -symm) | (rw [afterRF_ret]; simp [hfr]) | (refine T_exit ?_; try simp) | (refine T_cond_t ?_ ?_; · (simp; done)) | (refine T_cond_f ?_ ?_; · (simp; done)) | (rintro _ _ (_ | _) hz9 <;> first | (simp; done) | (simp at hz9; done)) | (refine And.intro ?_ ?_) | (simp only [Post.block_ret, Post.block_exit, Post.block_normal, Post.block_pan, Post.seq_ret, Post.seq_exit, Post.seq_normal, Post.seq_pan]; try simp [hfr]) | (refine T_loop (TL_round ?_)) | (refine TL_round ?_))
 clear hK3 h
 intro cx a ht hn hf
 refine wr_seq ?_
 refine wr_region_list ?_
 refine wpl_split (K := fun fr' σ' => σ' = dkS d ∧ Fr.get fr' 9 = some (.map 1) ∧ Fr.get fr' 3 = some (i64 0)) tOK 4 _ rfl ht hn hf (by simp) ?_
 rintro fr' σ' cx1 a1 ⟨rfl, h9, h3⟩ hn1 hf1 hd1 hs1
 show wpl _ _ _ [_] _ _
 obtain ⟨m, ds, k1, k2, k3, k4, hown, hml⟩ := hn1.mp (b := 1) rfl (hf1.2 9 _ h9).2
 have hstr : tE.P.underlying 9 = some .string := tOK.td 9 rfl
 have hkd := Maps.string_keyed hstr
 have hund : tE.P.underlying 52 = some (.map 9 72) := (tOK.td 52 rfl).1
 refine wpl_range_own rfl (.tmp 9) 52 rfl 9 72 hkd hund asHeld m.blk ds.length (.map ds) k4 hown ?_
 intro w1 hrg hg hsz
 refine wpl_nil ?_
 show wpr _ (Code.block 0 _) _ _ _
 refine wr_block (HeadR.loop ?_)
 have hpw : (d.files : List (List UInt8 × Fl)).Pairwise (fun p q => p.1 ≠ q.1) := by
  obtain ⟨es, h1, h2, _⟩ := hown.entries hkd
  cases h1
  have hk := hml.keys
  have : (ds.map (·.1)).Pairwise (· ≠ ·) := List.pairwise_map.2 h2
  rw [hk] at this
  have := List.pairwise_map.1 (List.pairwise_map.1 this)
  exact this.imp fun h e => h (by simp [e])
 have hsz1 : a1.tmps.size = 21 := hf1.1
 have init : UsedSt cx1 cx1.w.heap.size m.blk ds.length ds d.files a1.defers (Maps.has (.map ds)) (Maps.size (.map ds)) (a1.put (some 10) (.pointer (some ⟨cx1.w.heap.size, 0, none⟩))) w1 := by
  refine ⟨by simp [Act.put, hsz1], by simp [Act.put, hsz1], ?_, rfl, hrg, ⟨hg.os, hg.tape, hg.output, hg.size, fun k hk => hg.block k hk (by simp)⟩, Nat.le_refl _⟩
  have h0 : tot d.files (fun n => !Maps.has (.map ds) (.string n)) = 0 := tot_none _ fun p hp => by
   rcases hml.get (.string p.1) with ⟨_, _, _, _, g3, _⟩ | ⟨g1, _, _⟩
   ·simp [g3]
   ·rw [mget_enc] at g1
    simp only [Option.map_eq_none_iff, dget, List.find?_eq_none] at g1
    have := g1 p hp
    simp at this
  rw [h0]
  have := (hf1.2 3 _ h3).2.int_inv
  have h3' : a1.tmps[3]? = some (.int .i64 0) := by
   rw [Array.getElem?_eq_getElem (by omega)]
   rw [← this, Array.getD_eq_getD_getElem?, Array.getElem?_eq_getElem (by omega)]; rfl
  simp [Act.put, h3']
 refine (?key : ∀ cnt left a2 w2, UsedSt cx1 cx1.w.heap.size m.blk ds.length ds d.files a1.defers left cnt a2 w2 → HeadR _ _ _ a2 w2) _ _ _ _ init
 intro cnt
 induction cnt using Nat.strongRecOn with
 | ind cnt ih =>
 intro left a2 w2 st
 refine HeadR.round (wr_seq (wr_region_list ?_))
 have hit : a2.eval (.tmp 10) = .pointer (some ⟨cx1.w.heap.size, 0, none⟩) := getD_of st.it
 refine wpl_next_ranges (α := Value) (β := Value) rfl (.tmp 10) rfl 9 hkd asHeld id id (fun key kl _ => ⟨key, rfl⟩) (fun v y _ => ⟨v, rfl⟩) m.blk cx1.w.heap.size ds.length (.map ds) left cnt hit st.rg ?_ ?_
 ·intro h0 hleft
  refine wpl_value rfl (val := .bool false) (w' := w2) (by simp [execOp, Act.eval, Act.put, st.sz, Result.andThen, Instr.extract]) (wpl_nil ?_)
  simp only [Act.put, id_eq]
  show wpr _ _ _ _ _
  refine wr_seq (wr_cond_false (by simp [Act.eval, st.sz]) (wr_exit ?_))
  simp only [Exit.then, Exit.inBlock, if_true]
  have hacc : tot d.files (fun n => !left (.string n)) = used d.files := tot_all (fun n => by simp [hleft]) _
  have ha := st.acc
  rw [hacc] at ha
  refine ⟨.normal, [(3, i64 (used d.files))], dkS d, cx1.grown w2, rfl, hfin _ rfl, trivial, (hn1.grown st.bl).1, ⟨by simp [st.sz], fun t x ht => ?_⟩, st.dl.trans hd1, hs1.transB ((hn1.grown st.bl).2.ofBelow (hs1.topB ▸ ht))⟩
  simp only [Fr.get] at ht
  split at ht
  ·rename_i e; subst e
   simp only [Option.some.injEq] at ht; subst ht
   refine ⟨by omega, ?_⟩
   have : ((a2.tmps.setIfInBounds 11 (.tuple #[.bool false])).setIfInBounds 12 (.bool false)).getD 3 undef = .int .i64 (used d.files) := getD_of (by simp [ha])
   rw [this]
   exact V_one (.int _ _) (by simp)
  ·simp at ht
 ·intro key v kl y w3 cnt' hkey hlk hR hat hrg3 hlt hg3 hsz3 hen
  simp only [id] at hkey hR hen
  obtain ⟨x, g1, g2⟩ : ∃ x, mget kl (encFs d.files) = some x ∧ V tE cx1 x v := by
   simp only [asHeld, Option.some.injEq] at hR; subst hR
   rcases hml.get kl with ⟨x, v', g1, g2, g3, g4⟩ | ⟨g1, g3, g4⟩
   ·have := (hat .nil).symm.trans (g4 .nil)
    simp only [DataW.held.injEq] at this; subst this
    exact ⟨x, g1, g2⟩
   ·have := (hat .nil).symm.trans (g4 .nil)
    simp at this
  obtain ⟨n, rfl⟩ : ∃ n, kl = .string n := by
   unfold mget at g1
   simp only [Option.map_eq_some_iff] at g1
   obtain ⟨p, hp, _⟩ := g1
   have h1 := List.find?_some hp
   have h2 := List.mem_of_find?_eq_some hp
   obtain ⟨q, _, rfl⟩ := List.mem_map.1 h2
   cases kl <;> simp [Lit.sameKey] at h1 ⊢
  rw [mget_enc] at g1
  simp only [Option.map_eq_some_iff] at g1
  obtain ⟨f, hg, rfl⟩ := g1
  have hstep : tot d.files (fun m => !(left (.string m) && !(Lit.string m).sameKey (.string n))) = tot d.files (fun n => !left (.string n)) + f.b.length := by
   rw [← tot_one (g := fun m => !left (.string m)) (by simp [hlk]) d.files hpw hg]
   congr 1
   funext m
   simp [Lit.sameKey]
  have hle := tot_le (fun m => !(left (.string m) && !(Lit.string m).sameKey (.string n))) d.files
  have hb3 : RowKit.Below cx1.w.heap.size w2 w3 := ⟨hg3.os, hg3.tape, hg3.output, hg3.size, fun k hk => hg3.block k (Nat.lt_of_lt_of_le hk st.bl.size) (by simp; omega)⟩
  have hb13 := st.bl.trans hb3
  have hV : V tE (cx1.bare w3) (.tup [.undef, encF f]) (.tuple #[key, v]) :=
   VL.tup (us := #[key, v]) (VL.two (V_undef _) (g2.bare (by simp [encF]) fun k hk => hb13.block k (hn1.immI k hk))) .nil
  have hN3 : Now tE (cx1.bare w3) [] := Now.bare fun k hk => Nat.lt_of_lt_of_le (hn1.immI k hk) hb13.size
  refine wpl_value rfl (val := .bool true) (w' := w3) (by simp [execOp, Act.eval, Act.put, st.sz, Result.andThen, Instr.extract]) (wpl_nil ?_)
  simp only [Act.put, id_eq]
  show wpr _ _ _ _ _
  refine wr_seq (wr_cond_true (by simp [Act.eval, st.sz]) (wr_skip ?_))
  show wpr _ _ _ _ _
  refine wr_block (wr_seq (wr_region_list ?_))
  have hit3 : ((a2.tmps.setIfInBounds 11 (.tuple #[.bool true, key, v])).setIfInBounds 12 (.bool true)).getD 10 undef = .pointer (some ⟨cx1.w.heap.size, 0, none⟩) := getD_of (by simp [st.it])
  refine wpl_value rfl (val := .tuple #[key, v]) (w' := w3) (by simp only [execOp, Act.eval, hit3, hen, Sem.run_bind, Result.andThen_ok, Sem.run_pure]) ?_
  simp only [Act.put, id_eq]
  have hacc := st.acc
  generalize hA : (((a2.tmps.setIfInBounds 11 (.tuple #[.bool true, key, v])).setIfInBounds 12 (.bool true)).setIfInBounds 13 (.tuple #[key, v])) = tm
  have e10 : tm[10]? = some (.pointer (some ⟨cx1.w.heap.size, 0, none⟩)) := by rw [← hA]; simp [st.it]
  have e3 : tm[3]? = some (.int .i64 (tot d.files fun n => !left (.string n))) := by rw [← hA]; simp [hacc]
  have e13 : tm[13]? = some (.tuple #[key, v]) := by rw [← hA]; simp [st.sz]
  have esz : tm.size = 21 := by rw [← hA]; simp [st.sz]
  have hf3 : FR tE (cx1.bare w3) 21 [(13, .tup [.undef, encF f]), (3, i64 (tot d.files fun n => !left (.string n)))] tm := by
   refine ⟨esz, fun t x ht => ?_⟩
   simp only [Fr.get] at ht
   split at ht
   ·rename_i e; subst e
    simp only [Option.some.injEq] at ht; subst ht
    exact ⟨by omega, by rw [getD_of e13]; exact hV⟩
   ·split at ht
    ·rename_i e; subst e
     simp only [Option.some.injEq] at ht; subst ht
     exact ⟨by omega, by rw [getD_of e3]; exact V_one (.int _ _) (by simp)⟩
    ·simp at ht
  refine wpl_keeping (cx := cx1.bare w3) (z := 0) (K := fun fr' σ' => Fr.get fr' 5 = some (.ptr 0 0 0 []) ∧ Fr.get fr' 3 = some (i64 (tot d.files fun n => !left (.string n))) ∧ σ' = [some (.cells 72 0 [encF f])]) tOK 10 _ rfl (Nat.le_refl _) hN3 hf3 (by simp [encF]) ?_
  rintro fr4 σ4 cx4 a4 ⟨h5, h3', rfl⟩ hn4 hf4 hd4 hs4 ht4
  show wpr _ _ _ _ _
  refine wr_region_list ?_
  have hlen : (u8l f.b).length = f.b.length := by simp [u8l]
  refine wpl_keeping (z := 1) (K := fun fr' σ' => Fr.get fr' 3 = some (i64 (tot d.files fun m => !(left (.string m) && !(Lit.string m).sameKey (.string n))))) tOK 10 _ rfl (by rw [hs4.top]; exact Nat.zero_le _) hn4 hf4 (by
   rw [hstep]
   simp [h5, h3', encF, hlen]
   have hs4' := hstep; exact IntWalk.i64_in _ (by omega)) ?_
  rintro fr5 σ5 cx5 a5 h3'' hn5 hf5 hd5 hs5 ht5
  show HeadR _ _ _ _ _
  have hk45 : ∀ k, k < w3.heap.size → cx5.w.heap[k]? = w3.heap[k]? := fun k hk => (hs5.keeps k (hs4.F k hk)).trans (hs4.keeps k hk)
  have hsz45 : w3.heap.size ≤ cx5.w.heap.size := Nat.le_trans hs4.size hs5.size
  refine ih cnt' hlt (fun x => left x && !x.sameKey (.string n)) a5 cx5.w ⟨hf5.1, ht5.trans (ht4.trans e10), ?_, hd5.trans (hd4.trans st.dl), ?_, hb13.trans ⟨hs5.os.trans hs4.os, hs5.tape.trans hs4.tape, hs5.output.trans hs4.output, hsz45, fun k hk => hk45 k (Nat.lt_of_lt_of_le hk hb13.size)⟩, Nat.le_refl _⟩
  ·have := (hf5.2 3 _ h3'').2.int_inv
   rw [Array.getElem?_eq_getElem (by rw [hf5.1]; omega)]
   rw [← this, Array.getD_eq_getD_getElem?, Array.getElem?_eq_getElem (by rw [hf5.1]; omega)]; rfl
  ·exact hrg3.kept (row := none) ⟨hs5.os.trans hs4.os, hs5.tape.trans hs4.tape, hs5.output.trans hs4.output, hsz45, fun k hk _ => hk45 k hk⟩ (by simp) (by simp)
end
end Go.Proofs.YtdplbgfokoajjaaGreat
end
section
set_option linter.unusedVariables false
set_option linter.unusedSimpArgs false
set_option maxRecDepth 20000
namespace Go.Proofs.YtdplbgfokoajjaaGreat
open Go
attribute [local simp] RF_nil RF_cons afterRF_ret nilCmp sop sGuard isCall sCallee Fr.eval Fr.get Fr.put ofConst sLoad sStore sBuiltin Fr.args bodyQ sRes oneOf sBin sInt sUn
attribute [local simp] RD_nil RD_cons noConf clear accAdd Tab.pr Tab.slot foot wid idOf refId Op.operands Call.operands sFieldAddr sNilCheck sLookup keyLit sMapSet sMapDel sLen Store.at Store.new getP setP typeAt fits evalParts sBuildSlice sFill sList sApp sAppend frzRe frz pureB pureL
attribute [local simp] dkB dkS u8s optEval sSlice
section
variable {R : Re → Store → Prop} {σ : Store} {a b : List UInt8} {i : Nat}
theorem C_grow {n : Nat} {m : Int} (hn : n + 1 < 100000000) (hm : m = (n : Int) + 1)
  (h : R (.ret (.ref σ.length 0 0 0)) (σ ++ [some (.cells 5 0 (.int .u8 0 :: List.replicate n (.int .u8 0)))])) : C tE 86 [.nils, i64 m] σ R := by
 have k0 : IntKind.i64.wrap 0 = 0 := by decide
 have hw : IntKind.i64.wrap m = m := IntWalk.i64_in _ (by omega)
 have hn0 : decide (m < 0) = false := by rw [decide_eq_false_iff_not]; omega
 have hp : decide (0 < m) = true := by rw [decide_eq_true_eq]; omega
 have q0 : (0 : Int) ≤ m := by omega
 have q1 : m < 1073741824 := by omega
 have hc : m.toNat = n + 1 := by omega
 have q5 : 2 * (n + 1) ≤ 281474976709656 := by omega
 clear hm hn
 refine C_bodyk tOK Tryz.func86 rfl (Nat.le_of_ble_eq_true rfl) fun K hK => ?_; simp
 repeat (first | (refine T_seqk fun K hK => ?_) | (refine T_reg tOK rfl ?_; simp [k0,hw,hn0,hp,hc,List.replicate_succ,q5,q0,q1]) | (refine T_ret ?_; try simp) | (refine T_skip ?_; try simp) | (refine T_blockk fun K hK => ?_) | (with_reducible apply_assumption -exfalso -symm) | (rw [afterRF_ret]; simp [k0,hw,hn0,hp,hc,List.replicate_succ,q5,q0,q1]) | (refine T_exit ?_; try simp) | (refine T_cond_t ?_ ?_; · (simp; done)) | (refine T_cond_f ?_ ?_; · (simp; done)) | (rintro _ _ (_ | _) hz9 <;> first | (simp; done) | (simp at hz9; done)) | (refine And.intro ?_ ?_) | (simp only [Post.block_ret, Post.block_exit, Post.block_normal, Post.block_pan, Post.seq_ret, Post.seq_exit, Post.seq_normal, Post.seq_pan]; try simp [k0,hw,hn0,hp,hc,List.replicate_succ,q5,q0,q1]) | (refine T_loop (TL_round ?_)) | (refine TL_round ?_))
theorem C_concat_own (x : PV) (hx : x = u8s a ∨ (x = .nils ∧ a = [])) (hl : a.length + b.length < 100000000)
  (h : ∀ σ', σ'.take 1 = [some (.cells 32 0 [x, u8s b])] → ∀ y, frz (hide 1 σ') 6 y = some (u8s (a ++ b)) → R (.ret y) σ') :
  C tE 64 [.ref 0 0 0 2] [some (.cells 32 0 [x, u8s b])] R := by
 have hw : IntKind.i64.wrap ((a.length : Int) + b.length) = (a.length : Int) + b.length := IntWalk.i64_in _ (by omega)
 have hw0 : IntKind.i64.wrap (a.length : Int) = a.length := IntWalk.i64_in _ (by omega)
 have hn0 : decide ((a.length : Int) < 0) = false := by simp
 have hn1 : decide ((a.length : Int) + b.length < 0) = false := by simp; omega
 have k1 : IntKind.i64.wrap 1 = 1 := by decide
 have k2 : IntKind.i64.wrap 2 = 2 := by decide
 have k0 : IntKind.i64.wrap 0 = 0 := by decide
 unfold u8s u8l at h
 unfold u8s u8l
 unfold u8s u8l at hx
 rcases hx with rfl | ⟨rfl, rfl⟩
 ·cases hp : decide (0 < (a.length : Int) + b.length) with
  | true =>
   obtain ⟨t, ht⟩ : ∃ t, a.length + b.length = t + 1 := ⟨a.length + b.length - 1, by simp at hp; omega⟩
   have q2 : 2 * (a.length + b.length) ≤ 281474976709656 := by omega
   have q3 : 2 * a.length ≤ 281474976709656 := by omega
   have g1 : t + 1 < 100000000 := by omega
   have g2 : (a.length : Int) + b.length = (t : Int) + 1 := by omega
   clear ht hl
   refine C_bodyk tOK Tryz.func64 rfl (Nat.le_of_ble_eq_true rfl) fun K hK => ?_; simp
   repeat (first | (refine T_seqk fun K hK => ?_) | (refine T_reg tOK rfl ?_; simp [k0,k1,k2,hw,hw0,hn0,hn1,hp]) | (refine T_ret ?_; try simp) | (refine T_skip ?_; try simp) | (refine T_blockk fun K hK => ?_) | (with_reducible apply_assumption -exfalso -symm) | (rw [afterRF_ret]; simp [k0,k1,k2,hw,hw0,hn0,hn1,hp]) | (refine T_exit ?_; try simp) | (refine T_cond_t ?_ ?_; · (simp; done)) | (refine T_cond_f ?_ ?_; · (simp; done)) | (rintro _ _ (_ | _) hz9 <;> first | (simp; done) | (simp at hz9; done)) | (refine And.intro ?_ ?_) | (simp only [Post.block_ret, Post.block_exit, Post.block_normal, Post.block_pan, Post.seq_ret, Post.seq_exit, Post.seq_normal, Post.seq_pan]; try simp [k0,k1,k2,hw,hw0,hn0,hn1,hp]) | (refine T_loop (TL_round ?_)) | (refine TL_round ?_))
   refine C_grow (n := t) g1 g2 ?_
   repeat (first | (refine T_seqk fun K hK => ?_) | (refine T_reg tOK rfl ?_; simp [k0,k1,k2,hw,hw0,hn0,hn1,hp,q2,q3]) | (refine T_ret ?_; try simp) | (refine T_skip ?_; try simp) | (refine T_blockk fun K hK => ?_) | (with_reducible apply_assumption -exfalso -symm) | (rw [afterRF_ret]; simp [k0,k1,k2,hw,hw0,hn0,hn1,hp,q2,q3]) | (refine T_exit ?_; try simp) | (refine T_cond_t ?_ ?_; · (simp; done)) | (refine T_cond_f ?_ ?_; · (simp; done)) | (rintro _ _ (_ | _) hz9 <;> first | (simp; done) | (simp at hz9; done)) | (refine And.intro ?_ ?_) | (simp only [Post.block_ret, Post.block_exit, Post.block_normal, Post.block_pan, Post.seq_ret, Post.seq_exit, Post.seq_normal, Post.seq_pan]; try simp [k0,k1,k2,hw,hw0,hn0,hn1,hp,q2,q3]) | (refine T_loop (TL_round ?_)) | (refine TL_round ?_))
   rw [List.take_of_length_le (by simp), ← List.map_append]
   rw [frz_row (xs := u8l (a ++ b)) rfl (by simp [u8l]) (frz_u8l _ _)]
   rw [List.drop_zero, List.take_of_length_le (by simp [u8l])]; rfl
  | false =>
   have ea : a = [] := List.length_eq_zero_iff.1 (by simp at hp; omega)
   have eb : b = [] := List.length_eq_zero_iff.1 (by simp at hp; omega)
   subst ea; subst eb
   refine C_bodyk tOK Tryz.func64 rfl (Nat.le_of_ble_eq_true rfl) fun K hK => ?_; simp
   repeat (first | (refine T_seqk fun K hK => ?_) | (refine T_reg tOK rfl ?_; simp [k0,k1,k2,u8l]) | (refine T_ret ?_; try simp) | (refine T_skip ?_; try simp) | (refine T_blockk fun K hK => ?_) | (with_reducible apply_assumption -exfalso -symm) | (rw [afterRF_ret]; simp [k0,k1,k2,u8l]) | (refine T_exit ?_; try simp) | (refine T_cond_t ?_ ?_; · (simp; done)) | (refine T_cond_f ?_ ?_; · (simp; done)) | (rintro _ _ (_ | _) hz9 <;> first | (simp; done) | (simp at hz9; done)) | (refine And.intro ?_ ?_) | (simp only [Post.block_ret, Post.block_exit, Post.block_normal, Post.block_pan, Post.seq_ret, Post.seq_exit, Post.seq_normal, Post.seq_pan]; try simp [k0,k1,k2,u8l]) | (refine T_loop (TL_round ?_)) | (refine TL_round ?_) | (refine C_bodyk tOK Tryz.func86 rfl (Nat.le_of_ble_eq_true rfl) fun K hK => ?_; simp))
 ·cases b with
  | nil =>
   refine C_bodyk tOK Tryz.func64 rfl (Nat.le_of_ble_eq_true rfl) fun K hK => ?_; simp
   repeat (first | (refine T_seqk fun K hK => ?_) | (refine T_reg tOK rfl ?_; simp [k0,k1,k2,u8l]) | (refine T_ret ?_; try simp) | (refine T_skip ?_; try simp) | (refine T_blockk fun K hK => ?_) | (with_reducible apply_assumption -exfalso -symm) | (rw [afterRF_ret]; simp [k0,k1,k2,u8l]) | (refine T_exit ?_; try simp) | (refine T_cond_t ?_ ?_; · (simp; done)) | (refine T_cond_f ?_ ?_; · (simp; done)) | (rintro _ _ (_ | _) hz9 <;> first | (simp; done) | (simp at hz9; done)) | (refine And.intro ?_ ?_) | (simp only [Post.block_ret, Post.block_exit, Post.block_normal, Post.block_pan, Post.seq_ret, Post.seq_exit, Post.seq_normal, Post.seq_pan]; try simp [k0,k1,k2,u8l]) | (refine T_loop (TL_round ?_)) | (refine TL_round ?_) | (refine C_bodyk tOK Tryz.func86 rfl (Nat.le_of_ble_eq_true rfl) fun K hK => ?_; simp))
  | cons c b =>
   simp only [List.length_nil, List.length_cons, Int.natCast_zero, Int.zero_add, Nat.zero_add, Int.natCast_add, Int.natCast_one] at hw hn1 hl
   have hp : decide (0 < (b.length : Int) + 1) = true := by rw [decide_eq_true_eq]; omega
   have q2 : 2 * (b.length + 1) ≤ 281474976709656 := by omega
   have g1 : b.length + 1 < 100000000 := by omega
   clear hl
   refine C_bodyk tOK Tryz.func64 rfl (Nat.le_of_ble_eq_true rfl) fun K hK => ?_; simp
   repeat (first | (refine T_seqk fun K hK => ?_) | (refine T_reg tOK rfl ?_; simp [k0,k1,k2,hw,hn1,hp]) | (refine T_ret ?_; try simp) | (refine T_skip ?_; try simp) | (refine T_blockk fun K hK => ?_) | (with_reducible apply_assumption -exfalso -symm) | (rw [afterRF_ret]; simp [k0,k1,k2,hw,hn1,hp]) | (refine T_exit ?_; try simp) | (refine T_cond_t ?_ ?_; · (simp; done)) | (refine T_cond_f ?_ ?_; · (simp; done)) | (rintro _ _ (_ | _) hz9 <;> first | (simp; done) | (simp at hz9; done)) | (refine And.intro ?_ ?_) | (simp only [Post.block_ret, Post.block_exit, Post.block_normal, Post.block_pan, Post.seq_ret, Post.seq_exit, Post.seq_normal, Post.seq_pan]; try simp [k0,k1,k2,hw,hn1,hp]) | (refine T_loop (TL_round ?_)) | (refine TL_round ?_))
   refine C_grow (n := b.length) g1 rfl ?_
   repeat (first | (refine T_seqk fun K hK => ?_) | (refine T_reg tOK rfl ?_; simp [k0,k1,k2,hw,hn1,hp,q2]) | (refine T_ret ?_; try simp) | (refine T_skip ?_; try simp) | (refine T_blockk fun K hK => ?_) | (with_reducible apply_assumption -exfalso -symm) | (rw [afterRF_ret]; simp [k0,k1,k2,hw,hn1,hp,q2]) | (refine T_exit ?_; try simp) | (refine T_cond_t ?_ ?_; · (simp; done)) | (refine T_cond_f ?_ ?_; · (simp; done)) | (rintro _ _ (_ | _) hz9 <;> first | (simp; done) | (simp at hz9; done)) | (refine And.intro ?_ ?_) | (simp only [Post.block_ret, Post.block_exit, Post.block_normal, Post.block_pan, Post.seq_ret, Post.seq_exit, Post.seq_normal, Post.seq_pan]; try simp [k0,k1,k2,hw,hn1,hp,q2]) | (refine T_loop (TL_round ?_)) | (refine TL_round ?_))
   rw [frz_row (xs := u8l (c :: b)) rfl (by simp [u8l]) (frz_u8l _ _)]
   rw [List.drop_zero, List.take_of_length_le (by simp [u8l])]; rfl
theorem C_concat {x : PV} (hx : x = u8s a ∨ (x = .nils ∧ a = [])) (h0 : Store.at σ i = some (.cells 32 0 [x, u8s b])) (hl : a.length + b.length < 100000000) (h : R (.ret (u8s (a ++ b))) σ) :
  C tE 64 [.ref i 0 0 2] σ R := by
 have hb : ∀ p, allB p x = true := by rcases hx with rfl | ⟨rfl, rfl⟩ <;> intro p <;> simp [allB, allL]
 have hat := Store.at_some h0
 have hlt := getElem?_lt hat
 refine C_own (σ0 := [some (.cells 32 0 [x, u8s b])]) (args := [.ref 0 0 0 2]) tOK [i] (by simp) rfl (by simp [allL, allB]) (by simp [allStore, allBlk, allL, allB, hb]) (fun j hj => ?_) ?_
 ·have hj : j = 0 := by simp at hj; exact hj
  subst hj
  rcases hx with rfl | ⟨rfl, rfl⟩ <;> simp [nth, renStore, renBlk, renL, ren, hat]
 ·refine C_concat_own x hx hl fun σ' h1 y h2 => ?_
  unfold ownRe
  have h1' : σ'.take [i].length = [some (.cells 32 0 [x, u8s b])] := h1
  refine ⟨by rw [h1']; simp [allStore, allBlk, allL, allB, hb], ?_⟩
  have h2' : frz (hide [i].length σ') 6 y = some (u8s (a ++ b)) := h2
  simp only [h2', h1']
  have : putAll σ [i] (renStore (nth [i]) [some (.cells 32 0 [x, u8s b])]) = σ := by
   have e : renStore (nth [i]) [some (.cells 32 0 [x, u8s b])] = [some (.cells 32 0 [x, u8s b])] := by
    rcases hx with rfl | ⟨rfl, rfl⟩ <;> simp [renStore, renBlk, renL, ren]
   rw [e]
   simp only [putAll]
   rw [List.getElem?_eq_getElem hlt, Option.some.injEq] at hat
   rw [← hat, List.set_getElem_self]
  rw [this]; exact h
end
end Go.Proofs.YtdplbgfokoajjaaGreat
end
section
set_option linter.unusedVariables false
set_option linter.unusedSimpArgs false
set_option maxRecDepth 20000
namespace Go.Proofs.YtdplbgfokoajjaaGreat
open Go
attribute [local simp] RF_nil RF_cons afterRF_ret nilCmp sop sGuard isCall sCallee Fr.eval Fr.get Fr.put ofConst sLoad sStore sBuiltin Fr.args bodyQ sRes oneOf sBin sInt sUn
attribute [local simp] RD_nil RD_cons noConf clear accAdd Tab.pr Tab.slot foot wid idOf refId Op.operands Call.operands sFieldAddr sNilCheck sLookup keyLit sMapSet sMapDel sLen Store.at Store.new getP setP typeAt fits evalParts sBuildSlice sFill sList sApp sAppend frzRe frz pureB pureL
attribute [local simp] dkB dkS u8s
section
variable {R : Re → Store → Prop} {σ : Store} {d : Dk} {n : Int} {s : ByteArray} {g i j : Nat}
theorem C_have (hi : i < σ.length) (hj : j < σ.length) (h0 : 0 < σ.length)
    (h : R (.ret (.fn (.func 83) [] [.laddr (.ptr 0 0 0 []), .laddr (.str s), .laddr (.fn (.func g) [] [.ptr i 0 0 [], .ptr j 0 0 []])])) σ) :
    C tE 57 [.ptr 0 0 0 [], .str s, .fn (.func g) [] [.ptr i 0 0 [], .ptr j 0 0 []]] σ R := by
  refine C_new tOK ?_
  refine C_bodyk tOK Tryz.func57 rfl (Nat.le_of_ble_eq_true rfl) fun K hK => ?_; simp
  repeat (first | (refine T_seqk fun K hK => ?_) | (refine T_reg tOK rfl ?_; simp) | (refine T_ret ?_; try simp) | (refine T_skip ?_; try simp) | (refine T_blockk fun K hK => ?_) | (with_reducible apply_assumption -exfalso -symm) | (rw [afterRF_ret]; simp) | (refine T_exit ?_; try simp) | (refine T_cond_t ?_ ?_; · (simp; done)) | (refine T_cond_f ?_ ?_; · (simp; done)) | (rintro _ _ (_ | _) hz9 <;> first | (simp; done) | (simp at hz9; done)) | (refine And.intro ?_ ?_) | (simp only [Post.block_ret, Post.block_exit, Post.block_normal, Post.block_pan, Post.seq_ret, Post.seq_exit, Post.seq_normal, Post.seq_pan]; try simp) | (refine T_loop (TL_round ?_)) | (refine TL_round ?_))
  · left; simp
  · have hf : ∀ a b c : Option Blk, a = some (.cells 25 0 [.ptr 0 0 0 []]) → b = some (.cells 9 0 [.str s]) → c = some (.cells 85 0 [.fn (.func g) [] [.ptr i 0 0 [], .ptr j 0 0 []]]) →
        frzT σ.length (σ ++ [a, b, c]) (.fn (.func 83) [] [.ptr σ.length 0 0 [], .ptr (σ.length + 1) 0 0 [], .ptr (σ.length + 2) 0 0 []]) =
        some (.fn (.func 83) [] [.laddr (.ptr 0 0 0 []), .laddr (.str s), .laddr (.fn (.func g) [] [.ptr i 0 0 [], .ptr j 0 0 []])]) := by
      intro a b c ha hb hc
      subst ha; subst hb; subst hc
      simp [frzT, frzN, List.getElem?_append_right, hi, hj, h0]
      rw [if_neg (by omega), if_neg (by omega)]; rfl
    simp only [hf _ _ _ rfl rfl rfl]
    simpa using h
end
theorem at_lt {σ : Store} {b : Nat} {x : Blk} (h : Store.at σ b = some x) : b < σ.length := getElem?_lt (Store.at_some h)
def burn (d : Dk) : Dk := { d with fuse := max (d.fuse - 1) (-1) }
def ddel (n : List UInt8) (l : List (List UInt8 × Fl)) : List (List UInt8 × Fl) := l.filter fun p => !(p.1 == n)
def dins (x : List UInt8 × Fl) : List (List UInt8 × Fl) → List (List UInt8 × Fl)
 | [] => [x]
 | y :: r => if (Lit.string x.1).before (.string y.1) then x :: y :: r else y :: dins x r
def dput (n : List UInt8) (f : Fl) (l : List (List UInt8 × Fl)) : List (List UInt8 × Fl) := dins (n, f) (ddel n l)
theorem mdel_enc (n : List UInt8) (l : List (List UInt8 × Fl)) : mdel (.string n) (encFs l) = encFs (ddel n l) := by
 simp only [mdel, encFs, ddel, List.filter_map, Function.comp_def, Lit.sameKey]
theorem mins_enc (x : List UInt8 × Fl) : ∀ l, mins (.string x.1, encF x.2) (encFs l) = encFs (dins x l)
 | [] => rfl
 | y :: l => by
  have ih := mins_enc x l
  simp only [encFs, List.map_cons, mins, dins] at *
  split
  ·rfl
  ·simp only [List.map_cons, ih]
theorem mput_enc (n : List UInt8) (f : Fl) (l : List (List UInt8 × Fl)) : mput (.string n) (encF f) (encFs l) = encFs (dput n f l) := by
 unfold mput dput
 rw [mdel_enc, mins_enc (n, f)]
section
variable {R : Re → Store → Prop} {d : Dk} {s : ByteArray}
theorem C_sync_dead (hs : s.size ≤ maxLen) (hf : d.fuse = 0) (h : R (.ret (i64 42)) (dkS d)) : C tE 25 [.ptr 0 0 0 [], .str s] (dkS d) R := by
 refine C_new tOK ?_
 refine C_bodyk tOK Tryz.func25 rfl (Nat.le_of_ble_eq_true rfl) fun K hK => ?_; simp
 repeat (first | (refine T_seqk fun K hK => ?_) | (refine T_reg tOK rfl ?_; simp [hf]) | (refine T_ret ?_; try simp) | (refine T_skip ?_; try simp) | (refine T_blockk fun K hK => ?_) | (with_reducible apply_assumption -exfalso -symm) | (rw [afterRF_ret]; simp [hf]) | (refine T_exit ?_; try simp) | (refine T_cond_t ?_ ?_; · (simp; done)) | (refine T_cond_f ?_ ?_; · (simp; done)) | (rintro _ _ (_ | _) hz9 <;> first | (simp; done) | (simp at hz9; done)) | (refine And.intro ?_ ?_) | (simp only [Post.block_ret, Post.block_exit, Post.block_normal, Post.block_pan, Post.seq_ret, Post.seq_exit, Post.seq_normal, Post.seq_pan]; try simp [hf]) | (refine T_loop (TL_round ?_)) | (refine TL_round ?_) | (refine T_draw tOK tmix [([], 0), ([], 1), ([], 2), ([], 3), ([1, 2, 3], 4), ([0, 1, 2, 3, 4], 5), ([0, 1, 2, 3, 4, 5], 6)] 5 (by decide +kernel) ?_; simp [hf]))
 refine RD_call (rd := [0, 2, 3]) (fun τ hτ => C_have (at_lt ((hτ 2 (by simp)).trans rfl)) (at_lt ((hτ 3 (by simp)).trans rfl)) (at_lt ((hτ 0 (by simp)).trans rfl)) ⟨rfl, rfl⟩) ?_
 simp
 repeat (first | (refine T_seqk fun K hK => ?_) | (refine T_reg tOK rfl ?_; simp [hf]) | (refine T_ret ?_; try simp) | (refine T_skip ?_; try simp) | (refine T_blockk fun K hK => ?_) | (with_reducible apply_assumption -exfalso -symm) | (rw [afterRF_ret]; simp [hf]) | (refine T_exit ?_; try simp) | (refine T_cond_t ?_ ?_; · (simp; done)) | (refine T_cond_f ?_ ?_; · (simp; done)) | (rintro _ _ (_ | _) hz9 <;> first | (simp; done) | (simp at hz9; done)) | (refine And.intro ?_ ?_) | (simp only [Post.block_ret, Post.block_exit, Post.block_normal, Post.block_pan, Post.seq_ret, Post.seq_exit, Post.seq_normal, Post.seq_pan]; try simp [hf]) | (refine T_loop (TL_round ?_)) | (refine TL_round ?_) | (refine T_draw tOK tmix [([], 0), ([], 1), ([], 2), ([], 3), ([1, 2, 3], 4), ([0, 1, 2, 3, 4], 5), ([0, 1, 2, 3, 4, 5], 6)] 5 (by decide +kernel) ?_; simp [hf]) | (refine C_bodyk tOK Tryz.func56 rfl (Nat.le_of_ble_eq_true rfl) fun K hK => ?_; simp))
 ·left; simp [hf]
 ·simpa [frzT, frzN, hf] using h
theorem C_sync_none (hs : s.size ≤ maxLen) (hf : (d.fuse == 0) = false) (hw : IntKind.i64.wrap (d.fuse - 1) = d.fuse - 1) (hg : dget s.data.toList d.files = none) (h : R (.ret (i64 3)) (dkS (burn d))) :
  C tE 25 [.ptr 0 0 0 [], .str s] (dkS d) R := by
 have hm := mget_enc s.data.toList d.files
 rw [hg] at hm
 refine C_new tOK ?_
 refine C_bodyk tOK Tryz.func25 rfl (Nat.le_of_ble_eq_true rfl) fun K hK => ?_; simp
 repeat (first | (refine T_seqk fun K hK => ?_) | (refine T_reg tOK rfl ?_; simp [hf,hw]) | (refine T_ret ?_; try simp) | (refine T_skip ?_; try simp) | (refine T_blockk fun K hK => ?_) | (with_reducible apply_assumption -exfalso -symm) | (rw [afterRF_ret]; simp [hf,hw]) | (refine T_exit ?_; try simp) | (refine T_cond_t ?_ ?_; · (simp; done)) | (refine T_cond_f ?_ ?_; · (simp; done)) | (rintro _ _ (_ | _) hz9 <;> first | (simp; done) | (simp at hz9; done)) | (refine And.intro ?_ ?_) | (simp only [Post.block_ret, Post.block_exit, Post.block_normal, Post.block_pan, Post.seq_ret, Post.seq_exit, Post.seq_normal, Post.seq_pan]; try simp [hf,hw]) | (refine T_loop (TL_round ?_)) | (refine TL_round ?_) | (refine T_draw tOK tmix [([], 0), ([], 1), ([], 2), ([], 3), ([1, 2, 3], 4), ([0, 1, 2, 3, 4], 5), ([0, 1, 2, 3, 4, 5], 6)] 5 (by decide +kernel) ?_; simp [hf,hw]))
 refine RD_call (rd := [0, 2, 3]) (fun τ hτ => C_have (at_lt ((hτ 2 (by simp)).trans rfl)) (at_lt ((hτ 3 (by simp)).trans rfl)) (at_lt ((hτ 0 (by simp)).trans rfl)) ⟨rfl, rfl⟩) ?_
 simp
 repeat (first | (refine T_seqk fun K hK => ?_) | (refine T_reg tOK rfl ?_; simp [hf,hw,hs,hm]) | (refine T_ret ?_; try simp) | (refine T_skip ?_; try simp) | (refine T_blockk fun K hK => ?_) | (with_reducible apply_assumption -exfalso -symm) | (rw [afterRF_ret]; simp [hf,hw,hs,hm]) | (refine T_exit ?_; try simp) | (refine T_cond_t ?_ ?_; · (simp; done)) | (refine T_cond_f ?_ ?_; · (simp; done)) | (rintro _ _ (_ | _) hz9 <;> first | (simp; done) | (simp at hz9; done)) | (refine And.intro ?_ ?_) | (simp only [Post.block_ret, Post.block_exit, Post.block_normal, Post.block_pan, Post.seq_ret, Post.seq_exit, Post.seq_normal, Post.seq_pan]; try simp [hf,hw,hs,hm]) | (refine T_loop (TL_round ?_)) | (refine TL_round ?_) | (refine T_draw tOK tmix [([], 0), ([], 1), ([], 2), ([], 3), ([1, 2, 3], 4), ([0, 1, 2, 3, 4], 5), ([0, 1, 2, 3, 4, 5], 6)] 5 (by decide +kernel) ?_; simp [hf,hw,hs,hm]) | (refine T_draw tOK tmix [([], 1), ([0], 2), ([0, 1], 3), ([0, 1, 2], 4), ([], 5), ([0, 1, 2, 3, 4], 6), ([0, 1, 2, 3, 4, 5], 7), ([0, 1, 2, 3, 4, 5, 6], 8), ([0, 1, 2, 3, 4, 5, 6], 9), ([], 0), ([0, 1, 2, 3, 4, 5, 6, 7, 9], 10), ([0, 1, 2, 3, 4, 5, 6, 7, 8, 9, 10], 11)] 11 (by decide +kernel) ?_; simp [hf,hw,hs,hm]) | (refine C_bodyk tOK Tryz.func56 rfl (Nat.le_of_ble_eq_true rfl) fun K hK => ?_; simp) | (refine C_bodyk tOK Tryz.func83 rfl (Nat.le_of_ble_eq_true rfl) fun K hK => ?_; simp))
 ·right; simp [allStore, allBlk, allL, allB]
  exact fun a b => encFs_all _ _ (a, b)
 ·simpa [frzT, frzN, burn] using h
theorem C_sync_fail (hs : s.size ≤ maxLen) (hf : (d.fuse == 0) = false) (hw : IntKind.i64.wrap (d.fuse - 1) = d.fuse - 1) {f : Fl} (hg : dget s.data.toList d.files = some f) (hp : decide (0 < d.fail) = true) (hw2 : IntKind.i64.wrap (d.fail - 1) = d.fail - 1)
  (h : R (.ret (i64 41)) (dkS { burn d with fail := d.fail - 1 })) : C tE 25 [.ptr 0 0 0 [], .str s] (dkS d) R := by
 have hm := mget_enc s.data.toList d.files
 rw [hg] at hm
 refine C_new tOK ?_
 refine C_bodyk tOK Tryz.func25 rfl (Nat.le_of_ble_eq_true rfl) fun K hK => ?_; simp
 repeat (first | (refine T_seqk fun K hK => ?_) | (refine T_reg tOK rfl ?_; simp [hf,hw]) | (refine T_ret ?_; try simp) | (refine T_skip ?_; try simp) | (refine T_blockk fun K hK => ?_) | (with_reducible apply_assumption -exfalso -symm) | (rw [afterRF_ret]; simp [hf,hw]) | (refine T_exit ?_; try simp) | (refine T_cond_t ?_ ?_; · (simp; done)) | (refine T_cond_f ?_ ?_; · (simp; done)) | (rintro _ _ (_ | _) hz9 <;> first | (simp; done) | (simp at hz9; done)) | (refine And.intro ?_ ?_) | (simp only [Post.block_ret, Post.block_exit, Post.block_normal, Post.block_pan, Post.seq_ret, Post.seq_exit, Post.seq_normal, Post.seq_pan]; try simp [hf,hw]) | (refine T_loop (TL_round ?_)) | (refine TL_round ?_) | (refine T_draw tOK tmix [([], 0), ([], 1), ([], 2), ([], 3), ([1, 2, 3], 4), ([0, 1, 2, 3, 4], 5), ([0, 1, 2, 3, 4, 5], 6)] 5 (by decide +kernel) ?_; simp [hf,hw]))
 refine RD_call (rd := [0, 2, 3]) (fun τ hτ => C_have (at_lt ((hτ 2 (by simp)).trans rfl)) (at_lt ((hτ 3 (by simp)).trans rfl)) (at_lt ((hτ 0 (by simp)).trans rfl)) ⟨rfl, rfl⟩) ?_
 simp
 repeat (first | (refine T_seqk fun K hK => ?_) | (refine T_reg tOK rfl ?_; simp [hf,hw,hs,hm,encF,hp,hw2]) | (refine T_ret ?_; try simp) | (refine T_skip ?_; try simp) | (refine T_blockk fun K hK => ?_) | (with_reducible apply_assumption -exfalso -symm) | (rw [afterRF_ret]; simp [hf,hw,hs,hm,encF,hp,hw2]) | (refine T_exit ?_; try simp) | (refine T_cond_t ?_ ?_; · (simp; done)) | (refine T_cond_f ?_ ?_; · (simp; done)) | (rintro _ _ (_ | _) hz9 <;> first | (simp; done) | (simp at hz9; done)) | (refine And.intro ?_ ?_) | (simp only [Post.block_ret, Post.block_exit, Post.block_normal, Post.block_pan, Post.seq_ret, Post.seq_exit, Post.seq_normal, Post.seq_pan]; try simp [hf,hw,hs,hm,encF,hp,hw2]) | (refine T_loop (TL_round ?_)) | (refine TL_round ?_) | (refine T_draw tOK tmix [([], 0), ([], 1), ([], 2), ([], 3), ([1, 2, 3], 4), ([0, 1, 2, 3, 4], 5), ([0, 1, 2, 3, 4, 5], 6)] 5 (by decide +kernel) ?_; simp [hf,hw,hs,hm,encF,hp,hw2]) | (refine T_draw tOK tmix [([], 1), ([0], 2), ([0, 1], 3), ([0, 1, 2], 4), ([], 5), ([0, 1, 2, 3, 4], 6), ([0, 1, 2, 3, 4, 5], 7), ([0, 1, 2, 3, 4, 5, 6], 8), ([0, 1, 2, 3, 4, 5, 6], 9), ([], 0), ([0, 1, 2, 3, 4, 5, 6, 7, 9], 10), ([0, 1, 2, 3, 4, 5, 6, 7, 8, 9, 10], 11)] 11 (by decide +kernel) ?_; simp [hf,hw,hs,hm,encF,hp,hw2]) | (refine T_draw tOK tmix [([], 0), ([0], 1), ([0, 1], 2), ([0, 1, 2], 3), ([], 4), ([], 5), ([0, 1, 2, 3, 4, 5], 6)] 6 (by decide +kernel) ?_; simp [hf,hw,hs,hm,encF,hp,hw2]) | (refine C_bodyk tOK Tryz.func56 rfl (Nat.le_of_ble_eq_true rfl) fun K hK => ?_; simp) | (refine C_bodyk tOK Tryz.func83 rfl (Nat.le_of_ble_eq_true rfl) fun K hK => ?_; simp) | (refine C_bodyk tOK Tryz.func58 rfl (Nat.le_of_ble_eq_true rfl) fun K hK => ?_; simp))
 ·right; simp [allStore, allBlk, allL, allB]
  exact fun a b => encFs_all _ _ (a, b)
 ·simpa [frzT, frzN, burn] using h
theorem C_sync_ok (hs : s.size ≤ maxLen) (hl : (encFs d.files).length < 1000000) (hf : (d.fuse == 0) = false) (hw : IntKind.i64.wrap (d.fuse - 1) = d.fuse - 1) {f : Fl} (hg : dget s.data.toList d.files = some f) (hp : decide (0 < d.fail) = false)
  (h : R (.ret (i64 0)) (dkS { burn d with files := dput s.data.toList { f with last := f.b.length } d.files })) : C tE 25 [.ptr 0 0 0 [], .str s] (dkS d) R := by
 have hm := mget_enc s.data.toList d.files
 rw [hg] at hm
 have hq : mput (.string s.data.toList) (.agg 72 [.lit (u8l f.b), .int .i64 f.b.length]) (encFs d.files) = encFs (dput s.data.toList { f with last := f.b.length } d.files) := mput_enc s.data.toList { f with last := f.b.length } d.files
 have hlen : (u8l f.b).length = f.b.length := by simp [u8l]
 refine C_new tOK ?_
 refine C_bodyk tOK Tryz.func25 rfl (Nat.le_of_ble_eq_true rfl) fun K hK => ?_; simp
 repeat (first | (refine T_seqk fun K hK => ?_) | (refine T_reg tOK rfl ?_; simp [hf,hw]) | (refine T_ret ?_; try simp) | (refine T_skip ?_; try simp) | (refine T_blockk fun K hK => ?_) | (with_reducible apply_assumption -exfalso -symm) | (rw [afterRF_ret]; simp [hf,hw]) | (refine T_exit ?_; try simp) | (refine T_cond_t ?_ ?_; · (simp; done)) | (refine T_cond_f ?_ ?_; · (simp; done)) | (rintro _ _ (_ | _) hz9 <;> first | (simp; done) | (simp at hz9; done)) | (refine And.intro ?_ ?_) | (simp only [Post.block_ret, Post.block_exit, Post.block_normal, Post.block_pan, Post.seq_ret, Post.seq_exit, Post.seq_normal, Post.seq_pan]; try simp [hf,hw]) | (refine T_loop (TL_round ?_)) | (refine TL_round ?_) | (refine T_draw tOK tmix [([], 0), ([], 1), ([], 2), ([], 3), ([1, 2, 3], 4), ([0, 1, 2, 3, 4], 5), ([0, 1, 2, 3, 4, 5], 6)] 5 (by decide +kernel) ?_; simp [hf,hw]))
 refine RD_call (rd := [0, 2, 3]) (fun τ hτ => C_have (at_lt ((hτ 2 (by simp)).trans rfl)) (at_lt ((hτ 3 (by simp)).trans rfl)) (at_lt ((hτ 0 (by simp)).trans rfl)) ⟨rfl, rfl⟩) ?_
 simp
 repeat (first | (refine T_seqk fun K hK => ?_) | (refine T_reg tOK rfl ?_; simp [hf,hw,hs,hm,encF,hp,hl,hlen]) | (refine T_ret ?_; try simp) | (refine T_skip ?_; try simp) | (refine T_blockk fun K hK => ?_) | (with_reducible apply_assumption -exfalso -symm) | (rw [afterRF_ret]; simp [hf,hw,hs,hm,encF,hp,hl,hlen]) | (refine T_exit ?_; try simp) | (refine T_cond_t ?_ ?_; · (simp; done)) | (refine T_cond_f ?_ ?_; · (simp; done)) | (rintro _ _ (_ | _) hz9 <;> first | (simp; done) | (simp at hz9; done)) | (refine And.intro ?_ ?_) | (simp only [Post.block_ret, Post.block_exit, Post.block_normal, Post.block_pan, Post.seq_ret, Post.seq_exit, Post.seq_normal, Post.seq_pan]; try simp [hf,hw,hs,hm,encF,hp,hl,hlen]) | (refine T_loop (TL_round ?_)) | (refine TL_round ?_) | (refine T_draw tOK tmix [([], 0), ([], 1), ([], 2), ([], 3), ([1, 2, 3], 4), ([0, 1, 2, 3, 4], 5), ([0, 1, 2, 3, 4, 5], 6)] 5 (by decide +kernel) ?_; simp [hf,hw,hs,hm,encF,hp,hl,hlen]) | (refine T_draw tOK tmix [([], 1), ([0], 2), ([0, 1], 3), ([0, 1, 2], 4), ([], 5), ([0, 1, 2, 3, 4], 6), ([0, 1, 2, 3, 4, 5], 7), ([0, 1, 2, 3, 4, 5, 6], 8), ([0, 1, 2, 3, 4, 5, 6], 9), ([], 0), ([0, 1, 2, 3, 4, 5, 6, 7, 9], 10), ([0, 1, 2, 3, 4, 5, 6, 7, 8, 9, 10], 11)] 11 (by decide +kernel) ?_; simp [hf,hw,hs,hm,encF,hp,hl,hlen]) | (refine T_draw tOK tmix [([], 0), ([0], 1), ([0, 1], 2), ([0, 1, 2], 3), ([], 4), ([], 5), ([0, 1, 2, 3, 4, 5], 6)] 6 (by decide +kernel) ?_; simp [hf,hw,hs,hm,encF,hp,hl,hlen]) | (refine C_bodyk tOK Tryz.func56 rfl (Nat.le_of_ble_eq_true rfl) fun K hK => ?_; simp) | (refine C_bodyk tOK Tryz.func83 rfl (Nat.le_of_ble_eq_true rfl) fun K hK => ?_; simp) | (refine C_bodyk tOK Tryz.func58 rfl (Nat.le_of_ble_eq_true rfl) fun K hK => ?_; simp))
 ·right; rw [hq]; simp [allStore, allBlk, allL, allB]
  exact fun a b => encFs_all _ _ (a, b)
 ·rw [hq]; simpa [frzT, frzN, burn] using h
end
section
variable {R : Re → Store → Prop} {d : Dk} {s : ByteArray}
theorem C_delete_dead (hs : s.size ≤ maxLen) (hf : d.fuse = 0) (h : R (.ret (i64 42)) (dkS d)) : C tE 27 [.ptr 0 0 0 [], .str s] (dkS d) R := by
 refine C_new tOK ?_
 refine C_bodyk tOK Tryz.func27 rfl (Nat.le_of_ble_eq_true rfl) fun K hK => ?_; simp
 repeat (first | (refine T_seqk fun K hK => ?_) | (refine T_reg tOK rfl ?_; simp [hf]) | (refine T_ret ?_; try simp) | (refine T_skip ?_; try simp) | (refine T_blockk fun K hK => ?_) | (with_reducible apply_assumption -exfalso -symm) | (rw [afterRF_ret]; simp [hf]) | (refine T_exit ?_; try simp) | (refine T_cond_t ?_ ?_; · (simp; done)) | (refine T_cond_f ?_ ?_; · (simp; done)) | (rintro _ _ (_ | _) hz9 <;> first | (simp; done) | (simp at hz9; done)) | (refine And.intro ?_ ?_) | (simp only [Post.block_ret, Post.block_exit, Post.block_normal, Post.block_pan, Post.seq_ret, Post.seq_exit, Post.seq_normal, Post.seq_pan]; try simp [hf]) | (refine T_loop (TL_round ?_)) | (refine TL_round ?_) | (refine T_draw tOK tmix [([], 0), ([], 1), ([], 2), ([], 3), ([1, 2, 3], 4), ([0, 1, 2, 3, 4], 5), ([0, 1, 2, 3, 4, 5], 6)] 5 (by decide +kernel) ?_; simp [hf]))
 refine RD_call (rd := [0, 2, 3]) (fun τ hτ => C_have (at_lt ((hτ 2 (by simp)).trans rfl)) (at_lt ((hτ 3 (by simp)).trans rfl)) (at_lt ((hτ 0 (by simp)).trans rfl)) ⟨rfl, rfl⟩) ?_
 simp
 repeat (first | (refine T_seqk fun K hK => ?_) | (refine T_reg tOK rfl ?_; simp [hf]) | (refine T_ret ?_; try simp) | (refine T_skip ?_; try simp) | (refine T_blockk fun K hK => ?_) | (with_reducible apply_assumption -exfalso -symm) | (rw [afterRF_ret]; simp [hf]) | (refine T_exit ?_; try simp) | (refine T_cond_t ?_ ?_; · (simp; done)) | (refine T_cond_f ?_ ?_; · (simp; done)) | (rintro _ _ (_ | _) hz9 <;> first | (simp; done) | (simp at hz9; done)) | (refine And.intro ?_ ?_) | (simp only [Post.block_ret, Post.block_exit, Post.block_normal, Post.block_pan, Post.seq_ret, Post.seq_exit, Post.seq_normal, Post.seq_pan]; try simp [hf]) | (refine T_loop (TL_round ?_)) | (refine TL_round ?_) | (refine T_draw tOK tmix [([], 0), ([], 1), ([], 2), ([], 3), ([1, 2, 3], 4), ([0, 1, 2, 3, 4], 5), ([0, 1, 2, 3, 4, 5], 6)] 5 (by decide +kernel) ?_; simp [hf]) | (refine C_bodyk tOK Tryz.func56 rfl (Nat.le_of_ble_eq_true rfl) fun K hK => ?_; simp))
 ·left; simp [hf]
 ·simpa [frzT, frzN, hf] using h
theorem C_delete_none (hs : s.size ≤ maxLen) (hf : (d.fuse == 0) = false) (hw : IntKind.i64.wrap (d.fuse - 1) = d.fuse - 1) (hg : dget s.data.toList d.files = none) (h : R (.ret (i64 3)) (dkS (burn d))) :
  C tE 27 [.ptr 0 0 0 [], .str s] (dkS d) R := by
 have hm := mget_enc s.data.toList d.files
 rw [hg] at hm
 refine C_new tOK ?_
 refine C_bodyk tOK Tryz.func27 rfl (Nat.le_of_ble_eq_true rfl) fun K hK => ?_; simp
 repeat (first | (refine T_seqk fun K hK => ?_) | (refine T_reg tOK rfl ?_; simp [hf,hw]) | (refine T_ret ?_; try simp) | (refine T_skip ?_; try simp) | (refine T_blockk fun K hK => ?_) | (with_reducible apply_assumption -exfalso -symm) | (rw [afterRF_ret]; simp [hf,hw]) | (refine T_exit ?_; try simp) | (refine T_cond_t ?_ ?_; · (simp; done)) | (refine T_cond_f ?_ ?_; · (simp; done)) | (rintro _ _ (_ | _) hz9 <;> first | (simp; done) | (simp at hz9; done)) | (refine And.intro ?_ ?_) | (simp only [Post.block_ret, Post.block_exit, Post.block_normal, Post.block_pan, Post.seq_ret, Post.seq_exit, Post.seq_normal, Post.seq_pan]; try simp [hf,hw]) | (refine T_loop (TL_round ?_)) | (refine TL_round ?_) | (refine T_draw tOK tmix [([], 0), ([], 1), ([], 2), ([], 3), ([1, 2, 3], 4), ([0, 1, 2, 3, 4], 5), ([0, 1, 2, 3, 4, 5], 6)] 5 (by decide +kernel) ?_; simp [hf,hw]))
 refine RD_call (rd := [0, 2, 3]) (fun τ hτ => C_have (at_lt ((hτ 2 (by simp)).trans rfl)) (at_lt ((hτ 3 (by simp)).trans rfl)) (at_lt ((hτ 0 (by simp)).trans rfl)) ⟨rfl, rfl⟩) ?_
 simp
 repeat (first | (refine T_seqk fun K hK => ?_) | (refine T_reg tOK rfl ?_; simp [hf,hw,hs,hm]) | (refine T_ret ?_; try simp) | (refine T_skip ?_; try simp) | (refine T_blockk fun K hK => ?_) | (with_reducible apply_assumption -exfalso -symm) | (rw [afterRF_ret]; simp [hf,hw,hs,hm]) | (refine T_exit ?_; try simp) | (refine T_cond_t ?_ ?_; · (simp; done)) | (refine T_cond_f ?_ ?_; · (simp; done)) | (rintro _ _ (_ | _) hz9 <;> first | (simp; done) | (simp at hz9; done)) | (refine And.intro ?_ ?_) | (simp only [Post.block_ret, Post.block_exit, Post.block_normal, Post.block_pan, Post.seq_ret, Post.seq_exit, Post.seq_normal, Post.seq_pan]; try simp [hf,hw,hs,hm]) | (refine T_loop (TL_round ?_)) | (refine TL_round ?_) | (refine T_draw tOK tmix [([], 0), ([], 1), ([], 2), ([], 3), ([1, 2, 3], 4), ([0, 1, 2, 3, 4], 5), ([0, 1, 2, 3, 4, 5], 6)] 5 (by decide +kernel) ?_; simp [hf,hw,hs,hm]) | (refine T_draw tOK tmix [([], 1), ([0], 2), ([0, 1], 3), ([0, 1, 2], 4), ([], 5), ([0, 1, 2, 3, 4], 6), ([0, 1, 2, 3, 4, 5], 7), ([0, 1, 2, 3, 4, 5, 6], 8), ([0, 1, 2, 3, 4, 5, 6], 9), ([], 0), ([0, 1, 2, 3, 4, 5, 6, 7, 9], 10), ([0, 1, 2, 3, 4, 5, 6, 7, 8, 9, 10], 11)] 11 (by decide +kernel) ?_; simp [hf,hw,hs,hm]) | (refine C_bodyk tOK Tryz.func56 rfl (Nat.le_of_ble_eq_true rfl) fun K hK => ?_; simp) | (refine C_bodyk tOK Tryz.func83 rfl (Nat.le_of_ble_eq_true rfl) fun K hK => ?_; simp))
 ·right; simp [allStore, allBlk, allL, allB]
  exact fun a b => encFs_all _ _ (a, b)
 ·simpa [frzT, frzN, burn] using h
theorem C_delete_ok (hs : s.size ≤ maxLen) (hf : (d.fuse == 0) = false) (hw : IntKind.i64.wrap (d.fuse - 1) = d.fuse - 1) {f : Fl} (hg : dget s.data.toList d.files = some f)
  (h : R (.ret (i64 0)) (dkS { burn d with files := ddel s.data.toList d.files })) : C tE 27 [.ptr 0 0 0 [], .str s] (dkS d) R := by
 have hm := mget_enc s.data.toList d.files
 rw [hg] at hm
 have hq := mdel_enc s.data.toList d.files
 refine C_new tOK ?_
 refine C_bodyk tOK Tryz.func27 rfl (Nat.le_of_ble_eq_true rfl) fun K hK => ?_; simp
 repeat (first | (refine T_seqk fun K hK => ?_) | (refine T_reg tOK rfl ?_; simp [hf,hw]) | (refine T_ret ?_; try simp) | (refine T_skip ?_; try simp) | (refine T_blockk fun K hK => ?_) | (with_reducible apply_assumption -exfalso -symm) | (rw [afterRF_ret]; simp [hf,hw]) | (refine T_exit ?_; try simp) | (refine T_cond_t ?_ ?_; · (simp; done)) | (refine T_cond_f ?_ ?_; · (simp; done)) | (rintro _ _ (_ | _) hz9 <;> first | (simp; done) | (simp at hz9; done)) | (refine And.intro ?_ ?_) | (simp only [Post.block_ret, Post.block_exit, Post.block_normal, Post.block_pan, Post.seq_ret, Post.seq_exit, Post.seq_normal, Post.seq_pan]; try simp [hf,hw]) | (refine T_loop (TL_round ?_)) | (refine TL_round ?_) | (refine T_draw tOK tmix [([], 0), ([], 1), ([], 2), ([], 3), ([1, 2, 3], 4), ([0, 1, 2, 3, 4], 5), ([0, 1, 2, 3, 4, 5], 6)] 5 (by decide +kernel) ?_; simp [hf,hw]))
 refine RD_call (rd := [0, 2, 3]) (fun τ hτ => C_have (at_lt ((hτ 2 (by simp)).trans rfl)) (at_lt ((hτ 3 (by simp)).trans rfl)) (at_lt ((hτ 0 (by simp)).trans rfl)) ⟨rfl, rfl⟩) ?_
 simp
 repeat (first | (refine T_seqk fun K hK => ?_) | (refine T_reg tOK rfl ?_; simp [hf,hw,hs,hm,encF,hq]) | (refine T_ret ?_; try simp) | (refine T_skip ?_; try simp) | (refine T_blockk fun K hK => ?_) | (with_reducible apply_assumption -exfalso -symm) | (rw [afterRF_ret]; simp [hf,hw,hs,hm,encF,hq]) | (refine T_exit ?_; try simp) | (refine T_cond_t ?_ ?_; · (simp; done)) | (refine T_cond_f ?_ ?_; · (simp; done)) | (rintro _ _ (_ | _) hz9 <;> first | (simp; done) | (simp at hz9; done)) | (refine And.intro ?_ ?_) | (simp only [Post.block_ret, Post.block_exit, Post.block_normal, Post.block_pan, Post.seq_ret, Post.seq_exit, Post.seq_normal, Post.seq_pan]; try simp [hf,hw,hs,hm,encF,hq]) | (refine T_loop (TL_round ?_)) | (refine TL_round ?_) | (refine T_draw tOK tmix [([], 0), ([], 1), ([], 2), ([], 3), ([1, 2, 3], 4), ([0, 1, 2, 3, 4], 5), ([0, 1, 2, 3, 4, 5], 6)] 5 (by decide +kernel) ?_; simp [hf,hw,hs,hm,encF,hq]) | (refine T_draw tOK tmix [([], 1), ([0], 2), ([0, 1], 3), ([0, 1, 2], 4), ([], 5), ([0, 1, 2, 3, 4], 6), ([0, 1, 2, 3, 4, 5], 7), ([0, 1, 2, 3, 4, 5, 6], 8), ([0, 1, 2, 3, 4, 5, 6], 9), ([], 0), ([0, 1, 2, 3, 4, 5, 6, 7, 9], 10), ([0, 1, 2, 3, 4, 5, 6, 7, 8, 9, 10], 11)] 11 (by decide +kernel) ?_; simp [hf,hw,hs,hm,encF,hq]) | (refine T_draw tOK tmix [([], 0), ([0], 1), ([0, 1], 2), ([0, 1, 2], 3), ([], 4), ([0, 1, 2, 3, 4], 5)] 5 (by decide +kernel) ?_; simp [hf,hw,hs,hm,encF,hq]) | (refine C_bodyk tOK Tryz.func56 rfl (Nat.le_of_ble_eq_true rfl) fun K hK => ?_; simp) | (refine C_bodyk tOK Tryz.func83 rfl (Nat.le_of_ble_eq_true rfl) fun K hK => ?_; simp) | (refine C_bodyk tOK Tryz.func62 rfl (Nat.le_of_ble_eq_true rfl) fun K hK => ?_; simp))
 ·right; simp [allStore, allBlk, allL, allB]
  exact fun a b => encFs_all _ _ (a, b)
 ·simpa [frzT, frzN, burn] using h
end
section
variable {R : Re → Store → Prop} {d : Dk} {s t : ByteArray}
theorem C_rename_dead (hf : d.fuse = 0) (h : R (.ret (i64 42)) (dkS d)) : C tE 26 [.ptr 0 0 0 [], .str s, .str t] (dkS d) R := by
 refine C_new tOK ?_
 refine C_bodyk tOK Tryz.func26 rfl (Nat.le_of_ble_eq_true rfl) fun K hK => ?_; simp
 repeat (first | (refine T_seqk fun K hK => ?_) | (refine T_reg tOK rfl ?_; simp [hf]) | (refine T_ret ?_; try simp) | (refine T_skip ?_; try simp) | (refine T_blockk fun K hK => ?_) | (with_reducible apply_assumption -exfalso -symm) | (rw [afterRF_ret]; simp [hf]) | (refine T_exit ?_; try simp) | (refine T_cond_t ?_ ?_; · (simp; done)) | (refine T_cond_f ?_ ?_; · (simp; done)) | (rintro _ _ (_ | _) hz9 <;> first | (simp; done) | (simp at hz9; done)) | (refine And.intro ?_ ?_) | (simp only [Post.block_ret, Post.block_exit, Post.block_normal, Post.block_pan, Post.seq_ret, Post.seq_exit, Post.seq_normal, Post.seq_pan]; try simp [hf]) | (refine T_loop (TL_round ?_)) | (refine TL_round ?_) | (refine C_bodyk tOK Tryz.func56 rfl (Nat.le_of_ble_eq_true rfl) fun K hK => ?_; simp))
 ·left; simp [hf]
 ·simpa [frzT, frzN, hf] using h
theorem C_rename_arg (hf : (d.fuse == 0) = false) (hw : IntKind.i64.wrap (d.fuse - 1) = d.fuse - 1) (hn : named t = false) (h : R (.ret (i64 1)) (dkS (burn d))) : C tE 26 [.ptr 0 0 0 [], .str s, .str t] (dkS d) R := by
 refine C_new tOK ?_
 refine C_bodyk tOK Tryz.func26 rfl (Nat.le_of_ble_eq_true rfl) fun K hK => ?_; simp
 repeat (first | (refine T_seqk fun K hK => ?_) | (refine T_reg tOK rfl ?_; simp [hf,hw,hn]) | (refine T_ret ?_; try simp) | (refine T_skip ?_; try simp) | (refine T_blockk fun K hK => ?_) | (with_reducible apply_assumption -exfalso -symm) | (rw [afterRF_ret]; simp [hf,hw,hn]) | (refine T_exit ?_; try simp) | (refine T_cond_t ?_ ?_; · (simp; done)) | (refine T_cond_f ?_ ?_; · (simp; done)) | (rintro _ _ (_ | _) hz9 <;> first | (simp; done) | (simp at hz9; done)) | (refine And.intro ?_ ?_) | (simp only [Post.block_ret, Post.block_exit, Post.block_normal, Post.block_pan, Post.seq_ret, Post.seq_exit, Post.seq_normal, Post.seq_pan]; try simp [hf,hw,hn]) | (refine T_loop (TL_round ?_)) | (refine TL_round ?_) | (refine C_named ?_; simp [hf,hw,hn]) | (refine C_bodyk tOK Tryz.func56 rfl (Nat.le_of_ble_eq_true rfl) fun K hK => ?_; simp) | (refine C_bodyk tOK Tryz.func59 rfl (Nat.le_of_ble_eq_true rfl) fun K hK => ?_; simp))
 ·right; simp [allStore, allBlk, allL, allB]
  exact fun a b => encFs_all _ _ (a, b)
 ·simpa [frzT, frzN, burn] using h
theorem C_rename_none (hs : s.size ≤ maxLen) (hf : (d.fuse == 0) = false) (hw : IntKind.i64.wrap (d.fuse - 1) = d.fuse - 1) (hn : named t = true) (hg : dget s.data.toList d.files = none) (h : R (.ret (i64 3)) (dkS (burn d))) :
  C tE 26 [.ptr 0 0 0 [], .str s, .str t] (dkS d) R := by
 have hm := mget_enc s.data.toList d.files
 rw [hg] at hm
 refine C_new tOK ?_
 refine C_bodyk tOK Tryz.func26 rfl (Nat.le_of_ble_eq_true rfl) fun K hK => ?_; simp
 repeat (first | (refine T_seqk fun K hK => ?_) | (refine T_reg tOK rfl ?_; simp [hf,hw,hn,hs,hm]) | (refine T_ret ?_; try simp) | (refine T_skip ?_; try simp) | (refine T_blockk fun K hK => ?_) | (with_reducible apply_assumption -exfalso -symm) | (rw [afterRF_ret]; simp [hf,hw,hn,hs,hm]) | (refine T_exit ?_; try simp) | (refine T_cond_t ?_ ?_; · (simp; done)) | (refine T_cond_f ?_ ?_; · (simp; done)) | (rintro _ _ (_ | _) hz9 <;> first | (simp; done) | (simp at hz9; done)) | (refine And.intro ?_ ?_) | (simp only [Post.block_ret, Post.block_exit, Post.block_normal, Post.block_pan, Post.seq_ret, Post.seq_exit, Post.seq_normal, Post.seq_pan]; try simp [hf,hw,hn,hs,hm]) | (refine T_loop (TL_round ?_)) | (refine TL_round ?_) | (refine T_draw tOK tmix [([], 1), ([0], 2), ([0, 1], 3), ([0, 1, 2], 4), ([], 5), ([0, 1, 2, 3, 4], 6), ([0, 1, 2, 3, 4, 5], 7), ([0, 1, 2, 3, 4, 5, 6], 8), ([0, 1, 2, 3, 4, 5, 6], 9), ([], 0), ([0, 1, 2, 3, 4, 5, 6, 7, 9], 10), ([0, 1, 2, 3, 4, 5, 6, 7, 8, 9, 10], 11)] 11 (by decide +kernel) ?_; simp [hf,hw,hn,hs,hm]) | (refine C_named ?_; simp [hf,hw,hn,hs,hm]) | (refine C_bodyk tOK Tryz.func56 rfl (Nat.le_of_ble_eq_true rfl) fun K hK => ?_; simp) | (refine C_bodyk tOK Tryz.func59 rfl (Nat.le_of_ble_eq_true rfl) fun K hK => ?_; simp) | (refine C_bodyk tOK Tryz.func57 rfl (Nat.le_of_ble_eq_true rfl) fun K hK => ?_; simp) | (refine C_bodyk tOK Tryz.func83 rfl (Nat.le_of_ble_eq_true rfl) fun K hK => ?_; simp))
 ·right; simp [allStore, allBlk, allL, allB]
  exact fun a b => encFs_all _ _ (a, b)
 ·simpa [frzT, frzN, burn] using h
theorem C_rename_ok (hs : s.size ≤ maxLen) (ht : t.size ≤ maxLen) (hl : (encFs (ddel s.data.toList d.files)).length < 1000000) (hf : (d.fuse == 0) = false) (hw : IntKind.i64.wrap (d.fuse - 1) = d.fuse - 1) (hn : named t = true) {f : Fl} (hg : dget s.data.toList d.files = some f)
  (h : R (.ret (i64 0)) (dkS { burn d with files := dput t.data.toList f (ddel s.data.toList d.files) })) : C tE 26 [.ptr 0 0 0 [], .str s, .str t] (dkS d) R := by
 have hm := mget_enc s.data.toList d.files
 rw [hg] at hm
 have hq := mdel_enc s.data.toList d.files
 have hp : mput (.string t.data.toList) (.agg 72 [.lit (u8l f.b), i64 f.last]) (encFs (ddel s.data.toList d.files)) = encFs (dput t.data.toList f (ddel s.data.toList d.files)) := mput_enc t.data.toList f (ddel s.data.toList d.files)
 refine C_new tOK ?_
 refine C_bodyk tOK Tryz.func26 rfl (Nat.le_of_ble_eq_true rfl) fun K hK => ?_; simp
 repeat (first | (refine T_seqk fun K hK => ?_) | (refine T_reg tOK rfl ?_; simp [hf,hw,hn,hs,ht,hl,hm,hq,encF]) | (refine T_ret ?_; try simp) | (refine T_skip ?_; try simp) | (refine T_blockk fun K hK => ?_) | (with_reducible apply_assumption -exfalso -symm) | (rw [afterRF_ret]; simp [hf,hw,hn,hs,ht,hl,hm,hq,encF]) | (refine T_exit ?_; try simp) | (refine T_cond_t ?_ ?_; · (simp; done)) | (refine T_cond_f ?_ ?_; · (simp; done)) | (rintro _ _ (_ | _) hz9 <;> first | (simp; done) | (simp at hz9; done)) | (refine And.intro ?_ ?_) | (simp only [Post.block_ret, Post.block_exit, Post.block_normal, Post.block_pan, Post.seq_ret, Post.seq_exit, Post.seq_normal, Post.seq_pan]; try simp [hf,hw,hn,hs,ht,hl,hm,hq,encF]) | (refine T_loop (TL_round ?_)) | (refine TL_round ?_) | (refine T_draw tOK tmix [([], 1), ([0], 2), ([0, 1], 3), ([0, 1, 2], 4), ([], 5), ([0, 1, 2, 3, 4], 6), ([0, 1, 2, 3, 4, 5], 7), ([0, 1, 2, 3, 4, 5, 6], 8), ([0, 1, 2, 3, 4, 5, 6], 9), ([], 0), ([0, 1, 2, 3, 4, 5, 6, 7, 9], 10), ([0, 1, 2, 3, 4, 5, 6, 7, 8, 9, 10], 11)] 11 (by decide +kernel) ?_; simp [hf,hw,hn,hs,ht,hl,hm,hq,encF]) | (refine T_draw tOK tmix [([], 0), ([0], 1), ([0, 1], 2), ([0, 1, 2], 3), ([], 4), ([0, 1, 2, 3, 4], 5)] 5 (by decide +kernel) ?_; simp [hf,hw,hn,hs,ht,hl,hm,hq,encF]) | (refine T_draw tOK tmix [([], 0), ([0], 1), ([0, 1], 2), ([0, 1, 2], 3), ([], 4), ([], 5), ([0, 1, 2, 3, 4, 5], 6)] 6 (by decide +kernel) ?_; simp [hf,hw,hn,hs,ht,hl,hm,hq,encF]) | (refine C_named ?_; simp [hf,hw,hn,hs,ht,hl,hm,hq,encF]) | (refine C_bodyk tOK Tryz.func56 rfl (Nat.le_of_ble_eq_true rfl) fun K hK => ?_; simp) | (refine C_bodyk tOK Tryz.func59 rfl (Nat.le_of_ble_eq_true rfl) fun K hK => ?_; simp) | (refine C_bodyk tOK Tryz.func57 rfl (Nat.le_of_ble_eq_true rfl) fun K hK => ?_; simp) | (refine C_bodyk tOK Tryz.func83 rfl (Nat.le_of_ble_eq_true rfl) fun K hK => ?_; simp) | (refine C_bodyk tOK Tryz.func61 rfl (Nat.le_of_ble_eq_true rfl) fun K hK => ?_; simp))
 ·right; rw [hp]; simp [allStore, allBlk, allL, allB]
  exact fun a b => encFs_all _ _ (a, b)
 ·rw [hp]; simpa [frzT, frzN, burn] using h
theorem C_new_ok {σ : Store} {n : Int} (h0 : decide (n < 0) = false) (h1 : decide (1048576 < n) = false)
  (h : R (.ret (.ptr (σ.length + 1) 0 0 [])) (σ ++ [some (.mp 9 []), some (.cells 54 0 [.agg 54 [i64 n, .map σ.length, i64 (-1), i64 0]])])) : C tE 5 [i64 n] σ R := by
 refine C_bodyk tOK Tryz.func5 rfl (Nat.le_of_ble_eq_true rfl) fun K hK => ?_; simp
 repeat (first | (refine T_seqk fun K hK => ?_) | (refine T_reg tOK rfl ?_; simp [h0,h1,sBuild]) | (refine T_ret ?_; try simp) | (refine T_skip ?_; try simp) | (refine T_blockk fun K hK => ?_) | (with_reducible apply_assumption -exfalso -symm) | (rw [afterRF_ret]; simp [h0,h1,sBuild]) | (refine T_exit ?_; try simp) | (refine T_cond_t ?_ ?_; · (simp; done)) | (refine T_cond_f ?_ ?_; · (simp; done)) | (rintro _ _ (_ | _) hz9 <;> first | (simp; done) | (simp at hz9; done)) | (refine And.intro ?_ ?_) | (simp only [Post.block_ret, Post.block_exit, Post.block_normal, Post.block_pan, Post.seq_ret, Post.seq_exit, Post.seq_normal, Post.seq_pan]; try simp [h0,h1,sBuild]) | (refine T_loop (TL_round ?_)) | (refine TL_round ?_))
end
end Go.Proofs.YtdplbgfokoajjaaGreat
end
section
set_option linter.unusedVariables false
set_option linter.unusedSimpArgs false
set_option maxRecDepth 20000
namespace Go.Proofs.YtdplbgfokoajjaaGreat
open Go
def dkBj (d : Dk) (j : Nat) : Blk := .cells 54 0 [.agg 54 [i64 d.room, .map j, i64 d.fuse, i64 d.fail]]
def dkM (d : Dk) : Blk := .mp 9 (encFs d.files)
structure DkAt (σ : Store) (i j : Nat) (d : Dk) : Prop where
 ne : i ≠ j
 st : σ[i]? = some (some (dkBj d j))
 mp : σ[j]? = some (some (dkM d))
def dkPut (σ : Store) (i j : Nat) (d : Dk) : Store := (σ.set i (some (dkBj d j))).set j (some (dkM d))
theorem set_self_of {α : Type} {l : List α} {i : Nat} {x : α} (h : l[i]? = some x) : l.set i x = l := by
 have hl := getElem?_lt h
 rw [List.getElem?_eq_getElem hl, Option.some.injEq] at h
 rw [← h, List.set_getElem_self]
theorem DkAt.put_self {σ : Store} {i j : Nat} {d : Dk} (h : DkAt σ i j d) : dkPut σ i j d = σ := by
 unfold dkPut
 rw [set_self_of h.st, set_self_of h.mp]
theorem DkAt.put {σ : Store} {i j : Nat} {d : Dk} (h : DkAt σ i j d) (d' : Dk) : DkAt (dkPut σ i j d') i j d' := by
 have h1 := getElem?_lt h.st
 have h2 := getElem?_lt h.mp
 refine ⟨h.ne, ?_, ?_⟩
 ·unfold dkPut
  rw [List.getElem?_set_ne h.ne.symm, List.getElem?_set_self h1]
 ·unfold dkPut
  rw [List.getElem?_set_self (by simpa using h2)]
theorem dkPut_put (σ : Store) {i j : Nat} (hne : i ≠ j) (d d' : Dk) : dkPut (dkPut σ i j d) i j d' = dkPut σ i j d' := by
 unfold dkPut
 rw [List.set_comm _ _ hne.symm, List.set_set, List.set_set]
theorem dkPut_len (σ : Store) (i j : Nat) (d : Dk) : (dkPut σ i j d).length = σ.length := by simp [dkPut]
theorem dkPut_other (σ : Store) {i j k : Nat} (d : Dk) (h1 : i ≠ k) (h2 : j ≠ k) : (dkPut σ i j d)[k]? = σ[k]? := by
 unfold dkPut
 rw [List.getElem?_set_ne h2, List.getElem?_set_ne h1]
theorem ren_encFs (r : Nat → Nat) (l : List (List UInt8 × Fl)) : renBlk r (.mp 9 (encFs l)) = .mp 9 (encFs l) := by
 simp only [renBlk, encFs, List.map_map]
 congr 1
theorem dkS_all (d : Dk) : allStore (fun b => decide (b < 2)) (dkS d) = true := by
 simp [dkS, dkB, allStore, allBlk, allL, allB]
 exact fun a b => encFs_all _ _ (a, b)
section
variable {R : Re → Store → Prop} {σ : Store} {d d' : Dk} {i j f : Nat} {args : List PV} {v : PV}
theorem C_at (h0 : DkAt σ i j d) (hargs : allL (fun b => decide (b < 2)) args = true) (hspec : ∀ R : Re → Store → Prop, R (.ret v) (dkS d') → C tE f args (dkS d) R)
  (hv : ∀ τ, frz τ 6 v = some v) (h : R (.ret v) (dkPut σ i j d')) : C tE f (renL (nth [i, j]) args) σ R := by
 refine C_own (σ0 := dkS d) tOK [i, j] (by simp [h0.ne]) rfl hargs (dkS_all d) (fun k hk => ?_) ?_
 ·have hk : k = 0 ∨ k = 1 := by simp at hk; omega
  rcases hk with rfl | rfl
  ·simp [nth, renStore, dkS, dkB, renBlk, renL, ren, h0.st, dkBj]
  ·simp only [nth, renStore, dkS]
   simp [h0.mp, dkM, ren_encFs]
 ·refine hspec _ ?_
  unfold ownRe
  refine ⟨by rw [show (dkS d').take [i, j].length = dkS d' from rfl]; exact dkS_all d', ?_⟩
  simp only [hv]
  have : putAll σ [i, j] (renStore (nth [i, j]) ((dkS d').take [i, j].length)) = dkPut σ i j d' := by
   rw [show (dkS d').take [i, j].length = dkS d' from rfl]
   simp only [dkS, renStore, List.map_cons, List.map_nil, Option.map_some, ren_encFs, putAll, dkPut, dkM]
   simp [renBlk, dkB, renL, ren, nth, dkBj]
  rw [this]; exact h
theorem C_at0 (h0 : DkAt σ i j d) (hargs : allL (fun b => decide (b < 2)) args = true) (hspec : ∀ R : Re → Store → Prop, R (.ret v) (dkS d) → C tE f args (dkS d) R)
  (hv : ∀ τ, frz τ 6 v = some v) (h : R (.ret v) σ) : C tE f (renL (nth [i, j]) args) σ R := C_at h0 hargs hspec hv (by rw [h0.put_self]; exact h)
theorem C_weak {args' : List PV} (hw : ∀ c vs, VL tE c args vs → VL tE c args' vs) (h : C tE f args' σ R) : C tE f args σ R := fun cx vs hn hv => h cx vs hn (hw cx _ hv)
theorem V.nils_lit {c : Cx} {v : Value} (h : V tE c .nils v) : V tE c (.lit []) v := by
 obtain ⟨a, rfl⟩ := h.nils_inv
 exact V_one (.lit0 _ _) (by simp)
theorem C_used_at (h0 : DkAt σ i j d) (hl : used d.files < 1000000000) (h : R (.ret (i64 (used d.files))) σ) : C tE 18 [.ptr i 0 0 []] σ R :=
 C_at0 (args := [.ptr 0 0 0 []]) h0 (by simp [allL, allB]) (fun R h => C_used hl h) (fun τ => rfl) h
end
end Go.Proofs.YtdplbgfokoajjaaGreat
end
section
set_option linter.unusedVariables false
set_option linter.unusedSimpArgs false
set_option maxRecDepth 20000
namespace Go.Proofs.YtdplbgfokoajjaaGreat
open Go
attribute [local simp] RF_nil RF_cons afterRF_ret nilCmp sop sGuard isCall sCallee Fr.eval Fr.get Fr.put ofConst sLoad sStore sBuiltin Fr.args bodyQ sRes oneOf sBin sInt sUn
attribute [local simp] RD_nil RD_cons noConf clear accAdd Tab.pr Tab.slot foot wid idOf refId Op.operands Call.operands sFieldAddr sNilCheck sLookup keyLit sMapSet sMapDel sLen Store.at Store.new getP setP typeAt fits evalParts sBuildSlice sFill sList sApp sAppend frzRe frz pureB pureL
attribute [local simp] dkB dkS u8s
section
variable {R : Re → Store → Prop} {d : Dk} {s : ByteArray} {b : List UInt8}
theorem C_write_dead (hf : d.fuse = 0) (h : R (.ret (i64 42)) (dkS d)) : C tE 30 [.ptr 0 0 0 [], .str s, u8s b] (dkS d) R := by
 refine C_new tOK ?_
 refine C_bodyk tOK Tryz.func30 rfl (Nat.le_of_ble_eq_true rfl) fun K hK => ?_; simp
 repeat (first | (refine T_seqk fun K hK => ?_) | (refine T_reg tOK rfl ?_; simp [hf]) | (refine T_ret ?_; try simp) | (refine T_skip ?_; try simp) | (refine T_blockk fun K hK => ?_) | (with_reducible apply_assumption -exfalso -symm) | (rw [afterRF_ret]; simp [hf]) | (refine T_exit ?_; try simp) | (refine T_cond_t ?_ ?_; · (simp; done)) | (refine T_cond_f ?_ ?_; · (simp; done)) | (rintro _ _ (_ | _) hz9 <;> first | (simp; done) | (simp at hz9; done)) | (refine And.intro ?_ ?_) | (simp only [Post.block_ret, Post.block_exit, Post.block_normal, Post.block_pan, Post.seq_ret, Post.seq_exit, Post.seq_normal, Post.seq_pan]; try simp [hf]) | (refine T_loop (TL_round ?_)) | (refine TL_round ?_) | (refine C_bodyk tOK Tryz.func56 rfl (Nat.le_of_ble_eq_true rfl) fun K hK => ?_; simp))
 ·left; simp [hf]
 ·simpa [frzT, frzN, hf] using h
theorem C_write_arg (hs : s.size ≤ maxLen) (hf : (d.fuse == 0) = false) (hw : IntKind.i64.wrap (d.fuse - 1) = d.fuse - 1) (hn : named s = false) (h : R (.ret (i64 1)) (dkS (burn d))) :
  C tE 30 [.ptr 0 0 0 [], .str s, u8s b] (dkS d) R := by
 have hm := mget_enc s.data.toList d.files
 refine C_new tOK ?_
 cases hg : dget s.data.toList d.files with
 | none =>
  rw [hg] at hm
  refine C_bodyk tOK Tryz.func30 rfl (Nat.le_of_ble_eq_true rfl) fun K hK => ?_; simp
  repeat (first | (refine T_seqk fun K hK => ?_) | (refine T_reg tOK rfl ?_; simp [hf,hw,hn,hs,hm]) | (refine T_ret ?_; try simp) | (refine T_skip ?_; try simp) | (refine T_blockk fun K hK => ?_) | (with_reducible apply_assumption -exfalso -symm) | (rw [afterRF_ret]; simp [hf,hw,hn,hs,hm]) | (refine T_exit ?_; try simp) | (refine T_cond_t ?_ ?_; · (simp; done)) | (refine T_cond_f ?_ ?_; · (simp; done)) | (rintro _ _ (_ | _) hz9 <;> first | (simp; done) | (simp at hz9; done)) | (refine And.intro ?_ ?_) | (simp only [Post.block_ret, Post.block_exit, Post.block_normal, Post.block_pan, Post.seq_ret, Post.seq_exit, Post.seq_normal, Post.seq_pan]; try simp [hf,hw,hn,hs,hm]) | (refine T_loop (TL_round ?_)) | (refine TL_round ?_) | (refine T_draw tOK tmix [([], 1), ([0], 2), ([0, 1], 3), ([0, 1, 2], 4), ([], 5), ([0, 1, 2, 3, 4], 6), ([0, 1, 2, 3, 4, 5], 7), ([0, 1, 2, 3, 4, 5, 6], 8), ([0, 1, 2, 3, 4, 5, 6], 9), ([], 0), ([0, 1, 2, 3, 4, 5, 6, 7, 9], 10), ([0, 1, 2, 3, 4, 5, 6, 7, 8, 9, 10], 11)] 11 (by decide +kernel) ?_; simp [hf,hw,hn,hs,hm]) | (refine T_draw tOK tmix [([], 0), ([0], 1), ([], 2), ([2], 3), ([2, 3], 4), ([2, 3, 4], 5), ([], 6), ([6], 7), ([2, 3, 4, 5, 6, 7], 8), ([0, 1, 2, 3, 4, 5, 6, 7, 8], 9), ([0, 1, 2, 3, 4, 5, 6, 7, 8, 9], 10)] 9 (by decide +kernel) ?_; simp [hf,hw,hn,hs,hm]) | (refine T_draw tOK tmix [([], 0), ([0], 1), ([0, 1], 2), ([0, 1, 2], 3), ([], 4), ([], 5), ([0, 1, 2, 3, 4, 5], 6)] 6 (by decide +kernel) ?_; simp [hf,hw,hn,hs,hm]) | (refine C_named ?_; simp [hf,hw,hn,hs,hm]) | (refine C_bodyk tOK Tryz.func56 rfl (Nat.le_of_ble_eq_true rfl) fun K hK => ?_; simp) | (refine C_bodyk tOK Tryz.func63 rfl (Nat.le_of_ble_eq_true rfl) fun K hK => ?_; simp))
  ·right; simp [allStore, allBlk, allL, allB]
   exact fun a b => encFs_all _ _ (a, b)
  ·simpa [frzT, frzN, burn] using h
 | some f =>
  rw [hg] at hm
  refine C_bodyk tOK Tryz.func30 rfl (Nat.le_of_ble_eq_true rfl) fun K hK => ?_; simp
  repeat (first | (refine T_seqk fun K hK => ?_) | (refine T_reg tOK rfl ?_; simp [hf,hw,hn,hs,hm,encF]) | (refine T_ret ?_; try simp) | (refine T_skip ?_; try simp) | (refine T_blockk fun K hK => ?_) | (with_reducible apply_assumption -exfalso -symm) | (rw [afterRF_ret]; simp [hf,hw,hn,hs,hm,encF]) | (refine T_exit ?_; try simp) | (refine T_cond_t ?_ ?_; · (simp; done)) | (refine T_cond_f ?_ ?_; · (simp; done)) | (rintro _ _ (_ | _) hz9 <;> first | (simp; done) | (simp at hz9; done)) | (refine And.intro ?_ ?_) | (simp only [Post.block_ret, Post.block_exit, Post.block_normal, Post.block_pan, Post.seq_ret, Post.seq_exit, Post.seq_normal, Post.seq_pan]; try simp [hf,hw,hn,hs,hm,encF]) | (refine T_loop (TL_round ?_)) | (refine TL_round ?_) | (refine T_draw tOK tmix [([], 1), ([0], 2), ([0, 1], 3), ([0, 1, 2], 4), ([], 5), ([0, 1, 2, 3, 4], 6), ([0, 1, 2, 3, 4, 5], 7), ([0, 1, 2, 3, 4, 5, 6], 8), ([0, 1, 2, 3, 4, 5, 6], 9), ([], 0), ([0, 1, 2, 3, 4, 5, 6, 7, 9], 10), ([0, 1, 2, 3, 4, 5, 6, 7, 8, 9, 10], 11)] 11 (by decide +kernel) ?_; simp [hf,hw,hn,hs,hm,encF]) | (refine T_draw tOK tmix [([], 0), ([0], 1), ([], 2), ([2], 3), ([2, 3], 4), ([2, 3, 4], 5), ([], 6), ([6], 7), ([2, 3, 4, 5, 6, 7], 8), ([0, 1, 2, 3, 4, 5, 6, 7, 8], 9), ([0, 1, 2, 3, 4, 5, 6, 7, 8, 9], 10)] 9 (by decide +kernel) ?_; simp [hf,hw,hn,hs,hm,encF]) | (refine T_draw tOK tmix [([], 0), ([0], 1), ([0, 1], 2), ([0, 1, 2], 3), ([], 4), ([], 5), ([0, 1, 2, 3, 4, 5], 6)] 6 (by decide +kernel) ?_; simp [hf,hw,hn,hs,hm,encF]) | (refine C_named ?_; simp [hf,hw,hn,hs,hm,encF]) | (refine C_bodyk tOK Tryz.func56 rfl (Nat.le_of_ble_eq_true rfl) fun K hK => ?_; simp) | (refine C_bodyk tOK Tryz.func63 rfl (Nat.le_of_ble_eq_true rfl) fun K hK => ?_; simp))
  ·right; simp [allStore, allBlk, allL, allB]
   exact fun a b => encFs_all _ _ (a, b)
  ·simpa [frzT, frzN, burn] using h
theorem C_write_full0 (hs : s.size ≤ maxLen) (hf : (d.fuse == 0) = false) (hw : IntKind.i64.wrap (d.fuse - 1) = d.fuse - 1) (hn : named s = true) (hg : dget s.data.toList d.files = none) (hc : 64 ≤ (encFs d.files).length) (h : R (.ret (i64 5)) (dkS (burn d))) :
  C tE 30 [.ptr 0 0 0 [], .str s, u8s b] (dkS d) R := by
 have hm := mget_enc s.data.toList d.files
 rw [hg] at hm
 have hc' : decide (64 ≤ ((encFs d.files).length : Int)) = true := by rw [decide_eq_true_eq]; omega
 refine C_new tOK ?_
 refine C_bodyk tOK Tryz.func30 rfl (Nat.le_of_ble_eq_true rfl) fun K hK => ?_; simp
 repeat (first | (refine T_seqk fun K hK => ?_) | (refine T_reg tOK rfl ?_; simp [hf,hw,hn,hs,hm,hc']) | (refine T_ret ?_; try simp) | (refine T_skip ?_; try simp) | (refine T_blockk fun K hK => ?_) | (with_reducible apply_assumption -exfalso -symm) | (rw [afterRF_ret]; simp [hf,hw,hn,hs,hm,hc']) | (refine T_exit ?_; try simp) | (refine T_cond_t ?_ ?_; · (simp; done)) | (refine T_cond_f ?_ ?_; · (simp; done)) | (rintro _ _ (_ | _) hz9 <;> first | (simp; done) | (simp at hz9; done)) | (refine And.intro ?_ ?_) | (simp only [Post.block_ret, Post.block_exit, Post.block_normal, Post.block_pan, Post.seq_ret, Post.seq_exit, Post.seq_normal, Post.seq_pan]; try simp [hf,hw,hn,hs,hm,hc']) | (refine T_loop (TL_round ?_)) | (refine TL_round ?_) | (refine T_draw tOK tmix [([], 1), ([0], 2), ([0, 1], 3), ([0, 1, 2], 4), ([], 5), ([0, 1, 2, 3, 4], 6), ([0, 1, 2, 3, 4, 5], 7), ([0, 1, 2, 3, 4, 5, 6], 8), ([0, 1, 2, 3, 4, 5, 6], 9), ([], 0), ([0, 1, 2, 3, 4, 5, 6, 7, 9], 10), ([0, 1, 2, 3, 4, 5, 6, 7, 8, 9, 10], 11)] 11 (by decide +kernel) ?_; simp [hf,hw,hn,hs,hm,hc']) | (refine T_draw tOK tmix [([], 0), ([0], 1), ([], 2), ([2], 3), ([2, 3], 4), ([2, 3, 4], 5), ([], 6), ([6], 7), ([2, 3, 4, 5, 6, 7], 8), ([0, 1, 2, 3, 4, 5, 6, 7, 8], 9), ([0, 1, 2, 3, 4, 5, 6, 7, 8, 9], 10)] 9 (by decide +kernel) ?_; simp [hf,hw,hn,hs,hm,hc']) | (refine T_draw tOK tmix [([], 0), ([0], 1), ([0, 1], 2), ([0, 1, 2], 3), ([], 4), ([], 5), ([0, 1, 2, 3, 4, 5], 6)] 6 (by decide +kernel) ?_; simp [hf,hw,hn,hs,hm,hc']) | (refine C_named ?_; simp [hf,hw,hn,hs,hm,hc']) | (refine C_bodyk tOK Tryz.func56 rfl (Nat.le_of_ble_eq_true rfl) fun K hK => ?_; simp) | (refine C_bodyk tOK Tryz.func63 rfl (Nat.le_of_ble_eq_true rfl) fun K hK => ?_; simp))
 ·right; simp [allStore, allBlk, allL, allB]
  exact fun a b => encFs_all _ _ (a, b)
 ·simpa [frzT, frzN, burn] using h
theorem C_write_full1 (hs : s.size ≤ maxLen) (hf : (d.fuse == 0) = false) (hw : IntKind.i64.wrap (d.fuse - 1) = d.fuse - 1) (hn : named s = true) (hg : dget s.data.toList d.files = none) (hc : decide (64 ≤ ((encFs d.files).length : Int)) = false) (hl : used d.files < 1000000000) (hq : IntKind.i64.wrap (d.room - used d.files) = d.room - used d.files)
  (hc2 : decide (d.room - used d.files < (b.length : Int)) = true) (h : R (.ret (i64 5)) (dkS (burn d))) :
  C tE 30 [.ptr 0 0 0 [], .str s, u8s b] (dkS d) R := by
 have hm := mget_enc s.data.toList d.files
 rw [hg] at hm
 have hbl : (u8l b).length = b.length := by simp [u8l]
 refine C_new tOK ?_
 refine C_bodyk tOK Tryz.func30 rfl (Nat.le_of_ble_eq_true rfl) fun K hK => ?_; simp
 repeat (first | (refine T_seqk fun K hK => ?_) | (refine T_reg tOK rfl ?_; simp [hf,hw,hn,hs,hm,hc]) | (refine T_ret ?_; try simp) | (refine T_skip ?_; try simp) | (refine T_blockk fun K hK => ?_) | (with_reducible apply_assumption -exfalso -symm) | (rw [afterRF_ret]; simp [hf,hw,hn,hs,hm,hc]) | (refine T_exit ?_; try simp) | (refine T_cond_t ?_ ?_; · (simp; done)) | (refine T_cond_f ?_ ?_; · (simp; done)) | (rintro _ _ (_ | _) hz9 <;> first | (simp; done) | (simp at hz9; done)) | (refine And.intro ?_ ?_) | (simp only [Post.block_ret, Post.block_exit, Post.block_normal, Post.block_pan, Post.seq_ret, Post.seq_exit, Post.seq_normal, Post.seq_pan]; try simp [hf,hw,hn,hs,hm,hc]) | (refine T_loop (TL_round ?_)) | (refine TL_round ?_) | (refine T_draw tOK tmix [([], 1), ([0], 2), ([0, 1], 3), ([0, 1, 2], 4), ([], 5), ([0, 1, 2, 3, 4], 6), ([0, 1, 2, 3, 4, 5], 7), ([0, 1, 2, 3, 4, 5, 6], 8), ([0, 1, 2, 3, 4, 5, 6], 9), ([], 0), ([0, 1, 2, 3, 4, 5, 6, 7, 9], 10), ([0, 1, 2, 3, 4, 5, 6, 7, 8, 9, 10], 11)] 11 (by decide +kernel) ?_; simp [hf,hw,hn,hs,hm,hc]) | (refine T_draw tOK tmix [([], 0), ([0], 1), ([], 2), ([2], 3), ([2, 3], 4), ([2, 3, 4], 5), ([], 6), ([6], 7), ([2, 3, 4, 5, 6, 7], 8), ([0, 1, 2, 3, 4, 5, 6, 7, 8], 9), ([0, 1, 2, 3, 4, 5, 6, 7, 8, 9], 10)] 9 (by decide +kernel) ?_; simp [hf,hw,hn,hs,hm,hc]) | (refine T_draw tOK tmix [([], 0), ([0], 1), ([0, 1], 2), ([0, 1, 2], 3), ([], 4), ([], 5), ([0, 1, 2, 3, 4, 5], 6)] 6 (by decide +kernel) ?_; simp [hf,hw,hn,hs,hm,hc]) | (refine C_named ?_; simp [hf,hw,hn,hs,hm,hc]) | (refine C_bodyk tOK Tryz.func56 rfl (Nat.le_of_ble_eq_true rfl) fun K hK => ?_; simp) | (refine C_bodyk tOK Tryz.func63 rfl (Nat.le_of_ble_eq_true rfl) fun K hK => ?_; simp))
 refine RD_call (rd := [0, 1]) (fun τ hτ => C_used_at (i := 0) (j := 1) (d := burn d) ⟨by decide, Store.at_some ((hτ 0 (by simp)).trans rfl), Store.at_some ((hτ 1 (by simp)).trans rfl)⟩ hl ⟨rfl, rfl⟩) ?_
 simp [hq,hbl,hc2,burn]
 refine ⟨?_, ?_⟩
 ·intro a a1 b h
  repeat (rcases h with ⟨rfl, rfl, rfl⟩ | h; · simp)
  obtain ⟨rfl, rfl, rfl⟩ := h
  simp
 repeat (first | (refine T_seqk fun K hK => ?_) | (refine T_reg tOK rfl ?_; simp [hf,hw,hn,hs,hm,hc,hbl,hq,hc2,burn]) | (refine T_ret ?_; try simp) | (refine T_skip ?_; try simp) | (refine T_blockk fun K hK => ?_) | (with_reducible apply_assumption -exfalso -symm) | (rw [afterRF_ret]; simp [hf,hw,hn,hs,hm,hc,hbl,hq,hc2,burn]) | (refine T_exit ?_; try simp) | (refine T_cond_t ?_ ?_; · (simp; done)) | (refine T_cond_f ?_ ?_; · (simp; done)) | (rintro _ _ (_ | _) hz9 <;> first | (simp; done) | (simp at hz9; done)) | (refine And.intro ?_ ?_) | (simp only [Post.block_ret, Post.block_exit, Post.block_normal, Post.block_pan, Post.seq_ret, Post.seq_exit, Post.seq_normal, Post.seq_pan]; try simp [hf,hw,hn,hs,hm,hc,hbl,hq,hc2,burn]) | (refine T_loop (TL_round ?_)) | (refine TL_round ?_) | (refine T_draw tOK tmix [([], 1), ([0], 2), ([0, 1], 3), ([0, 1, 2], 4), ([], 5), ([0, 1, 2, 3, 4], 6), ([0, 1, 2, 3, 4, 5], 7), ([0, 1, 2, 3, 4, 5, 6], 8), ([0, 1, 2, 3, 4, 5, 6], 9), ([], 0), ([0, 1, 2, 3, 4, 5, 6, 7, 9], 10), ([0, 1, 2, 3, 4, 5, 6, 7, 8, 9, 10], 11)] 11 (by decide +kernel) ?_; simp [hf,hw,hn,hs,hm,hc,hbl,hq,hc2,burn]) | (refine T_draw tOK tmix [([], 0), ([0], 1), ([], 2), ([2], 3), ([2, 3], 4), ([2, 3, 4], 5), ([], 6), ([6], 7), ([2, 3, 4, 5, 6, 7], 8), ([0, 1, 2, 3, 4, 5, 6, 7, 8], 9), ([0, 1, 2, 3, 4, 5, 6, 7, 8, 9], 10)] 9 (by decide +kernel) ?_; simp [hf,hw,hn,hs,hm,hc,hbl,hq,hc2,burn]) | (refine T_draw tOK tmix [([], 0), ([0], 1), ([0, 1], 2), ([0, 1, 2], 3), ([], 4), ([], 5), ([0, 1, 2, 3, 4, 5], 6)] 6 (by decide +kernel) ?_; simp [hf,hw,hn,hs,hm,hc,hbl,hq,hc2,burn]) | (refine C_named ?_; simp [hf,hw,hn,hs,hm,hc,hbl,hq,hc2,burn]) | (refine C_bodyk tOK Tryz.func56 rfl (Nat.le_of_ble_eq_true rfl) fun K hK => ?_; simp) | (refine C_bodyk tOK Tryz.func63 rfl (Nat.le_of_ble_eq_true rfl) fun K hK => ?_; simp))
 ·right; simp [allStore, allBlk, allL, allB]
  exact fun a b => encFs_all _ _ (a, b)
 ·simpa [frzT, frzN, burn] using h
theorem C_write_full2 (hs : s.size ≤ maxLen) (hf : (d.fuse == 0) = false) (hw : IntKind.i64.wrap (d.fuse - 1) = d.fuse - 1) (hn : named s = true) {f : Fl} (hg : dget s.data.toList d.files = some f) (hl : used d.files < 1000000000) (hq : IntKind.i64.wrap (d.room - used d.files) = d.room - used d.files)
  (hc2 : decide (d.room - used d.files < (b.length : Int)) = true) (h : R (.ret (i64 5)) (dkS (burn d))) :
  C tE 30 [.ptr 0 0 0 [], .str s, u8s b] (dkS d) R := by
 have hm := mget_enc s.data.toList d.files
 rw [hg] at hm
 have hbl : (u8l b).length = b.length := by simp [u8l]
 refine C_new tOK ?_
 refine C_bodyk tOK Tryz.func30 rfl (Nat.le_of_ble_eq_true rfl) fun K hK => ?_; simp
 repeat (first | (refine T_seqk fun K hK => ?_) | (refine T_reg tOK rfl ?_; simp [hf,hw,hn,hs,hm,encF]) | (refine T_ret ?_; try simp) | (refine T_skip ?_; try simp) | (refine T_blockk fun K hK => ?_) | (with_reducible apply_assumption -exfalso -symm) | (rw [afterRF_ret]; simp [hf,hw,hn,hs,hm,encF]) | (refine T_exit ?_; try simp) | (refine T_cond_t ?_ ?_; · (simp; done)) | (refine T_cond_f ?_ ?_; · (simp; done)) | (rintro _ _ (_ | _) hz9 <;> first | (simp; done) | (simp at hz9; done)) | (refine And.intro ?_ ?_) | (simp only [Post.block_ret, Post.block_exit, Post.block_normal, Post.block_pan, Post.seq_ret, Post.seq_exit, Post.seq_normal, Post.seq_pan]; try simp [hf,hw,hn,hs,hm,encF]) | (refine T_loop (TL_round ?_)) | (refine TL_round ?_) | (refine T_draw tOK tmix [([], 1), ([0], 2), ([0, 1], 3), ([0, 1, 2], 4), ([], 5), ([0, 1, 2, 3, 4], 6), ([0, 1, 2, 3, 4, 5], 7), ([0, 1, 2, 3, 4, 5, 6], 8), ([0, 1, 2, 3, 4, 5, 6], 9), ([], 0), ([0, 1, 2, 3, 4, 5, 6, 7, 9], 10), ([0, 1, 2, 3, 4, 5, 6, 7, 8, 9, 10], 11)] 11 (by decide +kernel) ?_; simp [hf,hw,hn,hs,hm,encF]) | (refine T_draw tOK tmix [([], 0), ([0], 1), ([], 2), ([2], 3), ([2, 3], 4), ([2, 3, 4], 5), ([], 6), ([6], 7), ([2, 3, 4, 5, 6, 7], 8), ([0, 1, 2, 3, 4, 5, 6, 7, 8], 9), ([0, 1, 2, 3, 4, 5, 6, 7, 8, 9], 10)] 9 (by decide +kernel) ?_; simp [hf,hw,hn,hs,hm,encF]) | (refine T_draw tOK tmix [([], 0), ([0], 1), ([0, 1], 2), ([0, 1, 2], 3), ([], 4), ([], 5), ([0, 1, 2, 3, 4, 5], 6)] 6 (by decide +kernel) ?_; simp [hf,hw,hn,hs,hm,encF]) | (refine C_named ?_; simp [hf,hw,hn,hs,hm,encF]) | (refine C_bodyk tOK Tryz.func56 rfl (Nat.le_of_ble_eq_true rfl) fun K hK => ?_; simp) | (refine C_bodyk tOK Tryz.func63 rfl (Nat.le_of_ble_eq_true rfl) fun K hK => ?_; simp))
 refine RD_call (rd := [0, 1]) (fun τ hτ => C_used_at (i := 0) (j := 1) (d := burn d) ⟨by decide, Store.at_some ((hτ 0 (by simp)).trans rfl), Store.at_some ((hτ 1 (by simp)).trans rfl)⟩ hl ⟨rfl, rfl⟩) ?_
 simp [hq,hbl,hc2,burn]
 refine ⟨?_, ?_⟩
 ·intro a a1 b h
  repeat (rcases h with ⟨rfl, rfl, rfl⟩ | h; · simp)
  obtain ⟨rfl, rfl, rfl⟩ := h
  simp
 repeat (first | (refine T_seqk fun K hK => ?_) | (refine T_reg tOK rfl ?_; simp [hf,hw,hn,hs,hm,encF,hbl,hq,hc2,burn]) | (refine T_ret ?_; try simp) | (refine T_skip ?_; try simp) | (refine T_blockk fun K hK => ?_) | (with_reducible apply_assumption -exfalso -symm) | (rw [afterRF_ret]; simp [hf,hw,hn,hs,hm,encF,hbl,hq,hc2,burn]) | (refine T_exit ?_; try simp) | (refine T_cond_t ?_ ?_; · (simp; done)) | (refine T_cond_f ?_ ?_; · (simp; done)) | (rintro _ _ (_ | _) hz9 <;> first | (simp; done) | (simp at hz9; done)) | (refine And.intro ?_ ?_) | (simp only [Post.block_ret, Post.block_exit, Post.block_normal, Post.block_pan, Post.seq_ret, Post.seq_exit, Post.seq_normal, Post.seq_pan]; try simp [hf,hw,hn,hs,hm,encF,hbl,hq,hc2,burn]) | (refine T_loop (TL_round ?_)) | (refine TL_round ?_) | (refine T_draw tOK tmix [([], 1), ([0], 2), ([0, 1], 3), ([0, 1, 2], 4), ([], 5), ([0, 1, 2, 3, 4], 6), ([0, 1, 2, 3, 4, 5], 7), ([0, 1, 2, 3, 4, 5, 6], 8), ([0, 1, 2, 3, 4, 5, 6], 9), ([], 0), ([0, 1, 2, 3, 4, 5, 6, 7, 9], 10), ([0, 1, 2, 3, 4, 5, 6, 7, 8, 9, 10], 11)] 11 (by decide +kernel) ?_; simp [hf,hw,hn,hs,hm,encF,hbl,hq,hc2,burn]) | (refine T_draw tOK tmix [([], 0), ([0], 1), ([], 2), ([2], 3), ([2, 3], 4), ([2, 3, 4], 5), ([], 6), ([6], 7), ([2, 3, 4, 5, 6, 7], 8), ([0, 1, 2, 3, 4, 5, 6, 7, 8], 9), ([0, 1, 2, 3, 4, 5, 6, 7, 8, 9], 10)] 9 (by decide +kernel) ?_; simp [hf,hw,hn,hs,hm,encF,hbl,hq,hc2,burn]) | (refine T_draw tOK tmix [([], 0), ([0], 1), ([0, 1], 2), ([0, 1, 2], 3), ([], 4), ([], 5), ([0, 1, 2, 3, 4, 5], 6)] 6 (by decide +kernel) ?_; simp [hf,hw,hn,hs,hm,encF,hbl,hq,hc2,burn]) | (refine C_named ?_; simp [hf,hw,hn,hs,hm,encF,hbl,hq,hc2,burn]) | (refine C_bodyk tOK Tryz.func56 rfl (Nat.le_of_ble_eq_true rfl) fun K hK => ?_; simp) | (refine C_bodyk tOK Tryz.func63 rfl (Nat.le_of_ble_eq_true rfl) fun K hK => ?_; simp))
 ·right; simp [allStore, allBlk, allL, allB]
  exact fun a b => encFs_all _ _ (a, b)
 ·simpa [frzT, frzN, burn] using h
theorem C_write_ok0 (hs : s.size ≤ maxLen) (hf : (d.fuse == 0) = false) (hw : IntKind.i64.wrap (d.fuse - 1) = d.fuse - 1) (hn : named s = true) (hg : dget s.data.toList d.files = none) (hc : decide (64 ≤ ((encFs d.files).length : Int)) = false) (hl : used d.files < 1000000000) (hq : IntKind.i64.wrap (d.room - used d.files) = d.room - used d.files)
  (hc2 : decide (d.room - used d.files < (b.length : Int)) = false) (hlen : (encFs d.files).length < 1000000) (hcl : ([] : List UInt8).length + b.length < 100000000)
  (h : R (.ret (i64 0)) (dkS { burn d with files := dput s.data.toList ⟨b, 0⟩ d.files })) :
  C tE 30 [.ptr 0 0 0 [], .str s, u8s b] (dkS d) R := by
 have hm := mget_enc s.data.toList d.files
 rw [hg] at hm
 have hbl : (u8l b).length = b.length := by simp [u8l]
 refine C_new tOK ?_
 refine C_bodyk tOK Tryz.func30 rfl (Nat.le_of_ble_eq_true rfl) fun K hK => ?_; simp
 repeat (first | (refine T_seqk fun K hK => ?_) | (refine T_reg tOK rfl ?_; simp [hf,hw,hn,hs,hm,hc]) | (refine T_ret ?_; try simp) | (refine T_skip ?_; try simp) | (refine T_blockk fun K hK => ?_) | (with_reducible apply_assumption -exfalso -symm) | (rw [afterRF_ret]; simp [hf,hw,hn,hs,hm,hc]) | (refine T_exit ?_; try simp) | (refine T_cond_t ?_ ?_; · (simp; done)) | (refine T_cond_f ?_ ?_; · (simp; done)) | (rintro _ _ (_ | _) hz9 <;> first | (simp; done) | (simp at hz9; done)) | (refine And.intro ?_ ?_) | (simp only [Post.block_ret, Post.block_exit, Post.block_normal, Post.block_pan, Post.seq_ret, Post.seq_exit, Post.seq_normal, Post.seq_pan]; try simp [hf,hw,hn,hs,hm,hc]) | (refine T_loop (TL_round ?_)) | (refine TL_round ?_) | (refine T_draw tOK tmix [([], 1), ([0], 2), ([0, 1], 3), ([0, 1, 2], 4), ([], 5), ([0, 1, 2, 3, 4], 6), ([0, 1, 2, 3, 4, 5], 7), ([0, 1, 2, 3, 4, 5, 6], 8), ([0, 1, 2, 3, 4, 5, 6], 9), ([], 0), ([0, 1, 2, 3, 4, 5, 6, 7, 9], 10), ([0, 1, 2, 3, 4, 5, 6, 7, 8, 9, 10], 11)] 11 (by decide +kernel) ?_; simp [hf,hw,hn,hs,hm,hc]) | (refine T_draw tOK tmix [([], 0), ([0], 1), ([], 2), ([2], 3), ([2, 3], 4), ([2, 3, 4], 5), ([], 6), ([6], 7), ([2, 3, 4, 5, 6, 7], 8), ([0, 1, 2, 3, 4, 5, 6, 7, 8], 9), ([0, 1, 2, 3, 4, 5, 6, 7, 8, 9], 10)] 9 (by decide +kernel) ?_; simp [hf,hw,hn,hs,hm,hc]) | (refine T_draw tOK tmix [([], 0), ([0], 1), ([0, 1], 2), ([0, 1, 2], 3), ([], 4), ([], 5), ([0, 1, 2, 3, 4, 5], 6)] 6 (by decide +kernel) ?_; simp [hf,hw,hn,hs,hm,hc]) | (refine C_named ?_; simp [hf,hw,hn,hs,hm,hc]) | (refine C_bodyk tOK Tryz.func56 rfl (Nat.le_of_ble_eq_true rfl) fun K hK => ?_; simp) | (refine C_bodyk tOK Tryz.func63 rfl (Nat.le_of_ble_eq_true rfl) fun K hK => ?_; simp))
 refine RD_call (rd := [0, 1]) (fun τ hτ => C_used_at (i := 0) (j := 1) (d := burn d) ⟨by decide, Store.at_some ((hτ 0 (by simp)).trans rfl), Store.at_some ((hτ 1 (by simp)).trans rfl)⟩ hl ⟨rfl, rfl⟩) ?_
 simp [hq,hbl,hc2,burn]
 refine ⟨?_, ?_⟩
 ·intro a a1 b h
  repeat (rcases h with ⟨rfl, rfl, rfl⟩ | h; · simp)
  obtain ⟨rfl, rfl, rfl⟩ := h
  simp
 repeat (first | (refine T_seqk fun K hK => ?_) | (refine T_reg tOK rfl ?_; simp [hf,hw,hn,hs,hm,hc,hbl,hq,hc2,burn]) | (refine T_ret ?_; try simp) | (refine T_skip ?_; try simp) | (refine T_blockk fun K hK => ?_) | (with_reducible apply_assumption -exfalso -symm) | (rw [afterRF_ret]; simp [hf,hw,hn,hs,hm,hc,hbl,hq,hc2,burn]) | (refine T_exit ?_; try simp) | (refine T_cond_t ?_ ?_; · (simp; done)) | (refine T_cond_f ?_ ?_; · (simp; done)) | (rintro _ _ (_ | _) hz9 <;> first | (simp; done) | (simp at hz9; done)) | (refine And.intro ?_ ?_) | (simp only [Post.block_ret, Post.block_exit, Post.block_normal, Post.block_pan, Post.seq_ret, Post.seq_exit, Post.seq_normal, Post.seq_pan]; try simp [hf,hw,hn,hs,hm,hc,hbl,hq,hc2,burn]) | (refine T_loop (TL_round ?_)) | (refine TL_round ?_) | (refine T_draw tOK tmix [([], 1), ([0], 2), ([0, 1], 3), ([0, 1, 2], 4), ([], 5), ([0, 1, 2, 3, 4], 6), ([0, 1, 2, 3, 4, 5], 7), ([0, 1, 2, 3, 4, 5, 6], 8), ([0, 1, 2, 3, 4, 5, 6], 9), ([], 0), ([0, 1, 2, 3, 4, 5, 6, 7, 9], 10), ([0, 1, 2, 3, 4, 5, 6, 7, 8, 9, 10], 11)] 11 (by decide +kernel) ?_; simp [hf,hw,hn,hs,hm,hc,hbl,hq,hc2,burn]) | (refine T_draw tOK tmix [([], 0), ([0], 1), ([], 2), ([2], 3), ([2, 3], 4), ([2, 3, 4], 5), ([], 6), ([6], 7), ([2, 3, 4, 5, 6, 7], 8), ([0, 1, 2, 3, 4, 5, 6, 7, 8], 9), ([0, 1, 2, 3, 4, 5, 6, 7, 8, 9], 10)] 9 (by decide +kernel) ?_; simp [hf,hw,hn,hs,hm,hc,hbl,hq,hc2,burn]) | (refine T_draw tOK tmix [([], 0), ([0], 1), ([0, 1], 2), ([0, 1, 2], 3), ([], 4), ([], 5), ([0, 1, 2, 3, 4, 5], 6)] 6 (by decide +kernel) ?_; simp [hf,hw,hn,hs,hm,hc,hbl,hq,hc2,burn]) | (refine C_named ?_; simp [hf,hw,hn,hs,hm,hc,hbl,hq,hc2,burn]) | (refine C_bodyk tOK Tryz.func56 rfl (Nat.le_of_ble_eq_true rfl) fun K hK => ?_; simp) | (refine C_bodyk tOK Tryz.func63 rfl (Nat.le_of_ble_eq_true rfl) fun K hK => ?_; simp))
 have hp : mput (.string s.data.toList) (.agg 72 [.lit (u8l b), i64 0]) (encFs d.files) = encFs (dput s.data.toList ⟨b, 0⟩ d.files) := mput_enc s.data.toList ⟨b, 0⟩ d.files
 refine C_concat (b := b) (a := []) (.inr ⟨rfl, rfl⟩) rfl hcl ?_
 simp
 repeat (first | (refine T_seqk fun K hK => ?_) | (refine T_reg tOK rfl ?_; simp [hf,hw,hn,hs,hm,hc,hbl,hlen,burn]) | (refine T_ret ?_; try simp) | (refine T_skip ?_; try simp) | (refine T_blockk fun K hK => ?_) | (with_reducible apply_assumption -exfalso -symm) | (rw [afterRF_ret]; simp [hf,hw,hn,hs,hm,hc,hbl,hlen,burn]) | (refine T_exit ?_; try simp) | (refine T_cond_t ?_ ?_; · (simp; done)) | (refine T_cond_f ?_ ?_; · (simp; done)) | (rintro _ _ (_ | _) hz9 <;> first | (simp; done) | (simp at hz9; done)) | (refine And.intro ?_ ?_) | (simp only [Post.block_ret, Post.block_exit, Post.block_normal, Post.block_pan, Post.seq_ret, Post.seq_exit, Post.seq_normal, Post.seq_pan]; try simp [hf,hw,hn,hs,hm,hc,hbl,hlen,burn]) | (refine T_loop (TL_round ?_)) | (refine TL_round ?_) | (refine T_draw tOK tmix [([], 1), ([0], 2), ([0, 1], 3), ([0, 1, 2], 4), ([], 5), ([0, 1, 2, 3, 4], 6), ([0, 1, 2, 3, 4, 5], 7), ([0, 1, 2, 3, 4, 5, 6], 8), ([0, 1, 2, 3, 4, 5, 6], 9), ([], 0), ([0, 1, 2, 3, 4, 5, 6, 7, 9], 10), ([0, 1, 2, 3, 4, 5, 6, 7, 8, 9, 10], 11)] 11 (by decide +kernel) ?_; simp [hf,hw,hn,hs,hm,hc,hbl,hlen,burn]) | (refine T_draw tOK tmix [([], 0), ([0], 1), ([], 2), ([2], 3), ([2, 3], 4), ([2, 3, 4], 5), ([], 6), ([6], 7), ([2, 3, 4, 5, 6, 7], 8), ([0, 1, 2, 3, 4, 5, 6, 7, 8], 9), ([0, 1, 2, 3, 4, 5, 6, 7, 8, 9], 10)] 9 (by decide +kernel) ?_; simp [hf,hw,hn,hs,hm,hc,hbl,hlen,burn]) | (refine T_draw tOK tmix [([], 0), ([0], 1), ([0, 1], 2), ([0, 1, 2], 3), ([], 4), ([], 5), ([0, 1, 2, 3, 4, 5], 6)] 6 (by decide +kernel) ?_; simp [hf,hw,hn,hs,hm,hc,hbl,hlen,burn]) | (refine C_bodyk tOK Tryz.func63 rfl (Nat.le_of_ble_eq_true rfl) fun K hK => ?_; simp))
 ·right; rw [hp]; simp [allStore, allBlk, allL, allB]
  exact fun a b => encFs_all _ _ (a, b)
 ·rw [hp]; simpa [frzT, frzN, burn] using h
theorem C_write_ok1 (hs : s.size ≤ maxLen) (hf : (d.fuse == 0) = false) (hw : IntKind.i64.wrap (d.fuse - 1) = d.fuse - 1) (hn : named s = true) {f : Fl} (hg : dget s.data.toList d.files = some f) (hl : used d.files < 1000000000) (hq : IntKind.i64.wrap (d.room - used d.files) = d.room - used d.files)
  (hc2 : decide (d.room - used d.files < (b.length : Int)) = false) (hlen : (encFs d.files).length < 1000000) (hcl : f.b.length + b.length < 100000000)
  (h : R (.ret (i64 0)) (dkS { burn d with files := dput s.data.toList { f with b := f.b ++ b } d.files })) :
  C tE 30 [.ptr 0 0 0 [], .str s, u8s b] (dkS d) R := by
 have hm := mget_enc s.data.toList d.files
 rw [hg] at hm
 have hbl : (u8l b).length = b.length := by simp [u8l]
 refine C_new tOK ?_
 refine C_bodyk tOK Tryz.func30 rfl (Nat.le_of_ble_eq_true rfl) fun K hK => ?_; simp
 repeat (first | (refine T_seqk fun K hK => ?_) | (refine T_reg tOK rfl ?_; simp [hf,hw,hn,hs,hm,encF]) | (refine T_ret ?_; try simp) | (refine T_skip ?_; try simp) | (refine T_blockk fun K hK => ?_) | (with_reducible apply_assumption -exfalso -symm) | (rw [afterRF_ret]; simp [hf,hw,hn,hs,hm,encF]) | (refine T_exit ?_; try simp) | (refine T_cond_t ?_ ?_; · (simp; done)) | (refine T_cond_f ?_ ?_; · (simp; done)) | (rintro _ _ (_ | _) hz9 <;> first | (simp; done) | (simp at hz9; done)) | (refine And.intro ?_ ?_) | (simp only [Post.block_ret, Post.block_exit, Post.block_normal, Post.block_pan, Post.seq_ret, Post.seq_exit, Post.seq_normal, Post.seq_pan]; try simp [hf,hw,hn,hs,hm,encF]) | (refine T_loop (TL_round ?_)) | (refine TL_round ?_) | (refine T_draw tOK tmix [([], 1), ([0], 2), ([0, 1], 3), ([0, 1, 2], 4), ([], 5), ([0, 1, 2, 3, 4], 6), ([0, 1, 2, 3, 4, 5], 7), ([0, 1, 2, 3, 4, 5, 6], 8), ([0, 1, 2, 3, 4, 5, 6], 9), ([], 0), ([0, 1, 2, 3, 4, 5, 6, 7, 9], 10), ([0, 1, 2, 3, 4, 5, 6, 7, 8, 9, 10], 11)] 11 (by decide +kernel) ?_; simp [hf,hw,hn,hs,hm,encF]) | (refine T_draw tOK tmix [([], 0), ([0], 1), ([], 2), ([2], 3), ([2, 3], 4), ([2, 3, 4], 5), ([], 6), ([6], 7), ([2, 3, 4, 5, 6, 7], 8), ([0, 1, 2, 3, 4, 5, 6, 7, 8], 9), ([0, 1, 2, 3, 4, 5, 6, 7, 8, 9], 10)] 9 (by decide +kernel) ?_; simp [hf,hw,hn,hs,hm,encF]) | (refine T_draw tOK tmix [([], 0), ([0], 1), ([0, 1], 2), ([0, 1, 2], 3), ([], 4), ([], 5), ([0, 1, 2, 3, 4, 5], 6)] 6 (by decide +kernel) ?_; simp [hf,hw,hn,hs,hm,encF]) | (refine C_named ?_; simp [hf,hw,hn,hs,hm,encF]) | (refine C_bodyk tOK Tryz.func56 rfl (Nat.le_of_ble_eq_true rfl) fun K hK => ?_; simp) | (refine C_bodyk tOK Tryz.func63 rfl (Nat.le_of_ble_eq_true rfl) fun K hK => ?_; simp))
 refine RD_call (rd := [0, 1]) (fun τ hτ => C_used_at (i := 0) (j := 1) (d := burn d) ⟨by decide, Store.at_some ((hτ 0 (by simp)).trans rfl), Store.at_some ((hτ 1 (by simp)).trans rfl)⟩ hl ⟨rfl, rfl⟩) ?_
 simp [hq,hbl,hc2,burn]
 refine ⟨?_, ?_⟩
 ·intro a a1 b h
  repeat (rcases h with ⟨rfl, rfl, rfl⟩ | h; · simp)
  obtain ⟨rfl, rfl, rfl⟩ := h
  simp
 repeat (first | (refine T_seqk fun K hK => ?_) | (refine T_reg tOK rfl ?_; simp [hf,hw,hn,hs,hm,encF,hbl,hq,hc2,burn]) | (refine T_ret ?_; try simp) | (refine T_skip ?_; try simp) | (refine T_blockk fun K hK => ?_) | (with_reducible apply_assumption -exfalso -symm) | (rw [afterRF_ret]; simp [hf,hw,hn,hs,hm,encF,hbl,hq,hc2,burn]) | (refine T_exit ?_; try simp) | (refine T_cond_t ?_ ?_; · (simp; done)) | (refine T_cond_f ?_ ?_; · (simp; done)) | (rintro _ _ (_ | _) hz9 <;> first | (simp; done) | (simp at hz9; done)) | (refine And.intro ?_ ?_) | (simp only [Post.block_ret, Post.block_exit, Post.block_normal, Post.block_pan, Post.seq_ret, Post.seq_exit, Post.seq_normal, Post.seq_pan]; try simp [hf,hw,hn,hs,hm,encF,hbl,hq,hc2,burn]) | (refine T_loop (TL_round ?_)) | (refine TL_round ?_) | (refine T_draw tOK tmix [([], 1), ([0], 2), ([0, 1], 3), ([0, 1, 2], 4), ([], 5), ([0, 1, 2, 3, 4], 6), ([0, 1, 2, 3, 4, 5], 7), ([0, 1, 2, 3, 4, 5, 6], 8), ([0, 1, 2, 3, 4, 5, 6], 9), ([], 0), ([0, 1, 2, 3, 4, 5, 6, 7, 9], 10), ([0, 1, 2, 3, 4, 5, 6, 7, 8, 9, 10], 11)] 11 (by decide +kernel) ?_; simp [hf,hw,hn,hs,hm,encF,hbl,hq,hc2,burn]) | (refine T_draw tOK tmix [([], 0), ([0], 1), ([], 2), ([2], 3), ([2, 3], 4), ([2, 3, 4], 5), ([], 6), ([6], 7), ([2, 3, 4, 5, 6, 7], 8), ([0, 1, 2, 3, 4, 5, 6, 7, 8], 9), ([0, 1, 2, 3, 4, 5, 6, 7, 8, 9], 10)] 9 (by decide +kernel) ?_; simp [hf,hw,hn,hs,hm,encF,hbl,hq,hc2,burn]) | (refine T_draw tOK tmix [([], 0), ([0], 1), ([0, 1], 2), ([0, 1, 2], 3), ([], 4), ([], 5), ([0, 1, 2, 3, 4, 5], 6)] 6 (by decide +kernel) ?_; simp [hf,hw,hn,hs,hm,encF,hbl,hq,hc2,burn]) | (refine C_named ?_; simp [hf,hw,hn,hs,hm,encF,hbl,hq,hc2,burn]) | (refine C_bodyk tOK Tryz.func56 rfl (Nat.le_of_ble_eq_true rfl) fun K hK => ?_; simp) | (refine C_bodyk tOK Tryz.func63 rfl (Nat.le_of_ble_eq_true rfl) fun K hK => ?_; simp))
 have hp : mput (.string s.data.toList) (.agg 72 [.lit (u8l (f.b ++ b)), i64 f.last]) (encFs d.files) = encFs (dput s.data.toList { f with b := f.b ++ b } d.files) := mput_enc s.data.toList { f with b := f.b ++ b } d.files
 refine C_concat (b := b) (a := f.b) (.inl rfl) rfl hcl ?_
 simp
 repeat (first | (refine T_seqk fun K hK => ?_) | (refine T_reg tOK rfl ?_; simp [hf,hw,hn,hs,hm,encF,hbl,hlen,burn]) | (refine T_ret ?_; try simp) | (refine T_skip ?_; try simp) | (refine T_blockk fun K hK => ?_) | (with_reducible apply_assumption -exfalso -symm) | (rw [afterRF_ret]; simp [hf,hw,hn,hs,hm,encF,hbl,hlen,burn]) | (refine T_exit ?_; try simp) | (refine T_cond_t ?_ ?_; · (simp; done)) | (refine T_cond_f ?_ ?_; · (simp; done)) | (rintro _ _ (_ | _) hz9 <;> first | (simp; done) | (simp at hz9; done)) | (refine And.intro ?_ ?_) | (simp only [Post.block_ret, Post.block_exit, Post.block_normal, Post.block_pan, Post.seq_ret, Post.seq_exit, Post.seq_normal, Post.seq_pan]; try simp [hf,hw,hn,hs,hm,encF,hbl,hlen,burn]) | (refine T_loop (TL_round ?_)) | (refine TL_round ?_) | (refine T_draw tOK tmix [([], 1), ([0], 2), ([0, 1], 3), ([0, 1, 2], 4), ([], 5), ([0, 1, 2, 3, 4], 6), ([0, 1, 2, 3, 4, 5], 7), ([0, 1, 2, 3, 4, 5, 6], 8), ([0, 1, 2, 3, 4, 5, 6], 9), ([], 0), ([0, 1, 2, 3, 4, 5, 6, 7, 9], 10), ([0, 1, 2, 3, 4, 5, 6, 7, 8, 9, 10], 11)] 11 (by decide +kernel) ?_; simp [hf,hw,hn,hs,hm,encF,hbl,hlen,burn]) | (refine T_draw tOK tmix [([], 0), ([0], 1), ([], 2), ([2], 3), ([2, 3], 4), ([2, 3, 4], 5), ([], 6), ([6], 7), ([2, 3, 4, 5, 6, 7], 8), ([0, 1, 2, 3, 4, 5, 6, 7, 8], 9), ([0, 1, 2, 3, 4, 5, 6, 7, 8, 9], 10)] 9 (by decide +kernel) ?_; simp [hf,hw,hn,hs,hm,encF,hbl,hlen,burn]) | (refine T_draw tOK tmix [([], 0), ([0], 1), ([0, 1], 2), ([0, 1, 2], 3), ([], 4), ([], 5), ([0, 1, 2, 3, 4, 5], 6)] 6 (by decide +kernel) ?_; simp [hf,hw,hn,hs,hm,encF,hbl,hlen,burn]) | (refine C_bodyk tOK Tryz.func63 rfl (Nat.le_of_ble_eq_true rfl) fun K hK => ?_; simp))
 ·right; rw [hp]; simp [allStore, allBlk, allL, allB]
  exact fun a b => encFs_all _ _ (a, b)
 ·rw [hp]; simpa [frzT, frzN, burn] using h
end
end Go.Proofs.YtdplbgfokoajjaaGreat
end
