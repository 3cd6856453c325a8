/-
  DERIVED: THE SHELF's CONTRACTS AT THIS DUMP, IN PLAIN WORDS (tools/lay-plain.mjs out of 'YtdplbgfokoajjaaGreatDl0.lean', which tools/lay-shelf.mjs wrote): THE SAME DECLARATIONS UNDER THE SAME NAMES: 'import', 'namespace', 'open', 'def', 'theorem' AND NOTHING ELSE: no command of the shelf's: FOR A HAND-IN. Each laying: the table of numbers ('.._ren') and one theorem, a field a fact of the dump's own or the kernel's comparison; each contract: ONE APPLICATION.
-/
import Derived.Test.YtdplbgfokoajjaaGreatXd
import Derived.Test.YtdplbgfokoajjaaGreatXEnv
import Derived.Shelf.GgClosure.StringsIndexFuncTop
import Derived.Shelf.SlGeneric
import Derived.Ground.GgwProg
import Derived.Shelf.SlIter.Nil
import Derived.Shelf.SortM.Plain
import Derived.Shelf.SortM.SortNone
import Derived.Ground.GgzProg
import Derived.Ground.SlgmProg
section
namespace Go.Proofs
open Go.Shelf
def Tryz.cf_ren : Go.Shelf.Ren := ⟨fun | 17 => 85 | 15 => 94 | 20 => 107 | n => n, fun | 9 => 9 | 23 => 102 | 4 => 4 | 3 => 3 | 0 => 0 | 21 => 21 | n => n, fun | n => n⟩
theorem Tryz.cf : Go.Proofs.LaysGw.n17 Tryz.prog Tryz.cf_ren := {
 mixed := by kernel_rfl
 f15 := Tryz.func94.trans (congrArg some (by kernel_rfl))
 f17 := Tryz.func85.trans (congrArg some (by kernel_rfl))
 f20 := Tryz.func107.trans (congrArg some (by kernel_rfl))
 t0 := Tryz.underlying0
 a0 := Tryz.isAgg0
 z0 := Tryz.sizeOf0
 v0 := Tryz.zeroValue0
 i0 := by kernel_rfl
 t3 := Tryz.underlying3
 a3 := Tryz.isAgg3
 z3 := Tryz.sizeOf3
 v3 := Tryz.zeroValue3
 i3 := by kernel_rfl
 t4 := Tryz.underlying4
 a4 := Tryz.isAgg4
 z4 := Tryz.sizeOf4
 v4 := Tryz.zeroValue4
 i4 := by kernel_rfl
 t9 := Tryz.underlying9
 a9 := Tryz.isAgg9
 z9 := Tryz.sizeOf9
 v9 := Tryz.zeroValue9
 i9 := by kernel_rfl
 t21 := Tryz.underlying21
 a21 := Tryz.isAgg21
 z21 := Tryz.sizeOf21
 v21 := Tryz.zeroValue21
 i21 := by kernel_rfl
 t23 := Tryz.underlying102
 a23 := Tryz.isAgg102
 z23 := Tryz.sizeOf102
 v23 := Tryz.zeroValue102
 i23 := by kernel_rfl }
def Tryz.keysA_ren : Go.Shelf.Ren := ⟨fun | 7 => 50 | 10 => 80 | n => n, fun | 23 => 52 | 26 => 9 | 3 => 72 | 28 => 69 | 0 => 0 | 27 => 68 | 33 => 86 | 4 => 4 | n => n, fun | n => n⟩
theorem Tryz.keysA : Go.Proofs.SlLaysZ.n7 Tryz.prog Tryz.keysA_ren := {
 mixed := by kernel_rfl
 f7 := ⟨Tryz.f50.name, by decide, Tryz.func50.trans (congrArg some (by kernel_rfl))⟩
 f10 := ⟨Tryz.f80.name, by decide, Tryz.func80.trans (congrArg some (by kernel_rfl))⟩
 t0 := Tryz.underlying0
 a0 := Tryz.isAgg0
 z0 := Tryz.sizeOf0
 v0 := Tryz.zeroValue0
 t4 := Tryz.underlying4
 a4 := Tryz.isAgg4
 z4 := Tryz.sizeOf4
 v4 := Tryz.zeroValue4
 t23 := Tryz.underlying52
 a23 := Tryz.isAgg52
 z23 := Tryz.sizeOf52
 v23 := Tryz.zeroValue52
 t26 := Tryz.underlying9
 a26 := Tryz.isAgg9
 z26 := Tryz.sizeOf9
 v26 := Tryz.zeroValue9
 t27 := Tryz.underlying68
 a27 := Tryz.isAgg68
 z27 := Tryz.sizeOf68
 v27 := Tryz.zeroValue68
 t28 := Tryz.underlying69
 a28 := Tryz.isAgg69
 z28 := Tryz.sizeOf69
 v28 := Tryz.zeroValue69
 t33 := Tryz.underlying86
 a33 := Tryz.isAgg86
 z33 := Tryz.sizeOf86
 v33 := Tryz.zeroValue86 }
def Tryz.sortedA_ren : Go.Shelf.Ren := ⟨fun | 6 => 49 | 8 => 78 | 9 => 79 | 11 => 90 | 13 => 92 | 12 => 91 | 23 => 105 | 24 => 106 | 14 => 96 | 15 => 97 | 16 => 98 | 17 => 99 | 18 => 100 | 19 => 101 | 20 => 102 | 21 => 103 | 22 => 104 | 25 => 108 | 26 => 109 | 27 => 110 | 28 => 111 | 29 => 112 | 30 => 113 | 31 => 114 | n => n, fun | 26 => 9 | 28 => 69 | 24 => 44 | 0 => 0 | 3 => 3 | 37 => 82 | 48 => 76 | 50 => 97 | 4 => 4 | 40 => 116 | 39 => 115 | 45 => 121 | 5 => 5 | 9 => 9 | 51 => 126 | 55 => 130 | 57 => 132 | 58 => 133 | 33 => 86 | n => n, fun | n => n⟩
theorem Tryz.sortedA : Go.Proofs.SlLaysZ.n6 Tryz.prog Tryz.sortedA_ren := {
 mixed := by kernel_rfl
 f6 := ⟨Tryz.f49.name, by decide, Tryz.func49.trans (congrArg some (by kernel_rfl))⟩
 f8 := ⟨Tryz.f78.name, by decide, Tryz.func78.trans (congrArg some (by kernel_rfl))⟩
 f11 := ⟨Tryz.f90.name, by decide, Tryz.func90.trans (congrArg some (by kernel_rfl))⟩
 t0 := Tryz.underlying0
 a0 := Tryz.isAgg0
 z0 := Tryz.sizeOf0
 v0 := Tryz.zeroValue0
 t24 := Tryz.underlying44
 a24 := Tryz.isAgg44
 z24 := Tryz.sizeOf44
 v24 := Tryz.zeroValue44
 t26 := Tryz.underlying9
 a26 := Tryz.isAgg9
 z26 := Tryz.sizeOf9
 v26 := Tryz.zeroValue9
 t28 := Tryz.underlying69
 a28 := Tryz.isAgg69
 z28 := Tryz.sizeOf69
 v28 := Tryz.zeroValue69
 i26 := by kernel_rfl }
def Tryz.sortA_ren : Go.Shelf.Ren := ⟨fun | 6 => 79 | 8 => 92 | 9 => 91 | 19 => 105 | 20 => 106 | 21 => 96 | 22 => 97 | 23 => 98 | 24 => 99 | 25 => 100 | 26 => 101 | 27 => 102 | 28 => 103 | 29 => 104 | 36 => 108 | 31 => 109 | 32 => 110 | 37 => 111 | 38 => 112 | 39 => 113 | 41 => 114 | n => n, fun | 27 => 44 | 29 => 9 | 3 => 3 | 32 => 82 | 26 => 44 | 0 => 0 | 44 => 76 | 46 => 97 | 4 => 4 | 36 => 116 | 35 => 115 | 41 => 121 | 5 => 5 | 9 => 9 | 53 => 126 | 57 => 130 | 63 => 132 | 64 => 133 | n => n, fun | n => n⟩
theorem Tryz.sortA : Go.Proofs.SlLaysM.n6 Tryz.prog Tryz.sortA_ren := {
 mixed := by kernel_rfl
 f6 := ⟨Tryz.f79.name, by decide, Tryz.func79.trans (congrArg some (by kernel_rfl))⟩
 f8 := Tryz.func92.trans (congrArg some (by kernel_rfl))
 f9 := ⟨Tryz.f91.name, by decide, Tryz.func91.trans (congrArg some (by kernel_rfl))⟩
 f19 := Tryz.func105.trans (congrArg some (by kernel_rfl))
 f20 := Tryz.func106.trans (congrArg some (by kernel_rfl))
 f21 := ⟨Tryz.f96.name, by decide, Tryz.func96.trans (congrArg some (by kernel_rfl))⟩
 f22 := ⟨Tryz.f97.name, by decide, Tryz.func97.trans (congrArg some (by kernel_rfl))⟩
 f23 := ⟨Tryz.f98.name, by decide, Tryz.func98.trans (congrArg some (by kernel_rfl))⟩
 f24 := ⟨Tryz.f99.name, by decide, Tryz.func99.trans (congrArg some (by kernel_rfl))⟩
 f25 := ⟨Tryz.f100.name, by decide, Tryz.func100.trans (congrArg some (by kernel_rfl))⟩
 f26 := ⟨Tryz.f101.name, by decide, Tryz.func101.trans (congrArg some (by kernel_rfl))⟩
 f27 := ⟨Tryz.f102.name, by decide, Tryz.func102.trans (congrArg some (by kernel_rfl))⟩
 f28 := ⟨Tryz.f103.name, by decide, Tryz.func103.trans (congrArg some (by kernel_rfl))⟩
 f29 := ⟨Tryz.f104.name, by decide, Tryz.func104.trans (congrArg some (by kernel_rfl))⟩
 f31 := Tryz.func109.trans (congrArg some (by kernel_rfl))
 f32 := Tryz.func110.trans (congrArg some (by kernel_rfl))
 f36 := ⟨Tryz.f108.name, by decide, Tryz.func108.trans (congrArg some (by kernel_rfl))⟩
 f37 := ⟨Tryz.f111.name, by decide, Tryz.func111.trans (congrArg some (by kernel_rfl))⟩
 f38 := ⟨Tryz.f112.name, by decide, Tryz.func112.trans (congrArg some (by kernel_rfl))⟩
 f39 := ⟨Tryz.f113.name, by decide, Tryz.func113.trans (congrArg some (by kernel_rfl))⟩
 f41 := ⟨Tryz.f114.name, by decide, Tryz.func114.trans (congrArg some (by kernel_rfl))⟩
 t0 := Tryz.underlying0
 a0 := Tryz.isAgg0
 z0 := Tryz.sizeOf0
 v0 := Tryz.zeroValue0
 t3 := Tryz.underlying3
 a3 := Tryz.isAgg3
 z3 := Tryz.sizeOf3
 v3 := Tryz.zeroValue3
 t4 := Tryz.underlying4
 a4 := Tryz.isAgg4
 z4 := Tryz.sizeOf4
 v4 := Tryz.zeroValue4
 t5 := Tryz.underlying5
 a5 := Tryz.isAgg5
 z5 := Tryz.sizeOf5
 v5 := Tryz.zeroValue5
 t9 := Tryz.underlying9
 a9 := Tryz.isAgg9
 z9 := Tryz.sizeOf9
 v9 := Tryz.zeroValue9
 t26 := Tryz.underlying44
 a26 := Tryz.isAgg44
 z26 := Tryz.sizeOf44
 v26 := Tryz.zeroValue44
 t27 := Tryz.underlying44
 a27 := Tryz.isAgg44
 z27 := Tryz.sizeOf44
 v27 := Tryz.zeroValue44
 t29 := Tryz.underlying9
 a29 := Tryz.isAgg9
 z29 := Tryz.sizeOf9
 v29 := Tryz.zeroValue9
 t32 := Tryz.underlying82
 a32 := Tryz.isAgg82
 z32 := Tryz.sizeOf82
 v32 := Tryz.zeroValue82
 t35 := Tryz.underlying115
 a35 := Tryz.isAgg115
 z35 := Tryz.sizeOf115
 v35 := Tryz.zeroValue115
 t36 := Tryz.underlying116
 a36 := Tryz.isAgg116
 z36 := Tryz.sizeOf116
 v36 := Tryz.zeroValue116
 t41 := Tryz.underlying121
 a41 := Tryz.isAgg121
 z41 := Tryz.sizeOf121
 v41 := Tryz.zeroValue121
 t44 := Tryz.underlying76
 a44 := Tryz.isAgg76
 z44 := Tryz.sizeOf76
 v44 := Tryz.zeroValue76
 t46 := Tryz.underlying97
 a46 := Tryz.isAgg97
 z46 := Tryz.sizeOf97
 v46 := Tryz.zeroValue97
 t53 := Tryz.underlying126
 a53 := Tryz.isAgg126
 z53 := Tryz.sizeOf126
 v53 := Tryz.zeroValue126
 t57 := Tryz.underlying130
 a57 := Tryz.isAgg130
 z57 := Tryz.sizeOf130
 v57 := Tryz.zeroValue130
 t63 := Tryz.underlying132
 a63 := Tryz.isAgg132
 z63 := Tryz.sizeOf132
 v63 := Tryz.zeroValue132
 t64 := Tryz.underlying133
 a64 := Tryz.isAgg133
 z64 := Tryz.sizeOf133
 v64 := Tryz.zeroValue133 }
end Go.Proofs
end
section
set_option maxRecDepth 20000
set_option linter.unusedVariables false
set_option linter.unusedSimpArgs false
namespace Go.Proofs
open Go Go.RowKit Go.Maps Go.Sort Go.Shelf Go.Lib
def oddR (r : Nat) : Bool := !(decide (97 ≤ r) && decide (r ≤ 122) || decide (48 ≤ r) && decide (r ≤ 57) || decide (r = 46) || decide (r = 45))
theorem Tryz.odd (w : World) : PredAt Tryz.prog 84 #[] encR oddR w := fun W r _ => by
  unfold FnGives
  have z1 : (97 : Int) ≤ (r : Int) ↔ 97 ≤ r := by omega
  have z2 : (r : Int) ≤ 122 ↔ r ≤ 122 := by omega
  have z3 : (48 : Int) ≤ (r : Int) ↔ 48 ≤ r := by omega
  have z4 : (r : Int) ≤ 57 ↔ r ≤ 57 := by omega
  have z5 : (r : Int) = 46 ↔ r = 46 := by omega
  have z6 : (r : Int) = 45 ↔ r = 45 := by omega
  by_cases h1 : 97 ≤ r <;> by_cases h2 : r ≤ 122 <;> by_cases h3 : 48 ≤ r <;> by_cases h4 : r ≤ 57 <;> by_cases h5 : r = 46 <;> by_cases h6 : r = 45
  all_goals first
    | (exfalso; omega)
    | (go_enter Tryz.func84, Tryz.ntmps84
       go_wp2
       all_goals first | (exfalso; omega) | (go_ret; exact ⟨by simp [oddR, h1, h2, h3, h4, h5, h6] <;> omega, 0, rfl⟩))
theorem Tryz.contains (s : ByteArray) (w : World) : Calls Tryz.prog 85 #[.string s, .func (.func 84) #[] #[]] w fun e w' => e = .returned (.bool (decide (0 ≤ idxFunc oddR true s))) ∧ Below w.heap.size w w' :=
 Any.strings_ContainsFunc Tryz.cf 84 #[] (enters_of Tryz.func84 (by kernel_rfl) rfl) oddR s w (Tryz.odd w)
theorem Tryz.sorts (m : Nat) : AnyZ.SortsIn Tryz.prog Tryz.sortedA_ren Fence.wide m :=
  ⟨fun blk off cap ss W hH hblk hsz => callsIn_wide.2 (AnyM.slices_Sort_string Tryz.sortA blk off cap ss W hH hblk hsz),
   fun p cap W => callsIn_wide.2 (AnyM.slices_Sort_string_none Tryz.sortA p cap W)⟩
theorem Tryz.sorted {H : Type} (B b nn : Nat) (D0 : DataW H) (R : Value → Option (DataW H × List MemPlace)) (w : World) (hB : B < w.heap.size) (hcell : w.cell? ⟨B, 0, none⟩ = some (.map (some b))) (hown : w.ownsMap Tryz.prog 9 R b nn D0)
  (hmax : Maps.size D0 ≤ maxLen) (hbytes : Maps.size D0 * 16 ≤ 140737488355328) :
  Calls Tryz.prog 49 #[.func (.func 80) #[] #[.pointer (some ⟨B, 0, none⟩)]] w fun e w' => ∃ (v : Value) (ss : List (List UInt8)), e = .returned v ∧ ss.Perm (strKeys D0) ∧
   w'.ownsRow w.heap.size 9 1 v ss.length ((ss.mergeSort (fun x y => decide (x ≤ y))).map encStr) ∧ (v = .slice none 0 0 ↔ ss = []) ∧ Below w.heap.size w w' := by
 refine (callsIn_wide (n := 5)).1 ?_
 have hseq : SeqGives Fence.wide 2 Tryz.prog 80 #[.pointer (some ⟨B, 0, none⟩)] encStr (fun ss => ss.Perm (strKeys D0)) (Maps.size D0) w :=
  AnyZ.keys_gives (ρ := Tryz.keysA_ren) { Tryz.keysA with } Fence.wide _ trivial rfl (by omega) B b nn D0 _ hB hcell hown
 exact AnyZ.sorted_in Tryz.sortedA Fence.wide 5 trivial trivial trivial trivial rfl (by omega) (Tryz.sorts _) (enters_of Tryz.func79 (by kernel_rfl) rfl) 80 #[.pointer (some ⟨B, 0, none⟩)] trivial (enters_of Tryz.func80 (by kernel_rfl) rfl) _ _ hmax hbytes _ hseq
end Go.Proofs
namespace Go.Proofs.YtdplbgfokoajjaaGreat
open Go
section
variable {E : Env}
theorem VL.cons_inv {c : Cx} {x : PV} {xs : List PV} {vs : List Value} (h : VL E c (x :: xs) vs) : ∃ v us, vs = v :: us ∧ V E c x v ∧ VL E c xs us := by
 cases h with
 | undef hs => exact ⟨_, _, rfl, .undef .nil, hs⟩
 | one h1 hn h hs => exact ⟨_, _, rfl, .one h1 hn h .nil, hs⟩
 | agg h hs => exact ⟨_, _, rfl, .agg h .nil, hs⟩
 | tup h hs => exact ⟨_, _, rfl, .tup h .nil, hs⟩
theorem VL.nil_inv {c : Cx} {vs : List Value} (h : VL E c [] vs) : vs = [] := by cases h; rfl
theorem arr_of {vs : Array Value} {l : List Value} (h : vs.toList = l) : vs = l.toArray := by rw [← h]
end
theorem C_contains {R : Re → Store → Prop} {σ : Store} {s : ByteArray} (h : R (.ret (.bool (decide (0 ≤ Lib.idxFunc oddR true s)))) σ) : C tE 85 [.str s, .fn (.func 84) [] []] σ R :=
 C_below fun cx vs hn hv => by
  obtain ⟨v, us, e1, h1, h2⟩ := hv.cons_inv
  obtain ⟨u, us', rfl, h3, h4⟩ := h2.cons_inv
  have := h4.nil_inv; subst this
  obtain ⟨a, b, rfl, h5, h6⟩ := h3.fn_inv
  have ea : a = #[] := by simpa using h5.nil_inv
  have eb : b = #[] := by simpa using h6.nil_inv
  subst ea; subst eb
  rw [h1.str_inv] at e1
  rw [arr_of e1]
  refine (Tryz.contains s cx.w).mono ?_
  rintro e w' ⟨rfl, hb⟩
  exact ⟨hb, _, h, V_one (.bool _) (by simp)⟩
def strs (l : List (List UInt8)) : List PV := l.map fun n => .str ⟨n.toArray⟩
theorem VCs_strs {c : Cx} : ∀ l : List (List UInt8), VCs tE c (List.replicate (strs l).length 9) (strs l) (l.map encStr)
 | [] => .nil
 | n :: l => by
  have := VCs.cons (E := tE) (c := c) (T := 9) (x := .str ⟨n.toArray⟩) (by simp [fits]) (.str _) (VCs_strs l)
  simpa [strs, List.replicate_succ] using this
theorem ML.keys {E : Env} {c : Cx} {es : List (Lit × PV)} {ds : List (Lit × DataW Value)} (h : ML E c es ds) : ds.map (·.1) = es.map (·.1) := by
 induction h with
 | nil => rfl
 | cons h hs ih => simp [ih]
theorem C_sorted {R : Re → Store → Prop} {σ : Store} {i b : Nat} {T : TypeId} {es : List (Lit × PV)} (h0 : Store.at σ i = some (.cells T 0 [.map b])) (h1 : Store.at σ b = some (.mp 9 es)) (hl : es.length < 1000000000)
  (h : R (.ret (.lit (strs ((es.map fun p => strOf p.1).mergeSort fun x y => decide (x ≤ y))))) σ) :
  C tE 49 [.fn (.func 80) [] [.ptr i 0 0 []]] σ R :=
 C_below fun cx vs hn hv => by
  obtain ⟨v, us, e1, h2, h3⟩ := hv.cons_inv
  have := h3.nil_inv; subst this
  obtain ⟨a, d, rfl, h5, h6⟩ := h2.fn_inv
  have ea : a = #[] := by simpa using h5.nil_inv
  subst ea
  obtain ⟨p, us, e2, h7, h8⟩ := h6.cons_inv
  have := h8.nil_inv; subst this
  obtain ⟨m, ca, el, fz, cs, j1, j2, j3, j4, j5, j6, j7, j8, j9⟩ := hn.blk h0
  have hbase := hn.base i m j1 j2
  have hp : p = .pointer (some ⟨m.blk, 0, none⟩) := by
   have := h7.ptr_inv.2.2 m j1 j2
   simpa [hbase, pathOff] using this
  have hmapv : ∃ u, VC tE cx (.map b) [u] ∧ cs = [u] := by
   cases j6 with
   | cons hf hx hs =>
    cases hs
    obtain ⟨u, rfl⟩ := hx.scalar (by simp)
    exact ⟨u, hx, by simp⟩
  obtain ⟨u, hu, rfl⟩ := hmapv
  obtain ⟨mb, ds, k1, k2, k3, k4, k5, k6⟩ := hn.mp h1 (V_one hu (by simp))
  have hcell : cx.w.cell? ⟨m.blk, 0, none⟩ = some (.map (some mb.blk)) := by
   have := j7 0 u rfl
   rw [hbase] at this
   simp only [World.cell?, j4]
   rw [← k4]; simpa using this
  have hlen := k6.len
  have hB : m.blk < cx.w.heap.size := by obtain ⟨_, _, h, _⟩ := hn.dom i m j1; exact h
  rw [arr_of e1, show d = #[p] from arr_of e2, hp]
  refine (Tryz.sorted m.blk mb.blk ds.length (.map ds) asHeld cx.w hB hcell k5 ?_ ?_).mono ?_
  ·simp only [Maps.size]; have : 1000000000 ≤ maxLen := by decide
   omega
  ·simp only [Maps.size]; omega
  rintro e w' ⟨v, ss, rfl, hperm, hrow, _, hb⟩
  have hk : strKeys (DataW.map ds) = es.map fun p => strOf p.1 := by
   have := congrArg (List.map strOf) k6.keys
   simpa [strKeys, List.map_map, Function.comp_def] using this
  rw [hk] at hperm
  have hm : ss.mergeSort (fun x y => decide (x ≤ y)) = (es.map fun p => strOf p.1).mergeSort (fun x y => decide (x ≤ y)) := mergeSort_of_perm hperm
  rw [hm] at hrow
  exact ⟨hb, _, h, V_row hrow (by simp [strs, hperm.length_eq]) (VCs_strs _)⟩
end Go.Proofs.YtdplbgfokoajjaaGreat
end
section
set_option linter.unusedVariables false
set_option linter.unusedSimpArgs false
set_option maxRecDepth 20000
namespace Go.Proofs.YtdplbgfokoajjaaGreat
open Go
theorem tmix : tE.P.follows .mixedOrders = true := by kernel_rfl
attribute [local simp] RF_nil RF_cons afterRF_ret nilCmp sop sGuard isCall sCallee Fr.eval Fr.get Fr.put ofConst sLoad sStore sBuiltin Fr.args bodyQ sRes oneOf sBin sInt sUn
attribute [local simp] RD_nil RD_cons noConf clear accAdd Tab.pr Tab.slot foot wid idOf refId Op.operands Call.operands sFieldAddr sNilCheck sLookup keyLit sMapSet sMapDel sLen Store.at Store.new getP setP typeAt fits evalParts sBuildSlice sFill sList sApp sAppend frzRe frz pureB pureL
abbrev i64 (n : Int) : PV := .int .i64 n
structure Fl where
 b : List UInt8
 last : Int
def u8l (l : List UInt8) : List PV := l.map fun b => .int .u8 b.toNat
abbrev u8s (l : List UInt8) : PV := .lit (u8l l)
def encF (f : Fl) : PV := .agg 72 [u8s f.b, i64 f.last]
structure Dk where
 room : Int
 files : List (List UInt8 × Fl)
 fuse : Int
 fail : Int
def encFs (l : List (List UInt8 × Fl)) : List (Lit × PV) := l.map fun p => (.string p.1, encF p.2)
def dkB (d : Dk) : Blk := .cells 54 0 [.agg 54 [i64 d.room, .map 1, i64 d.fuse, i64 d.fail]]
def dkS (d : Dk) : Store := [some (dkB d), some (.mp 9 (encFs d.files))]
attribute [local simp] dkB dkS u8s
theorem frz_u8l (σ : Store) (n : Nat) {l : List UInt8} : ∀ x ∈ u8l l, frz σ (n + 1) x = some x := fun x hx => by
 obtain ⟨b, _, rfl⟩ := List.mem_map.1 hx; rfl
theorem u8_fit (l : List UInt8) : ((l.map fun b => PV.int .u8 b.toNat).all (fits tE 5)) = true := by
 rw [List.all_map, List.all_eq_true]; intro b _; simp [fits]
theorem u8_fit' (l : List UInt8) : ∀ x ∈ (l.map fun b => PV.int .u8 b.toNat), fits tE 5 x = true := fun x hx => List.all_eq_true.1 (u8_fit l) x hx
section
variable {R : Re → Store → Prop} {σ : Store} {l : List UInt8}
theorem C_clone (hl : l.length < 1000000000) (h : R (.ret (u8s l)) σ) : C tE 74 [u8s l] σ R := by
 refine C_pure tOK (by simp [pureL, pureB]) ?_
 unfold u8s u8l
 cases l with
 | nil =>
  refine C_bodyk tOK Tryz.func74 rfl (Nat.le_of_ble_eq_true rfl) fun K hK => ?_; simp
  repeat (first | (refine T_seqk fun K hK => ?_) | (refine T_reg tOK rfl ?_; simp) | (refine T_ret ?_; try simp) | (refine T_skip ?_; try simp) | (refine T_blockk fun K hK => ?_) | (with_reducible apply_assumption -exfalso -symm) | (rw [afterRF_ret]; simp) | (refine T_exit ?_; try simp) | (refine T_cond_t ?_ ?_; · (simp; done)) | (refine T_cond_f ?_ ?_; · (simp; done)) | (rintro _ _ (_ | _) hz9 <;> first | (simp; done) | (simp at hz9; done)) | (refine And.intro ?_ ?_) | (simp only [Post.block_ret, Post.block_exit, Post.block_normal, Post.block_pan, Post.seq_ret, Post.seq_exit, Post.seq_normal, Post.seq_pan]; try simp) | (refine T_loop (TL_round ?_)) | (refine TL_round ?_))
 | cons b l =>
  have hl' : 2 * (l.length + 1) ≤ 281474976709656 := by simp at hl; omega
  refine C_bodyk tOK Tryz.func74 rfl (Nat.le_of_ble_eq_true rfl) fun K hK => ?_; simp
  repeat (first | (refine T_seqk fun K hK => ?_) | (refine T_reg tOK rfl ?_; simp [hl']) | (refine T_ret ?_; try simp) | (refine T_skip ?_; try simp) | (refine T_blockk fun K hK => ?_) | (with_reducible apply_assumption -exfalso -symm) | (rw [afterRF_ret]; simp [hl']) | (refine T_exit ?_; try simp) | (refine T_cond_t ?_ ?_; · (simp; done)) | (refine T_cond_f ?_ ?_; · (simp; done)) | (rintro _ _ (_ | _) hz9 <;> first | (simp; done) | (simp at hz9; done)) | (refine And.intro ?_ ?_) | (simp only [Post.block_ret, Post.block_exit, Post.block_normal, Post.block_pan, Post.seq_ret, Post.seq_exit, Post.seq_normal, Post.seq_pan]; try simp [hl']) | (refine T_loop (TL_round ?_)) | (refine TL_round ?_))
  rw [frzRe, frz_row (xs := u8l (b :: l)) rfl (by simp [u8l]) (frz_u8l _ _)]
  have e : ((u8l (b :: l)).drop 0).take (l.length + 1) = u8l (b :: l) := by rw [List.drop_zero]; exact List.take_of_length_le (by simp [u8l])
  rw [e]; exact h
end
section
variable {R : Re → Store → Prop} {d : Dk} {n : Int}
theorem C_fuse (h : R (.ret (.tup [])) (dkS { d with fuse := max n (-1) })) : C tE 28 [.ptr 0 0 0 [], i64 n] (dkS d) R := by
 refine C_bodyk tOK Tryz.func28 rfl (Nat.le_of_ble_eq_true rfl) fun K hK => ?_; simp
 repeat (first | (refine T_seqk fun K hK => ?_) | (refine T_reg tOK rfl ?_; simp) | (refine T_ret ?_; try simp) | (refine T_skip ?_; try simp) | (refine T_blockk fun K hK => ?_) | (with_reducible apply_assumption -exfalso -symm) | (rw [afterRF_ret]; simp) | (refine T_exit ?_; try simp) | (refine T_cond_t ?_ ?_; · (simp; done)) | (refine T_cond_f ?_ ?_; · (simp; done)) | (rintro _ _ (_ | _) hz9 <;> first | (simp; done) | (simp at hz9; done)) | (refine And.intro ?_ ?_) | (simp only [Post.block_ret, Post.block_exit, Post.block_normal, Post.block_pan, Post.seq_ret, Post.seq_exit, Post.seq_normal, Post.seq_pan]; try simp) | (refine T_loop (TL_round ?_)) | (refine TL_round ?_))
end
def named (s : ByteArray) : Bool := !s.toList.isEmpty && decide ((s.size : Int) ≤ 16) && !decide (0 ≤ Lib.idxFunc oddR true s)
section
variable {R : Re → Store → Prop} {σ : Store} {d : Dk} {n : Int} {s : ByteArray}
set_option maxHeartbeats 400000 in
theorem C_named (h : R (.ret (.bool (named s))) σ) : C tE 60 [.str s] σ R := by
 unfold named at h
 by_cases e : s.toList = []
 ·have e' : s.toList.isEmpty = true := by simp [e]
  have h : R (.ret (.bool false)) σ := by simpa [e] using h
  refine C_bodyk tOK Tryz.func60 rfl (Nat.le_of_ble_eq_true rfl) fun K hK => ?_; simp
  repeat (first | (refine T_seqk fun K hK => ?_) | (refine T_reg tOK rfl ?_; simp [e]) | (refine T_ret ?_; try simp) | (refine T_skip ?_; try simp) | (refine T_blockk fun K hK => ?_) | (with_reducible apply_assumption -exfalso -symm) | (rw [afterRF_ret]; simp [e]) | (refine T_exit ?_; try simp) | (refine T_cond_t ?_ ?_; · (simp; done)) | (refine T_cond_f ?_ ?_; · (simp; done)) | (rintro _ _ (_ | _) hz9 <;> first | (simp; done) | (simp at hz9; done)) | (refine And.intro ?_ ?_) | (simp only [Post.block_ret, Post.block_exit, Post.block_normal, Post.block_pan, Post.seq_ret, Post.seq_exit, Post.seq_normal, Post.seq_pan]; try simp [e]) | (refine T_loop (TL_round ?_)) | (refine TL_round ?_) | (refine C_contains ?_; simp [e]))
 ·have e' : s.toList.isEmpty = false := by simp [e]
  clear e
  cases l : decide ((s.size : Int) ≤ 16) with
  | true =>
   have h : R (.ret (.bool (!decide (0 ≤ Lib.idxFunc oddR true s)))) σ := by simpa only [e', l, Bool.not_false, Bool.true_and] using h
   refine C_bodyk tOK Tryz.func60 rfl (Nat.le_of_ble_eq_true rfl) fun K hK => ?_; simp
   repeat (first | (refine T_seqk fun K hK => ?_) | (refine T_reg tOK rfl ?_; simp [e',l]) | (refine T_ret ?_; try simp) | (refine T_skip ?_; try simp) | (refine T_blockk fun K hK => ?_) | (with_reducible apply_assumption -exfalso -symm) | (rw [afterRF_ret]; simp [e',l]) | (refine T_exit ?_; try simp) | (refine T_cond_t ?_ ?_; · (simp; done)) | (refine T_cond_f ?_ ?_; · (simp; done)) | (rintro _ _ (_ | _) hz9 <;> first | (simp; done) | (simp at hz9; done)) | (refine And.intro ?_ ?_) | (simp only [Post.block_ret, Post.block_exit, Post.block_normal, Post.block_pan, Post.seq_ret, Post.seq_exit, Post.seq_normal, Post.seq_pan]; try simp [e',l]) | (refine T_loop (TL_round ?_)) | (refine TL_round ?_) | (refine C_contains ?_; simp [e',l]))
  | false =>
   have h : R (.ret (.bool false)) σ := by simpa only [e', l, Bool.not_false, Bool.true_and, Bool.false_and] using h
   refine C_bodyk tOK Tryz.func60 rfl (Nat.le_of_ble_eq_true rfl) fun K hK => ?_; simp
   repeat (first | (refine T_seqk fun K hK => ?_) | (refine T_reg tOK rfl ?_; simp [e',l]) | (refine T_ret ?_; try simp) | (refine T_skip ?_; try simp) | (refine T_blockk fun K hK => ?_) | (with_reducible apply_assumption -exfalso -symm) | (rw [afterRF_ret]; simp [e',l]) | (refine T_exit ?_; try simp) | (refine T_cond_t ?_ ?_; · (simp; done)) | (refine T_cond_f ?_ ?_; · (simp; done)) | (rintro _ _ (_ | _) hz9 <;> first | (simp; done) | (simp at hz9; done)) | (refine And.intro ?_ ?_) | (simp only [Post.block_ret, Post.block_exit, Post.block_normal, Post.block_pan, Post.seq_ret, Post.seq_exit, Post.seq_normal, Post.seq_pan]; try simp [e',l]) | (refine T_loop (TL_round ?_)) | (refine TL_round ?_) | (refine C_contains ?_; simp [e',l]))
theorem C_fail (h : R (.ret (.tup [])) (dkS { d with fail := max n 0 })) : C tE 24 [.ptr 0 0 0 [], i64 n] (dkS d) R := by
 refine C_bodyk tOK Tryz.func24 rfl (Nat.le_of_ble_eq_true rfl) fun K hK => ?_; simp
 repeat (first | (refine T_seqk fun K hK => ?_) | (refine T_reg tOK rfl ?_; simp) | (refine T_ret ?_; try simp) | (refine T_skip ?_; try simp) | (refine T_blockk fun K hK => ?_) | (with_reducible apply_assumption -exfalso -symm) | (rw [afterRF_ret]; simp) | (refine T_exit ?_; try simp) | (refine T_cond_t ?_ ?_; · (simp; done)) | (refine T_cond_f ?_ ?_; · (simp; done)) | (rintro _ _ (_ | _) hz9 <;> first | (simp; done) | (simp at hz9; done)) | (refine And.intro ?_ ?_) | (simp only [Post.block_ret, Post.block_exit, Post.block_normal, Post.block_pan, Post.seq_ret, Post.seq_exit, Post.seq_normal, Post.seq_pan]; try simp) | (refine T_loop (TL_round ?_)) | (refine TL_round ?_))
end
theorem encFs_all (p : Nat → Bool) (l : List (List UInt8 × Fl)) : ∀ a ∈ encFs l, allB p a.2 = true := fun a ha => by
 obtain ⟨x, _, rfl⟩ := List.mem_map.1 ha
 simp [encF, u8s, allB, allL]
def names (d : Dk) : List (List UInt8) := (d.files.map (·.1)).mergeSort fun x y => decide (x ≤ y)
section
variable {R : Re → Store → Prop} {d : Dk} {n : Int} {s : ByteArray}
theorem C_list (hl : d.files.length < 1000000000) (h : R (.ret (.lit (strs (names d)))) (dkS d)) : C tE 16 [.ptr 0 0 0 []] (dkS d) R := by
 have hn : ((encFs d.files).map fun p => strOf p.1) = d.files.map (·.1) := by simp [encFs, strOf, Function.comp_def]
 refine C_new tOK ?_
 refine C_bodyk tOK Tryz.func16 rfl (Nat.le_of_ble_eq_true rfl) fun K hK => ?_; simp
 repeat (first | (refine T_seqk fun K hK => ?_) | (refine T_reg tOK rfl ?_; simp) | (refine T_ret ?_; try simp) | (refine T_skip ?_; try simp) | (refine T_blockk fun K hK => ?_) | (with_reducible apply_assumption -exfalso -symm) | (rw [afterRF_ret]; simp) | (refine T_exit ?_; try simp) | (refine T_cond_t ?_ ?_; · (simp; done)) | (refine T_cond_f ?_ ?_; · (simp; done)) | (rintro _ _ (_ | _) hz9 <;> first | (simp; done) | (simp at hz9; done)) | (refine And.intro ?_ ?_) | (simp only [Post.block_ret, Post.block_exit, Post.block_normal, Post.block_pan, Post.seq_ret, Post.seq_exit, Post.seq_normal, Post.seq_pan]; try simp) | (refine T_loop (TL_round ?_)) | (refine TL_round ?_) | (refine C_bodyk tOK Tryz.func50 rfl (Nat.le_of_ble_eq_true rfl) fun K hK => ?_; simp))
 refine C_sorted (i := 2) (b := 1) (T := 52) (es := encFs d.files) rfl rfl (by simpa [encFs] using hl) ?_
 rw [hn]
 repeat (first | (refine T_seqk fun K hK => ?_) | (refine T_reg tOK rfl ?_; simp) | (refine T_ret ?_; try simp) | (refine T_skip ?_; try simp) | (refine T_blockk fun K hK => ?_) | (with_reducible apply_assumption -exfalso -symm) | (rw [afterRF_ret]; simp) | (refine T_exit ?_; try simp) | (refine T_cond_t ?_ ?_; · (simp; done)) | (refine T_cond_f ?_ ?_; · (simp; done)) | (rintro _ _ (_ | _) hz9 <;> first | (simp; done) | (simp at hz9; done)) | (refine And.intro ?_ ?_) | (simp only [Post.block_ret, Post.block_exit, Post.block_normal, Post.block_pan, Post.seq_ret, Post.seq_exit, Post.seq_normal, Post.seq_pan]; try simp) | (refine T_loop (TL_round ?_)) | (refine TL_round ?_))
 ·exact .inl rfl
 ·simpa [frzT, frzN, names] using h
end
def dget (n : List UInt8) (l : List (List UInt8 × Fl)) : Option Fl := (l.find? fun p => p.1 == n).map (·.2)
theorem mget_enc (n : List UInt8) : ∀ l, mget (.string n) (encFs l) = (dget n l).map encF
 | [] => rfl
 | p :: l => by
  have ih := mget_enc n l
  unfold mget dget encFs at *
  simp only [List.map_cons, List.find?_cons, Lit.sameKey] at *
  cases h : p.1 == n
  ·simpa [h] using ih
  ·simp [h]
section
variable {R : Re → Store → Prop} {σ : Store} {d : Dk} {n : Int} {s : ByteArray}
theorem C_clone0 (h : R (.ret (u8s [])) σ) : C tE 74 [.nils] σ R := by
 refine C_pure tOK rfl ?_
 refine C_bodyk tOK Tryz.func74 rfl (Nat.le_of_ble_eq_true rfl) fun K hK => ?_; simp
 repeat (first | (refine T_seqk fun K hK => ?_) | (refine T_reg tOK rfl ?_; simp) | (refine T_ret ?_; try simp) | (refine T_skip ?_; try simp) | (refine T_blockk fun K hK => ?_) | (with_reducible apply_assumption -exfalso -symm) | (rw [afterRF_ret]; simp) | (refine T_exit ?_; try simp) | (refine T_cond_t ?_ ?_; · (simp; done)) | (refine T_cond_f ?_ ?_; · (simp; done)) | (rintro _ _ (_ | _) hz9 <;> first | (simp; done) | (simp at hz9; done)) | (refine And.intro ?_ ?_) | (simp only [Post.block_ret, Post.block_exit, Post.block_normal, Post.block_pan, Post.seq_ret, Post.seq_exit, Post.seq_normal, Post.seq_pan]; try simp) | (refine T_loop (TL_round ?_)) | (refine TL_round ?_))
theorem C_read (hs : s.size ≤ maxLen) (hb : ∀ f, dget s.data.toList d.files = some f → f.b.length < 1000000000)
  (h : R (.ret (.tup [u8s ((dget s.data.toList d.files).elim [] (·.b)), .bool (dget s.data.toList d.files).isSome])) (dkS d)) : C tE 39 [.ptr 0 0 0 [], .str s] (dkS d) R := by
 have hm := mget_enc s.data.toList d.files
 refine C_new tOK ?_
 cases hg : dget s.data.toList d.files with
 | none =>
  rw [hg] at hm h
  refine C_bodyk tOK Tryz.func39 rfl (Nat.le_of_ble_eq_true rfl) fun K hK => ?_; simp
  repeat (first | (refine T_seqk fun K hK => ?_) | (refine T_reg tOK rfl ?_; simp [hs,hm]) | (refine T_ret ?_; try simp) | (refine T_skip ?_; try simp) | (refine T_blockk fun K hK => ?_) | (with_reducible apply_assumption -exfalso -symm) | (rw [afterRF_ret]; simp [hs,hm]) | (refine T_exit ?_; try simp) | (refine T_cond_t ?_ ?_; · (simp; done)) | (refine T_cond_f ?_ ?_; · (simp; done)) | (rintro _ _ (_ | _) hz9 <;> first | (simp; done) | (simp at hz9; done)) | (refine And.intro ?_ ?_) | (simp only [Post.block_ret, Post.block_exit, Post.block_normal, Post.block_pan, Post.seq_ret, Post.seq_exit, Post.seq_normal, Post.seq_pan]; try simp [hs,hm]) | (refine T_loop (TL_round ?_)) | (refine TL_round ?_) | (refine C_clone0 ?_; simp [hs,hm]))
  ·exact .inl rfl
  ·simpa [frzT, frzN] using h
 | some f =>
  have hb := hb f hg
  rw [hg] at hm h
  refine C_bodyk tOK Tryz.func39 rfl (Nat.le_of_ble_eq_true rfl) fun K hK => ?_; simp
  repeat (first | (refine T_seqk fun K hK => ?_) | (refine T_reg tOK rfl ?_; simp [hs,hm,encF]) | (refine T_ret ?_; try simp) | (refine T_skip ?_; try simp) | (refine T_blockk fun K hK => ?_) | (with_reducible apply_assumption -exfalso -symm) | (rw [afterRF_ret]; simp [hs,hm,encF]) | (refine T_exit ?_; try simp) | (refine T_cond_t ?_ ?_; · (simp; done)) | (refine T_cond_f ?_ ?_; · (simp; done)) | (rintro _ _ (_ | _) hz9 <;> first | (simp; done) | (simp at hz9; done)) | (refine And.intro ?_ ?_) | (simp only [Post.block_ret, Post.block_exit, Post.block_normal, Post.block_pan, Post.seq_ret, Post.seq_exit, Post.seq_normal, Post.seq_pan]; try simp [hs,hm,encF]) | (refine T_loop (TL_round ?_)) | (refine TL_round ?_))
  refine C_clone hb ?_
  repeat (first | (refine T_seqk fun K hK => ?_) | (refine T_reg tOK rfl ?_; simp) | (refine T_ret ?_; try simp) | (refine T_skip ?_; try simp) | (refine T_blockk fun K hK => ?_) | (with_reducible apply_assumption -exfalso -symm) | (rw [afterRF_ret]; simp) | (refine T_exit ?_; try simp) | (refine T_cond_t ?_ ?_; · (simp; done)) | (refine T_cond_f ?_ ?_; · (simp; done)) | (rintro _ _ (_ | _) hz9 <;> first | (simp; done) | (simp at hz9; done)) | (refine And.intro ?_ ?_) | (simp only [Post.block_ret, Post.block_exit, Post.block_normal, Post.block_pan, Post.seq_ret, Post.seq_exit, Post.seq_normal, Post.seq_pan]; try simp) | (refine T_loop (TL_round ?_)) | (refine TL_round ?_))
  ·exact .inl rfl
  ·simpa [frzT, frzN] using h
theorem C_synced (hs : s.size ≤ maxLen)
  (h : R (.ret (i64 ((dget s.data.toList d.files).elim 0 (·.last)))) (dkS d)) : C tE 20 [.ptr 0 0 0 [], .str s] (dkS d) R := by
 have hm := mget_enc s.data.toList d.files
 refine C_new tOK ?_
 cases hg : dget s.data.toList d.files with
 | none =>
  rw [hg] at hm h
  refine C_bodyk tOK Tryz.func20 rfl (Nat.le_of_ble_eq_true rfl) fun K hK => ?_; simp
  repeat (first | (refine T_seqk fun K hK => ?_) | (refine T_reg tOK rfl ?_; simp [hs,hm]) | (refine T_ret ?_; try simp) | (refine T_skip ?_; try simp) | (refine T_blockk fun K hK => ?_) | (with_reducible apply_assumption -exfalso -symm) | (rw [afterRF_ret]; simp [hs,hm]) | (refine T_exit ?_; try simp) | (refine T_cond_t ?_ ?_; · (simp; done)) | (refine T_cond_f ?_ ?_; · (simp; done)) | (rintro _ _ (_ | _) hz9 <;> first | (simp; done) | (simp at hz9; done)) | (refine And.intro ?_ ?_) | (simp only [Post.block_ret, Post.block_exit, Post.block_normal, Post.block_pan, Post.seq_ret, Post.seq_exit, Post.seq_normal, Post.seq_pan]; try simp [hs,hm]) | (refine T_loop (TL_round ?_)) | (refine TL_round ?_))
  ·exact .inl rfl
  ·simpa [frzT, frzN] using h
 | some f =>
  rw [hg] at hm h
  refine C_bodyk tOK Tryz.func20 rfl (Nat.le_of_ble_eq_true rfl) fun K hK => ?_; simp
  repeat (first | (refine T_seqk fun K hK => ?_) | (refine T_reg tOK rfl ?_; simp [hs,hm,encF]) | (refine T_ret ?_; try simp) | (refine T_skip ?_; try simp) | (refine T_blockk fun K hK => ?_) | (with_reducible apply_assumption -exfalso -symm) | (rw [afterRF_ret]; simp [hs,hm,encF]) | (refine T_exit ?_; try simp) | (refine T_cond_t ?_ ?_; · (simp; done)) | (refine T_cond_f ?_ ?_; · (simp; done)) | (rintro _ _ (_ | _) hz9 <;> first | (simp; done) | (simp at hz9; done)) | (refine And.intro ?_ ?_) | (simp only [Post.block_ret, Post.block_exit, Post.block_normal, Post.block_pan, Post.seq_ret, Post.seq_exit, Post.seq_normal, Post.seq_pan]; try simp [hs,hm,encF]) | (refine T_loop (TL_round ?_)) | (refine TL_round ?_))
  ·exact .inl rfl
  ·simpa [frzT, frzN] using h
end
end Go.Proofs.YtdplbgfokoajjaaGreat
end
