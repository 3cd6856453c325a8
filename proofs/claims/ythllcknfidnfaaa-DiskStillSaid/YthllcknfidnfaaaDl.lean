/- Package disk: what it calls of the library. -/
import Derived.Test.YthllcknfidnfaaaSac
import Derived.Test.YthllcknfidnfaaaEnv
import Derived.Shelf.GgClosure.StringsIndexFuncTop
import Derived.Shelf.Lay
import Derived.Ground.GgwProg
import Derived.Shelf.SlIter.Nil
import Derived.Shelf.SortM.Plain
import Derived.Shelf.SortM.SortNone
import Derived.Ground.GgzProg
import Derived.Ground.SlgmProg
set_option linter.unusedVariables false
set_option linter.unusedSimpArgs false
namespace Go.Proofs
open Go Go.RowKit Go.Maps Go.Sort Go.Shelf Go.Lib
shelf_lay LaysGw.n17 Ggw 17 at Try as Try.cf
shelf_lay_g SlLaysZ.n7 Ggz 7 at Try 32 as Try.keysA
shelf_lay_g SlLaysZ.n6 Ggz 6 at Try 31 as Try.sortedA
shelf_lay_g SlLaysM.n6 Slgm 6 at Try 52 as Try.sortA

/-- A rune that no name may have. -/
def oddR (r : Nat) : Bool := !(decide (97 ≤ r) && decide (r ≤ 122) || decide (48 ≤ r) && decide (r ≤ 57) || decide (r = 46) || decide (r = 45))
theorem Try.odd (w : World) : PredAt Try.prog 54 #[] encR oddR w := fun W r _ => by
  unfold FnGives
  have z1 : (97 : Int) ≤ (r : Int) ↔ 97 ≤ r := by omega
  have z2 : (r : Int) ≤ 122 ↔ r ≤ 122 := by omega
  have z3 : (48 : Int) ≤ (r : Int) ↔ 48 ≤ r := by omega
  have z4 : (r : Int) ≤ 57 ↔ r ≤ 57 := by omega
  have z5 : (r : Int) = 46 ↔ r = 46 := by omega
  have z6 : (r : Int) = 45 ↔ r = 45 := by omega
  by_cases h1 : 97 ≤ r <;> by_cases h2 : r ≤ 122 <;> by_cases h3 : 48 ≤ r <;> by_cases h4 : r ≤ 57 <;> by_cases h5 : r = 46 <;> by_cases h6 : r = 45
  all_goals first
    | (exfalso; omega)
    | (go_enter Try.func54, Try.ntmps54
       go_wp2
       all_goals first | (exfalso; omega) | (go_ret; exact ⟨by simp [oddR, h1, h2, h3, h4, h5, h6] <;> omega, 0, rfl⟩))
theorem Try.contains (s : ByteArray) (w : World) : Calls Try.prog 55 #[.string s, .func (.func 54) #[] #[]] w fun e w' => e = .returned (.bool (decide (0 ≤ idxFunc oddR true s))) ∧ Below w.heap.size w w' :=
  Any.strings_ContainsFunc Try.cf 54 #[] (enters_of Try.func54 (by kernel_rfl) rfl) oddR s w (Try.odd w)

/-- slices.Sort's two contracts at this dump. -/
theorem Try.sorts (m : Nat) : AnyZ.SortsIn Try.prog Try.sortedA_ren Fence.wide m :=
  ⟨fun blk off cap ss W hH hblk hsz => callsIn_wide.2 (AnyM.slices_Sort_string Try.sortA blk off cap ss W hH hblk hsz),
   fun p cap W => callsIn_wide.2 (AnyM.slices_Sort_string_none Try.sortA p cap W)⟩

theorem Try.sorted {H : Type} (B b nn : Nat) (D0 : DataW H) (R : Value → Option (DataW H × List MemPlace)) (w : World) (hB : B < w.heap.size) (hcell : w.cell? ⟨B, 0, none⟩ = some (.map (some b))) (hown : w.ownsMap Try.prog 9 R b nn D0)
    (hmax : Maps.size D0 ≤ maxLen) (hbytes : Maps.size D0 * 16 ≤ 140737488355328) :
    Calls Try.prog 31 #[.func (.func 53) #[] #[.pointer (some ⟨B, 0, none⟩)]] w fun e w' => ∃ (v : Value) (ss : List (List UInt8)), e = .returned v ∧ ss.Perm (strKeys D0) ∧
      w'.ownsRow w.heap.size 9 1 v ss.length ((ss.mergeSort (fun x y => decide (x ≤ y))).map encStr) ∧ (v = .slice none 0 0 ↔ ss = []) ∧ Below w.heap.size w w' := by
  refine (callsIn_wide (n := 5)).1 ?_
  have hseq : SeqGives Fence.wide 2 Try.prog 53 #[.pointer (some ⟨B, 0, none⟩)] encStr (fun ss => ss.Perm (strKeys D0)) (Maps.size D0) w :=
    AnyZ.keys_gives (ρ := Try.keysA_ren) { Try.keysA with } Fence.wide _ trivial rfl (by omega) B b nn D0 _ hB hcell hown
  exact AnyZ.sorted_in Try.sortedA Fence.wide 5 trivial trivial trivial trivial rfl (by omega) (Try.sorts _) (enters_of Try.func52 (by kernel_rfl) rfl) 53 #[.pointer (some ⟨B, 0, none⟩)] trivial (enters_of Try.func53 (by kernel_rfl) rfl) _ _ hmax hbytes _ hseq
end Go.Proofs

namespace Go.Proofs.Ythllcknfidnfaaa
open Go

section
variable {E : Env}
theorem VL.cons_inv {c : Cx} {x : PV} {xs : List PV} {vs : List Value} (h : VL E c (x :: xs) vs) : ∃ v us, vs = v :: us ∧ V E c x v ∧ VL E c xs us := by
  cases h with
  | undef hs => exact ⟨_, _, rfl, .undef .nil, hs⟩
  | one h1 hn h hs => exact ⟨_, _, rfl, .one h1 hn h .nil, hs⟩
  | agg h hs => exact ⟨_, _, rfl, .agg h .nil, hs⟩
  | tup h hs => exact ⟨_, _, rfl, .tup h .nil, hs⟩
theorem VL.nil_inv {c : Cx} {vs : List Value} (h : VL E c [] vs) : vs = [] := by cases h; rfl
theorem arr_of {vs : Array Value} {l : List Value} (h : vs.toList = l) : vs = l.toArray := by rw [← h]
end

theorem C_contains {R : Re → Store → Prop} {σ : Store} {s : ByteArray} (h : R (.ret (.bool (decide (0 ≤ Lib.idxFunc oddR true s)))) σ) : C tE 55 [.str s, .fn (.func 54) [] []] σ R :=
  C_below fun cx vs hn hv => by
    obtain ⟨v, us, e1, h1, h2⟩ := hv.cons_inv
    obtain ⟨u, us', rfl, h3, h4⟩ := h2.cons_inv
    have := h4.nil_inv; subst this
    obtain ⟨a, b, rfl, h5, h6⟩ := h3.fn_inv
    have ea : a = #[] := by simpa using h5.nil_inv
    have eb : b = #[] := by simpa using h6.nil_inv
    subst ea; subst eb
    rw [h1.str_inv] at e1
    rw [arr_of e1]
    refine (Try.contains s cx.w).mono ?_
    rintro e w' ⟨rfl, hb⟩
    exact ⟨hb, _, h, V_one (.bool _) (by simp)⟩

/-- Names, as values. -/
def strs (l : List (List UInt8)) : List PV := l.map fun n => .str ⟨n.toArray⟩
theorem VCs_strs {c : Cx} : ∀ l : List (List UInt8), VCs tE c (List.replicate (strs l).length 9) (strs l) (l.map encStr)
  | [] => .nil
  | n :: l => by
    have := VCs.cons (E := tE) (c := c) (T := 9) (x := .str ⟨n.toArray⟩) (by simp [fits]) (.str _) (VCs_strs l)
    simpa [strs, List.replicate_succ] using this

theorem ML.keys {E : Env} {c : Cx} {es : List (Lit × PV)} {ds : List (Lit × DataW Value)} (h : ML E c es ds) : ds.map (·.1) = es.map (·.1) := by
  induction h with
  | nil => rfl
  | cons h hs ih => simp [ih]

theorem C_sorted {R : Re → Store → Prop} {σ : Store} {i b : Nat} {T : TypeId} {es : List (Lit × PV)} (h0 : Store.at σ i = some (.cells T 0 [.map b])) (h1 : Store.at σ b = some (.mp 9 es)) (hl : es.length < 1000000000)
    (h : R (.ret (.lit (strs ((es.map fun p => strOf p.1).mergeSort fun x y => decide (x ≤ y))))) σ) :
    C tE 31 [.fn (.func 53) [] [.ptr i 0 0 []]] σ R :=
  C_below fun cx vs hn hv => by
    obtain ⟨v, us, e1, h2, h3⟩ := hv.cons_inv
    have := h3.nil_inv; subst this
    obtain ⟨a, d, rfl, h5, h6⟩ := h2.fn_inv
    have ea : a = #[] := by simpa using h5.nil_inv
    subst ea
    obtain ⟨p, us, e2, h7, h8⟩ := h6.cons_inv
    have := h8.nil_inv; subst this
    obtain ⟨m, ca, el, fz, cs, j1, j2, j3, j4, j5, j6, j7, j8, j9⟩ := hn.blk h0
    have hbase := hn.base i m j1 j2
    have hp : p = .pointer (some ⟨m.blk, 0, none⟩) := by
      have := h7.ptr_inv.2.2 m j1 j2
      simpa [hbase, pathOff] using this
    have hmapv : ∃ u, VC tE cx (.map b) [u] ∧ cs = [u] := by
      cases j6 with
      | cons hf hx hs =>
        cases hs
        obtain ⟨u, rfl⟩ := hx.scalar (by simp)
        exact ⟨u, hx, by simp⟩
    obtain ⟨u, hu, rfl⟩ := hmapv
    obtain ⟨mb, ds, k1, k2, k3, k4, k5, k6⟩ := hn.mp h1 (V_one hu (by simp))
    have hcell : cx.w.cell? ⟨m.blk, 0, none⟩ = some (.map (some mb.blk)) := by
      have := j7 0 u rfl
      rw [hbase] at this
      simp only [World.cell?, j4]
      rw [← k4]; simpa using this
    have hlen := k6.len
    have hB : m.blk < cx.w.heap.size := by obtain ⟨_, _, h, _⟩ := hn.dom i m j1; exact h
    rw [arr_of e1, show d = #[p] from arr_of e2, hp]
    refine (Try.sorted m.blk mb.blk ds.length (.map ds) asHeld cx.w hB hcell k5 ?_ ?_).mono ?_
    · simp only [Maps.size]; have : 1000000000 ≤ maxLen := by decide
      omega
    · simp only [Maps.size]; omega
    rintro e w' ⟨v, ss, rfl, hperm, hrow, _, hb⟩
    have hk : strKeys (DataW.map ds) = es.map fun p => strOf p.1 := by
      have := congrArg (List.map strOf) k6.keys
      simpa [strKeys, List.map_map, Function.comp_def] using this
    rw [hk] at hperm
    have hm : ss.mergeSort (fun x y => decide (x ≤ y)) = (es.map fun p => strOf p.1).mergeSort (fun x y => decide (x ≤ y)) := mergeSort_of_perm hperm
    rw [hm] at hrow
    exact ⟨hb, _, h, V_row hrow (by simp [strs, hperm.length_eq]) (VCs_strs _)⟩
end Go.Proofs.Ythllcknfidnfaaa
