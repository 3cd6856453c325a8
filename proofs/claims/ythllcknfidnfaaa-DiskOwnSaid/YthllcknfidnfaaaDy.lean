/- From the logic to the statements: what is handed in, and what is asked of the end. -/
import Derived.Test.YthllcknfidnfaaaDx
import Derived.Test.YthllcknfidnfaaaSag
import Derived.Test.YthllcknfidnfaaaRows
import Derived.ProofKit
set_option linter.unusedVariables false
set_option linter.unusedSimpArgs false
set_option maxRecDepth 4000
namespace Go.Proofs.Ythllcknfidnfaaa
open Go Go.ChangeShapes Go.RowKit

theorem Try.own : ownKnob Try.prog.godebug = none := by kernel_rfl
theorem Try.laidOut : laidOutB Try.prog = true := by kernel_rfl

section
variable {H : Type} {enc : TypeId × Value → H}
/-- An argument, as a value of the logic's. -/
theorem arg_V {W : World} {sp : Nat → Bool} {held : Bool} {t : TypeId} {v : Value} {d : DataW H} {ps : List MemPlace} {base : Nat} (n : Nat) (hs : simpleT tE n t = true) (hst : ∀ fs, tE.P.underlying t ≠ some (.struct fs)) (harr : ∀ m e, tE.P.underlying t ≠ some (.array m e))
    (hok : Value.okWide tE.P W .any base t v) (h : DataW.Trod enc tE.P W 0 sp held t v d ps) : ∃ x, V tE (cx0 W) x v ∧ Dat tE n t x := by
  obtain ⟨fuel, h⟩ := h
  obtain ⟨x, h1, h2, h3⟩ := trod_VC tOK W fuel n t _ d ps hs h
  have hk := simple_kn hs
  obtain ⟨td, hu, hag⟩ := tOK.und t hk
  have hna : tE.agg t = false := by
    rw [hag]
    cases td <;> first | rfl | (exact absurd hu (hst _)) | (exact absurd hu (harr _ _))
  have hcell : Cell.okWide tE.P W .any base t v := by
    unfold Value.okWide at hok
    rw [hu] at hok
    cases td <;> first | exact hok | (exact absurd hu (hst _)) | (exact absurd hu (harr _ _))
  have hnagg : ∀ cs, v ≠ .agg cs := fun cs e => by
    subst e
    have h5 : Cell.ok tE.P W .any base t (.agg cs) → False := fun hc => by
      unfold Cell.ok at hc
      rw [hu] at hc
      cases td <;> exact hc
    unfold Cell.okWide at hcell
    rw [hu] at hcell
    cases td <;> exact h5 hcell
  have hone : v.cells = #[v] := by
    cases v with
    | agg cs => exact absurd rfl (hnagg cs)
    | _ => rfl
  rw [hone] at h1
  refine ⟨x, V_one h1 (fun t' fs e => ?_), h3⟩
  subst e
  simp only [fits, Bool.and_eq_true, hna] at h2
  exact absurd h2.2 (by simp)

theorem trodAll_stays {W W' : World} (hb : Below W.heap.size W W') : ∀ {ts : List TypeId} {vs : List Value} {ds : List (DataW H)} {ps : List MemPlace}, (∀ t ∈ ts, Try.prog.readableRec t = true ∧ t < Try.prog.types.size) →
    DataW.TrodAll enc Try.prog W 0 (fun _ => true) true ts vs ds ps → (∀ x ∈ ps, x.block < W.heap.size) → DataW.TrodAll enc Try.prog W' 0 (fun b => decide (b < W.heap.size)) true ts vs ds ps
  | [], [], [], ps, _, h, _ => h
  | t :: ts, v :: vs, d :: ds, ps, ht, h, hl => by
    obtain ⟨p, q, h1, h2, rfl⟩ := h
    obtain ⟨k1, k2⟩ := ht t (by simp)
    exact ⟨p, q, Below.trod Try.laidOut k1 k2 h1 hb (fun x hx => hl x (by simp [hx])), trodAll_stays hb (fun t ht' => ht t (by simp [ht'])) h2 (fun x hx => hl x (by simp [hx])), rfl⟩
  | [], _ :: _, _, _, _, h, _ => h.elim
  | [], [], _ :: _, _, _, h, _ => h.elim
  | _ :: _, [], _, _, _, h, _ => h.elim
  | _ :: _, _ :: _, [], _, _, h, _ => h.elim

theorem law_post {s : ChangeSpec} {fn : Func} {W W' : World} {args : Array Value} {ds gs : List (DataW H)} {before : List MemPlace} {fresh : Bool} (hW : DataW.Whole enc Try.prog fn.params.toList s.vars false W args.toList ds gs before) (hb : Below W.heap.size W W')
    (hvars : s.vars = []) (hs : s.fn H (ds ++ gs) = { results := [.lit (.bool true)], args := ds }) (hr : fn.resultTypes = #[4]) (hread : fn.params.toList.all (fun t => Try.prog.readableRec t && decide (t < Try.prog.types.size)) = true) :
    s.post enc Try.prog fn false fresh false false W args (.bool true) W' := by
  have hW' := hW
  obtain ⟨p, q, h1, h2, rfl, h3, h4⟩ := hW
  have hlt := fun x hx => hW'.lt x hx
  have hbool : Try.prog.underlying 4 = some .bool := tOK.td 4 rfl
  refine ⟨ds, gs, p ++ q, [], p, [], hW', ?_, ?_, ?_, ?_, by simp⟩
  · rw [hs, hr]
    cases fresh <;> exact trodAll_mk1 (shut_bool hbool true)
  · rw [hs]
    exact trodAll_stays hb (fun t ht => by simpa using List.all_eq_true.1 hread t ht) h1 (fun x hx => hlt x (by simp [hx]))
  · rw [hvars, hs]; rfl
  · refine ⟨hb.os, hb.output, fun i hi => ?_⟩
    rw [hb.block i hi]
    exact (World.keptBut_refl W (fun x => x ∈ p ++ q ∧ (x ∈ ([] : List MemPlace) ∨ x ∈ p ∨ x ∈ ([] : List MemPlace)))).2.2 i hi

/-- A law that answers true, whatever it is called with. -/
theorem law_calls {f : FuncId} {xs : List PV} {W : World} {args : Array Value} (hv : VL tE (cx0 W) xs args.toList) (hC : ∀ R : Re → Store → Prop, (∀ σ, R (.ret (.bool true)) σ) → C tE f xs [] R) :
    Calls Try.prog f args W fun e W' => e = .returned (.bool true) ∧ Below W.heap.size W W' := by
  have := hC (fun re _ => re = .ret (.bool true)) (fun _ => rfl) (cx0 W) args (Now.cx0 W) hv
  refine Calls.mono this ?_
  rintro e w' ⟨re, σ', cx', rfl, rfl, hre, hn, hs⟩
  refine ⟨?_, ⟨hs.os, hs.tape, hs.output, hs.size, fun k hk => hs.keeps k hk⟩⟩
  cases e <;> simp only [ReOK] at hre
  have := V.bool_inv hre
  rw [this]

theorem dat_int {n : Nat} {x : PV} (h : Dat tE (n + 1) 3 x) : ∃ k, x = i64 k ∧ -9223372036854775808 ≤ k ∧ k ≤ 9223372036854775807 := by
  obtain ⟨k, rfl, hw⟩ := (h : ∃ i, x = .int .i64 i ∧ (Lit.int .i64 i).wf = true)
  refine ⟨k, rfl, ?_⟩
  simp [Lit.wf, IntKind.has, IntKind.min, IntKind.max, IntKind.signed, IntKind.bits] at hw
  omega
theorem dat_u8 {n : Nat} {x : PV} (h : Dat tE (n + 1) 5 x) : ∃ k : UInt8, x = .int .u8 k.toNat := by
  obtain ⟨k, rfl, hw⟩ := (h : ∃ i, x = .int .u8 i ∧ (Lit.int .u8 i).wf = true)
  simp [Lit.wf, IntKind.has, IntKind.min, IntKind.max, IntKind.signed, IntKind.bits] at hw
  refine ⟨UInt8.ofNat k.toNat, ?_⟩
  have : (UInt8.ofNat k.toNat).toNat = k.toNat := by simp; omega
  rw [this]
  congr 1; omega
theorem dat_str {n : Nat} {x : PV} (h : Dat tE (n + 1) 9 x) : ∃ s : ByteArray, x = .str s ∧ s.size ≤ maxLen := h
theorem dat_list {n : Nat} {e t : TypeId} {x : PV} {α : Type} {f : α → PV} {P : α → Prop} (h : ∃ xs, x = .lit xs ∧ xs.length ≤ maxLen ∧ ∀ y ∈ xs, Dat tE n e y) (hf : ∀ y, Dat tE n e y → ∃ a, y = f a ∧ P a) :
    ∃ l : List α, x = .lit (l.map f) ∧ l.length ≤ maxLen ∧ ∀ a ∈ l, P a := by
  obtain ⟨xs, rfl, hl, hx⟩ := h
  have : ∃ l : List α, xs = l.map f ∧ ∀ a ∈ l, P a := by
    clear hl
    induction xs with
    | nil => exact ⟨[], rfl, by simp⟩
    | cons y ys ih =>
      obtain ⟨a, rfl, ha⟩ := hf y (hx y (by simp))
      obtain ⟨l, rfl, hl⟩ := ih fun y hy => hx y (by simp [hy])
      exact ⟨a :: l, rfl, fun b hb => by rcases List.mem_cons.1 hb with rfl | hb; exact ha; exact hl b hb⟩
  obtain ⟨l, rfl, h2⟩ := this
  exact ⟨l, rfl, by simpa using hl, h2⟩
theorem dat_bytes {n : Nat} {x : PV} (h : Dat tE (n + 2) 32 x) : ∃ l : List UInt8, x = u8s l ∧ l.length ≤ maxLen := by
  obtain ⟨l, rfl, h1, _⟩ := dat_list (t := 0) (f := fun b : UInt8 => PV.int .u8 b.toNat) (P := fun _ => True) (h : ∃ xs, x = .lit xs ∧ xs.length ≤ maxLen ∧ ∀ y ∈ xs, Dat tE (n + 1) 5 y) (fun y hy => by
    obtain ⟨k, rfl⟩ := dat_u8 hy
    exact ⟨k, rfl, trivial⟩)
  exact ⟨l, rfl, h1⟩
theorem dat_ints {n : Nat} {x : PV} (h : Dat tE (n + 2) 33 x) : ∃ l : List Int, x = .lit (ints l) ∧ l.length ≤ maxLen ∧ ∀ k ∈ l, -9223372036854775808 ≤ k ∧ k ≤ 9223372036854775807 :=
  dat_list (t := 0) (f := i64) (P := fun k => -9223372036854775808 ≤ k ∧ k ≤ 9223372036854775807) (h : ∃ xs, x = .lit xs ∧ xs.length ≤ maxLen ∧ ∀ y ∈ xs, Dat tE (n + 1) 3 y) (fun y hy => dat_int hy)
theorem dat_op {n : Nat} {x : PV} (h : Dat tE (n + 3) 35 x) : ∃ o : OpV, x = encOp o ∧ o.OK := by
  obtain ⟨fs, rfl, hl, hx⟩ := (h : ∃ fs, x = .agg 35 fs ∧ fs.length = (tE.lay 35).length ∧ ∀ (i : Nat) u y, (tE.lay 35)[i]? = some u → fs[i]? = some y → Dat tE (n + 2) u y)
  have hl : fs.length = 6 := hl
  match fs, hl, hx with
  | [a, b, c, d, e, f], _, hx =>
    obtain ⟨w, rfl, _⟩ := dat_int (hx 0 3 a rfl rfl)
    obtain ⟨s, rfl, hs⟩ := dat_str (hx 1 9 b rfl rfl)
    obtain ⟨t, rfl, ht⟩ := dat_str (hx 2 9 c rfl rfl)
    obtain ⟨l, rfl, hl⟩ := dat_bytes (hx 3 32 d rfl rfl)
    obtain ⟨k, rfl, hk⟩ := dat_int (hx 4 3 e rfl rfl)
    obtain ⟨q, rfl, hq, hq2⟩ := dat_ints (hx 5 33 f rfl rfl)
    exact ⟨⟨w, s, t, l, k, q⟩, rfl, ⟨hs, ht, hk.2, fun k hk => (hq2 k hk).2, hq⟩⟩
theorem dat_ops {n : Nat} {x : PV} (h : Dat tE (n + 4) 22 x) : ∃ l : List OpV, x = .lit (encOps l) ∧ l.length ≤ maxLen ∧ ∀ o ∈ l, o.OK :=
  dat_list (t := 0) (f := encOp) (P := OpV.OK) (h : ∃ xs, x = .lit xs ∧ xs.length ≤ maxLen ∧ ∀ y ∈ xs, Dat tE (n + 3) 35 y) (fun y hy => dat_op hy)
end
end Go.Proofs.Ythllcknfidnfaaa
