/- append in the logic; make; values of structs and new slices. -/
import Derived.Test.YthllcknfidnfaaaSk
set_option linter.unusedVariables false
set_option linter.unusedSimpArgs false
namespace Go.Proofs.Ythllcknfidnfaaa
open Go

section
variable {E : Env} {cx : Cx} {σ : Store} {nid : Nat}

theorem new_ok' (hn : Now E cx σ) {nid : Nat} (hb : ¬ cx.A nid) (htop : cx.top ≤ nid) {T el : TypeId} {xs : List PV} {ca : Array Value} {cs : List Value} {w : World} (hw : w.heap = cx.w.heap.push (.cells ca el)) (hos : w.os = cx.w.os)
    (htape : w.tape = cx.w.tape) (hout : w.output = cx.w.output) (hc : VR E cx T xs cs) (hwin : Win ca 0 cs) (hl : cs.length ≤ ca.size) {fz : Nat × Nat} :
    ∃ cx', cx'.w = w ∧ Now E cx' (Store.new σ nid (.cells T 0 xs)) ∧ Step cx cx' ∧ cx'.mu nid = some ⟨cx.w.heap.size, 0, 0, T, ca.size⟩ ∧ cx'.A nid ∧ ∀ b, cx'.A b → cx.A b ∨ b = nid := by
  obtain ⟨h1, h2⟩ := hn.alloc hb htop (m := ⟨cx.w.heap.size, 0, 0, T, ca.size⟩) (w := w) (by simp [hw]) (fun k hk => by rw [hw]; simp only [Array.getElem?_push, if_neg (Nat.ne_of_lt hk)]) hos htape hout (Nat.le_refl _) (by simp [hw])
    (blk := .cells T 0 xs) (fun ext => by
      refine ⟨rfl, rfl, ca, el, (0, 0), cs, by simp [Cx.add, hw], rfl, hc.ext ext, hwin, by simpa using hl, ?_⟩
      exact .inl rfl)
  exact ⟨_, rfl, h1, h2, by simp [Cx.add], .inr rfl, fun _ h => h⟩

theorem V_newref {c : Cx} {nid len cap : Nat} {m : MB} (hA : c.A nid) (hm : c.mu nid = some m) (hg : m.gen = 0) (hb : m.base = 0) (hc : len ≤ cap) (hfit : cap * E.size m.ty ≤ m.cells) :
    V E c (.ref nid 0 0 len) (.slice (some ⟨m.blk, 0, none⟩) len cap) :=
  V_one (.ref _ _ _ _ _ rfl hA (fun m' h => by omega) (fun m' h _ => by
    rw [hm] at h; simp only [Option.some.injEq] at h; subst h
    exact ⟨_, _, rfl, hc, .inr ⟨by simp [hb], by simpa [hb] using hfit⟩⟩)) (by simp)

theorem firstCells_zero {P : Program} {w : World} (size : Nat) (base : Option Addr) (cap : Nat) : (Builtin.firstCells size 0 (.slice base 0 cap)).run P w = .ok (([] : List Value).toArray) w := by
  cases base <;> simp [Builtin.firstCells, loadCells, loadCellsFrom]

theorem Y_append (O : E.OK) {o : Oper} {c : Call} {s x : Operand} {S X e : TypeId} {zeros : Bool} {fr : Fr} {sv xv v : PV} {ys : List PV} {σ' : Store}  (ho : o.op = .call c) (hc : c.callee = .builtin .append) (ha : c.args = #[s, x])
    (ht : c.argTypes = #[S, X]) (hs : Fr.eval fr s = some sv) (hx : Fr.eval fr x = some xv) (hS : E.td S = .slice e) (hkS : E.kn S = true) (hkX : E.kn X = true) (hX : if zeros then E.td X = .int .i64 else (E.td X = .slice e ∨ E.td X = .str))
    (hys : sApp E e xv σ zeros = some ys) (hf : ∀ y ∈ ys, fits E e y = true) (hpos : 0 < E.bytes e) (h : sAppend E e sv ys σ nid = some (v, σ')) : Yld E nid o fr σ v σ' := fun cx ρ hn he hnid htop => by
  have hsv := he s sv hs
  have hxv := he x xv hx
  have hrun : ∀ (u : Value) (w' : World), (Builtin.append_ #[S, X] o.type #[ρ s, ρ x]).run E.P cx.w = .ok u w' → (execOp ρ o).run E.P cx.w = .ok (.value u) w' := fun u w' hu => by
    rw [run_builtin ho hc, ha, ht]
    simp [builtin, hu]
  have hke : E.kn e = true := by have := O.td S hkS; rw [hS] at this; exact this.2.1
  unfold sAppend at h
  split at h
  · obtain ⟨a, hval⟩ := hsv.nils_inv
    split at h
    · simp only [Option.some.injEq, Prod.mk.injEq] at h
      obtain ⟨rfl, rfl⟩ := h
      have hys0 : (2 * (0 + ([] : List PV).length) + 1000) * 0 = 0 := by omega
      -- nothing is appended: by hand
      have htd := O.td S hkS
      rw [hS] at htd
      have hX' := O.td X hkX
      refine ⟨.value (.slice a 0 0), .slice a 0 0, cx.w, cx, ?_, .inl rfl, rfl, hn, V_one (.nils _) (by simp), Step.refl cx, fun _ h => .inl h⟩
      apply hrun
      rw [hval]
      cases zeros with
      | false =>
        simp only [sApp, Bool.false_eq_true, if_false] at hys hX
        obtain ⟨cs, h1, h2⟩ := list_ok O hn hxv hys hf
        have hcs0 : cs = [] := by cases h1; rfl
        subst hcs0
        obtain ⟨h3, h4⟩ := h2 cx.w fun _ _ => rfl
        simp only [List.length_nil] at h3 h4
        rcases hX with hX | hX <;> rw [hX] at hX'
        · cases a <;> simp [Builtin.append_, run_underlying htd.1, run_size O hke, run_underlying hX'.1, h3, h4, storeCells]
        · cases a <;> simp [Builtin.append_, run_underlying htd.1, run_size O hke, run_underlying (show E.P.underlying X = some .string from hX'), h3, h4, storeCells]
      | true =>
        simp only [sApp, if_true] at hys hX
        rw [hX] at hX'
        split at hys
        · rename_i n
          split at hys
          · rename_i hcn
            simp only [Option.some.injEq] at hys
            have hn0 : n = 0 := by
              have := congrArg List.length hys
              simp at this; omega
            subst hn0
            obtain ⟨i, hi1, _⟩ := O.info e hke
            have hw : IntKind.i64.wrap 0 = 0 := by decide
            cases a <;> simp [Builtin.append_, run_underlying htd.1, run_size O hke, run_underlying (show E.P.underlying X = some (.int .i64) from hX'), V.int_inv hxv, asInt, asIntOf, hw, typeInfo, hi1, storeCells]
          · simp at hys
        · simp at hys
    · rename_i hne
      split at h
      · rename_i hb
        simp only [Option.some.injEq, Prod.mk.injEq] at h
        obtain ⟨rfl, rfl⟩ := h
        have hyl : 0 < ys.length := by
          rcases Nat.eq_zero_or_pos ys.length with h0 | h0
          · exact absurd (List.eq_nil_of_length_eq_zero h0) (by simpa using hne)
          · exact h0
        have hlen : ys.length < 4611686018427387904 := by
          have := Nat.le_trans (Nat.le_mul_of_pos_right _ hpos) hb; omega
        obtain ⟨cs, hcs, _, hB⟩ := run_append (ty := o.type) O hn hS hkS hkX hX hxv hys hf a 0 0 (by simpa using hb) (by omega)
        obtain ⟨newCap, rest, h1, h2, h3⟩ := hB (by omega) [] fun w _ => firstCells_zero _ _ _
        have hcl := VR.length O.toFine hcs
        obtain ⟨cx', k1, k2, k3, k4, k5, k6⟩ := new_ok' (w := cx.w.drew.alloc (.cells (([] : List Value) ++ cs ++ rest).toArray e)) hn hnid htop (el := e) (ca := (([] : List Value) ++ cs ++ rest).toArray) rfl rfl rfl rfl hcs
          (fun j v hv => by have hj := getElem?_lt hv; simp [List.getElem?_append_left hj, hv]) (by simp) (fz := (0, 0))
        refine ⟨.value (.slice (some ⟨cx.w.heap.size, 0, none⟩) ys.length newCap), _, _, cx', hrun _ _ ?_, .inl rfl, k1, k2, V_newref k5 k4 rfl rfl (by omega) ?_, k3, k6⟩
        · rw [hval]; simpa using h3
        · simp only [List.nil_append, List.size_toArray, List.length_append, hcl, h2]
          have : newCap = ys.length + (newCap - (0 + ys.length)) := by omega
          conv => lhs; rw [this]
          rw [Nat.add_mul]; omega
      · simp at h
  · rename_i b g off len
    split at h
    · rename_i ty g' xs hb
      split at h
      · rename_i hcnd
        obtain ⟨rfl, rfl, hl, hbd⟩ := hcnd
        simp only [Option.some.injEq, Prod.mk.injEq] at h
        obtain ⟨rfl, rfl⟩ := h
        obtain ⟨m, ca, el, fz, cs00, j1, j2, j3, j4, j5, j60, j70, j80, j9⟩ := hn.blk hb
        obtain ⟨cs0, j6, j7, j8⟩ : ∃ cs0, VCs E cx (List.replicate (xs.take (off + len)).length ty) (xs.take (off + len)) cs0 ∧ Win ca m.base cs0 ∧ m.base + cs0.length ≤ ca.size := by
          have v0 : VR E cx ty xs cs00 := j60
          refine ⟨_, v0.take O.toFine (off + len), fun j v hj => ?_, ?_⟩
          · rw [List.getElem?_take] at hj
            split at hj
            · exact j70 j v hj
            · simp at hj
          · simp only [List.length_take]; omega
        have hl : off + len = (xs.take (off + len)).length := by simp; omega
        clear j60 j70 j80 hb
        generalize xs.take (off + len) = xs at hl j6 ⊢
        obtain ⟨hA, hle, hr⟩ := hsv.ref_inv
        obtain ⟨a, cap, hval, hcap, hh⟩ := hr m j1 j2
        have hlen : len + ys.length < 4611686018427387904 := by
          have := Nat.le_trans (Nat.le_mul_of_pos_right _ hpos) hbd; omega
        obtain ⟨cs, hcs, hAr, hB⟩ := run_append (ty := o.type) O hn hS hkS hkX hX hxv hys hf a len cap hbd hlen
        have hcl := VR.length O.toFine hcs
        have v0 : VR E cx ty xs cs0 := j6
        have v1 := v0.drop O.toFine off
        have hl0 := VR.length O.toFine v0
        have hl1 := VR.length O.toFine v1
        have hblt : m.blk < cx.w.heap.size := by obtain ⟨_, _, h, _⟩ := hn.dom b m j1; exact h
        have hxl : (xs.drop off).length = len := by simp; omega
        rw [hxl] at hl1
        by_cases hroom : len + ys.length ≤ cap
        · have hrun' := hAr hroom
          by_cases hcap0 : cap = 0
          · -- nothing there, nothing appended
            have hl0 : len = 0 := by omega
            have hy0 : ys.length = 0 := by omega
            have hcs0 : cs = [] := List.eq_nil_of_length_eq_zero (by rw [hcl, hy0]; simp)
            have hys0 : ys = [] := List.eq_nil_of_length_eq_zero hy0
            have hxs0 : xs.drop off = [] := List.eq_nil_of_length_eq_zero (by omega)
            obtain ⟨hn', hs'⟩ := hn.change (m' := { m with gen := g' + 1, base := m.base + off * E.size ty }) j1 (w := cx.w) (Nat.le_refl _) (fun _ _ _ => rfl) rfl rfl rfl (by simp only; omega) (fun h => by simp only at h; omega) (.inl rfl) hblt
              (blk := .cells ty (g' + 1) (xs.drop off ++ ys)) (fun ext => by
                refine ⟨rfl, j3, ca, el, fz, [], by simpa [Cx.at] using j4, j5, ?_, fun j v h => by simp at h, ?_, j9⟩
                · rw [hxs0, hys0]; exact VCs.nil
                · have := Nat.mul_le_mul_right (E.size ty) (show off ≤ xs.length by omega)
                  simp only [List.length_nil, Nat.add_zero]; omega)
            refine ⟨.value (.slice a (len + ys.length) cap), _, cx.w, cx.at cx.w b { m with gen := g' + 1, base := m.base + off * E.size ty }, hrun _ _ ?_, .inl rfl, rfl, hn', V_one (.ref _ _ _ _ _ rfl hA (fun m' hm' => ?_) (fun m' hm' _ => ⟨a, cap, rfl, hroom, .inl hcap0⟩)) (by simp), hs', fun _ h => .inl h⟩
            · rw [hval, hrun', hcs0]; cases a <;> simp [storeCells]
            · simp only [Cx.at, if_true, Option.some.injEq] at hm'; subst hm'; simp
          · rcases hh with h | ⟨rfl, hfit⟩
            · exact absurd h hcap0
            · rw [j3] at hfit
              have hfit2 : m.base + off * E.size ty + len * E.size ty + cs.length ≤ ca.size := by
                have := Nat.mul_le_mul_right (E.size ty) (show off + (len + ys.length) ≤ off + cap by omega)
                rw [Nat.add_mul, Nat.add_mul] at this
                omega
              have hst := run_storeCells_free E.P m.blk (m.base + off * E.size ty + len * E.size ty) el fz cs 0 ca cx.w j4 j9 (by omega) (VCs.one hcs)
              simp only [Nat.add_zero] at hst
              have hS' : (splice ca.toList (m.base + off * E.size ty + len * E.size ty) cs).toArray.size = ca.size := by
                simp only [List.size_toArray]; rw [splice_length (by simpa using hfit2)]; simp
              have hwl : LW ca.toList m.base cs0 := fun j v h' => by simpa using j7 j v h'
              obtain ⟨hn', hs'⟩ := hn.change (m' := { m with gen := g' + 1, base := m.base + off * E.size ty }) j1 (w := cx.w.setRow m.blk (splice ca.toList (m.base + off * E.size ty + len * E.size ty) cs).toArray) (by simp) (fun k hk _ => setRow_other _ _ _ _ hk) rfl rfl rfl
                (by simp only; omega) (fun h => by simp only at h; omega) (.inl rfl) (by simpa using hblt) (blk := .cells ty (g' + 1) (xs.drop off ++ ys)) (fun ext => by
                  refine ⟨rfl, j3, _, el, fz, cs0.drop (off * E.size ty) ++ cs, setRow_heap _ _ _ _ _ _ j4, hS'.trans j5, (v1.app hcs).ext ext, ?_, ?_, ?_⟩
                  · intro j v hv
                    simp only [List.getElem?_toArray, splice]
                    by_cases hj : j < (cs0.drop (off * E.size ty)).length
                    · rw [List.getElem?_append_left hj, List.getElem?_drop] at hv
                      have := hwl _ _ hv
                      rw [List.getElem?_append_left (by simp; omega), List.getElem?_append_left (by simp; omega), List.getElem?_take_of_lt (by omega)]
                      rw [← Nat.add_assoc] at this; exact this
                    · rw [List.getElem?_append_right (by omega)] at hv
                      have hj2 := getElem?_lt hv
                      have hbl : (List.take (m.base + off * E.size ty + len * E.size ty) ca.toList).length = m.base + off * E.size ty + len * E.size ty := by simp; omega
                      rw [List.getElem?_append_left (by simp; omega), List.getElem?_append_right (by omega), hbl]
                      rw [show m.base + off * E.size ty + j - (m.base + off * E.size ty + len * E.size ty) = j - (cs0.drop (off * E.size ty)).length by omega]
                      exact hv
                  · rw [hS']; simp only [List.length_append]; omega
                  · unfold Free at *; rw [hS']; exact j9)
              refine ⟨.value (.slice (some ⟨m.blk, m.base + off * E.size m.ty, none⟩) (len + ys.length) cap), _, _, _, hrun _ _ ?_, .inl rfl, rfl, hn', V_one (.ref _ _ _ _ _ rfl hA (fun m' hm' => ?_) (fun m' hm' _ => ?_)) (by simp), hs', fun _ h => .inl h⟩
              · rw [hval, hrun']
                simp only [j3, add_lit', hst, Result.andThen_ok]; rfl
              · simp only [Cx.at, if_true, Option.some.injEq] at hm'; subst hm'; simp
              · simp only [Cx.at, if_true, Option.some.injEq] at hm'; subst hm'
                refine ⟨_, _, rfl, hroom, .inr ⟨by simp [j3], ?_⟩⟩
                simp only [j3, Nat.zero_add]
                rw [Nat.add_mul] at hfit; omega
        · have hold : ∀ w, (∀ k, k < cx.w.heap.size → w.heap[k]? = cx.w.heap[k]?) → (Builtin.firstCells (E.size ty) len (.slice a len cap)).run E.P w = .ok (cs0.drop (off * E.size ty)).toArray w := fun w hw => by
            rcases hh with h | ⟨rfl, hfit⟩
            · have hl0 : len = 0 := by omega
              subst hl0
              have : cs0.drop (off * E.size ty) = [] := List.eq_nil_of_length_eq_zero (by rw [hl1]; simp)
              rw [this]; exact firstCells_zero _ _ _
            · simp only [Builtin.firstCells]
              rw [j3]
              exact loadCells_win ((hw _ hblt).trans j4) (LW.win j7 (LW_drop cs0 _)) hl1
          obtain ⟨newCap, rest, h1, h2, h3⟩ := hB (by omega) _ hold
          have hsz : cx.w.heap.size < (cx.w.drew.alloc (.cells (cs0.drop (off * E.size ty) ++ cs ++ rest).toArray ty)).heap.size := by simp
          obtain ⟨hn', hs'⟩ := hn.change (m' := ⟨cx.w.heap.size, 0, g' + 1, ty, (cs0.drop (off * E.size ty) ++ cs ++ rest).length⟩) j1 (w := cx.w.drew.alloc (.cells (cs0.drop (off * E.size ty) ++ cs ++ rest).toArray ty)) (by simp)
            (fun k hk hlt => heap_alloc_old' cx.w.drew _ k hlt) rfl rfl rfl (by simp only; omega) (fun h => by simp only at h; omega) (.inr (Nat.le_refl _)) hsz (blk := .cells ty (g' + 1) (xs.drop off ++ ys)) (fun ext => by
              refine ⟨rfl, rfl, _, ty, (0, 0), cs0.drop (off * E.size ty) ++ cs, heap_alloc_new' cx.w.drew _, by simp, (v1.app hcs).ext ext, ?_, by simp, .inl rfl⟩
              intro j v hv
              have hj := getElem?_lt hv
              simp only [Nat.zero_add, List.getElem?_toArray]
              rw [List.getElem?_append_left hj]; exact hv)
          refine ⟨.value (.slice (some ⟨cx.w.heap.size, 0, none⟩) (len + ys.length) newCap), _, _, cx.at (cx.w.drew.alloc (.cells (cs0.drop (off * E.size ty) ++ cs ++ rest).toArray ty)) b ⟨cx.w.heap.size, 0, g' + 1, ty, (cs0.drop (off * E.size ty) ++ cs ++ rest).length⟩, hrun _ _ ?_, .inl rfl, rfl, hn', V_one (.ref _ _ _ _ _ rfl hA (fun m' hm' => ?_) (fun m' hm' _ => ?_)) (by simp), hs', fun _ h => .inl h⟩
          · rw [hval, h3]; rfl
          · simp only [Cx.at, if_true, Option.some.injEq] at hm'; subst hm'; simp
          · simp only [Cx.at, if_true, Option.some.injEq] at hm'; subst hm'
            refine ⟨_, _, rfl, h1, .inr ⟨by simp, ?_⟩⟩
            simp only [Nat.zero_add, List.length_append, hcl, h2, hl1]
            have : newCap = len + ys.length + (newCap - (len + ys.length)) := by omega
            conv => lhs; rw [this]
            rw [Nat.add_mul, Nat.add_mul]; omega
      · simp at h
    · simp at h
  · simp at h

end
end Go.Proofs.Ythllcknfidnfaaa
