/- Operations that are reckoned apart: a comparison with nil, bytes as a string, a row of constants as it is. -/
import Derived.Test.YthllcknfidnfaaaSp
import Derived.Lib.SliceRun
import Derived.Laws.IdiomStrings
set_option linter.unusedVariables false
set_option linter.unusedSimpArgs false
namespace Go.Proofs.Ythllcknfidnfaaa
open Go

/-- Bytes, out of values. -/
def u8sOf : List PV → Option (List UInt8)
  | [] => some []
  | .int .u8 n :: r => if 0 ≤ n ∧ n < 256 then (u8sOf r).map (UInt8.ofNat n.toNat :: ·) else none
  | _ => none

theorem u8sOf_map (l : List UInt8) : u8sOf (l.map fun b => .int .u8 b.toNat) = some l := by
  induction l with
  | nil => rfl
  | cons b l ih =>
    have hb : b.toNat < 256 := b.toNat_lt
    simp only [List.map_cons, u8sOf, ih, Option.map_some]
    rw [if_pos (by omega)]
    simp

def liveAt (σ : Store) (b g : Nat) : Bool := match Store.at σ b with | some (.cells _ g' _) => g' == g | _ => false

def ptrRes : BinOp → Bool → Option (List PV)
  | .eql, b => some [.bool b]
  | .neq, b => some [.bool !b]
  | _, _ => none
def isSl : PV → Bool
  | .lit _ => true
  | .nils => true
  | .ref .. => true
  | _ => false
attribute [simp] ptrRes isSl liveAt

/-- What may come out of an operation of these. -/
def nilCmp (E : Env) (op : Op) (fr : Fr) (σ : Store) : Option (List PV) :=
  match op with
  | .binOp .eql T x (.const (.slice none 0 0)) _ => match E.td T, Fr.eval fr x with
    | .slice _, some (.lit []) => if E.kn T then some [.bool true, .bool false] else none
    | .slice _, some .nils => if E.kn T then some [.bool true, .bool false] else none
    | .slice _, some (.lit (_ :: _)) => if E.kn T then some [.bool false] else none
    | _, _ => none
  | .binOp o T x (.const (.pointer none)) _ => match E.td T, Fr.eval fr x with
    | .ptr _, some (.ptr b g i p) => if E.kn T ∧ liveAt σ b g = true then ptrRes o false else none
    | .ptr _, some .nilp => if E.kn T then ptrRes o true else none
    | _, _ => none
  | .convert T U x => match E.td T, E.td U with
    | .slice e, .slice _ => match Fr.eval fr x, E.td e with
      | some (.ref b g off len), .int .u8 => if T = U ∧ E.kn T ∧ 0 < len ∧ liveAt σ b g = true then some [.ref b g off len] else none
      | _, _ => none
    | .slice e, .str => match Fr.eval fr x, E.td e with
      | some v, .int .u8 => if E.kn T ∧ E.kn U ∧ isSl v = true then (match sList v σ with | some ys => (match u8sOf ys with | some l => some [.str ⟨l.toArray⟩] | none => none) | none => none) else none
      | _, _ => none
    | _, _ => none
  | _ => none

section
variable {E : Env} {N z : Nat} {Q : Post} {fr : Fr} {σ : Store}

theorem eqGuard_slice (P : Program) (op : BinOp) (T : TypeId) (x y : Operand) (a a' : Option Addr) (n c n' c' : Nat) (w : World) : (eqGuard op T x y (.slice a n c) (.slice a' n' c')).run P w = .ok () w := by
  unfold eqGuard; cases op <;> simp
theorem eqGuard_ptr (P : Program) (op : BinOp) (T : TypeId) (x y : Operand) (a a' : Option Addr) (w : World) : (eqGuard op T x y (.pointer a) (.pointer a')).run P w = .ok () w := by
  unfold eqGuard; cases op <;> simp
theorem run_equalIn_ptr_nil {P : Program} (w : World) (d : Nat) (t e : TypeId) (a : Option Addr) (h : P.underlying t = some (.pointer e)) : (Op.equalIn (d + 1) t (.pointer a) (.pointer none)).run P w = .ok a.isNone w := by
  cases a <;> simp [Op.equalIn, run_underlying h]
theorem run_eql_ptr_nil {P : Program} (w : World) (t e : TypeId) (a : Option Addr) (h : P.underlying t = some (.pointer e)) : (binOp .eql t (.pointer a) (.pointer none)).run P w = .ok (.bool a.isNone) w := by
  simp only [binOp]
  simp [Op.equal, Op.maxDepth, run_equalIn_ptr_nil w 9999 t e a h]
theorem run_neq_ptr_nil {P : Program} (w : World) (t e : TypeId) (a : Option Addr) (h : P.underlying t = some (.pointer e)) : (binOp .neq t (.pointer a) (.pointer none)).run P w = .ok (.bool (!a.isNone)) w := by
  simp only [binOp]
  simp [Op.equal, Op.maxDepth, run_equalIn_ptr_nil w 9999 t e a h]

theorem VR_u8s {c : Cx} {e : TypeId} : ∀ {ys : List PV} {cs : List Value} {l : List UInt8}, VR E c e ys cs → u8sOf ys = some l → cs = (l.map fun b => (b.toNat : Int)).map (Value.int .u8)
  | [], cs, l, h, hb => by
    simp only [u8sOf, Option.some.injEq] at hb; subst hb
    cases h; rfl
  | y :: ys, cs, l, h, hb => by
    unfold u8sOf at hb
    split at hb
    · rename_i heq; simp at heq
    · rename_i n r heq
      simp only [List.cons.injEq] at heq; obtain ⟨rfl, rfl⟩ := heq
      split at hb
      · rename_i hn
        simp only [Option.map_eq_some_iff] at hb
        obtain ⟨l', h1, rfl⟩ := hb
        cases h with
        | cons hf hx hs =>
          cases hx
          have ih := VR_u8s hs h1
          rw [ih]
          have : (UInt8.ofNat n.toNat).toNat = n.toNat := by simp; omega
          have e2 : ((UInt8.ofNat n.toNat).toNat : Int) = n := by rw [this]; omega
          simp only [List.map_cons, e2, List.cons_append, List.nil_append]
      · simp at hb
    · simp at hb

theorem u8_plain (O : E.OK) {e : TypeId} (hk : E.kn e = true) (hE : E.td e = .int .u8) : E.agg e = false ∧ E.size e = 1 := by
  obtain ⟨d, h1, h2⟩ := O.und e hk
  have h3 := O.td e hk
  rw [hE] at h3
  have h3 : E.P.underlying e = some (.int .u8) := h3
  rw [h1, Option.some.injEq] at h3; subst h3
  have h2 : E.agg e = false := h2
  exact ⟨h2, O.scalar e h2⟩
theorem bytes_fit {e : TypeId} (ha : E.agg e = false) : ∀ {ys : List PV} {l : List UInt8}, u8sOf ys = some l → ∀ y ∈ ys, fits E e y = true
  | [], l, _, y, hy => by simp at hy
  | x :: ys, l, h, y, hy => by
    unfold u8sOf at h
    split at h
    · rename_i heq; simp at heq
    · rename_i n r heq
      simp only [List.cons.injEq] at heq; obtain ⟨rfl, rfl⟩ := heq
      split at h
      · simp only [Option.map_eq_some_iff] at h
        obtain ⟨l', h1, _⟩ := h
        rcases List.mem_cons.1 hy with rfl | hy
        · simp [fits, ha]
        · exact bytes_fit ha h1 y hy
      · simp at h
    · simp at h

theorem live_at {σ : Store} {b g : Nat} (h : liveAt σ b g = true) : ∃ ty xs, Store.at σ b = some (.cells ty g xs) := by
  unfold liveAt at h
  split at h
  · rename_i ty g' xs hb
    simp only [beq_iff_eq] at h; subst h
    exact ⟨ty, xs, hb⟩
  · simp at h

/-- What these operations do at the machine. -/
theorem nilCmp_run (O : E.OK) {o : Oper} {vs : List PV} {cx : Cx} {a : Act} (h : nilCmp E o.op fr σ = some vs) (hn : Now E cx σ) (hf : FR E cx N fr a.tmps) :
    ∃ x v w' cx', (execOp a.eval o).run E.P cx.w = .ok (.value v) w' ∧ cx'.w = w' ∧ x ∈ vs ∧ V E cx' x v ∧ Now E cx' σ ∧ Step cx cx' := by
  unfold nilCmp at h
  split at h
  · rename_i T x U ho
    have key : ∀ e, E.kn T = true → E.td T = .slice e → (∃ (ad : Option Addr) (n c : Nat), a.eval x = .slice ad n c ∧ .bool ad.isNone ∈ vs) →
        ∃ x v w' cx', (execOp a.eval o).run E.P cx.w = .ok (.value v) w' ∧ cx'.w = w' ∧ x ∈ vs ∧ V E cx' x v ∧ Now E cx' σ ∧ Step cx cx' := fun e hk hT ⟨ad, n, c, hv, hb⟩ => by
      have hu := O.td T hk; rw [hT] at hu
      refine ⟨.bool ad.isNone, .bool ad.isNone, cx.w, cx, ?_, rfl, hb, V_one (.bool _) (by simp), hn, Step.refl cx⟩
      have := Lib.run_eql_slice_nil (P := E.P) cx.w T e ad n c 0 0 hu.1
      simp only [execOp, ho, hv, Sem.run_bind, show a.eval (.const (.slice none 0 0)) = .slice none 0 0 from rfl, eqGuard_slice, this, Result.andThen_ok, Sem.run_pure]
    split at h
    · rename_i e hT hx
      split at h
      · rename_i hk
        simp only [Option.some.injEq] at h; subst h
        obtain ⟨a1, a2, e2⟩ | h3 := (hf.ev x _ hx).lit_inv
        · obtain ⟨n, hv⟩ := e2
          exact key e hk hT ⟨_, _, _, hv, by cases a2 <;> simp⟩
        · obtain ⟨_, k, o', cap, _, _, _, _, hv, _⟩ := h3
          exact key e hk hT ⟨_, _, _, hv, by simp⟩
      · simp at h
    · rename_i e hT hx
      split at h
      · rename_i hk
        simp only [Option.some.injEq] at h; subst h
        obtain ⟨a2, hv⟩ := (hf.ev x _ hx).nils_inv
        exact key e hk hT ⟨_, _, _, hv, by cases a2 <;> simp⟩
      · simp at h
    · rename_i e y ys hT hx
      split at h
      · rename_i hk
        simp only [Option.some.injEq] at h; subst h
        obtain ⟨a1, _⟩ | h3 := (hf.ev x _ hx).lit_inv
        · simp at a1
        · obtain ⟨_, k, o', cap, _, _, _, _, hv, _⟩ := h3
          exact key e hk hT ⟨_, _, _, hv, by simp⟩
      · simp at h
    · simp at h
  · rename_i op T x U hne
    have ho : o.op = .binOp op T x (.const (.pointer none)) U := by assumption
    have key : ∀ e (ad : Option Addr), E.kn T = true → E.td T = .ptr e → a.eval x = .pointer ad → ptrRes op ad.isNone = some vs →
        ∃ x v w' cx', (execOp a.eval o).run E.P cx.w = .ok (.value v) w' ∧ cx'.w = w' ∧ x ∈ vs ∧ V E cx' x v ∧ Now E cx' σ ∧ Step cx cx' := fun e ad hk hT hv hop => by
      have hu := O.td T hk; rw [hT] at hu
      have hu : E.P.underlying T = some (.pointer e) := hu
      unfold ptrRes at hop
      split at hop
      · simp only [Option.some.injEq] at hop; subst hop
        refine ⟨_, .bool ad.isNone, cx.w, cx, ?_, rfl, List.mem_singleton.2 rfl, V_one (.bool _) (by simp), hn, Step.refl cx⟩
        simp only [execOp, ho, hv, Sem.run_bind, show a.eval (.const (.pointer none)) = .pointer none from rfl, eqGuard_ptr, run_eql_ptr_nil _ T e ad hu, Result.andThen_ok, Sem.run_pure]
      · simp only [Option.some.injEq] at hop; subst hop
        refine ⟨_, .bool !ad.isNone, cx.w, cx, ?_, rfl, List.mem_singleton.2 rfl, V_one (.bool _) (by simp), hn, Step.refl cx⟩
        simp only [execOp, ho, hv, Sem.run_bind, show a.eval (.const (.pointer none)) = .pointer none from rfl, eqGuard_ptr, run_neq_ptr_nil _ T e ad hu, Result.andThen_ok, Sem.run_pure]
      · simp at hop
    split at h
    · rename_i e b g i p hT hx
      split at h
      · rename_i hk
        obtain ⟨ty, xs, hb⟩ := live_at hk.2
        obtain ⟨m, ca, el, fz, cs, j1, j2, _⟩ := hn.blk hb
        have := (hf.ev x _ hx).ptr_inv.2.2 m j1 j2
        exact key e _ hk.1 hT this h
      · simp at h
    · rename_i e hT hx
      split at h
      · rename_i hk
        have hv : a.eval x = .pointer none := by
          exact (hf.ev x _ hx).nilp_inv
        exact key e _ hk hT hv h
      · simp at h
    · simp at h
  · rename_i T U x ho
    split at h
    · rename_i e e' hT hU
      split at h
      · rename_i b g off len hx hE
        split at h
        · rename_i hc
          obtain ⟨rfl, hk, hlen, hlive⟩ := hc
          simp only [Option.some.injEq] at h; subst h
          obtain ⟨ty, xs, hb⟩ := live_at hlive
          obtain ⟨m, ca, el, fz, cs, j1, j2, j3, j4, j5, j6, j7, j8, j9⟩ := hn.blk hb
          have hu := O.td T hk; rw [hT] at hu
          obtain ⟨hu, hke, _⟩ := hu
          have hue := O.td e hke; rw [hE] at hue
          have hue : E.P.underlying e = some (.int .u8) := hue
          obtain ⟨ad, cap, hv, hcap, hh⟩ := (hf.ev x _ hx).ref_inv.2.2 m j1 j2
          obtain ⟨had, hfit⟩ := hh.resolve_left (by omega)
          subst had
          have hshape : cx.w.shape? m.blk = some (el, ca.size) := by simp [World.shape?, j4]
          let fz' : Nat × Nat := if fz.1 = fz.2 then (ca.size, ca.size + 1) else (min fz.1 ca.size, max fz.2 (ca.size + 1))
          let w' : World := { cx.w with heap := cx.w.heap.setIfInBounds m.blk (.cells ca el fz') }
          have hlt : m.blk < cx.w.heap.size := (Array.getElem?_eq_some_iff.1 j4).1
          have hfr : cx.w.freeze ⟨m.blk, ca.size, none⟩ 1 = w' := by
            unfold World.freeze
            rw [if_neg (by decide)]
            refine congrArg (fun h => ({ cx.w with heap := h } : World)) ?_
            apply Array.ext
            · simp
            · intro i h1 h2
              rw [Array.getElem_modify, Array.getElem_setIfInBounds (by simpa using h1)]
              split
              · rename_i he; subst he
                have := (Array.getElem?_eq_some_iff.1 j4).2
                rw [this]
                obtain ⟨lo, hi⟩ := fz
                simp only [fz', beq_iff_eq]
              · rfl
          obtain ⟨n1, n2⟩ := hn.change (w := w') (m' := m) (blk := .cells ty g xs) j1 (by simp [w']) (fun k hk1 hk2 => by simp only [w', Array.getElem?_setIfInBounds_ne (Ne.symm hk1)]) rfl rfl rfl (Nat.le_refl _) (fun _ => rfl) (.inl rfl)
            (by simpa [w'] using hlt) (fun ext => by
              refine ⟨j2, j3, ca, el, fz', cs, by simp [Cx.at, w', hlt], j5, j6.ext ext, j7, j8, ?_⟩
              right
              rcases j9 with h9 | h9
              · simp [fz', h9]
              · simp only [fz']
                split
                · exact Nat.le_refl _
                · simp only; omega)
          have hset : σ.set b (some (.cells ty g xs)) = σ := by
            have := Store.at_some hb
            have hl := getElem?_lt this
            rw [List.getElem?_eq_getElem hl, Option.some.injEq] at this
            rw [← this, List.set_getElem_self]
          rw [hset] at n1
          refine ⟨_, _, w', _, ?_, rfl, List.mem_singleton.2 rfl, (hf.ev x _ hx).ext n2.ext, n1, n2⟩
          simp only [execOp, ho, hv, convert, Sem.run_bind, run_underlying hu, Result.andThen_ok, beq_self_eq_true, run_underlying hue, markStringish]
          simp [hshape, hfr]
        · simp at h
      · simp at h
    · rename_i e hT hU
      split at h
      · rename_i xv hx hE
        split at h
        · rename_i hk
          split at h
          · rename_i ys hys
            split at h
            · rename_i l hl
              simp only [Option.some.injEq] at h; subst h
              have hu := O.td T hk.1; rw [hT] at hu
              obtain ⟨hu, hke, _⟩ := hu
              have hue := O.td e hke
              have hue : E.P.underlying e = some (.int .u8) := by rw [hE] at hue; exact hue
              have huU := O.td U hk.2.1; rw [hU] at huU
              have huU : E.P.underlying U = some .string := huU
              have hfit : ∀ y ∈ ys, fits E e y = true := bytes_fit (u8_plain O hke hE).1 hl
              obtain ⟨cs, hr, hrun⟩ := list_ok O hn (hf.ev x _ hx) hys hfit
              have hcs := VR_u8s hr hl
              obtain ⟨hlen, hcells⟩ := hrun cx.w (fun _ _ => rfl)
              refine ⟨_, .string ⟨l.toArray⟩, cx.w, cx, ?_, rfl, List.mem_singleton.2 rfl, V_one (.str _) (by simp), hn, Step.refl cx⟩
              have hsz : E.size e = 1 := (u8_plain O hke hE).2
              have hsl : ∃ ad n c, a.eval x = .slice ad n c := by
                have hv := hf.ev x _ hx
                cases xv <;> simp only [isSl, Bool.false_eq_true, and_false] at hk
                · obtain ⟨k, hk⟩ := hv.nils_inv
                  exact ⟨_, _, _, hk⟩
                · rcases hv.lit_inv with ⟨_, k, n, hk⟩ | ⟨_, _, _, _, _, _, _, _, hk, _⟩
                  · exact ⟨_, _, _, hk⟩
                  · exact ⟨_, _, _, hk⟩
                · rename_i b g off len
                  simp only [sList] at hys
                  split at hys
                  · rename_i ty g' xs hb
                    split at hys
                    · rename_i hc
                      obtain ⟨rfl, _⟩ := hc
                      obtain ⟨m, ca, el, fz, cs, j1, j2, _⟩ := hn.blk hb
                      obtain ⟨ad, cap, hv, _⟩ := hv.ref_inv.2.2 m j1 j2
                      exact ⟨_, _, _, hv⟩
                    · simp at hys
                  · simp at hys
              obtain ⟨ad, n, c, hv⟩ := hsl
              have hb2 : (Conv.bytesToString (.slice ad n c)).run E.P cx.w = .ok (.string ⟨l.toArray⟩) cx.w := by
                rw [hv] at hlen hcells
                simp only [Builtin.lenOf, Sem.run_pure, Result.ok.injEq, and_true] at hlen
                have hn' : n = ys.length := by simpa using hlen
                cases ad with
                | none =>
                  have : l = [] := by
                    have hcs0 : cs = [] := by
                      simpa [Builtin.firstCells] using hcells
                    rw [hcs0] at hcs
                    simpa using hcs.symm
                  subst this
                  simp [Conv.bytesToString]; rfl
                | some ad =>
                  have hc : (loadCells ad n).run E.P cx.w = .ok ((l.map fun b => (b.toNat : Int)).map (Value.int .u8)).toArray cx.w := by
                    rw [← hcs, hn']
                    simpa [Builtin.firstCells, hsz] using hcells
                  rw [run_bytesToString cx.w ad n c _ hc, foldl_push_byteCells]
                  simp
              simp only [execOp, ho, hv, Sem.run_bind, run_convert_bytes_string cx.w T U e ad n c hu hue huU, hb2, Result.andThen_ok, Sem.run_pure]
            · simp at h
          · simp at h
        · simp at h
      · simp at h
    · simp at h
  · simp at h

theorem OpW_nilCmp (O : E.OK) {o : Oper} {K : Fr → Store → Prop} {vs : List PV} (h : nilCmp E o.op fr σ = some vs) (hd : ∀ t, o.dst = some t → t < N) (hK : ∀ v ∈ vs, K (Fr.put fr o.dst v) σ) : OpW E N z o Q K fr σ := fun cx a ht hn hf => by
  obtain ⟨x, v, w', cx', hrun, rfl, hx, hv, hn', hs⟩ := nilCmp_run (N := N) O h hn hf
  simp only [Oper.wp, hrun]
  exact ⟨_, σ, cx', rfl, hK x hx, hn', (hf.step hs).put hv hd, by cases o.dst <;> rfl, hs⟩
end
end Go.Proofs.Ythllcknfidnfaaa
