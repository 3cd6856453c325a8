/- A check of a table of types against the program's own, and what follows from it. -/
import Derived.Test.YthllcknfidnfaaaSo
set_option linter.unusedVariables false
set_option linter.unusedSimpArgs false
namespace Go.Proofs.Ythllcknfidnfaaa
open Go

/-- Does a zero value stand at the head of some cells? What is left. -/
def zchk (E : Env) : Nat → TypeId → PV → List Value → Option (List Value)
  | 0, _, _, _ => none
  | n + 1, T, x, cs =>
    if fits E T x then
      match x, cs with
      | .agg t fs, cs => (((E.lay t).zip fs).foldlM (fun (r : List Value) (p : TypeId × PV) => zchk E n p.1 p.2 r) cs).bind fun r => if (E.lay t).length == fs.length then some r else none
      | .bool b, .bool c :: r => if b == c then some r else none
      | .int k a, .int j b :: r => if k == j && a == b then some r else none
      | .str s, .string u :: r => if s.data.toList == u.data.toList then some r else none
      | .nilp, .pointer none :: r => some r
      | .nils, .slice none 0 0 :: r => some r
      | .nilm, .map none :: r => some r
      | .nilf, .nilFunc :: r => some r
      | .nili, .nilIface :: r => some r
      | _, _ => none
    else none

theorem zchk_ok {E : Env} : ∀ (n : Nat) (T : TypeId) (x : PV) (cs r : List Value), zchk E n T x cs = some r → ∃ ds, cs = ds ++ r ∧ fits E T x = true ∧ ∀ c, VC E c x ds
  | 0, T, x, cs, r, h => by simp [zchk] at h
  | n + 1, T, x, cs, r, h => by
    simp only [zchk] at h
    split at h
    · rename_i hf
      split at h
      · rename_i t fs _
        obtain ⟨r', h1, h2⟩ := Option.bind_eq_some_iff.1 h
        split at h2
        · rename_i hl
          simp only [Option.some.injEq] at h2; subst h2
          have key : ∀ (Ts : List TypeId) (fs : List PV) (cs r : List Value), Ts.length = fs.length → (Ts.zip fs).foldlM (fun (r : List Value) (p : TypeId × PV) => zchk E n p.1 p.2 r) cs = some r → ∃ ds, cs = ds ++ r ∧ ∀ c, VCs E c Ts fs ds := by
            intro Ts
            induction Ts with
            | nil =>
              intro fs cs r hl h
              match fs, hl with
              | [], _ => simp at h; subst h; exact ⟨[], rfl, fun c => .nil⟩
            | cons U Us ih =>
              intro fs cs r hl h
              match fs, hl with
              | f :: fs, hl =>
                simp only [List.zip_cons_cons, List.foldlM_cons] at h
                obtain ⟨r1, h3, h4⟩ := Option.bind_eq_some_iff.1 h
                obtain ⟨ds, rfl, k1, k2⟩ := zchk_ok n U f cs r1 h3
                obtain ⟨es, rfl, k3⟩ := ih fs r1 r (by simpa using hl) h4
                exact ⟨ds ++ es, by simp, fun c => .cons k1 (k2 c) (k3 c)⟩
          obtain ⟨ds, e1, e2⟩ := key _ _ _ _ (eq_of_beq hl) h1
          exact ⟨ds, e1, hf, fun c => .agg _ _ _ (e2 c)⟩
        · simp at h2
      all_goals (try split at h) <;> simp only [Option.some.injEq, reduceCtorEq] at h <;> try subst h
      · rename_i e; have := eq_of_beq e; subst this; exact ⟨[_], rfl, hf, fun c => .bool _⟩
      · rename_i e; simp only [Bool.and_eq_true, beq_iff_eq] at e; obtain ⟨rfl, rfl⟩ := e; exact ⟨[_], rfl, hf, fun c => .int _ _⟩
      · rename_i s u _ e
        have : s = u := by
          have := eq_of_beq e
          apply ByteArray.ext; exact Array.ext' this
        subst this; exact ⟨[_], rfl, hf, fun c => .str _⟩
      · exact ⟨[_], rfl, hf, fun c => .nilp⟩
      · exact ⟨[_], rfl, hf, fun c => .nils none⟩
      · exact ⟨[_], rfl, hf, fun c => .nilm⟩
      · exact ⟨[_], rfl, hf, fun c => .nilf⟩
      · exact ⟨[_], rfl, hf, fun c => .nili⟩
    · simp at h

def isAggD : TypeDesc → Bool
  | .struct _ | .array _ _ => true
  | _ => false

def tdchk (E : Env) (T : TypeId) (d : TypeDesc) : Bool :=
  match E.td T, d with
  | .bool, .bool => true
  | .int k, .int j => k == j
  | .str, .string => true
  | .ptr e, .pointer f => e == f
  | .slice e, .slice f => e == f && E.kn e && decide (0 < E.size e)
  | .arr n e, .array m f => n == m && e == f && E.lay T == List.replicate n e && E.kn e && decide (0 < E.size e)
  | .map k e, .map j f => k == j && e == f && E.kn k && E.kn e
  | .st, .struct fs => fs.size == (E.lay T).length && (List.range fs.size).all fun k => match fs[k]?, (E.lay T)[k]? with
    | some f, some u => u == f.type && f.offset == offOf E T k && E.kn u && decide (0 < E.size u)
    | _, _ => false
  | .fn, .func _ _ _ => true
  | .ifc, .interface _ => true
  | .other, _ => true
  | _, _ => false

theorem tdchk_ok {E : Env} {T : TypeId} {d : TypeDesc} (hd : E.P.underlying T = some d) (h : tdchk E T d = true) : TDOK E T (E.td T) := by
  unfold tdchk at h
  split at h
  · rename_i ht; rw [ht]; exact hd
  · rename_i ht; rw [ht]; have := eq_of_beq h; subst this; exact hd
  · rename_i ht; rw [ht]; exact hd
  · rename_i ht; rw [ht]; have := eq_of_beq h; subst this; exact hd
  · rename_i ht; rw [ht]
    simp only [Bool.and_eq_true, beq_iff_eq, decide_eq_true_eq] at h
    obtain ⟨⟨rfl, h1⟩, h2⟩ := h; exact ⟨hd, h1, h2⟩
  · rename_i ht; rw [ht]
    simp only [Bool.and_eq_true, beq_iff_eq, decide_eq_true_eq] at h
    obtain ⟨⟨⟨⟨rfl, rfl⟩, h1⟩, h2⟩, h3⟩ := h; exact ⟨hd, h1, h2, h3⟩
  · rename_i ht; rw [ht]
    simp only [Bool.and_eq_true, beq_iff_eq] at h
    obtain ⟨⟨⟨rfl, rfl⟩, h1⟩, h2⟩ := h; exact ⟨hd, h1, h2⟩
  · rename_i fs ht; rw [ht]
    simp only [Bool.and_eq_true, beq_iff_eq, List.all_eq_true, List.mem_range] at h
    obtain ⟨h1, h2⟩ := h
    refine ⟨fs, hd, h1, fun k f hk => ?_⟩
    have hlt : k < fs.size := by
      rcases Nat.lt_or_ge k fs.size with h | h
      · exact h
      · simp [Array.getElem?_eq_none h] at hk
    have := h2 k hlt
    rw [hk] at this
    split at this
    · rename_i f' u e1 e2
      simp only [Option.some.injEq] at e1; subst e1
      simp only [Bool.and_eq_true, beq_iff_eq, decide_eq_true_eq] at this
      obtain ⟨⟨⟨rfl, j2⟩, j3⟩, j4⟩ := this
      exact ⟨e2, j2, j3, j4⟩
    · simp at this
  · rename_i ht; rw [ht]; exact ⟨_, _, _, hd⟩
  · rename_i ht; rw [ht]; exact ⟨_, hd⟩
  · rename_i ht; rw [ht]; trivial
  · simp at h

def tchk (E : Env) (T : TypeId) : Bool :=
  (match E.P.info? T with
    | some i => i.size == E.size T && i.bytes == E.bytes T && (match i.zero with
      | some z => (match z with | .agg _ => E.agg T | _ => !E.agg T && z.cells.size == 1) && (match zchk E 8 T (E.zero T) z.cells.toList with | some [] => true | _ => false)
      | none => false)
    | none => false) &&
  (match E.P.underlying T with
    | some d => E.agg T == isAggD d && tdchk E T d
    | none => false)

def fchk (E : Env) (f : FuncId) : Bool := match E.P.funcs[f]? with | some g => !(g.name == "runtime.NumGoroutine") && g.body.isSome | none => false

theorem Env.ok_of_check {E : Env} (F : E.Fine) (ts fs : List Nat) (hk : ∀ T, E.kn T = true → T ∈ ts) (hf : ∀ f, E.fk f = true → f ∈ fs) (ht : ts.all (tchk E) = true) (hg : fs.all (fchk E) = true) : E.OK := by
  have H : ∀ T, E.kn T = true → tchk E T = true := fun T h => List.all_eq_true.1 ht T (hk T h)
  have A : ∀ T, E.kn T = true → ∃ i z d, E.P.info? T = some i ∧ i.size = E.size T ∧ i.bytes = E.bytes T ∧ i.zero = some z ∧ z = mkv0 E T z.cells.toList ∧ (∀ c, VC E c (E.zero T) z.cells.toList ∧ fits E T (E.zero T) = true) ∧
      E.P.underlying T = some d ∧ E.agg T = isAggD d ∧ tdchk E T d = true := fun T h => by
    have := H T h
    unfold tchk at this
    simp only [Bool.and_eq_true] at this
    obtain ⟨h1, h2⟩ := this
    split at h2
    · rename_i d hd
      simp only [Bool.and_eq_true, beq_iff_eq] at h2
      split at h1
      · rename_i i hi
        simp only [Bool.and_eq_true, beq_iff_eq] at h1
        obtain ⟨⟨j1, j2⟩, j3⟩ := h1
        split at j3
        · rename_i z hz
          simp only [Bool.and_eq_true] at j3
          obtain ⟨j3, j4⟩ := j3
          split at j4
          · rename_i hzc
            obtain ⟨ds, e1, e2, e3⟩ := zchk_ok _ _ _ _ _ hzc
            rw [List.append_nil] at e1
            refine ⟨i, z, d, hi, j1, j2, hz, ?_, fun c => ⟨by rw [e1]; exact e3 c, e2⟩, hd, h2.1, h2.2⟩
            split at j3
            · rename_i cs; simp [mkv0, j3, Value.cells]
            · rename_i hne
              simp only [Bool.and_eq_true, Bool.not_eq_true', beq_iff_eq] at j3
              simp only [mkv0, j3.1, Bool.false_eq_true, if_false]
              cases z <;> first | rfl | exact absurd rfl (hne _)
          · simp at j4
        · simp at j3
      · simp at h1
    · simp at h2
  refine { F with info := fun T h => ?_, und := fun T h => ?_, td := fun T h => ?_, zero := fun T h => ?_, fn := fun f h => ?_ }
  · obtain ⟨i, z, d, h1, h2, h3, _⟩ := A T h; exact ⟨i, h1, h2, h3⟩
  · obtain ⟨i, z, d, _, _, _, _, _, _, h1, h2, h3⟩ := A T h
    exact ⟨d, h1, by rw [h2]; cases d <;> rfl⟩
  · obtain ⟨i, z, d, _, _, _, _, _, _, h1, h2, h3⟩ := A T h; exact tdchk_ok h1 h3
  · obtain ⟨i, z, d, h1, _, _, h4, h5, h6, _⟩ := A T h; exact ⟨i, z, h1, h4, h5, h6⟩
  · have := List.all_eq_true.1 hg f (hf f h)
    unfold fchk at this
    split at this
    · rename_i g hg'
      simp only [Bool.and_eq_true, Bool.not_eq_true'] at this
      exact ⟨g, hg', this.1, by cases hb : g.body <;> simp_all⟩
    · simp at this

end Go.Proofs.Ythllcknfidnfaaa
