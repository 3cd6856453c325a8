/- Maps. -/
import Derived.Test.YthllcknfidnfaaaSm
import Derived.StringKeys
set_option linter.unusedVariables false
set_option linter.unusedSimpArgs false
namespace Go.Proofs.Ythllcknfidnfaaa
open Go

def keyLit : TD → PV → Option Lit
  | .str, .str s => if s.size ≤ maxLen then some (.string s.data.toList) else none
  | .int k, .int k' n => if k' = k ∧ (Lit.int k n).wf = true then some (.int k n) else none
  | _, _ => none

/-- A map's entries, in the order of their keys. -/
def mget {α : Type} (k : Lit) (es : List (Lit × α)) : Option α := (es.find? fun p => p.1.sameKey k).map (·.2)
def mins {α : Type} (x : Lit × α) : List (Lit × α) → List (Lit × α)
  | [] => [x]
  | y :: r => if x.1.before y.1 then x :: y :: r else y :: mins x r
def mdel {α : Type} (k : Lit) (es : List (Lit × α)) : List (Lit × α) := es.filter fun p => !p.1.sameKey k
def mput {α : Type} (k : Lit) (v : α) (es : List (Lit × α)) : List (Lit × α) := mins (k, v) (mdel k es)

section
variable {E : Env} {σ : Store} {nid : Nat} {cx : Cx}

theorem key_ok (O : E.OK) {K : TypeId} (hk : E.kn K = true) {x : PV} {kl : Lit} {v : Value} (h : keyLit (E.td K) x = some kl) (hv : V E cx x v) : Maps.Keyed E.P K ∧ keyOf E.P K v = some kl := by
  have ht := O.td K hk
  unfold keyLit at h
  split at h
  · rename_i s hT
    rw [hT] at ht
    split at h
    · rename_i hs
      simp only [Option.some.injEq] at h; subst h
      rw [hv.str_inv]
      exact ⟨Maps.string_keyed ht, WideMaps.keyOf_string_mk ht hs⟩
    · simp at h
  · rename_i k k' n hT
    rw [hT] at ht
    split at h
    · rename_i hc
      obtain ⟨rfl, hw⟩ := hc
      simp only [Option.some.injEq] at h; subst h
      rw [hv.int_inv]
      exact ⟨Maps.int_keyed ht, Maps.keyOf_int_mk ht hw⟩
    · simp at h
  · simp at h

theorem ML.get {es : List (Lit × PV)} {ds : List (Lit × DataW Value)} (h : ML E cx es ds) (k : Lit) : (∃ x v, mget k es = some x ∧ V E cx x v ∧ Maps.has (.map ds) k = true ∧ ∀ z, (DataW.map ds).atKey k z = .held v) ∨ (mget k es = none ∧ Maps.has (.map ds) k = false ∧ ∀ z, (DataW.map ds).atKey k z = z) := by
  induction h with
  | nil => exact .inr ⟨rfl, rfl, fun _ => rfl⟩
  | @cons k0 x v es ds h hs ih =>
    cases hk : k0.sameKey k with
    | true => exact .inl ⟨x, v, by simp [mget, hk], h, by simp [Maps.has, hk], fun z => by simp [DataW.atKey, hk]⟩
    | false =>
      rcases ih with ⟨x', v', h1, h2, h3, h4⟩ | ⟨h1, h3, h4⟩
      · refine .inl ⟨x', v', ?_, h2, ?_, fun z => ?_⟩
        · simpa [mget, hk] using h1
        · simpa [Maps.has, hk] using h3
        · have := h4 z; simpa [DataW.atKey, hk] using this
      · refine .inr ⟨?_, ?_, fun z => ?_⟩
        · simpa [mget, hk] using h1
        · simpa [Maps.has, hk] using h3
        · have := h4 z; simpa [DataW.atKey, hk] using this

theorem ML.del {es : List (Lit × PV)} {ds : List (Lit × DataW Value)} (h : ML E cx es ds) (k : Lit) : ML E cx (mdel k es) (ds.filter fun p => !p.1.sameKey k) := by
  induction h with
  | nil => exact .nil
  | @cons k0 x v es ds h hs ih =>
    unfold mdel at ih ⊢
    simp only [List.filter_cons]
    split
    · exact .cons h ih
    · exact ih

theorem ML.ins {es : List (Lit × PV)} {ds : List (Lit × DataW Value)} (h : ML E cx es ds) (k : Lit) {x : PV} {v : Value} (hv : V E cx x v) : ML E cx (mins (k, x) es) (DataW.insert (k, .held v) ds) := by
  induction h with
  | nil => exact .cons hv .nil
  | @cons k0 x0 v0 es ds h hs ih =>
    simp only [mins, DataW.insert]
    split
    · exact .cons hv (.cons h hs)
    · exact .cons h ih

def sLookup (E : Env) (T : TypeId) (mv xv : PV) (ok : Bool) (σ : Store) : Option PV :=
  match E.td T, mv with
  | .map K e, .map b => match keyLit (E.td K) xv, Store.at σ b with
    | some kl, some (.mp K' es) => if K' = K then some (if ok then .tup [(mget kl es).getD (E.zero e), .bool (mget kl es).isSome] else (mget kl es).getD (E.zero e)) else none
    | _, _ => none
  | _, _ => none

theorem zero_ok (O : E.OK) {e : TypeId} (hk : E.kn e = true) (c : Cx) : ∃ z, (zeroValue e).run E.P c.w = .ok z c.w ∧ V E c (E.zero e) z := by
  obtain ⟨i, z, h1, h2, h3, h4⟩ := O.zero e hk
  refine ⟨z, by simp [zeroValue, typeInfo, h1, h2], ?_⟩
  have := V_of_VC (h4 c).1 (h4 c).2
  rw [h3]; exact this

theorem VL.two {c : Cx} {x y : PV} {u v : Value} (h : V E c x u) (k : V E c y v) : VL E c [x, y] [u, v] := VL.app h k
where
  VL.app {c : Cx} : ∀ {xs ys : List PV} {us vs : List Value}, VL E c xs us → VL E c ys vs → VL E c (xs ++ ys) (us ++ vs)
  | _, _, _, _, .nil, k => k
  | _, _, _, _, .undef hs, k => .undef (VL.app hs k)
  | _, _, _, _, .one a b c hs, k => .one a b c (VL.app hs k)
  | _, _, _, _, .agg a hs, k => .agg a (VL.app hs k)
  | _, _, _, _, .tup a hs, k => .tup a (VL.app hs k)

theorem Y_lookup (O : E.OK) {o : Oper} {T : TypeId} {m x : Operand} {ok : Bool} {fr : Fr} {mv xv v : PV} (ho : o.op = .lookup T m x ok) (hm : Fr.eval fr m = some mv) (hx : Fr.eval fr x = some xv) (hk : E.kn T = true)
    (h : sLookup E T mv xv ok σ = some v) : Yld E nid o fr σ v σ := Yld_pure fun cx ρ hn he => by
  have hmv := he m mv hm
  have hxv := he x xv hx
  have htd := O.td T hk
  unfold sLookup at h
  split at h
  · rename_i K e b hT
    rw [hT] at htd
    obtain ⟨hu, hkK, hke⟩ := htd
    split at h
    · rename_i kl K' es hkl hb
      split at h
      · rename_i hK; subst hK
        simp only [Option.some.injEq] at h
        obtain ⟨kd, hkey⟩ := key_ok O hkK hkl hxv
        obtain ⟨mb, ds, h1, h2, h3, h4, h5, h6⟩ := hn.mp hb hmv
        obtain ⟨z, hz, hzv⟩ := zero_ok O hke cx
        cases ok with
        | true =>
          obtain ⟨u, ps, hrun, hR⟩ := h5.look_ok kd hu hz (zd := .held z) (zp := []) rfl hkey
          simp only [if_true] at h; subst h
          refine ⟨?_, (by simp only [execOp, ho, h4, Sem.run_bind, hrun, Result.andThen_ok, Sem.run_pure]; rfl), ?_⟩
          rcases h6.get kl with ⟨x', v', g1, g2, g3, g4⟩ | ⟨g1, g3, g4⟩
          · rw [g4] at hR; simp only [asHeld, Option.some.injEq, Prod.mk.injEq, DataW.held.injEq] at hR
            obtain ⟨rfl, -⟩ := hR
            rw [g1, g3]
            exact VL.tup (us := #[u, .bool true]) (VL.two g2 (V_one (.bool _) (by simp))) .nil
          · rw [g4] at hR; simp only [asHeld, Option.some.injEq, Prod.mk.injEq, DataW.held.injEq] at hR
            obtain ⟨rfl, -⟩ := hR
            rw [g1, g3]
            exact VL.tup (us := #[u, .bool false]) (VL.two hzv (V_one (.bool _) (by simp))) .nil
        | false =>
          obtain ⟨u, ps, hrun, hR⟩ := h5.lookup kd hu hz (zd := .held z) (zp := []) rfl hkey
          simp only [Bool.false_eq_true, if_false] at h; subst h
          refine ⟨?_, (by simp only [execOp, ho, h4, Sem.run_bind, hrun, Result.andThen_ok, Sem.run_pure]; rfl), ?_⟩
          rcases h6.get kl with ⟨x', v', g1, g2, g3, g4⟩ | ⟨g1, g3, g4⟩
          · rw [g4] at hR; simp only [asHeld, Option.some.injEq, Prod.mk.injEq, DataW.held.injEq] at hR
            obtain ⟨rfl, -⟩ := hR
            rw [g1]; exact g2
          · rw [g4] at hR; simp only [asHeld, Option.some.injEq, Prod.mk.injEq, DataW.held.injEq] at hR
            obtain ⟨rfl, -⟩ := hR
            rw [g1]; exact hzv
      · simp at h
    · simp at h
  · simp at h

def sMapSet (E : Env) (T : TypeId) (mv kv v : PV) (σ : Store) : Option Store :=
  match E.td T, mv with
  | .map K e, .map b => match keyLit (E.td K) kv, Store.at σ b with
    | some kl, some (.mp K' es) => if K' = K ∧ es.length < 1000000 then some (σ.set b (some (.mp K (mput kl v es)))) else none
    | _, _ => none
  | _, _ => none

theorem Y_mapUpdate (O : E.OK) {o : Oper} {T : TypeId} {m x y : Operand} {fr : Fr} {mv xv yv : PV} {σ' : Store} (ho : o.op = .mapUpdate T m x y) (hm : Fr.eval fr m = some mv) (hx : Fr.eval fr x = some xv) (hy : Fr.eval fr y = some yv) (hk : E.kn T = true)
    (h : sMapSet E T mv xv yv σ = some σ') : Yld E nid o fr σ .undef σ' := fun cx ρ hn he hnid htop => by
  have hmv := he m mv hm
  have hxv := he x xv hx
  have hyv := he y yv hy
  have htd := O.td T hk
  unfold sMapSet at h
  split at h
  · rename_i K e b hT
    rw [hT] at htd
    obtain ⟨hu, hkK, hke⟩ := htd
    split at h
    · rename_i kl K' es hkl hb
      split at h
      · rename_i hK; obtain ⟨rfl, hroom⟩ := hK
        simp only [Option.some.injEq] at h; subst h
        obtain ⟨kd, hkey⟩ := key_ok O hkK hkl hxv
        obtain ⟨mb, ds, h1, h2, h3, h4, h5, h6⟩ := hn.mp hb hmv
        have hl := h6.len
        have hmx : 1000000 ≤ maxLen := by decide
        have hroom' : ds.length < maxLen := by omega
        obtain ⟨w', hrun, hown, hg⟩ := h5.update kd hu hroom' hkey (val := ρ y) (d := .held (ρ y)) (ps := []) rfl
        obtain ⟨n1, n2⟩ := hn.change (w := w') (m' := mb) (blk := .mp K' (mput kl yv es)) h1 hg.size (fun k hne hlt => hg.block k hlt (fun e => hne (by simpa using e))) hg.os hg.tape hg.output (Nat.le_refl _) (fun _ => rfl) (.inl rfl)
          (Nat.lt_of_lt_of_le h5.lt hg.size) (fun ext => by
            refine ⟨h2, h3, DataW.insert (kl, .held (ρ y)) (ds.filter fun p => !p.1.sameKey kl), ?_, ?_⟩
            · have h7 : ML E cx (mput kl yv es) (DataW.insert (kl, .held (ρ y)) (ds.filter fun p => !p.1.sameKey kl)) := (h6.del kl).ins kl hyv
              rw [h7.len]; exact ownsMap_n hown
            · exact ((h6.del kl).ins kl hyv).ext ext)
        refine ⟨.skip, undef, w', _, by simp [execOp, ho, h4, hrun, Result.andThen], .inr ⟨rfl, rfl⟩, rfl, n1, V_undef _, n2, fun b hb => .inl hb⟩
      · simp at h
    · simp at h
  · simp at h

def sMapDel (E : Env) (T K : TypeId) (mv kv : PV) (σ : Store) : Option Store :=
  match E.td T, mv with
  | .map K0 e, .map b => match keyLit (E.td K) kv, Store.at σ b with
    | some kl, some (.mp K' es) => if K' = K ∧ K0 = K then some (σ.set b (some (.mp K (mdel kl es)))) else none
    | _, _ => none
  | _, _ => none

theorem Y_delete (O : E.OK) {o : Oper} {c : Call} {T K : TypeId} {m x : Operand} {fr : Fr} {mv xv : PV} {σ' : Store} (ho : o.op = .call c) (hc : c.callee = .builtin .delete) (ha : c.args = #[m, x]) (ht : c.argTypes = #[T, K])
    (hm : Fr.eval fr m = some mv) (hx : Fr.eval fr x = some xv) (hk : E.kn T = true) (h : sMapDel E T K mv xv σ = some σ') : Yld E nid o fr σ (.tup []) σ' := fun cx ρ hn he hnid htop => by
  have hmv := he m mv hm
  have hxv := he x xv hx
  have htd := O.td T hk
  unfold sMapDel at h
  split at h
  · rename_i K0 e b hT
    rw [hT] at htd
    obtain ⟨hu, hkK, hke⟩ := htd
    split at h
    · rename_i kl K' es hkl hb
      split at h
      · rename_i hK; obtain ⟨rfl, rfl⟩ := hK
        simp only [Option.some.injEq] at h; subst h
        obtain ⟨kd, hkey⟩ := key_ok O hkK hkl hxv
        obtain ⟨mb, ds, h1, h2, h3, h4, h5, h6⟩ := hn.mp hb hmv
        obtain ⟨w', hrun, hown, ht0⟩ := h5.drop kd hu hkey o.type
        have hg := ht0.grown
        obtain ⟨n1, n2⟩ := hn.change (w := w') (m' := mb) (blk := .mp K0 (mdel kl es)) h1 hg.size (fun k hne hlt => hg.block k hlt (fun e => hne (by simpa using e))) hg.os hg.tape hg.output (Nat.le_refl _) (fun _ => rfl) (.inl rfl)
          (Nat.lt_of_lt_of_le h5.lt hg.size) (fun ext => by
            refine ⟨h2, h3, ds.filter (fun p => !p.1.sameKey kl), ?_, (h6.del kl).ext ext⟩
            rw [(h6.del kl).len]; exact ownsMap_n hown)
        refine ⟨.value (.tuple #[]), .tuple #[], w', _, ?_, .inl rfl, rfl, n1, VL.tup (us := #[]) .nil .nil, n2, fun b hb => .inl hb⟩
        rw [run_builtin ho hc, ha, ht]
        simp [builtin, h4, hrun, Result.andThen]
      · simp at h
    · simp at h
  · simp at h

theorem Y_makeMap (O : E.OK) {o : Oper} {T K e : TypeId} {fr : Fr} (ho : o.op = .makeMap T none) (hk : E.kn T = true) (hT : E.td T = .map K e) : Yld E nid o fr σ (.map nid) (Store.new σ nid (.mp K [])) := fun cx ρ hn he hnid htop => by
  obtain ⟨h1, h2⟩ := hn.alloc hnid htop (m := ⟨cx.w.heap.size, 0, 0, K, 0⟩) (w := cx.w.alloc (.map #[] 0)) (by simp) (fun k hk => heap_alloc_old' _ _ _ hk) rfl rfl rfl (Nat.le_refl _) (by simp)
    (blk := .mp K []) (fun ext => ⟨rfl, rfl, [], World.ownsMap_made _ _ _ _, .nil⟩)
  refine ⟨.value (.map (some cx.w.heap.size)), _, _, _, ?_, .inl rfl, rfl, h1, ?_, h2, fun _ h => h⟩
  · simp [execOp, ho, Instr.makeMap]; rfl
  · refine V_one (.map _ _ rfl (.inr rfl) fun m hm _ => ?_) (by simp)
    simp only [Cx.add, if_true, Option.some.injEq] at hm; subst hm; rfl

end
end Go.Proofs.Ythllcknfidnfaaa
