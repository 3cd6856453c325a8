/- DiskPlays, walked. -/
import Derived.Test.YtdplbgfokoajjaaXj
import Derived.Test.YtdplbgfokoajjaaXl
import Derived.Test.YtdplbgfokoajjaaXh
section
set_option linter.unusedVariables false
set_option linter.unusedSimpArgs false
set_option maxRecDepth 20000
namespace Go.Proofs.Ytdplbgfokoajjaa
open Go
theorem w_backk {E : Env} {N z : Nat} {Q : Post} {fr fr' : Fr} {σ : Store} {k : List It} {c : Code} (ts : List Nat) (hf : Fr.keep ts fr = fr') (h : TL E N z c (SP E N z Q k) fr' σ) : SP E N z Q (.head c :: k) .normal fr σ := TL_keep ts (by rw [hf]; exact h)
attribute [local irreducible] T TL C RG DP SP YR afterRG DPcall
attribute [-simp] List.map_set
theorem eN_names {d : Dk} (h : srt d.files) : d.files.map eN = strs (names d) := by
  rw [names_srt h]; simp [strs]
section
variable {R : Re → Store → Prop} {σ : Store}
set_option maxHeartbeats 8000000 in
theorem C_dplays {n : Int} {l : List OpV} {s : ByteArray} (hl : l.length ≤ 9223372036854775807) (hO : ∀ o ∈ l, o.OK) (hs : s.size ≤ maxLen) (h : R (.ret (.bool true)) σ) : C tE 4 [i64 n, .lit (encOps l), .str s] σ R := by
  have hll : (encOps l).length = l.length := by simp [encOps]
  have cg : ∀ {R : Re → Store → Prop} {σ : Store}, R (.ret (.bool (great l))) σ → C tE 16 [.lit (encOps l)] σ R := fun h => C_great hl h
  refine C_pure tOK rfl ?_
  refine s_body' Try.func4 tOK rfl (by conv => lhs; simp) (by conv => lhs; simp) (by conv => lhs; simp [Fr.args]) rfl (by conv => lhs; try simp) fun R9 hR9 => ?_
  cases hr : (decide (n < 0) || decide (1048576 < n)) with
  | true =>
    have hr' : n < 0 ∨ 1048576 < n := by simpa using hr
    repeat' (first | refine go ?_ | refine s_seq fun y9 hy9 => ?_ | refine qT _ ?_ ?_ | refine qG _ ?_ ?_ | refine qN ?_ ?_ | (refine QB.mk fun hb9 => ?_; (try simp only [hb9]); (try simp at hb9); first | (exfalso; omega) | subst hb9 | skip) | (refine nZ ?_; first | refine C_dhead ?_ | refine (C_new_none hr) ?_ | refine (R_new_none hr') ?_))
    exact h
  | false =>
    have hr1 : decide (n < 0) = false := by cases h1 : decide (n < 0) <;> simp_all
    have hr2 : decide (1048576 < n) = false := by cases h1 : decide (1048576 < n) <;> simp_all
    have n0 : 0 ≤ n := by simpa using hr1
    have n1 : n ≤ 1048576 := by simpa using hr2
    have cg0 : great l = true ∨ 900 < s.size ∨ great l = false ∧ s.size ≤ 900 := by
      cases hg : great l with
      | true => exact .inl rfl
      | false =>
        rcases Nat.lt_or_ge 900 s.size with h9 | h9
        · exact .inr (.inl h9)
        · exact .inr (.inr ⟨rfl, h9⟩)
    have cN : ∀ {R : Re → Store → Prop}, R (.ret (.ptr 1 0 0 [])) [some (.mp 9 []), some (.cells 74 0 [.agg 74 [i64 n, .map 0, i64 (-1), i64 0]])] → C tE 14 [i64 n] [] R := fun h => C_new_ok hr1 hr2 h
    rcases cg0 with hg | hg | ⟨hg, h9⟩
    · rw [hg] at cg
      repeat' (first | refine go ?_ | refine s_seq fun y9 hy9 => ?_ | refine qT _ ?_ ?_ | refine qG _ ?_ ?_ | refine qN ?_ ?_ | (refine QB.mk fun hb9 => ?_; (try simp only [hb9]); (try simp at hb9); first | (exfalso; omega) | subst hb9 | skip) | refine cE Try.func15 tOK fun R9 hR9 => ?_ | (refine nZ ?_; first | refine C_dhead ?_ | refine cN ?_ | refine cg ?_))
      exact h
    · repeat' (first | refine go ?_ | refine s_seq fun y9 hy9 => ?_ | refine qT _ ?_ ?_ | refine qG _ ?_ ?_ | refine qN ?_ ?_ | (refine QB.mk fun hb9 => ?_; (try simp only [hb9]); (try simp at hb9); first | (exfalso; omega) | subst hb9 | skip) | refine cE Try.func15 tOK fun R9 hR9 => ?_ | (refine nZ ?_; first | refine C_dhead ?_ | refine cN ?_ | refine cg ?_))
      all_goals exact h
    · rw [hg] at cg
      have l3 : l.length ≤ 300 := by
        unfold great at hg
        simp only [Bool.or_eq_false_iff, decide_eq_false_iff_not] at hg
        omega
      repeat' (first | refine go ?_ | refine s_seq fun y9 hy9 => ?_ | refine qT _ ?_ ?_ | refine qG _ ?_ ?_ | refine qN ?_ ?_ | (refine QB.mk fun hb9 => ?_; (try simp only [hb9]); (try simp at hb9); first | (exfalso; omega) | subst hb9 | skip) | refine cE Try.func15 tOK fun R9 hR9 => ?_ | (refine nZ ?_; first | refine C_dhead ?_ | refine cN ?_ | refine cg ?_))
      refine t_pick tOK [0, 1, 2] [0, 1, 2, 7, 8, 9, 10] (by decide) (by rfl) (by rfl) (by conv => lhs; simp [Fr.keep]) (by conv => lhs; simp [pickS']) (by simp [Fr.keep]) (by simp [pickS']) ?_
      refine T_wk (fr' := [(0, i64 n), (1, .lit (encOps l)), (2, .str s), (7, .bool true), (8, .ptr 1 0 0 []), (9, .ptr 2 0 0 []), (10, i64 (0 : Nat))]) (σ' := [some (.mp 9 []), some (.cells 74 0 [.agg 74 [i64 n, .map 0, i64 (-1), i64 0]]), some (.cells 77 0 [.agg 77 [i64 n, .lit [], i64 (-1), i64 0]])]) ?_ ?_ ?_
      · repeat' (first | with_reducible exact WkF.refl _ | with_reducible exact WkS.refl _ | with_reducible exact WkB.refl _ | with_reducible exact Wk.refl _ | with_reducible exact WkL.refl _ | exact Wk.nils | refine WkF.cons ?_ ?_ | refine WkS.cons ?_ ?_ | refine WkB.cells ?_ | refine WkL.cons ?_ ?_ | refine Wk.agg ?_ | exact Wk.refl _ | exact WkL.refl _)
      · repeat' (first | with_reducible exact WkF.refl _ | with_reducible exact WkS.refl _ | with_reducible exact WkB.refl _ | with_reducible exact Wk.refl _ | with_reducible exact WkL.refl _ | exact Wk.nils | refine WkF.cons ?_ ?_ | refine WkS.cons ?_ ?_ | refine WkB.cells ?_ | refine WkL.cons ?_ ?_ | refine Wk.agg ?_ | exact Wk.refl _ | exact WkL.refl _)
      refine s_loop fun c9 hc9 => ?_
      refine s_loopn l.length (fun j fr σ => ∃ d, Inv d ∧ srt d.files ∧ DkAt σ 1 0 d ∧ RdAt σ 2 d ∧ fr = [(0, i64 n), (1, .lit (encOps l)), (2, .str s), (7, .bool true), (8, .ptr 1 0 0 []), (9, .ptr 2 0 0 []), (10, i64 j)]) ?_ ⟨⟨n, [], -1, 0⟩, Inv.new n0 n1, List.Pairwise.nil, ⟨by decide, rfl, rfl⟩, .nil rfl rfl, rfl⟩
      rintro j fr σ hj ⟨d, hI, hS, D, r, rfl⟩ ih
      refine s_round hc9 ?_
      clear hc9 cg cN
      have hus := u8sOf_u8l'
      rcases Nat.lt_or_ge j l.length with hlt | hge
      · obtain ⟨o, ho, heo⟩ : ∃ o : OpV, o.OK ∧ (encOps l)[j]? = some (.agg 41 [i64 o.what, .str o.name, .str o.to, .lit (u8l o.b), i64 o.n, .lit (ints o.keep)]) := ⟨l[j], hO l[j] (List.getElem_mem hlt), by simp [encOps, hlt, encOp]⟩
        have F9 := And.intro @heo <| @hll
        repeat' (first | refine gf ?_ | refine s_seq fun y9 hy9 => ?_ | refine qT _ ?_ ?_ | refine qG _ ?_ ?_ | refine qN ?_ ?_ | (refine QB.mk fun hb9 => ?_; (try simp only [hb9]); (try simp at hb9); first | (exfalso; omega) | subst hb9 | skip) | (refine nZ ?_; refine (C_do_at D hI ho) ?_))
        have r1 := r.dk (e' := (doOp d o).2) D (by decide) (by decide)
        have D1 := D.put (doOp d o).2
        refine R_plain_at r1 hI hS ho ?_
        intro σ' r2 k2
        have D2 := D1.kept k2 (by decide) (by decide)
        have I2 := hI.doOp ho
        have S2 := srt_doOp (o := o) hS
        clear D1 r1 k2 D r hS hI
        generalize (doOp d o).2 = d2 at *
        generalize (doOp d o).1 = e2 at *
        have cl : ∀ {R : Re → Store → Prop}, R (.ret (.lit (strs (names d2)))) σ' → C tE 23 [.ptr 2 0 0 []] σ' R := fun h => R_list_rd r2 I2 (by rw [eN_names S2]; exact h)
        have n64 : (names d2).length < 1000000000 := by rw [names_len]; have := I2.n; omega
        have cs : ∀ {R : Re → Store → Prop} {σ : Store}, R (.ret (.bool true)) σ → C tE 21 [.lit (strs (names d2)), .lit (strs (names d2))] σ R := fun h => C_sames n64 n64 (by rw [beq_self_eq_true]; exact h)
        have F9 := @hus
        repeat' (first | refine gf ?_ | refine s_seq fun y9 hy9 => ?_ | refine qT _ ?_ ?_ | refine qG _ ?_ ?_ | refine qN ?_ ?_ | (refine QB.mk fun hb9 => ?_; (try simp only [hb9]); (try simp at hb9); first | (exfalso; omega) | subst hb9 | skip) | (refine nZ ?_; first | refine (C_read_at D2 I2 hs) ?_ | refine (R_read_rd r2 I2) ?_ | refine (C_list_at D2 I2) ?_ | refine cl ?_ | refine cs ?_ | refine (C_used_at D2 I2.usedlt) ?_ | refine (R_used_rd r2 I2) ?_ | refine (C_synced_at D2 hs) ?_ | refine (R_synced_rd r2 I2) ?_))
        refine w_backk [0, 1, 2, 7, 8, 9, 10] (by conv => lhs; simp) ?_
        exact ih hlt _ _ ⟨d2, I2, S2, D2, r2, by simp⟩
      · have F9 := And.intro @hus <| @hll
        repeat' (first | refine gf ?_ | refine s_seq fun y9 hy9 => ?_ | refine qT _ ?_ ?_ | refine qG _ ?_ ?_ | refine qN ?_ ?_ | (refine QB.mk fun hb9 => ?_; (try simp only [hb9]); (try simp at hb9); first | (exfalso; omega) | subst hb9 | skip) | (refine nZ ?_; first | refine (C_read_at D hI hs) ?_ | refine (R_read_rd r hI) ?_))
        exact h
end
end Go.Proofs.Ytdplbgfokoajjaa
end
section
/- From the logic to the statements: what is handed in, and what is asked of the end. -/
set_option linter.unusedVariables false
set_option linter.unusedSimpArgs false
set_option maxRecDepth 4000
namespace Go.Proofs.Ytdplbgfokoajjaa
open Go Go.ChangeShapes Go.RowKit

section
theorem dat_op {n : Nat} {x : PV} (h : Dat tE (n + 3) 41 x) : ∃ o : OpV, x = encOp o ∧ o.OK := by
  obtain ⟨fs, rfl, hl, hx⟩ := (h : ∃ fs, x = .agg 41 fs ∧ fs.length = (tE.lay 41).length ∧ ∀ (i : Nat) u y, (tE.lay 41)[i]? = some u → fs[i]? = some y → Dat tE (n + 2) u y)
  have hl : fs.length = 6 := hl
  match fs, hl, hx with
  | [a, b, c, d, e, f], _, hx =>
    obtain ⟨w, rfl, _⟩ := dat_int (hx 0 3 a rfl rfl)
    obtain ⟨s, rfl, hs⟩ := dat_str (hx 1 9 b rfl rfl)
    obtain ⟨t, rfl, ht⟩ := dat_str (hx 2 9 c rfl rfl)
    obtain ⟨l, rfl, hlb⟩ := dat_bytes (hx 3 23 d rfl rfl)
    obtain ⟨k, rfl, hk⟩ := dat_int (hx 4 3 e rfl rfl)
    obtain ⟨q, rfl, hq, hq2⟩ := dat_ints (hx 5 39 f rfl rfl)
    exact ⟨⟨w, s, t, l, k, q⟩, rfl, ⟨hs, ht, hk.2, fun k hk => (hq2 k hk).2, hq, Nat.le_trans hlb (show maxLen ≤ 9223372036854775807 by decide)⟩⟩
theorem dat_ops {n : Nat} {x : PV} (h : Dat tE (n + 4) 32 x) : ∃ l : List OpV, x = .lit (encOps l) ∧ l.length ≤ maxLen ∧ ∀ o ∈ l, o.OK :=
  dat_list (t := 0) (f := encOp) (P := OpV.OK) (h : ∃ xs, x = .lit xs ∧ xs.length ≤ maxLen ∧ ∀ y ∈ xs, Dat tE (n + 3) 41 y) (fun y hy => dat_op hy)
end
end Go.Proofs.Ytdplbgfokoajjaa
end
