/- ControlTime, walked. -/
import Derived.Test.YtncbfppafgjdiaaGreatXk
section
set_option linter.unusedVariables false
set_option linter.unusedSimpArgs false
set_option maxRecDepth 20000
namespace Go.Proofs.YtncbfppafgjdiaaGreat
open Go
attribute [local irreducible] T TL C RG DP SP YR afterRG DPcall
attribute [-simp] List.map_set
/-- What may go out behind an event. -/
theorem out_shape (l : LiveV) (e : EvV) : (stepL l e).2 = [] ∨ (okEv e = true ∧ e.kind = 2 ∧ ∃ n, (stepL l e).2 = [{ kind := 5, t := (stepL l e).1.now, n := n }] ∨ (∃ i, (stepL l e).2 = [{ kind := 7, id := i }, { kind := 5, t := (stepL l e).1.now, n := n }]) ∨
    (∃ i, (stepL l e).2 = [{ kind := 5, t := (stepL l e).1.now, n := n }, { kind := 6, id := i }]) ∨ ∃ i k, (stepL l e).2 = [{ kind := 7, id := i }, { kind := 5, t := (stepL l e).1.now, n := n }, { kind := 6, id := k }]) := by
  cases ho : okEv e with
  | false => rw [step_o (.inl ho)]; exact .inl rfl
  | true =>
    have hk5 : e.kind = 1 ∨ e.kind = 2 ∨ e.kind = 3 ∨ e.kind = 4 ∨ (¬ 1 = e.kind ∧ ¬ 2 = e.kind ∧ ¬ 3 = e.kind ∧ ¬ 4 = e.kind) := by omega
    rcases hk5 with hk | hk | hk | hk | hk
    · rw [step_1 ho hk]; exact .inl rfl
    · rw [step_2 ho hk]
      unfold tickL
      simp only
      split
      · exact .inl rfl
      · refine .inr ⟨trivial, hk, (decideL (rollL (nowL (moreL l) e.t))).hold.cur, ?_⟩
        have hnow : (judgeL (runL (decideL (rollL (nowL (moreL l) e.t))))).now = (decideL (rollL (nowL (moreL l) e.t))).now := by
          unfold judgeL
          split
          · rfl
          · simp only; split <;> rfl
        simp only [hnow]
        generalize runL (decideL (rollL (nowL (moreL l) e.t))) = Z
        generalize decideL (rollL (nowL (moreL l) e.t)) = Y
        generalize nowL (moreL l) e.t = X
        unfold rollO judgeO
        split
        · split
          · exact .inr (.inl ⟨_, rfl⟩)
          · split
            · exact .inr (.inl ⟨_, rfl⟩)
            · exact .inr (.inr (.inr ⟨_, _, rfl⟩))
        · split
          · exact .inl rfl
          · split
            · exact .inl rfl
            · exact .inr (.inr (.inl ⟨_, rfl⟩))
    · rw [step_3 ho hk]; exact .inl rfl
    · rw [step_4 ho hk]; exact .inl rfl
    · rw [step_o (.inr (inEv_f hk))]; exact .inl rfl
theorem step_now {l : LiveV} (hl : okL l) (e : EvV) : l.now ≤ (stepL l e).1.now := by
  cases ho : okEv e with
  | false => rw [step_o (.inl ho)]; exact Int.le_refl _
  | true =>
    have hk5 : e.kind = 1 ∨ e.kind = 2 ∨ e.kind = 3 ∨ e.kind = 4 ∨ (¬ 1 = e.kind ∧ ¬ 2 = e.kind ∧ ¬ 3 = e.kind ∧ ¬ 4 = e.kind) := by omega
    rcases hk5 with hk | hk | hk | hk | hk
    · rw [step_1 ho hk]; unfold sampleL; split <;> exact Int.le_refl _
    · rw [step_2 ho hk]
      have h0 : l.now ≤ (nowL (moreL l) e.t).now := by simp only [nowL, moreL]; omega
      have h1 : ∀ X : LiveV, (rollL X).now = X.now := fun X => by unfold rollL; split <;> rfl
      have h2 : ∀ X : LiveV, (judgeL X).now = X.now := fun X => by
        unfold judgeL
        split
        · rfl
        · simp only; split <;> rfl
      unfold tickL
      simp only
      split
      · exact h0
      · show l.now ≤ (judgeL _).now
        rw [h2]
        show l.now ≤ (rollL _).now
        rw [h1]; exact h0
    · rw [step_3 ho hk]; unfold policyL; split <;> exact Int.le_refl _
    · rw [step_4 ho hk]; exact Int.le_refl _
    · rw [step_o (.inr (inEv_f hk))]; exact Int.le_refl _
theorem step_ins {l : LiveV} (e : EvV) (h : l.ins < 1099511627776) : (stepL l e).1.ins = if okEv e = true ∧ inEv e = true then l.ins + 1 else l.ins := by
  cases ho : okEv e with
  | false => rw [step_o (.inl ho)]; simp
  | true =>
    have hm : (moreL l).ins = l.ins + 1 := by unfold moreL; simp only; rw [if_pos h]
    have hk5 : e.kind = 1 ∨ e.kind = 2 ∨ e.kind = 3 ∨ e.kind = 4 ∨ (¬ 1 = e.kind ∧ ¬ 2 = e.kind ∧ ¬ 3 = e.kind ∧ ¬ 4 = e.kind) := by omega
    rcases hk5 with hk | hk | hk | hk | hk
    · rw [step_1 ho hk, if_pos ⟨rfl, inEv_t (by omega)⟩, ← hm]; simp only; unfold sampleL; split <;> rfl
    · rw [step_2 ho hk, if_pos ⟨rfl, inEv_t (by omega)⟩, ← hm]
      have h1 : ∀ X : LiveV, (rollL X).ins = X.ins := fun X => by unfold rollL; split <;> rfl
      have h2 : ∀ X : LiveV, (judgeL X).ins = X.ins := fun X => by
        unfold judgeL
        split
        · rfl
        · simp only; split <;> rfl
      unfold tickL
      simp only
      split
      · rfl
      · show (judgeL _).ins = _
        rw [h2]
        show (rollL _).ins = _
        rw [h1]; rfl
    · rw [step_3 ho hk, if_pos ⟨rfl, inEv_t (by omega)⟩, ← hm]; simp only; unfold policyL; split <;> rfl
    · rw [step_4 ho hk, if_pos ⟨rfl, inEv_t (by omega)⟩, ← hm]; rfl
    · rw [step_o (.inr (inEv_f hk)), if_neg (by rw [inEv_f hk]; simp)]
theorem xsL_ins (l : List EvV) (j : Nat) (h : j ≤ 80) : (xsL l j).ins ≤ j := by
  induction j with
  | zero => exact Int.le_refl _
  | succ j ih =>
    have ih := ih (by omega)
    rcases Nat.lt_or_ge j l.length with hj | hj
    · rw [xsL_succ hj, step_ins _ (by omega)]
      split <;> omega
    · have : xsL l (j + 1) = xsL l j := by unfold xsL; rw [List.take_of_length_le hj, List.take_of_length_le (by omega)]
      rw [this]; omega
end Go.Proofs.YtncbfppafgjdiaaGreat
end
section
/- ControlTime, walked. -/
set_option linter.unusedVariables false
set_option linter.unusedSimpArgs false
set_option maxRecDepth 20000
namespace Go.Proofs.YtncbfppafgjdiaaGreat
open Go
attribute [local irreducible] T TL C RG DP SP YR afterRG DPcall
attribute [-simp] List.map_set
/-- What a step may come to, as far as times go. -/
theorem time_cases {X : LiveV} (hX : okL X) (e : EvV) (hi : X.ins < 1099511627776) : (okEv e = false ∧ (stepL X e).1 = X ∧ (stepL X e).2 = []) ∨ (okEv e = true ∧ inEv e = false ∧ (stepL X e).1 = X ∧ (stepL X e).2 = []) ∨
    (okEv e = true ∧ inEv e = true ∧ (stepL X e).1.ins = X.ins + 1 ∧ (stepL X e).2 = []) ∨ (okEv e = true ∧ inEv e = true ∧ (stepL X e).1.ins = X.ins + 1 ∧ e.kind = 2 ∧ ∃ n, (stepL X e).2 = [{ kind := 5, t := (stepL X e).1.now, n := n }] ∨ (∃ i, (stepL X e).2 = [{ kind := 7, id := i }, { kind := 5, t := (stepL X e).1.now, n := n }]) ∨
    (∃ i, (stepL X e).2 = [{ kind := 5, t := (stepL X e).1.now, n := n }, { kind := 6, id := i }]) ∨ ∃ i k, (stepL X e).2 = [{ kind := 7, id := i }, { kind := 5, t := (stepL X e).1.now, n := n }, { kind := 6, id := k }]) := by
  have h1 := out_shape X e
  have h2 := step_ins e hi
  cases ho : okEv e with
  | false => rw [step_o (.inl ho)]; exact .inl ⟨rfl, rfl, rfl⟩
  | true =>
    cases hn : inEv e with
    | false => rw [step_o (.inr hn)]; exact .inr (.inl ⟨rfl, rfl, rfl, rfl⟩)
    | true =>
      rw [if_pos ⟨ho, hn⟩] at h2
      rcases h1 with h1 | ⟨_, h3, h1⟩
      · exact .inr (.inr (.inl ⟨rfl, rfl, h2, h1⟩))
      · exact .inr (.inr (.inr ⟨rfl, rfl, h2, h3, h1⟩))
section
variable {R : Re → Store → Prop} {σ : Store}
set_option maxHeartbeats 16000000 in
theorem C_time {l : List EvV} {odd : EvV} (hl : l.length ≤ 9223372036854775807) (hE : ∀ e ∈ l, evIn e) (hO : evIn odd) (h : R (.ret (.bool true)) σ) : C tE 8 [.lit (l.map eEv), eEv odd] σ R := by
  have cg : ∀ {R : Re → Store → Prop} {σ : Store}, R (.ret (.bool (greatL l))) σ → C tE 11 [.lit (l.map eEv)] σ R := fun h => L_great hl (fun e he => ⟨(hE e he).b, (hE e he).s, (hE e he).y⟩) h
  have cg1 : ∀ {R : Re → Store → Prop} {σ : Store}, R (.ret (.bool (greatE odd))) σ → C tE 27 [eEv odd] σ R := fun h => L_great1 hO.b hO.s hO.y h
  refine C_pure tOK (by simp) ?_
  refine s_body' Tryz.func8 tOK rfl (by conv => lhs; simp) (by conv => lhs; simp) (by conv => lhs; simp [Fr.args]) rfl (by conv => lhs; try simp) fun R9 hR9 => ?_
  cases hg : greatL l with
  | true =>
    rw [hg] at cg
    repeat' (first | refine go ?_ | refine s_seq fun y9 hy9 => ?_ | refine qT _ ?_ ?_ | refine qG _ ?_ ?_ | refine qN ?_ ?_ | (refine QB.mk fun hb9 => ?_; (try simp only [hb9]); (try simp at hb9); first | (exfalso; omega) | subst hb9 | skip) | refine sD tOK tmix [([],1),([],2),([],3),([1,2],4),([1,2,3],5),([0,1,2,3,4],6),([0,1,2,3,4,5],7),([0,1,2,3,4,5,6],8),([0,1,2,3,4,5,6],9),([],0),([0,1,2,3,4,5,6,7,9],10),([0,1,2,3,4,5,6,7,8,9,10],11)] 11 ?_ | refine sD tOK tmix [([],0),([],1),([0,1],2),([0,1,2],3),([0,1,2,3],4),([],5),([0,1,2,3,4,5],6),([0,1,2,3,4,5,6],7),([0,1,2,3,4,5,6,7],8),([0,1,2,3,4,5,6,7],9),([0,1,2,3,4,5,6,7,8,9],10),([0,1,2,3,4,5,6,7,8,9,10],11),([0,1,2,3,4,5,6,7,8,9,10,11],12),([0,1,2,3,4,5,6,7],13),([0,1,2,3,4,5,6,7,13],14),([0,1,2,3,4,5,6,7,8,9,10,11,12,13,14],15),([0,1,2,3,4,5,6,7,8,9,10,11,12,13,14,15],16)] 15 ?_ | refine qD _ ?_ ?_ | (refine nZ ?_; first | refine L_head ?_ | refine cg ?_) | (apply d_call []; exact rfl; (solve | (conv => lhs; try simp)); (solve | exact rfl | simp); (solve | (conv => lhs; try simp)); intro τ hτ; refine nZ ?_; first | exact L_head ⟨rfl, rfl⟩ | exact cg ⟨rfl, rfl⟩))
    exact h
  | false =>
    rw [hg] at cg
    cases hg1 : greatE odd with
    | true =>
      rw [hg1] at cg1
      repeat' (first | refine go ?_ | refine s_seq fun y9 hy9 => ?_ | refine qT _ ?_ ?_ | refine qG _ ?_ ?_ | refine qN ?_ ?_ | (refine QB.mk fun hb9 => ?_; (try simp only [hb9]); (try simp at hb9); first | (exfalso; omega) | subst hb9 | skip) | refine sD tOK tmix [([],1),([],2),([],3),([1,2],4),([1,2,3],5),([0,1,2,3,4],6),([0,1,2,3,4,5],7),([0,1,2,3,4,5,6],8),([0,1,2,3,4,5,6],9),([],0),([0,1,2,3,4,5,6,7,9],10),([0,1,2,3,4,5,6,7,8,9,10],11)] 11 ?_ | refine sD tOK tmix [([],0),([],1),([0,1],2),([0,1,2],3),([0,1,2,3],4),([],5),([0,1,2,3,4,5],6),([0,1,2,3,4,5,6],7),([0,1,2,3,4,5,6,7],8),([0,1,2,3,4,5,6,7],9),([0,1,2,3,4,5,6,7,8,9],10),([0,1,2,3,4,5,6,7,8,9,10],11),([0,1,2,3,4,5,6,7,8,9,10,11],12),([0,1,2,3,4,5,6,7],13),([0,1,2,3,4,5,6,7,13],14),([0,1,2,3,4,5,6,7,8,9,10,11,12,13,14],15),([0,1,2,3,4,5,6,7,8,9,10,11,12,13,14,15],16)] 15 ?_ | refine qD _ ?_ ?_ | (refine nZ ?_; first | refine L_head ?_ | refine cg ?_ | refine cg1 ?_) | (apply d_call []; exact rfl; (solve | (conv => lhs; try simp)); (solve | exact rfl | simp); (solve | (conv => lhs; try simp)); intro τ hτ; refine nZ ?_; first | exact L_head ⟨rfl, rfl⟩ | exact cg ⟨rfl, rfl⟩ | exact cg1 ⟨rfl, rfl⟩))
      exact h
    | false =>
      rw [hg1] at cg1
      obtain ⟨h80, hlE⟩ := great_no hg
      have hgE := gt_all (P := fun e => lenE e) hlE ⟨⟨by decide, by decide⟩, by decide⟩
      have hgI := gt_all (P := fun e => evIn e) hE ⟨by decide, by decide, by decide, by decide, by decide, by decide, by decide⟩
      have hOE : lenE odd := by
        simp only [greatE, Bool.or_eq_false_iff, decide_eq_false_iff_not] at hg1
        exact ⟨⟨by omega, by omega⟩, by omega⟩
      repeat' (first | refine go ?_ | refine s_seq fun y9 hy9 => ?_ | refine qT _ ?_ ?_ | refine qG _ ?_ ?_ | refine qN ?_ ?_ | (refine QB.mk fun hb9 => ?_; (try simp only [hb9]); (try simp at hb9); first | (exfalso; omega) | subst hb9 | skip) | refine sD tOK tmix [([],1),([],2),([],3),([1,2],4),([1,2,3],5),([0,1,2,3,4],6),([0,1,2,3,4,5],7),([0,1,2,3,4,5,6],8),([0,1,2,3,4,5,6],9),([],0),([0,1,2,3,4,5,6,7,9],10),([0,1,2,3,4,5,6,7,8,9,10],11)] 11 ?_ | refine sD tOK tmix [([],0),([],1),([0,1],2),([0,1,2],3),([0,1,2,3],4),([],5),([0,1,2,3,4,5],6),([0,1,2,3,4,5,6],7),([0,1,2,3,4,5,6,7],8),([0,1,2,3,4,5,6,7],9),([0,1,2,3,4,5,6,7,8,9],10),([0,1,2,3,4,5,6,7,8,9,10],11),([0,1,2,3,4,5,6,7,8,9,10,11],12),([0,1,2,3,4,5,6,7],13),([0,1,2,3,4,5,6,7,13],14),([0,1,2,3,4,5,6,7,8,9,10,11,12,13,14],15),([0,1,2,3,4,5,6,7,8,9,10,11,12,13,14,15],16)] 15 ?_ | refine qD _ ?_ ?_ | (refine nZ ?_; first | refine L_head ?_ | refine cg ?_ | refine cg1 ?_) | (apply d_call []; exact rfl; (solve | (conv => lhs; try simp)); (solve | exact rfl | simp); (solve | (conv => lhs; try simp)); intro τ hτ; refine nZ ?_; first | exact L_head ⟨rfl, rfl⟩ | exact cg ⟨rfl, rfl⟩ | exact cg1 ⟨rfl, rfl⟩))
      refine t_pick tOK [0, 1] [0, 3, 5, 6, 7, 8] (by decide) (by rfl) (by rfl) (by conv => lhs; simp [Fr.keep]) (by conv => lhs; simp [pickS']) (by simp [Fr.keep]) (by simp [pickS']) ?_
      refine T_wk (fr' := [(0, .lit (l.map eEv)), (3, .ptr 0 0 0 []), (5, .bool true), (6, .ptr 1 0 0 []), (7, i64 0), (8, i64 (0 : Nat))]) (σ' := [some (.cells 50 0 [eEv odd]), some (.cells 45 0 [eLive (xsL l 0)])]) ?_ ?_ ?_
      · repeat' (first | with_reducible exact WkF.refl _ | with_reducible exact WkS.refl _ | with_reducible exact WkB.refl _ | with_reducible exact Wk.refl _ | with_reducible exact WkL.refl _ | exact Wk.nils | refine WkF.cons ?_ ?_ | refine WkS.cons ?_ ?_ | refine WkB.cells ?_ | refine WkL.cons ?_ ?_ | refine Wk.agg ?_ | exact Wk.refl _ | exact WkL.refl _)
      · repeat' (first | with_reducible exact WkF.refl _ | with_reducible exact WkS.refl _ | with_reducible exact WkB.refl _ | with_reducible exact Wk.refl _ | with_reducible exact WkL.refl _ | exact Wk.nils | refine WkF.cons ?_ ?_ | refine WkS.cons ?_ ?_ | refine WkB.cells ?_ | refine WkL.cons ?_ ?_ | refine Wk.agg ?_ | exact Wk.refl _ | exact WkL.refl _)
      refine s_loop fun c9 hc9 => ?_
      refine w_trim 2 [0, 3, 5, 6, 7, 8] (by conv => lhs; simp) (by conv => lhs; simp) (by first | rfl | simp) (by first | rfl | simp) ?_
      refine s_loopn l.length (fun j fr σ => ∃ at_ : Int, at_ ≤ (xsL l j).now ∧ fr = [(0, .lit (l.map eEv)), (3, .ptr 0 0 0 []), (5, .bool true), (6, .ptr 1 0 0 []), (7, i64 at_), (8, i64 j)] ∧ σ = [some (.cells 50 0 [eEv odd]), some (.cells 45 0 [eLive (xsL l j)])]) ?_ ⟨0, (xsL_ok l 0).now.1, by simp, by simp⟩
      rintro j fr σ hj ⟨at_, hat, rfl, rfl⟩ ih
      have e1 := hgE j
      have e2 := (hgI j).k1
      have e3 := (hgI j).k2
      have x1 := xsL_ok l j
      have x2 := x1.step (e := gt l j)
      have x3 := x1.len
      have x4 := x2.len
      have hs := fun h => xsL_succ (l := l) (j := j) h
      have hi := xsL_ins l j (by omega)
      have hi0 := x1.ins
      have hnow := step_now x1 (gt l j)
      have hca := time_cases x1 (gt l j) (by omega)
      have hcb := time_cases x2 odd
      have cst : ∀ {R : Re → Store → Prop} {σ : Store}, R (.ret (.tup [eLive (stepL (xsL l j) (gt l j)).1, .lit ((stepL (xsL l j) (gt l j)).2.map eEv)])) σ → C tE 12 [eLive (xsL l j), eEv (gt l j)] σ R := fun h => C_lstep x1 e1 e2 e3 h
      have cod : ∀ {R : Re → Store → Prop} {σ : Store}, R (.ret (.tup [eLive (stepL (stepL (xsL l j) (gt l j)).1 odd).1, .lit ((stepL (stepL (xsL l j) (gt l j)).1 odd).2.map eEv)])) σ → C tE 12 [eLive (stepL (xsL l j) (gt l j)).1, eEv odd] σ R := fun h => C_lstep x2 hOE hO.k1 hO.k2 h
      have cr0 : ∀ {b : Bool}, okEv (gt l j) = b → ∀ {R : Re → Store → Prop} {σ : Store}, R (.ret (.bool b)) σ → C tE 16 [eEv (gt l j)] σ R := fun {b} hb {R} {σ} h => R_right e1 (by rw [hb]; exact h)
      have ci0 : ∀ {b : Bool}, inEv (gt l j) = b → ∀ {R : Re → Store → Prop} {σ : Store}, R (.ret (.bool b)) σ → C tE 28 [eEv (gt l j)] σ R := fun {b} hb {R} {σ} h => R_in (by rw [hb]; exact h)
      have dr0 : ∀ {b : Bool}, okEv odd = b → ∀ {R : Re → Store → Prop} {σ : Store}, R (.ret (.bool b)) σ → C tE 16 [eEv odd] σ R := fun {b} hb {R} {σ} h => R_right hOE (by rw [hb]; exact h)
      have di0 : ∀ {b : Bool}, inEv odd = b → ∀ {R : Re → Store → Prop} {σ : Store}, R (.ret (.bool b)) σ → C tE 28 [eEv odd] σ R := fun {b} hb {R} {σ} h => R_in (by rw [hb]; exact h)
      have hcb := hcb (by
        have := step_ins (gt l j) (show (xsL l j).ins < 1099511627776 by omega)
        rw [this]; split <;> omega)
      generalize (stepL (stepL (xsL l j) (gt l j)).1 odd).1 = Z at *
      generalize (stepL (stepL (xsL l j) (gt l j)).1 odd).2 = P at *
      generalize (stepL (xsL l j) (gt l j)).1 = Y at *
      generalize (stepL (xsL l j) (gt l j)).2 = O at *
      generalize hX : xsL l j = X at *
      clear cg cg1 hE hlE hgI hgE
      have hob : (okEv odd = false ∧ Z = Y ∧ P = []) ∨ (okEv odd = true ∧ inEv odd = false ∧ Z = Y ∧ P = []) ∨ (okEv odd = true ∧ inEv odd = true) := by
        rcases hcb with h | h | h | h
        · exact .inl h
        · exact .inr (.inl h)
        · exact .inr (.inr ⟨h.1, h.2.1⟩)
        · exact .inr (.inr ⟨h.1, h.2.1⟩)
      clear hcb
      refine s_round hc9 ?_
      clear hc9
      rcases hca with ⟨ha, rfl, rfl⟩ | ⟨ha, hb, rfl, rfl⟩ | ⟨ha, hb, hY, rfl⟩ | ⟨ha, hb, hY, hk, n, hO2 | ⟨i, hO2⟩ | ⟨i, hO2⟩ | ⟨i, k, hO2⟩⟩
      all_goals
        try subst hO2
        first | (have hk0 := hk; clear hk0) | have hk : true = true := rfl
        have cr := @cr0 _ ha
        try have ci := @ci0 _ hb
        rcases hob with ⟨hc, rfl, rfl⟩ | ⟨hc, hd, rfl, rfl⟩ | ⟨hc, hd⟩
      all_goals
        have dr := @dr0 _ hc
        try have di := @di0 _ hd
        clear cr0 ci0 dr0 di0
        try simp only [List.map_cons, List.map_nil] at cst
        try simp only [List.map_cons, List.map_nil] at cod
        have F9 := @hk
        repeat' (first | refine gf ?_ | refine s_seq fun y9 hy9 => ?_ | refine qT _ ?_ ?_ | refine qG _ ?_ ?_ | refine qN ?_ ?_ | (refine QB.mk fun hb9 => ?_; (try simp only [hb9]); (try simp at hb9); first | (exfalso; omega) | subst hb9 | skip) | refine w_loop fun y9 hy9 => ?_ | (apply w_again; assumption) | refine sD tOK tmix [([],1),([],2),([],3),([1,2],4),([1,2,3],5),([0,1,2,3,4],6),([0,1,2,3,4,5],7),([0,1,2,3,4,5,6],8),([0,1,2,3,4,5,6],9),([],0),([0,1,2,3,4,5,6,7,9],10),([0,1,2,3,4,5,6,7,8,9,10],11)] 11 ?_ | refine sD tOK tmix [([],0),([],1),([0,1],2),([0,1,2],3),([0,1,2,3],4),([],5),([0,1,2,3,4,5],6),([0,1,2,3,4,5,6],7),([0,1,2,3,4,5,6,7],8),([0,1,2,3,4,5,6,7],9),([0,1,2,3,4,5,6,7,8,9],10),([0,1,2,3,4,5,6,7,8,9,10],11),([0,1,2,3,4,5,6,7,8,9,10,11],12),([0,1,2,3,4,5,6,7],13),([0,1,2,3,4,5,6,7,13],14),([0,1,2,3,4,5,6,7,8,9,10,11,12,13,14],15),([0,1,2,3,4,5,6,7,8,9,10,11,12,13,14,15],16)] 15 ?_ | refine qD _ ?_ ?_ | (refine nZ ?_; first | refine cst ?_ | refine cod ?_ | refine cr ?_ | refine ci ?_ | refine dr ?_ | refine di ?_ | refine (R_same x3) ?_ | refine (R_same x4) ?_) | (apply d_call []; exact rfl; (solve | (conv => lhs; try simp [hk])); (solve | exact rfl | simp); (solve | (conv => lhs; try simp [hk])); intro τ hτ; refine nZ ?_; first | exact cst ⟨rfl, rfl⟩ | exact cod ⟨rfl, rfl⟩ | exact cr ⟨rfl, rfl⟩ | exact ci ⟨rfl, rfl⟩ | exact dr ⟨rfl, rfl⟩ | exact di ⟨rfl, rfl⟩ | exact (R_same x3) ⟨rfl, rfl⟩ | exact (R_same x4) ⟨rfl, rfl⟩))
      all_goals first | exact h | skip
      all_goals
        refine w_back 2 [0, 3, 5, 6, 7, 8] (by conv => lhs; simp) (by conv => lhs; simp) (by first | rfl | simp) (by first | rfl | simp) ?_
        refine ih (by assumption) _ _ ?_
        show ∃ _ : Int, _ ∧ _ ∧ _
        rw [hs (by assumption)]
        first
        | (refine ⟨at_, by omega, ?_, rfl⟩
           simp
           done)
        | (refine ⟨_, Int.le_refl _, ?_, rfl⟩
           simp
           done)
end
end Go.Proofs.YtncbfppafgjdiaaGreat
end
section
/- An argument that is a struct, as a value of the logic's. -/
set_option linter.unusedVariables false
set_option linter.unusedSimpArgs false
set_option maxRecDepth 4000
namespace Go.Proofs.YtncbfppafgjdiaaGreat
open Go Go.ChangeShapes Go.RowKit
theorem st_und {t : TypeId} (hk : tE.kn t = true) (h : tE.td t = .st) : ∃ fs, tE.P.underlying t = some (.struct fs) := by
  have := tOK.td t hk
  rw [h] at this
  obtain ⟨fs, h1, _⟩ := this
  exact ⟨fs, h1⟩
section
variable {H : Type} {enc : TypeId × Value → H}
theorem arg_VS {W : World} {sp : Nat → Bool} {held : Bool} {t : TypeId} {v : Value} {d : DataW H} {ps : List MemPlace} {base : Nat} {fs0 : Array Field} (n : Nat) (hs : simpleT tE (n + 1) t = true) (htd : tE.td t = .st) (hst : tE.P.underlying t = some (.struct fs0))
    (hok : Value.okWide tE.P W .any base t v) (h : DataW.Trod enc tE.P W 0 sp held t v d ps) : ∃ x, V tE (cx0 W) x v ∧ Dat tE (n + 1) t x := by
  obtain ⟨fuel, h⟩ := h
  obtain ⟨x, h1, h2, h3⟩ := trod_VC tOK W fuel (n + 1) t _ d ps hs h
  have hagg : ∃ fs, x = .agg t fs := by
    have h4 := h3
    simp only [Dat, htd] at h4
    obtain ⟨fs, e, _⟩ := h4
    exact ⟨fs, e⟩
  obtain ⟨fs, rfl⟩ := hagg
  have hv : ∃ cs, v = .agg cs := by
    unfold Value.okWide at hok
    rw [hst] at hok
    obtain ⟨cs, e, _⟩ := hok
    exact ⟨cs, e⟩
  obtain ⟨cs, rfl⟩ := hv
  refine ⟨_, ?_, h3⟩
  have := VL.agg (vs := []) (xs := []) h1 .nil
  show VL tE (cx0 W) [_] [_]
  simpa [Value.cells] using this
end
end Go.Proofs.YtncbfppafgjdiaaGreat
end
