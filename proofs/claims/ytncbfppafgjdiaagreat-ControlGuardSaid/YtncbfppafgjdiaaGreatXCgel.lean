/- ControlTime, walked. -/
import Derived.Test.YtncbfppafgjdiaaGreatXk
section
set_option linter.unusedVariables false
set_option linter.unusedSimpArgs false
set_option maxRecDepth 20000
namespace Go.Proofs.YtncbfppafgjdiaaGreat
open Go
attribute [local irreducible] T TL C RG DP SP YR afterRG DPcall
attribute [-simp] List.map_set
/-- What may go out behind an event. -/
theorem out_shape (l : LiveV) (e : EvV) : (stepL l e).2 = [] ∨ (okEv e = true ∧ e.kind = 2 ∧ ∃ n, (stepL l e).2 = [{ kind := 5, t := (stepL l e).1.now, n := n }] ∨ (∃ i, (stepL l e).2 = [{ kind := 7, id := i }, { kind := 5, t := (stepL l e).1.now, n := n }]) ∨
    (∃ i, (stepL l e).2 = [{ kind := 5, t := (stepL l e).1.now, n := n }, { kind := 6, id := i }]) ∨ ∃ i k, (stepL l e).2 = [{ kind := 7, id := i }, { kind := 5, t := (stepL l e).1.now, n := n }, { kind := 6, id := k }]) := by
  cases ho : okEv e with
  | false => rw [step_o (.inl ho)]; exact .inl rfl
  | true =>
    have hk5 : e.kind = 1 ∨ e.kind = 2 ∨ e.kind = 3 ∨ e.kind = 4 ∨ (¬ 1 = e.kind ∧ ¬ 2 = e.kind ∧ ¬ 3 = e.kind ∧ ¬ 4 = e.kind) := by omega
    rcases hk5 with hk | hk | hk | hk | hk
    · rw [step_1 ho hk]; exact .inl rfl
    · rw [step_2 ho hk]
      unfold tickL
      simp only
      split
      · exact .inl rfl
      · refine .inr ⟨trivial, hk, (decideL (rollL (nowL (moreL l) e.t))).hold.cur, ?_⟩
        have hnow : (judgeL (runL (decideL (rollL (nowL (moreL l) e.t))))).now = (decideL (rollL (nowL (moreL l) e.t))).now := by
          unfold judgeL
          split
          · rfl
          · simp only; split <;> rfl
        simp only [hnow]
        generalize runL (decideL (rollL (nowL (moreL l) e.t))) = Z
        generalize decideL (rollL (nowL (moreL l) e.t)) = Y
        generalize nowL (moreL l) e.t = X
        unfold rollO judgeO
        split
        · split
          · exact .inr (.inl ⟨_, rfl⟩)
          · split
            · exact .inr (.inl ⟨_, rfl⟩)
            · exact .inr (.inr (.inr ⟨_, _, rfl⟩))
        · split
          · exact .inl rfl
          · split
            · exact .inl rfl
            · exact .inr (.inr (.inl ⟨_, rfl⟩))
    · rw [step_3 ho hk]; exact .inl rfl
    · rw [step_4 ho hk]; exact .inl rfl
    · rw [step_o (.inr (inEv_f hk))]; exact .inl rfl
theorem step_now {l : LiveV} (hl : okL l) (e : EvV) : l.now ≤ (stepL l e).1.now := by
  cases ho : okEv e with
  | false => rw [step_o (.inl ho)]; exact Int.le_refl _
  | true =>
    have hk5 : e.kind = 1 ∨ e.kind = 2 ∨ e.kind = 3 ∨ e.kind = 4 ∨ (¬ 1 = e.kind ∧ ¬ 2 = e.kind ∧ ¬ 3 = e.kind ∧ ¬ 4 = e.kind) := by omega
    rcases hk5 with hk | hk | hk | hk | hk
    · rw [step_1 ho hk]; unfold sampleL; split <;> exact Int.le_refl _
    · rw [step_2 ho hk]
      have h0 : l.now ≤ (nowL (moreL l) e.t).now := by simp only [nowL, moreL]; omega
      have h1 : ∀ X : LiveV, (rollL X).now = X.now := fun X => by unfold rollL; split <;> rfl
      have h2 : ∀ X : LiveV, (judgeL X).now = X.now := fun X => by
        unfold judgeL
        split
        · rfl
        · simp only; split <;> rfl
      unfold tickL
      simp only
      split
      · exact h0
      · show l.now ≤ (judgeL _).now
        rw [h2]
        show l.now ≤ (rollL _).now
        rw [h1]; exact h0
    · rw [step_3 ho hk]; unfold policyL; split <;> exact Int.le_refl _
    · rw [step_4 ho hk]; exact Int.le_refl _
    · rw [step_o (.inr (inEv_f hk))]; exact Int.le_refl _
theorem step_ins {l : LiveV} (e : EvV) (h : l.ins < 1099511627776) : (stepL l e).1.ins = if okEv e = true ∧ inEv e = true then l.ins + 1 else l.ins := by
  cases ho : okEv e with
  | false => rw [step_o (.inl ho)]; simp
  | true =>
    have hm : (moreL l).ins = l.ins + 1 := by unfold moreL; simp only; rw [if_pos h]
    have hk5 : e.kind = 1 ∨ e.kind = 2 ∨ e.kind = 3 ∨ e.kind = 4 ∨ (¬ 1 = e.kind ∧ ¬ 2 = e.kind ∧ ¬ 3 = e.kind ∧ ¬ 4 = e.kind) := by omega
    rcases hk5 with hk | hk | hk | hk | hk
    · rw [step_1 ho hk, if_pos ⟨rfl, inEv_t (by omega)⟩, ← hm]; simp only; unfold sampleL; split <;> rfl
    · rw [step_2 ho hk, if_pos ⟨rfl, inEv_t (by omega)⟩, ← hm]
      have h1 : ∀ X : LiveV, (rollL X).ins = X.ins := fun X => by unfold rollL; split <;> rfl
      have h2 : ∀ X : LiveV, (judgeL X).ins = X.ins := fun X => by
        unfold judgeL
        split
        · rfl
        · simp only; split <;> rfl
      unfold tickL
      simp only
      split
      · rfl
      · show (judgeL _).ins = _
        rw [h2]
        show (rollL _).ins = _
        rw [h1]; rfl
    · rw [step_3 ho hk, if_pos ⟨rfl, inEv_t (by omega)⟩, ← hm]; simp only; unfold policyL; split <;> rfl
    · rw [step_4 ho hk, if_pos ⟨rfl, inEv_t (by omega)⟩, ← hm]; rfl
    · rw [step_o (.inr (inEv_f hk)), if_neg (by rw [inEv_f hk]; simp)]
theorem xsL_ins (l : List EvV) (j : Nat) (h : j ≤ 80) : (xsL l j).ins ≤ j := by
  induction j with
  | zero => exact Int.le_refl _
  | succ j ih =>
    have ih := ih (by omega)
    rcases Nat.lt_or_ge j l.length with hj | hj
    · rw [xsL_succ hj, step_ins _ (by omega)]
      split <;> omega
    · have : xsL l (j + 1) = xsL l j := by unfold xsL; rw [List.take_of_length_le hj, List.take_of_length_le (by omega)]
      rw [this]; omega
end Go.Proofs.YtncbfppafgjdiaaGreat
end
section
/- ControlBounds in plain terms: what a step tells of bounds. -/
set_option linter.unusedVariables false
set_option linter.unusedSimpArgs false
set_option maxRecDepth 20000
namespace Go.Proofs.YtncbfppafgjdiaaGreat
open Go
theorem lim_facts {c : ConfV} {h : HoldV} {w now : Int} (hc : c.min ≤ c.max) (hr : 0 ≤ c.rate) (h1 : c.min ≤ h.cur) (h2 : h.cur ≤ c.max) : c.min ≤ (limN c h w now).cur ∧ (limN c h w now).cur ≤ c.max ∧ h.cur - c.rate ≤ (limN c h w now).cur ∧ (limN c h w now).cur ≤ h.cur + c.rate ∧
    (h.cur < (limN c h w now).cur → (limN c h w now).grew = true ∧ (limN c h w now).last = now) ∧ ((limN c h w now).cur ≤ h.cur → (limN c h w now).grew = h.grew ∧ (limN c h w now).last = h.last) ∧
    ((limN c h w now).cur < h.cur → h.grew = true → c.stable ≤ now - h.last) := by
  have e : intoH c h = h := by
    unfold intoH
    rw [show max c.min (min h.cur c.max) = h.cur by omega]
  unfold limN
  simp only [e]
  split
  · refine ⟨by show c.min ≤ max _ _; omega, by show max _ _ ≤ _; omega, by show _ ≤ max _ _; omega, by show max _ _ ≤ _; omega, fun _ => ⟨rfl, rfl⟩, fun hh => ?_, fun hh => ?_⟩
    · exact absurd hh (by show ¬ max _ _ ≤ _; omega)
    · exact absurd hh (by show ¬ max _ _ < _; omega)
  · split
    · exact ⟨h1, h2, by omega, by omega, fun hh => by omega, fun _ => ⟨rfl, rfl⟩, fun hh => by omega⟩
    · rename_i hn hg
      refine ⟨by show c.min ≤ max _ _; omega, by show max _ _ ≤ _; omega, by show _ ≤ max _ _; omega, by show max _ _ ≤ _; omega, fun hh => ?_, fun _ => ⟨rfl, rfl⟩, fun hh hgr => ?_⟩
      · exact absurd hh (by show ¬ _ < max _ _; omega)
      · rcases Int.lt_or_le (now - h.last) c.stable with hl | hl
        · exact absurd ⟨hgr, hl⟩ hg
        · exact hl
/-- What is known of the last decision. -/
structure bnd (X : LiveV) (last : Int) (grew : Bool) (at_ : Int) : Prop where
  set : X.set_ = true → X.conf.min ≤ X.hold.cur ∧ X.hold.cur ≤ X.conf.max
  last : (last = -1 ∧ grew = false) ∨ (X.set_ = true ∧ last = X.hold.cur)
  grew : grew = true → X.hold.grew = true ∧ at_ = X.hold.last
  at_ : 0 ≤ at_ ∧ at_ ≤ 1099511627776
theorem bnd_zero : bnd {} (-1) false 0 := ⟨fun h => (by cases h), .inl ⟨rfl, rfl⟩, fun h => (by cases h), by decide⟩
theorem roll_keeps (X : LiveV) : (rollL X).hold = X.hold ∧ (rollL X).conf = X.conf ∧ (rollL X).set_ = X.set_ ∧ (rollL X).now = X.now ∧ (rollL X).util = X.util ∧ (rollL X).demand = X.demand := by unfold rollL; split <;> exact ⟨rfl, rfl, rfl, rfl, rfl, rfl⟩
theorem judge_keeps (X : LiveV) : (judgeL X).hold = X.hold ∧ (judgeL X).conf = X.conf ∧ (judgeL X).set_ = X.set_ ∧ (judgeL X).now = X.now ∧ (judgeL X).util = X.util ∧ (judgeL X).demand = X.demand := by
  unfold judgeL
  split
  · exact ⟨rfl, rfl, rfl, rfl, rfl, rfl⟩
  · simp only; split <;> exact ⟨rfl, rfl, rfl, rfl, rfl, rfl⟩
/-- A tick tells nothing, and changes nothing of these; or it decides. -/
theorem tick_hold (l : LiveV) (t : Int) : ((tickL l t).2 = [] ∧ (tickL l t).1.hold = l.hold ∧ (tickL l t).1.conf = l.conf ∧ (tickL l t).1.set_ = l.set_) ∨
    (l.set_ = true ∧ (tickL l t).1.conf = l.conf ∧ (tickL l t).1.set_ = true ∧ ∃ w, (tickL l t).1.hold = limN l.conf l.hold w (tickL l t).1.now ∧ (tickL l t).2 ≠ []) := by
  unfold tickL
  simp only
  split
  · exact .inl ⟨rfl, rfl, rfl, rfl⟩
  · rename_i hs
    have hs : (nowL l t).set_ = true := by
      cases h : (nowL l t).set_ with
      | true => rfl
      | false => exact absurd (.inl h) hs
    have j := judge_keeps (runL (decideL (rollL (nowL l t))))
    have r := roll_keeps (nowL l t)
    refine .inr ⟨hs, ?_, ?_, (nextP (rollL (nowL l t)).pol (rollL (nowL l t)).state (rollL (nowL l t)).hold.cur (rollL (nowL l t)).util (rollL (nowL l t)).now).2, ?_, by simp⟩
    · rw [j.2.1]; exact r.2.1
    · rw [j.2.2.1]; exact r.2.2.1.trans hs
    · rw [j.1, j.2.2.2.1]
      show limN (rollL (nowL l t)).conf (rollL (nowL l t)).hold _ (rollL (nowL l t)).now = limN l.conf l.hold _ (rollL (nowL l t)).now
      rw [r.1, r.2.1]; rfl
theorem okConf_n {c : ConfV} (h : okConf c = true) : 1 ≤ c.min ∧ c.min ≤ c.max ∧ c.max ≤ 1000 ∧ 1 ≤ c.rate ∧ c.rate ≤ 1000 ∧ 0 ≤ c.stable ∧ c.stable ≤ 1099511627776 := by
  rw [okConf_b, decide_eq_true_eq] at h; omega
/-- What goes out, its decision known. -/
theorem out_hold (l : LiveV) (e : EvV) : (stepL l e).2 = [] ∨ (okEv e = true ∧ e.kind = 2 ∧ ((stepL l e).2 = [{ kind := 5, t := (stepL l e).1.now, n := (stepL l e).1.hold.cur }] ∨ (∃ i, (stepL l e).2 = [{ kind := 7, id := i }, { kind := 5, t := (stepL l e).1.now, n := (stepL l e).1.hold.cur }]) ∨
    (∃ i, (stepL l e).2 = [{ kind := 5, t := (stepL l e).1.now, n := (stepL l e).1.hold.cur }, { kind := 6, id := i }]) ∨ ∃ i k, (stepL l e).2 = [{ kind := 7, id := i }, { kind := 5, t := (stepL l e).1.now, n := (stepL l e).1.hold.cur }, { kind := 6, id := k }])) := by
  rcases out_shape l e with h | ⟨ho, hk, n, h⟩
  · exact .inl h
  · refine .inr ⟨ho, hk, ?_⟩
    have hn : ∀ ev ∈ (stepL l e).2, ev.kind = 5 → ev.n = (stepL l e).1.hold.cur := by
      rw [step_2 ho hk]
      unfold tickL
      simp only
      split
      · intro ev he; cases he
      · intro ev he h5
        have j := judge_keeps (runL (decideL (rollL (nowL (moreL l) e.t))))
        rw [j.1]
        rcases List.mem_append.1 he with he | he
        · rcases List.mem_append.1 he with he | he
          · unfold rollO at he
            split at he
            · simp at he; subst he; cases h5
            · cases he
          · simp at he; subst he; rfl
        · unfold judgeO at he
          split at he
          · cases he
          · split at he
            · cases he
            · simp at he; subst he; cases h5
    rcases h with h | ⟨i, h⟩ | ⟨i, h⟩ | ⟨i, k, h⟩
    all_goals
      have := hn { kind := 5, t := (stepL l e).1.now, n := n } (by rw [h]; simp) rfl
      simp only at this
      subst this
    · exact .inl h
    · exact .inr (.inl ⟨i, h⟩)
    · exact .inr (.inr (.inl ⟨i, h⟩))
    · exact .inr (.inr (.inr ⟨i, k, h⟩))
theorem bound_cases {X : LiveV} (hX : okL X) {last at_ : Int} {grew : Bool} (hb : bnd X last grew at_) (e : EvV) :
    ((¬ e.kind = 4 ∨ (e.kind = 4 ∧ okEv e = false)) ∧ (stepL X e).2 = [] ∧ (stepL X e).1.conf = X.conf ∧ bnd (stepL X e).1 last grew at_) ∨
    (okEv e = true ∧ e.kind = 4 ∧ (stepL X e).2 = [] ∧ (stepL X e).1.conf = e.conf ∧ bnd (stepL X e).1 (-1) false at_) ∨
    (okEv e = true ∧ e.kind = 2 ∧ okConf X.conf = true ∧ (stepL X e).1.conf = X.conf ∧ ∃ n t, ((stepL X e).2 = [{ kind := 5, t := t, n := n }] ∨ (∃ i, (stepL X e).2 = [{ kind := 7, id := i }, { kind := 5, t := t, n := n }]) ∨
      (∃ i, (stepL X e).2 = [{ kind := 5, t := t, n := n }, { kind := 6, id := i }]) ∨ ∃ i k, (stepL X e).2 = [{ kind := 7, id := i }, { kind := 5, t := t, n := n }, { kind := 6, id := k }]) ∧
      0 ≤ t ∧ t ≤ 1099511627776 ∧ X.conf.min ≤ n ∧ n ≤ X.conf.max ∧ ((last = -1 ∧ grew = false) ∨ (0 ≤ last ∧ last ≤ 1000 ∧ last - X.conf.rate ≤ n ∧ n ≤ last + X.conf.rate)) ∧ (grew = true → (last ≤ n ∨ X.conf.stable ≤ t - at_)) ∧
      ((last = -1 ∨ n ≤ last) → bnd (stepL X e).1 n grew at_) ∧ (0 ≤ last → last < n → bnd (stepL X e).1 n true t)) := by
  cases ho : okEv e with
  | false =>
    refine .inl ⟨(Decidable.em (e.kind = 4)).elim (fun h => .inr ⟨h, rfl⟩) .inl, ?_⟩
    rw [step_o (.inl ho)]; exact ⟨rfl, rfl, hb⟩
  | true =>
    have hk5 : e.kind = 1 ∨ e.kind = 2 ∨ e.kind = 3 ∨ e.kind = 4 ∨ (¬ 1 = e.kind ∧ ¬ 2 = e.kind ∧ ¬ 3 = e.kind ∧ ¬ 4 = e.kind) := by omega
    rcases hk5 with hk | hk | hk | hk | hk
    · refine .inl ⟨.inl (by omega), ?_⟩
      rw [step_1 ho hk]; unfold sampleL; split <;> exact ⟨rfl, rfl, ⟨hb.set, hb.last, hb.grew, hb.at_⟩⟩
    · have hout := out_hold X e
      have hY := hX.step (e := e)
      have ht := tick_hold (moreL X) e.t
      rw [show tickL (moreL X) e.t = stepL X e from (step_2 ho hk).symm] at ht
      have m1 : (moreL X).hold = X.hold := rfl
      have m2 : (moreL X).conf = X.conf := rfl
      have m3 : (moreL X).set_ = X.set_ := rfl
      rw [m1, m2, m3] at ht
      generalize stepL X e = S at *
      rcases ht with ⟨h1, h2, h3, h4⟩ | ⟨h1, h2, h3, w, h4, h5⟩
      · refine .inl ⟨.inl (by omega), h1, h3, ⟨?_, ?_, ?_, hb.at_⟩⟩
        · rw [h2, h3, h4]; exact hb.set
        · rw [h2, h4]; exact hb.last
        · rw [h2]; exact hb.grew
      · rcases hout with h0 | ⟨_, _, hout⟩
        · exact absurd h0 h5
        · have hc := hX.conf h1
          have hcn := okConf_n hc
          have hbs := hb.set h1
          have lf := lim_facts (c := X.conf) (h := X.hold) (w := w) (now := S.1.now) hcn.2.1 (by omega) hbs.1 hbs.2
          rw [← h4] at lf
          refine .inr (.inr ⟨rfl, hk, hc, h2, S.1.hold.cur, S.1.now, hout, hY.now.1, hY.now.2, lf.1, lf.2.1, ?_, ?_, ?_, ?_⟩)
          · rcases hb.last with h | h
            · exact .inl h
            · exact .inr (by rw [h.2]; omega)
          · intro hg
            rcases Int.lt_or_le S.1.hold.cur last with hlt | hlt
            rotate_left
            · exact .inl hlt
            refine .inr ?_
            have hgg := hb.grew hg
            rcases hb.last with h | h
            · rw [h.2] at hg; cases hg
            · rw [hgg.2]; exact lf.2.2.2.2.2.2 (by rw [← h.2]; exact hlt) hgg.1
          · intro hl
            refine ⟨fun _ => by rw [h2]; exact ⟨lf.1, lf.2.1⟩, .inr ⟨h3, rfl⟩, fun hg => ?_, hb.at_⟩
            have hgg := hb.grew hg
            rcases hb.last with h | h
            · rw [h.2] at hg; cases hg
            · have hbl := hbs.1
              have := lf.2.2.2.2.2.1 (by have := h.2; omega)
              rw [this.1, this.2]; exact hgg
          · intro h0 hl
            refine ⟨fun _ => by rw [h2]; exact ⟨lf.1, lf.2.1⟩, .inr ⟨h3, rfl⟩, fun hg => ?_, hY.now⟩
            rcases hb.last with h | h
            · omega
            · have := lf.2.2.2.2.1 (by rw [← h.2]; exact hl)
              exact ⟨this.1, this.2.symm⟩
    · refine .inl ⟨.inl (by omega), ?_⟩
      rw [step_3 ho hk]; unfold policyL; split <;> exact ⟨rfl, rfl, ⟨hb.set, hb.last, hb.grew, hb.at_⟩⟩
    · refine .inr (.inl ⟨rfl, hk, ?_⟩)
      have hc := okConf_n (okEv_conf ho hk)
      rw [step_4 ho hk]
      refine ⟨rfl, rfl, ⟨fun _ => ?_, .inl ⟨rfl, rfl⟩, fun h => (by cases h), hb.at_⟩⟩
      simp only [confL, intoH]
      omega
    · refine .inl ⟨.inl (by omega), ?_⟩
      rw [step_o (.inr (inEv_f hk))]; exact ⟨rfl, rfl, hb⟩
end Go.Proofs.YtncbfppafgjdiaaGreat
end
section
/- What a tick does, part by part: rollbacks and promotions. -/
set_option linter.unusedVariables false
set_option linter.unusedSimpArgs false
set_option maxRecDepth 20000
namespace Go.Proofs.YtncbfppafgjdiaaGreat
open Go
theorem pickFrom_cases (c : ConfV) (live : SimV) (l : List SimV) : ∀ (xs : List SimV) (i best : Nat), pickFrom c live l xs i best = best ∨ ∃ k, k < xs.length ∧ pickFrom c live l xs i best = i + k + 1 ∧ beats c live (gt xs k) = true
  | [], i, best => .inl rfl
  | x :: xs, i, best => by
    rw [pickFrom]
    split
    · rename_i hb
      rcases pickFrom_cases c live l xs (i + 1) (i + 1) with h | ⟨k, h1, h2, h3⟩
      · exact .inr ⟨0, by simp, by rw [h], hb.1⟩
      · exact .inr ⟨k + 1, by simp; omega, by rw [h2]; omega, h3⟩
    · rcases pickFrom_cases c live l xs (i + 1) best with h | ⟨k, h1, h2, h3⟩
      · exact .inl h
      · exact .inr ⟨k + 1, by simp; omega, by rw [h2]; omega, h3⟩
theorem pickS_beats {c : ConfV} {live : SimV} {l : List SimV} (h : pickS c live l ≠ 0) : 1 ≤ pickS c live l ∧ pickS c live l ≤ l.length ∧ beats c live (gt l (pickS c live l - 1)) = true := by
  rcases pickFrom_cases c live l l 0 0 with h1 | ⟨k, h1, h2, h3⟩
  · exact absurd h1 h
  · have : pickS c live l = k + 1 := by unfold pickS; rw [h2]; omega
    rw [this]; exact ⟨by omega, by omega, h3⟩
/-- A probation is of a controller that runs. -/
def prb (X : LiveV) : Prop := X.probe.on = true → X.set_ = true ∧ X.pol.kind ≠ 0
theorem prb_zero : prb {} := fun h => by cases h
theorem stepSim_pol (c : ConfV) (x : SimV) (d now : Int) : (stepSim c x d now).pol = x.pol := by
  unfold stepSim; split <;> rfl
/-- What is told of a promotion. -/
structure Prom (X Y : LiveV) (id : Nat) : Prop where
  id0 : 1 ≤ id
  id1 : id ≤ X.shadows.length
  on : Y.probe.on = true
  pid : Y.probe.id = id
  pol : Y.pol = (gt X.shadows (id - 1)).pol
  kind : Y.sim.pol.kind ≠ 0
  win : (Y.sim.marks.length : Int) = X.conf.window
  bad : badM Y.sim.marks ≤ X.conf.ceil
  left : Y.probe.left = X.conf.probe
  pbad : Y.probe.bad = 0
/-- What is told of the one that was there, if no rollback came with it. -/
structure Beat (X Y : LiveV) : Prop where
  win : ((stepSim X.conf X.sim X.demand Y.now).marks.length : Int) = X.conf.window
  cost : costM Y.sim.marks + X.conf.margin ≤ costM (stepSim X.conf X.sim X.demand Y.now).marks
  pol : Y.probe.pol = X.pol
  state : Y.probe.state = (nextP X.pol X.state X.hold.cur X.util Y.now).1
def backN (X Y : LiveV) : Int := (limN X.conf X.hold (nextP X.probe.pol X.probe.state X.hold.cur X.util Y.now).2 Y.now).cur
theorem judge_cases (Z : LiveV) : (Z.probe.on = true ∧ judgeO Z = [] ∧ ∃ q, judgeL Z = { Z with probe := q }) ∨ (Z.probe.on = false ∧ judgeO Z = [] ∧ judgeL Z = Z) ∨
    (Z.probe.on = false ∧ ∃ id : Nat, 1 ≤ id ∧ id ≤ Z.shadows.length ∧ beats Z.conf Z.sim (gt Z.shadows (id - 1)) = true ∧ judgeO Z = [{ kind := 6, id := id }] ∧
      judgeL Z = { Z with probe := beginPr Z.conf id Z.pol Z.state, pol := (gt Z.shadows (id - 1)).pol, state := (gt Z.shadows (id - 1)).state, sim := gt Z.shadows (id - 1), shadows := Z.shadows.set (id - 1) {} }) := by
  cases ho : Z.probe.on with
  | true =>
    refine .inl ⟨rfl, ?_, ?_⟩
    · unfold judgeO; rw [if_pos ho]
    · unfold judgeL; rw [if_pos ho]; exact ⟨_, rfl⟩
  | false =>
    by_cases hp : pickS Z.conf Z.sim Z.shadows = 0
    · refine .inr (.inl ⟨rfl, ?_, ?_⟩)
      · unfold judgeO; rw [if_neg (by rw [ho]; simp), if_pos hp]
      · unfold judgeL; rw [if_neg (by rw [ho]; simp)]; simp only; rw [if_pos hp]
    · have hb := pickS_beats hp
      refine .inr (.inr ⟨rfl, pickS Z.conf Z.sim Z.shadows, hb.1, hb.2.1, hb.2.2, ?_, ?_⟩)
      · unfold judgeO; rw [if_neg (by rw [ho]; simp), if_neg hp]
      · unfold judgeL; rw [if_neg (by rw [ho]; simp)]; simp only; rw [if_neg hp]; rfl
theorem beats_facts {c : ConfV} {a b : SimV} (h : beats c a b = true) : b.pol.kind ≠ 0 ∧ (a.marks.length : Int) = c.window ∧ (b.marks.length : Int) = c.window ∧ badM b.marks ≤ c.ceil ∧ costM b.marks + c.margin ≤ costM a.marks := by
  simp only [beats, betterM, Bool.and_eq_true, decide_eq_true_eq] at h
  exact ⟨h.1, h.2.1.1.1, h.2.1.1.2, h.2.1.2, h.2.2⟩
/-- A tick, part by part. -/
theorem tick_parts {X : LiveV} (hp : prb X) {e : EvV} (ho : okEv e = true) (hk : e.kind = 2) :
    ((stepL X e).2 = [] ∧ breachedPr X.conf X.probe = false ∧ prb (stepL X e).1) ∨ ((stepL X e).1.conf = X.conf ∧ X.set_ = true ∧ prb (stepL X e).1 ∧ ∃ n,
      ((breachedPr X.conf X.probe = false ∧ (stepL X e).2 = [{ kind := 5, t := (stepL X e).1.now, n := n }]) ∨
       (breachedPr X.conf X.probe = true ∧ n = backN X (stepL X e).1 ∧ (stepL X e).1.pol = X.probe.pol ∧ (stepL X e).2 = [{ kind := 7, id := X.probe.id }, { kind := 5, t := (stepL X e).1.now, n := n }]) ∨
       (∃ id : Nat, breachedPr X.conf X.probe = false ∧ X.probe.on = false ∧ Prom X (stepL X e).1 id ∧ Beat X (stepL X e).1 ∧ (stepL X e).2 = [{ kind := 5, t := (stepL X e).1.now, n := n }, { kind := 6, id := id }]) ∨
       (∃ id : Nat, breachedPr X.conf X.probe = true ∧ X.probe.on = true ∧ n = backN X (stepL X e).1 ∧ Prom X (stepL X e).1 id ∧ (stepL X e).2 = [{ kind := 7, id := X.probe.id }, { kind := 5, t := (stepL X e).1.now, n := n }, { kind := 6, id := id }]))) := by
  rw [step_2 ho hk]
  obtain ⟨A, hA⟩ : ∃ A, nowL (moreL X) e.t = A := ⟨_, rfl⟩
  have a : A.set_ = X.set_ ∧ A.pol = X.pol ∧ A.conf = X.conf ∧ A.probe = X.probe ∧ A.hold = X.hold ∧ A.state = X.state ∧ A.util = X.util ∧ A.demand = X.demand ∧ A.sim = X.sim ∧ A.shadows = X.shadows := by subst hA; exact ⟨rfl, rfl, rfl, rfl, rfl, rfl, rfl, rfl, rfl, rfl⟩
  obtain ⟨a1, a2, a3, a4, a5, a6, a7, a8, a9, a10⟩ := a
  unfold tickL
  simp only [hA]
  split
  · rename_i hz
    refine .inl ⟨rfl, ?_, fun h => ?_⟩
    · cases hon : X.probe.on with
      | false => simp [breachedPr, hon]
      | true =>
        have := hp hon
        rw [a1, a2, this.1] at hz
        rcases hz with hz | hz
        · cases hz
        · exact absurd hz this.2
    · rw [a1, a2]; exact hp (by rw [← a4]; exact h)
  · rename_i hz
    have z1 : X.set_ = true := by
      cases h : X.set_ with
      | true => rfl
      | false => exact absurd (.inl (a1.trans h)) hz
    have z2 : X.pol.kind ≠ 0 := fun h => hz (.inr (by rw [a2]; exact h))
    refine .inr ?_
    obtain ⟨D, hD⟩ : ∃ D, decideL (rollL A) = D := ⟨_, rfl⟩
    obtain ⟨Z, hZ⟩ : ∃ Z, runL D = Z := ⟨_, rfl⟩
    have r := roll_keeps A
    have d : D.set_ = true ∧ D.conf = X.conf ∧ D.now = A.now ∧ D.util = X.util ∧ D.demand = X.demand ∧ D.shadows = X.shadows ∧ D.pol = (rollL A).pol ∧ D.probe = (rollL A).probe ∧ D.sim = (rollL A).sim ∧ D.state = (nextP (rollL A).pol (rollL A).state X.hold.cur X.util A.now).1 ∧ D.hold = limN X.conf X.hold (nextP (rollL A).pol (rollL A).state X.hold.cur X.util A.now).2 A.now := by
      subst hD
      have rs : (rollL A).shadows = A.shadows := by unfold rollL; split <;> rfl
      unfold decideL
      simp only
      rw [r.1, r.2.1, r.2.2.1, r.2.2.2.1, r.2.2.2.2.1, r.2.2.2.2.2, rs, a1, a3, a5, a7, a8, a10]
      and_intros <;> first | exact z1 | trivial | rfl
    obtain ⟨d1, d2, d3, d4, d5, d6, d7, d8, d9, d10, d11⟩ := d
    have z : Z.set_ = true ∧ Z.conf = X.conf ∧ Z.now = A.now ∧ Z.pol = D.pol ∧ Z.probe = D.probe ∧ Z.state = D.state ∧ Z.hold = D.hold ∧ Z.sim = stepSim X.conf D.sim X.demand A.now ∧ Z.shadows = X.shadows.map fun x => stepSim X.conf x X.demand A.now := by
      subst hZ
      unfold runL
      simp only
      rw [d2, d3, d5, d6]
      and_intros <;> first | exact d1 | trivial | rfl
    obtain ⟨y1, y2, y3, y4, y5, y6, y7, y8, y9⟩ := z
    have hlen : Z.shadows.length = X.shadows.length := by rw [y9, List.length_map]
    have hshp : ∀ k, (gt Z.shadows k).pol = (gt X.shadows k).pol := fun k => by
      unfold gt
      rw [y9, List.getD_eq_getElem?_getD, List.getD_eq_getElem?_getD, List.getElem?_map]
      cases X.shadows[k]? with
      | none => rfl
      | some x => exact stepSim_pol _ _ _ _
    have hnow : (judgeL Z).now = A.now := by rw [(judge_keeps Z).2.2.2.1, y3]
    have hconf : (judgeL Z).conf = X.conf := by rw [(judge_keeps Z).2.1, y2]
    simp only [hD, hZ, hnow, d3]
    have hprom : ∀ id : Nat, Z.probe.on = false → 1 ≤ id → id ≤ Z.shadows.length → beats Z.conf Z.sim (gt Z.shadows (id - 1)) = true →
        judgeL Z = { Z with probe := beginPr Z.conf id Z.pol Z.state, pol := (gt Z.shadows (id - 1)).pol, state := (gt Z.shadows (id - 1)).state, sim := gt Z.shadows (id - 1), shadows := Z.shadows.set (id - 1) {} } → Prom X (judgeL Z) id ∧ prb (judgeL Z) := by
      intro id hon h1 h2 hb hj
      have bf := beats_facts hb
      rw [y2] at bf
      refine ⟨⟨h1, by omega, by rw [hj]; rfl, by rw [hj]; rfl, by rw [hj]; exact hshp _, by rw [hj]; exact bf.1, by rw [hj]; exact bf.2.2.1, by rw [hj]; exact bf.2.2.2.1, by rw [hj]; show Z.conf.probe = _; rw [y2], by rw [hj]; rfl⟩, fun _ => ?_⟩
      rw [hj]; exact ⟨y1, bf.1⟩
    refine ⟨hconf, z1, ?_⟩
    cases hbr : breachedPr X.conf X.probe with
    | true =>
      have hon : X.probe.on = true := by
        cases h : X.probe.on with
        | true => rfl
        | false => simp [breachedPr, h] at hbr
      have hR : rollL A = adoptL A X.probe.pol X.probe.state := by unfold rollL; rw [a3, a4, if_pos hbr]
      have hO : rollO A = [{ kind := 7, id := X.probe.id }] := by unfold rollO; rw [a3, a4, if_pos hbr]
      rw [hR] at d7 d8 d10 d11
      have hn : D.hold.cur = backN X (judgeL Z) := by rw [d11]; unfold backN; rw [hnow]; rfl
      have hZp : Z.probe.on = false := by rw [y5, d8]; rfl
      rcases judge_cases Z with ⟨h, _⟩ | ⟨_, jo, jl⟩ | ⟨hoff, id, i1, i2, ib, jo, jl⟩
      · rw [hZp] at h; cases h
      · refine ⟨(by rw [jl]; intro h; rw [hZp] at h; cases h), D.hold.cur, .inr (.inl ⟨rfl, hn, ?_, ?_⟩)⟩
        · rw [jl, y4, d7]; rfl
        · rw [hO, jo]; rfl
      · obtain ⟨hP, hq⟩ := hprom id hoff i1 i2 ib jl
        exact ⟨hq, D.hold.cur, .inr (.inr (.inr ⟨id, rfl, hon, hn, hP, by rw [hO, jo]; rfl⟩))⟩
    | false =>
      have hR : rollL A = A := by unfold rollL; rw [a3, a4, if_neg (by rw [hbr]; simp)]
      have hO : rollO A = [] := by unfold rollO; rw [a3, a4, if_neg (by rw [hbr]; simp)]
      rw [hR] at d7 d8 d9 d10 d11
      rcases judge_cases Z with ⟨h, jo, q, jl⟩ | ⟨hoff, jo, jl⟩ | ⟨hoff, id, i1, i2, ib, jo, jl⟩
      · refine ⟨fun _ => ?_, D.hold.cur, .inl ⟨rfl, by rw [hO, jo]; rfl⟩⟩
        rw [jl]; exact ⟨y1, by show Z.pol.kind ≠ 0; rw [y4, d7, a2]; exact z2⟩
      · refine ⟨(by rw [jl]; intro h; rw [hoff] at h; cases h), D.hold.cur, .inl ⟨rfl, by rw [hO, jo]; rfl⟩⟩
      · obtain ⟨hP, hq⟩ := hprom id hoff i1 i2 ib jl
        have bf := beats_facts ib
        rw [y2] at bf
        refine ⟨hq, D.hold.cur, .inr (.inr (.inl ⟨id, rfl, by rw [y5, d8, a4] at hoff; exact hoff, hP, ⟨?_, ?_, ?_, ?_⟩, by rw [hO, jo]; rfl⟩))⟩
        · rw [hnow, ← a9, ← d9, ← y8]; exact bf.2.1
        · rw [hnow, ← a9, ← d9, ← y8, jl]; exact bf.2.2.2.2
        · rw [jl]; show Z.pol = X.pol; rw [y4, d7, a2]
        · rw [hnow, jl]; show Z.state = _; rw [y6, d10, a2, a6]
theorem prb_step {X : LiveV} (hp : prb X) (e : EvV) : prb (stepL X e).1 := by
  cases ho : okEv e with
  | false => rw [step_o (.inl ho)]; exact hp
  | true =>
    have hk5 : e.kind = 1 ∨ e.kind = 2 ∨ e.kind = 3 ∨ e.kind = 4 ∨ (¬ 1 = e.kind ∧ ¬ 2 = e.kind ∧ ¬ 3 = e.kind ∧ ¬ 4 = e.kind) := by omega
    rcases hk5 with hk | hk | hk | hk | hk
    · rw [step_1 ho hk]; unfold sampleL; split <;> exact hp
    · rcases tick_parts hp ho hk with h | h
      · exact h.2.2
      · exact h.2.2.1
    · rw [step_3 ho hk]; unfold policyL; split
      · intro h; cases h
      · exact hp
    · rw [step_4 ho hk]; exact fun h => ⟨rfl, (hp h).2⟩
    · rw [step_o (.inr (inEv_f hk))]; exact hp
theorem xsL_prb (l : List EvV) (j : Nat) : prb (xsL l j) := by
  unfold xsL
  have key : ∀ (k : List EvV) (x : LiveV), prb x → prb (k.foldl (fun x e => (stepL x e).1) x) := fun k => by
    induction k with
    | nil => intro x h; exact h
    | cons e k ih => intro x h; exact ih _ (prb_step h e)
  exact key _ {} prb_zero
end Go.Proofs.YtncbfppafgjdiaaGreat
end
section
/- ControlBack, walked. -/
set_option linter.unusedVariables false
set_option linter.unusedSimpArgs false
set_option maxRecDepth 20000
namespace Go.Proofs.YtncbfppafgjdiaaGreat
open Go
attribute [local irreducible] T TL C RG DP SP YR afterRG DPcall
attribute [-simp] List.map_set
theorem live_on {X : LiveV} {b : Bool} (h : X.probe.on = b) : eLive X = .agg 45 [i64 X.ins, i64 X.now, i64 X.util, i64 X.demand, .bool X.set_, eConf X.conf, ePol X.pol, eSta X.state, eHold X.hold, eSim X.sim, .lit (X.shadows.map eSim), .agg 43 [.bool b, i64 X.probe.left, i64 X.probe.bad, i64 X.probe.id, ePol X.probe.pol, eSta X.probe.state]] := by
  subst h; rfl
section
variable {R : Re → Store → Prop} {σ : Store}
end
end Go.Proofs.YtncbfppafgjdiaaGreat
end
section
/- ControlGuard, walked. -/
set_option linter.unusedVariables false
set_option linter.unusedSimpArgs false
set_option maxRecDepth 20000
namespace Go.Proofs.YtncbfppafgjdiaaGreat
open Go
attribute [local irreducible] T TL C RG DP SP YR afterRG DPcall
attribute [-simp] List.map_set
theorem okM.cost {l : List MarkV} (h : okM l) : -10000000000000 ≤ costM l ∧ costM l ≤ 10000000000000 := by
  have h1 := psum_in (f := fun m : MarkV => m.cost) (b := 1000000000) (by decide) h.2 l.length
  rw [psum_all] at h1
  have h2 : -(1000000000 * (l.length : Int)) ≤ costM l ∧ costM l ≤ 1000000000 * l.length := h1
  have := h.1
  omega
section
variable {R : Re → Store → Prop} {σ : Store}
set_option maxHeartbeats 16000000 in
theorem C_guard {l : List EvV} (hl : l.length ≤ 9223372036854775807) (hE : ∀ e ∈ l, evIn e) (h : R (.ret (.bool true)) σ) : C tE 6 [.lit (l.map eEv)] σ R := by
  have cg : ∀ {R : Re → Store → Prop} {σ : Store}, R (.ret (.bool (greatL l))) σ → C tE 11 [.lit (l.map eEv)] σ R := fun h => L_great hl (fun e he => ⟨(hE e he).b, (hE e he).s, (hE e he).y⟩) h
  refine C_pure tOK (by simp) ?_
  refine s_body' Tryz.func6 tOK rfl (by conv => lhs; simp) (by conv => lhs; simp) (by conv => lhs; simp [Fr.args]) rfl (by conv => lhs; try simp) fun R9 hR9 => ?_
  cases hg : greatL l with
  | true =>
    rw [hg] at cg
    repeat' (first | refine go ?_ | refine s_seq fun y9 hy9 => ?_ | refine qT _ ?_ ?_ | refine qG _ ?_ ?_ | refine qN ?_ ?_ | (refine QB.mk fun hb9 => ?_; (try simp only [hb9]); (try simp at hb9); first | (exfalso; omega) | subst hb9 | skip) | refine sD tOK tmix [([],1),([],2),([],3),([1,2],4),([1,2,3],5),([0,1,2,3,4],6),([0,1,2,3,4,5],7),([0,1,2,3,4,5,6],8),([0,1,2,3,4,5,6],9),([],0),([0,1,2,3,4,5,6,7,9],10),([0,1,2,3,4,5,6,7,8,9,10],11)] 11 ?_ | refine sD tOK tmix [([],0),([0],1),([0,1],2),([0,1,2],3),([0,1,2],4),([0,1,2,4],5),([0,1,2,4,5],6),([0,1,2,3,4,5,6],7),([0,1,2,3,4,5,6,7],8),([0,1,2,3,4,5,6,7,8],9),([0,1,2,3,4,5,6,7,8,9],10),([0,1,2,3,4,5,6,7,8,9,10],11),([0,1,2,3,4,5,6,7,8,9,10,11],12),([0,1,2,3,4,5,6,7,8,9,10,11,12],13),([0,1,2,3,4,5,6,7,8,9,10,11,12,13],14),([0,1,2,3,4,5,6,7,8,9,10,11,12,13,14],15),([0,1,2,3,4,5,6,7,8,9,10,11,12,13,14,15],16),([0,1,2,3,4,5,6,7,8,9,10,11,12,13,14,15,16],17),([0,1,2,3,4,5,6,7,8,9,10,11,12,13,14,15,16,17],18),([0,1,2,3,4,5,6,7,8,9,10,11,12,13,14,15,16,17,18],19),([0,1,2,3,4,5,6,7,8,9,10,11,12,13,14,15,16,17,18,19],20),([0,1,2,3,4,5,6,7,8,9,10,11,12,13,14,15,16,17,18,19,20],21),([0,1,2,3,4,5,6,7,8,9,10,11,12,13,14,15,16,17,18,19,20,21],22),([0,1,2,3,4,5,6,7,8,9,10,11,12,13,14,15,16,17,18,19,20,21,22],23),([0,1,2,3,4,5,6,7,8,9,10,11,12,13,14,15,16,17,18,19,20,21,22,23],24),([0,1,2,3,4,5,6,7,8,9,10,11,12,13,14,15,16,17,18,19,20,21,22,23,24],25),([0,1,2,3,4,5,6,7,8,9,10,11,12,13,14,15,16,17,18,19,20,21,22,23,24,25],26),([0,1,2,3,4,5,6,7,8,9,10,11,12,13,14,15,16,17,18,19,20,21,22,23,24,25,26],27),([0,1,2,3,4,5,6,7,8,9,10,11,12,13,14,15,16,17,18,19,20,21,22,23,24],28),([0,1,2,3,4,5,6,7,8,9,10,11,12,13,14,15,16,17,18,19,20,21,22,23,24,28],29),([0,1,2,3,4,5,6,7,8,9,10,11,12,13,14,15,16,17,18,19,20,21,22,23,24,28,29],30),([0,1,2,3,4,5,6,7,8,9,10,11,12,13,14,15,16,17,18,19,20,21,22,23,24,25,26,27,28,29,30],31),([0,1,2,3,4,5,6,7,8,9,10,11,12,13,14,15,16,17,18,19,20,21,22,23,24,25,26,27,28,29,30,31],32),([0,1,2,3,4,5,6,7,8,9,10,11,12,13,14,15,16,17,18,19,20,21,22,23,24,25,26,27,28,29,30,31,32],33),([0,1,2,3,4,5,6,7,8,9,10,11,12,13,14,15,16,17,18,19,20,21,22,23,24,25,26,27,28,29,30,31,32,33],34),([0,1,2,3,4,5,6,7,8,9,10,11,12,13,14,15,16,17,18,19,20,21,22,23,24,25,26,27,28,29,30,31,32,33,34],35),([0,1,2,3,4,5,6,7,8,9,10,11,12,13,14,15,16,17,18,19,20,21,22,23,24,25,26,27,28,29,30,31,32,33,34,35],36),([0,1,2,3,4,5,6,7,8,9,10,11,12,13,14,15,16,17,18,19,20,21,22,23,24,25,26,27,28,29,30,31,32,33,34,35,36],37),([0,1,2,3,4,5,6,7,8,9,10,11,12,13,14,15,16,17,18,19,20,21,22,23,24,25,26,27,28,29,30,31,32,33,34,35,36,37],38),([0,1,2,3,4,5,6,7,8,9,10,11,12,13,14,15,16,17,18,19,20,21,22,23,24,25,26,27,28,29,30,31,32,33,34,35,36,37,38],39),([0,1,2,3,4,5,6,7,8,9,10,11,12,13,14,15,16,17,18,19,20,21,22,23,24,25,26,27,28,29,30,31,32,33,34,35,36,37,38,39],40),([0,1,2,3,4,5,6,7,8,9,10,11,12,13,14,15,16,17,18,19,20,21,22,23,24,25,26,27,28,29,30,31,32,33,34,35,36,37,38,39,40],41),([0,1,2,3,4,5,6,7,8,9,10,11,12,13,14,15,16,17,18,19,20,21,22,23,24,25,26,27,28,29,30,31,32,33,34,35,36,37,38,39,40,41],42),([0,1,2,3,4,5,6,7,8,9,10,11,12,13,14,15,16,17,18,19,20,21,22,23,24,25,26,27,28,29,30,31,32,33,34,35,36,37,38,39,40,41,42],43),([0,1,2,3,4,5,6,7,8,9,10,11,12,13,14,15,16,17,18,19,20,21,22,23,24,25,26,27,28,29,30,31,32,33,34,35,36,37,38,39,40],44),([0,1,2,3,4,5,6,7,8,9,10,11,12,13,14,15,16,17,18,19,20,21,22,23,24,25,26,27,28,29,30,31,32,33,34,35,36,37,38,39,40,41,42,43,44],45),([0,1,2,3,4,5,6,7,8,9,10,11,12,13,14,15,16,17,18,19,20,21,22,23,24,25,26,27,28,29,30,31,32,33,34,35,36,37,38,39,40,41,42,43,44,45],46),([0,1,2,3,4,5,6,7,8,9,10,11,12,13,14,15,16,17,18,19,20,21,22,23,24,25,26,27,28,29,30,31,32,33,34,35,36,37,38,39,40,41,42,43,44,45,46],47),([0,1,2,3,4,5,6,7,8,9,10,11,12,13,14,15,16,17,18,19,20,21,22,23,24,25,26,27,28,29,30,31,32,33,34,35,36,37,38,39,40,41,42,43,44,45,46,47],48),([0,1,2,3,4,5,6,7,8,9,10,11,12,13,14,15,16,17,18,19,20,21,22,23,24,25,26,27,28,29,30,31,32,33,34,35,36,37,38,39,40,41,42,43,44,45,46,47,48],49),([0,1,2,3,4,5,6,7,8,9,10,11,12,13,14,15,16,17,18,19,20,21,22,23,24,25,26,27,28,29,30,31,32,33,34,35,36,37,38,39,40,41,42,43,44,45,46,47],50),([0,1,2,3,4,5,6,7,8,9,10,11,12,13,14,15,16,17,18,19,20,21,22,23,24,25,26,27,28,29,30,31,32,33,34,35,36,37,38,39,40,41,42,43,44,45,46,47,50],51),([0,1,2,3,4,5,6,7,8,9,10,11,12,13,14,15,16,17,18,19,20,21,22,23,24,25,26,27,28,29,30,31,32,33,34,35,36,37,38,39,40,41,42,43,44,45,46,47],52),([0,1,2,3,4,5,6,7,8,9,10,11,12,13,14,15,16,17,18,19,20,21,22,23,24,25,26,27,28,29,30,31,32,33,34,35,36,37,38,39,40,41,42,43,44,45,46,47,52],53),([0,1,2,3,4,5,6,7,8,9,10,11,12,13,14,15,16,17,18,19,20,21,22,23,24,25,26,27,28,29,30,31,32,33,34,35,36,37,38,39,40,41,42,43,44,45,46,47,50,51,52,53],54),([0,1,2,3,4,5,6,7,8,9,10,11,12,13,14,15,16,17,18,19,20,21,22,23,24,25,26,27,28,29,30,31,32,33,34,35,36,37,38,39,40,41,42,43,44,45,46,47,50,51,52,53,54],55),([0,1,2,3,4,5,6,7,8,9,10,11,12,13,14,15,16,17,18,19,20,21,22,23,24,25,26,27,28,29,30,31,32,33,34,35,36,37,38,39,40,41,42,43,44,45,46,47,50,51,52,53,54,55],56),([0,1,2,3,4,5,6,7,8,9,10,11,12,13,14,15,16,17,18,19,20,21,22,23,24,25,26,27,28,29,30,31,32,33,34,35,36,37,38,39,40,41,42,43,44,45,46,47,48,49,50,51,52,53,54,55,56],57),([0,1,2,3,4,5,6,7,8,9,10,11,12,13,14,15,16,17,18,19,20,21,22,23,24,25,26,27,28,29,30,31,32,33,34,35,36,37,38,39,40,41,42,43,44,45,46,47,48,49,50,51,52,53,54,55,56,57],58),([0,1,2,3,4,5,6,7,8,9,10,11,12,13,14,15,16,17,18,19,20,21,22,23,24,25,26,27,28,29,30,31,32,33,34,35,36,37,38,39,40,41,42,43,44,45,46,47,48,49,50,51,52,53,54,55,56,57,58],59),([0,1,2,3,4,5,6,7,8,9,10,11,12,13,14,15,16,17,18,19,20,21,22,23,24,25,26,27,28,29,30,31,32,33,34,35,36,37,38,39,40,41,42,43,44,45,46,47,48,49,50,51,52,53,54,55,56,57,58,59],60),([0,1,2,3,4,5,6,7,8,9,10,11,12,13,14,15,16,17,18,19,20,21,22,23,24,25,26,27,28,29,30,31,32,33,34,35,36,37,38,39,40,41,42,43,44,45,46,47,48,49,50,51,52,53,54,55,56,57,58,59,60],61),([0,1,2,3,4,5,6,7,8,9,10,11,12,13,14,15,16,17,18,19,20,21,22,23,24,25,26,27,28,29,30,31,32,33,34,35,36,37,38,39,40,41,42,43,44,45,46,47,48,49,50,51,52,53,54,55,56,57,58,59,60,61],62),([0,1,2,3,4,5,6,7,8,9,10,11,12,13,14,15,16,17,18,19,20,21,22,23,24,25,26,27,28,29,30,31,32,33,34,35,36,37,38,39,40,41,42,43,44,45,46,47,48,49,50,51,52,53,54,55,56,57,58,59,60,61,62],63),([0,1,2,3,4,5,6,7,8,9,10,11,12,13,14,15,16,17,18,19,20,21,22,23,24,25,26,27,28,29,30,31,32,33,34,35,36,37,38,39,40,41,42,43,44,45,46,47,48,49,50,51,52,53,54,55,56,57,58,59,60,61,62,63],64),([0,1,2,3,4,5,6,7,8,9,10,11,12,13,14,15,16,17,18,19,20,21,22,23,24,25,26,27,28,29,30,31,32,33,34,35,36,37,38,39,40,41,42,43,44,45,46,47,48,49,50,51,52,53,54,55,56,57,58,59,60,61,62,63,64],65),([0,1,2,3,4,5,6,7,8,9,10,11,12,13,14,15,16,17,18,19,20,21,22,23,24,25,26,27,28,29,30,31,32,33,34,35,36,37,38,39,40,41,42,43,44,45,46,47,48,49,50,51,52,53,54,55,56,57,58,59,60,61,62,63,64,65],66)] 57 ?_ | refine sD tOK tmix [([],0),([0],1),([],2),([2],3),([2,3],4),([0,1,2,3,4],5),([0,1,2,3,4,5],6),([0,1,2,3,4,5,6],7),([0,1,2,3,4,5,6,7],8),([0,1,2,3,4,5,6],9),([0,1,2,3,4,5,6,9],10),([0,1,2,3,4,5,6,9,10],11),([0,1,2,3,4,5,6,7,8,9,10,11],12),([0,1,2,3,4,5,6,7,8,9,10,11,12],13),([0,1,2,3,4,5,6,7,8,9,10,11,12,13],14),([0,1,2,3,4,5,6,7,8,9,10,11,12,13,14],15),([0,1,2,3,4,5,6,7,8,9,10,11,12,13,14,15],16),([0,1,2,3,4,5,6,7,8,9,10,11,12,13,14,15,16],17),([0,1,2,3,4,5,6,7,8,9,10,11,12,13,14],18),([0,1,2,3,4,5,6,7,8,9,10,11,12,13,14,18],19),([0,1,2,3,4,5,6,7,8,9,10,11,12,13,14,18,19],20),([0,1,2,3,4,5,6,7,8,9,10,11,12,13,14,15,16,17,18,19,20],21),([0,1,2,3,4,5,6,7,8,9,10,11,12,13,14,15,16,17,18,19,20,21],22),([0,1,2,3,4,5,6,7,8,9,10,11,12,13,14,15,16,17,18,19,20,21,22],23),([0,1,2,3,4,5,6,7,8,9,10,11,12,13,14,15,16,17,18,19,20,21,22,23],24),([0,1,2,3,4,5,6,7,8,9,10,11,12,13,14,15,16,17,18,19,20,21,22,23,24],25),([0,1,2,3,4,5,6,7,8,9,10,11,12,13,14,15,16,17,18,19,20,21,22,23,24,25],26),([0,1,2,3,4,5,6,7,8,9,10,11,12,13,14,15,16,17,18,19,20,21,22,23,24,25,26],27),([0,1,2,3,4,5,6,7,8,9,10,11,12,13,14,15,16,17,18,19,20,21,22,23,24,25,26,27],28)] 21 ?_ | refine sD tOK tmix [([],0),([0],1),([],2),([2],3),([2,3],4),([0,1,2,3,4],5),([0,1,2,3,4,5],6),([0,1,2,3,4,5,6],7),([0,1,2,3,4,5,6,7],8),([0,1,2,3,4,5,6],9),([0,1,2,3,4,5,6,9],10),([0,1,2,3,4,5,6,9,10],11),([0,1,2,3,4,5,6,7,8,9,10,11],12),([0,1,2,3,4,5,6],13),([0,1,2,3,4,5,6,7,8,13],14),([0,1,2,3,4,5,6,7,8,9,10,11,12,13,14],15),([0,1,2,3,4,5,6,7,8,9,10,11,12,13,14,15],16),([0,1,2,3,4,5,6,7,8,9,10,11,12,13,14,15,16],17),([0,1,2,3,4,5,6,7,8,9,10,11,12,13,14,15,16,17],18),([0,1,2,3,4,5,6,7,8,9,10,11,12,13,14,15,16,17,18],19),([0,1,2,3,4,5,6,7,8,9,10,11,12,13,14,15,16,17,18,19],20),([0,1,2,3,4,5,6,7,8,9,10,11,12,13,14,15,16,17],21),([0,1,2,3,4,5,6,7,8,9,10,11,12,13,14,15,16,17,21],22),([0,1,2,3,4,5,6,7,8,9,10,11,12,13,14,15,16,17,18,19,20,21,22],23),([0,1,2,3,4,5,6,7,8,9,10,11,12,13,14,15,16,17,18,19,20,21,22,23],24),([0,1,2,3,4,5,6,7,8,9,10,11,12,13,14,15,16,17,18,19,20,21,22,23,24],25),([0,1,2,3,4,5,6,7,8,9,10,11,12,13,14,15,16,17,18,19,20,21,22,23,24,25],26),([0,1,2,3,4,5,6,7,8,9,10,11,12,13,14,15,16,17,18,19,20,21,22,23,24,25,26],27),([0,1,2,3,4,5,6,7,8,9,10,11,12,13,14,15,16,17,18,19,20,21,22,23,24,25,26,27],28),([0,1,2,3,4,5,6,7,8,9,10,11,12,13,14,15,16,17,18,19,20,21,22,23,24,25,26,27,28],29),([0,1,2,3,4,5,6,7,8,9,10,11,12,13,14,15,16,17,18,19,20,21,22,23,24,25,26],30),([0,1,2,3,4,5,6,7,8,9,10,11,12,13,14,15,16,17,18,19,20,21,22,23,24,25,26,27,28,29,30],31),([0,1,2,3,4,5,6,7,8,9,10,11,12,13,14,15,16,17,18,19,20,21,22,23,24,25,26,27,28,29,30,31],32)] 31 ?_ | refine qD _ ?_ ?_ | (refine nZ ?_; first | refine L_head ?_ | refine cg ?_) | (apply d_call []; exact rfl; (solve | (conv => lhs; try simp)); (solve | exact rfl | simp); (solve | (conv => lhs; try simp)); intro τ hτ; refine nZ ?_; first | exact L_head ⟨rfl, rfl⟩ | exact cg ⟨rfl, rfl⟩))
    exact h
  | false =>
    rw [hg] at cg
    obtain ⟨h80, hlE⟩ := great_no hg
    have hgE := gt_all (P := fun e => lenE e) hlE ⟨⟨by decide, by decide⟩, by decide⟩
    have hgI := gt_all (P := fun e => evIn e) hE ⟨by decide, by decide, by decide, by decide, by decide, by decide, by decide⟩
    repeat' (first | refine go ?_ | refine s_seq fun y9 hy9 => ?_ | refine qT _ ?_ ?_ | refine qG _ ?_ ?_ | refine qN ?_ ?_ | (refine QB.mk fun hb9 => ?_; (try simp only [hb9]); (try simp at hb9); first | (exfalso; omega) | subst hb9 | skip) | refine sD tOK tmix [([],1),([],2),([],3),([1,2],4),([1,2,3],5),([0,1,2,3,4],6),([0,1,2,3,4,5],7),([0,1,2,3,4,5,6],8),([0,1,2,3,4,5,6],9),([],0),([0,1,2,3,4,5,6,7,9],10),([0,1,2,3,4,5,6,7,8,9,10],11)] 11 ?_ | refine sD tOK tmix [([],0),([0],1),([0,1],2),([0,1,2],3),([0,1,2],4),([0,1,2,4],5),([0,1,2,4,5],6),([0,1,2,3,4,5,6],7),([0,1,2,3,4,5,6,7],8),([0,1,2,3,4,5,6,7,8],9),([0,1,2,3,4,5,6,7,8,9],10),([0,1,2,3,4,5,6,7,8,9,10],11),([0,1,2,3,4,5,6,7,8,9,10,11],12),([0,1,2,3,4,5,6,7,8,9,10,11,12],13),([0,1,2,3,4,5,6,7,8,9,10,11,12,13],14),([0,1,2,3,4,5,6,7,8,9,10,11,12,13,14],15),([0,1,2,3,4,5,6,7,8,9,10,11,12,13,14,15],16),([0,1,2,3,4,5,6,7,8,9,10,11,12,13,14,15,16],17),([0,1,2,3,4,5,6,7,8,9,10,11,12,13,14,15,16,17],18),([0,1,2,3,4,5,6,7,8,9,10,11,12,13,14,15,16,17,18],19),([0,1,2,3,4,5,6,7,8,9,10,11,12,13,14,15,16,17,18,19],20),([0,1,2,3,4,5,6,7,8,9,10,11,12,13,14,15,16,17,18,19,20],21),([0,1,2,3,4,5,6,7,8,9,10,11,12,13,14,15,16,17,18,19,20,21],22),([0,1,2,3,4,5,6,7,8,9,10,11,12,13,14,15,16,17,18,19,20,21,22],23),([0,1,2,3,4,5,6,7,8,9,10,11,12,13,14,15,16,17,18,19,20,21,22,23],24),([0,1,2,3,4,5,6,7,8,9,10,11,12,13,14,15,16,17,18,19,20,21,22,23,24],25),([0,1,2,3,4,5,6,7,8,9,10,11,12,13,14,15,16,17,18,19,20,21,22,23,24,25],26),([0,1,2,3,4,5,6,7,8,9,10,11,12,13,14,15,16,17,18,19,20,21,22,23,24,25,26],27),([0,1,2,3,4,5,6,7,8,9,10,11,12,13,14,15,16,17,18,19,20,21,22,23,24],28),([0,1,2,3,4,5,6,7,8,9,10,11,12,13,14,15,16,17,18,19,20,21,22,23,24,28],29),([0,1,2,3,4,5,6,7,8,9,10,11,12,13,14,15,16,17,18,19,20,21,22,23,24,28,29],30),([0,1,2,3,4,5,6,7,8,9,10,11,12,13,14,15,16,17,18,19,20,21,22,23,24,25,26,27,28,29,30],31),([0,1,2,3,4,5,6,7,8,9,10,11,12,13,14,15,16,17,18,19,20,21,22,23,24,25,26,27,28,29,30,31],32),([0,1,2,3,4,5,6,7,8,9,10,11,12,13,14,15,16,17,18,19,20,21,22,23,24,25,26,27,28,29,30,31,32],33),([0,1,2,3,4,5,6,7,8,9,10,11,12,13,14,15,16,17,18,19,20,21,22,23,24,25,26,27,28,29,30,31,32,33],34),([0,1,2,3,4,5,6,7,8,9,10,11,12,13,14,15,16,17,18,19,20,21,22,23,24,25,26,27,28,29,30,31,32,33,34],35),([0,1,2,3,4,5,6,7,8,9,10,11,12,13,14,15,16,17,18,19,20,21,22,23,24,25,26,27,28,29,30,31,32,33,34,35],36),([0,1,2,3,4,5,6,7,8,9,10,11,12,13,14,15,16,17,18,19,20,21,22,23,24,25,26,27,28,29,30,31,32,33,34,35,36],37),([0,1,2,3,4,5,6,7,8,9,10,11,12,13,14,15,16,17,18,19,20,21,22,23,24,25,26,27,28,29,30,31,32,33,34,35,36,37],38),([0,1,2,3,4,5,6,7,8,9,10,11,12,13,14,15,16,17,18,19,20,21,22,23,24,25,26,27,28,29,30,31,32,33,34,35,36,37,38],39),([0,1,2,3,4,5,6,7,8,9,10,11,12,13,14,15,16,17,18,19,20,21,22,23,24,25,26,27,28,29,30,31,32,33,34,35,36,37,38,39],40),([0,1,2,3,4,5,6,7,8,9,10,11,12,13,14,15,16,17,18,19,20,21,22,23,24,25,26,27,28,29,30,31,32,33,34,35,36,37,38,39,40],41),([0,1,2,3,4,5,6,7,8,9,10,11,12,13,14,15,16,17,18,19,20,21,22,23,24,25,26,27,28,29,30,31,32,33,34,35,36,37,38,39,40,41],42),([0,1,2,3,4,5,6,7,8,9,10,11,12,13,14,15,16,17,18,19,20,21,22,23,24,25,26,27,28,29,30,31,32,33,34,35,36,37,38,39,40,41,42],43),([0,1,2,3,4,5,6,7,8,9,10,11,12,13,14,15,16,17,18,19,20,21,22,23,24,25,26,27,28,29,30,31,32,33,34,35,36,37,38,39,40],44),([0,1,2,3,4,5,6,7,8,9,10,11,12,13,14,15,16,17,18,19,20,21,22,23,24,25,26,27,28,29,30,31,32,33,34,35,36,37,38,39,40,41,42,43,44],45),([0,1,2,3,4,5,6,7,8,9,10,11,12,13,14,15,16,17,18,19,20,21,22,23,24,25,26,27,28,29,30,31,32,33,34,35,36,37,38,39,40,41,42,43,44,45],46),([0,1,2,3,4,5,6,7,8,9,10,11,12,13,14,15,16,17,18,19,20,21,22,23,24,25,26,27,28,29,30,31,32,33,34,35,36,37,38,39,40,41,42,43,44,45,46],47),([0,1,2,3,4,5,6,7,8,9,10,11,12,13,14,15,16,17,18,19,20,21,22,23,24,25,26,27,28,29,30,31,32,33,34,35,36,37,38,39,40,41,42,43,44,45,46,47],48),([0,1,2,3,4,5,6,7,8,9,10,11,12,13,14,15,16,17,18,19,20,21,22,23,24,25,26,27,28,29,30,31,32,33,34,35,36,37,38,39,40,41,42,43,44,45,46,47,48],49),([0,1,2,3,4,5,6,7,8,9,10,11,12,13,14,15,16,17,18,19,20,21,22,23,24,25,26,27,28,29,30,31,32,33,34,35,36,37,38,39,40,41,42,43,44,45,46,47],50),([0,1,2,3,4,5,6,7,8,9,10,11,12,13,14,15,16,17,18,19,20,21,22,23,24,25,26,27,28,29,30,31,32,33,34,35,36,37,38,39,40,41,42,43,44,45,46,47,50],51),([0,1,2,3,4,5,6,7,8,9,10,11,12,13,14,15,16,17,18,19,20,21,22,23,24,25,26,27,28,29,30,31,32,33,34,35,36,37,38,39,40,41,42,43,44,45,46,47],52),([0,1,2,3,4,5,6,7,8,9,10,11,12,13,14,15,16,17,18,19,20,21,22,23,24,25,26,27,28,29,30,31,32,33,34,35,36,37,38,39,40,41,42,43,44,45,46,47,52],53),([0,1,2,3,4,5,6,7,8,9,10,11,12,13,14,15,16,17,18,19,20,21,22,23,24,25,26,27,28,29,30,31,32,33,34,35,36,37,38,39,40,41,42,43,44,45,46,47,50,51,52,53],54),([0,1,2,3,4,5,6,7,8,9,10,11,12,13,14,15,16,17,18,19,20,21,22,23,24,25,26,27,28,29,30,31,32,33,34,35,36,37,38,39,40,41,42,43,44,45,46,47,50,51,52,53,54],55),([0,1,2,3,4,5,6,7,8,9,10,11,12,13,14,15,16,17,18,19,20,21,22,23,24,25,26,27,28,29,30,31,32,33,34,35,36,37,38,39,40,41,42,43,44,45,46,47,50,51,52,53,54,55],56),([0,1,2,3,4,5,6,7,8,9,10,11,12,13,14,15,16,17,18,19,20,21,22,23,24,25,26,27,28,29,30,31,32,33,34,35,36,37,38,39,40,41,42,43,44,45,46,47,48,49,50,51,52,53,54,55,56],57),([0,1,2,3,4,5,6,7,8,9,10,11,12,13,14,15,16,17,18,19,20,21,22,23,24,25,26,27,28,29,30,31,32,33,34,35,36,37,38,39,40,41,42,43,44,45,46,47,48,49,50,51,52,53,54,55,56,57],58),([0,1,2,3,4,5,6,7,8,9,10,11,12,13,14,15,16,17,18,19,20,21,22,23,24,25,26,27,28,29,30,31,32,33,34,35,36,37,38,39,40,41,42,43,44,45,46,47,48,49,50,51,52,53,54,55,56,57,58],59),([0,1,2,3,4,5,6,7,8,9,10,11,12,13,14,15,16,17,18,19,20,21,22,23,24,25,26,27,28,29,30,31,32,33,34,35,36,37,38,39,40,41,42,43,44,45,46,47,48,49,50,51,52,53,54,55,56,57,58,59],60),([0,1,2,3,4,5,6,7,8,9,10,11,12,13,14,15,16,17,18,19,20,21,22,23,24,25,26,27,28,29,30,31,32,33,34,35,36,37,38,39,40,41,42,43,44,45,46,47,48,49,50,51,52,53,54,55,56,57,58,59,60],61),([0,1,2,3,4,5,6,7,8,9,10,11,12,13,14,15,16,17,18,19,20,21,22,23,24,25,26,27,28,29,30,31,32,33,34,35,36,37,38,39,40,41,42,43,44,45,46,47,48,49,50,51,52,53,54,55,56,57,58,59,60,61],62),([0,1,2,3,4,5,6,7,8,9,10,11,12,13,14,15,16,17,18,19,20,21,22,23,24,25,26,27,28,29,30,31,32,33,34,35,36,37,38,39,40,41,42,43,44,45,46,47,48,49,50,51,52,53,54,55,56,57,58,59,60,61,62],63),([0,1,2,3,4,5,6,7,8,9,10,11,12,13,14,15,16,17,18,19,20,21,22,23,24,25,26,27,28,29,30,31,32,33,34,35,36,37,38,39,40,41,42,43,44,45,46,47,48,49,50,51,52,53,54,55,56,57,58,59,60,61,62,63],64),([0,1,2,3,4,5,6,7,8,9,10,11,12,13,14,15,16,17,18,19,20,21,22,23,24,25,26,27,28,29,30,31,32,33,34,35,36,37,38,39,40,41,42,43,44,45,46,47,48,49,50,51,52,53,54,55,56,57,58,59,60,61,62,63,64],65),([0,1,2,3,4,5,6,7,8,9,10,11,12,13,14,15,16,17,18,19,20,21,22,23,24,25,26,27,28,29,30,31,32,33,34,35,36,37,38,39,40,41,42,43,44,45,46,47,48,49,50,51,52,53,54,55,56,57,58,59,60,61,62,63,64,65],66)] 57 ?_ | refine sD tOK tmix [([],0),([0],1),([],2),([2],3),([2,3],4),([0,1,2,3,4],5),([0,1,2,3,4,5],6),([0,1,2,3,4,5,6],7),([0,1,2,3,4,5,6,7],8),([0,1,2,3,4,5,6],9),([0,1,2,3,4,5,6,9],10),([0,1,2,3,4,5,6,9,10],11),([0,1,2,3,4,5,6,7,8,9,10,11],12),([0,1,2,3,4,5,6,7,8,9,10,11,12],13),([0,1,2,3,4,5,6,7,8,9,10,11,12,13],14),([0,1,2,3,4,5,6,7,8,9,10,11,12,13,14],15),([0,1,2,3,4,5,6,7,8,9,10,11,12,13,14,15],16),([0,1,2,3,4,5,6,7,8,9,10,11,12,13,14,15,16],17),([0,1,2,3,4,5,6,7,8,9,10,11,12,13,14],18),([0,1,2,3,4,5,6,7,8,9,10,11,12,13,14,18],19),([0,1,2,3,4,5,6,7,8,9,10,11,12,13,14,18,19],20),([0,1,2,3,4,5,6,7,8,9,10,11,12,13,14,15,16,17,18,19,20],21),([0,1,2,3,4,5,6,7,8,9,10,11,12,13,14,15,16,17,18,19,20,21],22),([0,1,2,3,4,5,6,7,8,9,10,11,12,13,14,15,16,17,18,19,20,21,22],23),([0,1,2,3,4,5,6,7,8,9,10,11,12,13,14,15,16,17,18,19,20,21,22,23],24),([0,1,2,3,4,5,6,7,8,9,10,11,12,13,14,15,16,17,18,19,20,21,22,23,24],25),([0,1,2,3,4,5,6,7,8,9,10,11,12,13,14,15,16,17,18,19,20,21,22,23,24,25],26),([0,1,2,3,4,5,6,7,8,9,10,11,12,13,14,15,16,17,18,19,20,21,22,23,24,25,26],27),([0,1,2,3,4,5,6,7,8,9,10,11,12,13,14,15,16,17,18,19,20,21,22,23,24,25,26,27],28)] 21 ?_ | refine sD tOK tmix [([],0),([0],1),([],2),([2],3),([2,3],4),([0,1,2,3,4],5),([0,1,2,3,4,5],6),([0,1,2,3,4,5,6],7),([0,1,2,3,4,5,6,7],8),([0,1,2,3,4,5,6],9),([0,1,2,3,4,5,6,9],10),([0,1,2,3,4,5,6,9,10],11),([0,1,2,3,4,5,6,7,8,9,10,11],12),([0,1,2,3,4,5,6],13),([0,1,2,3,4,5,6,7,8,13],14),([0,1,2,3,4,5,6,7,8,9,10,11,12,13,14],15),([0,1,2,3,4,5,6,7,8,9,10,11,12,13,14,15],16),([0,1,2,3,4,5,6,7,8,9,10,11,12,13,14,15,16],17),([0,1,2,3,4,5,6,7,8,9,10,11,12,13,14,15,16,17],18),([0,1,2,3,4,5,6,7,8,9,10,11,12,13,14,15,16,17,18],19),([0,1,2,3,4,5,6,7,8,9,10,11,12,13,14,15,16,17,18,19],20),([0,1,2,3,4,5,6,7,8,9,10,11,12,13,14,15,16,17],21),([0,1,2,3,4,5,6,7,8,9,10,11,12,13,14,15,16,17,21],22),([0,1,2,3,4,5,6,7,8,9,10,11,12,13,14,15,16,17,18,19,20,21,22],23),([0,1,2,3,4,5,6,7,8,9,10,11,12,13,14,15,16,17,18,19,20,21,22,23],24),([0,1,2,3,4,5,6,7,8,9,10,11,12,13,14,15,16,17,18,19,20,21,22,23,24],25),([0,1,2,3,4,5,6,7,8,9,10,11,12,13,14,15,16,17,18,19,20,21,22,23,24,25],26),([0,1,2,3,4,5,6,7,8,9,10,11,12,13,14,15,16,17,18,19,20,21,22,23,24,25,26],27),([0,1,2,3,4,5,6,7,8,9,10,11,12,13,14,15,16,17,18,19,20,21,22,23,24,25,26,27],28),([0,1,2,3,4,5,6,7,8,9,10,11,12,13,14,15,16,17,18,19,20,21,22,23,24,25,26,27,28],29),([0,1,2,3,4,5,6,7,8,9,10,11,12,13,14,15,16,17,18,19,20,21,22,23,24,25,26],30),([0,1,2,3,4,5,6,7,8,9,10,11,12,13,14,15,16,17,18,19,20,21,22,23,24,25,26,27,28,29,30],31),([0,1,2,3,4,5,6,7,8,9,10,11,12,13,14,15,16,17,18,19,20,21,22,23,24,25,26,27,28,29,30,31],32)] 31 ?_ | refine qD _ ?_ ?_ | (refine nZ ?_; first | refine L_head ?_ | refine cg ?_) | (apply d_call []; exact rfl; (solve | (conv => lhs; try simp)); (solve | exact rfl | simp); (solve | (conv => lhs; try simp)); intro τ hτ; refine nZ ?_; first | exact L_head ⟨rfl, rfl⟩ | exact cg ⟨rfl, rfl⟩))
    refine t_pick tOK [0] [0, 3, 4, 5] (by decide) (by rfl) (by rfl) (by conv => lhs; simp [Fr.keep]) (by conv => lhs; simp [pickS']) (by simp [Fr.keep]) (by simp [pickS']) ?_
    refine T_wk (fr' := [(0, .lit (l.map eEv)), (3, .bool true), (4, .ptr 0 0 0 []), (5, i64 (0 : Nat))]) (σ' := [some (.cells 45 0 [eLive (xsL l 0)])]) ?_ ?_ ?_
    · repeat' (first | with_reducible exact WkF.refl _ | with_reducible exact WkS.refl _ | with_reducible exact WkB.refl _ | with_reducible exact Wk.refl _ | with_reducible exact WkL.refl _ | exact Wk.nils | refine WkF.cons ?_ ?_ | refine WkS.cons ?_ ?_ | refine WkB.cells ?_ | refine WkL.cons ?_ ?_ | refine Wk.agg ?_ | exact Wk.refl _ | exact WkL.refl _)
    · repeat' (first | with_reducible exact WkF.refl _ | with_reducible exact WkS.refl _ | with_reducible exact WkB.refl _ | with_reducible exact Wk.refl _ | with_reducible exact WkL.refl _ | exact Wk.nils | refine WkF.cons ?_ ?_ | refine WkS.cons ?_ ?_ | refine WkB.cells ?_ | refine WkL.cons ?_ ?_ | refine Wk.agg ?_ | exact Wk.refl _ | exact WkL.refl _)
    refine s_loop fun c9 hc9 => ?_
    refine w_trim 1 [0, 3, 4, 5] (by conv => lhs; simp) (by conv => lhs; simp) (by first | rfl | simp) (by first | rfl | simp) ?_
    refine s_loopn (l.length) (fun j fr σ => fr = [(0, .lit (l.map eEv)), (3, .bool true), (4, .ptr 0 0 0 []), (5, i64 j)] ∧ σ = [some (.cells 45 0 [eLive (xsL l j)])]) ?_ ⟨by simp, by first | rfl | simp⟩
    rintro j fr σ hj ⟨rfl, rfl⟩ ih
    have x1 := xsL_ok l j
    refine s_round hc9 ?_
    clear hc9
    rcases Nat.lt_or_ge j l.length with hlt | hge
    · have e1 := hgE j
      have e2 := (hgI j).k1
      have e3 := (hgI j).k2
      have hs := xsL_succ hlt
      have x2 := x1.step (e := gt l j)
      have hsh := out_shape (xsL l j) (gt l j)
      have hpt := fun h1 h2 => tick_parts (xsL_prb l j) (e := gt l j) h1 h2
      have cst : ∀ {R : Re → Store → Prop} {σ : Store}, R (.ret (.tup [eLive (stepL (xsL l j) (gt l j)).1, .lit ((stepL (xsL l j) (gt l j)).2.map eEv)])) σ → C tE 12 [eLive (xsL l j), eEv (gt l j)] σ R := fun h => C_lstep x1 e1 e2 e3 h
      rw [hs] at ih
      generalize (stepL (xsL l j) (gt l j)).1 = Y at *
      generalize (stepL (xsL l j) (gt l j)).2 = O at *
      generalize hX : xsL l j = X at *
      clear cg hE hlE hgI hgE
      rcases hsh with rfl | ⟨ho, hk, _⟩
      · clear hpt
        repeat' (first | refine go ?_ | refine s_seq fun y9 hy9 => ?_ | refine qT _ ?_ ?_ | refine qG _ ?_ ?_ | refine qN ?_ ?_ | (refine QB.mk fun hb9 => ?_; (try simp only [hb9]); (try simp at hb9); first | (exfalso; omega) | subst hb9 | skip) | refine w_loop fun y9 hy9 => ?_ | (apply w_again; assumption) | refine sD tOK tmix [([],1),([],2),([],3),([1,2],4),([1,2,3],5),([0,1,2,3,4],6),([0,1,2,3,4,5],7),([0,1,2,3,4,5,6],8),([0,1,2,3,4,5,6],9),([],0),([0,1,2,3,4,5,6,7,9],10),([0,1,2,3,4,5,6,7,8,9,10],11)] 11 ?_ | refine sD tOK tmix [([],0),([0],1),([0,1],2),([0,1,2],3),([0,1,2],4),([0,1,2,4],5),([0,1,2,4,5],6),([0,1,2,3,4,5,6],7),([0,1,2,3,4,5,6,7],8),([0,1,2,3,4,5,6,7,8],9),([0,1,2,3,4,5,6,7,8,9],10),([0,1,2,3,4,5,6,7,8,9,10],11),([0,1,2,3,4,5,6,7,8,9,10,11],12),([0,1,2,3,4,5,6,7,8,9,10,11,12],13),([0,1,2,3,4,5,6,7,8,9,10,11,12,13],14),([0,1,2,3,4,5,6,7,8,9,10,11,12,13,14],15),([0,1,2,3,4,5,6,7,8,9,10,11,12,13,14,15],16),([0,1,2,3,4,5,6,7,8,9,10,11,12,13,14,15,16],17),([0,1,2,3,4,5,6,7,8,9,10,11,12,13,14,15,16,17],18),([0,1,2,3,4,5,6,7,8,9,10,11,12,13,14,15,16,17,18],19),([0,1,2,3,4,5,6,7,8,9,10,11,12,13,14,15,16,17,18,19],20),([0,1,2,3,4,5,6,7,8,9,10,11,12,13,14,15,16,17,18,19,20],21),([0,1,2,3,4,5,6,7,8,9,10,11,12,13,14,15,16,17,18,19,20,21],22),([0,1,2,3,4,5,6,7,8,9,10,11,12,13,14,15,16,17,18,19,20,21,22],23),([0,1,2,3,4,5,6,7,8,9,10,11,12,13,14,15,16,17,18,19,20,21,22,23],24),([0,1,2,3,4,5,6,7,8,9,10,11,12,13,14,15,16,17,18,19,20,21,22,23,24],25),([0,1,2,3,4,5,6,7,8,9,10,11,12,13,14,15,16,17,18,19,20,21,22,23,24,25],26),([0,1,2,3,4,5,6,7,8,9,10,11,12,13,14,15,16,17,18,19,20,21,22,23,24,25,26],27),([0,1,2,3,4,5,6,7,8,9,10,11,12,13,14,15,16,17,18,19,20,21,22,23,24],28),([0,1,2,3,4,5,6,7,8,9,10,11,12,13,14,15,16,17,18,19,20,21,22,23,24,28],29),([0,1,2,3,4,5,6,7,8,9,10,11,12,13,14,15,16,17,18,19,20,21,22,23,24,28,29],30),([0,1,2,3,4,5,6,7,8,9,10,11,12,13,14,15,16,17,18,19,20,21,22,23,24,25,26,27,28,29,30],31),([0,1,2,3,4,5,6,7,8,9,10,11,12,13,14,15,16,17,18,19,20,21,22,23,24,25,26,27,28,29,30,31],32),([0,1,2,3,4,5,6,7,8,9,10,11,12,13,14,15,16,17,18,19,20,21,22,23,24,25,26,27,28,29,30,31,32],33),([0,1,2,3,4,5,6,7,8,9,10,11,12,13,14,15,16,17,18,19,20,21,22,23,24,25,26,27,28,29,30,31,32,33],34),([0,1,2,3,4,5,6,7,8,9,10,11,12,13,14,15,16,17,18,19,20,21,22,23,24,25,26,27,28,29,30,31,32,33,34],35),([0,1,2,3,4,5,6,7,8,9,10,11,12,13,14,15,16,17,18,19,20,21,22,23,24,25,26,27,28,29,30,31,32,33,34,35],36),([0,1,2,3,4,5,6,7,8,9,10,11,12,13,14,15,16,17,18,19,20,21,22,23,24,25,26,27,28,29,30,31,32,33,34,35,36],37),([0,1,2,3,4,5,6,7,8,9,10,11,12,13,14,15,16,17,18,19,20,21,22,23,24,25,26,27,28,29,30,31,32,33,34,35,36,37],38),([0,1,2,3,4,5,6,7,8,9,10,11,12,13,14,15,16,17,18,19,20,21,22,23,24,25,26,27,28,29,30,31,32,33,34,35,36,37,38],39),([0,1,2,3,4,5,6,7,8,9,10,11,12,13,14,15,16,17,18,19,20,21,22,23,24,25,26,27,28,29,30,31,32,33,34,35,36,37,38,39],40),([0,1,2,3,4,5,6,7,8,9,10,11,12,13,14,15,16,17,18,19,20,21,22,23,24,25,26,27,28,29,30,31,32,33,34,35,36,37,38,39,40],41),([0,1,2,3,4,5,6,7,8,9,10,11,12,13,14,15,16,17,18,19,20,21,22,23,24,25,26,27,28,29,30,31,32,33,34,35,36,37,38,39,40,41],42),([0,1,2,3,4,5,6,7,8,9,10,11,12,13,14,15,16,17,18,19,20,21,22,23,24,25,26,27,28,29,30,31,32,33,34,35,36,37,38,39,40,41,42],43),([0,1,2,3,4,5,6,7,8,9,10,11,12,13,14,15,16,17,18,19,20,21,22,23,24,25,26,27,28,29,30,31,32,33,34,35,36,37,38,39,40],44),([0,1,2,3,4,5,6,7,8,9,10,11,12,13,14,15,16,17,18,19,20,21,22,23,24,25,26,27,28,29,30,31,32,33,34,35,36,37,38,39,40,41,42,43,44],45),([0,1,2,3,4,5,6,7,8,9,10,11,12,13,14,15,16,17,18,19,20,21,22,23,24,25,26,27,28,29,30,31,32,33,34,35,36,37,38,39,40,41,42,43,44,45],46),([0,1,2,3,4,5,6,7,8,9,10,11,12,13,14,15,16,17,18,19,20,21,22,23,24,25,26,27,28,29,30,31,32,33,34,35,36,37,38,39,40,41,42,43,44,45,46],47),([0,1,2,3,4,5,6,7,8,9,10,11,12,13,14,15,16,17,18,19,20,21,22,23,24,25,26,27,28,29,30,31,32,33,34,35,36,37,38,39,40,41,42,43,44,45,46,47],48),([0,1,2,3,4,5,6,7,8,9,10,11,12,13,14,15,16,17,18,19,20,21,22,23,24,25,26,27,28,29,30,31,32,33,34,35,36,37,38,39,40,41,42,43,44,45,46,47,48],49),([0,1,2,3,4,5,6,7,8,9,10,11,12,13,14,15,16,17,18,19,20,21,22,23,24,25,26,27,28,29,30,31,32,33,34,35,36,37,38,39,40,41,42,43,44,45,46,47],50),([0,1,2,3,4,5,6,7,8,9,10,11,12,13,14,15,16,17,18,19,20,21,22,23,24,25,26,27,28,29,30,31,32,33,34,35,36,37,38,39,40,41,42,43,44,45,46,47,50],51),([0,1,2,3,4,5,6,7,8,9,10,11,12,13,14,15,16,17,18,19,20,21,22,23,24,25,26,27,28,29,30,31,32,33,34,35,36,37,38,39,40,41,42,43,44,45,46,47],52),([0,1,2,3,4,5,6,7,8,9,10,11,12,13,14,15,16,17,18,19,20,21,22,23,24,25,26,27,28,29,30,31,32,33,34,35,36,37,38,39,40,41,42,43,44,45,46,47,52],53),([0,1,2,3,4,5,6,7,8,9,10,11,12,13,14,15,16,17,18,19,20,21,22,23,24,25,26,27,28,29,30,31,32,33,34,35,36,37,38,39,40,41,42,43,44,45,46,47,50,51,52,53],54),([0,1,2,3,4,5,6,7,8,9,10,11,12,13,14,15,16,17,18,19,20,21,22,23,24,25,26,27,28,29,30,31,32,33,34,35,36,37,38,39,40,41,42,43,44,45,46,47,50,51,52,53,54],55),([0,1,2,3,4,5,6,7,8,9,10,11,12,13,14,15,16,17,18,19,20,21,22,23,24,25,26,27,28,29,30,31,32,33,34,35,36,37,38,39,40,41,42,43,44,45,46,47,50,51,52,53,54,55],56),([0,1,2,3,4,5,6,7,8,9,10,11,12,13,14,15,16,17,18,19,20,21,22,23,24,25,26,27,28,29,30,31,32,33,34,35,36,37,38,39,40,41,42,43,44,45,46,47,48,49,50,51,52,53,54,55,56],57),([0,1,2,3,4,5,6,7,8,9,10,11,12,13,14,15,16,17,18,19,20,21,22,23,24,25,26,27,28,29,30,31,32,33,34,35,36,37,38,39,40,41,42,43,44,45,46,47,48,49,50,51,52,53,54,55,56,57],58),([0,1,2,3,4,5,6,7,8,9,10,11,12,13,14,15,16,17,18,19,20,21,22,23,24,25,26,27,28,29,30,31,32,33,34,35,36,37,38,39,40,41,42,43,44,45,46,47,48,49,50,51,52,53,54,55,56,57,58],59),([0,1,2,3,4,5,6,7,8,9,10,11,12,13,14,15,16,17,18,19,20,21,22,23,24,25,26,27,28,29,30,31,32,33,34,35,36,37,38,39,40,41,42,43,44,45,46,47,48,49,50,51,52,53,54,55,56,57,58,59],60),([0,1,2,3,4,5,6,7,8,9,10,11,12,13,14,15,16,17,18,19,20,21,22,23,24,25,26,27,28,29,30,31,32,33,34,35,36,37,38,39,40,41,42,43,44,45,46,47,48,49,50,51,52,53,54,55,56,57,58,59,60],61),([0,1,2,3,4,5,6,7,8,9,10,11,12,13,14,15,16,17,18,19,20,21,22,23,24,25,26,27,28,29,30,31,32,33,34,35,36,37,38,39,40,41,42,43,44,45,46,47,48,49,50,51,52,53,54,55,56,57,58,59,60,61],62),([0,1,2,3,4,5,6,7,8,9,10,11,12,13,14,15,16,17,18,19,20,21,22,23,24,25,26,27,28,29,30,31,32,33,34,35,36,37,38,39,40,41,42,43,44,45,46,47,48,49,50,51,52,53,54,55,56,57,58,59,60,61,62],63),([0,1,2,3,4,5,6,7,8,9,10,11,12,13,14,15,16,17,18,19,20,21,22,23,24,25,26,27,28,29,30,31,32,33,34,35,36,37,38,39,40,41,42,43,44,45,46,47,48,49,50,51,52,53,54,55,56,57,58,59,60,61,62,63],64),([0,1,2,3,4,5,6,7,8,9,10,11,12,13,14,15,16,17,18,19,20,21,22,23,24,25,26,27,28,29,30,31,32,33,34,35,36,37,38,39,40,41,42,43,44,45,46,47,48,49,50,51,52,53,54,55,56,57,58,59,60,61,62,63,64],65),([0,1,2,3,4,5,6,7,8,9,10,11,12,13,14,15,16,17,18,19,20,21,22,23,24,25,26,27,28,29,30,31,32,33,34,35,36,37,38,39,40,41,42,43,44,45,46,47,48,49,50,51,52,53,54,55,56,57,58,59,60,61,62,63,64,65],66)] 57 ?_ | refine sD tOK tmix [([],0),([0],1),([],2),([2],3),([2,3],4),([0,1,2,3,4],5),([0,1,2,3,4,5],6),([0,1,2,3,4,5,6],7),([0,1,2,3,4,5,6,7],8),([0,1,2,3,4,5,6],9),([0,1,2,3,4,5,6,9],10),([0,1,2,3,4,5,6,9,10],11),([0,1,2,3,4,5,6,7,8,9,10,11],12),([0,1,2,3,4,5,6,7,8,9,10,11,12],13),([0,1,2,3,4,5,6,7,8,9,10,11,12,13],14),([0,1,2,3,4,5,6,7,8,9,10,11,12,13,14],15),([0,1,2,3,4,5,6,7,8,9,10,11,12,13,14,15],16),([0,1,2,3,4,5,6,7,8,9,10,11,12,13,14,15,16],17),([0,1,2,3,4,5,6,7,8,9,10,11,12,13,14],18),([0,1,2,3,4,5,6,7,8,9,10,11,12,13,14,18],19),([0,1,2,3,4,5,6,7,8,9,10,11,12,13,14,18,19],20),([0,1,2,3,4,5,6,7,8,9,10,11,12,13,14,15,16,17,18,19,20],21),([0,1,2,3,4,5,6,7,8,9,10,11,12,13,14,15,16,17,18,19,20,21],22),([0,1,2,3,4,5,6,7,8,9,10,11,12,13,14,15,16,17,18,19,20,21,22],23),([0,1,2,3,4,5,6,7,8,9,10,11,12,13,14,15,16,17,18,19,20,21,22,23],24),([0,1,2,3,4,5,6,7,8,9,10,11,12,13,14,15,16,17,18,19,20,21,22,23,24],25),([0,1,2,3,4,5,6,7,8,9,10,11,12,13,14,15,16,17,18,19,20,21,22,23,24,25],26),([0,1,2,3,4,5,6,7,8,9,10,11,12,13,14,15,16,17,18,19,20,21,22,23,24,25,26],27),([0,1,2,3,4,5,6,7,8,9,10,11,12,13,14,15,16,17,18,19,20,21,22,23,24,25,26,27],28)] 21 ?_ | refine sD tOK tmix [([],0),([0],1),([],2),([2],3),([2,3],4),([0,1,2,3,4],5),([0,1,2,3,4,5],6),([0,1,2,3,4,5,6],7),([0,1,2,3,4,5,6,7],8),([0,1,2,3,4,5,6],9),([0,1,2,3,4,5,6,9],10),([0,1,2,3,4,5,6,9,10],11),([0,1,2,3,4,5,6,7,8,9,10,11],12),([0,1,2,3,4,5,6],13),([0,1,2,3,4,5,6,7,8,13],14),([0,1,2,3,4,5,6,7,8,9,10,11,12,13,14],15),([0,1,2,3,4,5,6,7,8,9,10,11,12,13,14,15],16),([0,1,2,3,4,5,6,7,8,9,10,11,12,13,14,15,16],17),([0,1,2,3,4,5,6,7,8,9,10,11,12,13,14,15,16,17],18),([0,1,2,3,4,5,6,7,8,9,10,11,12,13,14,15,16,17,18],19),([0,1,2,3,4,5,6,7,8,9,10,11,12,13,14,15,16,17,18,19],20),([0,1,2,3,4,5,6,7,8,9,10,11,12,13,14,15,16,17],21),([0,1,2,3,4,5,6,7,8,9,10,11,12,13,14,15,16,17,21],22),([0,1,2,3,4,5,6,7,8,9,10,11,12,13,14,15,16,17,18,19,20,21,22],23),([0,1,2,3,4,5,6,7,8,9,10,11,12,13,14,15,16,17,18,19,20,21,22,23],24),([0,1,2,3,4,5,6,7,8,9,10,11,12,13,14,15,16,17,18,19,20,21,22,23,24],25),([0,1,2,3,4,5,6,7,8,9,10,11,12,13,14,15,16,17,18,19,20,21,22,23,24,25],26),([0,1,2,3,4,5,6,7,8,9,10,11,12,13,14,15,16,17,18,19,20,21,22,23,24,25,26],27),([0,1,2,3,4,5,6,7,8,9,10,11,12,13,14,15,16,17,18,19,20,21,22,23,24,25,26,27],28),([0,1,2,3,4,5,6,7,8,9,10,11,12,13,14,15,16,17,18,19,20,21,22,23,24,25,26,27,28],29),([0,1,2,3,4,5,6,7,8,9,10,11,12,13,14,15,16,17,18,19,20,21,22,23,24,25,26],30),([0,1,2,3,4,5,6,7,8,9,10,11,12,13,14,15,16,17,18,19,20,21,22,23,24,25,26,27,28,29,30],31),([0,1,2,3,4,5,6,7,8,9,10,11,12,13,14,15,16,17,18,19,20,21,22,23,24,25,26,27,28,29,30,31],32)] 31 ?_ | refine qD _ ?_ ?_ | (refine nZ ?_; refine cst ?_) | (apply d_call []; exact rfl; (solve | (conv => lhs; try simp)); (solve | exact rfl | simp); (solve | (conv => lhs; try simp)); intro τ hτ; refine nZ ?_; first | exact cst ⟨rfl, rfl⟩))
        refine w_back 1 [0, 3, 4, 5] (by conv => lhs; simp) (by conv => lhs; simp) (by first | rfl | simp) (by first | rfl | simp) ?_
        exact ih hlt _ _ ⟨by simp, rfl⟩
      · have hpt := hpt ho hk
        rcases hpt with ⟨rfl, hbr, _⟩ | ⟨hcf, hset, _, n, ⟨hbr, rfl⟩ | ⟨hbr, hn, hyp, rfl⟩ | ⟨id, hbr, hon, hP, hB, rfl⟩ | ⟨id, hbr, hon, hn, hP, rfl⟩⟩
        · repeat' (first | refine go ?_ | refine s_seq fun y9 hy9 => ?_ | refine qT _ ?_ ?_ | refine qG _ ?_ ?_ | refine qN ?_ ?_ | (refine QB.mk fun hb9 => ?_; (try simp only [hb9]); (try simp at hb9); first | (exfalso; omega) | subst hb9 | skip) | refine w_loop fun y9 hy9 => ?_ | (apply w_again; assumption) | refine sD tOK tmix [([],1),([],2),([],3),([1,2],4),([1,2,3],5),([0,1,2,3,4],6),([0,1,2,3,4,5],7),([0,1,2,3,4,5,6],8),([0,1,2,3,4,5,6],9),([],0),([0,1,2,3,4,5,6,7,9],10),([0,1,2,3,4,5,6,7,8,9,10],11)] 11 ?_ | refine sD tOK tmix [([],0),([0],1),([0,1],2),([0,1,2],3),([0,1,2],4),([0,1,2,4],5),([0,1,2,4,5],6),([0,1,2,3,4,5,6],7),([0,1,2,3,4,5,6,7],8),([0,1,2,3,4,5,6,7,8],9),([0,1,2,3,4,5,6,7,8,9],10),([0,1,2,3,4,5,6,7,8,9,10],11),([0,1,2,3,4,5,6,7,8,9,10,11],12),([0,1,2,3,4,5,6,7,8,9,10,11,12],13),([0,1,2,3,4,5,6,7,8,9,10,11,12,13],14),([0,1,2,3,4,5,6,7,8,9,10,11,12,13,14],15),([0,1,2,3,4,5,6,7,8,9,10,11,12,13,14,15],16),([0,1,2,3,4,5,6,7,8,9,10,11,12,13,14,15,16],17),([0,1,2,3,4,5,6,7,8,9,10,11,12,13,14,15,16,17],18),([0,1,2,3,4,5,6,7,8,9,10,11,12,13,14,15,16,17,18],19),([0,1,2,3,4,5,6,7,8,9,10,11,12,13,14,15,16,17,18,19],20),([0,1,2,3,4,5,6,7,8,9,10,11,12,13,14,15,16,17,18,19,20],21),([0,1,2,3,4,5,6,7,8,9,10,11,12,13,14,15,16,17,18,19,20,21],22),([0,1,2,3,4,5,6,7,8,9,10,11,12,13,14,15,16,17,18,19,20,21,22],23),([0,1,2,3,4,5,6,7,8,9,10,11,12,13,14,15,16,17,18,19,20,21,22,23],24),([0,1,2,3,4,5,6,7,8,9,10,11,12,13,14,15,16,17,18,19,20,21,22,23,24],25),([0,1,2,3,4,5,6,7,8,9,10,11,12,13,14,15,16,17,18,19,20,21,22,23,24,25],26),([0,1,2,3,4,5,6,7,8,9,10,11,12,13,14,15,16,17,18,19,20,21,22,23,24,25,26],27),([0,1,2,3,4,5,6,7,8,9,10,11,12,13,14,15,16,17,18,19,20,21,22,23,24],28),([0,1,2,3,4,5,6,7,8,9,10,11,12,13,14,15,16,17,18,19,20,21,22,23,24,28],29),([0,1,2,3,4,5,6,7,8,9,10,11,12,13,14,15,16,17,18,19,20,21,22,23,24,28,29],30),([0,1,2,3,4,5,6,7,8,9,10,11,12,13,14,15,16,17,18,19,20,21,22,23,24,25,26,27,28,29,30],31),([0,1,2,3,4,5,6,7,8,9,10,11,12,13,14,15,16,17,18,19,20,21,22,23,24,25,26,27,28,29,30,31],32),([0,1,2,3,4,5,6,7,8,9,10,11,12,13,14,15,16,17,18,19,20,21,22,23,24,25,26,27,28,29,30,31,32],33),([0,1,2,3,4,5,6,7,8,9,10,11,12,13,14,15,16,17,18,19,20,21,22,23,24,25,26,27,28,29,30,31,32,33],34),([0,1,2,3,4,5,6,7,8,9,10,11,12,13,14,15,16,17,18,19,20,21,22,23,24,25,26,27,28,29,30,31,32,33,34],35),([0,1,2,3,4,5,6,7,8,9,10,11,12,13,14,15,16,17,18,19,20,21,22,23,24,25,26,27,28,29,30,31,32,33,34,35],36),([0,1,2,3,4,5,6,7,8,9,10,11,12,13,14,15,16,17,18,19,20,21,22,23,24,25,26,27,28,29,30,31,32,33,34,35,36],37),([0,1,2,3,4,5,6,7,8,9,10,11,12,13,14,15,16,17,18,19,20,21,22,23,24,25,26,27,28,29,30,31,32,33,34,35,36,37],38),([0,1,2,3,4,5,6,7,8,9,10,11,12,13,14,15,16,17,18,19,20,21,22,23,24,25,26,27,28,29,30,31,32,33,34,35,36,37,38],39),([0,1,2,3,4,5,6,7,8,9,10,11,12,13,14,15,16,17,18,19,20,21,22,23,24,25,26,27,28,29,30,31,32,33,34,35,36,37,38,39],40),([0,1,2,3,4,5,6,7,8,9,10,11,12,13,14,15,16,17,18,19,20,21,22,23,24,25,26,27,28,29,30,31,32,33,34,35,36,37,38,39,40],41),([0,1,2,3,4,5,6,7,8,9,10,11,12,13,14,15,16,17,18,19,20,21,22,23,24,25,26,27,28,29,30,31,32,33,34,35,36,37,38,39,40,41],42),([0,1,2,3,4,5,6,7,8,9,10,11,12,13,14,15,16,17,18,19,20,21,22,23,24,25,26,27,28,29,30,31,32,33,34,35,36,37,38,39,40,41,42],43),([0,1,2,3,4,5,6,7,8,9,10,11,12,13,14,15,16,17,18,19,20,21,22,23,24,25,26,27,28,29,30,31,32,33,34,35,36,37,38,39,40],44),([0,1,2,3,4,5,6,7,8,9,10,11,12,13,14,15,16,17,18,19,20,21,22,23,24,25,26,27,28,29,30,31,32,33,34,35,36,37,38,39,40,41,42,43,44],45),([0,1,2,3,4,5,6,7,8,9,10,11,12,13,14,15,16,17,18,19,20,21,22,23,24,25,26,27,28,29,30,31,32,33,34,35,36,37,38,39,40,41,42,43,44,45],46),([0,1,2,3,4,5,6,7,8,9,10,11,12,13,14,15,16,17,18,19,20,21,22,23,24,25,26,27,28,29,30,31,32,33,34,35,36,37,38,39,40,41,42,43,44,45,46],47),([0,1,2,3,4,5,6,7,8,9,10,11,12,13,14,15,16,17,18,19,20,21,22,23,24,25,26,27,28,29,30,31,32,33,34,35,36,37,38,39,40,41,42,43,44,45,46,47],48),([0,1,2,3,4,5,6,7,8,9,10,11,12,13,14,15,16,17,18,19,20,21,22,23,24,25,26,27,28,29,30,31,32,33,34,35,36,37,38,39,40,41,42,43,44,45,46,47,48],49),([0,1,2,3,4,5,6,7,8,9,10,11,12,13,14,15,16,17,18,19,20,21,22,23,24,25,26,27,28,29,30,31,32,33,34,35,36,37,38,39,40,41,42,43,44,45,46,47],50),([0,1,2,3,4,5,6,7,8,9,10,11,12,13,14,15,16,17,18,19,20,21,22,23,24,25,26,27,28,29,30,31,32,33,34,35,36,37,38,39,40,41,42,43,44,45,46,47,50],51),([0,1,2,3,4,5,6,7,8,9,10,11,12,13,14,15,16,17,18,19,20,21,22,23,24,25,26,27,28,29,30,31,32,33,34,35,36,37,38,39,40,41,42,43,44,45,46,47],52),([0,1,2,3,4,5,6,7,8,9,10,11,12,13,14,15,16,17,18,19,20,21,22,23,24,25,26,27,28,29,30,31,32,33,34,35,36,37,38,39,40,41,42,43,44,45,46,47,52],53),([0,1,2,3,4,5,6,7,8,9,10,11,12,13,14,15,16,17,18,19,20,21,22,23,24,25,26,27,28,29,30,31,32,33,34,35,36,37,38,39,40,41,42,43,44,45,46,47,50,51,52,53],54),([0,1,2,3,4,5,6,7,8,9,10,11,12,13,14,15,16,17,18,19,20,21,22,23,24,25,26,27,28,29,30,31,32,33,34,35,36,37,38,39,40,41,42,43,44,45,46,47,50,51,52,53,54],55),([0,1,2,3,4,5,6,7,8,9,10,11,12,13,14,15,16,17,18,19,20,21,22,23,24,25,26,27,28,29,30,31,32,33,34,35,36,37,38,39,40,41,42,43,44,45,46,47,50,51,52,53,54,55],56),([0,1,2,3,4,5,6,7,8,9,10,11,12,13,14,15,16,17,18,19,20,21,22,23,24,25,26,27,28,29,30,31,32,33,34,35,36,37,38,39,40,41,42,43,44,45,46,47,48,49,50,51,52,53,54,55,56],57),([0,1,2,3,4,5,6,7,8,9,10,11,12,13,14,15,16,17,18,19,20,21,22,23,24,25,26,27,28,29,30,31,32,33,34,35,36,37,38,39,40,41,42,43,44,45,46,47,48,49,50,51,52,53,54,55,56,57],58),([0,1,2,3,4,5,6,7,8,9,10,11,12,13,14,15,16,17,18,19,20,21,22,23,24,25,26,27,28,29,30,31,32,33,34,35,36,37,38,39,40,41,42,43,44,45,46,47,48,49,50,51,52,53,54,55,56,57,58],59),([0,1,2,3,4,5,6,7,8,9,10,11,12,13,14,15,16,17,18,19,20,21,22,23,24,25,26,27,28,29,30,31,32,33,34,35,36,37,38,39,40,41,42,43,44,45,46,47,48,49,50,51,52,53,54,55,56,57,58,59],60),([0,1,2,3,4,5,6,7,8,9,10,11,12,13,14,15,16,17,18,19,20,21,22,23,24,25,26,27,28,29,30,31,32,33,34,35,36,37,38,39,40,41,42,43,44,45,46,47,48,49,50,51,52,53,54,55,56,57,58,59,60],61),([0,1,2,3,4,5,6,7,8,9,10,11,12,13,14,15,16,17,18,19,20,21,22,23,24,25,26,27,28,29,30,31,32,33,34,35,36,37,38,39,40,41,42,43,44,45,46,47,48,49,50,51,52,53,54,55,56,57,58,59,60,61],62),([0,1,2,3,4,5,6,7,8,9,10,11,12,13,14,15,16,17,18,19,20,21,22,23,24,25,26,27,28,29,30,31,32,33,34,35,36,37,38,39,40,41,42,43,44,45,46,47,48,49,50,51,52,53,54,55,56,57,58,59,60,61,62],63),([0,1,2,3,4,5,6,7,8,9,10,11,12,13,14,15,16,17,18,19,20,21,22,23,24,25,26,27,28,29,30,31,32,33,34,35,36,37,38,39,40,41,42,43,44,45,46,47,48,49,50,51,52,53,54,55,56,57,58,59,60,61,62,63],64),([0,1,2,3,4,5,6,7,8,9,10,11,12,13,14,15,16,17,18,19,20,21,22,23,24,25,26,27,28,29,30,31,32,33,34,35,36,37,38,39,40,41,42,43,44,45,46,47,48,49,50,51,52,53,54,55,56,57,58,59,60,61,62,63,64],65),([0,1,2,3,4,5,6,7,8,9,10,11,12,13,14,15,16,17,18,19,20,21,22,23,24,25,26,27,28,29,30,31,32,33,34,35,36,37,38,39,40,41,42,43,44,45,46,47,48,49,50,51,52,53,54,55,56,57,58,59,60,61,62,63,64,65],66)] 57 ?_ | refine sD tOK tmix [([],0),([0],1),([],2),([2],3),([2,3],4),([0,1,2,3,4],5),([0,1,2,3,4,5],6),([0,1,2,3,4,5,6],7),([0,1,2,3,4,5,6,7],8),([0,1,2,3,4,5,6],9),([0,1,2,3,4,5,6,9],10),([0,1,2,3,4,5,6,9,10],11),([0,1,2,3,4,5,6,7,8,9,10,11],12),([0,1,2,3,4,5,6,7,8,9,10,11,12],13),([0,1,2,3,4,5,6,7,8,9,10,11,12,13],14),([0,1,2,3,4,5,6,7,8,9,10,11,12,13,14],15),([0,1,2,3,4,5,6,7,8,9,10,11,12,13,14,15],16),([0,1,2,3,4,5,6,7,8,9,10,11,12,13,14,15,16],17),([0,1,2,3,4,5,6,7,8,9,10,11,12,13,14],18),([0,1,2,3,4,5,6,7,8,9,10,11,12,13,14,18],19),([0,1,2,3,4,5,6,7,8,9,10,11,12,13,14,18,19],20),([0,1,2,3,4,5,6,7,8,9,10,11,12,13,14,15,16,17,18,19,20],21),([0,1,2,3,4,5,6,7,8,9,10,11,12,13,14,15,16,17,18,19,20,21],22),([0,1,2,3,4,5,6,7,8,9,10,11,12,13,14,15,16,17,18,19,20,21,22],23),([0,1,2,3,4,5,6,7,8,9,10,11,12,13,14,15,16,17,18,19,20,21,22,23],24),([0,1,2,3,4,5,6,7,8,9,10,11,12,13,14,15,16,17,18,19,20,21,22,23,24],25),([0,1,2,3,4,5,6,7,8,9,10,11,12,13,14,15,16,17,18,19,20,21,22,23,24,25],26),([0,1,2,3,4,5,6,7,8,9,10,11,12,13,14,15,16,17,18,19,20,21,22,23,24,25,26],27),([0,1,2,3,4,5,6,7,8,9,10,11,12,13,14,15,16,17,18,19,20,21,22,23,24,25,26,27],28)] 21 ?_ | refine sD tOK tmix [([],0),([0],1),([],2),([2],3),([2,3],4),([0,1,2,3,4],5),([0,1,2,3,4,5],6),([0,1,2,3,4,5,6],7),([0,1,2,3,4,5,6,7],8),([0,1,2,3,4,5,6],9),([0,1,2,3,4,5,6,9],10),([0,1,2,3,4,5,6,9,10],11),([0,1,2,3,4,5,6,7,8,9,10,11],12),([0,1,2,3,4,5,6],13),([0,1,2,3,4,5,6,7,8,13],14),([0,1,2,3,4,5,6,7,8,9,10,11,12,13,14],15),([0,1,2,3,4,5,6,7,8,9,10,11,12,13,14,15],16),([0,1,2,3,4,5,6,7,8,9,10,11,12,13,14,15,16],17),([0,1,2,3,4,5,6,7,8,9,10,11,12,13,14,15,16,17],18),([0,1,2,3,4,5,6,7,8,9,10,11,12,13,14,15,16,17,18],19),([0,1,2,3,4,5,6,7,8,9,10,11,12,13,14,15,16,17,18,19],20),([0,1,2,3,4,5,6,7,8,9,10,11,12,13,14,15,16,17],21),([0,1,2,3,4,5,6,7,8,9,10,11,12,13,14,15,16,17,21],22),([0,1,2,3,4,5,6,7,8,9,10,11,12,13,14,15,16,17,18,19,20,21,22],23),([0,1,2,3,4,5,6,7,8,9,10,11,12,13,14,15,16,17,18,19,20,21,22,23],24),([0,1,2,3,4,5,6,7,8,9,10,11,12,13,14,15,16,17,18,19,20,21,22,23,24],25),([0,1,2,3,4,5,6,7,8,9,10,11,12,13,14,15,16,17,18,19,20,21,22,23,24,25],26),([0,1,2,3,4,5,6,7,8,9,10,11,12,13,14,15,16,17,18,19,20,21,22,23,24,25,26],27),([0,1,2,3,4,5,6,7,8,9,10,11,12,13,14,15,16,17,18,19,20,21,22,23,24,25,26,27],28),([0,1,2,3,4,5,6,7,8,9,10,11,12,13,14,15,16,17,18,19,20,21,22,23,24,25,26,27,28],29),([0,1,2,3,4,5,6,7,8,9,10,11,12,13,14,15,16,17,18,19,20,21,22,23,24,25,26],30),([0,1,2,3,4,5,6,7,8,9,10,11,12,13,14,15,16,17,18,19,20,21,22,23,24,25,26,27,28,29,30],31),([0,1,2,3,4,5,6,7,8,9,10,11,12,13,14,15,16,17,18,19,20,21,22,23,24,25,26,27,28,29,30,31],32)] 31 ?_ | refine qD _ ?_ ?_ | (refine nZ ?_; refine cst ?_) | (apply d_call []; exact rfl; (solve | (conv => lhs; try simp)); (solve | exact rfl | simp); (solve | (conv => lhs; try simp)); intro τ hτ; refine nZ ?_; first | exact cst ⟨rfl, rfl⟩))
          refine w_back 1 [0, 3, 4, 5] (by conv => lhs; simp) (by conv => lhs; simp) (by first | rfl | simp) (by first | rfl | simp) ?_
          exact ih hlt _ _ ⟨by simp, rfl⟩
        · simp only [List.map_cons, List.map_nil] at cst
          repeat' (first | refine go ?_ | refine s_seq fun y9 hy9 => ?_ | refine qT _ ?_ ?_ | refine qG _ ?_ ?_ | refine qN ?_ ?_ | (refine QB.mk fun hb9 => ?_; (try simp only [hb9]); (try simp at hb9); first | (exfalso; omega) | subst hb9 | skip) | refine w_loop fun y9 hy9 => ?_ | (apply w_again; assumption) | refine sD tOK tmix [([],1),([],2),([],3),([1,2],4),([1,2,3],5),([0,1,2,3,4],6),([0,1,2,3,4,5],7),([0,1,2,3,4,5,6],8),([0,1,2,3,4,5,6],9),([],0),([0,1,2,3,4,5,6,7,9],10),([0,1,2,3,4,5,6,7,8,9,10],11)] 11 ?_ | refine sD tOK tmix [([],0),([0],1),([0,1],2),([0,1,2],3),([0,1,2],4),([0,1,2,4],5),([0,1,2,4,5],6),([0,1,2,3,4,5,6],7),([0,1,2,3,4,5,6,7],8),([0,1,2,3,4,5,6,7,8],9),([0,1,2,3,4,5,6,7,8,9],10),([0,1,2,3,4,5,6,7,8,9,10],11),([0,1,2,3,4,5,6,7,8,9,10,11],12),([0,1,2,3,4,5,6,7,8,9,10,11,12],13),([0,1,2,3,4,5,6,7,8,9,10,11,12,13],14),([0,1,2,3,4,5,6,7,8,9,10,11,12,13,14],15),([0,1,2,3,4,5,6,7,8,9,10,11,12,13,14,15],16),([0,1,2,3,4,5,6,7,8,9,10,11,12,13,14,15,16],17),([0,1,2,3,4,5,6,7,8,9,10,11,12,13,14,15,16,17],18),([0,1,2,3,4,5,6,7,8,9,10,11,12,13,14,15,16,17,18],19),([0,1,2,3,4,5,6,7,8,9,10,11,12,13,14,15,16,17,18,19],20),([0,1,2,3,4,5,6,7,8,9,10,11,12,13,14,15,16,17,18,19,20],21),([0,1,2,3,4,5,6,7,8,9,10,11,12,13,14,15,16,17,18,19,20,21],22),([0,1,2,3,4,5,6,7,8,9,10,11,12,13,14,15,16,17,18,19,20,21,22],23),([0,1,2,3,4,5,6,7,8,9,10,11,12,13,14,15,16,17,18,19,20,21,22,23],24),([0,1,2,3,4,5,6,7,8,9,10,11,12,13,14,15,16,17,18,19,20,21,22,23,24],25),([0,1,2,3,4,5,6,7,8,9,10,11,12,13,14,15,16,17,18,19,20,21,22,23,24,25],26),([0,1,2,3,4,5,6,7,8,9,10,11,12,13,14,15,16,17,18,19,20,21,22,23,24,25,26],27),([0,1,2,3,4,5,6,7,8,9,10,11,12,13,14,15,16,17,18,19,20,21,22,23,24],28),([0,1,2,3,4,5,6,7,8,9,10,11,12,13,14,15,16,17,18,19,20,21,22,23,24,28],29),([0,1,2,3,4,5,6,7,8,9,10,11,12,13,14,15,16,17,18,19,20,21,22,23,24,28,29],30),([0,1,2,3,4,5,6,7,8,9,10,11,12,13,14,15,16,17,18,19,20,21,22,23,24,25,26,27,28,29,30],31),([0,1,2,3,4,5,6,7,8,9,10,11,12,13,14,15,16,17,18,19,20,21,22,23,24,25,26,27,28,29,30,31],32),([0,1,2,3,4,5,6,7,8,9,10,11,12,13,14,15,16,17,18,19,20,21,22,23,24,25,26,27,28,29,30,31,32],33),([0,1,2,3,4,5,6,7,8,9,10,11,12,13,14,15,16,17,18,19,20,21,22,23,24,25,26,27,28,29,30,31,32,33],34),([0,1,2,3,4,5,6,7,8,9,10,11,12,13,14,15,16,17,18,19,20,21,22,23,24,25,26,27,28,29,30,31,32,33,34],35),([0,1,2,3,4,5,6,7,8,9,10,11,12,13,14,15,16,17,18,19,20,21,22,23,24,25,26,27,28,29,30,31,32,33,34,35],36),([0,1,2,3,4,5,6,7,8,9,10,11,12,13,14,15,16,17,18,19,20,21,22,23,24,25,26,27,28,29,30,31,32,33,34,35,36],37),([0,1,2,3,4,5,6,7,8,9,10,11,12,13,14,15,16,17,18,19,20,21,22,23,24,25,26,27,28,29,30,31,32,33,34,35,36,37],38),([0,1,2,3,4,5,6,7,8,9,10,11,12,13,14,15,16,17,18,19,20,21,22,23,24,25,26,27,28,29,30,31,32,33,34,35,36,37,38],39),([0,1,2,3,4,5,6,7,8,9,10,11,12,13,14,15,16,17,18,19,20,21,22,23,24,25,26,27,28,29,30,31,32,33,34,35,36,37,38,39],40),([0,1,2,3,4,5,6,7,8,9,10,11,12,13,14,15,16,17,18,19,20,21,22,23,24,25,26,27,28,29,30,31,32,33,34,35,36,37,38,39,40],41),([0,1,2,3,4,5,6,7,8,9,10,11,12,13,14,15,16,17,18,19,20,21,22,23,24,25,26,27,28,29,30,31,32,33,34,35,36,37,38,39,40,41],42),([0,1,2,3,4,5,6,7,8,9,10,11,12,13,14,15,16,17,18,19,20,21,22,23,24,25,26,27,28,29,30,31,32,33,34,35,36,37,38,39,40,41,42],43),([0,1,2,3,4,5,6,7,8,9,10,11,12,13,14,15,16,17,18,19,20,21,22,23,24,25,26,27,28,29,30,31,32,33,34,35,36,37,38,39,40],44),([0,1,2,3,4,5,6,7,8,9,10,11,12,13,14,15,16,17,18,19,20,21,22,23,24,25,26,27,28,29,30,31,32,33,34,35,36,37,38,39,40,41,42,43,44],45),([0,1,2,3,4,5,6,7,8,9,10,11,12,13,14,15,16,17,18,19,20,21,22,23,24,25,26,27,28,29,30,31,32,33,34,35,36,37,38,39,40,41,42,43,44,45],46),([0,1,2,3,4,5,6,7,8,9,10,11,12,13,14,15,16,17,18,19,20,21,22,23,24,25,26,27,28,29,30,31,32,33,34,35,36,37,38,39,40,41,42,43,44,45,46],47),([0,1,2,3,4,5,6,7,8,9,10,11,12,13,14,15,16,17,18,19,20,21,22,23,24,25,26,27,28,29,30,31,32,33,34,35,36,37,38,39,40,41,42,43,44,45,46,47],48),([0,1,2,3,4,5,6,7,8,9,10,11,12,13,14,15,16,17,18,19,20,21,22,23,24,25,26,27,28,29,30,31,32,33,34,35,36,37,38,39,40,41,42,43,44,45,46,47,48],49),([0,1,2,3,4,5,6,7,8,9,10,11,12,13,14,15,16,17,18,19,20,21,22,23,24,25,26,27,28,29,30,31,32,33,34,35,36,37,38,39,40,41,42,43,44,45,46,47],50),([0,1,2,3,4,5,6,7,8,9,10,11,12,13,14,15,16,17,18,19,20,21,22,23,24,25,26,27,28,29,30,31,32,33,34,35,36,37,38,39,40,41,42,43,44,45,46,47,50],51),([0,1,2,3,4,5,6,7,8,9,10,11,12,13,14,15,16,17,18,19,20,21,22,23,24,25,26,27,28,29,30,31,32,33,34,35,36,37,38,39,40,41,42,43,44,45,46,47],52),([0,1,2,3,4,5,6,7,8,9,10,11,12,13,14,15,16,17,18,19,20,21,22,23,24,25,26,27,28,29,30,31,32,33,34,35,36,37,38,39,40,41,42,43,44,45,46,47,52],53),([0,1,2,3,4,5,6,7,8,9,10,11,12,13,14,15,16,17,18,19,20,21,22,23,24,25,26,27,28,29,30,31,32,33,34,35,36,37,38,39,40,41,42,43,44,45,46,47,50,51,52,53],54),([0,1,2,3,4,5,6,7,8,9,10,11,12,13,14,15,16,17,18,19,20,21,22,23,24,25,26,27,28,29,30,31,32,33,34,35,36,37,38,39,40,41,42,43,44,45,46,47,50,51,52,53,54],55),([0,1,2,3,4,5,6,7,8,9,10,11,12,13,14,15,16,17,18,19,20,21,22,23,24,25,26,27,28,29,30,31,32,33,34,35,36,37,38,39,40,41,42,43,44,45,46,47,50,51,52,53,54,55],56),([0,1,2,3,4,5,6,7,8,9,10,11,12,13,14,15,16,17,18,19,20,21,22,23,24,25,26,27,28,29,30,31,32,33,34,35,36,37,38,39,40,41,42,43,44,45,46,47,48,49,50,51,52,53,54,55,56],57),([0,1,2,3,4,5,6,7,8,9,10,11,12,13,14,15,16,17,18,19,20,21,22,23,24,25,26,27,28,29,30,31,32,33,34,35,36,37,38,39,40,41,42,43,44,45,46,47,48,49,50,51,52,53,54,55,56,57],58),([0,1,2,3,4,5,6,7,8,9,10,11,12,13,14,15,16,17,18,19,20,21,22,23,24,25,26,27,28,29,30,31,32,33,34,35,36,37,38,39,40,41,42,43,44,45,46,47,48,49,50,51,52,53,54,55,56,57,58],59),([0,1,2,3,4,5,6,7,8,9,10,11,12,13,14,15,16,17,18,19,20,21,22,23,24,25,26,27,28,29,30,31,32,33,34,35,36,37,38,39,40,41,42,43,44,45,46,47,48,49,50,51,52,53,54,55,56,57,58,59],60),([0,1,2,3,4,5,6,7,8,9,10,11,12,13,14,15,16,17,18,19,20,21,22,23,24,25,26,27,28,29,30,31,32,33,34,35,36,37,38,39,40,41,42,43,44,45,46,47,48,49,50,51,52,53,54,55,56,57,58,59,60],61),([0,1,2,3,4,5,6,7,8,9,10,11,12,13,14,15,16,17,18,19,20,21,22,23,24,25,26,27,28,29,30,31,32,33,34,35,36,37,38,39,40,41,42,43,44,45,46,47,48,49,50,51,52,53,54,55,56,57,58,59,60,61],62),([0,1,2,3,4,5,6,7,8,9,10,11,12,13,14,15,16,17,18,19,20,21,22,23,24,25,26,27,28,29,30,31,32,33,34,35,36,37,38,39,40,41,42,43,44,45,46,47,48,49,50,51,52,53,54,55,56,57,58,59,60,61,62],63),([0,1,2,3,4,5,6,7,8,9,10,11,12,13,14,15,16,17,18,19,20,21,22,23,24,25,26,27,28,29,30,31,32,33,34,35,36,37,38,39,40,41,42,43,44,45,46,47,48,49,50,51,52,53,54,55,56,57,58,59,60,61,62,63],64),([0,1,2,3,4,5,6,7,8,9,10,11,12,13,14,15,16,17,18,19,20,21,22,23,24,25,26,27,28,29,30,31,32,33,34,35,36,37,38,39,40,41,42,43,44,45,46,47,48,49,50,51,52,53,54,55,56,57,58,59,60,61,62,63,64],65),([0,1,2,3,4,5,6,7,8,9,10,11,12,13,14,15,16,17,18,19,20,21,22,23,24,25,26,27,28,29,30,31,32,33,34,35,36,37,38,39,40,41,42,43,44,45,46,47,48,49,50,51,52,53,54,55,56,57,58,59,60,61,62,63,64,65],66)] 57 ?_ | refine sD tOK tmix [([],0),([0],1),([],2),([2],3),([2,3],4),([0,1,2,3,4],5),([0,1,2,3,4,5],6),([0,1,2,3,4,5,6],7),([0,1,2,3,4,5,6,7],8),([0,1,2,3,4,5,6],9),([0,1,2,3,4,5,6,9],10),([0,1,2,3,4,5,6,9,10],11),([0,1,2,3,4,5,6,7,8,9,10,11],12),([0,1,2,3,4,5,6,7,8,9,10,11,12],13),([0,1,2,3,4,5,6,7,8,9,10,11,12,13],14),([0,1,2,3,4,5,6,7,8,9,10,11,12,13,14],15),([0,1,2,3,4,5,6,7,8,9,10,11,12,13,14,15],16),([0,1,2,3,4,5,6,7,8,9,10,11,12,13,14,15,16],17),([0,1,2,3,4,5,6,7,8,9,10,11,12,13,14],18),([0,1,2,3,4,5,6,7,8,9,10,11,12,13,14,18],19),([0,1,2,3,4,5,6,7,8,9,10,11,12,13,14,18,19],20),([0,1,2,3,4,5,6,7,8,9,10,11,12,13,14,15,16,17,18,19,20],21),([0,1,2,3,4,5,6,7,8,9,10,11,12,13,14,15,16,17,18,19,20,21],22),([0,1,2,3,4,5,6,7,8,9,10,11,12,13,14,15,16,17,18,19,20,21,22],23),([0,1,2,3,4,5,6,7,8,9,10,11,12,13,14,15,16,17,18,19,20,21,22,23],24),([0,1,2,3,4,5,6,7,8,9,10,11,12,13,14,15,16,17,18,19,20,21,22,23,24],25),([0,1,2,3,4,5,6,7,8,9,10,11,12,13,14,15,16,17,18,19,20,21,22,23,24,25],26),([0,1,2,3,4,5,6,7,8,9,10,11,12,13,14,15,16,17,18,19,20,21,22,23,24,25,26],27),([0,1,2,3,4,5,6,7,8,9,10,11,12,13,14,15,16,17,18,19,20,21,22,23,24,25,26,27],28)] 21 ?_ | refine sD tOK tmix [([],0),([0],1),([],2),([2],3),([2,3],4),([0,1,2,3,4],5),([0,1,2,3,4,5],6),([0,1,2,3,4,5,6],7),([0,1,2,3,4,5,6,7],8),([0,1,2,3,4,5,6],9),([0,1,2,3,4,5,6,9],10),([0,1,2,3,4,5,6,9,10],11),([0,1,2,3,4,5,6,7,8,9,10,11],12),([0,1,2,3,4,5,6],13),([0,1,2,3,4,5,6,7,8,13],14),([0,1,2,3,4,5,6,7,8,9,10,11,12,13,14],15),([0,1,2,3,4,5,6,7,8,9,10,11,12,13,14,15],16),([0,1,2,3,4,5,6,7,8,9,10,11,12,13,14,15,16],17),([0,1,2,3,4,5,6,7,8,9,10,11,12,13,14,15,16,17],18),([0,1,2,3,4,5,6,7,8,9,10,11,12,13,14,15,16,17,18],19),([0,1,2,3,4,5,6,7,8,9,10,11,12,13,14,15,16,17,18,19],20),([0,1,2,3,4,5,6,7,8,9,10,11,12,13,14,15,16,17],21),([0,1,2,3,4,5,6,7,8,9,10,11,12,13,14,15,16,17,21],22),([0,1,2,3,4,5,6,7,8,9,10,11,12,13,14,15,16,17,18,19,20,21,22],23),([0,1,2,3,4,5,6,7,8,9,10,11,12,13,14,15,16,17,18,19,20,21,22,23],24),([0,1,2,3,4,5,6,7,8,9,10,11,12,13,14,15,16,17,18,19,20,21,22,23,24],25),([0,1,2,3,4,5,6,7,8,9,10,11,12,13,14,15,16,17,18,19,20,21,22,23,24,25],26),([0,1,2,3,4,5,6,7,8,9,10,11,12,13,14,15,16,17,18,19,20,21,22,23,24,25,26],27),([0,1,2,3,4,5,6,7,8,9,10,11,12,13,14,15,16,17,18,19,20,21,22,23,24,25,26,27],28),([0,1,2,3,4,5,6,7,8,9,10,11,12,13,14,15,16,17,18,19,20,21,22,23,24,25,26,27,28],29),([0,1,2,3,4,5,6,7,8,9,10,11,12,13,14,15,16,17,18,19,20,21,22,23,24,25,26],30),([0,1,2,3,4,5,6,7,8,9,10,11,12,13,14,15,16,17,18,19,20,21,22,23,24,25,26,27,28,29,30],31),([0,1,2,3,4,5,6,7,8,9,10,11,12,13,14,15,16,17,18,19,20,21,22,23,24,25,26,27,28,29,30,31],32)] 31 ?_ | refine qD _ ?_ ?_ | (refine nZ ?_; refine cst ?_) | (apply d_call []; exact rfl; (solve | (conv => lhs; try simp)); (solve | exact rfl | simp); (solve | (conv => lhs; try simp)); intro τ hτ; refine nZ ?_; first | exact cst ⟨rfl, rfl⟩))
          refine w_back 1 [0, 3, 4, 5] (by conv => lhs; simp) (by conv => lhs; simp) (by first | rfl | simp) (by first | rfl | simp) ?_
          exact ih hlt _ _ ⟨by simp, rfl⟩
        · simp only [List.map_cons, List.map_nil] at cst
          repeat' (first | refine go ?_ | refine s_seq fun y9 hy9 => ?_ | refine qT _ ?_ ?_ | refine qG _ ?_ ?_ | refine qN ?_ ?_ | (refine QB.mk fun hb9 => ?_; (try simp only [hb9]); (try simp at hb9); first | (exfalso; omega) | subst hb9 | skip) | refine w_loop fun y9 hy9 => ?_ | (apply w_again; assumption) | refine sD tOK tmix [([],1),([],2),([],3),([1,2],4),([1,2,3],5),([0,1,2,3,4],6),([0,1,2,3,4,5],7),([0,1,2,3,4,5,6],8),([0,1,2,3,4,5,6],9),([],0),([0,1,2,3,4,5,6,7,9],10),([0,1,2,3,4,5,6,7,8,9,10],11)] 11 ?_ | refine sD tOK tmix [([],0),([0],1),([0,1],2),([0,1,2],3),([0,1,2],4),([0,1,2,4],5),([0,1,2,4,5],6),([0,1,2,3,4,5,6],7),([0,1,2,3,4,5,6,7],8),([0,1,2,3,4,5,6,7,8],9),([0,1,2,3,4,5,6,7,8,9],10),([0,1,2,3,4,5,6,7,8,9,10],11),([0,1,2,3,4,5,6,7,8,9,10,11],12),([0,1,2,3,4,5,6,7,8,9,10,11,12],13),([0,1,2,3,4,5,6,7,8,9,10,11,12,13],14),([0,1,2,3,4,5,6,7,8,9,10,11,12,13,14],15),([0,1,2,3,4,5,6,7,8,9,10,11,12,13,14,15],16),([0,1,2,3,4,5,6,7,8,9,10,11,12,13,14,15,16],17),([0,1,2,3,4,5,6,7,8,9,10,11,12,13,14,15,16,17],18),([0,1,2,3,4,5,6,7,8,9,10,11,12,13,14,15,16,17,18],19),([0,1,2,3,4,5,6,7,8,9,10,11,12,13,14,15,16,17,18,19],20),([0,1,2,3,4,5,6,7,8,9,10,11,12,13,14,15,16,17,18,19,20],21),([0,1,2,3,4,5,6,7,8,9,10,11,12,13,14,15,16,17,18,19,20,21],22),([0,1,2,3,4,5,6,7,8,9,10,11,12,13,14,15,16,17,18,19,20,21,22],23),([0,1,2,3,4,5,6,7,8,9,10,11,12,13,14,15,16,17,18,19,20,21,22,23],24),([0,1,2,3,4,5,6,7,8,9,10,11,12,13,14,15,16,17,18,19,20,21,22,23,24],25),([0,1,2,3,4,5,6,7,8,9,10,11,12,13,14,15,16,17,18,19,20,21,22,23,24,25],26),([0,1,2,3,4,5,6,7,8,9,10,11,12,13,14,15,16,17,18,19,20,21,22,23,24,25,26],27),([0,1,2,3,4,5,6,7,8,9,10,11,12,13,14,15,16,17,18,19,20,21,22,23,24],28),([0,1,2,3,4,5,6,7,8,9,10,11,12,13,14,15,16,17,18,19,20,21,22,23,24,28],29),([0,1,2,3,4,5,6,7,8,9,10,11,12,13,14,15,16,17,18,19,20,21,22,23,24,28,29],30),([0,1,2,3,4,5,6,7,8,9,10,11,12,13,14,15,16,17,18,19,20,21,22,23,24,25,26,27,28,29,30],31),([0,1,2,3,4,5,6,7,8,9,10,11,12,13,14,15,16,17,18,19,20,21,22,23,24,25,26,27,28,29,30,31],32),([0,1,2,3,4,5,6,7,8,9,10,11,12,13,14,15,16,17,18,19,20,21,22,23,24,25,26,27,28,29,30,31,32],33),([0,1,2,3,4,5,6,7,8,9,10,11,12,13,14,15,16,17,18,19,20,21,22,23,24,25,26,27,28,29,30,31,32,33],34),([0,1,2,3,4,5,6,7,8,9,10,11,12,13,14,15,16,17,18,19,20,21,22,23,24,25,26,27,28,29,30,31,32,33,34],35),([0,1,2,3,4,5,6,7,8,9,10,11,12,13,14,15,16,17,18,19,20,21,22,23,24,25,26,27,28,29,30,31,32,33,34,35],36),([0,1,2,3,4,5,6,7,8,9,10,11,12,13,14,15,16,17,18,19,20,21,22,23,24,25,26,27,28,29,30,31,32,33,34,35,36],37),([0,1,2,3,4,5,6,7,8,9,10,11,12,13,14,15,16,17,18,19,20,21,22,23,24,25,26,27,28,29,30,31,32,33,34,35,36,37],38),([0,1,2,3,4,5,6,7,8,9,10,11,12,13,14,15,16,17,18,19,20,21,22,23,24,25,26,27,28,29,30,31,32,33,34,35,36,37,38],39),([0,1,2,3,4,5,6,7,8,9,10,11,12,13,14,15,16,17,18,19,20,21,22,23,24,25,26,27,28,29,30,31,32,33,34,35,36,37,38,39],40),([0,1,2,3,4,5,6,7,8,9,10,11,12,13,14,15,16,17,18,19,20,21,22,23,24,25,26,27,28,29,30,31,32,33,34,35,36,37,38,39,40],41),([0,1,2,3,4,5,6,7,8,9,10,11,12,13,14,15,16,17,18,19,20,21,22,23,24,25,26,27,28,29,30,31,32,33,34,35,36,37,38,39,40,41],42),([0,1,2,3,4,5,6,7,8,9,10,11,12,13,14,15,16,17,18,19,20,21,22,23,24,25,26,27,28,29,30,31,32,33,34,35,36,37,38,39,40,41,42],43),([0,1,2,3,4,5,6,7,8,9,10,11,12,13,14,15,16,17,18,19,20,21,22,23,24,25,26,27,28,29,30,31,32,33,34,35,36,37,38,39,40],44),([0,1,2,3,4,5,6,7,8,9,10,11,12,13,14,15,16,17,18,19,20,21,22,23,24,25,26,27,28,29,30,31,32,33,34,35,36,37,38,39,40,41,42,43,44],45),([0,1,2,3,4,5,6,7,8,9,10,11,12,13,14,15,16,17,18,19,20,21,22,23,24,25,26,27,28,29,30,31,32,33,34,35,36,37,38,39,40,41,42,43,44,45],46),([0,1,2,3,4,5,6,7,8,9,10,11,12,13,14,15,16,17,18,19,20,21,22,23,24,25,26,27,28,29,30,31,32,33,34,35,36,37,38,39,40,41,42,43,44,45,46],47),([0,1,2,3,4,5,6,7,8,9,10,11,12,13,14,15,16,17,18,19,20,21,22,23,24,25,26,27,28,29,30,31,32,33,34,35,36,37,38,39,40,41,42,43,44,45,46,47],48),([0,1,2,3,4,5,6,7,8,9,10,11,12,13,14,15,16,17,18,19,20,21,22,23,24,25,26,27,28,29,30,31,32,33,34,35,36,37,38,39,40,41,42,43,44,45,46,47,48],49),([0,1,2,3,4,5,6,7,8,9,10,11,12,13,14,15,16,17,18,19,20,21,22,23,24,25,26,27,28,29,30,31,32,33,34,35,36,37,38,39,40,41,42,43,44,45,46,47],50),([0,1,2,3,4,5,6,7,8,9,10,11,12,13,14,15,16,17,18,19,20,21,22,23,24,25,26,27,28,29,30,31,32,33,34,35,36,37,38,39,40,41,42,43,44,45,46,47,50],51),([0,1,2,3,4,5,6,7,8,9,10,11,12,13,14,15,16,17,18,19,20,21,22,23,24,25,26,27,28,29,30,31,32,33,34,35,36,37,38,39,40,41,42,43,44,45,46,47],52),([0,1,2,3,4,5,6,7,8,9,10,11,12,13,14,15,16,17,18,19,20,21,22,23,24,25,26,27,28,29,30,31,32,33,34,35,36,37,38,39,40,41,42,43,44,45,46,47,52],53),([0,1,2,3,4,5,6,7,8,9,10,11,12,13,14,15,16,17,18,19,20,21,22,23,24,25,26,27,28,29,30,31,32,33,34,35,36,37,38,39,40,41,42,43,44,45,46,47,50,51,52,53],54),([0,1,2,3,4,5,6,7,8,9,10,11,12,13,14,15,16,17,18,19,20,21,22,23,24,25,26,27,28,29,30,31,32,33,34,35,36,37,38,39,40,41,42,43,44,45,46,47,50,51,52,53,54],55),([0,1,2,3,4,5,6,7,8,9,10,11,12,13,14,15,16,17,18,19,20,21,22,23,24,25,26,27,28,29,30,31,32,33,34,35,36,37,38,39,40,41,42,43,44,45,46,47,50,51,52,53,54,55],56),([0,1,2,3,4,5,6,7,8,9,10,11,12,13,14,15,16,17,18,19,20,21,22,23,24,25,26,27,28,29,30,31,32,33,34,35,36,37,38,39,40,41,42,43,44,45,46,47,48,49,50,51,52,53,54,55,56],57),([0,1,2,3,4,5,6,7,8,9,10,11,12,13,14,15,16,17,18,19,20,21,22,23,24,25,26,27,28,29,30,31,32,33,34,35,36,37,38,39,40,41,42,43,44,45,46,47,48,49,50,51,52,53,54,55,56,57],58),([0,1,2,3,4,5,6,7,8,9,10,11,12,13,14,15,16,17,18,19,20,21,22,23,24,25,26,27,28,29,30,31,32,33,34,35,36,37,38,39,40,41,42,43,44,45,46,47,48,49,50,51,52,53,54,55,56,57,58],59),([0,1,2,3,4,5,6,7,8,9,10,11,12,13,14,15,16,17,18,19,20,21,22,23,24,25,26,27,28,29,30,31,32,33,34,35,36,37,38,39,40,41,42,43,44,45,46,47,48,49,50,51,52,53,54,55,56,57,58,59],60),([0,1,2,3,4,5,6,7,8,9,10,11,12,13,14,15,16,17,18,19,20,21,22,23,24,25,26,27,28,29,30,31,32,33,34,35,36,37,38,39,40,41,42,43,44,45,46,47,48,49,50,51,52,53,54,55,56,57,58,59,60],61),([0,1,2,3,4,5,6,7,8,9,10,11,12,13,14,15,16,17,18,19,20,21,22,23,24,25,26,27,28,29,30,31,32,33,34,35,36,37,38,39,40,41,42,43,44,45,46,47,48,49,50,51,52,53,54,55,56,57,58,59,60,61],62),([0,1,2,3,4,5,6,7,8,9,10,11,12,13,14,15,16,17,18,19,20,21,22,23,24,25,26,27,28,29,30,31,32,33,34,35,36,37,38,39,40,41,42,43,44,45,46,47,48,49,50,51,52,53,54,55,56,57,58,59,60,61,62],63),([0,1,2,3,4,5,6,7,8,9,10,11,12,13,14,15,16,17,18,19,20,21,22,23,24,25,26,27,28,29,30,31,32,33,34,35,36,37,38,39,40,41,42,43,44,45,46,47,48,49,50,51,52,53,54,55,56,57,58,59,60,61,62,63],64),([0,1,2,3,4,5,6,7,8,9,10,11,12,13,14,15,16,17,18,19,20,21,22,23,24,25,26,27,28,29,30,31,32,33,34,35,36,37,38,39,40,41,42,43,44,45,46,47,48,49,50,51,52,53,54,55,56,57,58,59,60,61,62,63,64],65),([0,1,2,3,4,5,6,7,8,9,10,11,12,13,14,15,16,17,18,19,20,21,22,23,24,25,26,27,28,29,30,31,32,33,34,35,36,37,38,39,40,41,42,43,44,45,46,47,48,49,50,51,52,53,54,55,56,57,58,59,60,61,62,63,64,65],66)] 57 ?_ | refine sD tOK tmix [([],0),([0],1),([],2),([2],3),([2,3],4),([0,1,2,3,4],5),([0,1,2,3,4,5],6),([0,1,2,3,4,5,6],7),([0,1,2,3,4,5,6,7],8),([0,1,2,3,4,5,6],9),([0,1,2,3,4,5,6,9],10),([0,1,2,3,4,5,6,9,10],11),([0,1,2,3,4,5,6,7,8,9,10,11],12),([0,1,2,3,4,5,6,7,8,9,10,11,12],13),([0,1,2,3,4,5,6,7,8,9,10,11,12,13],14),([0,1,2,3,4,5,6,7,8,9,10,11,12,13,14],15),([0,1,2,3,4,5,6,7,8,9,10,11,12,13,14,15],16),([0,1,2,3,4,5,6,7,8,9,10,11,12,13,14,15,16],17),([0,1,2,3,4,5,6,7,8,9,10,11,12,13,14],18),([0,1,2,3,4,5,6,7,8,9,10,11,12,13,14,18],19),([0,1,2,3,4,5,6,7,8,9,10,11,12,13,14,18,19],20),([0,1,2,3,4,5,6,7,8,9,10,11,12,13,14,15,16,17,18,19,20],21),([0,1,2,3,4,5,6,7,8,9,10,11,12,13,14,15,16,17,18,19,20,21],22),([0,1,2,3,4,5,6,7,8,9,10,11,12,13,14,15,16,17,18,19,20,21,22],23),([0,1,2,3,4,5,6,7,8,9,10,11,12,13,14,15,16,17,18,19,20,21,22,23],24),([0,1,2,3,4,5,6,7,8,9,10,11,12,13,14,15,16,17,18,19,20,21,22,23,24],25),([0,1,2,3,4,5,6,7,8,9,10,11,12,13,14,15,16,17,18,19,20,21,22,23,24,25],26),([0,1,2,3,4,5,6,7,8,9,10,11,12,13,14,15,16,17,18,19,20,21,22,23,24,25,26],27),([0,1,2,3,4,5,6,7,8,9,10,11,12,13,14,15,16,17,18,19,20,21,22,23,24,25,26,27],28)] 21 ?_ | refine sD tOK tmix [([],0),([0],1),([],2),([2],3),([2,3],4),([0,1,2,3,4],5),([0,1,2,3,4,5],6),([0,1,2,3,4,5,6],7),([0,1,2,3,4,5,6,7],8),([0,1,2,3,4,5,6],9),([0,1,2,3,4,5,6,9],10),([0,1,2,3,4,5,6,9,10],11),([0,1,2,3,4,5,6,7,8,9,10,11],12),([0,1,2,3,4,5,6],13),([0,1,2,3,4,5,6,7,8,13],14),([0,1,2,3,4,5,6,7,8,9,10,11,12,13,14],15),([0,1,2,3,4,5,6,7,8,9,10,11,12,13,14,15],16),([0,1,2,3,4,5,6,7,8,9,10,11,12,13,14,15,16],17),([0,1,2,3,4,5,6,7,8,9,10,11,12,13,14,15,16,17],18),([0,1,2,3,4,5,6,7,8,9,10,11,12,13,14,15,16,17,18],19),([0,1,2,3,4,5,6,7,8,9,10,11,12,13,14,15,16,17,18,19],20),([0,1,2,3,4,5,6,7,8,9,10,11,12,13,14,15,16,17],21),([0,1,2,3,4,5,6,7,8,9,10,11,12,13,14,15,16,17,21],22),([0,1,2,3,4,5,6,7,8,9,10,11,12,13,14,15,16,17,18,19,20,21,22],23),([0,1,2,3,4,5,6,7,8,9,10,11,12,13,14,15,16,17,18,19,20,21,22,23],24),([0,1,2,3,4,5,6,7,8,9,10,11,12,13,14,15,16,17,18,19,20,21,22,23,24],25),([0,1,2,3,4,5,6,7,8,9,10,11,12,13,14,15,16,17,18,19,20,21,22,23,24,25],26),([0,1,2,3,4,5,6,7,8,9,10,11,12,13,14,15,16,17,18,19,20,21,22,23,24,25,26],27),([0,1,2,3,4,5,6,7,8,9,10,11,12,13,14,15,16,17,18,19,20,21,22,23,24,25,26,27],28),([0,1,2,3,4,5,6,7,8,9,10,11,12,13,14,15,16,17,18,19,20,21,22,23,24,25,26,27,28],29),([0,1,2,3,4,5,6,7,8,9,10,11,12,13,14,15,16,17,18,19,20,21,22,23,24,25,26],30),([0,1,2,3,4,5,6,7,8,9,10,11,12,13,14,15,16,17,18,19,20,21,22,23,24,25,26,27,28,29,30],31),([0,1,2,3,4,5,6,7,8,9,10,11,12,13,14,15,16,17,18,19,20,21,22,23,24,25,26,27,28,29,30,31],32)] 31 ?_ | refine qD _ ?_ ?_ | (refine nZ ?_; refine cst ?_) | (apply d_call []; exact rfl; (solve | (conv => lhs; try simp)); (solve | exact rfl | simp); (solve | (conv => lhs; try simp)); intro τ hτ; refine nZ ?_; first | exact cst ⟨rfl, rfl⟩))
          refine w_back 1 [0, 3, 4, 5] (by conv => lhs; simp) (by conv => lhs; simp) (by first | rfl | simp) (by first | rfl | simp) ?_
          exact ih hlt _ _ ⟨by simp, rfl⟩
        · simp only [List.map_cons, List.map_nil] at cst
          have hc := x1.conf hset
          obtain ⟨k, rfl⟩ : ∃ k, id = k + 1 := ⟨id - 1, by have := hP.id0; omega⟩
          have hkl : k < X.shadows.length := hP.id1
          have hkn := x1.n
          have hpid : Y.probe.id = (k : Int) + 1 := by have := hP.pid; omega
          have hpol : Y.pol = (gt X.shadows k).pol := hP.pol
          have hkk := hP.kind
          have hleft := hP.left
          have hpb := hP.pbad
          have hwin := hP.win
          have hbad := hP.bad
          rw [← hcf] at hc hwin hbad hleft
          have hcn := hc
          rw [okConf_b, decide_eq_true_eq] at hcn
          have hm1 := x2.sim.marks
          have hmc := hm1.cost
          have cb : ∀ {R : Re → Store → Prop} {σ : Store}, R (.ret (i64 (badM Y.sim.marks))) σ → C tE 19 [.lit (Y.sim.marks.map eMark)] σ R := fun h => R_bad (by have := hm1.1; omega) h
          have cs1 : ∀ {R : Re → Store → Prop} {σ : Store}, R (.ret (.bool true)) σ → C tE 18 [ePol Y.pol, ePol (gt X.shadows k).pol] σ R := fun h => by rw [hpol]; exact R_samepol (x1.shd _ (gt_mem hkl)).ask.len h
          rw [show ((k + 1 : Nat) : Int) = (k : Int) + 1 from rfl] at cst
          have hon2 := hP.on
          clear hP
          rw [live_on hon] at cst ⊢
          rw [live_on hon2] at cst ih
          have hw2 := hB.win
          have hcost := hB.cost
          have hpp := hB.pol
          have hst := hB.state
          clear hB
          rw [← hcf] at hw2 hcost
          have hs1 := okS.step (d := X.demand) hc x1.sim x2.now.1 x2.now.2
          have hm2 := hs1.marks
          have hmc2 := hm2.cost
          have cf : ∀ {R : Re → Store → Prop} {σ : Store}, R (.ret (eSim (stepSim Y.conf X.sim X.demand Y.now))) σ → C tE 20 [eConf Y.conf, eSim X.sim, i64 X.demand, i64 Y.now] σ R := fun h => R_fstep hc x1.sim.sim x2.now.1 x2.now.2 h
          have cn : ∀ {R : Re → Store → Prop} {σ : Store}, R (.ret (.tup [eSta (nextP X.pol X.state X.hold.cur X.util Y.now).1, i64 (nextP X.pol X.state X.hold.cur X.util Y.now).2])) σ → C tE 21 [ePol X.pol, eSta X.state, i64 X.hold.cur, i64 X.util, i64 Y.now] σ R := fun h => R_policy x1.pol h
          generalize stepSim Y.conf X.sim X.demand Y.now = S at *
          generalize nextP X.pol X.state X.hold.cur X.util Y.now = W at *
          have cs2 : ∀ {R : Re → Store → Prop} {σ : Store}, R (.ret (.bool true)) σ → C tE 18 [ePol Y.probe.pol, ePol X.pol] σ R := fun h => by rw [hpp]; exact R_samepol x1.pol.len h
          have cc1 : ∀ {R : Re → Store → Prop} {σ : Store}, R (.ret (i64 (costM Y.sim.marks))) σ → C tE 22 [.lit (Y.sim.marks.map eMark)] σ R := fun h => R_cost (by have := hm1.1; omega) hm1.2 h
          have cc2 : ∀ {R : Re → Store → Prop} {σ : Store}, R (.ret (i64 (costM S.marks))) σ → C tE 22 [.lit (S.marks.map eMark)] σ R := fun h => R_cost (by have := hm2.1; omega) hm2.2 h
          clear hm1 hm2 hs1 hc
          have F9 := @hst
          repeat' (first | refine gf ?_ | refine s_seq fun y9 hy9 => ?_ | refine qT _ ?_ ?_ | refine qG _ ?_ ?_ | refine qN ?_ ?_ | (refine QB.mk fun hb9 => ?_; (try simp only [hb9]); (try simp at hb9); first | (exfalso; omega) | subst hb9 | skip) | refine w_loop fun y9 hy9 => ?_ | (apply w_again; assumption) | refine sD tOK tmix [([],1),([],2),([],3),([1,2],4),([1,2,3],5),([0,1,2,3,4],6),([0,1,2,3,4,5],7),([0,1,2,3,4,5,6],8),([0,1,2,3,4,5,6],9),([],0),([0,1,2,3,4,5,6,7,9],10),([0,1,2,3,4,5,6,7,8,9,10],11)] 11 ?_ | refine sD tOK tmix [([],0),([0],1),([0,1],2),([0,1,2],3),([0,1,2],4),([0,1,2,4],5),([0,1,2,4,5],6),([0,1,2,3,4,5,6],7),([0,1,2,3,4,5,6,7],8),([0,1,2,3,4,5,6,7,8],9),([0,1,2,3,4,5,6,7,8,9],10),([0,1,2,3,4,5,6,7,8,9,10],11),([0,1,2,3,4,5,6,7,8,9,10,11],12),([0,1,2,3,4,5,6,7,8,9,10,11,12],13),([0,1,2,3,4,5,6,7,8,9,10,11,12,13],14),([0,1,2,3,4,5,6,7,8,9,10,11,12,13,14],15),([0,1,2,3,4,5,6,7,8,9,10,11,12,13,14,15],16),([0,1,2,3,4,5,6,7,8,9,10,11,12,13,14,15,16],17),([0,1,2,3,4,5,6,7,8,9,10,11,12,13,14,15,16,17],18),([0,1,2,3,4,5,6,7,8,9,10,11,12,13,14,15,16,17,18],19),([0,1,2,3,4,5,6,7,8,9,10,11,12,13,14,15,16,17,18,19],20),([0,1,2,3,4,5,6,7,8,9,10,11,12,13,14,15,16,17,18,19,20],21),([0,1,2,3,4,5,6,7,8,9,10,11,12,13,14,15,16,17,18,19,20,21],22),([0,1,2,3,4,5,6,7,8,9,10,11,12,13,14,15,16,17,18,19,20,21,22],23),([0,1,2,3,4,5,6,7,8,9,10,11,12,13,14,15,16,17,18,19,20,21,22,23],24),([0,1,2,3,4,5,6,7,8,9,10,11,12,13,14,15,16,17,18,19,20,21,22,23,24],25),([0,1,2,3,4,5,6,7,8,9,10,11,12,13,14,15,16,17,18,19,20,21,22,23,24,25],26),([0,1,2,3,4,5,6,7,8,9,10,11,12,13,14,15,16,17,18,19,20,21,22,23,24,25,26],27),([0,1,2,3,4,5,6,7,8,9,10,11,12,13,14,15,16,17,18,19,20,21,22,23,24],28),([0,1,2,3,4,5,6,7,8,9,10,11,12,13,14,15,16,17,18,19,20,21,22,23,24,28],29),([0,1,2,3,4,5,6,7,8,9,10,11,12,13,14,15,16,17,18,19,20,21,22,23,24,28,29],30),([0,1,2,3,4,5,6,7,8,9,10,11,12,13,14,15,16,17,18,19,20,21,22,23,24,25,26,27,28,29,30],31),([0,1,2,3,4,5,6,7,8,9,10,11,12,13,14,15,16,17,18,19,20,21,22,23,24,25,26,27,28,29,30,31],32),([0,1,2,3,4,5,6,7,8,9,10,11,12,13,14,15,16,17,18,19,20,21,22,23,24,25,26,27,28,29,30,31,32],33),([0,1,2,3,4,5,6,7,8,9,10,11,12,13,14,15,16,17,18,19,20,21,22,23,24,25,26,27,28,29,30,31,32,33],34),([0,1,2,3,4,5,6,7,8,9,10,11,12,13,14,15,16,17,18,19,20,21,22,23,24,25,26,27,28,29,30,31,32,33,34],35),([0,1,2,3,4,5,6,7,8,9,10,11,12,13,14,15,16,17,18,19,20,21,22,23,24,25,26,27,28,29,30,31,32,33,34,35],36),([0,1,2,3,4,5,6,7,8,9,10,11,12,13,14,15,16,17,18,19,20,21,22,23,24,25,26,27,28,29,30,31,32,33,34,35,36],37),([0,1,2,3,4,5,6,7,8,9,10,11,12,13,14,15,16,17,18,19,20,21,22,23,24,25,26,27,28,29,30,31,32,33,34,35,36,37],38),([0,1,2,3,4,5,6,7,8,9,10,11,12,13,14,15,16,17,18,19,20,21,22,23,24,25,26,27,28,29,30,31,32,33,34,35,36,37,38],39),([0,1,2,3,4,5,6,7,8,9,10,11,12,13,14,15,16,17,18,19,20,21,22,23,24,25,26,27,28,29,30,31,32,33,34,35,36,37,38,39],40),([0,1,2,3,4,5,6,7,8,9,10,11,12,13,14,15,16,17,18,19,20,21,22,23,24,25,26,27,28,29,30,31,32,33,34,35,36,37,38,39,40],41),([0,1,2,3,4,5,6,7,8,9,10,11,12,13,14,15,16,17,18,19,20,21,22,23,24,25,26,27,28,29,30,31,32,33,34,35,36,37,38,39,40,41],42),([0,1,2,3,4,5,6,7,8,9,10,11,12,13,14,15,16,17,18,19,20,21,22,23,24,25,26,27,28,29,30,31,32,33,34,35,36,37,38,39,40,41,42],43),([0,1,2,3,4,5,6,7,8,9,10,11,12,13,14,15,16,17,18,19,20,21,22,23,24,25,26,27,28,29,30,31,32,33,34,35,36,37,38,39,40],44),([0,1,2,3,4,5,6,7,8,9,10,11,12,13,14,15,16,17,18,19,20,21,22,23,24,25,26,27,28,29,30,31,32,33,34,35,36,37,38,39,40,41,42,43,44],45),([0,1,2,3,4,5,6,7,8,9,10,11,12,13,14,15,16,17,18,19,20,21,22,23,24,25,26,27,28,29,30,31,32,33,34,35,36,37,38,39,40,41,42,43,44,45],46),([0,1,2,3,4,5,6,7,8,9,10,11,12,13,14,15,16,17,18,19,20,21,22,23,24,25,26,27,28,29,30,31,32,33,34,35,36,37,38,39,40,41,42,43,44,45,46],47),([0,1,2,3,4,5,6,7,8,9,10,11,12,13,14,15,16,17,18,19,20,21,22,23,24,25,26,27,28,29,30,31,32,33,34,35,36,37,38,39,40,41,42,43,44,45,46,47],48),([0,1,2,3,4,5,6,7,8,9,10,11,12,13,14,15,16,17,18,19,20,21,22,23,24,25,26,27,28,29,30,31,32,33,34,35,36,37,38,39,40,41,42,43,44,45,46,47,48],49),([0,1,2,3,4,5,6,7,8,9,10,11,12,13,14,15,16,17,18,19,20,21,22,23,24,25,26,27,28,29,30,31,32,33,34,35,36,37,38,39,40,41,42,43,44,45,46,47],50),([0,1,2,3,4,5,6,7,8,9,10,11,12,13,14,15,16,17,18,19,20,21,22,23,24,25,26,27,28,29,30,31,32,33,34,35,36,37,38,39,40,41,42,43,44,45,46,47,50],51),([0,1,2,3,4,5,6,7,8,9,10,11,12,13,14,15,16,17,18,19,20,21,22,23,24,25,26,27,28,29,30,31,32,33,34,35,36,37,38,39,40,41,42,43,44,45,46,47],52),([0,1,2,3,4,5,6,7,8,9,10,11,12,13,14,15,16,17,18,19,20,21,22,23,24,25,26,27,28,29,30,31,32,33,34,35,36,37,38,39,40,41,42,43,44,45,46,47,52],53),([0,1,2,3,4,5,6,7,8,9,10,11,12,13,14,15,16,17,18,19,20,21,22,23,24,25,26,27,28,29,30,31,32,33,34,35,36,37,38,39,40,41,42,43,44,45,46,47,50,51,52,53],54),([0,1,2,3,4,5,6,7,8,9,10,11,12,13,14,15,16,17,18,19,20,21,22,23,24,25,26,27,28,29,30,31,32,33,34,35,36,37,38,39,40,41,42,43,44,45,46,47,50,51,52,53,54],55),([0,1,2,3,4,5,6,7,8,9,10,11,12,13,14,15,16,17,18,19,20,21,22,23,24,25,26,27,28,29,30,31,32,33,34,35,36,37,38,39,40,41,42,43,44,45,46,47,50,51,52,53,54,55],56),([0,1,2,3,4,5,6,7,8,9,10,11,12,13,14,15,16,17,18,19,20,21,22,23,24,25,26,27,28,29,30,31,32,33,34,35,36,37,38,39,40,41,42,43,44,45,46,47,48,49,50,51,52,53,54,55,56],57),([0,1,2,3,4,5,6,7,8,9,10,11,12,13,14,15,16,17,18,19,20,21,22,23,24,25,26,27,28,29,30,31,32,33,34,35,36,37,38,39,40,41,42,43,44,45,46,47,48,49,50,51,52,53,54,55,56,57],58),([0,1,2,3,4,5,6,7,8,9,10,11,12,13,14,15,16,17,18,19,20,21,22,23,24,25,26,27,28,29,30,31,32,33,34,35,36,37,38,39,40,41,42,43,44,45,46,47,48,49,50,51,52,53,54,55,56,57,58],59),([0,1,2,3,4,5,6,7,8,9,10,11,12,13,14,15,16,17,18,19,20,21,22,23,24,25,26,27,28,29,30,31,32,33,34,35,36,37,38,39,40,41,42,43,44,45,46,47,48,49,50,51,52,53,54,55,56,57,58,59],60),([0,1,2,3,4,5,6,7,8,9,10,11,12,13,14,15,16,17,18,19,20,21,22,23,24,25,26,27,28,29,30,31,32,33,34,35,36,37,38,39,40,41,42,43,44,45,46,47,48,49,50,51,52,53,54,55,56,57,58,59,60],61),([0,1,2,3,4,5,6,7,8,9,10,11,12,13,14,15,16,17,18,19,20,21,22,23,24,25,26,27,28,29,30,31,32,33,34,35,36,37,38,39,40,41,42,43,44,45,46,47,48,49,50,51,52,53,54,55,56,57,58,59,60,61],62),([0,1,2,3,4,5,6,7,8,9,10,11,12,13,14,15,16,17,18,19,20,21,22,23,24,25,26,27,28,29,30,31,32,33,34,35,36,37,38,39,40,41,42,43,44,45,46,47,48,49,50,51,52,53,54,55,56,57,58,59,60,61,62],63),([0,1,2,3,4,5,6,7,8,9,10,11,12,13,14,15,16,17,18,19,20,21,22,23,24,25,26,27,28,29,30,31,32,33,34,35,36,37,38,39,40,41,42,43,44,45,46,47,48,49,50,51,52,53,54,55,56,57,58,59,60,61,62,63],64),([0,1,2,3,4,5,6,7,8,9,10,11,12,13,14,15,16,17,18,19,20,21,22,23,24,25,26,27,28,29,30,31,32,33,34,35,36,37,38,39,40,41,42,43,44,45,46,47,48,49,50,51,52,53,54,55,56,57,58,59,60,61,62,63,64],65),([0,1,2,3,4,5,6,7,8,9,10,11,12,13,14,15,16,17,18,19,20,21,22,23,24,25,26,27,28,29,30,31,32,33,34,35,36,37,38,39,40,41,42,43,44,45,46,47,48,49,50,51,52,53,54,55,56,57,58,59,60,61,62,63,64,65],66)] 57 ?_ | refine sD tOK tmix [([],0),([0],1),([],2),([2],3),([2,3],4),([0,1,2,3,4],5),([0,1,2,3,4,5],6),([0,1,2,3,4,5,6],7),([0,1,2,3,4,5,6,7],8),([0,1,2,3,4,5,6],9),([0,1,2,3,4,5,6,9],10),([0,1,2,3,4,5,6,9,10],11),([0,1,2,3,4,5,6,7,8,9,10,11],12),([0,1,2,3,4,5,6,7,8,9,10,11,12],13),([0,1,2,3,4,5,6,7,8,9,10,11,12,13],14),([0,1,2,3,4,5,6,7,8,9,10,11,12,13,14],15),([0,1,2,3,4,5,6,7,8,9,10,11,12,13,14,15],16),([0,1,2,3,4,5,6,7,8,9,10,11,12,13,14,15,16],17),([0,1,2,3,4,5,6,7,8,9,10,11,12,13,14],18),([0,1,2,3,4,5,6,7,8,9,10,11,12,13,14,18],19),([0,1,2,3,4,5,6,7,8,9,10,11,12,13,14,18,19],20),([0,1,2,3,4,5,6,7,8,9,10,11,12,13,14,15,16,17,18,19,20],21),([0,1,2,3,4,5,6,7,8,9,10,11,12,13,14,15,16,17,18,19,20,21],22),([0,1,2,3,4,5,6,7,8,9,10,11,12,13,14,15,16,17,18,19,20,21,22],23),([0,1,2,3,4,5,6,7,8,9,10,11,12,13,14,15,16,17,18,19,20,21,22,23],24),([0,1,2,3,4,5,6,7,8,9,10,11,12,13,14,15,16,17,18,19,20,21,22,23,24],25),([0,1,2,3,4,5,6,7,8,9,10,11,12,13,14,15,16,17,18,19,20,21,22,23,24,25],26),([0,1,2,3,4,5,6,7,8,9,10,11,12,13,14,15,16,17,18,19,20,21,22,23,24,25,26],27),([0,1,2,3,4,5,6,7,8,9,10,11,12,13,14,15,16,17,18,19,20,21,22,23,24,25,26,27],28)] 21 ?_ | refine sD tOK tmix [([],0),([0],1),([],2),([2],3),([2,3],4),([0,1,2,3,4],5),([0,1,2,3,4,5],6),([0,1,2,3,4,5,6],7),([0,1,2,3,4,5,6,7],8),([0,1,2,3,4,5,6],9),([0,1,2,3,4,5,6,9],10),([0,1,2,3,4,5,6,9,10],11),([0,1,2,3,4,5,6,7,8,9,10,11],12),([0,1,2,3,4,5,6],13),([0,1,2,3,4,5,6,7,8,13],14),([0,1,2,3,4,5,6,7,8,9,10,11,12,13,14],15),([0,1,2,3,4,5,6,7,8,9,10,11,12,13,14,15],16),([0,1,2,3,4,5,6,7,8,9,10,11,12,13,14,15,16],17),([0,1,2,3,4,5,6,7,8,9,10,11,12,13,14,15,16,17],18),([0,1,2,3,4,5,6,7,8,9,10,11,12,13,14,15,16,17,18],19),([0,1,2,3,4,5,6,7,8,9,10,11,12,13,14,15,16,17,18,19],20),([0,1,2,3,4,5,6,7,8,9,10,11,12,13,14,15,16,17],21),([0,1,2,3,4,5,6,7,8,9,10,11,12,13,14,15,16,17,21],22),([0,1,2,3,4,5,6,7,8,9,10,11,12,13,14,15,16,17,18,19,20,21,22],23),([0,1,2,3,4,5,6,7,8,9,10,11,12,13,14,15,16,17,18,19,20,21,22,23],24),([0,1,2,3,4,5,6,7,8,9,10,11,12,13,14,15,16,17,18,19,20,21,22,23,24],25),([0,1,2,3,4,5,6,7,8,9,10,11,12,13,14,15,16,17,18,19,20,21,22,23,24,25],26),([0,1,2,3,4,5,6,7,8,9,10,11,12,13,14,15,16,17,18,19,20,21,22,23,24,25,26],27),([0,1,2,3,4,5,6,7,8,9,10,11,12,13,14,15,16,17,18,19,20,21,22,23,24,25,26,27],28),([0,1,2,3,4,5,6,7,8,9,10,11,12,13,14,15,16,17,18,19,20,21,22,23,24,25,26,27,28],29),([0,1,2,3,4,5,6,7,8,9,10,11,12,13,14,15,16,17,18,19,20,21,22,23,24,25,26],30),([0,1,2,3,4,5,6,7,8,9,10,11,12,13,14,15,16,17,18,19,20,21,22,23,24,25,26,27,28,29,30],31),([0,1,2,3,4,5,6,7,8,9,10,11,12,13,14,15,16,17,18,19,20,21,22,23,24,25,26,27,28,29,30,31],32)] 31 ?_ | refine qD _ ?_ ?_ | (refine nZ ?_; first | refine cst ?_ | refine cb ?_ | refine cs1 ?_ | refine cf ?_ | refine cn ?_ | refine cs2 ?_ | refine cc1 ?_ | refine cc2 ?_) | (apply d_call []; exact rfl; (solve | (conv => lhs; try simp [hst])); (solve | exact rfl | simp); (solve | (conv => lhs; try simp [hst])); intro τ hτ; refine nZ ?_; first | exact cst ⟨rfl, rfl⟩ | exact cb ⟨rfl, rfl⟩ | exact cs1 ⟨rfl, rfl⟩ | exact cf ⟨rfl, rfl⟩ | exact cn ⟨rfl, rfl⟩ | exact cs2 ⟨rfl, rfl⟩ | exact cc1 ⟨rfl, rfl⟩ | exact cc2 ⟨rfl, rfl⟩))
          all_goals
            refine w_back 1 [0, 3, 4, 5] (by conv => lhs; simp) (by conv => lhs; simp) (by first | rfl | simp) (by first | rfl | simp) ?_
            exact ih hlt _ _ ⟨by simp, by rw [hst]⟩
        · simp only [List.map_cons, List.map_nil] at cst
          have hc := x1.conf hset
          obtain ⟨k, rfl⟩ : ∃ k, id = k + 1 := ⟨id - 1, by have := hP.id0; omega⟩
          have hkl : k < X.shadows.length := hP.id1
          have hkn := x1.n
          have hpid : Y.probe.id = (k : Int) + 1 := by have := hP.pid; omega
          have hpol : Y.pol = (gt X.shadows k).pol := hP.pol
          have hkk := hP.kind
          have hleft := hP.left
          have hpb := hP.pbad
          have hwin := hP.win
          have hbad := hP.bad
          rw [← hcf] at hc hwin hbad hleft
          have hcn := hc
          rw [okConf_b, decide_eq_true_eq] at hcn
          have hm1 := x2.sim.marks
          have hmc := hm1.cost
          have cb : ∀ {R : Re → Store → Prop} {σ : Store}, R (.ret (i64 (badM Y.sim.marks))) σ → C tE 19 [.lit (Y.sim.marks.map eMark)] σ R := fun h => R_bad (by have := hm1.1; omega) h
          have cs1 : ∀ {R : Re → Store → Prop} {σ : Store}, R (.ret (.bool true)) σ → C tE 18 [ePol Y.pol, ePol (gt X.shadows k).pol] σ R := fun h => by rw [hpol]; exact R_samepol (x1.shd _ (gt_mem hkl)).ask.len h
          rw [show ((k + 1 : Nat) : Int) = (k : Int) + 1 from rfl] at cst
          have hon2 := hP.on
          clear hP
          rw [live_on hon] at cst ⊢
          rw [live_on hon2] at cst ih
          repeat' (first | refine go ?_ | refine s_seq fun y9 hy9 => ?_ | refine qT _ ?_ ?_ | refine qG _ ?_ ?_ | refine qN ?_ ?_ | (refine QB.mk fun hb9 => ?_; (try simp only [hb9]); (try simp at hb9); first | (exfalso; omega) | subst hb9 | skip) | refine w_loop fun y9 hy9 => ?_ | (apply w_again; assumption) | refine sD tOK tmix [([],1),([],2),([],3),([1,2],4),([1,2,3],5),([0,1,2,3,4],6),([0,1,2,3,4,5],7),([0,1,2,3,4,5,6],8),([0,1,2,3,4,5,6],9),([],0),([0,1,2,3,4,5,6,7,9],10),([0,1,2,3,4,5,6,7,8,9,10],11)] 11 ?_ | refine sD tOK tmix [([],0),([0],1),([0,1],2),([0,1,2],3),([0,1,2],4),([0,1,2,4],5),([0,1,2,4,5],6),([0,1,2,3,4,5,6],7),([0,1,2,3,4,5,6,7],8),([0,1,2,3,4,5,6,7,8],9),([0,1,2,3,4,5,6,7,8,9],10),([0,1,2,3,4,5,6,7,8,9,10],11),([0,1,2,3,4,5,6,7,8,9,10,11],12),([0,1,2,3,4,5,6,7,8,9,10,11,12],13),([0,1,2,3,4,5,6,7,8,9,10,11,12,13],14),([0,1,2,3,4,5,6,7,8,9,10,11,12,13,14],15),([0,1,2,3,4,5,6,7,8,9,10,11,12,13,14,15],16),([0,1,2,3,4,5,6,7,8,9,10,11,12,13,14,15,16],17),([0,1,2,3,4,5,6,7,8,9,10,11,12,13,14,15,16,17],18),([0,1,2,3,4,5,6,7,8,9,10,11,12,13,14,15,16,17,18],19),([0,1,2,3,4,5,6,7,8,9,10,11,12,13,14,15,16,17,18,19],20),([0,1,2,3,4,5,6,7,8,9,10,11,12,13,14,15,16,17,18,19,20],21),([0,1,2,3,4,5,6,7,8,9,10,11,12,13,14,15,16,17,18,19,20,21],22),([0,1,2,3,4,5,6,7,8,9,10,11,12,13,14,15,16,17,18,19,20,21,22],23),([0,1,2,3,4,5,6,7,8,9,10,11,12,13,14,15,16,17,18,19,20,21,22,23],24),([0,1,2,3,4,5,6,7,8,9,10,11,12,13,14,15,16,17,18,19,20,21,22,23,24],25),([0,1,2,3,4,5,6,7,8,9,10,11,12,13,14,15,16,17,18,19,20,21,22,23,24,25],26),([0,1,2,3,4,5,6,7,8,9,10,11,12,13,14,15,16,17,18,19,20,21,22,23,24,25,26],27),([0,1,2,3,4,5,6,7,8,9,10,11,12,13,14,15,16,17,18,19,20,21,22,23,24],28),([0,1,2,3,4,5,6,7,8,9,10,11,12,13,14,15,16,17,18,19,20,21,22,23,24,28],29),([0,1,2,3,4,5,6,7,8,9,10,11,12,13,14,15,16,17,18,19,20,21,22,23,24,28,29],30),([0,1,2,3,4,5,6,7,8,9,10,11,12,13,14,15,16,17,18,19,20,21,22,23,24,25,26,27,28,29,30],31),([0,1,2,3,4,5,6,7,8,9,10,11,12,13,14,15,16,17,18,19,20,21,22,23,24,25,26,27,28,29,30,31],32),([0,1,2,3,4,5,6,7,8,9,10,11,12,13,14,15,16,17,18,19,20,21,22,23,24,25,26,27,28,29,30,31,32],33),([0,1,2,3,4,5,6,7,8,9,10,11,12,13,14,15,16,17,18,19,20,21,22,23,24,25,26,27,28,29,30,31,32,33],34),([0,1,2,3,4,5,6,7,8,9,10,11,12,13,14,15,16,17,18,19,20,21,22,23,24,25,26,27,28,29,30,31,32,33,34],35),([0,1,2,3,4,5,6,7,8,9,10,11,12,13,14,15,16,17,18,19,20,21,22,23,24,25,26,27,28,29,30,31,32,33,34,35],36),([0,1,2,3,4,5,6,7,8,9,10,11,12,13,14,15,16,17,18,19,20,21,22,23,24,25,26,27,28,29,30,31,32,33,34,35,36],37),([0,1,2,3,4,5,6,7,8,9,10,11,12,13,14,15,16,17,18,19,20,21,22,23,24,25,26,27,28,29,30,31,32,33,34,35,36,37],38),([0,1,2,3,4,5,6,7,8,9,10,11,12,13,14,15,16,17,18,19,20,21,22,23,24,25,26,27,28,29,30,31,32,33,34,35,36,37,38],39),([0,1,2,3,4,5,6,7,8,9,10,11,12,13,14,15,16,17,18,19,20,21,22,23,24,25,26,27,28,29,30,31,32,33,34,35,36,37,38,39],40),([0,1,2,3,4,5,6,7,8,9,10,11,12,13,14,15,16,17,18,19,20,21,22,23,24,25,26,27,28,29,30,31,32,33,34,35,36,37,38,39,40],41),([0,1,2,3,4,5,6,7,8,9,10,11,12,13,14,15,16,17,18,19,20,21,22,23,24,25,26,27,28,29,30,31,32,33,34,35,36,37,38,39,40,41],42),([0,1,2,3,4,5,6,7,8,9,10,11,12,13,14,15,16,17,18,19,20,21,22,23,24,25,26,27,28,29,30,31,32,33,34,35,36,37,38,39,40,41,42],43),([0,1,2,3,4,5,6,7,8,9,10,11,12,13,14,15,16,17,18,19,20,21,22,23,24,25,26,27,28,29,30,31,32,33,34,35,36,37,38,39,40],44),([0,1,2,3,4,5,6,7,8,9,10,11,12,13,14,15,16,17,18,19,20,21,22,23,24,25,26,27,28,29,30,31,32,33,34,35,36,37,38,39,40,41,42,43,44],45),([0,1,2,3,4,5,6,7,8,9,10,11,12,13,14,15,16,17,18,19,20,21,22,23,24,25,26,27,28,29,30,31,32,33,34,35,36,37,38,39,40,41,42,43,44,45],46),([0,1,2,3,4,5,6,7,8,9,10,11,12,13,14,15,16,17,18,19,20,21,22,23,24,25,26,27,28,29,30,31,32,33,34,35,36,37,38,39,40,41,42,43,44,45,46],47),([0,1,2,3,4,5,6,7,8,9,10,11,12,13,14,15,16,17,18,19,20,21,22,23,24,25,26,27,28,29,30,31,32,33,34,35,36,37,38,39,40,41,42,43,44,45,46,47],48),([0,1,2,3,4,5,6,7,8,9,10,11,12,13,14,15,16,17,18,19,20,21,22,23,24,25,26,27,28,29,30,31,32,33,34,35,36,37,38,39,40,41,42,43,44,45,46,47,48],49),([0,1,2,3,4,5,6,7,8,9,10,11,12,13,14,15,16,17,18,19,20,21,22,23,24,25,26,27,28,29,30,31,32,33,34,35,36,37,38,39,40,41,42,43,44,45,46,47],50),([0,1,2,3,4,5,6,7,8,9,10,11,12,13,14,15,16,17,18,19,20,21,22,23,24,25,26,27,28,29,30,31,32,33,34,35,36,37,38,39,40,41,42,43,44,45,46,47,50],51),([0,1,2,3,4,5,6,7,8,9,10,11,12,13,14,15,16,17,18,19,20,21,22,23,24,25,26,27,28,29,30,31,32,33,34,35,36,37,38,39,40,41,42,43,44,45,46,47],52),([0,1,2,3,4,5,6,7,8,9,10,11,12,13,14,15,16,17,18,19,20,21,22,23,24,25,26,27,28,29,30,31,32,33,34,35,36,37,38,39,40,41,42,43,44,45,46,47,52],53),([0,1,2,3,4,5,6,7,8,9,10,11,12,13,14,15,16,17,18,19,20,21,22,23,24,25,26,27,28,29,30,31,32,33,34,35,36,37,38,39,40,41,42,43,44,45,46,47,50,51,52,53],54),([0,1,2,3,4,5,6,7,8,9,10,11,12,13,14,15,16,17,18,19,20,21,22,23,24,25,26,27,28,29,30,31,32,33,34,35,36,37,38,39,40,41,42,43,44,45,46,47,50,51,52,53,54],55),([0,1,2,3,4,5,6,7,8,9,10,11,12,13,14,15,16,17,18,19,20,21,22,23,24,25,26,27,28,29,30,31,32,33,34,35,36,37,38,39,40,41,42,43,44,45,46,47,50,51,52,53,54,55],56),([0,1,2,3,4,5,6,7,8,9,10,11,12,13,14,15,16,17,18,19,20,21,22,23,24,25,26,27,28,29,30,31,32,33,34,35,36,37,38,39,40,41,42,43,44,45,46,47,48,49,50,51,52,53,54,55,56],57),([0,1,2,3,4,5,6,7,8,9,10,11,12,13,14,15,16,17,18,19,20,21,22,23,24,25,26,27,28,29,30,31,32,33,34,35,36,37,38,39,40,41,42,43,44,45,46,47,48,49,50,51,52,53,54,55,56,57],58),([0,1,2,3,4,5,6,7,8,9,10,11,12,13,14,15,16,17,18,19,20,21,22,23,24,25,26,27,28,29,30,31,32,33,34,35,36,37,38,39,40,41,42,43,44,45,46,47,48,49,50,51,52,53,54,55,56,57,58],59),([0,1,2,3,4,5,6,7,8,9,10,11,12,13,14,15,16,17,18,19,20,21,22,23,24,25,26,27,28,29,30,31,32,33,34,35,36,37,38,39,40,41,42,43,44,45,46,47,48,49,50,51,52,53,54,55,56,57,58,59],60),([0,1,2,3,4,5,6,7,8,9,10,11,12,13,14,15,16,17,18,19,20,21,22,23,24,25,26,27,28,29,30,31,32,33,34,35,36,37,38,39,40,41,42,43,44,45,46,47,48,49,50,51,52,53,54,55,56,57,58,59,60],61),([0,1,2,3,4,5,6,7,8,9,10,11,12,13,14,15,16,17,18,19,20,21,22,23,24,25,26,27,28,29,30,31,32,33,34,35,36,37,38,39,40,41,42,43,44,45,46,47,48,49,50,51,52,53,54,55,56,57,58,59,60,61],62),([0,1,2,3,4,5,6,7,8,9,10,11,12,13,14,15,16,17,18,19,20,21,22,23,24,25,26,27,28,29,30,31,32,33,34,35,36,37,38,39,40,41,42,43,44,45,46,47,48,49,50,51,52,53,54,55,56,57,58,59,60,61,62],63),([0,1,2,3,4,5,6,7,8,9,10,11,12,13,14,15,16,17,18,19,20,21,22,23,24,25,26,27,28,29,30,31,32,33,34,35,36,37,38,39,40,41,42,43,44,45,46,47,48,49,50,51,52,53,54,55,56,57,58,59,60,61,62,63],64),([0,1,2,3,4,5,6,7,8,9,10,11,12,13,14,15,16,17,18,19,20,21,22,23,24,25,26,27,28,29,30,31,32,33,34,35,36,37,38,39,40,41,42,43,44,45,46,47,48,49,50,51,52,53,54,55,56,57,58,59,60,61,62,63,64],65),([0,1,2,3,4,5,6,7,8,9,10,11,12,13,14,15,16,17,18,19,20,21,22,23,24,25,26,27,28,29,30,31,32,33,34,35,36,37,38,39,40,41,42,43,44,45,46,47,48,49,50,51,52,53,54,55,56,57,58,59,60,61,62,63,64,65],66)] 57 ?_ | refine sD tOK tmix [([],0),([0],1),([],2),([2],3),([2,3],4),([0,1,2,3,4],5),([0,1,2,3,4,5],6),([0,1,2,3,4,5,6],7),([0,1,2,3,4,5,6,7],8),([0,1,2,3,4,5,6],9),([0,1,2,3,4,5,6,9],10),([0,1,2,3,4,5,6,9,10],11),([0,1,2,3,4,5,6,7,8,9,10,11],12),([0,1,2,3,4,5,6,7,8,9,10,11,12],13),([0,1,2,3,4,5,6,7,8,9,10,11,12,13],14),([0,1,2,3,4,5,6,7,8,9,10,11,12,13,14],15),([0,1,2,3,4,5,6,7,8,9,10,11,12,13,14,15],16),([0,1,2,3,4,5,6,7,8,9,10,11,12,13,14,15,16],17),([0,1,2,3,4,5,6,7,8,9,10,11,12,13,14],18),([0,1,2,3,4,5,6,7,8,9,10,11,12,13,14,18],19),([0,1,2,3,4,5,6,7,8,9,10,11,12,13,14,18,19],20),([0,1,2,3,4,5,6,7,8,9,10,11,12,13,14,15,16,17,18,19,20],21),([0,1,2,3,4,5,6,7,8,9,10,11,12,13,14,15,16,17,18,19,20,21],22),([0,1,2,3,4,5,6,7,8,9,10,11,12,13,14,15,16,17,18,19,20,21,22],23),([0,1,2,3,4,5,6,7,8,9,10,11,12,13,14,15,16,17,18,19,20,21,22,23],24),([0,1,2,3,4,5,6,7,8,9,10,11,12,13,14,15,16,17,18,19,20,21,22,23,24],25),([0,1,2,3,4,5,6,7,8,9,10,11,12,13,14,15,16,17,18,19,20,21,22,23,24,25],26),([0,1,2,3,4,5,6,7,8,9,10,11,12,13,14,15,16,17,18,19,20,21,22,23,24,25,26],27),([0,1,2,3,4,5,6,7,8,9,10,11,12,13,14,15,16,17,18,19,20,21,22,23,24,25,26,27],28)] 21 ?_ | refine sD tOK tmix [([],0),([0],1),([],2),([2],3),([2,3],4),([0,1,2,3,4],5),([0,1,2,3,4,5],6),([0,1,2,3,4,5,6],7),([0,1,2,3,4,5,6,7],8),([0,1,2,3,4,5,6],9),([0,1,2,3,4,5,6,9],10),([0,1,2,3,4,5,6,9,10],11),([0,1,2,3,4,5,6,7,8,9,10,11],12),([0,1,2,3,4,5,6],13),([0,1,2,3,4,5,6,7,8,13],14),([0,1,2,3,4,5,6,7,8,9,10,11,12,13,14],15),([0,1,2,3,4,5,6,7,8,9,10,11,12,13,14,15],16),([0,1,2,3,4,5,6,7,8,9,10,11,12,13,14,15,16],17),([0,1,2,3,4,5,6,7,8,9,10,11,12,13,14,15,16,17],18),([0,1,2,3,4,5,6,7,8,9,10,11,12,13,14,15,16,17,18],19),([0,1,2,3,4,5,6,7,8,9,10,11,12,13,14,15,16,17,18,19],20),([0,1,2,3,4,5,6,7,8,9,10,11,12,13,14,15,16,17],21),([0,1,2,3,4,5,6,7,8,9,10,11,12,13,14,15,16,17,21],22),([0,1,2,3,4,5,6,7,8,9,10,11,12,13,14,15,16,17,18,19,20,21,22],23),([0,1,2,3,4,5,6,7,8,9,10,11,12,13,14,15,16,17,18,19,20,21,22,23],24),([0,1,2,3,4,5,6,7,8,9,10,11,12,13,14,15,16,17,18,19,20,21,22,23,24],25),([0,1,2,3,4,5,6,7,8,9,10,11,12,13,14,15,16,17,18,19,20,21,22,23,24,25],26),([0,1,2,3,4,5,6,7,8,9,10,11,12,13,14,15,16,17,18,19,20,21,22,23,24,25,26],27),([0,1,2,3,4,5,6,7,8,9,10,11,12,13,14,15,16,17,18,19,20,21,22,23,24,25,26,27],28),([0,1,2,3,4,5,6,7,8,9,10,11,12,13,14,15,16,17,18,19,20,21,22,23,24,25,26,27,28],29),([0,1,2,3,4,5,6,7,8,9,10,11,12,13,14,15,16,17,18,19,20,21,22,23,24,25,26],30),([0,1,2,3,4,5,6,7,8,9,10,11,12,13,14,15,16,17,18,19,20,21,22,23,24,25,26,27,28,29,30],31),([0,1,2,3,4,5,6,7,8,9,10,11,12,13,14,15,16,17,18,19,20,21,22,23,24,25,26,27,28,29,30,31],32)] 31 ?_ | refine qD _ ?_ ?_ | (refine nZ ?_; first | refine cst ?_ | refine cb ?_ | refine cs1 ?_) | (apply d_call []; exact rfl; (solve | (conv => lhs; try simp)); (solve | exact rfl | simp); (solve | (conv => lhs; try simp)); intro τ hτ; refine nZ ?_; first | exact cst ⟨rfl, rfl⟩ | exact cb ⟨rfl, rfl⟩ | exact cs1 ⟨rfl, rfl⟩))
          all_goals
            refine w_back 1 [0, 3, 4, 5] (by conv => lhs; simp) (by conv => lhs; simp) (by first | rfl | simp) (by first | rfl | simp) ?_
            exact ih hlt _ _ ⟨by simp, rfl⟩
    · have hj : j = l.length := by omega
      subst hj
      repeat' (first | refine go ?_ | refine s_seq fun y9 hy9 => ?_ | refine qT _ ?_ ?_ | refine qG _ ?_ ?_ | refine qN ?_ ?_ | (refine QB.mk fun hb9 => ?_; (try simp only [hb9]); (try simp at hb9); first | (exfalso; omega) | subst hb9 | skip) | refine w_loop fun y9 hy9 => ?_ | (apply w_again; assumption) | refine sD tOK tmix [([],1),([],2),([],3),([1,2],4),([1,2,3],5),([0,1,2,3,4],6),([0,1,2,3,4,5],7),([0,1,2,3,4,5,6],8),([0,1,2,3,4,5,6],9),([],0),([0,1,2,3,4,5,6,7,9],10),([0,1,2,3,4,5,6,7,8,9,10],11)] 11 ?_ | refine sD tOK tmix [([],0),([0],1),([0,1],2),([0,1,2],3),([0,1,2],4),([0,1,2,4],5),([0,1,2,4,5],6),([0,1,2,3,4,5,6],7),([0,1,2,3,4,5,6,7],8),([0,1,2,3,4,5,6,7,8],9),([0,1,2,3,4,5,6,7,8,9],10),([0,1,2,3,4,5,6,7,8,9,10],11),([0,1,2,3,4,5,6,7,8,9,10,11],12),([0,1,2,3,4,5,6,7,8,9,10,11,12],13),([0,1,2,3,4,5,6,7,8,9,10,11,12,13],14),([0,1,2,3,4,5,6,7,8,9,10,11,12,13,14],15),([0,1,2,3,4,5,6,7,8,9,10,11,12,13,14,15],16),([0,1,2,3,4,5,6,7,8,9,10,11,12,13,14,15,16],17),([0,1,2,3,4,5,6,7,8,9,10,11,12,13,14,15,16,17],18),([0,1,2,3,4,5,6,7,8,9,10,11,12,13,14,15,16,17,18],19),([0,1,2,3,4,5,6,7,8,9,10,11,12,13,14,15,16,17,18,19],20),([0,1,2,3,4,5,6,7,8,9,10,11,12,13,14,15,16,17,18,19,20],21),([0,1,2,3,4,5,6,7,8,9,10,11,12,13,14,15,16,17,18,19,20,21],22),([0,1,2,3,4,5,6,7,8,9,10,11,12,13,14,15,16,17,18,19,20,21,22],23),([0,1,2,3,4,5,6,7,8,9,10,11,12,13,14,15,16,17,18,19,20,21,22,23],24),([0,1,2,3,4,5,6,7,8,9,10,11,12,13,14,15,16,17,18,19,20,21,22,23,24],25),([0,1,2,3,4,5,6,7,8,9,10,11,12,13,14,15,16,17,18,19,20,21,22,23,24,25],26),([0,1,2,3,4,5,6,7,8,9,10,11,12,13,14,15,16,17,18,19,20,21,22,23,24,25,26],27),([0,1,2,3,4,5,6,7,8,9,10,11,12,13,14,15,16,17,18,19,20,21,22,23,24],28),([0,1,2,3,4,5,6,7,8,9,10,11,12,13,14,15,16,17,18,19,20,21,22,23,24,28],29),([0,1,2,3,4,5,6,7,8,9,10,11,12,13,14,15,16,17,18,19,20,21,22,23,24,28,29],30),([0,1,2,3,4,5,6,7,8,9,10,11,12,13,14,15,16,17,18,19,20,21,22,23,24,25,26,27,28,29,30],31),([0,1,2,3,4,5,6,7,8,9,10,11,12,13,14,15,16,17,18,19,20,21,22,23,24,25,26,27,28,29,30,31],32),([0,1,2,3,4,5,6,7,8,9,10,11,12,13,14,15,16,17,18,19,20,21,22,23,24,25,26,27,28,29,30,31,32],33),([0,1,2,3,4,5,6,7,8,9,10,11,12,13,14,15,16,17,18,19,20,21,22,23,24,25,26,27,28,29,30,31,32,33],34),([0,1,2,3,4,5,6,7,8,9,10,11,12,13,14,15,16,17,18,19,20,21,22,23,24,25,26,27,28,29,30,31,32,33,34],35),([0,1,2,3,4,5,6,7,8,9,10,11,12,13,14,15,16,17,18,19,20,21,22,23,24,25,26,27,28,29,30,31,32,33,34,35],36),([0,1,2,3,4,5,6,7,8,9,10,11,12,13,14,15,16,17,18,19,20,21,22,23,24,25,26,27,28,29,30,31,32,33,34,35,36],37),([0,1,2,3,4,5,6,7,8,9,10,11,12,13,14,15,16,17,18,19,20,21,22,23,24,25,26,27,28,29,30,31,32,33,34,35,36,37],38),([0,1,2,3,4,5,6,7,8,9,10,11,12,13,14,15,16,17,18,19,20,21,22,23,24,25,26,27,28,29,30,31,32,33,34,35,36,37,38],39),([0,1,2,3,4,5,6,7,8,9,10,11,12,13,14,15,16,17,18,19,20,21,22,23,24,25,26,27,28,29,30,31,32,33,34,35,36,37,38,39],40),([0,1,2,3,4,5,6,7,8,9,10,11,12,13,14,15,16,17,18,19,20,21,22,23,24,25,26,27,28,29,30,31,32,33,34,35,36,37,38,39,40],41),([0,1,2,3,4,5,6,7,8,9,10,11,12,13,14,15,16,17,18,19,20,21,22,23,24,25,26,27,28,29,30,31,32,33,34,35,36,37,38,39,40,41],42),([0,1,2,3,4,5,6,7,8,9,10,11,12,13,14,15,16,17,18,19,20,21,22,23,24,25,26,27,28,29,30,31,32,33,34,35,36,37,38,39,40,41,42],43),([0,1,2,3,4,5,6,7,8,9,10,11,12,13,14,15,16,17,18,19,20,21,22,23,24,25,26,27,28,29,30,31,32,33,34,35,36,37,38,39,40],44),([0,1,2,3,4,5,6,7,8,9,10,11,12,13,14,15,16,17,18,19,20,21,22,23,24,25,26,27,28,29,30,31,32,33,34,35,36,37,38,39,40,41,42,43,44],45),([0,1,2,3,4,5,6,7,8,9,10,11,12,13,14,15,16,17,18,19,20,21,22,23,24,25,26,27,28,29,30,31,32,33,34,35,36,37,38,39,40,41,42,43,44,45],46),([0,1,2,3,4,5,6,7,8,9,10,11,12,13,14,15,16,17,18,19,20,21,22,23,24,25,26,27,28,29,30,31,32,33,34,35,36,37,38,39,40,41,42,43,44,45,46],47),([0,1,2,3,4,5,6,7,8,9,10,11,12,13,14,15,16,17,18,19,20,21,22,23,24,25,26,27,28,29,30,31,32,33,34,35,36,37,38,39,40,41,42,43,44,45,46,47],48),([0,1,2,3,4,5,6,7,8,9,10,11,12,13,14,15,16,17,18,19,20,21,22,23,24,25,26,27,28,29,30,31,32,33,34,35,36,37,38,39,40,41,42,43,44,45,46,47,48],49),([0,1,2,3,4,5,6,7,8,9,10,11,12,13,14,15,16,17,18,19,20,21,22,23,24,25,26,27,28,29,30,31,32,33,34,35,36,37,38,39,40,41,42,43,44,45,46,47],50),([0,1,2,3,4,5,6,7,8,9,10,11,12,13,14,15,16,17,18,19,20,21,22,23,24,25,26,27,28,29,30,31,32,33,34,35,36,37,38,39,40,41,42,43,44,45,46,47,50],51),([0,1,2,3,4,5,6,7,8,9,10,11,12,13,14,15,16,17,18,19,20,21,22,23,24,25,26,27,28,29,30,31,32,33,34,35,36,37,38,39,40,41,42,43,44,45,46,47],52),([0,1,2,3,4,5,6,7,8,9,10,11,12,13,14,15,16,17,18,19,20,21,22,23,24,25,26,27,28,29,30,31,32,33,34,35,36,37,38,39,40,41,42,43,44,45,46,47,52],53),([0,1,2,3,4,5,6,7,8,9,10,11,12,13,14,15,16,17,18,19,20,21,22,23,24,25,26,27,28,29,30,31,32,33,34,35,36,37,38,39,40,41,42,43,44,45,46,47,50,51,52,53],54),([0,1,2,3,4,5,6,7,8,9,10,11,12,13,14,15,16,17,18,19,20,21,22,23,24,25,26,27,28,29,30,31,32,33,34,35,36,37,38,39,40,41,42,43,44,45,46,47,50,51,52,53,54],55),([0,1,2,3,4,5,6,7,8,9,10,11,12,13,14,15,16,17,18,19,20,21,22,23,24,25,26,27,28,29,30,31,32,33,34,35,36,37,38,39,40,41,42,43,44,45,46,47,50,51,52,53,54,55],56),([0,1,2,3,4,5,6,7,8,9,10,11,12,13,14,15,16,17,18,19,20,21,22,23,24,25,26,27,28,29,30,31,32,33,34,35,36,37,38,39,40,41,42,43,44,45,46,47,48,49,50,51,52,53,54,55,56],57),([0,1,2,3,4,5,6,7,8,9,10,11,12,13,14,15,16,17,18,19,20,21,22,23,24,25,26,27,28,29,30,31,32,33,34,35,36,37,38,39,40,41,42,43,44,45,46,47,48,49,50,51,52,53,54,55,56,57],58),([0,1,2,3,4,5,6,7,8,9,10,11,12,13,14,15,16,17,18,19,20,21,22,23,24,25,26,27,28,29,30,31,32,33,34,35,36,37,38,39,40,41,42,43,44,45,46,47,48,49,50,51,52,53,54,55,56,57,58],59),([0,1,2,3,4,5,6,7,8,9,10,11,12,13,14,15,16,17,18,19,20,21,22,23,24,25,26,27,28,29,30,31,32,33,34,35,36,37,38,39,40,41,42,43,44,45,46,47,48,49,50,51,52,53,54,55,56,57,58,59],60),([0,1,2,3,4,5,6,7,8,9,10,11,12,13,14,15,16,17,18,19,20,21,22,23,24,25,26,27,28,29,30,31,32,33,34,35,36,37,38,39,40,41,42,43,44,45,46,47,48,49,50,51,52,53,54,55,56,57,58,59,60],61),([0,1,2,3,4,5,6,7,8,9,10,11,12,13,14,15,16,17,18,19,20,21,22,23,24,25,26,27,28,29,30,31,32,33,34,35,36,37,38,39,40,41,42,43,44,45,46,47,48,49,50,51,52,53,54,55,56,57,58,59,60,61],62),([0,1,2,3,4,5,6,7,8,9,10,11,12,13,14,15,16,17,18,19,20,21,22,23,24,25,26,27,28,29,30,31,32,33,34,35,36,37,38,39,40,41,42,43,44,45,46,47,48,49,50,51,52,53,54,55,56,57,58,59,60,61,62],63),([0,1,2,3,4,5,6,7,8,9,10,11,12,13,14,15,16,17,18,19,20,21,22,23,24,25,26,27,28,29,30,31,32,33,34,35,36,37,38,39,40,41,42,43,44,45,46,47,48,49,50,51,52,53,54,55,56,57,58,59,60,61,62,63],64),([0,1,2,3,4,5,6,7,8,9,10,11,12,13,14,15,16,17,18,19,20,21,22,23,24,25,26,27,28,29,30,31,32,33,34,35,36,37,38,39,40,41,42,43,44,45,46,47,48,49,50,51,52,53,54,55,56,57,58,59,60,61,62,63,64],65),([0,1,2,3,4,5,6,7,8,9,10,11,12,13,14,15,16,17,18,19,20,21,22,23,24,25,26,27,28,29,30,31,32,33,34,35,36,37,38,39,40,41,42,43,44,45,46,47,48,49,50,51,52,53,54,55,56,57,58,59,60,61,62,63,64,65],66)] 57 ?_ | refine sD tOK tmix [([],0),([0],1),([],2),([2],3),([2,3],4),([0,1,2,3,4],5),([0,1,2,3,4,5],6),([0,1,2,3,4,5,6],7),([0,1,2,3,4,5,6,7],8),([0,1,2,3,4,5,6],9),([0,1,2,3,4,5,6,9],10),([0,1,2,3,4,5,6,9,10],11),([0,1,2,3,4,5,6,7,8,9,10,11],12),([0,1,2,3,4,5,6,7,8,9,10,11,12],13),([0,1,2,3,4,5,6,7,8,9,10,11,12,13],14),([0,1,2,3,4,5,6,7,8,9,10,11,12,13,14],15),([0,1,2,3,4,5,6,7,8,9,10,11,12,13,14,15],16),([0,1,2,3,4,5,6,7,8,9,10,11,12,13,14,15,16],17),([0,1,2,3,4,5,6,7,8,9,10,11,12,13,14],18),([0,1,2,3,4,5,6,7,8,9,10,11,12,13,14,18],19),([0,1,2,3,4,5,6,7,8,9,10,11,12,13,14,18,19],20),([0,1,2,3,4,5,6,7,8,9,10,11,12,13,14,15,16,17,18,19,20],21),([0,1,2,3,4,5,6,7,8,9,10,11,12,13,14,15,16,17,18,19,20,21],22),([0,1,2,3,4,5,6,7,8,9,10,11,12,13,14,15,16,17,18,19,20,21,22],23),([0,1,2,3,4,5,6,7,8,9,10,11,12,13,14,15,16,17,18,19,20,21,22,23],24),([0,1,2,3,4,5,6,7,8,9,10,11,12,13,14,15,16,17,18,19,20,21,22,23,24],25),([0,1,2,3,4,5,6,7,8,9,10,11,12,13,14,15,16,17,18,19,20,21,22,23,24,25],26),([0,1,2,3,4,5,6,7,8,9,10,11,12,13,14,15,16,17,18,19,20,21,22,23,24,25,26],27),([0,1,2,3,4,5,6,7,8,9,10,11,12,13,14,15,16,17,18,19,20,21,22,23,24,25,26,27],28)] 21 ?_ | refine sD tOK tmix [([],0),([0],1),([],2),([2],3),([2,3],4),([0,1,2,3,4],5),([0,1,2,3,4,5],6),([0,1,2,3,4,5,6],7),([0,1,2,3,4,5,6,7],8),([0,1,2,3,4,5,6],9),([0,1,2,3,4,5,6,9],10),([0,1,2,3,4,5,6,9,10],11),([0,1,2,3,4,5,6,7,8,9,10,11],12),([0,1,2,3,4,5,6],13),([0,1,2,3,4,5,6,7,8,13],14),([0,1,2,3,4,5,6,7,8,9,10,11,12,13,14],15),([0,1,2,3,4,5,6,7,8,9,10,11,12,13,14,15],16),([0,1,2,3,4,5,6,7,8,9,10,11,12,13,14,15,16],17),([0,1,2,3,4,5,6,7,8,9,10,11,12,13,14,15,16,17],18),([0,1,2,3,4,5,6,7,8,9,10,11,12,13,14,15,16,17,18],19),([0,1,2,3,4,5,6,7,8,9,10,11,12,13,14,15,16,17,18,19],20),([0,1,2,3,4,5,6,7,8,9,10,11,12,13,14,15,16,17],21),([0,1,2,3,4,5,6,7,8,9,10,11,12,13,14,15,16,17,21],22),([0,1,2,3,4,5,6,7,8,9,10,11,12,13,14,15,16,17,18,19,20,21,22],23),([0,1,2,3,4,5,6,7,8,9,10,11,12,13,14,15,16,17,18,19,20,21,22,23],24),([0,1,2,3,4,5,6,7,8,9,10,11,12,13,14,15,16,17,18,19,20,21,22,23,24],25),([0,1,2,3,4,5,6,7,8,9,10,11,12,13,14,15,16,17,18,19,20,21,22,23,24,25],26),([0,1,2,3,4,5,6,7,8,9,10,11,12,13,14,15,16,17,18,19,20,21,22,23,24,25,26],27),([0,1,2,3,4,5,6,7,8,9,10,11,12,13,14,15,16,17,18,19,20,21,22,23,24,25,26,27],28),([0,1,2,3,4,5,6,7,8,9,10,11,12,13,14,15,16,17,18,19,20,21,22,23,24,25,26,27,28],29),([0,1,2,3,4,5,6,7,8,9,10,11,12,13,14,15,16,17,18,19,20,21,22,23,24,25,26],30),([0,1,2,3,4,5,6,7,8,9,10,11,12,13,14,15,16,17,18,19,20,21,22,23,24,25,26,27,28,29,30],31),([0,1,2,3,4,5,6,7,8,9,10,11,12,13,14,15,16,17,18,19,20,21,22,23,24,25,26,27,28,29,30,31],32)] 31 ?_ | refine qD _ ?_ ?_)
      exact h
end
end Go.Proofs.YtncbfppafgjdiaaGreat
end
