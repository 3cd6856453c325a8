/- ControlTime, walked. -/
import Derived.Test.YtncbfppafgjdiaaGreatXk
section
set_option linter.unusedVariables false
set_option linter.unusedSimpArgs false
set_option maxRecDepth 20000
namespace Go.Proofs.YtncbfppafgjdiaaGreat
open Go
attribute [local irreducible] T TL C RG DP SP YR afterRG DPcall
attribute [-simp] List.map_set
/-- What may go out behind an event. -/
theorem out_shape (l : LiveV) (e : EvV) : (stepL l e).2 = [] ∨ (okEv e = true ∧ e.kind = 2 ∧ ∃ n, (stepL l e).2 = [{ kind := 5, t := (stepL l e).1.now, n := n }] ∨ (∃ i, (stepL l e).2 = [{ kind := 7, id := i }, { kind := 5, t := (stepL l e).1.now, n := n }]) ∨
    (∃ i, (stepL l e).2 = [{ kind := 5, t := (stepL l e).1.now, n := n }, { kind := 6, id := i }]) ∨ ∃ i k, (stepL l e).2 = [{ kind := 7, id := i }, { kind := 5, t := (stepL l e).1.now, n := n }, { kind := 6, id := k }]) := by
  cases ho : okEv e with
  | false => rw [step_o (.inl ho)]; exact .inl rfl
  | true =>
    have hk5 : e.kind = 1 ∨ e.kind = 2 ∨ e.kind = 3 ∨ e.kind = 4 ∨ (¬ 1 = e.kind ∧ ¬ 2 = e.kind ∧ ¬ 3 = e.kind ∧ ¬ 4 = e.kind) := by omega
    rcases hk5 with hk | hk | hk | hk | hk
    · rw [step_1 ho hk]; exact .inl rfl
    · rw [step_2 ho hk]
      unfold tickL
      simp only
      split
      · exact .inl rfl
      · refine .inr ⟨trivial, hk, (decideL (rollL (nowL (moreL l) e.t))).hold.cur, ?_⟩
        have hnow : (judgeL (runL (decideL (rollL (nowL (moreL l) e.t))))).now = (decideL (rollL (nowL (moreL l) e.t))).now := by
          unfold judgeL
          split
          · rfl
          · simp only; split <;> rfl
        simp only [hnow]
        generalize runL (decideL (rollL (nowL (moreL l) e.t))) = Z
        generalize decideL (rollL (nowL (moreL l) e.t)) = Y
        generalize nowL (moreL l) e.t = X
        unfold rollO judgeO
        split
        · split
          · exact .inr (.inl ⟨_, rfl⟩)
          · split
            · exact .inr (.inl ⟨_, rfl⟩)
            · exact .inr (.inr (.inr ⟨_, _, rfl⟩))
        · split
          · exact .inl rfl
          · split
            · exact .inl rfl
            · exact .inr (.inr (.inl ⟨_, rfl⟩))
    · rw [step_3 ho hk]; exact .inl rfl
    · rw [step_4 ho hk]; exact .inl rfl
    · rw [step_o (.inr (inEv_f hk))]; exact .inl rfl
theorem step_now {l : LiveV} (hl : okL l) (e : EvV) : l.now ≤ (stepL l e).1.now := by
  cases ho : okEv e with
  | false => rw [step_o (.inl ho)]; exact Int.le_refl _
  | true =>
    have hk5 : e.kind = 1 ∨ e.kind = 2 ∨ e.kind = 3 ∨ e.kind = 4 ∨ (¬ 1 = e.kind ∧ ¬ 2 = e.kind ∧ ¬ 3 = e.kind ∧ ¬ 4 = e.kind) := by omega
    rcases hk5 with hk | hk | hk | hk | hk
    · rw [step_1 ho hk]; unfold sampleL; split <;> exact Int.le_refl _
    · rw [step_2 ho hk]
      have h0 : l.now ≤ (nowL (moreL l) e.t).now := by simp only [nowL, moreL]; omega
      have h1 : ∀ X : LiveV, (rollL X).now = X.now := fun X => by unfold rollL; split <;> rfl
      have h2 : ∀ X : LiveV, (judgeL X).now = X.now := fun X => by
        unfold judgeL
        split
        · rfl
        · simp only; split <;> rfl
      unfold tickL
      simp only
      split
      · exact h0
      · show l.now ≤ (judgeL _).now
        rw [h2]
        show l.now ≤ (rollL _).now
        rw [h1]; exact h0
    · rw [step_3 ho hk]; unfold policyL; split <;> exact Int.le_refl _
    · rw [step_4 ho hk]; exact Int.le_refl _
    · rw [step_o (.inr (inEv_f hk))]; exact Int.le_refl _
theorem step_ins {l : LiveV} (e : EvV) (h : l.ins < 1099511627776) : (stepL l e).1.ins = if okEv e = true ∧ inEv e = true then l.ins + 1 else l.ins := by
  cases ho : okEv e with
  | false => rw [step_o (.inl ho)]; simp
  | true =>
    have hm : (moreL l).ins = l.ins + 1 := by unfold moreL; simp only; rw [if_pos h]
    have hk5 : e.kind = 1 ∨ e.kind = 2 ∨ e.kind = 3 ∨ e.kind = 4 ∨ (¬ 1 = e.kind ∧ ¬ 2 = e.kind ∧ ¬ 3 = e.kind ∧ ¬ 4 = e.kind) := by omega
    rcases hk5 with hk | hk | hk | hk | hk
    · rw [step_1 ho hk, if_pos ⟨rfl, inEv_t (by omega)⟩, ← hm]; simp only; unfold sampleL; split <;> rfl
    · rw [step_2 ho hk, if_pos ⟨rfl, inEv_t (by omega)⟩, ← hm]
      have h1 : ∀ X : LiveV, (rollL X).ins = X.ins := fun X => by unfold rollL; split <;> rfl
      have h2 : ∀ X : LiveV, (judgeL X).ins = X.ins := fun X => by
        unfold judgeL
        split
        · rfl
        · simp only; split <;> rfl
      unfold tickL
      simp only
      split
      · rfl
      · show (judgeL _).ins = _
        rw [h2]
        show (rollL _).ins = _
        rw [h1]; rfl
    · rw [step_3 ho hk, if_pos ⟨rfl, inEv_t (by omega)⟩, ← hm]; simp only; unfold policyL; split <;> rfl
    · rw [step_4 ho hk, if_pos ⟨rfl, inEv_t (by omega)⟩, ← hm]; rfl
    · rw [step_o (.inr (inEv_f hk)), if_neg (by rw [inEv_f hk]; simp)]
theorem xsL_ins (l : List EvV) (j : Nat) (h : j ≤ 80) : (xsL l j).ins ≤ j := by
  induction j with
  | zero => exact Int.le_refl _
  | succ j ih =>
    have ih := ih (by omega)
    rcases Nat.lt_or_ge j l.length with hj | hj
    · rw [xsL_succ hj, step_ins _ (by omega)]
      split <;> omega
    · have : xsL l (j + 1) = xsL l j := by unfold xsL; rw [List.take_of_length_le hj, List.take_of_length_le (by omega)]
      rw [this]; omega
end Go.Proofs.YtncbfppafgjdiaaGreat
end
section
/- ControlBounds in plain terms: what a step tells of bounds. -/
set_option linter.unusedVariables false
set_option linter.unusedSimpArgs false
set_option maxRecDepth 20000
namespace Go.Proofs.YtncbfppafgjdiaaGreat
open Go
theorem lim_facts {c : ConfV} {h : HoldV} {w now : Int} (hc : c.min ≤ c.max) (hr : 0 ≤ c.rate) (h1 : c.min ≤ h.cur) (h2 : h.cur ≤ c.max) : c.min ≤ (limN c h w now).cur ∧ (limN c h w now).cur ≤ c.max ∧ h.cur - c.rate ≤ (limN c h w now).cur ∧ (limN c h w now).cur ≤ h.cur + c.rate ∧
    (h.cur < (limN c h w now).cur → (limN c h w now).grew = true ∧ (limN c h w now).last = now) ∧ ((limN c h w now).cur ≤ h.cur → (limN c h w now).grew = h.grew ∧ (limN c h w now).last = h.last) ∧
    ((limN c h w now).cur < h.cur → h.grew = true → c.stable ≤ now - h.last) := by
  have e : intoH c h = h := by
    unfold intoH
    rw [show max c.min (min h.cur c.max) = h.cur by omega]
  unfold limN
  simp only [e]
  split
  · refine ⟨by show c.min ≤ max _ _; omega, by show max _ _ ≤ _; omega, by show _ ≤ max _ _; omega, by show max _ _ ≤ _; omega, fun _ => ⟨rfl, rfl⟩, fun hh => ?_, fun hh => ?_⟩
    · exact absurd hh (by show ¬ max _ _ ≤ _; omega)
    · exact absurd hh (by show ¬ max _ _ < _; omega)
  · split
    · exact ⟨h1, h2, by omega, by omega, fun hh => by omega, fun _ => ⟨rfl, rfl⟩, fun hh => by omega⟩
    · rename_i hn hg
      refine ⟨by show c.min ≤ max _ _; omega, by show max _ _ ≤ _; omega, by show _ ≤ max _ _; omega, by show max _ _ ≤ _; omega, fun hh => ?_, fun _ => ⟨rfl, rfl⟩, fun hh hgr => ?_⟩
      · exact absurd hh (by show ¬ _ < max _ _; omega)
      · rcases Int.lt_or_le (now - h.last) c.stable with hl | hl
        · exact absurd ⟨hgr, hl⟩ hg
        · exact hl
/-- What is known of the last decision. -/
structure bnd (X : LiveV) (last : Int) (grew : Bool) (at_ : Int) : Prop where
  set : X.set_ = true → X.conf.min ≤ X.hold.cur ∧ X.hold.cur ≤ X.conf.max
  last : (last = -1 ∧ grew = false) ∨ (X.set_ = true ∧ last = X.hold.cur)
  grew : grew = true → X.hold.grew = true ∧ at_ = X.hold.last
  at_ : 0 ≤ at_ ∧ at_ ≤ 1099511627776
theorem bnd_zero : bnd {} (-1) false 0 := ⟨fun h => (by cases h), .inl ⟨rfl, rfl⟩, fun h => (by cases h), by decide⟩
theorem roll_keeps (X : LiveV) : (rollL X).hold = X.hold ∧ (rollL X).conf = X.conf ∧ (rollL X).set_ = X.set_ ∧ (rollL X).now = X.now ∧ (rollL X).util = X.util ∧ (rollL X).demand = X.demand := by unfold rollL; split <;> exact ⟨rfl, rfl, rfl, rfl, rfl, rfl⟩
theorem judge_keeps (X : LiveV) : (judgeL X).hold = X.hold ∧ (judgeL X).conf = X.conf ∧ (judgeL X).set_ = X.set_ ∧ (judgeL X).now = X.now ∧ (judgeL X).util = X.util ∧ (judgeL X).demand = X.demand := by
  unfold judgeL
  split
  · exact ⟨rfl, rfl, rfl, rfl, rfl, rfl⟩
  · simp only; split <;> exact ⟨rfl, rfl, rfl, rfl, rfl, rfl⟩
/-- A tick tells nothing, and changes nothing of these; or it decides. -/
theorem tick_hold (l : LiveV) (t : Int) : ((tickL l t).2 = [] ∧ (tickL l t).1.hold = l.hold ∧ (tickL l t).1.conf = l.conf ∧ (tickL l t).1.set_ = l.set_) ∨
    (l.set_ = true ∧ (tickL l t).1.conf = l.conf ∧ (tickL l t).1.set_ = true ∧ ∃ w, (tickL l t).1.hold = limN l.conf l.hold w (tickL l t).1.now ∧ (tickL l t).2 ≠ []) := by
  unfold tickL
  simp only
  split
  · exact .inl ⟨rfl, rfl, rfl, rfl⟩
  · rename_i hs
    have hs : (nowL l t).set_ = true := by
      cases h : (nowL l t).set_ with
      | true => rfl
      | false => exact absurd (.inl h) hs
    have j := judge_keeps (runL (decideL (rollL (nowL l t))))
    have r := roll_keeps (nowL l t)
    refine .inr ⟨hs, ?_, ?_, (nextP (rollL (nowL l t)).pol (rollL (nowL l t)).state (rollL (nowL l t)).hold.cur (rollL (nowL l t)).util (rollL (nowL l t)).now).2, ?_, by simp⟩
    · rw [j.2.1]; exact r.2.1
    · rw [j.2.2.1]; exact r.2.2.1.trans hs
    · rw [j.1, j.2.2.2.1]
      show limN (rollL (nowL l t)).conf (rollL (nowL l t)).hold _ (rollL (nowL l t)).now = limN l.conf l.hold _ (rollL (nowL l t)).now
      rw [r.1, r.2.1]; rfl
theorem okConf_n {c : ConfV} (h : okConf c = true) : 1 ≤ c.min ∧ c.min ≤ c.max ∧ c.max ≤ 1000 ∧ 1 ≤ c.rate ∧ c.rate ≤ 1000 ∧ 0 ≤ c.stable ∧ c.stable ≤ 1099511627776 := by
  rw [okConf_b, decide_eq_true_eq] at h; omega
/-- What goes out, its decision known. -/
theorem out_hold (l : LiveV) (e : EvV) : (stepL l e).2 = [] ∨ (okEv e = true ∧ e.kind = 2 ∧ ((stepL l e).2 = [{ kind := 5, t := (stepL l e).1.now, n := (stepL l e).1.hold.cur }] ∨ (∃ i, (stepL l e).2 = [{ kind := 7, id := i }, { kind := 5, t := (stepL l e).1.now, n := (stepL l e).1.hold.cur }]) ∨
    (∃ i, (stepL l e).2 = [{ kind := 5, t := (stepL l e).1.now, n := (stepL l e).1.hold.cur }, { kind := 6, id := i }]) ∨ ∃ i k, (stepL l e).2 = [{ kind := 7, id := i }, { kind := 5, t := (stepL l e).1.now, n := (stepL l e).1.hold.cur }, { kind := 6, id := k }])) := by
  rcases out_shape l e with h | ⟨ho, hk, n, h⟩
  · exact .inl h
  · refine .inr ⟨ho, hk, ?_⟩
    have hn : ∀ ev ∈ (stepL l e).2, ev.kind = 5 → ev.n = (stepL l e).1.hold.cur := by
      rw [step_2 ho hk]
      unfold tickL
      simp only
      split
      · intro ev he; cases he
      · intro ev he h5
        have j := judge_keeps (runL (decideL (rollL (nowL (moreL l) e.t))))
        rw [j.1]
        rcases List.mem_append.1 he with he | he
        · rcases List.mem_append.1 he with he | he
          · unfold rollO at he
            split at he
            · simp at he; subst he; cases h5
            · cases he
          · simp at he; subst he; rfl
        · unfold judgeO at he
          split at he
          · cases he
          · split at he
            · cases he
            · simp at he; subst he; cases h5
    rcases h with h | ⟨i, h⟩ | ⟨i, h⟩ | ⟨i, k, h⟩
    all_goals
      have := hn { kind := 5, t := (stepL l e).1.now, n := n } (by rw [h]; simp) rfl
      simp only at this
      subst this
    · exact .inl h
    · exact .inr (.inl ⟨i, h⟩)
    · exact .inr (.inr (.inl ⟨i, h⟩))
    · exact .inr (.inr (.inr ⟨i, k, h⟩))
theorem bound_cases {X : LiveV} (hX : okL X) {last at_ : Int} {grew : Bool} (hb : bnd X last grew at_) (e : EvV) :
    ((¬ e.kind = 4 ∨ (e.kind = 4 ∧ okEv e = false)) ∧ (stepL X e).2 = [] ∧ (stepL X e).1.conf = X.conf ∧ bnd (stepL X e).1 last grew at_) ∨
    (okEv e = true ∧ e.kind = 4 ∧ (stepL X e).2 = [] ∧ (stepL X e).1.conf = e.conf ∧ bnd (stepL X e).1 (-1) false at_) ∨
    (okEv e = true ∧ e.kind = 2 ∧ okConf X.conf = true ∧ (stepL X e).1.conf = X.conf ∧ ∃ n t, ((stepL X e).2 = [{ kind := 5, t := t, n := n }] ∨ (∃ i, (stepL X e).2 = [{ kind := 7, id := i }, { kind := 5, t := t, n := n }]) ∨
      (∃ i, (stepL X e).2 = [{ kind := 5, t := t, n := n }, { kind := 6, id := i }]) ∨ ∃ i k, (stepL X e).2 = [{ kind := 7, id := i }, { kind := 5, t := t, n := n }, { kind := 6, id := k }]) ∧
      0 ≤ t ∧ t ≤ 1099511627776 ∧ X.conf.min ≤ n ∧ n ≤ X.conf.max ∧ ((last = -1 ∧ grew = false) ∨ (0 ≤ last ∧ last ≤ 1000 ∧ last - X.conf.rate ≤ n ∧ n ≤ last + X.conf.rate)) ∧ (grew = true → (last ≤ n ∨ X.conf.stable ≤ t - at_)) ∧
      ((last = -1 ∨ n ≤ last) → bnd (stepL X e).1 n grew at_) ∧ (0 ≤ last → last < n → bnd (stepL X e).1 n true t)) := by
  cases ho : okEv e with
  | false =>
    refine .inl ⟨(Decidable.em (e.kind = 4)).elim (fun h => .inr ⟨h, rfl⟩) .inl, ?_⟩
    rw [step_o (.inl ho)]; exact ⟨rfl, rfl, hb⟩
  | true =>
    have hk5 : e.kind = 1 ∨ e.kind = 2 ∨ e.kind = 3 ∨ e.kind = 4 ∨ (¬ 1 = e.kind ∧ ¬ 2 = e.kind ∧ ¬ 3 = e.kind ∧ ¬ 4 = e.kind) := by omega
    rcases hk5 with hk | hk | hk | hk | hk
    · refine .inl ⟨.inl (by omega), ?_⟩
      rw [step_1 ho hk]; unfold sampleL; split <;> exact ⟨rfl, rfl, ⟨hb.set, hb.last, hb.grew, hb.at_⟩⟩
    · have hout := out_hold X e
      have hY := hX.step (e := e)
      have ht := tick_hold (moreL X) e.t
      rw [show tickL (moreL X) e.t = stepL X e from (step_2 ho hk).symm] at ht
      have m1 : (moreL X).hold = X.hold := rfl
      have m2 : (moreL X).conf = X.conf := rfl
      have m3 : (moreL X).set_ = X.set_ := rfl
      rw [m1, m2, m3] at ht
      generalize stepL X e = S at *
      rcases ht with ⟨h1, h2, h3, h4⟩ | ⟨h1, h2, h3, w, h4, h5⟩
      · refine .inl ⟨.inl (by omega), h1, h3, ⟨?_, ?_, ?_, hb.at_⟩⟩
        · rw [h2, h3, h4]; exact hb.set
        · rw [h2, h4]; exact hb.last
        · rw [h2]; exact hb.grew
      · rcases hout with h0 | ⟨_, _, hout⟩
        · exact absurd h0 h5
        · have hc := hX.conf h1
          have hcn := okConf_n hc
          have hbs := hb.set h1
          have lf := lim_facts (c := X.conf) (h := X.hold) (w := w) (now := S.1.now) hcn.2.1 (by omega) hbs.1 hbs.2
          rw [← h4] at lf
          refine .inr (.inr ⟨rfl, hk, hc, h2, S.1.hold.cur, S.1.now, hout, hY.now.1, hY.now.2, lf.1, lf.2.1, ?_, ?_, ?_, ?_⟩)
          · rcases hb.last with h | h
            · exact .inl h
            · exact .inr (by rw [h.2]; omega)
          · intro hg
            rcases Int.lt_or_le S.1.hold.cur last with hlt | hlt
            rotate_left
            · exact .inl hlt
            refine .inr ?_
            have hgg := hb.grew hg
            rcases hb.last with h | h
            · rw [h.2] at hg; cases hg
            · rw [hgg.2]; exact lf.2.2.2.2.2.2 (by rw [← h.2]; exact hlt) hgg.1
          · intro hl
            refine ⟨fun _ => by rw [h2]; exact ⟨lf.1, lf.2.1⟩, .inr ⟨h3, rfl⟩, fun hg => ?_, hb.at_⟩
            have hgg := hb.grew hg
            rcases hb.last with h | h
            · rw [h.2] at hg; cases hg
            · have hbl := hbs.1
              have := lf.2.2.2.2.2.1 (by have := h.2; omega)
              rw [this.1, this.2]; exact hgg
          · intro h0 hl
            refine ⟨fun _ => by rw [h2]; exact ⟨lf.1, lf.2.1⟩, .inr ⟨h3, rfl⟩, fun hg => ?_, hY.now⟩
            rcases hb.last with h | h
            · omega
            · have := lf.2.2.2.2.1 (by rw [← h.2]; exact hl)
              exact ⟨this.1, this.2.symm⟩
    · refine .inl ⟨.inl (by omega), ?_⟩
      rw [step_3 ho hk]; unfold policyL; split <;> exact ⟨rfl, rfl, ⟨hb.set, hb.last, hb.grew, hb.at_⟩⟩
    · refine .inr (.inl ⟨rfl, hk, ?_⟩)
      have hc := okConf_n (okEv_conf ho hk)
      rw [step_4 ho hk]
      refine ⟨rfl, rfl, ⟨fun _ => ?_, .inl ⟨rfl, rfl⟩, fun h => (by cases h), hb.at_⟩⟩
      simp only [confL, intoH]
      omega
    · refine .inl ⟨.inl (by omega), ?_⟩
      rw [step_o (.inr (inEv_f hk))]; exact ⟨rfl, rfl, hb⟩
end Go.Proofs.YtncbfppafgjdiaaGreat
end
section
/- What a tick does, part by part: rollbacks and promotions. -/
set_option linter.unusedVariables false
set_option linter.unusedSimpArgs false
set_option maxRecDepth 20000
namespace Go.Proofs.YtncbfppafgjdiaaGreat
open Go
theorem pickFrom_cases (c : ConfV) (live : SimV) (l : List SimV) : ∀ (xs : List SimV) (i best : Nat), pickFrom c live l xs i best = best ∨ ∃ k, k < xs.length ∧ pickFrom c live l xs i best = i + k + 1 ∧ beats c live (gt xs k) = true
  | [], i, best => .inl rfl
  | x :: xs, i, best => by
    rw [pickFrom]
    split
    · rename_i hb
      rcases pickFrom_cases c live l xs (i + 1) (i + 1) with h | ⟨k, h1, h2, h3⟩
      · exact .inr ⟨0, by simp, by rw [h], hb.1⟩
      · exact .inr ⟨k + 1, by simp; omega, by rw [h2]; omega, h3⟩
    · rcases pickFrom_cases c live l xs (i + 1) best with h | ⟨k, h1, h2, h3⟩
      · exact .inl h
      · exact .inr ⟨k + 1, by simp; omega, by rw [h2]; omega, h3⟩
theorem pickS_beats {c : ConfV} {live : SimV} {l : List SimV} (h : pickS c live l ≠ 0) : 1 ≤ pickS c live l ∧ pickS c live l ≤ l.length ∧ beats c live (gt l (pickS c live l - 1)) = true := by
  rcases pickFrom_cases c live l l 0 0 with h1 | ⟨k, h1, h2, h3⟩
  · exact absurd h1 h
  · have : pickS c live l = k + 1 := by unfold pickS; rw [h2]; omega
    rw [this]; exact ⟨by omega, by omega, h3⟩
/-- A probation is of a controller that runs. -/
def prb (X : LiveV) : Prop := X.probe.on = true → X.set_ = true ∧ X.pol.kind ≠ 0
/-- What is told of a promotion. -/
structure Prom (X Y : LiveV) (id : Nat) : Prop where
  id0 : 1 ≤ id
  id1 : id ≤ X.shadows.length
  on : Y.probe.on = true
  pid : Y.probe.id = id
  pol : Y.pol = (gt X.shadows (id - 1)).pol
  kind : Y.sim.pol.kind ≠ 0
  win : (Y.sim.marks.length : Int) = X.conf.window
  bad : badM Y.sim.marks ≤ X.conf.ceil
  left : Y.probe.left = X.conf.probe
  pbad : Y.probe.bad = 0
/-- What is told of the one that was there, if no rollback came with it. -/
structure Beat (X Y : LiveV) : Prop where
  win : ((stepSim X.conf X.sim X.demand Y.now).marks.length : Int) = X.conf.window
  cost : costM Y.sim.marks + X.conf.margin ≤ costM (stepSim X.conf X.sim X.demand Y.now).marks
  pol : Y.probe.pol = X.pol
  state : Y.probe.state = (nextP X.pol X.state X.hold.cur X.util Y.now).1
def backN (X Y : LiveV) : Int := (limN X.conf X.hold (nextP X.probe.pol X.probe.state X.hold.cur X.util Y.now).2 Y.now).cur
theorem judge_cases (Z : LiveV) : (Z.probe.on = true ∧ judgeO Z = [] ∧ ∃ q, judgeL Z = { Z with probe := q }) ∨ (Z.probe.on = false ∧ judgeO Z = [] ∧ judgeL Z = Z) ∨
    (Z.probe.on = false ∧ ∃ id : Nat, 1 ≤ id ∧ id ≤ Z.shadows.length ∧ beats Z.conf Z.sim (gt Z.shadows (id - 1)) = true ∧ judgeO Z = [{ kind := 6, id := id }] ∧
      judgeL Z = { Z with probe := beginPr Z.conf id Z.pol Z.state, pol := (gt Z.shadows (id - 1)).pol, state := (gt Z.shadows (id - 1)).state, sim := gt Z.shadows (id - 1), shadows := Z.shadows.set (id - 1) {} }) := by
  cases ho : Z.probe.on with
  | true =>
    refine .inl ⟨rfl, ?_, ?_⟩
    · unfold judgeO; rw [if_pos ho]
    · unfold judgeL; rw [if_pos ho]; exact ⟨_, rfl⟩
  | false =>
    by_cases hp : pickS Z.conf Z.sim Z.shadows = 0
    · refine .inr (.inl ⟨rfl, ?_, ?_⟩)
      · unfold judgeO; rw [if_neg (by rw [ho]; simp), if_pos hp]
      · unfold judgeL; rw [if_neg (by rw [ho]; simp)]; simp only; rw [if_pos hp]
    · have hb := pickS_beats hp
      refine .inr (.inr ⟨rfl, pickS Z.conf Z.sim Z.shadows, hb.1, hb.2.1, hb.2.2, ?_, ?_⟩)
      · unfold judgeO; rw [if_neg (by rw [ho]; simp), if_neg hp]
      · unfold judgeL; rw [if_neg (by rw [ho]; simp)]; simp only; rw [if_neg hp]; rfl
end Go.Proofs.YtncbfppafgjdiaaGreat
end
section
/- ControlShadows in plain terms: two controllers that differ in their shadows alone. -/
set_option linter.unusedVariables false
set_option linter.unusedSimpArgs false
set_option maxRecDepth 20000
namespace Go.Proofs.YtncbfppafgjdiaaGreat
open Go
/-- Alike but for shadows, and no promotion so far. -/
def simS (X X2 : LiveV) : Prop := (∃ s, X2 = { X with shadows := s }) ∧ X.probe.on = false
theorem simS_zero : simS {} {} := ⟨⟨[], rfl⟩, rfl⟩
/-- What two steps may come to. -/
structure Two (X X2 : LiveV) (e e' : EvV) : Prop where
  out : ((stepL X e).2 = [] ∧ (stepL X2 e').2 = [] ∧ simS (stepL X e).1 (stepL X2 e').1) ∨ (e.kind = 2 ∧ ∃ t n, (
    ((stepL X e).2 = [{ kind := 5, t := t, n := n }] ∧ (stepL X2 e').2 = [{ kind := 5, t := t, n := n }] ∧ simS (stepL X e).1 (stepL X2 e').1) ∨
    (∃ i, (stepL X e).2 = [{ kind := 5, t := t, n := n }, { kind := 6, id := i }] ∧ (stepL X2 e').2 = [{ kind := 5, t := t, n := n }]) ∨
    (∃ i, (stepL X e).2 = [{ kind := 5, t := t, n := n }] ∧ (stepL X2 e').2 = [{ kind := 5, t := t, n := n }, { kind := 6, id := i }]) ∨
    (∃ i k, (stepL X e).2 = [{ kind := 5, t := t, n := n }, { kind := 6, id := i }] ∧ (stepL X2 e').2 = [{ kind := 5, t := t, n := n }, { kind := 6, id := k }])))
theorem roll_off {A : LiveV} (h : A.probe.on = false) : rollL A = A ∧ rollO A = [] := by
  have hb : ¬ breachedPr A.conf A.probe = true := by simp [breachedPr, h]
  unfold rollL rollO
  rw [if_neg hb, if_neg hb]; exact ⟨rfl, rfl⟩
theorem tick_two {A : LiveV} (hp : A.probe.on = false) (s : List SimV) (t : Int) : ∃ (O1 O2 : List EvV) (Y1 Y2 : LiveV),
    (if A.set_ = false ∨ A.pol.kind = 0 then (A, []) else (judgeL (runL (decideL (rollL A))), rollO A ++ [{ kind := 5, t := (decideL (rollL A)).now, n := (decideL (rollL A)).hold.cur }] ++ judgeO (runL (decideL (rollL A))))) = (Y1, O1) ∧
    (if A.set_ = false ∨ A.pol.kind = 0 then ({ A with shadows := s }, []) else (judgeL (runL (decideL (rollL { A with shadows := s }))), rollO { A with shadows := s } ++ [{ kind := 5, t := (decideL (rollL { A with shadows := s })).now, n := (decideL (rollL { A with shadows := s })).hold.cur }] ++ judgeO (runL (decideL (rollL { A with shadows := s }))))) = (Y2, O2) ∧
    ((O1 = [] ∧ O2 = [] ∧ simS Y1 Y2) ∨ ∃ t n, (
    (O1 = [{ kind := 5, t := t, n := n }] ∧ O2 = [{ kind := 5, t := t, n := n }] ∧ simS Y1 Y2) ∨
    (∃ i, O1 = [{ kind := 5, t := t, n := n }, { kind := 6, id := i }] ∧ O2 = [{ kind := 5, t := t, n := n }]) ∨
    (∃ i, O1 = [{ kind := 5, t := t, n := n }] ∧ O2 = [{ kind := 5, t := t, n := n }, { kind := 6, id := i }]) ∨
    (∃ i k, O1 = [{ kind := 5, t := t, n := n }, { kind := 6, id := i }] ∧ O2 = [{ kind := 5, t := t, n := n }, { kind := 6, id := k }]))) := by
  have hp2 : ({ A with shadows := s } : LiveV).probe.on = false := hp
  rw [(roll_off hp).1, (roll_off hp).2, (roll_off hp2).1, (roll_off hp2).2]
  by_cases hz : A.set_ = false ∨ A.pol.kind = 0
  · rw [if_pos hz, if_pos hz]
    exact ⟨_, _, _, _, rfl, rfl, .inl ⟨rfl, rfl, ⟨s, rfl⟩, hp⟩⟩
  · rw [if_neg hz, if_neg hz]
    obtain ⟨D, hD⟩ : ∃ D, decideL A = D := ⟨_, rfl⟩
    have hD2 : decideL { A with shadows := s } = { D with shadows := s } := by rw [← hD]; rfl
    have hDp : D.probe = A.probe := by rw [← hD]; rfl
    rw [hD, hD2]
    obtain ⟨Z, hZ⟩ : ∃ Z, runL D = Z := ⟨_, rfl⟩
    have hZ2 : runL { D with shadows := s } = { Z with shadows := s.map fun x => stepSim D.conf x D.demand D.now } := by rw [← hZ]; rfl
    have hZp : Z.probe.on = false := by rw [← hZ]; show D.probe.on = false; rw [hDp]; exact hp
    rw [hZ, hZ2]
    generalize (s.map fun x => stepSim D.conf x D.demand D.now) = s'
    refine ⟨_, _, _, _, rfl, rfl, .inr ⟨D.now, D.hold.cur, ?_⟩⟩
    have hZp2 : ({ Z with shadows := s' } : LiveV).probe.on = false := hZp
    rcases judge_cases Z with ⟨h, _⟩ | ⟨_, jo, jl⟩ | ⟨_, id, _, _, _, jo, jl⟩
    · rw [hZp] at h; cases h
    · rcases judge_cases { Z with shadows := s' } with ⟨h, _⟩ | ⟨_, jo2, jl2⟩ | ⟨_, id2, _, _, _, jo2, jl2⟩
      · rw [hZp2] at h; cases h
      · refine .inl ⟨by rw [jo]; rfl, by rw [jo2]; rfl, ?_⟩
        rw [jl, jl2]; exact ⟨⟨s', rfl⟩, hZp⟩
      · exact .inr (.inr (.inl ⟨id2, by rw [jo]; rfl, by rw [jo2]; rfl⟩))
    · rcases judge_cases { Z with shadows := s' } with ⟨h, _⟩ | ⟨_, jo2, jl2⟩ | ⟨_, id2, _, _, _, jo2, jl2⟩
      · rw [hZp2] at h; cases h
      · exact .inr (.inl ⟨id, by rw [jo]; rfl, by rw [jo2]; rfl⟩)
      · exact .inr (.inr (.inr ⟨id, id2, by rw [jo]; rfl, by rw [jo2]; rfl⟩))
theorem two_tick {X X2 : LiveV} (h : simS X X2) {e : EvV} (ho : okEv e = true) (hk : e.kind = 2) : Two X X2 e e := by
  obtain ⟨⟨s, rfl⟩, hp⟩ := h
  constructor
  rw [step_2 ho hk, step_2 ho hk]
  obtain ⟨O1, O2, Y1, Y2, h1, h2, h3⟩ := tick_two (A := nowL (moreL X) e.t) hp s e.t
  have g1 : tickL (moreL X) e.t = (Y1, O1) := h1
  have g2 : tickL (moreL { X with shadows := s }) e.t = (Y2, O2) := h2
  rw [g1, g2]
  rcases h3 with h3 | h3
  · exact .inl h3
  · exact .inr ⟨hk, h3⟩
theorem two_step {X X2 : LiveV} (h : simS X X2) {e e' : EvV} (he : e' = e ∨ (e.kind = 3 ∧ e.id ≠ 0 ∧ ∃ p, e' = { e with pol := p })) (hok : okEv e' = okEv e) : Two X X2 e e' := by
  cases ho : okEv e with
  | false =>
    constructor
    rw [step_o (.inl ho), step_o (.inl (hok.trans ho))]; exact .inl ⟨rfl, rfl, h⟩
  | true =>
    have ho' := hok.trans ho
    have hk5 : e.kind = 1 ∨ e.kind = 2 ∨ e.kind = 3 ∨ e.kind = 4 ∨ (¬ 1 = e.kind ∧ ¬ 2 = e.kind ∧ ¬ 3 = e.kind ∧ ¬ 4 = e.kind) := by omega
    rcases he with rfl | ⟨hk3, hid, p, rfl⟩
    · rcases hk5 with hk | hk | hk | hk | hk
      · obtain ⟨⟨s, rfl⟩, hp⟩ := h
        constructor
        rw [step_1 ho hk, step_1 ho hk]
        refine .inl ⟨rfl, rfl, ?_⟩
        unfold sampleL
        split
        · exact ⟨⟨s, rfl⟩, hp⟩
        · exact ⟨⟨s, rfl⟩, hp⟩
      · exact two_tick h ho hk
      · obtain ⟨⟨s, rfl⟩, hp⟩ := h
        constructor
        rw [step_3 ho hk, step_3 ho hk]
        refine .inl ⟨rfl, rfl, ?_⟩
        unfold policyL
        split
        · exact ⟨⟨s, rfl⟩, rfl⟩
        · exact ⟨⟨_, rfl⟩, hp⟩
      · obtain ⟨⟨s, rfl⟩, hp⟩ := h
        constructor
        rw [step_4 ho hk, step_4 ho hk]
        exact .inl ⟨rfl, rfl, ⟨s, rfl⟩, hp⟩
      · constructor
        rw [step_o (.inr (inEv_f hk)), step_o (.inr (inEv_f hk))]; exact .inl ⟨rfl, rfl, h⟩
    · obtain ⟨⟨s, rfl⟩, hp⟩ := h
      constructor
      rw [step_3 ho hk3, step_3 ho' hk3]
      refine .inl ⟨rfl, rfl, ?_⟩
      unfold policyL
      simp only [if_neg hid]
      exact ⟨⟨_, rfl⟩, hp⟩
end Go.Proofs.YtncbfppafgjdiaaGreat
end
section
/- ControlShadows, walked. -/
set_option linter.unusedVariables false
set_option linter.unusedSimpArgs false
set_option maxRecDepth 20000
namespace Go.Proofs.YtncbfppafgjdiaaGreat
open Go
attribute [local irreducible] T TL C RG DP SP YR afterRG DPcall
attribute [-simp] List.map_set
section
variable {R : Re → Store → Prop} {σ : Store}
set_option maxHeartbeats 16000000 in
theorem C_shadows {l : List EvV} {o : List PolV} (hl : l.length ≤ 9223372036854775807) (hE : ∀ e ∈ l, evIn e) (ho : o.length ≤ 9223372036854775807) (h : R (.ret (.bool true)) σ) : C tE 5 [.lit (l.map eEv), .lit (o.map ePol)] σ R := by
  have cg : ∀ {R : Re → Store → Prop} {σ : Store}, R (.ret (.bool (greatL l))) σ → C tE 11 [.lit (l.map eEv)] σ R := fun h => L_great hl (fun e he => ⟨(hE e he).b, (hE e he).s, (hE e he).y⟩) h
  refine C_pure tOK (by simp) ?_
  refine s_body' Tryz.func5 tOK rfl (by conv => lhs; simp) (by conv => lhs; simp) (by conv => lhs; simp [Fr.args]) rfl (by conv => lhs; try simp) fun R9 hR9 => ?_
  cases hg : greatL l with
  | true =>
    rw [hg] at cg
    repeat' (first | refine go ?_ | refine s_seq fun y9 hy9 => ?_ | refine qT _ ?_ ?_ | refine qG _ ?_ ?_ | refine qN ?_ ?_ | (refine QB.mk fun hb9 => ?_; (try simp only [hb9]); (try simp at hb9); first | (exfalso; omega) | subst hb9 | skip) | refine sD tOK tmix [([],0),([0],1),([],2),([],3),([2,3],4),([2,3,4],5),([0,1,2,3,4,5],6),([0,1,2,3,4,5,6],7)] 6 ?_ | refine sD tOK tmix [([],1),([],2),([],3),([1,2],4),([1,2,3],5),([0,1,2,3,4],6),([0,1,2,3,4,5],7),([0,1,2,3,4,5,6],8),([0,1,2,3,4,5,6],9),([],0),([0,1,2,3,4,5,6,7,9],10),([0,1,2,3,4,5,6,7,8,9,10],11)] 11 ?_ | refine sD tOK tmix [([],0),([],1),([0,1],2),([0,1,2],3),([],4),([],5),([4,5],6),([4,5,6],7),([0,1,2,3,4,5,6,7],8),([0,1,2,3,4,5,6,7,8],9)] 8 ?_ | refine qD _ ?_ ?_ | (refine nZ ?_; first | refine L_head ?_ | refine cg ?_) | (apply d_call []; exact rfl; (solve | (conv => lhs; try simp)); (solve | exact rfl | simp); (solve | (conv => lhs; try simp)); intro τ hτ; refine nZ ?_; first | exact L_head ⟨rfl, rfl⟩ | exact cg ⟨rfl, rfl⟩))
    exact h
  | false =>
    rw [hg] at cg
    obtain ⟨h80, hlE⟩ := great_no hg
    have hgE := gt_all (P := fun e => lenE e) hlE ⟨⟨by decide, by decide⟩, by decide⟩
    have hgI := gt_all (P := fun e => evIn e) hE ⟨by decide, by decide, by decide, by decide, by decide, by decide, by decide⟩
    rcases Nat.lt_or_ge 90 o.length with h90 | h90
    · repeat' (first | refine go ?_ | refine s_seq fun y9 hy9 => ?_ | refine qT _ ?_ ?_ | refine qG _ ?_ ?_ | refine qN ?_ ?_ | (refine QB.mk fun hb9 => ?_; (try simp only [hb9]); (try simp at hb9); first | (exfalso; omega) | subst hb9 | skip) | refine sD tOK tmix [([],0),([0],1),([],2),([],3),([2,3],4),([2,3,4],5),([0,1,2,3,4,5],6),([0,1,2,3,4,5,6],7)] 6 ?_ | refine sD tOK tmix [([],1),([],2),([],3),([1,2],4),([1,2,3],5),([0,1,2,3,4],6),([0,1,2,3,4,5],7),([0,1,2,3,4,5,6],8),([0,1,2,3,4,5,6],9),([],0),([0,1,2,3,4,5,6,7,9],10),([0,1,2,3,4,5,6,7,8,9,10],11)] 11 ?_ | refine sD tOK tmix [([],0),([],1),([0,1],2),([0,1,2],3),([],4),([],5),([4,5],6),([4,5,6],7),([0,1,2,3,4,5,6,7],8),([0,1,2,3,4,5,6,7,8],9)] 8 ?_ | refine qD _ ?_ ?_ | (refine nZ ?_; first | refine L_head ?_ | refine cg ?_) | (apply d_call []; exact rfl; (solve | (conv => lhs; try simp)); (solve | exact rfl | simp); (solve | (conv => lhs; try simp)); intro τ hτ; refine nZ ?_; first | exact L_head ⟨rfl, rfl⟩ | exact cg ⟨rfl, rfl⟩))
      exact h
    · repeat' (first | refine go ?_ | refine s_seq fun y9 hy9 => ?_ | refine qT _ ?_ ?_ | refine qG _ ?_ ?_ | refine qN ?_ ?_ | (refine QB.mk fun hb9 => ?_; (try simp only [hb9]); (try simp at hb9); first | (exfalso; omega) | subst hb9 | skip) | refine sD tOK tmix [([],0),([0],1),([],2),([],3),([2,3],4),([2,3,4],5),([0,1,2,3,4,5],6),([0,1,2,3,4,5,6],7)] 6 ?_ | refine sD tOK tmix [([],1),([],2),([],3),([1,2],4),([1,2,3],5),([0,1,2,3,4],6),([0,1,2,3,4,5],7),([0,1,2,3,4,5,6],8),([0,1,2,3,4,5,6],9),([],0),([0,1,2,3,4,5,6,7,9],10),([0,1,2,3,4,5,6,7,8,9,10],11)] 11 ?_ | refine sD tOK tmix [([],0),([],1),([0,1],2),([0,1,2],3),([],4),([],5),([4,5],6),([4,5,6],7),([0,1,2,3,4,5,6,7],8),([0,1,2,3,4,5,6,7,8],9)] 8 ?_ | refine qD _ ?_ ?_ | (refine nZ ?_; first | refine L_head ?_ | refine cg ?_) | (apply d_call []; exact rfl; (solve | (conv => lhs; try simp)); (solve | exact rfl | simp); (solve | (conv => lhs; try simp)); intro τ hτ; refine nZ ?_; first | exact L_head ⟨rfl, rfl⟩ | exact cg ⟨rfl, rfl⟩))
      refine s_loop fun c9 hc9 => ?_
      refine w_trim 0 [0, 1, 5, 6] (by conv => lhs; simp) (by conv => lhs; simp) (by first | rfl | simp) (by first | rfl | simp) ?_
      refine s_loopn (o.length) (fun j fr σ => fr = [(0, .lit (l.map eEv)), (1, .lit (o.map ePol)), (5, .bool true), (6, i64 j)] ∧ σ = [] ∧ (∀ k : Nat, k < j → (gt o k).bands.length ≤ 8 ∧ (gt o k).slots.length ≤ 8)) ?_ ⟨by simp, by first | rfl | simp, by first | (intros; omega) | simp⟩
      rintro j fr σ hj ⟨rfl, rfl, hS⟩ ih
      refine s_round hc9 ?_
      clear hc9
      rcases Nat.lt_or_ge j o.length with hlt | hge
      · clear cg hE hlE hgE hgI
        repeat' (first | refine go ?_ | refine s_seq fun y9 hy9 => ?_ | refine qT _ ?_ ?_ | refine qG _ ?_ ?_ | refine qN ?_ ?_ | (refine QB.mk fun hb9 => ?_; (try simp only [hb9]); (try simp at hb9); first | (exfalso; omega) | subst hb9 | skip) | refine w_loop fun y9 hy9 => ?_ | (apply w_again; assumption) | refine sD tOK tmix [([],0),([0],1),([],2),([],3),([2,3],4),([2,3,4],5),([0,1,2,3,4,5],6),([0,1,2,3,4,5,6],7)] 6 ?_ | refine sD tOK tmix [([],1),([],2),([],3),([1,2],4),([1,2,3],5),([0,1,2,3,4],6),([0,1,2,3,4,5],7),([0,1,2,3,4,5,6],8),([0,1,2,3,4,5,6],9),([],0),([0,1,2,3,4,5,6,7,9],10),([0,1,2,3,4,5,6,7,8,9,10],11)] 11 ?_ | refine sD tOK tmix [([],0),([],1),([0,1],2),([0,1,2],3),([],4),([],5),([4,5],6),([4,5,6],7),([0,1,2,3,4,5,6,7],8),([0,1,2,3,4,5,6,7,8],9)] 8 ?_ | refine qD _ ?_ ?_)
        · exact h
        rotate_right
        · exact h
        · refine w_back 0 [0, 1, 5, 6] (by conv => lhs; simp) (by conv => lhs; simp) (by first | rfl | simp) (by first | rfl | simp) ?_
          refine ih hlt _ _ ⟨by simp, rfl, fun k hk => ?_⟩
          rcases Nat.lt_or_ge k j with hk1 | hk1
          · exact hS k hk1
          · have : k = j := by omega
            subst this
            omega
      · have hj : j = o.length := by omega
        subst hj
        clear ih
        repeat' (first | refine go ?_ | refine s_seq fun y9 hy9 => ?_ | refine qT _ ?_ ?_ | refine qG _ ?_ ?_ | refine qN ?_ ?_ | (refine QB.mk fun hb9 => ?_; (try simp only [hb9]); (try simp at hb9); first | (exfalso; omega) | subst hb9 | skip) | refine sD tOK tmix [([],0),([0],1),([],2),([],3),([2,3],4),([2,3,4],5),([0,1,2,3,4,5],6),([0,1,2,3,4,5,6],7)] 6 ?_ | refine sD tOK tmix [([],1),([],2),([],3),([1,2],4),([1,2,3],5),([0,1,2,3,4],6),([0,1,2,3,4,5],7),([0,1,2,3,4,5,6],8),([0,1,2,3,4,5,6],9),([],0),([0,1,2,3,4,5,6,7,9],10),([0,1,2,3,4,5,6,7,8,9,10],11)] 11 ?_ | refine sD tOK tmix [([],0),([],1),([0,1],2),([0,1,2],3),([],4),([],5),([4,5],6),([4,5,6],7),([0,1,2,3,4,5,6,7],8),([0,1,2,3,4,5,6,7,8],9)] 8 ?_ | refine qD _ ?_ ?_)
        refine t_pick tOK [0, 1] [0, 1, 5, 7, 8, 9] (by decide) (by rfl) (by rfl) (by conv => lhs; simp [Fr.keep]) (by conv => lhs; simp [pickS']) (by simp [Fr.keep]) (by simp [pickS']) ?_
        refine T_wk (fr' := [(0, .lit (l.map eEv)), (1, .lit (o.map ePol)), (5, .bool true), (7, .ptr 0 0 0 []), (8, .ptr 1 0 0 []), (9, i64 (0 : Nat))]) (σ' := [some (.cells 45 0 [eLive (xsL l 0)]), some (.cells 45 0 [eLive (xsL l 0)])]) ?_ ?_ ?_
        · repeat' (first | with_reducible exact WkF.refl _ | with_reducible exact WkS.refl _ | with_reducible exact WkB.refl _ | with_reducible exact Wk.refl _ | with_reducible exact WkL.refl _ | exact Wk.nils | refine WkF.cons ?_ ?_ | refine WkS.cons ?_ ?_ | refine WkB.cells ?_ | refine WkL.cons ?_ ?_ | refine Wk.agg ?_ | exact Wk.refl _ | exact WkL.refl _)
        · repeat' (first | with_reducible exact WkF.refl _ | with_reducible exact WkS.refl _ | with_reducible exact WkB.refl _ | with_reducible exact Wk.refl _ | with_reducible exact WkL.refl _ | exact Wk.nils | refine WkF.cons ?_ ?_ | refine WkS.cons ?_ ?_ | refine WkB.cells ?_ | refine WkL.cons ?_ ?_ | refine Wk.agg ?_ | exact Wk.refl _ | exact WkL.refl _)
        refine s_loop fun c9 hc9 => ?_
        refine w_trim 2 [0, 1, 5, 7, 8, 9] (by conv => lhs; simp) (by conv => lhs; simp) (by first | rfl | simp) (by first | rfl | simp) ?_
        refine s_loopn l.length (fun j fr σ => ∃ X2 : LiveV, okL X2 ∧ simS (xsL l j) X2 ∧ fr = [(0, .lit (l.map eEv)), (1, .lit (o.map ePol)), (5, .bool true), (7, .ptr 0 0 0 []), (8, .ptr 1 0 0 []), (9, i64 j)] ∧ σ = [some (.cells 45 0 [eLive (xsL l j)]), some (.cells 45 0 [eLive X2])]) ?_ ⟨{}, okL_zero, simS_zero, by simp, by simp [xsL_zero]⟩
        rintro j fr σ hj ⟨X2, ok2, hsim, rfl, rfl⟩ ih
        have x1 := xsL_ok l j
        refine s_round hc9 ?_
        clear hc9
        rcases Nat.lt_or_ge j l.length with hlt | hge
        · have e1 := hgE j
          have e2 := (hgI j).k1
          have e3 := (hgI j).k2
          have hs := xsL_succ hlt
          have hT := fun e' he' hok => (two_step hsim (e := gt l j) (e' := e') he' hok).out
          have ok3 := fun e' => ok2.step (e := e')
          have cst : ∀ {R : Re → Store → Prop} {σ : Store}, R (.ret (.tup [eLive (stepL (xsL l j) (gt l j)).1, .lit ((stepL (xsL l j) (gt l j)).2.map eEv)])) σ → C tE 12 [eLive (xsL l j), eEv (gt l j)] σ R := fun h => C_lstep x1 e1 e2 e3 h
          have cst2 : ∀ {R : Re → Store → Prop} {σ : Store}, R (.ret (.tup [eLive (stepL X2 (gt l j)).1, .lit ((stepL X2 (gt l j)).2.map eEv)])) σ → C tE 12 [eLive X2, eEv (gt l j)] σ R := fun h => C_lstep ok2 e1 e2 e3 h
          have cr : ∀ {R : Re → Store → Prop} {σ : Store}, R (.ret (.bool (okEv (gt l j)))) σ → C tE 16 [eEv (gt l j)] σ R := fun h => R_right e1 h
          rw [hs] at ih
          clear cg hE hlE hgI hgE
          have hcase : ((gt l j).kind = 3 ∧ ¬ (gt l j).id = 0 ∧ j < o.length) ∨ ¬ (gt l j).kind = 3 ∨ ((gt l j).kind = 3 ∧ (gt l j).id = 0) ∨ ((gt l j).kind = 3 ∧ ¬ (gt l j).id = 0 ∧ o.length ≤ j) := by omega
          rcases hcase with ⟨hk, hid, hjo⟩ | hcase
          · have hS' := hS j hjo
            obtain ⟨e', he'⟩ : ∃ e' : EvV, { gt l j with pol := gt o j } = e' := ⟨_, rfl⟩
            have e1' : lenE e' := by rw [← he']; exact ⟨⟨by show (gt o j).bands.length ≤ 10000; omega, by show (gt o j).slots.length ≤ 10000; omega⟩, e1.2⟩
            have cst2 : ∀ {R : Re → Store → Prop} {σ : Store}, R (.ret (.tup [eLive (stepL X2 e').1, .lit ((stepL X2 e').2.map eEv)])) σ → C tE 12 [eLive X2, eEv e'] σ R := fun h => C_lstep ok2 e1' (by rw [← he']; exact e2) (by rw [← he']; exact e3) h
            have cr2 : ∀ {R : Re → Store → Prop} {σ : Store}, R (.ret (.bool (okEv e'))) σ → C tE 16 [eEv e'] σ R := fun h => R_right e1' h
            by_cases hok : okEv e' = okEv (gt l j)
            · have hT' := hT e' (.inr ⟨hk, hid, _, he'.symm⟩) hok
              have ok3 := ok3 e'
              rw [hok] at cr2
              generalize (stepL (xsL l j) (gt l j)).1 = Y at *
              generalize (stepL (xsL l j) (gt l j)).2 = O at *
              generalize (stepL X2 e').1 = Y2 at *
              generalize (stepL X2 e').2 = O2 at *
              generalize xsL l j = X at *
              rcases hT' with ⟨rfl, rfl, hs'⟩ | ⟨hk2, _⟩
              · clear hT
                subst he'
                repeat' (first | refine go ?_ | refine s_seq fun y9 hy9 => ?_ | refine qT _ ?_ ?_ | refine qG _ ?_ ?_ | refine qN ?_ ?_ | (refine QB.mk fun hb9 => ?_; (try simp only [hb9]); (try simp at hb9); first | (exfalso; omega) | subst hb9 | skip) | refine w_loop fun y9 hy9 => ?_ | (apply w_again; assumption) | refine sD tOK tmix [([],0),([0],1),([],2),([],3),([2,3],4),([2,3,4],5),([0,1,2,3,4,5],6),([0,1,2,3,4,5,6],7)] 6 ?_ | refine sD tOK tmix [([],1),([],2),([],3),([1,2],4),([1,2,3],5),([0,1,2,3,4],6),([0,1,2,3,4,5],7),([0,1,2,3,4,5,6],8),([0,1,2,3,4,5,6],9),([],0),([0,1,2,3,4,5,6,7,9],10),([0,1,2,3,4,5,6,7,8,9,10],11)] 11 ?_ | refine sD tOK tmix [([],0),([],1),([0,1],2),([0,1,2],3),([],4),([],5),([4,5],6),([4,5,6],7),([0,1,2,3,4,5,6,7],8),([0,1,2,3,4,5,6,7,8],9)] 8 ?_ | refine qD _ ?_ ?_ | (refine nZ ?_; first | refine cst ?_ | refine cst2 ?_ | refine cr ?_ | refine cr2 ?_) | (apply d_call []; exact rfl; (solve | (conv => lhs; try simp)); (solve | exact rfl | simp); (solve | (conv => lhs; try simp)); intro τ hτ; refine nZ ?_; first | exact cst ⟨rfl, rfl⟩ | exact cst2 ⟨rfl, rfl⟩ | exact cr ⟨rfl, rfl⟩ | exact cr2 ⟨rfl, rfl⟩))
                refine w_back 2 [0, 1, 5, 7, 8, 9] (by conv => lhs; simp) (by conv => lhs; simp) (by first | rfl | simp) (by first | rfl | simp) ?_
                exact ih hlt _ _ ⟨Y2, ok3, hs', by simp, rfl⟩
              · omega
            · clear hT ok3 hs
              generalize hA : okEv e' = A at *
              generalize hB : okEv (gt l j) = B at *
              subst he'
              cases A
              all_goals cases B
              · exact absurd rfl hok
              rotate_right
              · exact absurd rfl hok
              all_goals
                repeat' (first | refine go ?_ | refine s_seq fun y9 hy9 => ?_ | refine qT _ ?_ ?_ | refine qG _ ?_ ?_ | refine qN ?_ ?_ | (refine QB.mk fun hb9 => ?_; (try simp only [hb9]); (try simp at hb9); first | (exfalso; omega) | subst hb9 | skip) | refine w_loop fun y9 hy9 => ?_ | (apply w_again; assumption) | refine sD tOK tmix [([],0),([0],1),([],2),([],3),([2,3],4),([2,3,4],5),([0,1,2,3,4,5],6),([0,1,2,3,4,5,6],7)] 6 ?_ | refine sD tOK tmix [([],1),([],2),([],3),([1,2],4),([1,2,3],5),([0,1,2,3,4],6),([0,1,2,3,4,5],7),([0,1,2,3,4,5,6],8),([0,1,2,3,4,5,6],9),([],0),([0,1,2,3,4,5,6,7,9],10),([0,1,2,3,4,5,6,7,8,9,10],11)] 11 ?_ | refine sD tOK tmix [([],0),([],1),([0,1],2),([0,1,2],3),([],4),([],5),([4,5],6),([4,5,6],7),([0,1,2,3,4,5,6,7],8),([0,1,2,3,4,5,6,7,8],9)] 8 ?_ | refine qD _ ?_ ?_ | (refine nZ ?_; first | refine cr ?_ | refine cr2 ?_) | (apply d_call []; exact rfl; (solve | (conv => lhs; try simp)); (solve | exact rfl | simp); (solve | (conv => lhs; try simp)); intro τ hτ; refine nZ ?_; first | exact cr ⟨rfl, rfl⟩ | exact cr2 ⟨rfl, rfl⟩))
                exact h
          · have hT' := hT (gt l j) (.inl rfl) rfl
            have ok3 := ok3 (gt l j)
            generalize (stepL (xsL l j) (gt l j)).1 = Y at *
            generalize (stepL (xsL l j) (gt l j)).2 = O at *
            generalize (stepL X2 (gt l j)).1 = Y2 at *
            generalize (stepL X2 (gt l j)).2 = O2 at *
            generalize xsL l j = X at *
            clear hT
            rcases hT' with ⟨rfl, rfl, hs'⟩ | ⟨hk2, t, n, hT'⟩
            · rcases hcase with hk | ⟨hk, hid⟩ | ⟨hk, hid, hjo⟩
              all_goals
                repeat' (first | refine go ?_ | refine s_seq fun y9 hy9 => ?_ | refine qT _ ?_ ?_ | refine qG _ ?_ ?_ | refine qN ?_ ?_ | (refine QB.mk fun hb9 => ?_; (try simp only [hb9]); (try simp at hb9); first | (exfalso; omega) | subst hb9 | skip) | refine w_loop fun y9 hy9 => ?_ | (apply w_again; assumption) | refine sD tOK tmix [([],0),([0],1),([],2),([],3),([2,3],4),([2,3,4],5),([0,1,2,3,4,5],6),([0,1,2,3,4,5,6],7)] 6 ?_ | refine sD tOK tmix [([],1),([],2),([],3),([1,2],4),([1,2,3],5),([0,1,2,3,4],6),([0,1,2,3,4,5],7),([0,1,2,3,4,5,6],8),([0,1,2,3,4,5,6],9),([],0),([0,1,2,3,4,5,6,7,9],10),([0,1,2,3,4,5,6,7,8,9,10],11)] 11 ?_ | refine sD tOK tmix [([],0),([],1),([0,1],2),([0,1,2],3),([],4),([],5),([4,5],6),([4,5,6],7),([0,1,2,3,4,5,6,7],8),([0,1,2,3,4,5,6,7,8],9)] 8 ?_ | refine qD _ ?_ ?_ | (refine nZ ?_; first | refine cst ?_ | refine cst2 ?_ | refine cr ?_) | (apply d_call []; exact rfl; (solve | (conv => lhs; try simp)); (solve | exact rfl | simp); (solve | (conv => lhs; try simp)); intro τ hτ; refine nZ ?_; first | exact cst ⟨rfl, rfl⟩ | exact cst2 ⟨rfl, rfl⟩ | exact cr ⟨rfl, rfl⟩))
              all_goals
                refine w_back 2 [0, 1, 5, 7, 8, 9] (by conv => lhs; simp) (by conv => lhs; simp) (by first | rfl | simp) (by first | rfl | simp) ?_
                exact ih hlt _ _ ⟨Y2, ok3, hs', by simp, rfl⟩
            · have hk : ¬ (gt l j).kind = 3 := by omega
              clear hcase
              have cse : ∀ {R : Re → Store → Prop} {σ : Store}, R (.ret (.bool true)) σ → C tE 17 [eEv { kind := 5, t := t, n := n }, eEv { kind := 5, t := t, n := n }] σ R := fun h => R_sameev ⟨⟨Nat.zero_le _, Nat.zero_le _⟩, Nat.zero_le _⟩ h
              rcases hT' with ⟨rfl, rfl, hs'⟩ | ⟨i, rfl, rfl⟩ | ⟨i, rfl, rfl⟩ | ⟨i, k, rfl, rfl⟩
              · simp only [List.map_cons, List.map_nil] at cst cst2
                repeat' (first | refine go ?_ | refine s_seq fun y9 hy9 => ?_ | refine qT _ ?_ ?_ | refine qG _ ?_ ?_ | refine qN ?_ ?_ | (refine QB.mk fun hb9 => ?_; (try simp only [hb9]); (try simp at hb9); first | (exfalso; omega) | subst hb9 | skip) | refine w_loop fun y9 hy9 => ?_ | (apply w_again; assumption) | refine sD tOK tmix [([],0),([0],1),([],2),([],3),([2,3],4),([2,3,4],5),([0,1,2,3,4,5],6),([0,1,2,3,4,5,6],7)] 6 ?_ | refine sD tOK tmix [([],1),([],2),([],3),([1,2],4),([1,2,3],5),([0,1,2,3,4],6),([0,1,2,3,4,5],7),([0,1,2,3,4,5,6],8),([0,1,2,3,4,5,6],9),([],0),([0,1,2,3,4,5,6,7,9],10),([0,1,2,3,4,5,6,7,8,9,10],11)] 11 ?_ | refine sD tOK tmix [([],0),([],1),([0,1],2),([0,1,2],3),([],4),([],5),([4,5],6),([4,5,6],7),([0,1,2,3,4,5,6,7],8),([0,1,2,3,4,5,6,7,8],9)] 8 ?_ | refine qD _ ?_ ?_ | (refine nZ ?_; first | refine cst ?_ | refine cst2 ?_ | refine cr ?_ | refine cse ?_) | (apply d_call []; exact rfl; (solve | (conv => lhs; try simp)); (solve | exact rfl | simp); (solve | (conv => lhs; try simp)); intro τ hτ; refine nZ ?_; first | exact cst ⟨rfl, rfl⟩ | exact cst2 ⟨rfl, rfl⟩ | exact cr ⟨rfl, rfl⟩ | exact cse ⟨rfl, rfl⟩))
                refine w_back 2 [0, 1, 5, 7, 8, 9] (by conv => lhs; simp) (by conv => lhs; simp) (by first | rfl | simp) (by first | rfl | simp) ?_
                exact ih hlt _ _ ⟨Y2, ok3, hs', by simp, rfl⟩
              all_goals
                simp only [List.map_cons, List.map_nil] at cst cst2
                repeat' (first | refine go ?_ | refine s_seq fun y9 hy9 => ?_ | refine qT _ ?_ ?_ | refine qG _ ?_ ?_ | refine qN ?_ ?_ | (refine QB.mk fun hb9 => ?_; (try simp only [hb9]); (try simp at hb9); first | (exfalso; omega) | subst hb9 | skip) | refine w_loop fun y9 hy9 => ?_ | (apply w_again; assumption) | refine sD tOK tmix [([],0),([0],1),([],2),([],3),([2,3],4),([2,3,4],5),([0,1,2,3,4,5],6),([0,1,2,3,4,5,6],7)] 6 ?_ | refine sD tOK tmix [([],1),([],2),([],3),([1,2],4),([1,2,3],5),([0,1,2,3,4],6),([0,1,2,3,4,5],7),([0,1,2,3,4,5,6],8),([0,1,2,3,4,5,6],9),([],0),([0,1,2,3,4,5,6,7,9],10),([0,1,2,3,4,5,6,7,8,9,10],11)] 11 ?_ | refine sD tOK tmix [([],0),([],1),([0,1],2),([0,1,2],3),([],4),([],5),([4,5],6),([4,5,6],7),([0,1,2,3,4,5,6,7],8),([0,1,2,3,4,5,6,7,8],9)] 8 ?_ | refine qD _ ?_ ?_ | (refine nZ ?_; first | refine cst ?_ | refine cst2 ?_ | refine cr ?_ | refine cse ?_) | (apply d_call []; exact rfl; (solve | (conv => lhs; try simp)); (solve | exact rfl | simp); (solve | (conv => lhs; try simp)); intro τ hτ; refine nZ ?_; first | exact cst ⟨rfl, rfl⟩ | exact cst2 ⟨rfl, rfl⟩ | exact cr ⟨rfl, rfl⟩ | exact cse ⟨rfl, rfl⟩))
                exact h
        · have hj : j = l.length := by omega
          subst hj
          repeat' (first | refine go ?_ | refine s_seq fun y9 hy9 => ?_ | refine qT _ ?_ ?_ | refine qG _ ?_ ?_ | refine qN ?_ ?_ | (refine QB.mk fun hb9 => ?_; (try simp only [hb9]); (try simp at hb9); first | (exfalso; omega) | subst hb9 | skip) | refine w_loop fun y9 hy9 => ?_ | (apply w_again; assumption) | refine sD tOK tmix [([],0),([0],1),([],2),([],3),([2,3],4),([2,3,4],5),([0,1,2,3,4,5],6),([0,1,2,3,4,5,6],7)] 6 ?_ | refine sD tOK tmix [([],1),([],2),([],3),([1,2],4),([1,2,3],5),([0,1,2,3,4],6),([0,1,2,3,4,5],7),([0,1,2,3,4,5,6],8),([0,1,2,3,4,5,6],9),([],0),([0,1,2,3,4,5,6,7,9],10),([0,1,2,3,4,5,6,7,8,9,10],11)] 11 ?_ | refine sD tOK tmix [([],0),([],1),([0,1],2),([0,1,2],3),([],4),([],5),([4,5],6),([4,5,6],7),([0,1,2,3,4,5,6,7],8),([0,1,2,3,4,5,6,7,8],9)] 8 ?_ | refine qD _ ?_ ?_)
          exact h
end
end Go.Proofs.YtncbfppafgjdiaaGreat
end
