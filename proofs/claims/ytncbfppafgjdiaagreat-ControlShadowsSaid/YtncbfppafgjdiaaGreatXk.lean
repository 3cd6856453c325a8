/- A step of the document's. -/
import Derived.Test.YtncbfppafgjdiaaGreatXj
import Derived.Test.YtncbfppafgjdiaaGreatXi
import Derived.Test.YtncbfppafgjdiaaGreatXg
import Derived.Test.YtncbfppafgjdiaaGreatXd
import Derived.Test.YtncbfppafgjdiaaGreatRows
import Derived.ProofKit
section
set_option linter.unusedVariables false
set_option linter.unusedSimpArgs false
set_option maxRecDepth 20000
namespace Go.Proofs.YtncbfppafgjdiaaGreat
open Go
attribute [local irreducible] T TL C RG DP SP YR afterRG DPcall
attribute [-simp] List.map_set
theorem LiveOut.more {l : LiveV} {out : List EvV} {fs : List PV} {o : PV} {σ : Store} (h : LiveOut l out fs o σ) (ns : Store) : LiveOut l out fs o (σ ++ ns) := by
  obtain ⟨d2, d3⟩ := h
  refine ⟨at_app ns d2, fun x => ?_⟩
  have hl : 2 < σ.length := by
    rcases Nat.lt_or_ge 2 σ.length with h1 | h1
    · exact h1
    · simp [Store.at, List.getElem?_eq_none h1] at d2
  rw [List.set_append_left _ _ hl]
  exact ⟨frz_app ns _ _ _ (d3 x).1, frz_app ns _ _ _ (d3 x).2⟩
inductive AheadR (l : LiveV) (e : EvV) : Store → Prop
  | nil (h : l.shadows = []) : AheadR l e [some (lvB l .nils), none, some zLive, some (.cells 50 0 [eEv e])]
  | row (gs : Nat) : AheadR l e [some (lvB l (.ref 1 gs 0 l.shadows.length)), some (.cells 40 gs (l.shadows.map eSim)), some zLive, some (.cells 50 0 [eEv e])]
theorem moreR {l : LiveV} (h : okL l) : moreL l = { l with ins := min (l.ins + 1) 1099511627776 } := by
  have := h.ins
  unfold moreL; congr 1; split <;> omega
section
variable {R : Re → Store → Prop} {σ : Store}
set_option maxHeartbeats 8000000 in
theorem R_lstep {l : LiveV} {e : EvV} (hl : okL l) (he : lenE e) (h : R (.ret (.tup [eLive (stepL l e).1, .lit ((stepL l e).2.map eEv)])) σ) : C tE 13 [eLive l, eEv e] σ R := by
  refine C_pure tOK (by simp) ?_
  refine s_body' Tryz.func13 tOK rfl (by conv => lhs; simp) (by conv => lhs; simp) (by conv => lhs; simp [Fr.args]) rfl (by conv => lhs; try simp) fun R9 hR9 => ?_
  refine j2 (fun fr σ => fr = [(3, .ptr 3 0 0 []), (4, .ptr 2 0 0 []), (5, .nils), (6, .ptr 0 0 0 [])] ∧ AheadR l e σ) ?_ fun yJ key => ?_
  · rintro _ _ ⟨rfl, hA⟩
    have hk5 : e.kind = 1 ∨ e.kind = 2 ∨ e.kind = 3 ∨ e.kind = 4 ∨ ((¬ 1 = e.kind ∧ ¬ 2 = e.kind ∧ ¬ 3 = e.kind ∧ ¬ 4 = e.kind) ∧ (¬ e.kind = 1 ∧ ¬ e.kind = 2 ∧ ¬ e.kind = 3 ∧ ¬ e.kind = 4)) := by omega
    have hm := hl.more
    have cr : ∀ {b : Bool}, okEv e = b → ∀ {R : Re → Store → Prop} {σ : Store}, R (.ret (.bool b)) σ → C tE 16 [eEv e] σ R := fun {b} hb {R} {σ} h => R_right he (by rw [hb]; exact h)
    have ci : ∀ {b : Bool}, inEv e = b → ∀ {R : Re → Store → Prop} {σ : Store}, R (.ret (.bool b)) σ → C tE 28 [eEv e] σ R := fun {b} hb {R} {σ} h => R_in (by rw [hb]; exact h)
    have hi0 := hl.ins
    cases ho : okEv e with
    | false =>
      have cr := @cr false ho
      rw [step_o (.inl ho)] at h
      cases hA with
      | nil hs =>
        repeat' (first | refine go ?_ | refine s_seq fun y9 hy9 => ?_ | refine qT _ ?_ ?_ | refine qG _ ?_ ?_ | refine qN ?_ ?_ | (refine QB.mk fun hb9 => ?_; (try simp only [hb9]); (try simp at hb9); first | (exfalso; omega) | subst hb9 | skip) | (refine nZ ?_; refine cr ?_))
        refine fin_v h ?_
        simp [hs]
      | row gs =>
        repeat' (first | refine go ?_ | refine s_seq fun y9 hy9 => ?_ | refine qT _ ?_ ?_ | refine qG _ ?_ ?_ | refine qN ?_ ?_ | (refine QB.mk fun hb9 => ?_; (try simp only [hb9]); (try simp at hb9); first | (exfalso; omega) | subst hb9 | skip) | (refine nZ ?_; refine cr ?_))
        refine fin_v h ?_
        simp
    | true =>
      have cr := @cr true ho
      rcases hk5 with hk | hk | hk | hk | hk
      · have ci := @ci true (inEv_t (by omega))
        rw [step_1 ho hk, moreR hl] at h
        simp only [sampleL] at h
        cases hA with
        | nil hs =>
          have F9 := @hk
          repeat' (first | refine gf ?_ | refine s_seq fun y9 hy9 => ?_ | refine qT _ ?_ ?_ | refine qG _ ?_ ?_ | refine qN ?_ ?_ | (refine QB.mk fun hb9 => ?_; (try simp only [hb9]); (try simp at hb9); first | (exfalso; omega) | subst hb9 | skip) | (refine nZ ?_; first | refine cr ?_ | refine ci ?_))
          all_goals (first | rw [if_pos (by omega)] at h | rw [if_neg (by omega)] at h)
          all_goals (exact fin_v h (by simp [hs]))
        | row gs =>
          have F9 := @hk
          repeat' (first | refine gf ?_ | refine s_seq fun y9 hy9 => ?_ | refine qT _ ?_ ?_ | refine qG _ ?_ ?_ | refine qN ?_ ?_ | (refine QB.mk fun hb9 => ?_; (try simp only [hb9]); (try simp at hb9); first | (exfalso; omega) | subst hb9 | skip) | (refine nZ ?_; first | refine cr ?_ | refine ci ?_))
          all_goals (first | rw [if_pos (by omega)] at h | rw [if_neg (by omega)] at h)
          all_goals (exact fin_v h (by simp))
      · have ci := @ci true (inEv_t (by omega))
        rw [step_2 ho hk] at h
        rw [moreR hl] at h hm
        cases hA with
        | nil hs =>
          have F9 := @hk
          repeat' (first | refine gf ?_ | refine s_seq fun y9 hy9 => ?_ | refine qT _ ?_ ?_ | refine qG _ ?_ ?_ | refine qN ?_ ?_ | (refine QB.mk fun hb9 => ?_; (try simp only [hb9]); (try simp at hb9); first | (exfalso; omega) | subst hb9 | skip) | (refine nZ ?_; first | refine cr ?_ | refine ci ?_))
          refine R_dtick0 (l := { l with ins := min (l.ins + 1) 1099511627776 }) (l0 := { l with ins := min (l.ins + 1) 1099511627776 }) hm hs fun fs o σ' hO => ?_
          repeat' (first | refine go ?_ | refine s_seq fun y9 hy9 => ?_ | refine qT _ ?_ ?_ | refine qG _ ?_ ?_ | refine qN ?_ ?_ | (refine QB.mk fun hb9 => ?_; (try simp only [hb9]); (try simp at hb9); first | (exfalso; omega) | subst hb9 | skip))
          obtain ⟨d2, d3⟩ := hO.more [some (.cells 45 0 [.agg 45 fs])]
          generalize σ' ++ [some (Blk.cells 45 0 [PV.agg 45 fs])] = τ at *
          have g2 := at_get d2
          have g5 : ∀ x, (τ.set 2 x)[2]? = some x := fun x => by rw [List.getElem?_set_self (List.getElem?_eq_some_iff.1 g2).1]
          have g3 : fits tE 22 o = true := fits_lit (d3 zLive).2 rfl
          have g4 : fits tE 45 (.agg 45 fs) = true := rfl
          repeat' (first | ((with_reducible refine iRG ?_); first | (apply o_move; exact rfl) | (apply o_assign; exact rfl) | (apply o_load; exact rfl; exact rfl; (solve | exact rfl | (conv => lhs; simp [g2,g3,g4,g5,d3,-fz_agg,-fits]))) | (apply o_fa; exact rfl; exact rfl; exact rfl; (solve | (conv => lhs; try simp [g2,g3,g4,g5,d3,-fz_agg,-fits]))) | (apply o_bin; exact rfl; exact rfl; exact rfl; exact rfl; (solve | (conv => lhs; try simp [g2,g3,g4,g5,d3,-fz_agg,-fits]; try simp (disch := omega) only [wi64, wu64, dect, decf, beqt, beqf, bnet, bnef, ift, iff_, ipt, ipf, wtdiv, gq]; try simp [g2,g3,g4,g5,d3,-fz_agg,-fits]))) | (apply o_store; exact rfl; exact rfl; exact rfl; (solve | exact rfl | (conv => lhs; simp [g2,g3,g4,g5,d3,-fz_agg,-fits]))) | (apply o_nilCheck; exact rfl; (solve | exact rfl | simp)) | (apply g_run; exact rfl) | (apply g_not; exact rfl) | (apply g_skip; exact rfl) | (apply g_if; exact rfl; all_goals (intro hb9; ((try simp only [hb9]); (try simp at hb9); first | (exfalso; omega) | subst hb9 | skip))) | (apply o_op; exact rfl; exact rfl; (solve | (conv => lhs; try simp [g2,g3,g4,g5,d3,-fz_agg,-fits]; try simp (disch := omega) only [wi64, wu64, dect, decf, beqt, beqf, bnet, bnef, ift, iff_, ipt, ipf, wtdiv, gq]; try simp [g2,g3,g4,g5,d3,-fz_agg,-fits]))) | (apply o_op0; exact rfl; exact rfl; (solve | (conv => lhs; try simp [g2,g3,g4,g5,d3,-fz_agg,-fits]; try simp (disch := omega) only [wi64, wu64, dect, decf, beqt, beqf, bnet, bnef, ift, iff_, ipt, ipf, wtdiv, gq]; try simp [g2,g3,g4,g5,d3,-fz_agg,-fits]))) | (apply o_call; exact rfl; (solve | (conv => lhs; try simp [g2,g3,g4,g5,d3,-fz_agg,-fits]))) | (apply o_nil1; exact rfl; (solve | (conv => lhs; try simp [g2,g3,g4,g5,d3,-fz_agg,-fits]))) | (apply o_nil2; exact rfl; (solve | (conv => lhs; try simp [g2,g3,g4,g5,d3,-fz_agg,-fits]))) | (apply w_end; exact rfl)) | ((with_reducible refine iT ?_); first | refine s_seq fun y9 hy9 => ?_ | (apply s_reg' tOK; exact rfl; (solve | (conv => lhs; simp))) | refine s_block ?_ | (apply w_ret; exact rfl) | (apply w_skip; exact rfl) | (apply w_exit; exact rfl) | (apply s_ift; exact rfl) | (apply s_iff; exact rfl) | (apply T_if; exact rfl; all_goals (intro hb9; ((try simp only [hb9]); (try simp at hb9); first | (exfalso; omega) | subst hb9 | skip)))) | ((with_reducible refine iSP ?_); first | (apply s_next; assumption) | (apply r_fin; (solve | (conv => lhs; try simp [g2,g3,g4,g5,d3,-fz_agg,-fits])); (solve | (conv => lhs; try simp [g2,g3,g4,g5,d3,-fz_agg,-fits]))) | (apply n_fin; (solve | (conv => lhs; try simp [g2,g3,g4,g5,d3,-fz_agg,-fits])); (solve | (conv => lhs; try simp [g2,g3,g4,g5,d3,-fz_agg,-fits])))) | ((with_reducible refine iA ?_); first | refine a_ret ?_ | refine a_ret0 ?_) | (apply s_R; assumption) | (apply f_ret; (solve | (conv => lhs; try simp [g2,g3,g4,g5,d3,-fz_agg,-fits]))))
          exact h
        | row gs =>
          have F9 := @hk
          repeat' (first | refine gf ?_ | refine s_seq fun y9 hy9 => ?_ | refine qT _ ?_ ?_ | refine qG _ ?_ ?_ | refine qN ?_ ?_ | (refine QB.mk fun hb9 => ?_; (try simp only [hb9]); (try simp at hb9); first | (exfalso; omega) | subst hb9 | skip) | (refine nZ ?_; first | refine cr ?_ | refine ci ?_))
          refine R_dtick1 (l := { l with ins := min (l.ins + 1) 1099511627776 }) (l0 := { l with ins := min (l.ins + 1) 1099511627776 }) hm fun fs o σ' hO => ?_
          repeat' (first | refine go ?_ | refine s_seq fun y9 hy9 => ?_ | refine qT _ ?_ ?_ | refine qG _ ?_ ?_ | refine qN ?_ ?_ | (refine QB.mk fun hb9 => ?_; (try simp only [hb9]); (try simp at hb9); first | (exfalso; omega) | subst hb9 | skip))
          obtain ⟨d2, d3⟩ := hO.more [some (.cells 45 0 [.agg 45 fs])]
          generalize σ' ++ [some (Blk.cells 45 0 [PV.agg 45 fs])] = τ at *
          have g2 := at_get d2
          have g5 : ∀ x, (τ.set 2 x)[2]? = some x := fun x => by rw [List.getElem?_set_self (List.getElem?_eq_some_iff.1 g2).1]
          have g3 : fits tE 22 o = true := fits_lit (d3 zLive).2 rfl
          have g4 : fits tE 45 (.agg 45 fs) = true := rfl
          repeat' (first | ((with_reducible refine iRG ?_); first | (apply o_move; exact rfl) | (apply o_assign; exact rfl) | (apply o_load; exact rfl; exact rfl; (solve | exact rfl | (conv => lhs; simp [g2,g3,g4,g5,d3,-fz_agg,-fits]))) | (apply o_fa; exact rfl; exact rfl; exact rfl; (solve | (conv => lhs; try simp [g2,g3,g4,g5,d3,-fz_agg,-fits]))) | (apply o_bin; exact rfl; exact rfl; exact rfl; exact rfl; (solve | (conv => lhs; try simp [g2,g3,g4,g5,d3,-fz_agg,-fits]; try simp (disch := omega) only [wi64, wu64, dect, decf, beqt, beqf, bnet, bnef, ift, iff_, ipt, ipf, wtdiv, gq]; try simp [g2,g3,g4,g5,d3,-fz_agg,-fits]))) | (apply o_store; exact rfl; exact rfl; exact rfl; (solve | exact rfl | (conv => lhs; simp [g2,g3,g4,g5,d3,-fz_agg,-fits]))) | (apply o_nilCheck; exact rfl; (solve | exact rfl | simp)) | (apply g_run; exact rfl) | (apply g_not; exact rfl) | (apply g_skip; exact rfl) | (apply g_if; exact rfl; all_goals (intro hb9; ((try simp only [hb9]); (try simp at hb9); first | (exfalso; omega) | subst hb9 | skip))) | (apply o_op; exact rfl; exact rfl; (solve | (conv => lhs; try simp [g2,g3,g4,g5,d3,-fz_agg,-fits]; try simp (disch := omega) only [wi64, wu64, dect, decf, beqt, beqf, bnet, bnef, ift, iff_, ipt, ipf, wtdiv, gq]; try simp [g2,g3,g4,g5,d3,-fz_agg,-fits]))) | (apply o_op0; exact rfl; exact rfl; (solve | (conv => lhs; try simp [g2,g3,g4,g5,d3,-fz_agg,-fits]; try simp (disch := omega) only [wi64, wu64, dect, decf, beqt, beqf, bnet, bnef, ift, iff_, ipt, ipf, wtdiv, gq]; try simp [g2,g3,g4,g5,d3,-fz_agg,-fits]))) | (apply o_call; exact rfl; (solve | (conv => lhs; try simp [g2,g3,g4,g5,d3,-fz_agg,-fits]))) | (apply o_nil1; exact rfl; (solve | (conv => lhs; try simp [g2,g3,g4,g5,d3,-fz_agg,-fits]))) | (apply o_nil2; exact rfl; (solve | (conv => lhs; try simp [g2,g3,g4,g5,d3,-fz_agg,-fits]))) | (apply w_end; exact rfl)) | ((with_reducible refine iT ?_); first | refine s_seq fun y9 hy9 => ?_ | (apply s_reg' tOK; exact rfl; (solve | (conv => lhs; simp))) | refine s_block ?_ | (apply w_ret; exact rfl) | (apply w_skip; exact rfl) | (apply w_exit; exact rfl) | (apply s_ift; exact rfl) | (apply s_iff; exact rfl) | (apply T_if; exact rfl; all_goals (intro hb9; ((try simp only [hb9]); (try simp at hb9); first | (exfalso; omega) | subst hb9 | skip)))) | ((with_reducible refine iSP ?_); first | (apply s_next; assumption) | (apply r_fin; (solve | (conv => lhs; try simp [g2,g3,g4,g5,d3,-fz_agg,-fits])); (solve | (conv => lhs; try simp [g2,g3,g4,g5,d3,-fz_agg,-fits]))) | (apply n_fin; (solve | (conv => lhs; try simp [g2,g3,g4,g5,d3,-fz_agg,-fits])); (solve | (conv => lhs; try simp [g2,g3,g4,g5,d3,-fz_agg,-fits])))) | ((with_reducible refine iA ?_); first | refine a_ret ?_ | refine a_ret0 ?_) | (apply s_R; assumption) | (apply f_ret; (solve | (conv => lhs; try simp [g2,g3,g4,g5,d3,-fz_agg,-fits]))))
          exact h
      · have ci := @ci true (inEv_t (by omega))
        have hpo := okEv_pol ho hk
        have hpa := hpo.1
        have hpl := hpa.len
        have i0 := hpo.2.1
        have i1 := hpo.2.2.1
        rw [step_3 ho hk, moreR hl] at h
        rw [moreR hl] at hm
        have hn := hm.n
        have hid : e.id = 0 ∨ e.id = 1 ∨ e.id = 2 ∨ e.id = 3 := by omega
        obtain ⟨ins, now, util, dem, set, conf, pol, st, hold, sim, shd, pr⟩ := l
        simp only at hn h hm hi0
        cases hA with
        | nil hs =>
          simp only at hs; subst hs
          rcases hid with hi | hi | hi | hi
          · unfold policyL adoptL at h
            rw [if_pos hi] at h
            have F9 := And.intro @hk <| @hi
            repeat' (first | refine gf ?_ | refine s_seq fun y9 hy9 => ?_ | refine qT _ ?_ ?_ | refine qG _ ?_ ?_ | refine qN ?_ ?_ | (refine QB.mk fun hb9 => ?_; (try simp only [hb9]); (try simp at hb9); first | (exfalso; omega) | subst hb9 | skip) | refine sD tOK tmix [([],0),([0],1),([],2),([2],3),([2,3],4),([],5),([5],6),([],7),([],8),([8],9),([5,6,7,8,9],10),([0,1,2,3,4,5,6,7,8,9,10],11),([0,1,2,3,4,5,6,7,8,9,10,11],12)] 11 ?_ | refine qD _ ?_ ?_ | refine cE Tryz.func36 tOK fun R9 hR9 => ?_ | (refine nZ ?_; first | refine cr ?_ | refine ci ?_ | refine (R_pown hpl) ?_ | refine (R_fnew (s:={}) hpl) ?_) | (apply d_call []; exact rfl; (solve | (conv => lhs; try simp [hk,hi])); (solve | exact rfl | simp); (solve | (conv => lhs; try simp [hk,hi])); intro τ hτ; refine nZ ?_; first | exact cr ⟨rfl, rfl⟩ | exact ci ⟨rfl, rfl⟩ | exact (R_pown hpl) ⟨rfl, rfl⟩ | exact (R_fnew (s:={}) hpl) ⟨rfl, rfl⟩))
            all_goals (exact fin_v h (by simp))
          all_goals
            have cz : ∀ {R : Re → Store → Prop} {σ : Store}, R (.ret (.bool (decide (e.pol.kind = 0)))) σ → C tE 47 [ePol e.pol] σ R := fun {R} {σ} h => R_zero h
            rcases Decidable.em (e.pol.kind = 0) with hz | hz
          all_goals
            unfold policyL thereL at h
            simp [hi, hz, List.replicate] at h
            simp only [hz, decide_true, decide_false] at cz
            have F9 := And.intro @hk <| @hi
            repeat' (first | refine gf ?_ | refine s_seq fun y9 hy9 => ?_ | refine qT _ ?_ ?_ | refine qG _ ?_ ?_ | refine qN ?_ ?_ | (refine QB.mk fun hb9 => ?_; (try simp only [hb9]); (try simp at hb9); first | (exfalso; omega) | subst hb9 | skip) | refine w_loop fun y9 hy9 => ?_ | (apply w_again; assumption) | refine sD tOK tmix [([],0),([0],1),([],2),([2],3),([2,3],4),([],5),([5],6),([],7),([],8),([8],9),([5,6,7,8,9],10),([0,1,2,3,4,5,6,7,8,9,10],11),([0,1,2,3,4,5,6,7,8,9,10,11],12)] 11 ?_ | refine qD _ ?_ ?_ | refine cE Tryz.func36 tOK fun R9 hR9 => ?_ | refine cE Tryz.func41 tOK fun R9 hR9 => ?_ | (refine nZ ?_; first | refine cr ?_ | refine ci ?_ | refine cz ?_ | refine (R_fnew (s:={}) hpl) ?_) | (apply d_call []; exact rfl; (solve | (conv => lhs; try simp [hk,hi])); (solve | exact rfl | simp); (solve | (conv => lhs; try simp [hk,hi])); intro τ hτ; refine nZ ?_; first | exact cr ⟨rfl, rfl⟩ | exact ci ⟨rfl, rfl⟩ | exact cz ⟨rfl, rfl⟩ | exact (R_fnew (s:={}) hpl) ⟨rfl, rfl⟩))
          all_goals (exact fin_v h (by simp))
        | row gs =>
          rcases hn with hn | hn
          · rw [List.length_eq_zero_iff] at hn; subst hn
            rcases hid with hi | hi | hi | hi
            · unfold policyL adoptL at h
              rw [if_pos hi] at h
              have F9 := And.intro @hk <| @hi
              repeat' (first | refine gf ?_ | refine s_seq fun y9 hy9 => ?_ | refine qT _ ?_ ?_ | refine qG _ ?_ ?_ | refine qN ?_ ?_ | (refine QB.mk fun hb9 => ?_; (try simp only [hb9]); (try simp at hb9); first | (exfalso; omega) | subst hb9 | skip) | refine sD tOK tmix [([],0),([0],1),([],2),([2],3),([2,3],4),([],5),([5],6),([],7),([],8),([8],9),([5,6,7,8,9],10),([0,1,2,3,4,5,6,7,8,9,10],11),([0,1,2,3,4,5,6,7,8,9,10,11],12)] 11 ?_ | refine qD _ ?_ ?_ | refine cE Tryz.func36 tOK fun R9 hR9 => ?_ | (refine nZ ?_; first | refine cr ?_ | refine ci ?_ | refine (R_pown hpl) ?_ | refine (R_fnew (s:={}) hpl) ?_) | (apply d_call []; exact rfl; (solve | (conv => lhs; try simp [hk,hi])); (solve | exact rfl | simp); (solve | (conv => lhs; try simp [hk,hi])); intro τ hτ; refine nZ ?_; first | exact cr ⟨rfl, rfl⟩ | exact ci ⟨rfl, rfl⟩ | exact (R_pown hpl) ⟨rfl, rfl⟩ | exact (R_fnew (s:={}) hpl) ⟨rfl, rfl⟩))
              all_goals (exact fin_v h (by simp))
            all_goals
              have cz : ∀ {R : Re → Store → Prop} {σ : Store}, R (.ret (.bool (decide (e.pol.kind = 0)))) σ → C tE 47 [ePol e.pol] σ R := fun {R} {σ} h => R_zero h
              rcases Decidable.em (e.pol.kind = 0) with hz | hz
            all_goals
              unfold policyL thereL at h
              simp [hi, hz, List.replicate] at h
              simp only [hz, decide_true, decide_false] at cz
              have F9 := And.intro @hk <| @hi
              repeat' (first | refine gf ?_ | refine s_seq fun y9 hy9 => ?_ | refine qT _ ?_ ?_ | refine qG _ ?_ ?_ | refine qN ?_ ?_ | (refine QB.mk fun hb9 => ?_; (try simp only [hb9]); (try simp at hb9); first | (exfalso; omega) | subst hb9 | skip) | refine w_loop fun y9 hy9 => ?_ | (apply w_again; assumption) | refine sD tOK tmix [([],0),([0],1),([],2),([2],3),([2,3],4),([],5),([5],6),([],7),([],8),([8],9),([5,6,7,8,9],10),([0,1,2,3,4,5,6,7,8,9,10],11),([0,1,2,3,4,5,6,7,8,9,10,11],12)] 11 ?_ | refine qD _ ?_ ?_ | refine cE Tryz.func36 tOK fun R9 hR9 => ?_ | refine cE Tryz.func41 tOK fun R9 hR9 => ?_ | (refine nZ ?_; first | refine cr ?_ | refine ci ?_ | refine cz ?_ | refine (R_fnew (s:={}) hpl) ?_) | (apply d_call []; exact rfl; (solve | (conv => lhs; try simp [hk,hi])); (solve | exact rfl | simp); (solve | (conv => lhs; try simp [hk,hi])); intro τ hτ; refine nZ ?_; first | exact cr ⟨rfl, rfl⟩ | exact ci ⟨rfl, rfl⟩ | exact cz ⟨rfl, rfl⟩ | exact (R_fnew (s:={}) hpl) ⟨rfl, rfl⟩))
            all_goals (exact fin_v h (by simp))
          · obtain ⟨x, y, w, hxyw⟩ := three hn
            subst hxyw
            rcases hid with hi | hi | hi | hi
            · unfold policyL adoptL at h
              rw [if_pos hi] at h
              have F9 := And.intro @hk <| @hi
              repeat' (first | refine gf ?_ | refine s_seq fun y9 hy9 => ?_ | refine qT _ ?_ ?_ | refine qG _ ?_ ?_ | refine qN ?_ ?_ | (refine QB.mk fun hb9 => ?_; (try simp only [hb9]); (try simp at hb9); first | (exfalso; omega) | subst hb9 | skip) | refine sD tOK tmix [([],0),([0],1),([],2),([2],3),([2,3],4),([],5),([5],6),([],7),([],8),([8],9),([5,6,7,8,9],10),([0,1,2,3,4,5,6,7,8,9,10],11),([0,1,2,3,4,5,6,7,8,9,10,11],12)] 11 ?_ | refine qD _ ?_ ?_ | refine cE Tryz.func36 tOK fun R9 hR9 => ?_ | (refine nZ ?_; first | refine cr ?_ | refine ci ?_ | refine (R_pown hpl) ?_ | refine (R_fnew (s:={}) hpl) ?_) | (apply d_call []; exact rfl; (solve | (conv => lhs; try simp [hk,hi])); (solve | exact rfl | simp); (solve | (conv => lhs; try simp [hk,hi])); intro τ hτ; refine nZ ?_; first | exact cr ⟨rfl, rfl⟩ | exact ci ⟨rfl, rfl⟩ | exact (R_pown hpl) ⟨rfl, rfl⟩ | exact (R_fnew (s:={}) hpl) ⟨rfl, rfl⟩))
              all_goals (exact fin_v h (by simp))
            all_goals
              have cz : ∀ {R : Re → Store → Prop} {σ : Store}, R (.ret (.bool (decide (e.pol.kind = 0)))) σ → C tE 47 [ePol e.pol] σ R := fun {R} {σ} h => R_zero h
              rcases Decidable.em (e.pol.kind = 0) with hz | hz
            all_goals
              unfold policyL thereL at h
              simp [hi, hz, List.replicate] at h
              simp only [hz, decide_true, decide_false] at cz
              have F9 := And.intro @hk <| @hi
              repeat' (first | refine gf ?_ | refine s_seq fun y9 hy9 => ?_ | refine qT _ ?_ ?_ | refine qG _ ?_ ?_ | refine qN ?_ ?_ | (refine QB.mk fun hb9 => ?_; (try simp only [hb9]); (try simp at hb9); first | (exfalso; omega) | subst hb9 | skip) | refine w_loop fun y9 hy9 => ?_ | (apply w_again; assumption) | refine sD tOK tmix [([],0),([0],1),([],2),([2],3),([2,3],4),([],5),([5],6),([],7),([],8),([8],9),([5,6,7,8,9],10),([0,1,2,3,4,5,6,7,8,9,10],11),([0,1,2,3,4,5,6,7,8,9,10,11],12)] 11 ?_ | refine qD _ ?_ ?_ | refine cE Tryz.func36 tOK fun R9 hR9 => ?_ | refine cE Tryz.func41 tOK fun R9 hR9 => ?_ | (refine nZ ?_; first | refine cr ?_ | refine ci ?_ | refine cz ?_ | refine (R_fnew (s:={}) hpl) ?_) | (apply d_call []; exact rfl; (solve | (conv => lhs; try simp [hk,hi])); (solve | exact rfl | simp); (solve | (conv => lhs; try simp [hk,hi])); intro τ hτ; refine nZ ?_; first | exact cr ⟨rfl, rfl⟩ | exact ci ⟨rfl, rfl⟩ | exact cz ⟨rfl, rfl⟩ | exact (R_fnew (s:={}) hpl) ⟨rfl, rfl⟩))
            all_goals (exact fin_v h (by simp))
      · have ci := @ci true (inEv_t (by omega))
        have hcc := okEv_conf ho hk
        rw [okConf_b, decide_eq_true_eq] at hcc
        have hcm : e.conf.min ≤ e.conf.max := hcc.2.1
        rw [step_4 ho hk, moreR hl] at h
        simp only [confL] at h
        cases hA with
        | nil hs =>
          have F9 := @hk
          repeat' (first | refine gf ?_ | refine s_seq fun y9 hy9 => ?_ | refine qT _ ?_ ?_ | refine qG _ ?_ ?_ | refine qN ?_ ?_ | (refine QB.mk fun hb9 => ?_; (try simp only [hb9]); (try simp at hb9); first | (exfalso; omega) | subst hb9 | skip) | (refine nZ ?_; first | refine cr ?_ | refine ci ?_ | refine (R_linto hcm) ?_))
          all_goals (exact fin_v h (by simp [hs]))
        | row gs =>
          have F9 := @hk
          repeat' (first | refine gf ?_ | refine s_seq fun y9 hy9 => ?_ | refine qT _ ?_ ?_ | refine qG _ ?_ ?_ | refine qN ?_ ?_ | (refine QB.mk fun hb9 => ?_; (try simp only [hb9]); (try simp at hb9); first | (exfalso; omega) | subst hb9 | skip) | (refine nZ ?_; first | refine cr ?_ | refine ci ?_ | refine (R_linto hcm) ?_))
          all_goals (exact fin_v h (by simp))
      · have ci := @ci false (inEv_f hk.1)
        rw [step_o (.inr (inEv_f hk.1))] at h
        cases hA with
        | nil hs =>
          repeat' (first | refine go ?_ | refine s_seq fun y9 hy9 => ?_ | refine qT _ ?_ ?_ | refine qG _ ?_ ?_ | refine qN ?_ ?_ | (refine QB.mk fun hb9 => ?_; (try simp only [hb9]); (try simp at hb9); first | (exfalso; omega) | subst hb9 | skip) | (refine nZ ?_; first | refine cr ?_ | refine ci ?_))
          refine fin_v h ?_
          simp [hs]
        | row gs =>
          repeat' (first | refine go ?_ | refine s_seq fun y9 hy9 => ?_ | refine qT _ ?_ ?_ | refine qG _ ?_ ?_ | refine qN ?_ ?_ | (refine QB.mk fun hb9 => ?_; (try simp only [hb9]); (try simp at hb9); first | (exfalso; omega) | subst hb9 | skip) | (refine nZ ?_; first | refine cr ?_ | refine ci ?_))
          refine fin_v h ?_
          simp
  · clear h
    have hg := gt_all (P := fun x : SimV => lenS x) (fun x hx => (hl.shd x hx).sim.len) okS_zero.sim.len
    have h1 := hl.pol.len; have h2 := hl.ppol.len; have h3 := hl.sim.sim.len
    have h4 : l.shadows.length ≤ 1000 := by have := hl.n; omega
    clear he hl
    obtain ⟨ins, now, util, dem, set, conf, pol, st, hold, sim, shd, pr⟩ := l
    simp only at h1 h2 h3 h4 hg
    have mm := mf_eSim shd
    repeat' (first | refine go ?_ | refine s_seq fun y9 hy9 => ?_ | refine qT _ ?_ ?_ | refine qG _ ?_ ?_ | refine qN ?_ ?_ | (refine QB.mk fun hb9 => ?_; (try simp only [hb9]); (try simp at hb9); first | (exfalso; omega) | subst hb9 | skip) | refine cE Tryz.func29 tOK fun R9 hR9 => ?_ | (refine nZ ?_; first | refine (R_pown h1) ?_ | refine (R_pown h2) ?_ | refine (R_fown h3) ?_))
    have tk : ∀ j, j < shd.length → shd.take (j + 1) = shd.take j ++ [gt shd j] := fun j hj => by rw [List.take_add_one, gq hj]; rfl
    have tl : ∀ j, j ≤ shd.length → (shd.take j).length = j := fun j hj => by simp; omega
    have tz : shd.take shd.length = shd := List.take_length
    have t0 : shd.take 0 = [] := rfl
    generalize hT : (fun j => shd.take j) = T at *
    have hT' : ∀ j, shd.take j = T j := fun j => by rw [← hT]
    simp only [hT'] at tk tl tz t0
    refine s_loop fun c9 hc9 => ?_
    refine w_trim 5 [1, 2, 3, 4] (by conv => lhs; simp) (by conv => lhs; simp) (by first | rfl | simp) (by first | rfl | simp) ?_
    refine s_loopn shd.length (fun j fr σ => (j = 0 ∧ fr = [(1, .ptr 3 0 0 []), (2, .ptr 4 0 0 []), (3, .nils), (4, i64 (0 : Nat))] ∧ σ = [some (.cells 45 0 [eLive ⟨ins, now, util, dem, set, conf, pol, st, hold, sim, shd, pr⟩]), some (.cells 50 0 [eEv e]), some zLive, some (.cells 45 0 [eLive ⟨ins, now, util, dem, set, conf, pol, st, hold, sim, shd, pr⟩]), some (.cells 45 0 [tE.zero 45])]) ∨ (0 < j ∧ fr = [(1, .ptr 3 0 0 []), (2, .ptr 4 0 0 []), (3, .ref 6 (j - 1) 0 j), (4, i64 j)] ∧
      σ = [some (.cells 45 0 [eLive ⟨ins, now, util, dem, set, conf, pol, st, hold, sim, shd, pr⟩]), some (.cells 50 0 [eEv e]), some zLive, some (.cells 45 0 [eLive ⟨ins, now, util, dem, set, conf, pol, st, hold, sim, shd, pr⟩]), some (.cells 45 0 [tE.zero 45]), some (.cells 40 0 [eSim (gt shd 0)]), some (.cells 40 (j - 1) ((T j).map eSim))])) ?_ (.inl ⟨rfl, by simp, by first | rfl | simp⟩)
    rintro j fr σ hj hS ih
    have hgj := hg j
    have htk := tk j
    have htl := tl j hj
    rcases hS with ⟨rfl, rfl, rfl⟩ | ⟨hj0, rfl, rfl⟩
    · refine s_round hc9 ?_
      have F9 := @mm
      repeat' (first | refine gf ?_ | refine s_seq fun y9 hy9 => ?_ | refine qT _ ?_ ?_ | refine qG _ ?_ ?_ | refine qN ?_ ?_ | (refine QB.mk fun hb9 => ?_; (try simp only [hb9]); (try simp at hb9); first | (exfalso; omega) | subst hb9 | skip) | (refine nZ ?_; first | refine (R_fown hgj) ?_ | refine (R_pown h2) ?_))
      · refine w_back 7 [1, 2, 3, 4] (by conv => lhs; simp) (by conv => lhs; simp) (by first | rfl | simp) (by first | rfl | simp) ?_
        exact ih (by assumption) _ _ (.inr ⟨by omega, by simp, by simp [htk (by assumption), t0]⟩)
      · refine t_pick tOK [5, 99, 2, 1] [3, 4, 5, 6] (by decide) (by rfl) (by rfl) (by conv => lhs; simp [Fr.keep]) (by conv => lhs; simp [pickS']) (by simp [Fr.keep]) (by simp [pickS']) ?_
        refine T_wk ?_ ?_ (key.down _ _ ⟨rfl, .nil rfl⟩)
        all_goals (repeat' (first | with_reducible exact WkF.refl _ | with_reducible exact WkS.refl _ | with_reducible exact WkB.refl _ | with_reducible exact Wk.refl _ | with_reducible exact WkL.refl _ | exact Wk.nils | refine WkF.cons ?_ ?_ | refine WkS.cons ?_ ?_ | refine WkB.cells ?_ | refine WkL.cons ?_ ?_ | refine Wk.agg ?_ | exact Wk.refl _ | exact WkL.refl _))
    · have htt : ((T j).map eSim).take j = (T j).map eSim := List.take_of_length_le (by simp [htl])
      refine s_round hc9 ?_
      have F9 := And.intro @mm <| And.intro @htl <| @htt
      repeat' (first | refine gf ?_ | refine s_seq fun y9 hy9 => ?_ | refine qT _ ?_ ?_ | refine qG _ ?_ ?_ | refine qN ?_ ?_ | (refine QB.mk fun hb9 => ?_; (try simp only [hb9]); (try simp at hb9); first | (exfalso; omega) | subst hb9 | skip) | (refine nZ ?_; first | refine (R_fown hgj) ?_ | refine (R_pown h2) ?_))
      · refine w_back 7 [1, 2, 3, 4] (by conv => lhs; simp) (by conv => lhs; simp) (by first | rfl | simp) (by first | rfl | simp) ?_
        have e1 : j - 1 + 1 = j + 1 - 1 := by omega
        exact ih (by assumption) _ _ (.inr ⟨by omega, by simp [e1], by simp [htk (by assumption), e1]⟩)
      · have ej : j = shd.length := by omega
        subst ej
        rw [tz]
        refine t_pick tOK [7, 6, 2, 1] [3, 4, 5, 6] (by decide) (by rfl) (by rfl) (by conv => lhs; simp [Fr.keep]) (by conv => lhs; simp [pickS']) (by simp [Fr.keep]) (by simp [pickS']) ?_
        refine T_wk ?_ ?_ (key.down _ _ ⟨rfl, .row (shd.length - 1)⟩)
        all_goals (repeat' (first | with_reducible exact WkF.refl _ | with_reducible exact WkS.refl _ | with_reducible exact WkB.refl _ | with_reducible exact Wk.refl _ | with_reducible exact WkL.refl _ | exact Wk.nils | refine WkF.cons ?_ ?_ | refine WkS.cons ?_ ?_ | refine WkB.cells ?_ | refine WkL.cons ?_ ?_ | refine Wk.agg ?_ | exact Wk.refl _ | exact WkL.refl _))
end
end Go.Proofs.YtncbfppafgjdiaaGreat
end
section
/- The live question of the controller's statements, walked. -/
set_option linter.unusedVariables false
set_option linter.unusedSimpArgs false
set_option maxRecDepth 20000
namespace Go.Proofs.YtncbfppafgjdiaaGreat
open Go
attribute [local irreducible] T TL C RG DP SP YR afterRG DPcall
attribute [-simp] List.map_set
def hdC : ConfV := { plainC with window := 2, probe := 2, breach := 0 }
theorem ba_app (x y : Array UInt8) : ((ByteArray.mk x) ++ (ByteArray.mk y) : ByteArray) = ByteArray.mk (x ++ y) := by
  apply ByteArray.ext; rw [ByteArray.data_append]
theorem wu8 {n : Int} (h1 : 0 ≤ n) (h2 : n ≤ 255) : IntKind.u8.wrap n = n := by
  exact IntWalk.u8_in _ ⟨h1, h2⟩
theorem ba_size (x : Array UInt8) : (ByteArray.mk x).size = x.size := rfl
section
variable {R : Re → Store → Prop} {σ : Store}
set_option maxHeartbeats 8000000 in
theorem L_head0 {X1 X2 X3 X4 X5 X6 X7 X8 X9 X10 X11 : LiveV}
    (s0 : ∀ {R : Re → Store → Prop} {σ : Store}, R (.ret (.tup [eLive X1, .lit []])) σ → C tE 12 [eLive {}, eEv { kind := 2, t := 3 }] σ R)
    (s1 : ∀ {R : Re → Store → Prop} {σ : Store}, R (.ret (.tup [eLive X2, .lit []])) σ → C tE 12 [eLive X1, eEv { kind := 4, conf := hdC }] σ R)
    (s2 : ∀ {R : Re → Store → Prop} {σ : Store}, R (.ret (.tup [eLive X3, .lit []])) σ → C tE 12 [eLive X2, eEv { kind := 3, id := 0, pol := { kind := 1, target := 500 } }] σ R)
    (s3 : ∀ {R : Re → Store → Prop} {σ : Store}, R (.ret (.tup [eLive X4, .lit []])) σ → C tE 12 [eLive X3, eEv { kind := 3, id := 1, pol := { kind := 1, target := 1000 } }] σ R)
    (s4 : ∀ {R : Re → Store → Prop} {σ : Store}, R (.ret (.tup [eLive X5, .lit []])) σ → C tE 12 [eLive X4, eEv { kind := 1, util := 900, demand := 300 }] σ R)
    (s5 : ∀ {R : Re → Store → Prop} {σ : Store}, R (.ret (.tup [eLive X6, .lit [eEv { kind := 5, t := 5, n := 2 }]])) σ → C tE 12 [eLive X5, eEv { kind := 2, t := 5 }] σ R)
    (s6 : ∀ {R : Re → Store → Prop} {σ : Store}, R (.ret (.tup [eLive X7, .lit [eEv { kind := 5, t := 5, n := 4 }]])) σ → C tE 12 [eLive X6, eEv { kind := 2, t := 2 }] σ R)
    (s7 : ∀ {R : Re → Store → Prop} {σ : Store}, R (.ret (.tup [eLive X8, .lit [eEv { kind := 5, t := 9, n := 8 }]])) σ → C tE 12 [eLive X7, eEv { kind := 2, t := 9 }] σ R)
    (s8 : ∀ {R : Re → Store → Prop} {σ : Store}, R (.ret (.tup [eLive X9, .lit []])) σ → C tE 12 [eLive X8, eEv { kind := 1, util := 1099511627776, demand := 5 }] σ R)
    (s9 : ∀ {R : Re → Store → Prop} {σ : Store}, R (.ret (.tup [eLive X10, .lit [eEv { kind := 5, t := 10, n := 12 }, eEv { kind := 6, id := 1 }]])) σ → C tE 12 [eLive X9, eEv { kind := 2, t := 10 }] σ R)
    (s10 : ∀ {R : Re → Store → Prop} {σ : Store}, R (.ret (.tup [eLive X11, .lit []])) σ → C tE 12 [eLive X10, eEv { kind := 5 }] σ R)
    (e1 : X10.ins = 10) (e2 : X10.now = 10) (e3 : X10.util = 900) (e4 : X10.hold.cur = 12) (e5 : X10.probe.on = true)
    (h : R (.ret (.bool true)) σ) : C tE 10 [] σ R := by
  refine C_pure tOK (by simp) ?_
  refine s_body' Tryz.func10 tOK rfl (by conv => lhs; simp) (by conv => lhs; simp) (by conv => lhs; simp [Fr.args]) rfl (by conv => lhs; try simp) fun R9 hR9 => ?_
  have F9 := And.intro @ba_app <| And.intro @ba_size <| And.intro @wu8 <| And.intro @e1 <| And.intro @e2 <| And.intro @e3 <| And.intro @e4 <| @e5
  repeat' (first | refine gf ?_ | refine s_seq fun y9 hy9 => ?_ | refine qT _ ?_ ?_ | refine qG _ ?_ ?_ | refine qN ?_ ?_ | (refine QB.mk fun hb9 => ?_; (try simp only [hb9]); (try simp at hb9); first | (exfalso; omega) | subst hb9 | skip) | refine w_loop fun y9 hy9 => ?_ | (apply w_again; assumption) | refine sD tOK tmix [([],1),([],2),([0,1],3),([0,1,2],4),([0,1,2,3],5),([0,1,2,3,4],6),([0,1,2,3,4,5],7),([0,1,2,3,4,5,6],8),([0,1,2,3,4,5,6,7],9),([0,1,2,3,4,5,6,7,8],10),([0,1,2,3,4,5,6,7,8,9],11),([0,1,2,3,4,5,6,7,8,9,10],12),([0,1,2,3,4,5,6,7,8,9,10,11],13),([0,1,2,3,4,5,6,7,8,9,10,11,12],0),([0,1,2,3,4,5,6,7,8,9,10,11,12,13],14)] 2 ?_ | refine sD tOK tmix [([],1),([],2),([],3),([1,2],4),([1,2,3],5),([0,1,2,3,4],6),([0,1,2,3,4,5],7),([0,1,2,3,4,5,6],8),([0,1,2,3,4,5,6],9),([],0),([0,1,2,3,4,5,6,7,9],10),([0,1,2,3,4,5,6,7,8,9,10],11)] 11 ?_ | refine sD tOK tmix [([],1),([],2),([],3),([1,2],4),([1,2,3],5),([1,2,3,4],6),([1,2,3,4,5],7),([1,2,3,4,5,6],8),([],9),([],10),([8,9],11),([8,9,10],12),([8,9,10,11],13),([8,9,10,11,12],14),([8,9,10,11,12,13],15),([8,9,10,11,12,13,14],16),([],17),([],18),([16,17],19),([16,17,18],20),([16,17,18,19],21),([16,17,18,19,20],22),([16,17,18,19,20,21],23),([1,2,3,4,5,6,7,8,9,10,11,12,13,14,15,16,17,18,19,20,21,22],0),([1,2,3,4,5,6,7,8,9,10,11,12,13,14,15,16,17,18,19,20,21,22,23],24),([0,1,2,3,4,5,6,7,8,9,10,11,12,13,14,15,16,17,18,19,20,21,22,23,24],25),([0,1,2,3,4,5,6,7,8,9,10,11,12,13,14,15,16,17,18,19,20,21,22,23,24,25],26)] 25 ?_ | refine qD _ ?_ ?_ | (refine nZ ?_; first | refine L_plain ?_ | refine L_tick ?_ | refine (L_conf (c:=hdC)) ?_ | refine L_track ?_ | refine (L_pol (p:={ kind := 1, target := 500 })) ?_ | refine (L_pol (p:={ kind := 1, target := 1000 })) ?_ | refine L_sample ?_ | refine s0 ?_ | refine s1 ?_ | refine s2 ?_ | refine s3 ?_ | refine s4 ?_ | refine s5 ?_ | refine s6 ?_ | refine s7 ?_ | refine s8 ?_ | refine s9 ?_ | refine s10 ?_) | (apply d_call []; exact rfl; (solve | (conv => lhs; try simp [ba_app,ba_size,wu8,e1,e2,e3,e4,e5])); (solve | exact rfl | simp); (solve | (conv => lhs; try simp [ba_app,ba_size,wu8,e1,e2,e3,e4,e5])); intro τ hτ; refine nZ ?_; first | exact L_plain ⟨rfl, rfl⟩ | exact L_tick ⟨rfl, rfl⟩ | exact (L_conf (c:=hdC)) ⟨rfl, rfl⟩ | exact L_track ⟨rfl, rfl⟩ | exact (L_pol (p:={ kind := 1, target := 500 })) ⟨rfl, rfl⟩ | exact (L_pol (p:={ kind := 1, target := 1000 })) ⟨rfl, rfl⟩ | exact L_sample ⟨rfl, rfl⟩ | exact s0 ⟨rfl, rfl⟩ | exact s1 ⟨rfl, rfl⟩ | exact s2 ⟨rfl, rfl⟩ | exact s3 ⟨rfl, rfl⟩ | exact s4 ⟨rfl, rfl⟩ | exact s5 ⟨rfl, rfl⟩ | exact s6 ⟨rfl, rfl⟩ | exact s7 ⟨rfl, rfl⟩ | exact s8 ⟨rfl, rfl⟩ | exact s9 ⟨rfl, rfl⟩ | exact s10 ⟨rfl, rfl⟩))
  all_goals exact h
end
end Go.Proofs.YtncbfppafgjdiaaGreat
end
section
/- The live question of the controller's statements. -/
set_option linter.unusedVariables false
set_option linter.unusedSimpArgs false
set_option maxRecDepth 20000
namespace Go.Proofs.YtncbfppafgjdiaaGreat
open Go
attribute [local irreducible] T TL C RG DP SP YR afterRG DPcall
attribute [-simp] List.map_set
def hdE : List EvV := [{ kind := 2, t := 3 }, { kind := 4, conf := hdC }, { kind := 3, id := 0, pol := { kind := 1, target := 500 } }, { kind := 3, id := 1, pol := { kind := 1, target := 1000 } }, { kind := 1, util := 900, demand := 300 },
  { kind := 2, t := 5 }, { kind := 2, t := 2 }, { kind := 2, t := 9 }, { kind := 1, util := 1099511627776, demand := 5 }, { kind := 2, t := 10 }]
def hdX : Nat → LiveV
  | 0 => {}
  | n + 1 => (stepL (hdX n) (hdE.getD n {})).1
def hdO (n : Nat) : List EvV := (stepL (hdX n) (hdE.getD n {})).2
theorem hdX_ok (n : Nat) : okL (hdX n) := by
  induction n with
  | zero => exact okL_zero
  | succ n ih => exact ih.step
theorem hdO_eq : (List.range 10).map hdO = [[], [], [], [], [], [{ kind := 5, t := 5, n := 2 }], [{ kind := 5, t := 5, n := 4 }], [{ kind := 5, t := 9, n := 8 }], [], [{ kind := 5, t := 10, n := 12 }, { kind := 6, id := 1 }]] := by decide +kernel
theorem hdX_end : (hdX 10).ins = 10 ∧ (hdX 10).now = 10 ∧ (hdX 10).util = 900 ∧ (hdX 10).hold.cur = 12 ∧ (hdX 10).probe.on = true ∧ (stepL (hdX 10) { kind := 5 }).2 = [] := by decide +kernel
theorem hdO_at {n : Nat} (h : n < 10) : hdO n = ([[], [], [], [], [], [{ kind := 5, t := 5, n := 2 }], [{ kind := 5, t := 5, n := 4 }], [{ kind := 5, t := 9, n := 8 }], [], [{ kind := 5, t := 10, n := 12 }, { kind := 6, id := 1 }]] : List (List EvV)).getD n [] := by
  rw [← hdO_eq]; simp [h]
section
variable {R : Re → Store → Prop} {σ : Store}
theorem hd_step {n : Nat} {e : EvV} {o : List EvV} (he : hdE.getD n {} = e) (hn : n < 10) (ho : hdO n = o) (hl : lenE e) (h1 : -9223372036854775808 ≤ e.kind) (h2 : e.kind ≤ 9223372036854775807) (h : R (.ret (.tup [eLive (hdX (n + 1)), .lit (o.map eEv)])) σ) : C tE 12 [eLive (hdX n), eEv e] σ R := by
  refine C_lstep (hdX_ok n) hl h1 h2 ?_
  subst he ho
  exact h
set_option maxHeartbeats 8000000 in
theorem L_head (h : R (.ret (.bool true)) σ) : C tE 10 [] σ R := by
  have s0 : ∀ {R : Re → Store → Prop} {σ : Store}, R (.ret (.tup [eLive (hdX 1), .lit []])) σ → C tE 12 [eLive (hdX 0), eEv { kind := 2, t := 3 }] σ R := fun h => hd_step (n := 0) rfl (by decide) (hdO_at (by decide)) ⟨⟨by decide, by decide⟩, by decide⟩ (by decide) (by decide) h
  have s1 : ∀ {R : Re → Store → Prop} {σ : Store}, R (.ret (.tup [eLive (hdX 2), .lit []])) σ → C tE 12 [eLive (hdX 1), eEv { kind := 4, conf := hdC }] σ R := fun h => hd_step (n := 1) rfl (by decide) (hdO_at (by decide)) ⟨⟨by decide, by decide⟩, by decide⟩ (by decide) (by decide) h
  have s2 : ∀ {R : Re → Store → Prop} {σ : Store}, R (.ret (.tup [eLive (hdX 3), .lit []])) σ → C tE 12 [eLive (hdX 2), eEv { kind := 3, id := 0, pol := { kind := 1, target := 500 } }] σ R := fun h => hd_step (n := 2) rfl (by decide) (hdO_at (by decide)) ⟨⟨by decide, by decide⟩, by decide⟩ (by decide) (by decide) h
  have s3 : ∀ {R : Re → Store → Prop} {σ : Store}, R (.ret (.tup [eLive (hdX 4), .lit []])) σ → C tE 12 [eLive (hdX 3), eEv { kind := 3, id := 1, pol := { kind := 1, target := 1000 } }] σ R := fun h => hd_step (n := 3) rfl (by decide) (hdO_at (by decide)) ⟨⟨by decide, by decide⟩, by decide⟩ (by decide) (by decide) h
  have s4 : ∀ {R : Re → Store → Prop} {σ : Store}, R (.ret (.tup [eLive (hdX 5), .lit []])) σ → C tE 12 [eLive (hdX 4), eEv { kind := 1, util := 900, demand := 300 }] σ R := fun h => hd_step (n := 4) rfl (by decide) (hdO_at (by decide)) ⟨⟨by decide, by decide⟩, by decide⟩ (by decide) (by decide) h
  have s5 : ∀ {R : Re → Store → Prop} {σ : Store}, R (.ret (.tup [eLive (hdX 6), .lit [eEv { kind := 5, t := 5, n := 2 }]])) σ → C tE 12 [eLive (hdX 5), eEv { kind := 2, t := 5 }] σ R := fun h => hd_step (n := 5) rfl (by decide) (hdO_at (by decide)) ⟨⟨by decide, by decide⟩, by decide⟩ (by decide) (by decide) h
  have s6 : ∀ {R : Re → Store → Prop} {σ : Store}, R (.ret (.tup [eLive (hdX 7), .lit [eEv { kind := 5, t := 5, n := 4 }]])) σ → C tE 12 [eLive (hdX 6), eEv { kind := 2, t := 2 }] σ R := fun h => hd_step (n := 6) rfl (by decide) (hdO_at (by decide)) ⟨⟨by decide, by decide⟩, by decide⟩ (by decide) (by decide) h
  have s7 : ∀ {R : Re → Store → Prop} {σ : Store}, R (.ret (.tup [eLive (hdX 8), .lit [eEv { kind := 5, t := 9, n := 8 }]])) σ → C tE 12 [eLive (hdX 7), eEv { kind := 2, t := 9 }] σ R := fun h => hd_step (n := 7) rfl (by decide) (hdO_at (by decide)) ⟨⟨by decide, by decide⟩, by decide⟩ (by decide) (by decide) h
  have s8 : ∀ {R : Re → Store → Prop} {σ : Store}, R (.ret (.tup [eLive (hdX 9), .lit []])) σ → C tE 12 [eLive (hdX 8), eEv { kind := 1, util := 1099511627776, demand := 5 }] σ R := fun h => hd_step (n := 8) rfl (by decide) (hdO_at (by decide)) ⟨⟨by decide, by decide⟩, by decide⟩ (by decide) (by decide) h
  have s9 : ∀ {R : Re → Store → Prop} {σ : Store}, R (.ret (.tup [eLive (hdX 10), .lit [eEv { kind := 5, t := 10, n := 12 }, eEv { kind := 6, id := 1 }]])) σ → C tE 12 [eLive (hdX 9), eEv { kind := 2, t := 10 }] σ R := fun h => hd_step (n := 9) rfl (by decide) (hdO_at (by decide)) ⟨⟨by decide, by decide⟩, by decide⟩ (by decide) (by decide) h
  have s10 : ∀ {R : Re → Store → Prop} {σ : Store}, R (.ret (.tup [eLive (stepL (hdX 10) { kind := 5 }).1, .lit []])) σ → C tE 12 [eLive (hdX 10), eEv { kind := 5 }] σ R := fun h => C_lstep (hdX_ok 10) ⟨⟨by decide, by decide⟩, by decide⟩ (by decide) (by decide) (by rw [hdX_end.2.2.2.2.2]; exact h)
  obtain ⟨e1, e2, e3, e4, e5, -⟩ := hdX_end
  exact L_head0 s0 s1 s2 s3 s4 s5 s6 s7 s8 s9 s10 e1 e2 e3 e4 e5 h
end
end Go.Proofs.YtncbfppafgjdiaaGreat
end
section
/- From the logic to the statements: what is handed in, and what is asked of the end. -/
set_option linter.unusedVariables false
set_option linter.unusedSimpArgs false
set_option maxRecDepth 4000
namespace Go.Proofs.YtncbfppafgjdiaaGreat
open Go Go.ChangeShapes Go.RowKit

/-- An event, as it may be handed in. -/
structure evIn (e : EvV) : Prop where
  k1 : -9223372036854775808 ≤ e.kind
  k2 : e.kind ≤ 9223372036854775807
  i1 : -9223372036854775808 ≤ e.id
  i2 : e.id ≤ 9223372036854775807
  b : e.pol.bands.length ≤ 9223372036854775807
  s : e.pol.slots.length ≤ 9223372036854775807
  y : e.body.length ≤ 9223372036854775807

theorem Tryz.own : ownKnob Tryz.prog.godebug = none := by kernel_rfl
theorem Tryz.laidOut : laidOutB Tryz.prog = true := by kernel_rfl

section
variable {H : Type} {enc : TypeId × Value → H}
/-- An argument, as a value of the logic's. -/
theorem arg_V {W : World} {sp : Nat → Bool} {held : Bool} {t : TypeId} {v : Value} {d : DataW H} {ps : List MemPlace} {base : Nat} (n : Nat) (hs : simpleT tE n t = true) (hst : ∀ fs, tE.P.underlying t ≠ some (.struct fs)) (harr : ∀ m e, tE.P.underlying t ≠ some (.array m e))
    (hok : Value.okWide tE.P W .any base t v) (h : DataW.Trod enc tE.P W 0 sp held t v d ps) : ∃ x, V tE (cx0 W) x v ∧ Dat tE n t x := by
  obtain ⟨fuel, h⟩ := h
  obtain ⟨x, h1, h2, h3⟩ := trod_VC tOK W fuel n t _ d ps hs h
  have hk := simple_kn hs
  obtain ⟨td, hu, hag⟩ := tOK.und t hk
  have hna : tE.agg t = false := by
    rw [hag]
    cases td <;> first | rfl | (exact absurd hu (hst _)) | (exact absurd hu (harr _ _))
  have hcell : Cell.okWide tE.P W .any base t v := by
    unfold Value.okWide at hok
    rw [hu] at hok
    cases td <;> first | exact hok | (exact absurd hu (hst _)) | (exact absurd hu (harr _ _))
  have hnagg : ∀ cs, v ≠ .agg cs := fun cs e => by
    subst e
    have h5 : Cell.ok tE.P W .any base t (.agg cs) → False := fun hc => by
      unfold Cell.ok at hc
      rw [hu] at hc
      cases td <;> exact hc
    unfold Cell.okWide at hcell
    rw [hu] at hcell
    cases td <;> exact h5 hcell
  have hone : v.cells = #[v] := by
    cases v with
    | agg cs => exact absurd rfl (hnagg cs)
    | _ => rfl
  rw [hone] at h1
  refine ⟨x, V_one h1 (fun t' fs e => ?_), h3⟩
  subst e
  simp only [fits, Bool.and_eq_true, hna] at h2
  exact absurd h2.2 (by simp)

theorem trodAll_stays {W W' : World} (hb : Below W.heap.size W W') : ∀ {ts : List TypeId} {vs : List Value} {ds : List (DataW H)} {ps : List MemPlace}, (∀ t ∈ ts, Tryz.prog.readableRec t = true ∧ t < Tryz.prog.types.size) →
    DataW.TrodAll enc Tryz.prog W 0 (fun _ => true) true ts vs ds ps → (∀ x ∈ ps, x.block < W.heap.size) → DataW.TrodAll enc Tryz.prog W' 0 (fun b => decide (b < W.heap.size)) true ts vs ds ps
  | [], [], [], ps, _, h, _ => h
  | t :: ts, v :: vs, d :: ds, ps, ht, h, hl => by
    obtain ⟨p, q, h1, h2, rfl⟩ := h
    obtain ⟨k1, k2⟩ := ht t (by simp)
    exact ⟨p, q, Below.trod Tryz.laidOut k1 k2 h1 hb (fun x hx => hl x (by simp [hx])), trodAll_stays hb (fun t ht' => ht t (by simp [ht'])) h2 (fun x hx => hl x (by simp [hx])), rfl⟩
  | [], _ :: _, _, _, _, h, _ => h.elim
  | [], [], _ :: _, _, _, h, _ => h.elim
  | _ :: _, [], _, _, _, h, _ => h.elim
  | _ :: _, _ :: _, [], _, _, h, _ => h.elim

theorem law_post {s : ChangeSpec} {fn : Func} {W W' : World} {args : Array Value} {ds gs : List (DataW H)} {before : List MemPlace} {fresh : Bool} (hW : DataW.Whole enc Tryz.prog fn.params.toList s.vars false W args.toList ds gs before) (hb : Below W.heap.size W W')
    (hvars : s.vars = []) (hs : s.fn H (ds ++ gs) = { results := [.lit (.bool true)], args := ds }) (hr : fn.resultTypes = #[4]) (hread : fn.params.toList.all (fun t => Tryz.prog.readableRec t && decide (t < Tryz.prog.types.size)) = true) :
    s.post enc Tryz.prog fn false fresh false false W args (.bool true) W' := by
  have hW' := hW
  obtain ⟨p, q, h1, h2, rfl, h3, h4⟩ := hW
  have hlt := fun x hx => hW'.lt x hx
  have hbool : Tryz.prog.underlying 4 = some .bool := tOK.td 4 rfl
  refine ⟨ds, gs, p ++ q, [], p, [], hW', ?_, ?_, ?_, ?_, by simp⟩
  · rw [hs, hr]
    cases fresh <;> exact trodAll_mk1 (shut_bool hbool true)
  · rw [hs]
    exact trodAll_stays hb (fun t ht => by simpa using List.all_eq_true.1 hread t ht) h1 (fun x hx => hlt x (by simp [hx]))
  · rw [hvars, hs]; rfl
  · refine ⟨hb.os, hb.output, fun i hi => ?_⟩
    rw [hb.block i hi]
    exact (World.keptBut_refl W (fun x => x ∈ p ++ q ∧ (x ∈ ([] : List MemPlace) ∨ x ∈ p ∨ x ∈ ([] : List MemPlace)))).2.2 i hi

/-- A law that answers true, whatever it is called with. -/
theorem law_calls {f : FuncId} {xs : List PV} {W : World} {args : Array Value} (hv : VL tE (cx0 W) xs args.toList) (hC : ∀ R : Re → Store → Prop, (∀ σ, R (.ret (.bool true)) σ) → C tE f xs [] R) :
    Calls Tryz.prog f args W fun e W' => e = .returned (.bool true) ∧ Below W.heap.size W W' := by
  have := hC (fun re _ => re = .ret (.bool true)) (fun _ => rfl) (cx0 W) args (Now.cx0 W) hv
  refine Calls.mono this ?_
  rintro e w' ⟨re, σ', cx', rfl, rfl, hre, hn, hs⟩
  refine ⟨?_, ⟨hs.os, hs.tape, hs.output, hs.size, fun k hk => hs.keeps k hk⟩⟩
  cases e <;> simp only [ReOK] at hre
  have := V.bool_inv hre
  rw [this]

theorem dat_int {n : Nat} {x : PV} (h : Dat tE (n + 1) 3 x) : ∃ k, x = i64 k ∧ -9223372036854775808 ≤ k ∧ k ≤ 9223372036854775807 := by
  obtain ⟨k, rfl, hw⟩ := (h : ∃ i, x = .int .i64 i ∧ (Lit.int .i64 i).wf = true)
  refine ⟨k, rfl, ?_⟩
  simp [Lit.wf, IntKind.has, IntKind.min, IntKind.max, IntKind.signed, IntKind.bits] at hw
  omega
theorem dat_u8 {n : Nat} {x : PV} (h : Dat tE (n + 1) 5 x) : ∃ k : UInt8, x = .int .u8 k.toNat := by
  obtain ⟨k, rfl, hw⟩ := (h : ∃ i, x = .int .u8 i ∧ (Lit.int .u8 i).wf = true)
  simp [Lit.wf, IntKind.has, IntKind.min, IntKind.max, IntKind.signed, IntKind.bits] at hw
  refine ⟨UInt8.ofNat k.toNat, ?_⟩
  have : (UInt8.ofNat k.toNat).toNat = k.toNat := by simp; omega
  rw [this]
  congr 1; omega
theorem dat_str {n : Nat} {x : PV} (h : Dat tE (n + 1) 9 x) : ∃ s : ByteArray, x = .str s ∧ s.size ≤ maxLen := h
theorem dat_list {n : Nat} {e t : TypeId} {x : PV} {α : Type} {f : α → PV} {P : α → Prop} (h : ∃ xs, x = .lit xs ∧ xs.length ≤ maxLen ∧ ∀ y ∈ xs, Dat tE n e y) (hf : ∀ y, Dat tE n e y → ∃ a, y = f a ∧ P a) :
    ∃ l : List α, x = .lit (l.map f) ∧ l.length ≤ maxLen ∧ ∀ a ∈ l, P a := by
  obtain ⟨xs, rfl, hl, hx⟩ := h
  have : ∃ l : List α, xs = l.map f ∧ ∀ a ∈ l, P a := by
    clear hl
    induction xs with
    | nil => exact ⟨[], rfl, by simp⟩
    | cons y ys ih =>
      obtain ⟨a, rfl, ha⟩ := hf y (hx y (by simp))
      obtain ⟨l, rfl, hl⟩ := ih fun y hy => hx y (by simp [hy])
      exact ⟨a :: l, rfl, fun b hb => by rcases List.mem_cons.1 hb with rfl | hb; exact ha; exact hl b hb⟩
  obtain ⟨l, rfl, h2⟩ := this
  exact ⟨l, rfl, by simpa using hl, h2⟩
theorem cons_of {α : Type} {l : List α} {n : Nat} (h : l.length = n + 1) : ∃ a t, l = a :: t ∧ t.length = n := by
  cases l with
  | nil => simp at h
  | cons a t => exact ⟨a, t, rfl, by simpa using h⟩
theorem nil_of {α : Type} {l : List α} (h : l.length = 0) : l = [] := List.eq_nil_of_length_eq_zero h
theorem dat_i64 {n : Nat} {x : PV} (h : Dat tE (n + 1) 2 x) : ∃ k, x = i64 k ∧ -9223372036854775808 ≤ k ∧ k ≤ 9223372036854775807 := by
  obtain ⟨k, rfl, hw⟩ := (h : ∃ i, x = .int .i64 i ∧ (Lit.int .i64 i).wf = true)
  refine ⟨k, rfl, ?_⟩
  simp [Lit.wf, IntKind.has, IntKind.min, IntKind.max, IntKind.signed, IntKind.bits] at hw
  omega
theorem dat_bytes {n : Nat} {x : PV} (h : Dat tE (n + 2) 48 x) : ∃ l : List UInt8, x = .lit (u8l l) ∧ l.length ≤ maxLen := by
  obtain ⟨l, rfl, h1, _⟩ := dat_list (t := 0) (f := fun b : UInt8 => PV.int .u8 b.toNat) (P := fun _ => True) (h : ∃ xs, x = .lit xs ∧ xs.length ≤ maxLen ∧ ∀ y ∈ xs, Dat tE (n + 1) 5 y) (fun y hy => by
    obtain ⟨k, rfl⟩ := dat_u8 hy
    exact ⟨k, rfl, trivial⟩)
  exact ⟨l, rfl, h1⟩
theorem dat_band {n : Nat} {x : PV} (h : Dat tE (n + 2) 73 x) : ∃ o : BandV, x = eBand o ∧ True := by
  obtain ⟨fs, rfl, hl, hx⟩ := (h : ∃ fs, x = .agg 73 fs ∧ fs.length = (tE.lay 73).length ∧ ∀ (i : Nat) u y, (tE.lay 73)[i]? = some u → fs[i]? = some y → Dat tE (n + 1) u y)
  replace hl : fs.length = 2 := hl
  obtain ⟨y0, g1, e0, h1⟩ := cons_of hl
  subst e0
  obtain ⟨y1, g2, e1, h2⟩ := cons_of h1
  subst e1
  rw [nil_of h2] at hx ⊢
  obtain ⟨a, rfl, _⟩ := dat_i64 (hx 0 2 y0 rfl rfl)
  obtain ⟨b, rfl, _⟩ := dat_int (hx 1 3 y1 rfl rfl)
  exact ⟨⟨a, b⟩, rfl, trivial⟩
theorem dat_slot {n : Nat} {x : PV} (h : Dat tE (n + 2) 93 x) : ∃ o : SlotV, x = eSlot o ∧ True := by
  obtain ⟨fs, rfl, hl, hx⟩ := (h : ∃ fs, x = .agg 93 fs ∧ fs.length = (tE.lay 93).length ∧ ∀ (i : Nat) u y, (tE.lay 93)[i]? = some u → fs[i]? = some y → Dat tE (n + 1) u y)
  replace hl : fs.length = 2 := hl
  obtain ⟨y0, g1, e0, h1⟩ := cons_of hl
  subst e0
  obtain ⟨y1, g2, e1, h2⟩ := cons_of h1
  subst e1
  rw [nil_of h2] at hx ⊢
  obtain ⟨a, rfl, _⟩ := dat_i64 (hx 0 2 y0 rfl rfl)
  obtain ⟨b, rfl, _⟩ := dat_int (hx 1 3 y1 rfl rfl)
  exact ⟨⟨a, b⟩, rfl, trivial⟩
theorem dat_bands {n : Nat} {x : PV} (h : Dat tE (n + 3) 27 x) : ∃ l : List BandV, x = .lit (l.map eBand) ∧ l.length ≤ maxLen := by
  obtain ⟨l, h1, h2, _⟩ := dat_list (t := 0) (f := eBand) (P := fun _ => True) (h : ∃ xs, x = .lit xs ∧ xs.length ≤ maxLen ∧ ∀ y ∈ xs, Dat tE (n + 2) 73 y) (fun y hy => dat_band hy)
  exact ⟨l, h1, h2⟩
theorem dat_slots {n : Nat} {x : PV} (h : Dat tE (n + 3) 28 x) : ∃ l : List SlotV, x = .lit (l.map eSlot) ∧ l.length ≤ maxLen := by
  obtain ⟨l, h1, h2, _⟩ := dat_list (t := 0) (f := eSlot) (P := fun _ => True) (h : ∃ xs, x = .lit xs ∧ xs.length ≤ maxLen ∧ ∀ y ∈ xs, Dat tE (n + 2) 93 y) (fun y hy => dat_slot hy)
  exact ⟨l, h1, h2⟩
theorem dat_pol {n : Nat} {x : PV} (h : Dat tE (n + 4) 30 x) : ∃ o : PolV, x = ePol o ∧ o.bands.length ≤ maxLen ∧ o.slots.length ≤ maxLen := by
  obtain ⟨fs, rfl, hl, hx⟩ := (h : ∃ fs, x = .agg 30 fs ∧ fs.length = (tE.lay 30).length ∧ ∀ (i : Nat) u y, (tE.lay 30)[i]? = some u → fs[i]? = some y → Dat tE (n + 3) u y)
  replace hl : fs.length = 8 := hl
  obtain ⟨y0, g1, e0, h1⟩ := cons_of hl
  subst e0
  obtain ⟨y1, g2, e1, h2⟩ := cons_of h1
  subst e1
  obtain ⟨y2, g3, e2, h3⟩ := cons_of h2
  subst e2
  obtain ⟨y3, g4, e3, h4⟩ := cons_of h3
  subst e3
  obtain ⟨y4, g5, e4, h5⟩ := cons_of h4
  subst e4
  obtain ⟨y5, g6, e5, h6⟩ := cons_of h5
  subst e5
  obtain ⟨y6, g7, e6, h7⟩ := cons_of h6
  subst e6
  obtain ⟨y7, g8, e7, h8⟩ := cons_of h7
  subst e7
  rw [nil_of h8] at hx ⊢
  obtain ⟨a, rfl, ha⟩ := dat_int (hx 0 3 y0 rfl rfl)
  obtain ⟨b, rfl, _⟩ := dat_i64 (hx 1 2 y1 rfl rfl)
  obtain ⟨c, rfl, hc⟩ := dat_bands (hx 2 27 y2 rfl rfl)
  obtain ⟨d, rfl, _⟩ := dat_i64 (hx 3 2 y3 rfl rfl)
  obtain ⟨e, rfl, _⟩ := dat_i64 (hx 4 2 y4 rfl rfl)
  obtain ⟨f, rfl, _⟩ := dat_i64 (hx 5 2 y5 rfl rfl)
  obtain ⟨g, rfl, _⟩ := dat_i64 (hx 6 2 y6 rfl rfl)
  obtain ⟨k, rfl, hk⟩ := dat_slots (hx 7 28 y7 rfl rfl)
  exact ⟨⟨a, b, c, d, e, f, g, k⟩, rfl, hc, hk⟩
theorem dat_conf {n : Nat} {x : PV} (h : Dat tE (n + 2) 26 x) : ∃ o : ConfV, x = eConf o := by
  obtain ⟨fs, rfl, hl, hx⟩ := (h : ∃ fs, x = .agg 26 fs ∧ fs.length = (tE.lay 26).length ∧ ∀ (i : Nat) u y, (tE.lay 26)[i]? = some u → fs[i]? = some y → Dat tE (n + 1) u y)
  replace hl : fs.length = 12 := hl
  obtain ⟨y0, g1, e0, h1⟩ := cons_of hl
  subst e0
  obtain ⟨y1, g2, e1, h2⟩ := cons_of h1
  subst e1
  obtain ⟨y2, g3, e2, h3⟩ := cons_of h2
  subst e2
  obtain ⟨y3, g4, e3, h4⟩ := cons_of h3
  subst e3
  obtain ⟨y4, g5, e4, h5⟩ := cons_of h4
  subst e4
  obtain ⟨y5, g6, e5, h6⟩ := cons_of h5
  subst e5
  obtain ⟨y6, g7, e6, h7⟩ := cons_of h6
  subst e6
  obtain ⟨y7, g8, e7, h8⟩ := cons_of h7
  subst e7
  obtain ⟨y8, g9, e8, h9⟩ := cons_of h8
  subst e8
  obtain ⟨y9, g10, e9, h10⟩ := cons_of h9
  subst e9
  obtain ⟨y10, g11, e10, h11⟩ := cons_of h10
  subst e10
  obtain ⟨y11, g12, e11, h12⟩ := cons_of h11
  subst e11
  rw [nil_of h12] at hx ⊢
  obtain ⟨c0, rfl, _⟩ := dat_int (hx 0 3 y0 rfl rfl)
  obtain ⟨c1, rfl, _⟩ := dat_int (hx 1 3 y1 rfl rfl)
  obtain ⟨c2, rfl, _⟩ := dat_int (hx 2 3 y2 rfl rfl)
  obtain ⟨c3, rfl, _⟩ := dat_i64 (hx 3 2 y3 rfl rfl)
  obtain ⟨c4, rfl, _⟩ := dat_i64 (hx 4 2 y4 rfl rfl)
  obtain ⟨c5, rfl, _⟩ := dat_int (hx 5 3 y5 rfl rfl)
  obtain ⟨c6, rfl, _⟩ := dat_i64 (hx 6 2 y6 rfl rfl)
  obtain ⟨c7, rfl, _⟩ := dat_int (hx 7 3 y7 rfl rfl)
  obtain ⟨c8, rfl, _⟩ := dat_i64 (hx 8 2 y8 rfl rfl)
  obtain ⟨c9, rfl, _⟩ := dat_int (hx 9 3 y9 rfl rfl)
  obtain ⟨c10, rfl, _⟩ := dat_int (hx 10 3 y10 rfl rfl)
  obtain ⟨c11, rfl, _⟩ := dat_int (hx 11 3 y11 rfl rfl)
  exact ⟨⟨c0, c1, c2, c3, c4, c5, c6, c7, c8, c9, c10, c11⟩, rfl⟩
theorem dat_ev {n : Nat} {x : PV} (h : Dat tE (n + 5) 50 x) : ∃ o : EvV, x = eEv o ∧ evIn o := by
  obtain ⟨fs, rfl, hl, hx⟩ := (h : ∃ fs, x = .agg 50 fs ∧ fs.length = (tE.lay 50).length ∧ ∀ (i : Nat) u y, (tE.lay 50)[i]? = some u → fs[i]? = some y → Dat tE (n + 4) u y)
  replace hl : fs.length = 9 := hl
  obtain ⟨y0, g1, e0, h1⟩ := cons_of hl
  subst e0
  obtain ⟨y1, g2, e1, h2⟩ := cons_of h1
  subst e1
  obtain ⟨y2, g3, e2, h3⟩ := cons_of h2
  subst e2
  obtain ⟨y3, g4, e3, h4⟩ := cons_of h3
  subst e3
  obtain ⟨y4, g5, e4, h5⟩ := cons_of h4
  subst e4
  obtain ⟨y5, g6, e5, h6⟩ := cons_of h5
  subst e5
  obtain ⟨y6, g7, e6, h7⟩ := cons_of h6
  subst e6
  obtain ⟨y7, g8, e7, h8⟩ := cons_of h7
  subst e7
  obtain ⟨y8, g9, e8, h9⟩ := cons_of h8
  subst e8
  rw [nil_of h9] at hx ⊢
  obtain ⟨a, rfl, ha, hb⟩ := dat_int (hx 0 3 y0 rfl rfl)
  obtain ⟨b, rfl, _⟩ := dat_i64 (hx 1 2 y1 rfl rfl)
  obtain ⟨c, rfl, _⟩ := dat_i64 (hx 2 2 y2 rfl rfl)
  obtain ⟨d, rfl, _⟩ := dat_i64 (hx 3 2 y3 rfl rfl)
  obtain ⟨e, rfl, he, hf⟩ := dat_int (hx 4 3 y4 rfl rfl)
  obtain ⟨f, rfl, _⟩ := dat_int (hx 5 3 y5 rfl rfl)
  obtain ⟨p, rfl, hp, hq⟩ := dat_pol (hx 6 30 y6 rfl rfl)
  obtain ⟨c2, rfl⟩ := dat_conf (hx 7 26 y7 rfl rfl)
  obtain ⟨bs, rfl, hs⟩ := dat_bytes (hx 8 48 y8 rfl rfl)
  exact ⟨⟨a, b, c, d, e, f, p, c2, bs⟩, rfl, ⟨ha, hb, he, hf, Nat.le_trans hp (by decide), Nat.le_trans hq (by decide), Nat.le_trans hs (by decide)⟩⟩
theorem dat_evs {n : Nat} {x : PV} (h : Dat tE (n + 6) 22 x) : ∃ l : List EvV, x = .lit (l.map eEv) ∧ l.length ≤ maxLen ∧ ∀ e ∈ l, evIn e :=
  dat_list (t := 0) (f := eEv) (P := evIn) (h : ∃ xs, x = .lit xs ∧ xs.length ≤ maxLen ∧ ∀ y ∈ xs, Dat tE (n + 5) 50 y) (fun y hy => dat_ev hy)
theorem dat_pols {n : Nat} {x : PV} (h : Dat tE (n + 5) 54 x) : ∃ l : List PolV, x = .lit (l.map ePol) ∧ l.length ≤ maxLen ∧ ∀ p ∈ l, p.bands.length ≤ maxLen ∧ p.slots.length ≤ maxLen :=
  dat_list (t := 0) (f := ePol) (P := fun p => p.bands.length ≤ maxLen ∧ p.slots.length ≤ maxLen) (h : ∃ xs, x = .lit xs ∧ xs.length ≤ maxLen ∧ ∀ y ∈ xs, Dat tE (n + 4) 30 y) (fun y hy => dat_pol hy)
end
end Go.Proofs.YtncbfppafgjdiaaGreat
end
section
/- ControlTells, walked. -/
set_option linter.unusedVariables false
set_option linter.unusedSimpArgs false
set_option maxRecDepth 20000
namespace Go.Proofs.YtncbfppafgjdiaaGreat
open Go
attribute [local irreducible] T TL C RG DP SP YR afterRG DPcall
attribute [-simp] List.map_set
/-- What is known behind so many events. -/
def xsL (l : List EvV) (j : Nat) : LiveV := (l.take j).foldl (fun x e => (stepL x e).1) {}
theorem xsL_zero (l : List EvV) : xsL l 0 = {} := rfl
theorem xsL_succ {l : List EvV} {j : Nat} (h : j < l.length) : xsL l (j + 1) = (stepL (xsL l j) (gt l j)).1 := by
  unfold xsL
  rw [List.take_add_one, gq h, Option.toList_some, List.foldl_append]; rfl
theorem xsL_ok (l : List EvV) (j : Nat) : okL (xsL l j) := by
  unfold xsL
  generalize l.take j = k
  have key : ∀ (k : List EvV) (x : LiveV), okL x → okL (k.foldl (fun x e => (stepL x e).1) x) := fun k => by
    induction k with
    | nil => intro x h; exact h
    | cons e k ih => intro x h; exact ih _ h.step
  exact key k {} okL_zero
theorem great_no {l : List EvV} (h : greatL l = false) : l.length ≤ 80 ∧ ∀ e ∈ l, lenE e := by
  simp only [greatL, Bool.or_eq_false_iff, decide_eq_false_iff_not, List.any_eq_false] at h
  have hl : l.length ≤ 80 := by omega
  refine ⟨hl, fun e he => ?_⟩
  rw [List.take_of_length_le (by omega)] at h
  have := h.1 e he
  simp only [greatE, Bool.or_eq_true, decide_eq_true_eq, not_or] at this
  exact ⟨⟨by omega, by omega⟩, by omega⟩
theorem rollO_len (l : LiveV) : (rollO l).length ≤ 1 ∧ ∀ e ∈ rollO l, lenE e := by
  unfold rollO; split
  · exact ⟨by simp, fun e he => by simp at he; subst he; exact ⟨⟨Nat.zero_le _, Nat.zero_le _⟩, Nat.zero_le _⟩⟩
  · exact ⟨by simp, fun e he => by simp at he⟩
theorem judgeO_len (l : LiveV) : (judgeO l).length ≤ 1 ∧ ∀ e ∈ judgeO l, lenE e := by
  unfold judgeO; split
  · exact ⟨by simp, fun e he => by simp at he⟩
  · split
    · exact ⟨by simp, fun e he => by simp at he⟩
    · exact ⟨by simp, fun e he => by simp at he; subst he; exact ⟨⟨Nat.zero_le _, Nat.zero_le _⟩, Nat.zero_le _⟩⟩
theorem step_out (l : LiveV) (e : EvV) : (stepL l e).2.length ≤ 3 ∧ ∀ ev ∈ (stepL l e).2, lenE ev := by
  unfold stepL
  split
  · exact ⟨by simp, fun e he => by simp at he⟩
  · simp only
    generalize ({ l with ins := if l.ins < 1099511627776 then l.ins + 1 else l.ins } : LiveV) = m
    split
    · exact ⟨by simp, fun e he => by simp at he⟩
    · split
      · unfold tickL
        simp only
        split
        · exact ⟨by simp, fun e he => by simp at he⟩
        · have h1 := rollO_len (nowL m e.t)
          have h2 := judgeO_len (runL (decideL (rollL (nowL m e.t))))
          refine ⟨by simp only [List.length_append, List.length_cons, List.length_nil]; omega, fun ev he => ?_⟩
          rcases List.mem_append.1 he with he | he
          · rcases List.mem_append.1 he with he | he
            · exact h1.2 ev he
            · simp at he; subst he; exact ⟨⟨Nat.zero_le _, Nat.zero_le _⟩, Nat.zero_le _⟩
          · exact h2.2 ev he
      · split
        · exact ⟨by simp, fun e he => by simp at he⟩
        · exact ⟨by simp, fun e he => by simp at he⟩
section
variable {R : Re → Store → Prop} {σ : Store}
set_option maxHeartbeats 8000000 in
theorem C_tells {l : List EvV} (hl : l.length ≤ 9223372036854775807) (hE : ∀ e ∈ l, evIn e) (h : R (.ret (.bool true)) σ) : C tE 3 [.lit (l.map eEv)] σ R := by
  have cg : ∀ {R : Re → Store → Prop} {σ : Store}, R (.ret (.bool (greatL l))) σ → C tE 11 [.lit (l.map eEv)] σ R := fun h => L_great hl (fun e he => ⟨(hE e he).b, (hE e he).s, (hE e he).y⟩) h
  refine C_pure tOK (by simp) ?_
  refine s_body' Tryz.func3 tOK rfl (by conv => lhs; simp) (by conv => lhs; simp) (by conv => lhs; simp [Fr.args]) rfl (by conv => lhs; try simp) fun R9 hR9 => ?_
  cases hg : greatL l with
  | true =>
    rw [hg] at cg
    repeat' (first | refine go ?_ | refine s_seq fun y9 hy9 => ?_ | refine qT _ ?_ ?_ | refine qG _ ?_ ?_ | refine qN ?_ ?_ | (refine QB.mk fun hb9 => ?_; (try simp only [hb9]); (try simp at hb9); first | (exfalso; omega) | subst hb9 | skip) | refine sD tOK tmix [([],1),([],2),([],3),([1,2],4),([1,2,3],5),([0,1,2,3,4],6),([0,1,2,3,4,5],7),([0,1,2,3,4,5,6],8),([0,1,2,3,4,5,6],9),([],0),([0,1,2,3,4,5,6,7,9],10),([0,1,2,3,4,5,6,7,8,9,10],11)] 11 ?_ | refine sD tOK tmix [([],1),([],2),([],3),([1,2],4),([1,2,3],5),([0,1,2,3,4],6),([0,1,2,3,4,5],7),([0,1,2,3,4,5,6],8),([0,1,2,3,4,5,6],9),([],0),([0,1,2,3,4,5,6,7,9],10),([0,1,2,3,4,5,6,7,8,9,10],11)] 11 ?_ | refine qD _ ?_ ?_ | (refine nZ ?_; first | refine L_head ?_ | refine cg ?_) | (apply d_call []; exact rfl; (solve | (conv => lhs; try simp)); (solve | exact rfl | simp); (solve | (conv => lhs; try simp)); intro τ hτ; refine nZ ?_; first | exact L_head ⟨rfl, rfl⟩ | exact cg ⟨rfl, rfl⟩))
    exact h
  | false =>
    rw [hg] at cg
    obtain ⟨h80, hlE⟩ := great_no hg
    have hgE := gt_all (P := fun e => lenE e) hlE ⟨⟨by decide, by decide⟩, by decide⟩
    have hgI := gt_all (P := fun e => evIn e) hE ⟨by decide, by decide, by decide, by decide, by decide, by decide, by decide⟩
    repeat' (first | refine go ?_ | refine s_seq fun y9 hy9 => ?_ | refine qT _ ?_ ?_ | refine qG _ ?_ ?_ | refine qN ?_ ?_ | (refine QB.mk fun hb9 => ?_; (try simp only [hb9]); (try simp at hb9); first | (exfalso; omega) | subst hb9 | skip) | refine sD tOK tmix [([],1),([],2),([],3),([1,2],4),([1,2,3],5),([0,1,2,3,4],6),([0,1,2,3,4,5],7),([0,1,2,3,4,5,6],8),([0,1,2,3,4,5,6],9),([],0),([0,1,2,3,4,5,6,7,9],10),([0,1,2,3,4,5,6,7,8,9,10],11)] 11 ?_ | refine sD tOK tmix [([],1),([],2),([],3),([1,2],4),([1,2,3],5),([0,1,2,3,4],6),([0,1,2,3,4,5],7),([0,1,2,3,4,5,6],8),([0,1,2,3,4,5,6],9),([],0),([0,1,2,3,4,5,6,7,9],10),([0,1,2,3,4,5,6,7,8,9,10],11)] 11 ?_ | refine qD _ ?_ ?_ | (refine nZ ?_; first | refine L_head ?_ | refine cg ?_) | (apply d_call []; exact rfl; (solve | (conv => lhs; try simp)); (solve | exact rfl | simp); (solve | (conv => lhs; try simp)); intro τ hτ; refine nZ ?_; first | exact L_head ⟨rfl, rfl⟩ | exact cg ⟨rfl, rfl⟩))
    refine t_pick tOK [0, 1] [0, 3, 4, 5, 6] (by decide) (by rfl) (by rfl) (by conv => lhs; simp [Fr.keep]) (by conv => lhs; simp [pickS']) (by simp [Fr.keep]) (by simp [pickS']) ?_
    refine T_wk (fr' := [(0, .lit (l.map eEv)), (3, .bool true), (4, .ptr 0 0 0 []), (5, .ptr 1 0 0 []), (6, i64 (0 : Nat))]) (σ' := [some (.cells 45 0 [eLive (xsL l 0)]), some (.cells 45 0 [eLive (xsL l 0)])]) ?_ ?_ ?_
    · repeat' (first | with_reducible exact WkF.refl _ | with_reducible exact WkS.refl _ | with_reducible exact WkB.refl _ | with_reducible exact Wk.refl _ | with_reducible exact WkL.refl _ | exact Wk.nils | refine WkF.cons ?_ ?_ | refine WkS.cons ?_ ?_ | refine WkB.cells ?_ | refine WkL.cons ?_ ?_ | refine Wk.agg ?_ | exact Wk.refl _ | exact WkL.refl _)
    · repeat' (first | with_reducible exact WkF.refl _ | with_reducible exact WkS.refl _ | with_reducible exact WkB.refl _ | with_reducible exact Wk.refl _ | with_reducible exact WkL.refl _ | exact Wk.nils | refine WkF.cons ?_ ?_ | refine WkS.cons ?_ ?_ | refine WkB.cells ?_ | refine WkL.cons ?_ ?_ | refine Wk.agg ?_ | exact Wk.refl _ | exact WkL.refl _)
    refine s_loop fun c9 hc9 => ?_
    refine w_trim 2 [0, 3, 4, 5, 6] (by conv => lhs; simp) (by conv => lhs; simp) (by first | rfl | simp) (by first | rfl | simp) ?_
    refine s_loopn (l.length) (fun j fr σ => fr = [(0, .lit (l.map eEv)), (3, .bool true), (4, .ptr 0 0 0 []), (5, .ptr 1 0 0 []), (6, i64 j)] ∧ σ = [some (.cells 45 0 [eLive (xsL l j)]), some (.cells 45 0 [eLive (xsL l j)])]) ?_ ⟨by simp, by first | rfl | simp⟩
    rintro j fr σ hj ⟨rfl, rfl⟩ ih
    have e1 := hgE j
    have e2 := (hgI j).k1
    have e3 := (hgI j).k2
    have o1 := (step_out (xsL l j) (gt l j)).1
    have o2 := (step_out (xsL l j) (gt l j)).2
    have o3 : (stepL (xsL l j) (gt l j)).2.length ≤ 10000 := by omega
    have x1 := xsL_ok l j
    have x2 := x1.step (e := gt l j)
    have x3 := x2.len
    have hs := fun h => xsL_succ (l := l) (j := j) h
    generalize xsL l j = X at *
    refine s_round hc9 ?_
    repeat' (first | refine go ?_ | refine s_seq fun y9 hy9 => ?_ | refine qT _ ?_ ?_ | refine qG _ ?_ ?_ | refine qN ?_ ?_ | (refine QB.mk fun hb9 => ?_; (try simp only [hb9]); (try simp at hb9); first | (exfalso; omega) | subst hb9 | skip) | refine sD tOK tmix [([],1),([],2),([],3),([1,2],4),([1,2,3],5),([0,1,2,3,4],6),([0,1,2,3,4,5],7),([0,1,2,3,4,5,6],8),([0,1,2,3,4,5,6],9),([],0),([0,1,2,3,4,5,6,7,9],10),([0,1,2,3,4,5,6,7,8,9,10],11)] 11 ?_ | refine sD tOK tmix [([],1),([],2),([],3),([1,2],4),([1,2,3],5),([0,1,2,3,4],6),([0,1,2,3,4,5],7),([0,1,2,3,4,5,6],8),([0,1,2,3,4,5,6],9),([],0),([0,1,2,3,4,5,6,7,9],10),([0,1,2,3,4,5,6,7,8,9,10],11)] 11 ?_ | refine qD _ ?_ ?_ | (refine nZ ?_; first | refine (C_lstep x1 e1 e2 e3) ?_ | refine (R_lstep x1 e1) ?_ | refine (R_same x3) ?_ | refine (R_sameall o3 o2) ?_) | (apply d_call []; exact rfl; (solve | (conv => lhs; try simp)); (solve | exact rfl | simp); (solve | (conv => lhs; try simp)); intro τ hτ; refine nZ ?_; first | exact (C_lstep x1 e1 e2 e3) ⟨rfl, rfl⟩ | exact (R_lstep x1 e1) ⟨rfl, rfl⟩ | exact (R_same x3) ⟨rfl, rfl⟩ | exact (R_sameall o3 o2) ⟨rfl, rfl⟩))
    · refine w_back 2 [0, 3, 4, 5, 6] (by conv => lhs; simp) (by conv => lhs; simp) (by first | rfl | simp) (by first | rfl | simp) ?_
      exact ih (by assumption) _ _ ⟨by simp, by rw [hs (by assumption)]⟩
    · exact h
end
end Go.Proofs.YtncbfppafgjdiaaGreat
end
