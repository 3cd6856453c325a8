/- A tick of the controller, its shadows in a row. -/
import Derived.Test.YtncbfppafgjdiaaGreatXi
section
set_option linter.unusedVariables false
set_option linter.unusedSimpArgs false
set_option maxRecDepth 20000
namespace Go.Proofs.YtncbfppafgjdiaaGreat
open Go
attribute [local irreducible] T TL C RG DP SP YR afterRG DPcall
attribute [-simp] List.map_set
/-- Shadows, the first so many of them a step on. -/
theorem run_steps (f : SimV → SimV) (l : List SimV) : ∃ W : Nat → List SimV, W 0 = l ∧ (∀ j, (W j).length = l.length) ∧ (∀ j, j < l.length → (W j)[j]? = some (gt l j)) ∧ (∀ j, j < l.length → (W j).set j (f (gt l j)) = W (j + 1)) ∧ W l.length = l.map f := by
  refine ⟨fun j => (l.take j).map f ++ l.drop j, by simp, fun j => by simp; omega, fun j hj => ?_, fun j hj => ?_, by simp⟩
  · rw [List.getElem?_append_right (by simp [Nat.min_le_left])]
    simp [Nat.min_eq_left (Nat.le_of_lt hj), hj, gt]
  · rw [List.set_append_right _ _ (by simp [Nat.min_le_left])]
    simp only [List.length_map, List.length_take, Nat.min_eq_left (Nat.le_of_lt hj), Nat.sub_self]
    rw [List.drop_eq_getElem_cons hj, List.set_cons_zero]
    have e : (l.take (j + 1)).map f = (l.take j).map f ++ [f l[j]] := by rw [List.take_add_one, List.getElem?_eq_getElem hj, List.map_append]; rfl
    rw [e]
    simp [gt, hj]
theorem C_pick_at {σ : Store} {R : Re → Store → Prop} {b g n : Nat} {c : ConfV} {live : SimV} {l : List SimV} (hb : Store.at σ b = some (.cells 40 g (l.map eSim))) (hn : n = l.length) (hl : l.length ≤ 1000) (hM : ∀ x ∈ l, okM x.marks) (hL : okM live.marks) (m0 : -1000000000 ≤ c.margin) (m1 : c.margin ≤ 1000000000)
    (h : R (.ret (.tup [i64 (pickS c live l), .bool (decide (0 < pickS c live l))])) σ) : C tE 112 [eConf c, eSim live, .ref b g 0 n] σ R := by
  subst hn
  refine C_lend tOK (args' := [eConf c, eSim live, .lit (l.map eSim)]) ?_ (C_pick hl hM hL m0 m1 ⟨rfl, h⟩)
  have h1 : frz σ 6 (.ref b g 0 l.length) = some (.lit (l.map eSim)) := by
    have := frz_row (n := 5) (off := 0) (len := l.length) hb (by simp) (fun x hx => by
      obtain ⟨a, _, rfl⟩ := List.mem_map.1 hx; simp)
    simpa using this
  simp [h1]
theorem mapM_set {α β : Type} {f : α → Option β} : ∀ {xs : List α} {ys : List β} {k : Nat} {a : α} {b : β}, xs.mapM f = some ys → f a = some b → (xs.set k a).mapM f = some (ys.set k b)
  | [], ys, k, a, b, h, hb => by simp at h; subst h; simp
  | x :: xs, ys, k, a, b, h, hb => by
    simp only [List.mapM_cons] at h
    obtain ⟨y, hy, h⟩ := Option.bind_eq_some_iff.1 h
    obtain ⟨zs, hz, h⟩ := Option.bind_eq_some_iff.1 h
    simp at h; subst h
    cases k with
    | zero => simp [hb, hz]
    | succ k => simp [hy, mapM_set hz hb]
@[simp] theorem mapM_sims {σ : Store} (l : List SimV) : (l.map eSim).mapM (frz σ 3) = some (l.map eSim) := by
  induction l with
  | nil => rfl
  | cons x l ih => simp [ih]
@[simp] theorem mapM_sims2 {σ : Store} (l : List SimV) : l.mapM (frz σ 3 ∘ eSim) = some (l.map eSim) := by
  rw [← mapM_sims (σ := σ) l, List.mapM_map]
/-- Shadows' row, frozen. -/
theorem frz_sims {σ : Store} {b g n : Nat} {l : List SimV} (h : Store.at σ b = some (.cells 40 g (l.map eSim))) (hn : n = l.length) : frz σ 4 (.ref b g 0 n) = some (.lit (l.map eSim)) := by
  subst hn
  have := frz_row (n := 3) (off := 0) (len := l.length) h (by simp) (fun x hx => by
    obtain ⟨a, _, rfl⟩ := List.mem_map.1 hx; simp)
  simpa using this
theorem frz_ev2 {σ : Store} {b g n : Nat} {l : List EvV} {raw : PV} {e : EvV} (h : Store.at σ b = some (.cells 50 g (l.map eEv ++ [raw]))) (hn : n = l.length + 1) (hr : frz σ 4 raw = some (eEv e)) : frz σ 5 (.ref b g 0 n) = some (.lit ((l ++ [e]).map eEv)) := by
  subst hn
  have h1 : (l.map eEv).mapM (frz σ 4) = some (l.map eEv) := by
    induction l with
    | nil => rfl
    | cons x l ih =>
      clear h ih
      have : ∀ k : List EvV, (k.map eEv).mapM (frz σ 4) = some (k.map eEv) := fun k => by
        induction k with
        | nil => rfl
        | cons y k ih => simp only [List.map_cons, List.mapM_cons, ih]; simp
      exact this _
  have h2 : (l.map eEv ++ [raw]).mapM (frz σ 4) = some ((l ++ [e]).map eEv) := by
    rw [List.mapM_append, h1]; simp [hr]
  show (match Store.at σ b with
      | some (.cells ty g' xs) => if g' = g ∧ 0 + (l.length + 1) ≤ xs.length then (((xs.drop 0).take (l.length + 1)).mapM (frz σ 4)).map PV.lit else none
      | _ => none) = _
  rw [h]
  simp only
  rw [if_pos ⟨trivial, by simp⟩, List.drop_zero, List.take_of_length_le (by simp), h2]; rfl
theorem pickS_le (c : ConfV) (live : SimV) (l : List SimV) : pickS c live l ≤ l.length := by
  obtain ⟨B, b0, bj, bs, be⟩ := pick_steps c live l
  rw [← be]; exact bj _
abbrev rawPol : PV := .agg 30 [i64 0, i64 0, .nils, i64 0, i64 0, i64 0, i64 0, .nils]
abbrev rawSim : PV := .agg 40 [rawPol, .agg 32 [i64 0, i64 0, .bool false], .agg 34 [i64 0, i64 0, .bool false], .agg 37 [i64 0, .nils, i64 0, i64 0], .nils]
theorem sims_set {σ : Store} (l : List SimV) (k : Nat) : ((l.map eSim).set k rawSim).mapM (frz σ 3) = some ((l.set k {}).map eSim) := by
  rw [List.map_set]; exact mapM_set (mapM_sims l) rfl
section
variable {R : Re → Store → Prop} {σ : Store}
set_option maxHeartbeats 8000000 in
theorem C_dtick1 {l : LiveV} {e e0 : EvV} {gs : Nat} (hl : okL l) (h : ∀ σ', DeskOut (tickL l e.t).1 (tickL l e.t).2 σ' → R (.ret (.tup [])) σ') : C tE 59 [.ptr 0 0 0 [], eEv e] [some (dsk l (.ref 1 gs 0 l.shadows.length) .nils), some (.cells 40 gs (l.shadows.map eSim)), some zLive, some (.cells 50 0 [eEv e0])] R := by
  refine s_body' Tryz.func59 tOK rfl (by conv => lhs; simp) (by conv => lhs; simp) (by conv => lhs; simp [Fr.args]) rfl (by conv => lhs; try simp) fun R9 hR9 => ?_
  refine j2 (fun fr σ => fr = [(0, .ptr 0 0 0 [])] ∧ σ = [some (dsk (nowL l e.t) (.ref 1 gs 0 l.shadows.length) .nils), some (.cells 40 gs (l.shadows.map eSim)), some zLive, some (.cells 50 0 [eEv e0])]) ?_ fun yJ key => ?_
  · rintro _ _ ⟨rfl, rfl⟩
    have hm := hl.nowL e.t
    unfold tickL at h
    simp only at h
    have hs' : l.shadows = (nowL l e.t).shadows := rfl
    rw [hs']
    clear hs' hl
    generalize nowL l e.t = m at *
    clear l
    refine j3 (fun fr σ => ∃ g, fr = [(0, .ptr 0 0 0 [])] ∧ m.set_ = true ∧ ¬ m.pol.kind = 0 ∧ σ = [some (dsk (decideL (rollL m)) (.ref 1 gs 0 m.shadows.length) (.ref 4 g 0 (outT m).length)), some (.cells 40 gs (m.shadows.map eSim)), some zLive, some (.cells 50 0 [eEv e0]), some (.cells 50 g ((outT m).map eEv))]) ?_ fun yJ key => ?_
    · rintro _ _ ⟨g, rfl, h1, h2, rfl⟩
      have hc := hm.conf h1
      have hr := hm.roll.decide.run (l := decideL (rollL m)) (by rw [show (decideL (rollL m)).conf = m.conf from (roll_conf m).1]; exact hc)
      have hd := hm.roll.decide
      have hbad : (decideL (rollL m)).probe.on = true → (decideL (rollL m)).probe.bad ≤ 32 := fun ho => roll_bad (l := m) hc ho
      have hs2 : m.shadows = (decideL (rollL m)).shadows := by
        show _ = (rollL m).shadows
        unfold rollL; split <;> rfl
      have hc2 : okConf (decideL (rollL m)).conf = true := by rw [show (decideL (rollL m)).conf = m.conf from (roll_conf m).1]; exact hc
      have ho : outT m = outT m := rfl
      rw [if_neg (by rw [h1]; simp [h2])] at h
      change ∀ σ', DeskOut (judgeL (runL (decideL (rollL m)))) (outT m ++ judgeO (runL (decideL (rollL m)))) σ' → _ at h
      obtain ⟨ev, evs, hev⟩ : ∃ ev evs, outT m = ev :: evs := by unfold outT rollO; split <;> exact ⟨_, _, rfl⟩
      have hel : evs.length ≤ 10 := by
        have := congrArg List.length hev
        unfold outT rollO at this
        split at this <;> simp only [List.length_append, List.length_cons, List.length_nil] at this <;> omega
      rw [hev] at h ⊢
      rw [hs2]
      clear ho hev h1 h2 hm hs2
      generalize decideL (rollL m) = q at *
      clear m hc
      obtain ⟨ins, now, util, dem, set, conf, pol, st, hold, sim, shd, pr⟩ := q
      have b1 := hd.pol; have b2 := hd.ppol; have b3 := hd.now; have b4 := hd.hold; have b5 := hd.sim.sim
      simp only at b1 b2 b3 b4 b5 hc2
      have b6 := hr.sim.sim.len.2.2
      obtain ⟨c1, c2, c3, c4⟩ := hd.pr
      simp only [runL] at b6 c1 c2 c3 c4
      have cs : ∀ {R : Re → Store → Prop} {σ : Store}, R (.ret (eSim (stepSim conf sim dem now))) σ → C tE 109 [eConf conf, eSim sim, i64 dem, i64 now] σ R := fun h => C_fstep hc2 b5 b3.1 b3.2 h
      have b7 := hr.shd
      have b8 : shd.length ≤ 1000 := by have := hd.n; simp only at this; omega
      have b9 := gt_all (P := okS) hd.shd okS_zero
      simp only [runL] at b7 b8 b9
      obtain ⟨f, hf'⟩ : ∃ f : SimV → SimV, ∀ x, stepSim conf x dem now = f x := ⟨fun x => stepSim conf x dem now, fun _ => rfl⟩
      have er : runL ⟨ins, now, util, dem, set, conf, pol, st, hold, sim, shd, pr⟩ = ⟨ins, now, util, dem, set, conf, pol, st, hold, f sim, shd.map f, pr⟩ := by
        unfold runL; simp only [hf']
      rw [er] at h
      have cr : ∀ {y : SimV} (hy : okSim y) {R : Re → Store → Prop} {σ : Store}, R (.ret (eSim (f y))) σ → C tE 109 [eConf conf, eSim y, i64 dem, i64 now] σ R := fun {y} hy {R} {σ} h => C_fstep hc2 hy b3.1 b3.2 (by rw [hf']; exact h)
      simp only [hf'] at b7 b6 cs
      have bM := hr.sim.marks
      simp only [runL, hf'] at bM
      generalize f sim = x at *
      obtain ⟨W, w0, wl, wq, ws, we⟩ := run_steps f shd
      rw [← we] at h b7
      have wll := wl shd.length
      generalize hY : W shd.length = Y at *
      clear hr hbad hd hf' we er
      obtain ⟨on, left, bad, id, pp, ps⟩ := pr
      simp only at b2 c1 c2 c3 c4 h
      repeat' (first | refine go ?_ | refine s_seq fun y9 hy9 => ?_ | refine qT _ ?_ ?_ | refine qG _ ?_ ?_ | refine qN ?_ ?_ | (refine QB.mk fun hb9 => ?_; (try simp only [hb9]); (try simp at hb9); first | (exfalso; omega) | subst hb9 | skip) | refine sD tOK tmix [([],0),([],1),([1],2),([1,2],3),([1,2,3],4),([1,2,3,4],5),([],6),([6],7),([6,7],8),([1,2,3,4,5,6,7,8],9),([0,1,2,3,4,5,6,7,8,9],10),([0,1,2,3,4,5,6,7,8,9,10],11),([0,1,2,3,4,5,6,7,8,9,10,11],12),([0,1,2,3,4,5,6,7,8,9,10,11,12],13)] 10 ?_ | refine sD tOK tmix [([],0),([],1),([1],2),([1,2],3),([1,2,3],4),([1,2,3,4],5),([],6),([6],7),([6,7],8),([6,7,8],9),([6,7,8,9],10),([],11),([11],12),([11,12],13),([11,12,13],14),([11,12,13,14],15),([],16),([16],17),([16,17],18),([16,17,18],19),([16,17,18,19],20),([1,2,3,4,5,6,7,8,9,10,11,12,13,14,15,16,17,18,19,20],21),([0,1,2,3,4,5,6,7,8,9,10,11,12,13,14,15,16,17,18,19,20,21],22),([0,1,2,3,4,5,6,7,8,9,10,11,12,13,14,15,16,17,18,19,20,21,22],23),([0,1,2,3,4,5,6,7,8,9,10,11,12,13,14,15,16,17,18,19,20,21,22,23],24),([0,1,2,3,4,5,6,7,8,9,10,11,12,13,14,15,16,17,18,19,20,21,22,23,24],25)] 22 ?_ | refine sD tOK tmix [([],0),([0],1),([0,1],2),([0,1,2],3),([0,1,2,3],4),([],5),([],6),([6],7),([6,7],8),([6,7,8],9),([6,7,8,9],10),([],11),([],12),([12],13),([12,13],14),([12,13,14],15),([12,13,14,15],16),([],17),([17],18),([17,18],19),([17,18,19],20),([17,18,19,20],21),([6,7,8,9,10,11,12,13,14,15,16,17,18,19,20,21],22),([0,1,2,3,4,5,6,7,8,9,10,11,12,13,14,15,16,17,18,19,20,21,22],23),([0,1,2,3,4,5,6,7,8,9,10,11,12,13,14,15,16,17,18,19,20,21,22,23],24)] 23 ?_ | refine qD _ ?_ ?_ | refine cE Tryz.func90 tOK fun R9 hR9 => ?_ | (refine nZ ?_; refine cs ?_) | (apply d_call []; exact rfl; (solve | (conv => lhs; try simp)); (solve | exact rfl | simp); (solve | (conv => lhs; try simp)); intro τ hτ; refine nZ ?_; first | exact cs ⟨rfl, rfl⟩))
      refine s_loop fun c9 hc9 => ?_
      refine w_trim 5 [0, 33, 34, 35] (by conv => lhs; simp) (by conv => lhs; simp) (by first | rfl | simp) (by first | rfl | simp) ?_
      refine s_loopn (shd.length) (fun j fr σ => fr = [(0, .ptr 0 0 0 []), (33, .ref 1 gs 0 shd.length), (34, i64 shd.length), (35, i64 j)] ∧ σ = [some (dsk ⟨ins, now, util, dem, set, conf, pol, st, hold, x, shd, ⟨on, left, bad, id, pp, ps⟩⟩ (.ref 1 gs 0 shd.length) (.ref 4 g 0 (evs.length + 1))), some (.cells 40 gs ((W j).map eSim)), some zLive, some (.cells 50 0 [eEv e0]), some (.cells 50 g (eEv ev :: evs.map eEv))]) ?_ ⟨by simp [w0], by first | rfl | simp [w0]⟩
      rintro j fr σ hj ⟨rfl, rfl⟩ ih
      have hwl := wl j
      refine s_round hc9 ?_
      rcases Nat.lt_or_ge j shd.length with hjl | hjl
      · have hq := wq j hjl
        have hq2 : ∀ h, (W j)[j]'h = gt shd j := fun h => by rw [List.getElem?_eq_getElem h] at hq; exact Option.some.inj hq
        have hset : ((W j).map eSim).set j (eSim (f (gt shd j))) = (W (j + 1)).map eSim := by rw [← ws j hjl, List.map_set]
        have b10 := (b9 j).sim
        clear ws wq wl
        have F9 := And.intro @hq <| And.intro @hq2 <| And.intro @hset <| @hwl
        repeat' (first | refine gf ?_ | refine s_seq fun y9 hy9 => ?_ | refine qT _ ?_ ?_ | refine qG _ ?_ ?_ | refine qN ?_ ?_ | (refine QB.mk fun hb9 => ?_; (try simp only [hb9]); (try simp at hb9); first | (exfalso; omega) | subst hb9 | skip) | refine sD tOK tmix [([],0),([],1),([1],2),([1,2],3),([1,2,3],4),([1,2,3,4],5),([],6),([6],7),([6,7],8),([1,2,3,4,5,6,7,8],9),([0,1,2,3,4,5,6,7,8,9],10),([0,1,2,3,4,5,6,7,8,9,10],11),([0,1,2,3,4,5,6,7,8,9,10,11],12),([0,1,2,3,4,5,6,7,8,9,10,11,12],13)] 10 ?_ | refine sD tOK tmix [([],0),([],1),([1],2),([1,2],3),([1,2,3],4),([1,2,3,4],5),([],6),([6],7),([6,7],8),([6,7,8],9),([6,7,8,9],10),([],11),([11],12),([11,12],13),([11,12,13],14),([11,12,13,14],15),([],16),([16],17),([16,17],18),([16,17,18],19),([16,17,18,19],20),([1,2,3,4,5,6,7,8,9,10,11,12,13,14,15,16,17,18,19,20],21),([0,1,2,3,4,5,6,7,8,9,10,11,12,13,14,15,16,17,18,19,20,21],22),([0,1,2,3,4,5,6,7,8,9,10,11,12,13,14,15,16,17,18,19,20,21,22],23),([0,1,2,3,4,5,6,7,8,9,10,11,12,13,14,15,16,17,18,19,20,21,22,23],24),([0,1,2,3,4,5,6,7,8,9,10,11,12,13,14,15,16,17,18,19,20,21,22,23,24],25)] 22 ?_ | refine sD tOK tmix [([],0),([0],1),([0,1],2),([0,1,2],3),([0,1,2,3],4),([],5),([],6),([6],7),([6,7],8),([6,7,8],9),([6,7,8,9],10),([],11),([],12),([12],13),([12,13],14),([12,13,14],15),([12,13,14,15],16),([],17),([17],18),([17,18],19),([17,18,19],20),([17,18,19,20],21),([6,7,8,9,10,11,12,13,14,15,16,17,18,19,20,21],22),([0,1,2,3,4,5,6,7,8,9,10,11,12,13,14,15,16,17,18,19,20,21,22],23),([0,1,2,3,4,5,6,7,8,9,10,11,12,13,14,15,16,17,18,19,20,21,22,23],24)] 23 ?_ | refine qD _ ?_ ?_ | refine cE Tryz.func90 tOK fun R9 hR9 => ?_ | (refine nZ ?_; refine (cr b10) ?_) | (apply d_call []; exact rfl; (solve | (conv => lhs; try simp [hq,hq2,hset,hwl])); (solve | exact rfl | simp); (solve | (conv => lhs; try simp [hq,hq2,hset,hwl])); intro τ hτ; refine nZ ?_; first | exact (cr b10) ⟨rfl, rfl⟩))
        refine w_back 5 [0, 33, 34, 35] (by conv => lhs; simp) (by conv => lhs; simp) (by first | rfl | simp) (by first | rfl | simp) ?_
        exact ih hjl _ _ ⟨rfl, by simp⟩
      · have : j = shd.length := by omega
        subst this
        rw [hY]
        clear ih wq ws wl b9 w0
        have hyl : (Y.map eSim).take shd.length = Y.map eSim := List.take_of_length_le (by simp [wll])
        have cp : ∀ {τ : Store}, Store.at τ 1 = some (.cells 40 gs (Y.map eSim)) → ∀ {R : Re → Store → Prop}, R (.ret (.tup [i64 (pickS conf x Y), .bool (decide (0 < pickS conf x Y))])) τ → C tE 112 [eConf conf, eSim x, .ref 1 gs 0 shd.length] τ R := fun {τ} hτ {R} h => by
          rw [okConf_b, decide_eq_true_eq] at hc2
          exact C_pick_at hτ wll.symm (by omega) (fun x hx => (b7 x hx).marks) bM (by omega) (by omega) h
        cases on with
        | true =>
          have ct : ∀ {b : Bool} {R : Re → Store → Prop} {σ : Store}, R (.ret (eProbe (tickPr ⟨true, left, bad, id, pp, ps⟩ b))) σ → C tE 110 [eProbe ⟨true, left, bad, id, pp, ps⟩, .bool b] σ R := fun h => C_ptick (p := ⟨true, left, bad, id, pp, ps⟩) b2.len (by show _ ≤ left; omega) (by show left ≤ _; omega) (by show _ ≤ bad; omega) (by show bad ≤ _; omega) h
          simp only [judgeL, judgeO, if_true, List.append_nil] at h
          rcases Nat.eq_zero_or_pos x.marks.length with hM | hM
          · rw [List.eq_nil_of_length_eq_zero hM, lastBad_nil] at h
            have F9 := @hM
            repeat' (first | refine gf ?_ | refine s_seq fun y9 hy9 => ?_ | refine qT _ ?_ ?_ | refine qG _ ?_ ?_ | refine qN ?_ ?_ | (refine QB.mk fun hb9 => ?_; (try simp only [hb9]); (try simp at hb9); first | (exfalso; omega) | subst hb9 | skip) | refine w_loop fun y9 hy9 => ?_ | (apply w_again; assumption) | refine sD tOK tmix [([],0),([],1),([1],2),([1,2],3),([1,2,3],4),([1,2,3,4],5),([],6),([6],7),([6,7],8),([1,2,3,4,5,6,7,8],9),([0,1,2,3,4,5,6,7,8,9],10),([0,1,2,3,4,5,6,7,8,9,10],11),([0,1,2,3,4,5,6,7,8,9,10,11],12),([0,1,2,3,4,5,6,7,8,9,10,11,12],13)] 10 ?_ | refine sD tOK tmix [([],0),([],1),([1],2),([1,2],3),([1,2,3],4),([1,2,3,4],5),([],6),([6],7),([6,7],8),([6,7,8],9),([6,7,8,9],10),([6,7,8,9,10],11),([6,7,8,9,10,11],12),([6,7,8,9,10,11,12],13),([6,7,8,9,10,11,12,13],14),([6,7,8],15),([6,7,8,9,10,11,12,13,14,15],16),([6,7,8,9,10,11,12,13,14,15,16],17),([6,7,8,9,10,11,12,13,14,15,16,17],18),([6,7,8,9,10,11,12,13,14,15,16,17,18],19),([1,2,3,4,5,6,7,8,9,10,11,12,13,14,15,16,17,18,19],20),([0,1,2,3,4,5,6,7,8,9,10,11,12,13,14,15,16,17,18,19,20],21),([0,1,2,3,4,5,6,7,8,9,10,11,12,13,14,15,16,17,18,19,20,21],22),([0,1,2,3,4,5,6,7,8,9,10,11,12,13,14,15,16,17,18,19,20,21,22],23),([0,1,2,3,4,5,6,7,8,9,10,11,12,13,14,15,16,17,18,19,20,21,22,23],24)] 21 ?_ | refine sD tOK tmix [([],0),([0],1),([0,1],2),([0,1,2],3),([0,1,2,3],4),([],5),([5],6),([5,6],7),([5,6,7],8),([5,6,7,8],9),([0,1,2,3,4,5,6,7,8,9],10)] 10 ?_ | refine sD tOK tmix [([],0),([0],1),([0,1],2),([0,1,2],3),([0,1,2,3],4),([],5),([5],6),([5,6],7),([5,6,7],8),([5,6,7,8],9),([],10),([10],11),([10,11],12),([10,11,12],13),([10,11,12,13],14),([0,1,2,3,4,5,6,7,8,9,10,11,12,13,14],15),([0,1,2,3,4,5,6,7,8,9,10,11,12,13,14,15],16),([0,1,2,3,4,5,6,7,8,9,10,11,12,13,14,15,16],17),([0,1,2,3,4,5,6,7,8,9,10,11,12,13,14,15,16],18),([0,1,2,3,4,5,6,7,8,9,10,11,12,13,14,15,16,17],19),([0,1,2,3,4,5,6,7,8,9,10,11,12,13,14,15,16,17,18,19],20)] 20 ?_ | refine sD tOK tmix [([],0),([],1),([1],2),([1,2],3),([1,2,3],4),([1,2,3,4],5),([],6),([],7),([7],8),([7,8],9),([7,8,9],10),([7,8,9,10],11),([],12),([12],13),([12,13],14),([12,13,14],15),([12,13,14,15],16),([1,2,3,4,5,6,7,8,9,10,11,12,13,14,15,16],17),([0,1,2,3,4,5,6,7,8,9,10,11,12,13,14,15,16,17],18),([0,1,2,3,4,5,6,7,8,9,10,11,12,13,14,15,16,17,18],19),([0,1,2,3,4,5,6,7,8,9,10,11,12,13,14,15,16,17,18,19],20),([0,1,2,3,4,5,6,7,8,9,10,11,12,13,14,15,16,17,18,19,20],21)] 18 ?_ | refine sD tOK tmix [([],0),([],1),([],2),([],3),([3],4),([3,4],5),([],6),([6],7),([],8),([0,3,4,5],9),([0,3,4,5,9],10),([0,3,4,5,9,10],11),([0,3,4,5,9,10,11],12),([0,1,3,4,5,6,7,9,10,11,12],13),([0,1,3,4,5,6,7,9,10,11,12,13],14),([0,1,3,4,5,6,7,9,10,11,12,13,14],15),([0,1,3,4,5,6,7,9,10,11,12,13,14,15],16),([0,1,2,3,4,5,6,7,8,9,10,11,12,13,14,15,16],17),([0,1,2,3,4,5,6,7,8,9,10,11,12,13,14,15,16,17],18),([0,1,2,3,4,5,6,7,8,9,10,11,12,13,14,15,16,17,18],19),([0,1,2,3,4,5,6,7,8,9,10,11,12,13,14,15,16,17,18,19],20)] 17 ?_ | refine qD _ ?_ ?_ | refine cE Tryz.func91 tOK fun R9 hR9 => ?_ | (refine nZ ?_; first | refine ct ?_ | refine C_over ?_) | (apply d_call []; exact rfl; (solve | (conv => lhs; try simp [hM])); (solve | exact rfl | simp); (solve | (conv => lhs; try simp [hM])); intro τ hτ; refine nZ ?_; first | exact ct ⟨rfl, rfl⟩ | exact C_over ⟨rfl, rfl⟩))
            all_goals
              refine h _ ⟨_, _, rfl, rfl, fun x => ⟨?_, ?_⟩⟩
              · simp [*]
              · exact frz_ev (l := ev :: evs) rfl
          · obtain ⟨k, hk⟩ : ∃ k, x.marks.length = k + 1 := ⟨x.marks.length - 1, by omega⟩
            rw [lastBad_gt hk] at h
            have hq : x.marks[k]? = some (gt x.marks k) := gq (by omega)
            have hq2 : ∀ h, x.marks[k]'h = gt x.marks k := fun h => by simp [gt, h]
            have F9 := And.intro @hk <| And.intro @hq <| @hq2
            repeat' (first | refine gf ?_ | refine s_seq fun y9 hy9 => ?_ | refine qT _ ?_ ?_ | refine qG _ ?_ ?_ | refine qN ?_ ?_ | (refine QB.mk fun hb9 => ?_; (try simp only [hb9]); (try simp at hb9); first | (exfalso; omega) | subst hb9 | skip) | refine w_loop fun y9 hy9 => ?_ | (apply w_again; assumption) | refine sD tOK tmix [([],0),([],1),([1],2),([1,2],3),([1,2,3],4),([1,2,3,4],5),([],6),([6],7),([6,7],8),([1,2,3,4,5,6,7,8],9),([0,1,2,3,4,5,6,7,8,9],10),([0,1,2,3,4,5,6,7,8,9,10],11),([0,1,2,3,4,5,6,7,8,9,10,11],12),([0,1,2,3,4,5,6,7,8,9,10,11,12],13)] 10 ?_ | refine sD tOK tmix [([],0),([],1),([1],2),([1,2],3),([1,2,3],4),([1,2,3,4],5),([],6),([6],7),([6,7],8),([6,7,8],9),([6,7,8,9],10),([6,7,8,9,10],11),([6,7,8,9,10,11],12),([6,7,8,9,10,11,12],13),([6,7,8,9,10,11,12,13],14),([6,7,8],15),([6,7,8,9,10,11,12,13,14,15],16),([6,7,8,9,10,11,12,13,14,15,16],17),([6,7,8,9,10,11,12,13,14,15,16,17],18),([6,7,8,9,10,11,12,13,14,15,16,17,18],19),([1,2,3,4,5,6,7,8,9,10,11,12,13,14,15,16,17,18,19],20),([0,1,2,3,4,5,6,7,8,9,10,11,12,13,14,15,16,17,18,19,20],21),([0,1,2,3,4,5,6,7,8,9,10,11,12,13,14,15,16,17,18,19,20,21],22),([0,1,2,3,4,5,6,7,8,9,10,11,12,13,14,15,16,17,18,19,20,21,22],23),([0,1,2,3,4,5,6,7,8,9,10,11,12,13,14,15,16,17,18,19,20,21,22,23],24)] 21 ?_ | refine sD tOK tmix [([],0),([0],1),([0,1],2),([0,1,2],3),([0,1,2,3],4),([],5),([5],6),([5,6],7),([5,6,7],8),([5,6,7,8],9),([0,1,2,3,4,5,6,7,8,9],10)] 10 ?_ | refine sD tOK tmix [([],0),([0],1),([0,1],2),([0,1,2],3),([0,1,2,3],4),([],5),([5],6),([5,6],7),([5,6,7],8),([5,6,7,8],9),([],10),([10],11),([10,11],12),([10,11,12],13),([10,11,12,13],14),([0,1,2,3,4,5,6,7,8,9,10,11,12,13,14],15),([0,1,2,3,4,5,6,7,8,9,10,11,12,13,14,15],16),([0,1,2,3,4,5,6,7,8,9,10,11,12,13,14,15,16],17),([0,1,2,3,4,5,6,7,8,9,10,11,12,13,14,15,16],18),([0,1,2,3,4,5,6,7,8,9,10,11,12,13,14,15,16,17],19),([0,1,2,3,4,5,6,7,8,9,10,11,12,13,14,15,16,17,18,19],20)] 20 ?_ | refine sD tOK tmix [([],0),([],1),([1],2),([1,2],3),([1,2,3],4),([1,2,3,4],5),([],6),([],7),([7],8),([7,8],9),([7,8,9],10),([7,8,9,10],11),([],12),([12],13),([12,13],14),([12,13,14],15),([12,13,14,15],16),([1,2,3,4,5,6,7,8,9,10,11,12,13,14,15,16],17),([0,1,2,3,4,5,6,7,8,9,10,11,12,13,14,15,16,17],18),([0,1,2,3,4,5,6,7,8,9,10,11,12,13,14,15,16,17,18],19),([0,1,2,3,4,5,6,7,8,9,10,11,12,13,14,15,16,17,18,19],20),([0,1,2,3,4,5,6,7,8,9,10,11,12,13,14,15,16,17,18,19,20],21)] 18 ?_ | refine sD tOK tmix [([],0),([],1),([],2),([],3),([3],4),([3,4],5),([],6),([6],7),([],8),([0,3,4,5],9),([0,3,4,5,9],10),([0,3,4,5,9,10],11),([0,3,4,5,9,10,11],12),([0,1,3,4,5,6,7,9,10,11,12],13),([0,1,3,4,5,6,7,9,10,11,12,13],14),([0,1,3,4,5,6,7,9,10,11,12,13,14],15),([0,1,3,4,5,6,7,9,10,11,12,13,14,15],16),([0,1,2,3,4,5,6,7,8,9,10,11,12,13,14,15,16],17),([0,1,2,3,4,5,6,7,8,9,10,11,12,13,14,15,16,17],18),([0,1,2,3,4,5,6,7,8,9,10,11,12,13,14,15,16,17,18],19),([0,1,2,3,4,5,6,7,8,9,10,11,12,13,14,15,16,17,18,19],20)] 17 ?_ | refine qD _ ?_ ?_ | refine cE Tryz.func91 tOK fun R9 hR9 => ?_ | (refine nZ ?_; first | refine ct ?_ | refine C_over ?_) | (apply d_call []; exact rfl; (solve | (conv => lhs; try simp [hk,hq,hq2])); (solve | exact rfl | simp); (solve | (conv => lhs; try simp [hk,hq,hq2])); intro τ hτ; refine nZ ?_; first | exact ct ⟨rfl, rfl⟩ | exact C_over ⟨rfl, rfl⟩))
            all_goals
              refine h _ ⟨_, _, rfl, rfl, fun x => ⟨?_, ?_⟩⟩
              · simp [*]
              · exact frz_ev (l := ev :: evs) rfl
        | false =>
          simp only [judgeL, judgeO, if_false, Bool.false_eq_true] at h
          rcases Nat.eq_zero_or_pos (pickS conf x Y) with hk | hk
          · rw [hk] at h cp
            simp only [if_true, List.append_nil] at h
            repeat' (first | refine go ?_ | refine s_seq fun y9 hy9 => ?_ | refine qT _ ?_ ?_ | refine qG _ ?_ ?_ | refine qN ?_ ?_ | (refine QB.mk fun hb9 => ?_; (try simp only [hb9]); (try simp at hb9); first | (exfalso; omega) | subst hb9 | skip) | refine w_loop fun y9 hy9 => ?_ | (apply w_again; assumption) | refine sD tOK tmix [([],0),([],1),([1],2),([1,2],3),([1,2,3],4),([1,2,3,4],5),([],6),([6],7),([6,7],8),([1,2,3,4,5,6,7,8],9),([0,1,2,3,4,5,6,7,8,9],10),([0,1,2,3,4,5,6,7,8,9,10],11),([0,1,2,3,4,5,6,7,8,9,10,11],12),([0,1,2,3,4,5,6,7,8,9,10,11,12],13)] 10 ?_ | refine sD tOK tmix [([],0),([],1),([1],2),([1,2],3),([1,2,3],4),([1,2,3,4],5),([],6),([6],7),([6,7],8),([6,7,8],9),([6,7,8,9],10),([6,7,8,9,10],11),([6,7,8,9,10,11],12),([6,7,8,9,10,11,12],13),([6,7,8,9,10,11,12,13],14),([6,7,8],15),([6,7,8,9,10,11,12,13,14,15],16),([6,7,8,9,10,11,12,13,14,15,16],17),([6,7,8,9,10,11,12,13,14,15,16,17],18),([6,7,8,9,10,11,12,13,14,15,16,17,18],19),([1,2,3,4,5,6,7,8,9,10,11,12,13,14,15,16,17,18,19],20),([0,1,2,3,4,5,6,7,8,9,10,11,12,13,14,15,16,17,18,19,20],21),([0,1,2,3,4,5,6,7,8,9,10,11,12,13,14,15,16,17,18,19,20,21],22),([0,1,2,3,4,5,6,7,8,9,10,11,12,13,14,15,16,17,18,19,20,21,22],23),([0,1,2,3,4,5,6,7,8,9,10,11,12,13,14,15,16,17,18,19,20,21,22,23],24)] 21 ?_ | refine sD tOK tmix [([],0),([0],1),([0,1],2),([0,1,2],3),([0,1,2,3],4),([],5),([5],6),([5,6],7),([5,6,7],8),([5,6,7,8],9),([0,1,2,3,4,5,6,7,8,9],10)] 10 ?_ | refine sD tOK tmix [([],0),([0],1),([0,1],2),([0,1,2],3),([0,1,2,3],4),([],5),([5],6),([5,6],7),([5,6,7],8),([5,6,7,8],9),([],10),([10],11),([10,11],12),([10,11,12],13),([10,11,12,13],14),([0,1,2,3,4,5,6,7,8,9,10,11,12,13,14],15),([0,1,2,3,4,5,6,7,8,9,10,11,12,13,14,15],16),([0,1,2,3,4,5,6,7,8,9,10,11,12,13,14,15,16],17),([0,1,2,3,4,5,6,7,8,9,10,11,12,13,14,15,16],18),([0,1,2,3,4,5,6,7,8,9,10,11,12,13,14,15,16,17],19),([0,1,2,3,4,5,6,7,8,9,10,11,12,13,14,15,16,17,18,19],20)] 20 ?_ | refine sD tOK tmix [([],0),([],1),([1],2),([1,2],3),([1,2,3],4),([1,2,3,4],5),([],6),([],7),([7],8),([7,8],9),([7,8,9],10),([7,8,9,10],11),([],12),([12],13),([12,13],14),([12,13,14],15),([12,13,14,15],16),([1,2,3,4,5,6,7,8,9,10,11,12,13,14,15,16],17),([0,1,2,3,4,5,6,7,8,9,10,11,12,13,14,15,16,17],18),([0,1,2,3,4,5,6,7,8,9,10,11,12,13,14,15,16,17,18],19),([0,1,2,3,4,5,6,7,8,9,10,11,12,13,14,15,16,17,18,19],20),([0,1,2,3,4,5,6,7,8,9,10,11,12,13,14,15,16,17,18,19,20],21)] 18 ?_ | refine sD tOK tmix [([],0),([],1),([],2),([],3),([3],4),([3,4],5),([],6),([6],7),([],8),([0,3,4,5],9),([0,3,4,5,9],10),([0,3,4,5,9,10],11),([0,3,4,5,9,10,11],12),([0,1,3,4,5,6,7,9,10,11,12],13),([0,1,3,4,5,6,7,9,10,11,12,13],14),([0,1,3,4,5,6,7,9,10,11,12,13,14],15),([0,1,3,4,5,6,7,9,10,11,12,13,14,15],16),([0,1,2,3,4,5,6,7,8,9,10,11,12,13,14,15,16],17),([0,1,2,3,4,5,6,7,8,9,10,11,12,13,14,15,16,17],18),([0,1,2,3,4,5,6,7,8,9,10,11,12,13,14,15,16,17,18],19),([0,1,2,3,4,5,6,7,8,9,10,11,12,13,14,15,16,17,18,19],20)] 17 ?_ | refine qD _ ?_ ?_ | refine cE Tryz.func91 tOK fun R9 hR9 => ?_ | (apply d_call [1]; exact rfl; (solve | (conv => lhs; try simp)); (solve | exact rfl | simp); (solve | (conv => lhs; try simp)); intro τ hτ; exact (cp ((hτ 1 (by simp)).trans (by simp))) ⟨rfl, rfl⟩))
            all_goals
              refine h _ ⟨_, _, rfl, rfl, fun x => ⟨?_, ?_⟩⟩
              · simp [*]
              · exact frz_ev (l := ev :: evs) rfl
          · obtain ⟨k, hk⟩ : ∃ k, pickS conf x Y = k + 1 := ⟨pickS conf x Y - 1, by omega⟩
            have hky := pickS_le conf x Y
            rw [hk] at h cp hky
            have hkl : k < Y.length := by omega
            have hyk : Y[k]? = some (gt Y k) := gq hkl
            have hyk2 : ∀ h, Y[k]'h = gt Y k := fun h => by simp [gt, h]
            have hlen := (b7 (gt Y k) (gt_mem hkl)).sim.len
            rw [if_neg (by omega), if_neg (by omega)] at h
            change ∀ σ', DeskOut ⟨ins, now, util, dem, set, conf, (gt Y k).pol, (gt Y k).state, hold, gt Y k, Y.set k {}, beginPr conf ((k + 1 : Nat) : Int) pol st⟩ (ev :: evs ++ [{ kind := 6, id := ((k + 1 : Nat) : Int) }]) σ' → _ at h
            have hz := fun σ => sims_set (σ := σ) Y k
            have hyl2 : ∀ z, ((Y.map eSim).set k z).take shd.length = (Y.map eSim).set k z := fun z => List.take_of_length_le (by simp [wll])
            have F9 := And.intro @hyk <| @hyk2
            repeat' (first | refine gf ?_ | refine s_seq fun y9 hy9 => ?_ | refine qT _ ?_ ?_ | refine qG _ ?_ ?_ | refine qN ?_ ?_ | (refine QB.mk fun hb9 => ?_; (try simp only [hb9]); (try simp at hb9); first | (exfalso; omega) | subst hb9 | skip) | refine w_loop fun y9 hy9 => ?_ | (apply w_again; assumption) | refine sD tOK tmix [([],0),([],1),([1],2),([1,2],3),([1,2,3],4),([1,2,3,4],5),([],6),([6],7),([6,7],8),([1,2,3,4,5,6,7,8],9),([0,1,2,3,4,5,6,7,8,9],10),([0,1,2,3,4,5,6,7,8,9,10],11),([0,1,2,3,4,5,6,7,8,9,10,11],12),([0,1,2,3,4,5,6,7,8,9,10,11,12],13)] 10 ?_ | refine sD tOK tmix [([],0),([],1),([1],2),([1,2],3),([1,2,3],4),([1,2,3,4],5),([],6),([6],7),([6,7],8),([6,7,8],9),([6,7,8,9],10),([6,7,8,9,10],11),([6,7,8,9,10,11],12),([6,7,8,9,10,11,12],13),([6,7,8,9,10,11,12,13],14),([6,7,8],15),([6,7,8,9,10,11,12,13,14,15],16),([6,7,8,9,10,11,12,13,14,15,16],17),([6,7,8,9,10,11,12,13,14,15,16,17],18),([6,7,8,9,10,11,12,13,14,15,16,17,18],19),([1,2,3,4,5,6,7,8,9,10,11,12,13,14,15,16,17,18,19],20),([0,1,2,3,4,5,6,7,8,9,10,11,12,13,14,15,16,17,18,19,20],21),([0,1,2,3,4,5,6,7,8,9,10,11,12,13,14,15,16,17,18,19,20,21],22),([0,1,2,3,4,5,6,7,8,9,10,11,12,13,14,15,16,17,18,19,20,21,22],23),([0,1,2,3,4,5,6,7,8,9,10,11,12,13,14,15,16,17,18,19,20,21,22,23],24)] 21 ?_ | refine sD tOK tmix [([],0),([0],1),([0,1],2),([0,1,2],3),([0,1,2,3],4),([],5),([5],6),([5,6],7),([5,6,7],8),([5,6,7,8],9),([0,1,2,3,4,5,6,7,8,9],10)] 10 ?_ | refine sD tOK tmix [([],0),([0],1),([0,1],2),([0,1,2],3),([0,1,2,3],4),([],5),([5],6),([5,6],7),([5,6,7],8),([5,6,7,8],9),([],10),([10],11),([10,11],12),([10,11,12],13),([10,11,12,13],14),([0,1,2,3,4,5,6,7,8,9,10,11,12,13,14],15),([0,1,2,3,4,5,6,7,8,9,10,11,12,13,14,15],16),([0,1,2,3,4,5,6,7,8,9,10,11,12,13,14,15,16],17),([0,1,2,3,4,5,6,7,8,9,10,11,12,13,14,15,16],18),([0,1,2,3,4,5,6,7,8,9,10,11,12,13,14,15,16,17],19),([0,1,2,3,4,5,6,7,8,9,10,11,12,13,14,15,16,17,18,19],20)] 20 ?_ | refine sD tOK tmix [([],0),([],1),([1],2),([1,2],3),([1,2,3],4),([1,2,3,4],5),([],6),([],7),([7],8),([7,8],9),([7,8,9],10),([7,8,9,10],11),([],12),([12],13),([12,13],14),([12,13,14],15),([12,13,14,15],16),([1,2,3,4,5,6,7,8,9,10,11,12,13,14,15,16],17),([0,1,2,3,4,5,6,7,8,9,10,11,12,13,14,15,16,17],18),([0,1,2,3,4,5,6,7,8,9,10,11,12,13,14,15,16,17,18],19),([0,1,2,3,4,5,6,7,8,9,10,11,12,13,14,15,16,17,18,19],20),([0,1,2,3,4,5,6,7,8,9,10,11,12,13,14,15,16,17,18,19,20],21)] 18 ?_ | refine sD tOK tmix [([],0),([],1),([],2),([],3),([3],4),([3,4],5),([],6),([6],7),([],8),([0,3,4,5],9),([0,3,4,5,9],10),([0,3,4,5,9,10],11),([0,3,4,5,9,10,11],12),([0,1,3,4,5,6,7,9,10,11,12],13),([0,1,3,4,5,6,7,9,10,11,12,13],14),([0,1,3,4,5,6,7,9,10,11,12,13,14],15),([0,1,3,4,5,6,7,9,10,11,12,13,14,15],16),([0,1,2,3,4,5,6,7,8,9,10,11,12,13,14,15,16],17),([0,1,2,3,4,5,6,7,8,9,10,11,12,13,14,15,16,17],18),([0,1,2,3,4,5,6,7,8,9,10,11,12,13,14,15,16,17,18],19),([0,1,2,3,4,5,6,7,8,9,10,11,12,13,14,15,16,17,18,19],20)] 17 ?_ | refine sD tOK tmix [([],2),([],3),([1],4),([1,2],5),([1,2,3],6),([],7),([5],0),([1,2,3,4,5,6],1),([0,1,2,3,4,5,6,7],8),([0,1,2,3,4,5,6,7,8],9),([0,1,2,3,4,5,6,7,8,9],10)] 8 ?_ | refine qD _ ?_ ?_ | refine cE Tryz.func91 tOK fun R9 hR9 => ?_ | refine cE Tryz.func106 tOK fun R9 hR9 => ?_ | (refine nZ ?_; first | refine (C_begin b1.len) ?_ | refine (C_fown hlen) ?_) | (apply d_call []; exact rfl; (solve | (conv => lhs; try simp [hyk,hyk2])); (solve | exact rfl | simp); (solve | (conv => lhs; try simp [hyk,hyk2])); intro τ hτ; refine nZ ?_; first | exact (C_begin b1.len) ⟨rfl, rfl⟩ | exact (C_fown hlen) ⟨rfl, rfl⟩) | (apply d_call [1]; exact rfl; (solve | (conv => lhs; try simp [hyk,hyk2])); (solve | exact rfl | simp); (solve | (conv => lhs; try simp [hyk,hyk2])); intro τ hτ; exact (cp ((hτ 1 (by simp)).trans (by simp))) ⟨rfl, rfl⟩))
            all_goals
              refine h _ ⟨_, _, rfl, rfl, fun x => ⟨?_, ?_⟩⟩
              · simp [hz, hyl2, *]
              · exact frz_ev2 (l := ev :: evs) rfl rfl rfl
    · obtain ⟨ins, now, util, dem, set, conf, pol, st, hold, sim, shd, pr⟩ := m
      simp only at h
      have b1 := hm.pol; have b2 := hm.ppol; have b3 := hm.now; have b4 := hm.hold
      simp only at b1 b2 b3 b4
      cases set with
      | false =>
        clear key
        repeat' (first | refine go ?_ | refine s_seq fun y9 hy9 => ?_ | refine qT _ ?_ ?_ | refine qG _ ?_ ?_ | refine qN ?_ ?_ | (refine QB.mk fun hb9 => ?_; (try simp only [hb9]); (try simp at hb9); first | (exfalso; omega) | subst hb9 | skip) | refine sD tOK tmix [([],0),([],1),([1],2),([1,2],3),([1,2,3],4),([1,2,3,4],5),([],6),([6],7),([6,7],8),([1,2,3,4,5,6,7,8],9),([0,1,2,3,4,5,6,7,8,9],10),([0,1,2,3,4,5,6,7,8,9,10],11),([0,1,2,3,4,5,6,7,8,9,10,11],12),([0,1,2,3,4,5,6,7,8,9,10,11,12],13)] 10 ?_ | refine qD _ ?_ ?_)
        exact h _ ⟨_, _, rfl, rfl, fun x => ⟨by simp, by simp⟩⟩
      | true =>
        have hc := hm.conf rfl
        rw [okConf_b, decide_eq_true_eq] at hc
        simp only at hc
        rcases Decidable.em (pol.kind = 0) with hk | hk
        · clear key
          have F9 := @hk
          repeat' (first | refine gf ?_ | refine s_seq fun y9 hy9 => ?_ | refine qT _ ?_ ?_ | refine qG _ ?_ ?_ | refine qN ?_ ?_ | (refine QB.mk fun hb9 => ?_; (try simp only [hb9]); (try simp at hb9); first | (exfalso; omega) | subst hb9 | skip) | refine sD tOK tmix [([],0),([],1),([1],2),([1,2],3),([1,2,3],4),([1,2,3,4],5),([],6),([6],7),([6,7],8),([1,2,3,4,5,6,7,8],9),([0,1,2,3,4,5,6,7,8,9],10),([0,1,2,3,4,5,6,7,8,9,10],11),([0,1,2,3,4,5,6,7,8,9,10,11],12),([0,1,2,3,4,5,6,7,8,9,10,11,12],13)] 10 ?_ | refine qD _ ?_ ?_ | (refine nZ ?_; refine C_zero ?_) | (apply d_call []; exact rfl; (solve | (conv => lhs; try simp [hk])); (solve | exact rfl | simp); (solve | (conv => lhs; try simp [hk])); intro τ hτ; refine nZ ?_; first | exact C_zero ⟨rfl, rfl⟩))
          simp only [hk, or_true, if_true] at h
          exact h _ ⟨_, _, rfl, rfl, fun x => ⟨by simp, by simp⟩⟩
        · cases hb : breachedPr conf pr with
          | false =>
            have cb : ∀ {R : Re → Store → Prop} {σ : Store}, R (.ret (.bool false)) σ → C tE 105 [eConf conf, eProbe pr] σ R := fun h => C_breached (by rw [hb]; exact h)
            have F9 := @hk
            repeat' (first | refine gf ?_ | refine s_seq fun y9 hy9 => ?_ | refine qT _ ?_ ?_ | refine qG _ ?_ ?_ | refine qN ?_ ?_ | (refine QB.mk fun hb9 => ?_; (try simp only [hb9]); (try simp at hb9); first | (exfalso; omega) | subst hb9 | skip) | refine sD tOK tmix [([],0),([],1),([1],2),([1,2],3),([1,2,3],4),([1,2,3,4],5),([],6),([6],7),([6,7],8),([1,2,3,4,5,6,7,8],9),([0,1,2,3,4,5,6,7,8,9],10),([0,1,2,3,4,5,6,7,8,9,10],11),([0,1,2,3,4,5,6,7,8,9,10,11],12),([0,1,2,3,4,5,6,7,8,9,10,11,12],13)] 10 ?_ | refine sD tOK tmix [([],0),([0],1),([0,1],2),([0,1,2],3),([0,1,2,3],4),([],5),([0,1,2,3,4,5],6)] 6 ?_ | refine sD tOK tmix [([],1),([0],2),([0,1],3),([0,1,2],4),([0,1,2,3],5),([],6),([5],7),([5,6],8),([5,6,7],9),([5,6,7,8],10),([],11),([10],12),([10,11],13),([10,11,12],14),([10,11,12,13],15),([10,11,12,13,14],16),([],17),([16],18),([16,17],19),([16,17,18],20),([16,17,18,19],21),([],22),([21],23),([21,22],24),([21,22,23],25),([21,22,23,24],26),([0,1,2,3,4,5,6,7,8,9,10,11,12,13,14,15,16,17,18,19,20,21,22,23,24,25],27),([0,1,2,3,4,5,6,7,8,9,10,11,12,13,14,15,16,17,18,19,20,21,22,23,24,25,26],28),([0,1,2,3,4,5,6,7,8,9,10,11,12,13,14,15,16,17,18,19,20,21,22,23,24,25,26,27],29),([0,1,2,3,4,5,6,7,8,9,10,11,12,13,14,15,16,17,18,19,20,21,22,23,24,25,26,27],30),([],0),([0,1,2,3,4,5,6,7,8,9,10,11,12,13,14,15,16,17,18,19,20,21,22,23,24,25,26,27,28,30],31),([0,1,2,3,4,5,6,7,8,9,10,11,12,13,14,15,16,17,18,19,20,21,22,23,24,25,26,27,28,29,30,31],32)] 32 ?_ | refine sD tOK tmix [([],0),([],1),([],2),([],3),([3],4),([3,4],5),([3,4,5],6),([3,4,5,6],7),([],8),([8],9),([8,9],10),([8,9,10],11),([8,9,10,11],12),([],13),([],14),([14],15),([14,15],16),([14,15,16],17),([14,15,16,17],18),([3,4,5,6,7,8,9,10,11,12,13,14,15,16,17,18],19),([0,2,3,4,5,6,7,8,9,10,11,12,13,14,15,16,17,18,19],20),([0,2,3,4,5,6,7,8,9,10,11,12,13,14,15,16,17,18,19,20],21),([0,2,3,4,5,6,7,8,9,10,11,12,13,14,15,16,17,18,19,20,21],22),([0,2,3,4,5,6,7,8,9,10,11,12,13,14,15,16,17,18,19,20,21,22],23),([0,1,2,3,4,5,6,7,8,9,10,11,12,13,14,15,16,17,18,19,20,21,22,23],24),([0,1,2,3,4,5,6,7,8,9,10,11,12,13,14,15,16,17,18,19,20,21,22,23,24],25),([0,1,2,3,4,5,6,7,8,9,10,11,12,13,14,15,16,17,18,19,20,21,22,23,24,25],26),([0,1,2,3,4,5,6,7,8,9,10,11,12,13,14,15,16,17,18,19,20,21,22,23,24,25,26],27)] 24 ?_ | refine sD tOK tmix [([],0),([],1),([1],2),([1,2],3),([1,2,3],4),([1,2,3,4],5),([],6),([6],7),([6,7],8),([6,7,8],9),([6,7,8,9],10),([6,7,8,9,10],11),([1,2,3,4,5,6,7,8,9,10,11],12),([0,1,2,3,4,5,6,7,8,9,10,11,12],13)] 13 ?_ | refine sD tOK tmix [([],2),([],3),([1],4),([1,2],5),([1,2,3],6),([],7),([5],0),([1,2,3,4,5,6],1),([0,1,2,3,4,5,6,7],8),([0,1,2,3,4,5,6,7,8],9),([0,1,2,3,4,5,6,7,8,9],10)] 8 ?_ | refine qD _ ?_ ?_ | refine cE Tryz.func88 tOK fun R9 hR9 => ?_ | refine cE Tryz.func89 tOK fun R9 hR9 => ?_ | refine cE Tryz.func106 tOK fun R9 hR9 => ?_ | (refine nZ ?_; first | refine C_zero ?_ | refine cb ?_ | refine (C_policy b1) ?_ | refine (C_lnext (by omega) (by omega) (by omega) (by omega) (by omega) (by omega) b3.1 b3.2 b4.1 b4.2) ?_) | (apply d_call []; exact rfl; (solve | (conv => lhs; try simp [hk])); (solve | exact rfl | simp); (solve | (conv => lhs; try simp [hk])); intro τ hτ; refine nZ ?_; first | exact C_zero ⟨rfl, rfl⟩ | exact cb ⟨rfl, rfl⟩ | exact (C_policy b1) ⟨rfl, rfl⟩ | exact (C_lnext (by omega) (by omega) (by omega) (by omega) (by omega) (by omega) b3.1 b3.2 b4.1 b4.2) ⟨rfl, rfl⟩))
            simp only [outT, decE, rollO, rollL, decideL, adoptL, hb, if_true, if_false, Bool.false_eq_true, List.nil_append, List.cons_append, List.length_cons, List.length_nil, List.map_cons, List.map_nil, Nat.zero_add, Nat.reduceAdd] at key
            refine t_pick tOK [0, 1, 2, 3, 89] [0] (by decide) (by rfl) (by rfl) (by conv => lhs; simp [Fr.keep]) (by conv => lhs; simp [pickS']) (by simp [Fr.keep]) (by simp [pickS']) ?_
            refine T_wk ?_ ?_ (key.down _ _ ⟨0, rfl, trivial, hk, rfl⟩)
            all_goals (repeat' (first | with_reducible exact WkF.refl _ | with_reducible exact WkS.refl _ | with_reducible exact WkB.refl _ | with_reducible exact Wk.refl _ | with_reducible exact WkL.refl _ | exact Wk.nils | refine WkF.cons ?_ ?_ | refine WkS.cons ?_ ?_ | refine WkB.cells ?_ | refine WkL.cons ?_ ?_ | refine Wk.agg ?_ | exact Wk.refl _ | exact WkL.refl _))
          | true =>
            have cb : ∀ {R : Re → Store → Prop} {σ : Store}, R (.ret (.bool true)) σ → C tE 105 [eConf conf, eProbe pr] σ R := fun h => C_breached (by rw [hb]; exact h)
            have F9 := @hk
            repeat' (first | refine gf ?_ | refine s_seq fun y9 hy9 => ?_ | refine qT _ ?_ ?_ | refine qG _ ?_ ?_ | refine qN ?_ ?_ | (refine QB.mk fun hb9 => ?_; (try simp only [hb9]); (try simp at hb9); first | (exfalso; omega) | subst hb9 | skip) | refine sD tOK tmix [([],0),([],1),([1],2),([1,2],3),([1,2,3],4),([1,2,3,4],5),([],6),([6],7),([6,7],8),([1,2,3,4,5,6,7,8],9),([0,1,2,3,4,5,6,7,8,9],10),([0,1,2,3,4,5,6,7,8,9,10],11),([0,1,2,3,4,5,6,7,8,9,10,11],12),([0,1,2,3,4,5,6,7,8,9,10,11,12],13)] 10 ?_ | refine sD tOK tmix [([],0),([0],1),([0,1],2),([0,1,2],3),([0,1,2,3],4),([],5),([0,1,2,3,4,5],6)] 6 ?_ | refine sD tOK tmix [([],0),([],1),([],2),([],3),([0,2],4),([0,2,4],5),([0,2,4,5],6),([0,2,4,5,6],7),([0,1,2,3,4,5,6,7],8),([0,1,2,3,4,5,6,7,8],9),([0,1,2,3,4,5,6,7,8,9],10),([0,1,2,3,4,5,6,7,8,9,10],11)] 8 ?_ | refine sD tOK tmix [([],0),([],1),([],2),([],3),([3],4),([3,4],5),([3,4,5],6),([3,4,5,6],7),([1,2,3,4,5,6,7],8),([0,1,2,3,4,5,6,7,8],9),([0,1,2,3,4,5,6,7,8,9],10),([0,1,2,3,4,5,6,7,8,9,10],11),([0,1,2,3,4,5,6,7,8,9,10,11],12)] 9 ?_ | refine sD tOK tmix [([],1),([0],2),([0,1],3),([0,1,2],4),([0,1,2,3],5),([],6),([5],7),([5,6],8),([5,6,7],9),([5,6,7,8],10),([],11),([10],12),([10,11],13),([10,11,12],14),([10,11,12,13],15),([10,11,12,13,14],16),([],17),([16],18),([16,17],19),([16,17,18],20),([16,17,18,19],21),([],22),([21],23),([21,22],24),([21,22,23],25),([21,22,23,24],26),([0,1,2,3,4,5,6,7,8,9,10,11,12,13,14,15,16,17,18,19,20,21,22,23,24,25],27),([0,1,2,3,4,5,6,7,8,9,10,11,12,13,14,15,16,17,18,19,20,21,22,23,24,25,26],28),([0,1,2,3,4,5,6,7,8,9,10,11,12,13,14,15,16,17,18,19,20,21,22,23,24,25,26,27],29),([0,1,2,3,4,5,6,7,8,9,10,11,12,13,14,15,16,17,18,19,20,21,22,23,24,25,26,27],30),([],0),([0,1,2,3,4,5,6,7,8,9,10,11,12,13,14,15,16,17,18,19,20,21,22,23,24,25,26,27,28,30],31),([0,1,2,3,4,5,6,7,8,9,10,11,12,13,14,15,16,17,18,19,20,21,22,23,24,25,26,27,28,29,30,31],32)] 32 ?_ | refine sD tOK tmix [([],0),([],1),([],2),([],3),([3],4),([3,4],5),([3,4,5],6),([3,4,5,6],7),([],8),([8],9),([8,9],10),([8,9,10],11),([8,9,10,11],12),([],13),([],14),([14],15),([14,15],16),([14,15,16],17),([14,15,16,17],18),([3,4,5,6,7,8,9,10,11,12,13,14,15,16,17,18],19),([0,2,3,4,5,6,7,8,9,10,11,12,13,14,15,16,17,18,19],20),([0,2,3,4,5,6,7,8,9,10,11,12,13,14,15,16,17,18,19,20],21),([0,2,3,4,5,6,7,8,9,10,11,12,13,14,15,16,17,18,19,20,21],22),([0,2,3,4,5,6,7,8,9,10,11,12,13,14,15,16,17,18,19,20,21,22],23),([0,1,2,3,4,5,6,7,8,9,10,11,12,13,14,15,16,17,18,19,20,21,22,23],24),([0,1,2,3,4,5,6,7,8,9,10,11,12,13,14,15,16,17,18,19,20,21,22,23,24],25),([0,1,2,3,4,5,6,7,8,9,10,11,12,13,14,15,16,17,18,19,20,21,22,23,24,25],26),([0,1,2,3,4,5,6,7,8,9,10,11,12,13,14,15,16,17,18,19,20,21,22,23,24,25,26],27)] 24 ?_ | refine sD tOK tmix [([],0),([],1),([1],2),([1,2],3),([1,2,3],4),([1,2,3,4],5),([],6),([6],7),([6,7],8),([6,7,8],9),([6,7,8,9],10),([6,7,8,9,10],11),([1,2,3,4,5,6,7,8,9,10,11],12),([0,1,2,3,4,5,6,7,8,9,10,11,12],13)] 13 ?_ | refine sD tOK tmix [([],2),([],3),([1],4),([1,2],5),([1,2,3],6),([],7),([5],0),([1,2,3,4,5,6],1),([0,1,2,3,4,5,6,7],8),([0,1,2,3,4,5,6,7,8],9),([0,1,2,3,4,5,6,7,8,9],10)] 8 ?_ | refine qD _ ?_ ?_ | refine cE Tryz.func88 tOK fun R9 hR9 => ?_ | refine cE Tryz.func92 tOK fun R9 hR9 => ?_ | refine cE Tryz.func89 tOK fun R9 hR9 => ?_ | refine cE Tryz.func106 tOK fun R9 hR9 => ?_ | (refine nZ ?_; first | refine C_zero ?_ | refine cb ?_ | refine (C_fnew b2.len) ?_ | refine (C_policy b2) ?_ | refine (C_lnext (by omega) (by omega) (by omega) (by omega) (by omega) (by omega) b3.1 b3.2 b4.1 b4.2) ?_) | (apply d_call []; exact rfl; (solve | (conv => lhs; try simp [hk])); (solve | exact rfl | simp); (solve | (conv => lhs; try simp [hk])); intro τ hτ; refine nZ ?_; first | exact C_zero ⟨rfl, rfl⟩ | exact cb ⟨rfl, rfl⟩ | exact (C_fnew b2.len) ⟨rfl, rfl⟩ | exact (C_policy b2) ⟨rfl, rfl⟩ | exact (C_lnext (by omega) (by omega) (by omega) (by omega) (by omega) (by omega) b3.1 b3.2 b4.1 b4.2) ⟨rfl, rfl⟩))
            simp only [outT, decE, rollO, rollL, decideL, adoptL, hb, if_true, if_false, Bool.false_eq_true, List.nil_append, List.cons_append, List.length_cons, List.length_nil, List.map_cons, List.map_nil, Nat.zero_add, Nat.reduceAdd] at key
            refine t_pick tOK [0, 1, 2, 3, 14] [0] (by decide) (by rfl) (by rfl) (by conv => lhs; simp [Fr.keep]) (by conv => lhs; simp [pickS']) (by simp [Fr.keep]) (by simp [pickS']) ?_
            refine T_wk ?_ ?_ (key.down _ _ ⟨1, rfl, trivial, hk, rfl⟩)
            all_goals (repeat' (first | with_reducible exact WkF.refl _ | with_reducible exact WkS.refl _ | with_reducible exact WkB.refl _ | with_reducible exact Wk.refl _ | with_reducible exact WkL.refl _ | exact Wk.nils | refine WkF.cons ?_ ?_ | refine WkS.cons ?_ ?_ | refine WkB.cells ?_ | refine WkL.cons ?_ ?_ | refine Wk.agg ?_ | exact Wk.refl _ | exact WkL.refl _))
  · clear h
    rw [now_eq] at key
    obtain ⟨ins, now, util, dem, set, conf, pol, st, hold, sim, shd, pr⟩ := l
    repeat' (first | refine go ?_ | refine s_seq fun y9 hy9 => ?_ | refine qT _ ?_ ?_ | refine qG _ ?_ ?_ | refine qN ?_ ?_ | (refine QB.mk fun hb9 => ?_; (try simp only [hb9]); (try simp at hb9); first | (exfalso; omega) | subst hb9 | skip) | refine sD tOK tmix [([],0),([],1),([1],2),([1,2],3),([1,2,3],4),([1,2,3,4],5),([],6),([6],7),([6,7],8),([1,2,3,4,5,6,7,8],9),([0,1,2,3,4,5,6,7,8,9],10),([0,1,2,3,4,5,6,7,8,9,10],11),([0,1,2,3,4,5,6,7,8,9,10,11],12),([0,1,2,3,4,5,6,7,8,9,10,11,12],13)] 10 ?_ | refine qD _ ?_ ?_)
    refine t_pick tOK [0, 1, 2, 3] [0] (by decide) (by rfl) (by rfl) (by conv => lhs; simp [Fr.keep]) (by conv => lhs; simp [pickS']) (by simp [Fr.keep]) (by simp [pickS']) ?_
    refine T_wk ?_ ?_ (key.down _ _ ⟨rfl, rfl⟩)
    all_goals (repeat' (first | with_reducible exact WkF.refl _ | with_reducible exact WkS.refl _ | with_reducible exact WkB.refl _ | with_reducible exact Wk.refl _ | with_reducible exact WkL.refl _ | exact Wk.nils | refine WkF.cons ?_ ?_ | refine WkS.cons ?_ ?_ | refine WkB.cells ?_ | refine WkL.cons ?_ ?_ | refine Wk.agg ?_ | exact Wk.refl _ | exact WkL.refl _))
end
end Go.Proofs.YtncbfppafgjdiaaGreat
end
section
/- The controller's other methods. -/
set_option linter.unusedVariables false
set_option linter.unusedSimpArgs false
set_option maxRecDepth 20000
namespace Go.Proofs.YtncbfppafgjdiaaGreat
open Go
attribute [local irreducible] T TL C RG DP SP YR afterRG DPcall
attribute [-simp] List.map_set
@[simp] theorem sims_take (l : List SimV) : (l.map eSim).take l.length = l.map eSim := List.take_of_length_le (by simp)
section
variable {R : Re → Store → Prop} {σ : Store}
set_option maxHeartbeats 8000000 in
theorem C_dsample0 {l : LiveV} {e e0 : EvV} (hs : l.shadows = []) (h : ∀ σ', DeskOut (sampleL l e) [] σ' → R (.ret (.tup [])) σ') : C tE 58 [.ptr 0 0 0 [], eEv e] [some (dsk l .nils .nils), none, some zLive, some (.cells 50 0 [eEv e0])] R := by
  obtain ⟨ins, now, util, dem, set, conf, pol, st, hold, sim, shd, pr⟩ := l
  unfold sampleL at h
  try (simp only at hs; subst hs)
  refine s_body' Tryz.func58 tOK rfl (by conv => lhs; simp) (by conv => lhs; simp) (by conv => lhs; simp [Fr.args]) rfl (by conv => lhs; try simp) fun R9 hR9 => ?_
  repeat' (first | refine go ?_ | refine s_seq fun y9 hy9 => ?_ | refine qT _ ?_ ?_ | refine qG _ ?_ ?_ | refine qN ?_ ?_ | (refine QB.mk fun hb9 => ?_; (try simp only [hb9]); (try simp at hb9); first | (exfalso; omega) | subst hb9 | skip) | refine sD tOK tmix [([],0),([],1),([],2),([2],3),([],4),([4],5),([0,2,3],6),([0,2,3,6],7),([0,2,3,6,7],8),([0,2,3,6,7,8],9),([0,1,2,3,4,5,6,7,8,9],10),([0,1,2,3,4,5,6,7,8,9,10],11),([0,1,2,3,4,5,6,7,8,9,10,11],12),([0,1,2,3,4,5,6,7,8,9,10,11,12],13)] 10 ?_ | refine qD _ ?_ ?_ | refine cE Tryz.func86 tOK fun R9 hR9 => ?_)
  all_goals
    first | rw [if_pos (by omega)] at h | rw [if_neg (by omega)] at h
    refine h _ ⟨_, _, rfl, rfl, fun x => ⟨?_, ?_⟩⟩
    · simp
    · simp
set_option maxHeartbeats 8000000 in
theorem C_dconf0 {l : LiveV} {e e0 : EvV} (hs : l.shadows = []) (h : ∀ σ', DeskOut (confL l e) [] σ' → R (.ret (.tup [])) σ') : C tE 61 [.ptr 0 0 0 [], eEv e] [some (dsk l .nils .nils), none, some zLive, some (.cells 50 0 [eEv e0])] R := by
  obtain ⟨ins, now, util, dem, set, conf, pol, st, hold, sim, shd, pr⟩ := l
  unfold confL at h
  try (simp only at hs; subst hs)
  refine s_body' Tryz.func61 tOK rfl (by conv => lhs; simp) (by conv => lhs; simp) (by conv => lhs; simp [Fr.args]) rfl (by conv => lhs; try simp) fun R9 hR9 => ?_
  repeat' (first | refine go ?_ | refine s_seq fun y9 hy9 => ?_ | refine qT _ ?_ ?_ | refine qG _ ?_ ?_ | refine qN ?_ ?_ | (refine QB.mk fun hb9 => ?_; (try simp only [hb9]); (try simp at hb9); first | (exfalso; omega) | subst hb9 | skip) | refine sD tOK tmix [([],0),([],1),([1],2),([],3),([3],4),([3,4],5),([3,4,5],6),([3,4,5,6],7),([1,2,3,4,5,6,7],8),([0,1,2,3,4,5,6,7,8],9),([0,1,2,3,4,5,6,7,8,9],10),([0,1,2,3,4,5,6,7,8,9,10],11),([0,1,2,3,4,5,6,7,8,9,10,11],12)] 9 ?_ | refine qD _ ?_ ?_ | (refine nZ ?_; refine C_linto ?_) | (apply d_call []; exact rfl; (solve | (conv => lhs; try simp)); (solve | exact rfl | simp); (solve | (conv => lhs; try simp)); intro τ hτ; refine nZ ?_; first | exact C_linto ⟨rfl, rfl⟩))
  all_goals
    refine h _ ⟨_, _, rfl, rfl, fun x => ⟨?_, ?_⟩⟩
    · simp
    · simp
set_option maxHeartbeats 8000000 in
theorem C_dsample1 {l : LiveV} {e e0 : EvV} {gs : Nat} (h : ∀ σ', DeskOut (sampleL l e) [] σ' → R (.ret (.tup [])) σ') : C tE 58 [.ptr 0 0 0 [], eEv e] [some (dsk l (.ref 1 gs 0 l.shadows.length) .nils), some (.cells 40 gs (l.shadows.map eSim)), some zLive, some (.cells 50 0 [eEv e0])] R := by
  obtain ⟨ins, now, util, dem, set, conf, pol, st, hold, sim, shd, pr⟩ := l
  unfold sampleL at h
  try (simp only at hs; subst hs)
  refine s_body' Tryz.func58 tOK rfl (by conv => lhs; simp) (by conv => lhs; simp) (by conv => lhs; simp [Fr.args]) rfl (by conv => lhs; try simp) fun R9 hR9 => ?_
  repeat' (first | refine go ?_ | refine s_seq fun y9 hy9 => ?_ | refine qT _ ?_ ?_ | refine qG _ ?_ ?_ | refine qN ?_ ?_ | (refine QB.mk fun hb9 => ?_; (try simp only [hb9]); (try simp at hb9); first | (exfalso; omega) | subst hb9 | skip) | refine sD tOK tmix [([],0),([],1),([],2),([2],3),([],4),([4],5),([0,2,3],6),([0,2,3,6],7),([0,2,3,6,7],8),([0,2,3,6,7,8],9),([0,1,2,3,4,5,6,7,8,9],10),([0,1,2,3,4,5,6,7,8,9,10],11),([0,1,2,3,4,5,6,7,8,9,10,11],12),([0,1,2,3,4,5,6,7,8,9,10,11,12],13)] 10 ?_ | refine qD _ ?_ ?_ | refine cE Tryz.func86 tOK fun R9 hR9 => ?_)
  all_goals
    first | rw [if_pos (by omega)] at h | rw [if_neg (by omega)] at h
    refine h _ ⟨_, _, rfl, rfl, fun x => ⟨?_, ?_⟩⟩
    · simp
    · simp
set_option maxHeartbeats 8000000 in
theorem C_dconf1 {l : LiveV} {e e0 : EvV} {gs : Nat} (h : ∀ σ', DeskOut (confL l e) [] σ' → R (.ret (.tup [])) σ') : C tE 61 [.ptr 0 0 0 [], eEv e] [some (dsk l (.ref 1 gs 0 l.shadows.length) .nils), some (.cells 40 gs (l.shadows.map eSim)), some zLive, some (.cells 50 0 [eEv e0])] R := by
  obtain ⟨ins, now, util, dem, set, conf, pol, st, hold, sim, shd, pr⟩ := l
  unfold confL at h
  try (simp only at hs; subst hs)
  refine s_body' Tryz.func61 tOK rfl (by conv => lhs; simp) (by conv => lhs; simp) (by conv => lhs; simp [Fr.args]) rfl (by conv => lhs; try simp) fun R9 hR9 => ?_
  repeat' (first | refine go ?_ | refine s_seq fun y9 hy9 => ?_ | refine qT _ ?_ ?_ | refine qG _ ?_ ?_ | refine qN ?_ ?_ | (refine QB.mk fun hb9 => ?_; (try simp only [hb9]); (try simp at hb9); first | (exfalso; omega) | subst hb9 | skip) | refine sD tOK tmix [([],0),([],1),([1],2),([],3),([3],4),([3,4],5),([3,4,5],6),([3,4,5,6],7),([1,2,3,4,5,6,7],8),([0,1,2,3,4,5,6,7,8],9),([0,1,2,3,4,5,6,7,8,9],10),([0,1,2,3,4,5,6,7,8,9,10],11),([0,1,2,3,4,5,6,7,8,9,10,11],12)] 9 ?_ | refine qD _ ?_ ?_ | (refine nZ ?_; refine C_linto ?_) | (apply d_call []; exact rfl; (solve | (conv => lhs; try simp)); (solve | exact rfl | simp); (solve | (conv => lhs; try simp)); intro τ hτ; refine nZ ?_; first | exact C_linto ⟨rfl, rfl⟩))
  all_goals
    refine h _ ⟨_, _, rfl, rfl, fun x => ⟨?_, ?_⟩⟩
    · simp
    · simp
set_option maxHeartbeats 8000000 in
theorem C_dpolicy0 {l : LiveV} {e e0 : EvV} (hl : okL l) (he : askP e.pol) (i0 : 0 ≤ e.id) (i1 : e.id ≤ 3) (hs : l.shadows = []) (h : ∀ σ', DeskOut (policyL l e) [] σ' → R (.ret (.tup [])) σ') : C tE 60 [.ptr 0 0 0 [], eEv e] [some (dsk l .nils .nils), none, some zLive, some (.cells 50 0 [eEv e0])] R := by
  obtain ⟨ins, now, util, dem, set, conf, pol, st, hold, sim, shd, pr⟩ := l
  have hp := he.len
  obtain ⟨hp1, hp2⟩ := hp
  simp only at hs; subst hs
  have hid : e.id = 0 ∨ e.id = 1 ∨ e.id = 2 ∨ e.id = 3 := by omega
  rcases hid with hi | hi | hi | hi
  · unfold policyL at h
    rw [if_pos hi] at h
    refine s_body' Tryz.func60 tOK rfl (by conv => lhs; simp) (by conv => lhs; simp) (by conv => lhs; simp [Fr.args]) rfl (by conv => lhs; try simp) fun R9 hR9 => ?_
    have F9 := @hi
    repeat' (first | refine gf ?_ | refine s_seq fun y9 hy9 => ?_ | refine qT _ ?_ ?_ | refine qG _ ?_ ?_ | refine qN ?_ ?_ | (refine QB.mk fun hb9 => ?_; (try simp only [hb9]); (try simp at hb9); first | (exfalso; omega) | subst hb9 | skip) | refine sD tOK tmix [([],0),([0],1),([0,1],2),([0,1,2],3),([],4),([4],5),([4,5],6),([0,1,2,3,4,5,6],7),([0,1,2,3,4,5,6],8),([0,1,2,3,4,5,6,8],9),([0,1,2,3,4,5,6,7,8,9],10),([0,1,2,3,4,5,6,7,8,9,10],11),([0,1,2,3,4,5,6,7,8,9,10,11],12),([0,1,2,3,4,5,6,7,8,9,10,11,12],13)] 10 ?_ | refine sD tOK tmix [([],0),([0],1),([],2),([],3),([3],4),([3,4],5),([3,4,5],6),([3,4,5,6],7),([0,1,2,3,4,5,6,7],8),([0,1,2,3,4,5,6,7,8],9)] 8 ?_ | refine sD tOK tmix [([],0),([0],1),([0,1],2),([0,1,2],3),([0,1,2,3],4),([],5),([5],6),([5,6],7),([],8),([0,1,2,3,4,5,6,7,8],9),([0,1,2,3,4,5,6,7,8,9],10)] 9 ?_ | refine sD tOK tmix [([],0),([],1),([],2),([],3),([0,2],4),([0,2,4],5),([0,2,4,5],6),([0,2,4,5,6],7),([0,1,2,3,4,5,6,7],8),([0,1,2,3,4,5,6,7,8],9),([0,1,2,3,4,5,6,7,8,9],10),([0,1,2,3,4,5,6,7,8,9,10],11)] 8 ?_ | refine sD tOK tmix [([],0),([],1),([],2),([],3),([3],4),([3,4],5),([3,4,5],6),([3,4,5,6],7),([1,2,3,4,5,6,7],8),([0,1,2,3,4,5,6,7,8],9),([0,1,2,3,4,5,6,7,8,9],10),([0,1,2,3,4,5,6,7,8,9,10],11),([0,1,2,3,4,5,6,7,8,9,10,11],12)] 9 ?_ | refine qD _ ?_ ?_ | refine cE Tryz.func92 tOK fun R9 hR9 => ?_ | (refine nZ ?_; first | refine C_clone_eBand (by omega) ?_ | refine C_clone_eSlot (by omega) ?_ | refine (C_fnew (s:={}) he.len) ?_) | (apply d_call []; exact rfl; (solve | (conv => lhs; try simp [hi])); (solve | exact rfl | simp); (solve | (conv => lhs; try simp [hi])); intro τ hτ; refine nZ ?_; first | exact C_clone_eBand (by omega) ⟨rfl, rfl⟩ | exact C_clone_eSlot (by omega) ⟨rfl, rfl⟩ | exact (C_fnew (s:={}) he.len) ⟨rfl, rfl⟩))
    all_goals
      refine h _ ⟨_, _, rfl, rfl, fun x => ⟨?_, ?_⟩⟩
      · simp [adoptL]
      · simp
  all_goals
    have cz : ∀ {R : Re → Store → Prop} {σ : Store}, R (.ret (.bool (decide (e.pol.kind = 0)))) σ → C tE 87 [ePol e.pol] σ R := fun {R} {σ} h => C_zero h
    rcases Decidable.em (e.pol.kind = 0) with hk | hk
  all_goals
    unfold policyL thereL at h
    simp [hi, hk, List.replicate] at h
    simp only [hk, decide_true, decide_false] at cz
    refine s_body' Tryz.func60 tOK rfl (by conv => lhs; simp) (by conv => lhs; simp) (by conv => lhs; simp [Fr.args]) rfl (by conv => lhs; try simp) fun R9 hR9 => ?_
    have F9 := @hi
    repeat' (first | refine gf ?_ | refine s_seq fun y9 hy9 => ?_ | refine qT _ ?_ ?_ | refine qG _ ?_ ?_ | refine qN ?_ ?_ | (refine QB.mk fun hb9 => ?_; (try simp only [hb9]); (try simp at hb9); first | (exfalso; omega) | subst hb9 | skip) | refine sD tOK tmix [([],0),([0],1),([0,1],2),([0,1,2],3),([],4),([4],5),([4,5],6),([0,1,2,3,4,5,6],7),([0,1,2,3,4,5,6],8),([0,1,2,3,4,5,6,8],9),([0,1,2,3,4,5,6,7,8,9],10),([0,1,2,3,4,5,6,7,8,9,10],11),([0,1,2,3,4,5,6,7,8,9,10,11],12),([0,1,2,3,4,5,6,7,8,9,10,11,12],13)] 10 ?_ | refine sD tOK tmix [([],0),([0],1),([],2),([],3),([3],4),([3,4],5),([3,4,5],6),([3,4,5,6],7),([0,1,2,3,4,5,6,7],8),([0,1,2,3,4,5,6,7,8],9)] 8 ?_ | refine sD tOK tmix [([],0),([0],1),([0,1],2),([0,1,2],3),([0,1,2,3],4),([],5),([5],6),([5,6],7),([],8),([0,1,2,3,4,5,6,7,8],9),([0,1,2,3,4,5,6,7,8,9],10)] 9 ?_ | refine qD _ ?_ ?_ | (refine nZ ?_; first | refine cz ?_ | refine (C_fnew (s:={}) he.len) ?_) | (apply d_call []; exact rfl; (solve | (conv => lhs; try simp [hi])); (solve | exact rfl | simp); (solve | (conv => lhs; try simp [hi])); intro τ hτ; refine nZ ?_; first | exact cz ⟨rfl, rfl⟩ | exact (C_fnew (s:={}) he.len) ⟨rfl, rfl⟩))
  all_goals
    refine h _ ⟨_, _, rfl, rfl, fun x => ⟨?_, ?_⟩⟩
    · simp [adoptL]
    · simp
end
end Go.Proofs.YtncbfppafgjdiaaGreat
end
section
/- A policy that comes in, shadows in a row. -/
set_option linter.unusedVariables false
set_option linter.unusedSimpArgs false
set_option maxRecDepth 20000
namespace Go.Proofs.YtncbfppafgjdiaaGreat
open Go
attribute [local irreducible] T TL C RG DP SP YR afterRG DPcall
attribute [-simp] List.map_set
theorem three {α : Type} : ∀ {l : List α}, l.length = 3 → ∃ x y w, l = [x, y, w]
  | [x, y, w], _ => ⟨x, y, w, rfl⟩
section
variable {R : Re → Store → Prop} {σ : Store}
set_option maxHeartbeats 8000000 in
theorem C_dpolicy1 {l : LiveV} {e e0 : EvV} (hl : okL l) (he : askP e.pol) (i0 : 0 ≤ e.id) (i1 : e.id ≤ 3) {gs : Nat} (h : ∀ σ', DeskOut (policyL l e) [] σ' → R (.ret (.tup [])) σ') : C tE 60 [.ptr 0 0 0 [], eEv e] [some (dsk l (.ref 1 gs 0 l.shadows.length) .nils), some (.cells 40 gs (l.shadows.map eSim)), some zLive, some (.cells 50 0 [eEv e0])] R := by
  obtain ⟨ins, now, util, dem, set, conf, pol, st, hold, sim, shd, pr⟩ := l
  have hp := he.len
  obtain ⟨hp1, hp2⟩ := hp
  have hid : e.id = 0 ∨ e.id = 1 ∨ e.id = 2 ∨ e.id = 3 := by omega
  rcases hid with hi | hi | hi | hi
  · unfold policyL at h
    rw [if_pos hi] at h
    refine s_body' Tryz.func60 tOK rfl (by conv => lhs; simp) (by conv => lhs; simp) (by conv => lhs; simp [Fr.args]) rfl (by conv => lhs; try simp) fun R9 hR9 => ?_
    have F9 := @hi
    repeat' (first | refine gf ?_ | refine s_seq fun y9 hy9 => ?_ | refine qT _ ?_ ?_ | refine qG _ ?_ ?_ | refine qN ?_ ?_ | (refine QB.mk fun hb9 => ?_; (try simp only [hb9]); (try simp at hb9); first | (exfalso; omega) | subst hb9 | skip) | refine sD tOK tmix [([],0),([0],1),([0,1],2),([0,1,2],3),([],4),([4],5),([4,5],6),([0,1,2,3,4,5,6],7),([0,1,2,3,4,5,6],8),([0,1,2,3,4,5,6,8],9),([0,1,2,3,4,5,6,7,8,9],10),([0,1,2,3,4,5,6,7,8,9,10],11),([0,1,2,3,4,5,6,7,8,9,10,11],12),([0,1,2,3,4,5,6,7,8,9,10,11,12],13)] 10 ?_ | refine sD tOK tmix [([],0),([0],1),([],2),([],3),([3],4),([3,4],5),([3,4,5],6),([3,4,5,6],7),([0,1,2,3,4,5,6,7],8),([0,1,2,3,4,5,6,7,8],9)] 8 ?_ | refine sD tOK tmix [([],0),([0],1),([0,1],2),([0,1,2],3),([0,1,2,3],4),([],5),([5],6),([5,6],7),([],8),([0,1,2,3,4,5,6,7,8],9),([0,1,2,3,4,5,6,7,8,9],10)] 9 ?_ | refine sD tOK tmix [([],0),([],1),([],2),([],3),([0,2],4),([0,2,4],5),([0,2,4,5],6),([0,2,4,5,6],7),([0,1,2,3,4,5,6,7],8),([0,1,2,3,4,5,6,7,8],9),([0,1,2,3,4,5,6,7,8,9],10),([0,1,2,3,4,5,6,7,8,9,10],11)] 8 ?_ | refine sD tOK tmix [([],0),([],1),([],2),([],3),([3],4),([3,4],5),([3,4,5],6),([3,4,5,6],7),([1,2,3,4,5,6,7],8),([0,1,2,3,4,5,6,7,8],9),([0,1,2,3,4,5,6,7,8,9],10),([0,1,2,3,4,5,6,7,8,9,10],11),([0,1,2,3,4,5,6,7,8,9,10,11],12)] 9 ?_ | refine qD _ ?_ ?_ | refine cE Tryz.func92 tOK fun R9 hR9 => ?_ | (refine nZ ?_; first | refine C_clone_eBand (by omega) ?_ | refine C_clone_eSlot (by omega) ?_ | refine (C_fnew (s:={}) he.len) ?_) | (apply d_call []; exact rfl; (solve | (conv => lhs; try simp [hi])); (solve | exact rfl | simp); (solve | (conv => lhs; try simp [hi])); intro τ hτ; refine nZ ?_; first | exact C_clone_eBand (by omega) ⟨rfl, rfl⟩ | exact C_clone_eSlot (by omega) ⟨rfl, rfl⟩ | exact (C_fnew (s:={}) he.len) ⟨rfl, rfl⟩))
    all_goals
      refine h _ ⟨_, _, rfl, rfl, fun x => ⟨?_, ?_⟩⟩
      · simp [adoptL]
      · simp
  all_goals
    have hn := hl.n
    simp only at hn
    rcases hn with hn | hn
  all_goals
    first
    | (rw [List.length_eq_zero_iff] at hn; subst hn)
    | (obtain ⟨x, y, w, hxyw⟩ := three hn
       subst hxyw)
  all_goals
    have cz : ∀ {R : Re → Store → Prop} {σ : Store}, R (.ret (.bool (decide (e.pol.kind = 0)))) σ → C tE 87 [ePol e.pol] σ R := fun {R} {σ} h => C_zero h
    rcases Decidable.em (e.pol.kind = 0) with hk | hk
  all_goals
    unfold policyL thereL at h
    simp [hi, hk, List.replicate] at h
    simp only [hk, decide_true, decide_false] at cz
    refine s_body' Tryz.func60 tOK rfl (by conv => lhs; simp) (by conv => lhs; simp) (by conv => lhs; simp [Fr.args]) rfl (by conv => lhs; try simp) fun R9 hR9 => ?_
    have F9 := @hi
    repeat' (first | refine gf ?_ | refine s_seq fun y9 hy9 => ?_ | refine qT _ ?_ ?_ | refine qG _ ?_ ?_ | refine qN ?_ ?_ | (refine QB.mk fun hb9 => ?_; (try simp only [hb9]); (try simp at hb9); first | (exfalso; omega) | subst hb9 | skip) | refine sD tOK tmix [([],0),([0],1),([0,1],2),([0,1,2],3),([],4),([4],5),([4,5],6),([0,1,2,3,4,5,6],7),([0,1,2,3,4,5,6],8),([0,1,2,3,4,5,6,8],9),([0,1,2,3,4,5,6,7,8,9],10),([0,1,2,3,4,5,6,7,8,9,10],11),([0,1,2,3,4,5,6,7,8,9,10,11],12),([0,1,2,3,4,5,6,7,8,9,10,11,12],13)] 10 ?_ | refine sD tOK tmix [([],0),([0],1),([],2),([],3),([3],4),([3,4],5),([3,4,5],6),([3,4,5,6],7),([0,1,2,3,4,5,6,7],8),([0,1,2,3,4,5,6,7,8],9)] 8 ?_ | refine sD tOK tmix [([],0),([0],1),([0,1],2),([0,1,2],3),([0,1,2,3],4),([],5),([5],6),([5,6],7),([],8),([0,1,2,3,4,5,6,7,8],9),([0,1,2,3,4,5,6,7,8,9],10)] 9 ?_ | refine qD _ ?_ ?_ | (refine nZ ?_; first | refine cz ?_ | refine (C_fnew (s:={}) he.len) ?_) | (apply d_call []; exact rfl; (solve | (conv => lhs; try simp [hi])); (solve | exact rfl | simp); (solve | (conv => lhs; try simp [hi])); intro τ hτ; refine nZ ?_; first | exact cz ⟨rfl, rfl⟩ | exact (C_fnew (s:={}) he.len) ⟨rfl, rfl⟩))
  all_goals
    refine h _ ⟨_, _, rfl, rfl, fun x => ⟨?_, ?_⟩⟩
    · simp [adoptL]
    · simp
end
end Go.Proofs.YtncbfppafgjdiaaGreat
end
section
/- A step of the controller. -/
set_option linter.unusedVariables false
set_option linter.unusedSimpArgs false
set_option maxRecDepth 20000
namespace Go.Proofs.YtncbfppafgjdiaaGreat
open Go
attribute [local irreducible] T TL C RG DP SP YR afterRG DPcall
attribute [-simp] List.map_set
/-- The table of what events do. -/
def kindD (k : Int) : PV := if k = 1 then .fn (.func 58) [] [] else if k = 2 then .fn (.func 59) [] [] else if k = 3 then .fn (.func 60) [] []
  else if k = 4 then .fn (.func 61) [] [] else .nilf
/-- The desk, ahead of a step. -/
inductive Ahead (l : LiveV) (e : EvV) : Store → Prop
  | nil (h : l.shadows = []) : Ahead l e [some (dsk l .nils .nils), none, some zLive, some (.cells 50 0 [eEv e])]
  | row (gs : Nat) : Ahead l e [some (dsk l (.ref 1 gs 0 l.shadows.length) .nils), some (.cells 40 gs (l.shadows.map eSim)), some zLive, some (.cells 50 0 [eEv e])]
theorem mapM_mono {α β : Type} {f g : α → Option β} (h : ∀ x y, f x = some y → g x = some y) : ∀ {l : List α} {r : List β}, l.mapM f = some r → l.mapM g = some r
  | [], r, e => by simpa using e
  | x :: l, r, e => by
    simp only [List.mapM_cons] at e ⊢
    obtain ⟨y, hy, e⟩ := Option.bind_eq_some_iff.1 e
    obtain ⟨ys, hys, e⟩ := Option.bind_eq_some_iff.1 e
    rw [h _ _ hy, mapM_mono h hys]; exact e
theorem at_app {σ : Store} {b : Nat} {x : Blk} (ns : Store) (h : Store.at σ b = some x) : Store.at (σ ++ ns) b = some x := by
  have hl : b < σ.length := by
    rcases Nat.lt_or_ge b σ.length with h1 | h1
    · exact h1
    · simp [Store.at, List.getElem?_eq_none h1] at h
  simp only [Store.at, List.getElem?_append_left hl] at h ⊢
  exact h
theorem at_get {σ : Store} {b : Nat} {x : Blk} (h : Store.at σ b = some x) : σ[b]? = some (some x) := by
  unfold Store.at at h
  split at h
  · rename_i e; rw [e]; cases h; rfl
  · cases h
theorem fits_lit {E : Env} {T : TypeId} {σ : Store} {n : Nat} {o : PV} {ys : List PV} (h : frz σ n o = some (.lit ys)) (hT : E.agg T = false) : fits E T o = true := by
  cases n with
  | zero => simp [frz] at h
  | succ n =>
    cases o with
    | agg t fs => simp only [frz] at h; obtain ⟨r, hr, e⟩ := Option.map_eq_some_iff.1 h; cases e
    | tup vs => simp only [frz] at h; obtain ⟨r, hr, e⟩ := Option.map_eq_some_iff.1 h; cases e
    | undef => simp [frz] at h
    | _ => simp [fits, hT]
theorem frz_app {σ : Store} (ns : Store) : ∀ (n : Nat) (x y : PV), frz σ n x = some y → frz (σ ++ ns) n x = some y
  | 0, x, y, h => by simp [frz] at h
  | n + 1, x, y, h => by
    have ih := frz_app (σ := σ) ns n
    cases x with
    | ref b g off len =>
      simp only [frz] at h ⊢
      cases hb : Store.at σ b with
      | none => rw [hb] at h; simp at h
      | some blk =>
        rw [hb] at h
        rw [at_app ns hb]
        cases blk with
        | cells ty g' xs =>
          simp only at h ⊢
          split at h
          · rename_i hc
            rw [if_pos hc]
            obtain ⟨r, hr, e⟩ := Option.map_eq_some_iff.1 h
            rw [mapM_mono ih hr]; subst e; rfl
          · simp at h
        | _ => simp at h
    | agg t fs =>
      simp only [frz] at h ⊢
      obtain ⟨r, hr, e⟩ := Option.map_eq_some_iff.1 h
      rw [mapM_mono ih hr]; subst e; rfl
    | tup vs =>
      simp only [frz] at h ⊢
      obtain ⟨r, hr, e⟩ := Option.map_eq_some_iff.1 h
      rw [mapM_mono ih hr]; subst e; rfl
    | _ => simpa only [frz] using h
theorem DeskOut.more {l : LiveV} {out : List EvV} {σ : Store} (h : DeskOut l out σ) (ns : Store) : DeskOut l out (σ ++ ns) := by
  obtain ⟨fs, o, d1, d2, d3⟩ := h
  refine ⟨fs, o, at_app ns d1, at_app ns d2, fun x => ?_⟩
  have hl : 2 < σ.length := by
    rcases Nat.lt_or_ge 2 σ.length with h1 | h1
    · exact h1
    · simp [Store.at, List.getElem?_eq_none h1] at d2
  rw [List.set_append_left _ _ hl]
  exact ⟨frz_app ns _ _ _ (d3 x).1, frz_app ns _ _ _ (d3 x).2⟩
theorem kindD_1 : kindD 1 = .fn (.func 58) [] [] := rfl
theorem kindD_2 : kindD 2 = .fn (.func 59) [] [] := rfl
theorem kindD_3 : kindD 3 = .fn (.func 60) [] [] := rfl
theorem kindD_4 : kindD 4 = .fn (.func 61) [] [] := rfl
theorem kindD_o {k : Int} (h : ¬ 1 = k ∧ ¬ 2 = k ∧ ¬ 3 = k ∧ ¬ 4 = k) : kindD k = .nilf := by
  unfold kindD
  rw [if_neg (by omega), if_neg (by omega), if_neg (by omega), if_neg (by omega)]
theorem inEv_t {e : EvV} (h : e.kind = 1 ∨ e.kind = 2 ∨ e.kind = 3 ∨ e.kind = 4) : inEv e = true := by
  simp only [inEv, wth, Bool.and_eq_true, decide_eq_true_eq]; omega
theorem inEv_f {e : EvV} (h : ¬ 1 = e.kind ∧ ¬ 2 = e.kind ∧ ¬ 3 = e.kind ∧ ¬ 4 = e.kind) : inEv e = false := by
  cases hi : inEv e with
  | false => rfl
  | true => simp only [inEv, wth, Bool.and_eq_true, decide_eq_true_eq] at hi; omega
/-- What counts as one more. -/
def moreL (l : LiveV) : LiveV := { l with ins := if l.ins < 1099511627776 then l.ins + 1 else l.ins }
theorem okL.more {l : LiveV} (h : okL l) : okL (Proofs.YtncbfppafgjdiaaGreat.moreL l) := ⟨by have := h.ins; simp only [Proofs.YtncbfppafgjdiaaGreat.moreL]; split <;> omega, h.now, h.conf, h.pol, h.ppol, h.hold, h.sim, h.n, h.shd, h.pr⟩
theorem step_1 {l : LiveV} {e : EvV} (ho : okEv e = true) (hk : e.kind = 1) : stepL l e = (sampleL (moreL l) e, []) := by
  unfold stepL; rw [if_neg (by rw [ho, inEv_t (.inl hk)]; simp)]; simp only; rw [if_pos hk]; rfl
theorem step_2 {l : LiveV} {e : EvV} (ho : okEv e = true) (hk : e.kind = 2) : stepL l e = tickL (moreL l) e.t := by
  unfold stepL; rw [if_neg (by rw [ho, inEv_t (.inr (.inl hk))]; simp)]; simp only; rw [if_neg (by omega), if_pos hk]; rfl
theorem step_3 {l : LiveV} {e : EvV} (ho : okEv e = true) (hk : e.kind = 3) : stepL l e = (policyL (moreL l) e, []) := by
  unfold stepL; rw [if_neg (by rw [ho, inEv_t (.inr (.inr (.inl hk)))]; simp)]; simp only; rw [if_neg (by omega), if_neg (by omega), if_pos hk]; rfl
theorem step_4 {l : LiveV} {e : EvV} (ho : okEv e = true) (hk : e.kind = 4) : stepL l e = (confL (moreL l) e, []) := by
  unfold stepL; rw [if_neg (by rw [ho, inEv_t (.inr (.inr (.inr hk)))]; simp)]; simp only; rw [if_neg (by omega), if_neg (by omega), if_neg (by omega)]; rfl
theorem step_o {l : LiveV} {e : EvV} (ho : okEv e = false ∨ inEv e = false) : stepL l e = (l, []) := by
  unfold stepL; rw [if_pos ho]
section
variable {R : Re → Store → Prop} {σ : Store}
set_option maxHeartbeats 8000000 in
theorem C_lstep {l : LiveV} {e : EvV} (hl : okL l) (he : lenE e) (kb1 : -9223372036854775808 ≤ e.kind) (kb2 : e.kind ≤ 9223372036854775807) (h : R (.ret (.tup [eLive (stepL l e).1, .lit ((stepL l e).2.map eEv)])) σ) : C tE 12 [eLive l, eEv e] σ R := by
  refine C_pure tOK (by simp) ?_
  refine s_body' Tryz.func12 tOK rfl (by conv => lhs; simp) (by conv => lhs; simp) (by conv => lhs; simp [Fr.args]) rfl (by conv => lhs; try simp) fun R9 hR9 => ?_
  refine j2 (fun fr σ => fr = [(3, .ptr 3 0 0 []), (4, .ptr 2 0 0 []), (5, .nils), (6, .ptr 0 0 0 [])] ∧ Ahead l e σ) ?_ fun yJ key => ?_
  · rintro _ _ ⟨rfl, hA⟩
    refine s_seq fun y9 hy9 => ?_
    have hk5 : e.kind = 1 ∨ e.kind = 2 ∨ e.kind = 3 ∨ e.kind = 4 ∨ ((¬ 1 = e.kind ∧ ¬ 2 = e.kind ∧ ¬ 3 = e.kind ∧ ¬ 4 = e.kind) ∧ (¬ e.kind = 1 ∧ ¬ e.kind = 2 ∧ ¬ e.kind = 3 ∧ ¬ e.kind = 4)) := by omega
    refine j1 (fun fr σ => fr = [(3, .ptr 3 0 0 []), (4, .ptr 2 0 0 []), (5, .nils), (6, .ptr 0 0 0 []), (7, kindD e.kind), (8, .bool (inEv e))] ∧ Ahead l e σ) ?_ fun yJ key => ?_
    · rintro _ _ ⟨rfl, hA⟩
      have hm := hl.more
      have cr : ∀ {b : Bool}, okEv e = b → ∀ {R : Re → Store → Prop} {σ : Store}, R (.ret (.bool b)) σ → C tE 35 [eEv e] σ R := fun {b} hb {R} {σ} h => C_eright he (by rw [hb]; exact h)
      have hi0 := hl.ins
      have hmi : moreL l = { l with ins := if l.ins < 1099511627776 then l.ins + 1 else l.ins } := rfl
      cases ho : okEv e with
      | false =>
        have cr := @cr false ho
        rw [step_o (.inl ho)] at h
        rcases hk5 with hk | hk | hk | hk | hk
        all_goals
          first | rw [inEv_t (by omega)] | rw [inEv_f hk.1]
          first | rw [hk, kindD_1] | rw [hk, kindD_2] | rw [hk, kindD_3] | rw [hk, kindD_4] | rw [kindD_o hk.1]
          cases hA with
          | nil hs =>
            repeat' (first | refine go ?_ | refine s_seq fun y9 hy9 => ?_ | refine qT _ ?_ ?_ | refine qG _ ?_ ?_ | refine qN ?_ ?_ | (refine QB.mk fun hb9 => ?_; (try simp only [hb9]); (try simp at hb9); first | (exfalso; omega) | subst hb9 | skip) | refine sD tOK tmix [([],0),([],1),([1],2),([0,1,2],3),([0,1,2,3],4),([0,1,2,3,4],5),([0,1,2,3,4],6),([0,1,2,3,4,5],7),([0,1,2,3,4,5,6,7],8)] 8 ?_ | refine sD tOK tmix [([],0),([0],1),([0,1],2),([0,1,2],3),([],4),([4],5),([4,5],6),([4,5,6],7),([0,1,2,3],8),([0,1,2,3,4,5,6,7,8],9)] 9 ?_ | refine qD _ ?_ ?_ | (refine nZ ?_; refine cr ?_) | (apply d_call []; exact rfl; (solve | (conv => lhs; try simp)); (solve | exact rfl | simp); (solve | (conv => lhs; try simp)); intro τ hτ; refine nZ ?_; first | exact cr ⟨rfl, rfl⟩))
            refine fin_v h ?_
            simp [hs]
          | row gs =>
            repeat' (first | refine go ?_ | refine s_seq fun y9 hy9 => ?_ | refine qT _ ?_ ?_ | refine qG _ ?_ ?_ | refine qN ?_ ?_ | (refine QB.mk fun hb9 => ?_; (try simp only [hb9]); (try simp at hb9); first | (exfalso; omega) | subst hb9 | skip) | refine sD tOK tmix [([],0),([],1),([1],2),([0,1,2],3),([0,1,2,3],4),([0,1,2,3,4],5),([0,1,2,3,4],6),([0,1,2,3,4,5],7),([0,1,2,3,4,5,6,7],8)] 8 ?_ | refine sD tOK tmix [([],0),([0],1),([0,1],2),([0,1,2],3),([],4),([4],5),([4,5],6),([4,5,6],7),([0,1,2,3],8),([0,1,2,3,4,5,6,7,8],9)] 9 ?_ | refine qD _ ?_ ?_ | (refine nZ ?_; refine cr ?_) | (apply d_call []; exact rfl; (solve | (conv => lhs; try simp)); (solve | exact rfl | simp); (solve | (conv => lhs; try simp)); intro τ hτ; refine nZ ?_; first | exact cr ⟨rfl, rfl⟩))
            refine fin_v h ?_
            simp
      | true =>
        have cr := @cr true ho
        have hpo : e.kind = 3 → askP e.pol ∧ 0 ≤ e.id ∧ e.id ≤ 3 := fun hk => ⟨(okEv_pol ho hk).1, (okEv_pol ho hk).2.1, (okEv_pol ho hk).2.2.1⟩
        have h2 : ∀ m, moreL l = m → R (.ret (.tup [eLive (if e.kind = 1 then (sampleL m e, []) else if e.kind = 2 then tickL m e.t else if e.kind = 3 then (policyL m e, []) else if e.kind = 4 then (confL m e, []) else (l, [])).1, .lit ((if e.kind = 1 then (sampleL m e, []) else if e.kind = 2 then tickL m e.t else if e.kind = 3 then (policyL m e, []) else if e.kind = 4 then (confL m e, []) else (l, [])).2.map eEv)])) σ := fun m em => by
          subst em
          rcases hk5 with hk | hk | hk | hk | hk
          · rw [step_1 ho hk] at h; rw [if_pos hk]; exact h
          · rw [step_2 ho hk] at h; rw [if_neg (by omega), if_pos hk]; exact h
          · rw [step_3 ho hk] at h; rw [if_neg (by omega), if_neg (by omega), if_pos hk]; exact h
          · rw [step_4 ho hk] at h; rw [if_neg (by omega), if_neg (by omega), if_neg (by omega), if_pos hk]; exact h
          · rw [step_o (.inr (inEv_f hk.1))] at h; rw [if_neg hk.2.1, if_neg hk.2.2.1, if_neg hk.2.2.2.1, if_neg hk.2.2.2.2]; exact h
        clear h
        have m1 : l.ins < 1099511627776 → moreL l = { l with ins := l.ins + 1 } := fun hlt => by unfold moreL; rw [if_pos hlt]
        have m2 : ¬ l.ins < 1099511627776 → moreL l = l := fun hlt => by unfold moreL; rw [if_neg hlt]
        have p1 : l.ins < 1099511627776 → okL { l with ins := l.ins + 1 } := fun hlt => m1 hlt ▸ hm
        rcases hk5 with hk | hk | hk | hk | hk
        all_goals
          simp only [hk] at h2
          first | rw [inEv_t (by omega)] | rw [inEv_f hk.1]
          first | rw [hk, kindD_1] | rw [hk, kindD_2] | rw [hk, kindD_3] | rw [hk, kindD_4] | rw [kindD_o hk.1]
          rcases hA with hs | gs
        all_goals
          repeat' (first | refine go ?_ | refine s_seq fun y9 hy9 => ?_ | refine qT _ ?_ ?_ | refine qG _ ?_ ?_ | refine qN ?_ ?_ | (refine QB.mk fun hb9 => ?_; (try simp only [hb9]); (try simp at hb9); first | (exfalso; omega) | subst hb9 | skip) | refine sD tOK tmix [([],0),([],1),([1],2),([0,1,2],3),([0,1,2,3],4),([0,1,2,3,4],5),([0,1,2,3,4],6),([0,1,2,3,4,5],7),([0,1,2,3,4,5,6,7],8)] 8 ?_ | refine sD tOK tmix [([],0),([0],1),([0,1],2),([0,1,2],3),([],4),([4],5),([4,5],6),([4,5,6],7),([0,1,2,3],8),([0,1,2,3,4,5,6,7,8],9)] 9 ?_ | refine qD _ ?_ ?_ | (refine nZ ?_; refine cr ?_) | (apply d_call []; exact rfl; (solve | (conv => lhs; try simp)); (solve | exact rfl | simp); (solve | (conv => lhs; try simp)); intro τ hτ; refine nZ ?_; first | exact cr ⟨rfl, rfl⟩))
        all_goals first
          | (refine fin_v (h2 _ rfl) ?_; simp [*]; done)
          | (refine fin_v (h2 _ rfl) ?_; simp; done)
          | skip
        all_goals first
          | refine C_dsample0 (l := { l with ins := l.ins + 1 }) hs fun σ' hD => ?_
          | refine C_dsample0 (l := l) hs fun σ' hD => ?_
          | refine C_dsample1 (l := { l with ins := l.ins + 1 })  fun σ' hD => ?_
          | refine C_dsample1 (l := l)  fun σ' hD => ?_
          | refine C_dtick0 (l := { l with ins := l.ins + 1 }) (p1 (by omega)) hs fun σ' hD => ?_
          | refine C_dtick0 (l := l) hl hs fun σ' hD => ?_
          | refine C_dtick1 (l := { l with ins := l.ins + 1 }) (p1 (by omega))  fun σ' hD => ?_
          | refine C_dtick1 (l := l) hl  fun σ' hD => ?_
          | refine C_dpolicy0 (l := { l with ins := l.ins + 1 }) (p1 (by omega))  (hpo hk).1 (hpo hk).2.1 (hpo hk).2.2 hs fun σ' hD => ?_
          | refine C_dpolicy0 (l := l) hl  (hpo hk).1 (hpo hk).2.1 (hpo hk).2.2 hs fun σ' hD => ?_
          | refine C_dpolicy1 (l := { l with ins := l.ins + 1 }) (p1 (by omega))  (hpo hk).1 (hpo hk).2.1 (hpo hk).2.2  fun σ' hD => ?_
          | refine C_dpolicy1 (l := l) hl  (hpo hk).1 (hpo hk).2.1 (hpo hk).2.2  fun σ' hD => ?_
          | refine C_dconf0 (l := { l with ins := l.ins + 1 }) hs fun σ' hD => ?_
          | refine C_dconf0 (l := l) hs fun σ' hD => ?_
          | refine C_dconf1 (l := { l with ins := l.ins + 1 })  fun σ' hD => ?_
          | refine C_dconf1 (l := l)  fun σ' hD => ?_
        all_goals
          repeat' (first | refine go ?_ | refine s_seq fun y9 hy9 => ?_ | refine qT _ ?_ ?_ | refine qG _ ?_ ?_ | refine qN ?_ ?_ | (refine QB.mk fun hb9 => ?_; (try simp only [hb9]); (try simp at hb9); first | (exfalso; omega) | subst hb9 | skip) | refine sD tOK tmix [([],0),([],1),([1],2),([0,1,2],3),([0,1,2,3],4),([0,1,2,3,4],5),([0,1,2,3,4],6),([0,1,2,3,4,5],7),([0,1,2,3,4,5,6,7],8)] 8 ?_ | refine sD tOK tmix [([],0),([0],1),([0,1],2),([0,1,2],3),([],4),([4],5),([4,5],6),([4,5,6],7),([0,1,2,3],8),([0,1,2,3,4,5,6,7,8],9)] 9 ?_ | refine qD _ ?_ ?_)
        all_goals
          obtain ⟨fs, o, d1, d2, d3⟩ := hD.more [none, none, none, none, none, none, none, none, none, none]
          generalize σ' ++ [none, none, none, none, none, none, none, none, none, none] = τ at *
          have g1 := at_get d1
          have g2 := at_get d2
          have g3 : fits tE 22 o = true := fits_lit (d3 zLive).2 rfl
          have g5 : ∀ x, (τ.set 2 x)[2]? = some x := fun x => by rw [List.getElem?_set_self (List.getElem?_eq_some_iff.1 g2).1]
          have g4 : fits tE 45 (.agg 45 fs) = true := rfl
          repeat' (first | ((with_reducible refine iRG ?_); first | (apply o_move; exact rfl) | (apply o_assign; exact rfl) | (apply o_load; exact rfl; exact rfl; (solve | exact rfl | (conv => lhs; simp [g1,g2,g3,g4,g5,d3,-fz_agg,-fits]))) | (apply o_fa; exact rfl; exact rfl; exact rfl; (solve | (conv => lhs; try simp [g1,g2,g3,g4,g5,d3,-fz_agg,-fits]))) | (apply o_bin; exact rfl; exact rfl; exact rfl; exact rfl; (solve | (conv => lhs; try simp [g1,g2,g3,g4,g5,d3,-fz_agg,-fits]; try simp (disch := omega) only [wi64, wu64, dect, decf, beqt, beqf, bnet, bnef, ift, iff_, ipt, ipf, wtdiv, gq]; try simp [g1,g2,g3,g4,g5,d3,-fz_agg,-fits]))) | (apply o_store; exact rfl; exact rfl; exact rfl; (solve | exact rfl | (conv => lhs; simp [g1,g2,g3,g4,g5,d3,-fz_agg,-fits]))) | (apply o_nilCheck; exact rfl; (solve | exact rfl | simp)) | (apply g_run; exact rfl) | (apply g_not; exact rfl) | (apply g_skip; exact rfl) | (apply g_if; exact rfl; all_goals (intro hb9; ((try simp only [hb9]); (try simp at hb9); first | (exfalso; omega) | subst hb9 | skip))) | (apply o_op; exact rfl; exact rfl; (solve | (conv => lhs; try simp [g1,g2,g3,g4,g5,d3,-fz_agg,-fits]; try simp (disch := omega) only [wi64, wu64, dect, decf, beqt, beqf, bnet, bnef, ift, iff_, ipt, ipf, wtdiv, gq]; try simp [g1,g2,g3,g4,g5,d3,-fz_agg,-fits]))) | (apply o_op0; exact rfl; exact rfl; (solve | (conv => lhs; try simp [g1,g2,g3,g4,g5,d3,-fz_agg,-fits]; try simp (disch := omega) only [wi64, wu64, dect, decf, beqt, beqf, bnet, bnef, ift, iff_, ipt, ipf, wtdiv, gq]; try simp [g1,g2,g3,g4,g5,d3,-fz_agg,-fits]))) | (apply o_call; exact rfl; (solve | (conv => lhs; try simp [g1,g2,g3,g4,g5,d3,-fz_agg,-fits]))) | (apply o_nil1; exact rfl; (solve | (conv => lhs; try simp [g1,g2,g3,g4,g5,d3,-fz_agg,-fits]))) | (apply o_nil2; exact rfl; (solve | (conv => lhs; try simp [g1,g2,g3,g4,g5,d3,-fz_agg,-fits]))) | (apply w_end; exact rfl)) | ((with_reducible refine iT ?_); first | refine s_seq fun y9 hy9 => ?_ | (apply s_reg' tOK; exact rfl; (solve | (conv => lhs; simp))) | refine s_block ?_ | (apply w_ret; exact rfl) | (apply w_skip; exact rfl) | (apply w_exit; exact rfl) | (apply s_ift; exact rfl) | (apply s_iff; exact rfl) | (apply T_if; exact rfl; all_goals (intro hb9; ((try simp only [hb9]); (try simp at hb9); first | (exfalso; omega) | subst hb9 | skip))) | (apply s_draw' tOK tmix [([], 0), ([], 1), ([1], 2), ([0, 1, 2], 3), ([0, 1, 2, 3], 4), ([0, 1, 2, 3, 4], 5), ([0, 1, 2, 3, 4], 6), ([0, 1, 2, 3, 4, 5], 7), ([0, 1, 2, 3, 4, 5, 6, 7], 8)] 8 (by decide +kernel); (solve | (conv => lhs; try simp [g1,g2,g3,g4,g5,d3,-fz_agg,-fits])); (solve | (conv => lhs; try simp [g1,g2,g3,g4,g5,d3,-fz_agg,-fits])); (solve | (conv => lhs; try simp [g1,g2,g3,g4,g5,d3,-fz_agg,-fits]))) | (apply s_draw' tOK tmix [([], 0), ([0], 1), ([0, 1], 2), ([0, 1, 2], 3), ([], 4), ([4], 5), ([4, 5], 6), ([4, 5, 6], 7), ([0, 1, 2, 3], 8), ([0, 1, 2, 3, 4, 5, 6, 7, 8], 9)] 9 (by decide +kernel); (solve | (conv => lhs; try simp [g1,g2,g3,g4,g5,d3,-fz_agg,-fits])); (solve | (conv => lhs; try simp [g1,g2,g3,g4,g5,d3,-fz_agg,-fits])); (solve | (conv => lhs; try simp [g1,g2,g3,g4,g5,d3,-fz_agg,-fits])))) | ((with_reducible refine iSP ?_); first | (apply s_next; assumption) | (apply r_fin; (solve | (conv => lhs; try simp [g1,g2,g3,g4,g5,d3,-fz_agg,-fits])); (solve | (conv => lhs; try simp [g1,g2,g3,g4,g5,d3,-fz_agg,-fits]))) | (apply n_fin; (solve | (conv => lhs; try simp [g1,g2,g3,g4,g5,d3,-fz_agg,-fits])); (solve | (conv => lhs; try simp [g1,g2,g3,g4,g5,d3,-fz_agg,-fits])))) | ((with_reducible refine iA ?_); first | refine a_ret ?_ | refine a_ret0 ?_) | ((with_reducible refine iDP ?_); first | (apply d_move; exact rfl) | (apply d_op; exact rfl; (solve | (conv => lhs; try simp [g1,g2,g3,g4,g5,d3,-fz_agg,-fits]; try simp (disch := omega) only [wi64, wu64, dect, decf, beqt, beqf, bnet, bnef, ift, iff_, ipt, ipf, wtdiv, gq]; try simp [g1,g2,g3,g4,g5,d3,-fz_agg,-fits])); (solve | exact rfl | simp); (solve | (conv => lhs; try simp [g1,g2,g3,g4,g5,d3,-fz_agg,-fits]))) | (apply d_op0; exact rfl; (solve | (conv => lhs; try simp [g1,g2,g3,g4,g5,d3,-fz_agg,-fits]; try simp (disch := omega) only [wi64, wu64, dect, decf, beqt, beqf, bnet, bnef, ift, iff_, ipt, ipf, wtdiv, gq]; try simp [g1,g2,g3,g4,g5,d3,-fz_agg,-fits])); (solve | exact rfl | simp); (solve | (conv => lhs; try simp [g1,g2,g3,g4,g5,d3,-fz_agg,-fits]))) | apply d_end | (apply dg_run; exact rfl) | (apply dg_not; exact rfl) | (apply dg_skip; exact rfl) | (apply dg_if; exact rfl; all_goals (intro hb9; ((try simp only [hb9]); (try simp at hb9); first | (exfalso; omega) | subst hb9 | skip)))) | (apply s_R; assumption) | (apply f_ret; (solve | (conv => lhs; try simp [g1,g2,g3,g4,g5,d3,-fz_agg,-fits]))))
        all_goals first | exact h2 _ (m1 (by omega)) | exact h2 _ (m2 (by omega))
    · clear h
      cases hA with
      | nil hs =>
        rcases hk5 with hk | hk | hk | hk | hk
        all_goals
          first | rw [inEv_t (by omega), hk] at key | rw [inEv_f hk.1, kindD_o hk.1] at key
          have F9 := And.intro @hk <| And.intro @kb1 <| @kb2
          repeat' (first | refine gf ?_ | refine s_seq fun y9 hy9 => ?_ | refine qT _ ?_ ?_ | refine qG _ ?_ ?_ | refine qN ?_ ?_ | (refine QB.mk fun hb9 => ?_; (try simp only [hb9]); (try simp at hb9); first | (exfalso; omega) | subst hb9 | skip) | refine sD tOK tmix [([],0),([0],1),([0,1],2),([0,1,2],3),([],4),([4],5),([4,5],6),([4,5,6],7),([0,1,2,3],8),([0,1,2,3,4,5,6,7,8],9)] 9 ?_ | refine qD _ ?_ ?_ | (apply s_any' (id := 2) tOK tmix; exact rfl; iterate 4 (solve | (conv => lhs; try simp [hk,kb1,kb2]))) | (apply ra_two; iterate 3 exact rfl) | (apply ra_three; iterate 4 exact rfl) | refine cE Tryz.func34 tOK fun R9 hR9 => ?_)
        all_goals
          refine t_pick tOK [0, 1, 2, 3] [3, 4, 5, 6, 7, 8] (by decide) (by rfl) (by rfl) (by conv => lhs; simp [Fr.keep]) (by conv => lhs; simp [pickS']) (by simp [Fr.keep]) (by simp [pickS']) ?_
          refine T_wk ?_ ?_ (key.down _ _ ⟨rfl, .nil hs⟩)
          all_goals (repeat' (first | with_reducible exact WkF.refl _ | with_reducible exact WkS.refl _ | with_reducible exact WkB.refl _ | with_reducible exact Wk.refl _ | with_reducible exact WkL.refl _ | exact Wk.nils | refine WkF.cons ?_ ?_ | refine WkS.cons ?_ ?_ | refine WkB.cells ?_ | refine WkL.cons ?_ ?_ | refine Wk.agg ?_ | exact Wk.refl _ | exact WkL.refl _))
      | row gs =>
        rcases hk5 with hk | hk | hk | hk | hk
        all_goals
          first | rw [inEv_t (by omega), hk] at key | rw [inEv_f hk.1, kindD_o hk.1] at key
          have F9 := And.intro @hk <| And.intro @kb1 <| @kb2
          repeat' (first | refine gf ?_ | refine s_seq fun y9 hy9 => ?_ | refine qT _ ?_ ?_ | refine qG _ ?_ ?_ | refine qN ?_ ?_ | (refine QB.mk fun hb9 => ?_; (try simp only [hb9]); (try simp at hb9); first | (exfalso; omega) | subst hb9 | skip) | refine sD tOK tmix [([],0),([0],1),([0,1],2),([0,1,2],3),([],4),([4],5),([4,5],6),([4,5,6],7),([0,1,2,3],8),([0,1,2,3,4,5,6,7,8],9)] 9 ?_ | refine qD _ ?_ ?_ | (apply s_any' (id := 2) tOK tmix; exact rfl; iterate 4 (solve | (conv => lhs; try simp [hk,kb1,kb2]))) | (apply ra_two; iterate 3 exact rfl) | (apply ra_three; iterate 4 exact rfl) | refine cE Tryz.func34 tOK fun R9 hR9 => ?_)
        all_goals
          refine t_pick tOK [0, 1, 2, 3] [3, 4, 5, 6, 7, 8] (by decide) (by rfl) (by rfl) (by conv => lhs; simp [Fr.keep]) (by conv => lhs; simp [pickS']) (by simp [Fr.keep]) (by simp [pickS']) ?_
          refine T_wk ?_ ?_ (key.down _ _ ⟨rfl, .row gs⟩)
          all_goals (repeat' (first | with_reducible exact WkF.refl _ | with_reducible exact WkS.refl _ | with_reducible exact WkB.refl _ | with_reducible exact Wk.refl _ | with_reducible exact WkL.refl _ | exact Wk.nils | refine WkF.cons ?_ ?_ | refine WkS.cons ?_ ?_ | refine WkB.cells ?_ | refine WkL.cons ?_ ?_ | refine Wk.agg ?_ | exact Wk.refl _ | exact WkL.refl _))
  · clear h
    have hg := gt_all (P := fun x : SimV => lenS x) (fun x hx => (hl.shd x hx).sim.len) okS_zero.sim.len
    have h1 := hl.pol.len; have h2 := hl.ppol.len; have h3 := hl.sim.sim.len
    have h4 : l.shadows.length ≤ 1000 := by have := hl.n; omega
    clear he kb1 kb2 hl
    obtain ⟨ins, now, util, dem, set, conf, pol, st, hold, sim, shd, pr⟩ := l
    simp only at h1 h2 h3 h4 hg
    have mm := mf_eSim shd
    cases shd with
    | nil =>
      repeat' (first | refine go ?_ | refine s_seq fun y9 hy9 => ?_ | refine qT _ ?_ ?_ | refine qG _ ?_ ?_ | refine qN ?_ ?_ | (refine QB.mk fun hb9 => ?_; (try simp only [hb9]); (try simp at hb9); first | (exfalso; omega) | subst hb9 | skip) | refine w_loop fun y9 hy9 => ?_ | (apply w_again; assumption) | refine sD tOK tmix [([],0),([],1),([1],2),([0,1,2],3),([0,1,2,3],4),([0,1,2,3,4],5),([0,1,2,3,4],6),([0,1,2,3,4,5],7),([0,1,2,3,4,5,6,7],8)] 8 ?_ | refine sD tOK tmix [([],0),([0],1),([0,1],2),([0,1,2],3),([],4),([4],5),([4,5],6),([4,5,6],7),([0,1,2,3],8),([0,1,2,3,4,5,6,7,8],9)] 9 ?_ | refine sD tOK tmix [([],0),([],1),([1],2),([0,1,2],3),([],4),([],5),([5],6),([5,6],7),([0,1,2,3,4,5,6,7],8),([0,1,2,3,5,6,7],9),([0,1,2,3,4,5,6,7,8,9],10),([0,1,2,3,4,5,6,7,8,9,10],11),([0,1,2,3,4,5,6,7,8,9,10,11],12),([0,1,2,3,4,5,6,7,8,9,10,11,12],13)] 10 ?_ | refine sD tOK tmix [([],0),([0],1),([],2),([],3),([3],4),([0,1,2,3,4],5),([0,1,2,3,4,5],6)] 5 ?_ | refine qD _ ?_ ?_ | refine cE Tryz.func30 tOK fun R9 hR9 => ?_ | refine cE Tryz.func57 tOK fun R9 hR9 => ?_ | (refine nZ ?_; first | refine (C_cown1 h1) ?_ | refine (C_cown1 h2) ?_ | refine (C_fown h3) ?_) | (apply d_call []; exact rfl; (solve | (conv => lhs; try simp)); (solve | exact rfl | simp); (solve | (conv => lhs; try simp)); intro τ hτ; refine nZ ?_; first | exact (C_cown1 h1) ⟨rfl, rfl⟩ | exact (C_cown1 h2) ⟨rfl, rfl⟩ | exact (C_fown h3) ⟨rfl, rfl⟩))
      · refine t_pick tOK [19, 99, 2, 1] [3, 4, 5, 6] (by decide) (by rfl) (by rfl) (by conv => lhs; simp [Fr.keep]) (by conv => lhs; simp [pickS']) (by simp [Fr.keep]) (by simp [pickS']) ?_
        refine T_wk ?_ ?_ (key.down _ _ ⟨rfl, .nil rfl⟩)
        all_goals (repeat' (first | with_reducible exact WkF.refl _ | with_reducible exact WkS.refl _ | with_reducible exact WkB.refl _ | with_reducible exact Wk.refl _ | with_reducible exact WkL.refl _ | exact Wk.nils | refine WkF.cons ?_ ?_ | refine WkS.cons ?_ ?_ | refine WkB.cells ?_ | refine WkL.cons ?_ ?_ | refine Wk.agg ?_ | exact Wk.refl _ | exact WkL.refl _))
      · refine t_pick tOK [20, 19, 2, 1] [3, 4, 5, 6] (by decide) (by rfl) (by rfl) (by conv => lhs; simp [Fr.keep]) (by conv => lhs; simp [pickS']) (by simp [Fr.keep]) (by simp [pickS']) ?_
        refine T_wk ?_ ?_ (key.down _ _ ⟨rfl, .row 1⟩)
        all_goals (repeat' (first | with_reducible exact WkF.refl _ | with_reducible exact WkS.refl _ | with_reducible exact WkB.refl _ | with_reducible exact Wk.refl _ | with_reducible exact WkL.refl _ | exact Wk.nils | refine WkF.cons ?_ ?_ | refine WkS.cons ?_ ?_ | refine WkB.cells ?_ | refine WkL.cons ?_ ?_ | refine Wk.agg ?_ | exact Wk.refl _ | exact WkL.refl _))
    | cons x xs =>
      simp only [List.length_cons] at h4
      repeat' (first | refine go ?_ | refine s_seq fun y9 hy9 => ?_ | refine qT _ ?_ ?_ | refine qG _ ?_ ?_ | refine qN ?_ ?_ | (refine QB.mk fun hb9 => ?_; (try simp only [hb9]); (try simp at hb9); first | (exfalso; omega) | subst hb9 | skip) | refine sD tOK tmix [([],0),([],1),([1],2),([0,1,2],3),([0,1,2,3],4),([0,1,2,3,4],5),([0,1,2,3,4],6),([0,1,2,3,4,5],7),([0,1,2,3,4,5,6,7],8)] 8 ?_ | refine sD tOK tmix [([],0),([0],1),([0,1],2),([0,1,2],3),([],4),([4],5),([4,5],6),([4,5,6],7),([0,1,2,3],8),([0,1,2,3,4,5,6,7,8],9)] 9 ?_ | refine sD tOK tmix [([],0),([],1),([1],2),([0,1,2],3),([],4),([],5),([5],6),([5,6],7),([0,1,2,3,4,5,6,7],8),([0,1,2,3,5,6,7],9),([0,1,2,3,4,5,6,7,8,9],10),([0,1,2,3,4,5,6,7,8,9,10],11),([0,1,2,3,4,5,6,7,8,9,10,11],12),([0,1,2,3,4,5,6,7,8,9,10,11,12],13)] 10 ?_ | refine sD tOK tmix [([],0),([0],1),([],2),([],3),([3],4),([0,1,2,3,4],5),([0,1,2,3,4,5],6)] 5 ?_ | refine qD _ ?_ ?_ | refine cE Tryz.func30 tOK fun R9 hR9 => ?_ | refine cE Tryz.func57 tOK fun R9 hR9 => ?_ | (refine nZ ?_; first | refine (C_cown1 h1) ?_ | refine (C_cown1 h2) ?_ | refine (C_fown h3) ?_) | (apply d_call []; exact rfl; (solve | (conv => lhs; try simp)); (solve | exact rfl | simp); (solve | (conv => lhs; try simp)); intro τ hτ; refine nZ ?_; first | exact (C_cown1 h1) ⟨rfl, rfl⟩ | exact (C_cown1 h2) ⟨rfl, rfl⟩ | exact (C_fown h3) ⟨rfl, rfl⟩))
      have hll : (x :: xs).length = xs.length + 1 := rfl
      refine s_loop fun c9 hc9 => ?_
      refine w_trim 20 [1, 2, 27, 28, 29] (by conv => lhs; simp) (by conv => lhs; simp) (by first | rfl | simp) (by first | rfl | simp) ?_
      refine s_loopn ((x :: xs).length) (fun j fr σ => fr = [(1, .ptr 3 0 0 []), (2, .ptr 4 0 0 []), (27, .ref 19 1 0 (x :: xs).length), (28, i64 (x :: xs).length), (29, i64 j)] ∧ σ = [some (.cells 45 0 [eLive ⟨ins, now, util, dem, set, conf, pol, st, hold, sim, x :: xs, pr⟩]), some (.cells 50 0 [eEv e]), some zLive, some (.cells 45 0 [.agg 45 [i64 ins, i64 now, i64 util, i64 dem, .bool set, eConf conf, ePol pol, eSta st, eHold hold, eSim sim, .ref 19 1 0 (x :: xs).length, eProbe pr]]), some (.cells 45 0 [tE.zero 45]), none, none, none, none, none, none, none, none, none, none, none, none, none, none, some (.cells 40 1 ((x :: xs).map eSim))]) ?_ ⟨by simp, by first | rfl | simp⟩
      rintro j fr σ hj ⟨rfl, rfl⟩ ih
      have hgj := hg j
      generalize x :: xs = L at *
      have hset : (L.map eSim).set j (eSim (gt L j)) = L.map eSim := by
        apply List.ext_getElem?
        intro i
        rw [List.getElem?_set]
        split
        · rename_i e; subst e
          by_cases hj2 : j < L.length
          · have e : gt L j = L[j] := by simp [gt, hj2]
            rw [e]; simp [hj2]
          · simp [hj2]
        · rfl
      refine s_round hc9 ?_
      have F9 := @hset
      repeat' (first | refine gf ?_ | refine s_seq fun y9 hy9 => ?_ | refine qT _ ?_ ?_ | refine qG _ ?_ ?_ | refine qN ?_ ?_ | (refine QB.mk fun hb9 => ?_; (try simp only [hb9]); (try simp at hb9); first | (exfalso; omega) | subst hb9 | skip) | refine sD tOK tmix [([],0),([],1),([1],2),([0,1,2],3),([0,1,2,3],4),([0,1,2,3,4],5),([0,1,2,3,4],6),([0,1,2,3,4,5],7),([0,1,2,3,4,5,6,7],8)] 8 ?_ | refine sD tOK tmix [([],0),([0],1),([0,1],2),([0,1,2],3),([],4),([4],5),([4,5],6),([4,5,6],7),([0,1,2,3],8),([0,1,2,3,4,5,6,7,8],9)] 9 ?_ | refine sD tOK tmix [([],0),([],1),([1],2),([0,1,2],3),([],4),([],5),([5],6),([5,6],7),([0,1,2,3,4,5,6,7],8),([0,1,2,3,5,6,7],9),([0,1,2,3,4,5,6,7,8,9],10),([0,1,2,3,4,5,6,7,8,9,10],11),([0,1,2,3,4,5,6,7,8,9,10,11],12),([0,1,2,3,4,5,6,7,8,9,10,11,12],13)] 10 ?_ | refine sD tOK tmix [([],0),([0],1),([],2),([],3),([3],4),([0,1,2,3,4],5),([0,1,2,3,4,5],6)] 5 ?_ | refine qD _ ?_ ?_ | refine cE Tryz.func30 tOK fun R9 hR9 => ?_ | (refine nZ ?_; refine (C_fown hgj) ?_) | (apply d_call []; exact rfl; (solve | (conv => lhs; try simp [hset])); (solve | exact rfl | simp); (solve | (conv => lhs; try simp [hset])); intro τ hτ; refine nZ ?_; first | exact (C_fown hgj) ⟨rfl, rfl⟩))
      · refine w_back 20 [1, 2, 27, 28, 29] (by conv => lhs; simp) (by conv => lhs; simp) (by first | rfl | simp) (by first | rfl | simp) ?_
        exact ih (by assumption) _ _ ⟨by simp, rfl⟩
      · refine t_pick tOK [20, 19, 2, 1] [3, 4, 5, 6] (by decide) (by rfl) (by rfl) (by conv => lhs; simp [Fr.keep]) (by conv => lhs; simp [pickS']) (by simp [Fr.keep]) (by simp [pickS']) ?_
        refine T_wk ?_ ?_ (key.down _ _ ⟨rfl, .row 1⟩)
        all_goals (repeat' (first | with_reducible exact WkF.refl _ | with_reducible exact WkS.refl _ | with_reducible exact WkB.refl _ | with_reducible exact Wk.refl _ | with_reducible exact WkL.refl _ | exact Wk.nils | refine WkF.cons ?_ ?_ | refine WkS.cons ?_ ?_ | refine WkB.cells ?_ | refine WkL.cons ?_ ?_ | refine Wk.agg ?_ | exact Wk.refl _ | exact WkL.refl _))
end
end Go.Proofs.YtncbfppafgjdiaaGreat
end
section
/- A tick of the document's. -/
set_option linter.unusedVariables false
set_option linter.unusedSimpArgs false
set_option maxRecDepth 20000
namespace Go.Proofs.YtncbfppafgjdiaaGreat
open Go
attribute [local irreducible] T TL C RG DP SP YR afterRG DPcall
attribute [-simp] List.map_set
abbrev lvB (l : LiveV) (s : PV) : Blk := .cells 45 0 [liveR l s]
/-- What the document's tick hands back. -/
def LiveOut (l : LiveV) (out : List EvV) (fs : List PV) (o : PV) (σ' : Store) : Prop :=
  Store.at σ' 2 = some zLive ∧ ∀ x, frz (σ'.set 2 (some x)) 5 (.agg 45 fs) = some (eLive l) ∧ frz (σ'.set 2 (some x)) 5 o = some (.lit (out.map eEv))
theorem nowR_eq (l : LiveV) (t : Int) : nowL l t = { l with now := max l.now (min (max t 0) 1099511627776) } := by
  unfold nowL; congr 1; omega
section
variable {R : Re → Store → Prop} {σ : Store}
set_option maxHeartbeats 8000000 in
theorem R_dtick0 {l l0 : LiveV} {t : Int} {e0 : EvV} (hl : okL l) (hs : l.shadows = []) (h : ∀ fs o σ', LiveOut (tickL l t).1 (tickL l t).2 fs o σ' → R (.ret (.tup [.agg 45 fs, o])) σ') : C tE 38 [liveR l .nils, i64 t] [some (lvB l0 .nils), none, some zLive, some (.cells 50 0 [eEv e0])] R := by
  refine s_body' Tryz.func38 tOK rfl (by conv => lhs; simp) (by conv => lhs; simp) (by conv => lhs; simp [Fr.args]) rfl (by conv => lhs; try simp) fun R9 hR9 => ?_
  refine j2 (fun fr σ => fr = [(2, .ptr 4 0 0 []), (4, .ptr 5 0 0 []), (5, .nils)] ∧ σ = [some (lvB l0 .nils), none, some zLive, some (.cells 50 0 [eEv e0]), some (lvB (nowL l t) .nils), some zLive]) ?_ fun yJ key => ?_
  · rintro _ _ ⟨rfl, rfl⟩
    have hm := hl.nowL t
    unfold tickL at h
    simp only at h
    have hs' : (nowL l t).shadows = [] := hs
    clear hs hl
    replace hs := hs'
    clear hs'
    generalize nowL l t = m at *
    clear l
    refine j7 (fun fr σ => ∃ g, fr = [(2, .ptr 4 0 0 []), (4, .ptr 5 0 0 []), (5, .nils), (6, .ref 6 g 0 (outT m).length)] ∧ m.set_ = true ∧ ¬ m.pol.kind = 0 ∧ σ = [some (lvB l0 .nils), none, some zLive, some (.cells 50 0 [eEv e0]), some (lvB (decideL (rollL m)) .nils), some zLive, some (.cells 50 g ((outT m).map eEv))]) ?_ fun yJ key => ?_
    · rintro _ _ ⟨g, rfl, h1, h2, rfl⟩
      have hc := hm.conf h1
      have hr := hm.roll.decide.run (l := decideL (rollL m)) (by rw [show (decideL (rollL m)).conf = m.conf from (roll_conf m).1]; exact hc)
      have hd := hm.roll.decide
      have hbad : (decideL (rollL m)).probe.on = true → (decideL (rollL m)).probe.bad ≤ 32 := fun ho => roll_bad (l := m) hc ho
      have hs2 : (decideL (rollL m)).shadows = [] := by
        show (rollL m).shadows = []
        unfold rollL; split <;> exact hs
      have hc2 : okConf (decideL (rollL m)).conf = true := by rw [show (decideL (rollL m)).conf = m.conf from (roll_conf m).1]; exact hc
      have ho : outT m = outT m := rfl
      rw [if_neg (by rw [h1]; simp [h2])] at h
      change ∀ fs o σ', LiveOut (judgeL (runL (decideL (rollL m)))) (outT m ++ judgeO (runL (decideL (rollL m)))) fs o σ' → _ at h
      obtain ⟨ev, evs, hev⟩ : ∃ ev evs, outT m = ev :: evs := by unfold outT rollO; split <;> exact ⟨_, _, rfl⟩
      have hel : evs.length ≤ 10 := by
        have := congrArg List.length hev
        unfold outT rollO at this
        split at this <;> simp only [List.length_append, List.length_cons, List.length_nil] at this <;> omega
      rw [hev] at h ⊢
      clear ho hev h1 h2 hm hs
      generalize decideL (rollL m) = q at *
      clear m hc
      obtain ⟨ins, now, util, dem, set, conf, pol, st, hold, sim, shd, pr⟩ := q
      simp only at hs2; subst hs2
      have b1 := hd.pol; have b2 := hd.ppol; have b3 := hd.now; have b4 := hd.hold; have b5 := hd.sim.sim
      simp only at b1 b2 b3 b4 b5 hc2
      have b6 := hr.sim.sim.len.2.2
      obtain ⟨c1, c2, c3, c4⟩ := hd.pr
      simp only [runL] at b6 c1 c2 c3 c4
      simp only [runL, judgeL, judgeO, List.map_nil] at h
      have cs : ∀ {R : Re → Store → Prop} {σ : Store}, R (.ret (eSim (stepSim conf sim dem now))) σ → C tE 20 [eConf conf, eSim sim, i64 dem, i64 now] σ R := fun h => R_fstep hc2 b5 b3.1 b3.2 h
      have hk0 : pickS conf (stepSim conf sim dem now) [] = 0 := rfl
      have cp : ∀ {R : Re → Store → Prop} {σ : Store}, R (.ret (.tup [i64 0, .bool false])) σ → C tE 102 [eConf conf, eSim (stepSim conf sim dem now), .lit []] σ R := fun h => by
        rw [okConf_b, decide_eq_true_eq] at hc2
        refine R_pick (l := []) (by simp) (by simp) hr.sim.marks (by omega) (by omega) ?_
        rw [hk0]; exact h
      simp only [hk0, if_true] at h
      generalize stepSim conf sim dem now = x at *
      clear hr hk0 hbad hd
      obtain ⟨on, left, bad, id, pp, ps⟩ := pr
      simp only at b2 c1 c2 c3 c4 h
      cases on with
      | true =>
        have ct : ∀ {b : Bool} {R : Re → Store → Prop} {σ : Store}, R (.ret (eProbe (tickPr ⟨true, left, bad, id, pp, ps⟩ b))) σ → C tE 100 [eProbe ⟨true, left, bad, id, pp, ps⟩, .bool b] σ R := fun h => R_ptick (p := ⟨true, left, bad, id, pp, ps⟩) b2.len (by show _ ≤ left; omega) (by show left ≤ _; omega) (by show _ ≤ bad; omega) (by show bad ≤ _; omega) h
        rcases Nat.eq_zero_or_pos x.marks.length with hM | hM
        · rw [List.eq_nil_of_length_eq_zero hM, lastBad_nil] at h
          simp only [if_true, List.append_nil] at h
          have F9 := @hM
          repeat' (first | refine gf ?_ | refine s_seq fun y9 hy9 => ?_ | refine qT _ ?_ ?_ | refine qG _ ?_ ?_ | refine qN ?_ ?_ | (refine QB.mk fun hb9 => ?_; (try simp only [hb9]); (try simp at hb9); first | (exfalso; omega) | subst hb9 | skip) | refine w_loop fun y9 hy9 => ?_ | (apply w_again; assumption) | refine sD tOK tmix [([],0),([0],1),([],2),([],3),([3],4),([],5),([5],6),([],7),([5,6,7],8),([5,6,7,8],9),([],10),([10],11),([],12),([12],13),([3,4,5,6,7,8,9,10,11,12,13],14),([0,1,2,3,4,5,6,7,8,9,10,11,12,13,14],15),([0,1,2,3,4,5,6,7,8,9,10,11,12,13,14,15],16)] 15 ?_ | refine sD tOK tmix [([],1),([],2),([],3),([1,2],0),([0,1,2,3],4),([0,1,2,3,4],5)] 4 ?_ | refine sD tOK tmix [([],1),([0],2),([],3),([2],4),([2,3],5),([2,3,4],6),([2,3,4,5],7),([2,3,4,5],8),([2,3,4,5,7],9),([2,3,4,5,7,8],10),([2,3,4,5,6,7,8,9],11),([2,3,4,5,6,7,8,9,10],12),([2,3,4,5,6,7,8,9,10,11],13),([2,3,4,5,6,7,8,9,10,11,12],14),([0,1,2,3,4,5,6,7,8,9,10,11,12,13],15),([],0),([0,1,2,3,4,5,6,7,8,9,10,11,12,13,14,15],16)] 16 ?_ | refine qD _ ?_ ?_ | refine cE Tryz.func66 tOK fun R9 hR9 => ?_ | (refine nZ ?_; first | refine cs ?_ | refine ct ?_ | refine R_over ?_) | (apply d_call []; exact rfl; (solve | (conv => lhs; try simp [hM])); (solve | exact rfl | simp); (solve | (conv => lhs; try simp [hM])); intro τ hτ; refine nZ ?_; first | exact cs ⟨rfl, rfl⟩ | exact ct ⟨rfl, rfl⟩ | exact R_over ⟨rfl, rfl⟩))
          all_goals
            refine h _ _ _ ⟨rfl, fun x => ⟨?_, ?_⟩⟩
            · simp [*]
            · exact frz_ev (l := ev :: evs) rfl
        · obtain ⟨k, hk⟩ : ∃ k, x.marks.length = k + 1 := ⟨x.marks.length - 1, by omega⟩
          rw [lastBad_gt hk] at h
          simp only [if_true, List.append_nil] at h
          have hq : x.marks[k]? = some (gt x.marks k) := gq (by omega)
          have hq2 : ∀ h, x.marks[k]'h = gt x.marks k := fun h => by simp [gt, h]
          have F9 := And.intro @hk <| And.intro @hq <| @hq2
          repeat' (first | refine gf ?_ | refine s_seq fun y9 hy9 => ?_ | refine qT _ ?_ ?_ | refine qG _ ?_ ?_ | refine qN ?_ ?_ | (refine QB.mk fun hb9 => ?_; (try simp only [hb9]); (try simp at hb9); first | (exfalso; omega) | subst hb9 | skip) | refine w_loop fun y9 hy9 => ?_ | (apply w_again; assumption) | refine sD tOK tmix [([],0),([0],1),([],2),([],3),([3],4),([],5),([5],6),([],7),([5,6,7],8),([5,6,7,8],9),([],10),([10],11),([],12),([12],13),([3,4,5,6,7,8,9,10,11,12,13],14),([0,1,2,3,4,5,6,7,8,9,10,11,12,13,14],15),([0,1,2,3,4,5,6,7,8,9,10,11,12,13,14,15],16)] 15 ?_ | refine sD tOK tmix [([],1),([],2),([],3),([1,2],0),([0,1,2,3],4),([0,1,2,3,4],5)] 4 ?_ | refine sD tOK tmix [([],1),([0],2),([],3),([2],4),([2,3],5),([2,3,4],6),([2,3,4,5],7),([2,3,4,5],8),([2,3,4,5,7],9),([2,3,4,5,7,8],10),([2,3,4,5,6,7,8,9],11),([2,3,4,5,6,7,8,9,10],12),([2,3,4,5,6,7,8,9,10,11],13),([2,3,4,5,6,7,8,9,10,11,12],14),([0,1,2,3,4,5,6,7,8,9,10,11,12,13],15),([],0),([0,1,2,3,4,5,6,7,8,9,10,11,12,13,14,15],16)] 16 ?_ | refine qD _ ?_ ?_ | refine cE Tryz.func66 tOK fun R9 hR9 => ?_ | (refine nZ ?_; first | refine cs ?_ | refine ct ?_ | refine R_over ?_) | (apply d_call []; exact rfl; (solve | (conv => lhs; try simp [hk,hq,hq2])); (solve | exact rfl | simp); (solve | (conv => lhs; try simp [hk,hq,hq2])); intro τ hτ; refine nZ ?_; first | exact cs ⟨rfl, rfl⟩ | exact ct ⟨rfl, rfl⟩ | exact R_over ⟨rfl, rfl⟩))
          all_goals
            refine h _ _ _ ⟨rfl, fun x => ⟨?_, ?_⟩⟩
            · simp [*]
            · exact frz_ev (l := ev :: evs) rfl
      | false =>
        simp only [if_false, Bool.false_eq_true, List.append_nil] at h
        repeat' (first | refine go ?_ | refine s_seq fun y9 hy9 => ?_ | refine qT _ ?_ ?_ | refine qG _ ?_ ?_ | refine qN ?_ ?_ | (refine QB.mk fun hb9 => ?_; (try simp only [hb9]); (try simp at hb9); first | (exfalso; omega) | subst hb9 | skip) | refine w_loop fun y9 hy9 => ?_ | (apply w_again; assumption) | refine sD tOK tmix [([],0),([0],1),([],2),([],3),([3],4),([],5),([5],6),([],7),([5,6,7],8),([5,6,7,8],9),([],10),([10],11),([],12),([12],13),([3,4,5,6,7,8,9,10,11,12,13],14),([0,1,2,3,4,5,6,7,8,9,10,11,12,13,14],15),([0,1,2,3,4,5,6,7,8,9,10,11,12,13,14,15],16)] 15 ?_ | refine sD tOK tmix [([],1),([],2),([],3),([1,2],0),([0,1,2,3],4),([0,1,2,3,4],5)] 4 ?_ | refine sD tOK tmix [([],1),([0],2),([],3),([2],4),([2,3],5),([2,3,4],6),([2,3,4,5],7),([2,3,4,5],8),([2,3,4,5,7],9),([2,3,4,5,7,8],10),([2,3,4,5,6,7,8,9],11),([2,3,4,5,6,7,8,9,10],12),([2,3,4,5,6,7,8,9,10,11],13),([2,3,4,5,6,7,8,9,10,11,12],14),([0,1,2,3,4,5,6,7,8,9,10,11,12,13],15),([],0),([0,1,2,3,4,5,6,7,8,9,10,11,12,13,14,15],16)] 16 ?_ | refine qD _ ?_ ?_ | refine cE Tryz.func66 tOK fun R9 hR9 => ?_ | (refine nZ ?_; first | refine cs ?_ | refine cp ?_) | (apply d_call []; exact rfl; (solve | (conv => lhs; try simp)); (solve | exact rfl | simp); (solve | (conv => lhs; try simp)); intro τ hτ; refine nZ ?_; first | exact cs ⟨rfl, rfl⟩ | exact cp ⟨rfl, rfl⟩))
        all_goals
          refine h _ _ _ ⟨rfl, fun x => ⟨?_, ?_⟩⟩
          · simp [*]
          · exact frz_ev (l := ev :: evs) rfl
    · obtain ⟨ins, now, util, dem, set, conf, pol, st, hold, sim, shd, pr⟩ := m
      simp only at hs h
      subst hs
      have b1 := hm.pol; have b2 := hm.ppol; have b3 := hm.now; have b4 := hm.hold
      simp only at b1 b2 b3 b4
      cases set with
      | false =>
        clear key
        repeat' (first | refine go ?_ | refine s_seq fun y9 hy9 => ?_ | refine qT _ ?_ ?_ | refine qG _ ?_ ?_ | refine qN ?_ ?_ | (refine QB.mk fun hb9 => ?_; (try simp only [hb9]); (try simp at hb9); first | (exfalso; omega) | subst hb9 | skip) | refine sD tOK tmix [([],0),([0],1),([],2),([],3),([3],4),([],5),([5],6),([],7),([5,6,7],8),([5,6,7,8],9),([],10),([10],11),([],12),([12],13),([3,4,5,6,7,8,9,10,11,12,13],14),([0,1,2,3,4,5,6,7,8,9,10,11,12,13,14],15),([0,1,2,3,4,5,6,7,8,9,10,11,12,13,14,15],16)] 15 ?_ | refine sD tOK tmix [([],1),([],2),([],3),([1,2],0),([0,1,2,3],4),([0,1,2,3,4],5)] 4 ?_ | refine qD _ ?_ ?_)
        refine h _ _ _ ⟨rfl, fun x => ⟨?_, ?_⟩⟩
        · simp
        · simp
      | true =>
        have hc := hm.conf rfl
        rw [okConf_b, decide_eq_true_eq] at hc
        simp only at hc
        rcases Decidable.em (pol.kind = 0) with hk | hk
        · clear key
          have F9 := @hk
          repeat' (first | refine gf ?_ | refine s_seq fun y9 hy9 => ?_ | refine qT _ ?_ ?_ | refine qG _ ?_ ?_ | refine qN ?_ ?_ | (refine QB.mk fun hb9 => ?_; (try simp only [hb9]); (try simp at hb9); first | (exfalso; omega) | subst hb9 | skip) | refine sD tOK tmix [([],0),([0],1),([],2),([],3),([3],4),([],5),([5],6),([],7),([5,6,7],8),([5,6,7,8],9),([],10),([10],11),([],12),([12],13),([3,4,5,6,7,8,9,10,11,12,13],14),([0,1,2,3,4,5,6,7,8,9,10,11,12,13,14],15),([0,1,2,3,4,5,6,7,8,9,10,11,12,13,14,15],16)] 15 ?_ | refine sD tOK tmix [([],1),([],2),([],3),([1,2],0),([0,1,2,3],4),([0,1,2,3,4],5)] 4 ?_ | refine qD _ ?_ ?_ | (refine nZ ?_; refine R_zero ?_) | (apply d_call []; exact rfl; (solve | (conv => lhs; try simp [hk])); (solve | exact rfl | simp); (solve | (conv => lhs; try simp [hk])); intro τ hτ; refine nZ ?_; first | exact R_zero ⟨rfl, rfl⟩))
          simp only [hk, or_true, if_true] at h
          refine h _ _ _ ⟨rfl, fun x => ⟨?_, ?_⟩⟩
          · simp
          · simp
        · cases hb : breachedPr conf pr with
          | false =>
            have cb : ∀ {R : Re → Store → Prop} {σ : Store}, R (.ret (.bool false)) σ → C tE 65 [eConf conf, eProbe pr] σ R := fun h => R_breached (by rw [hb]; exact h)
            simp only [outT, decE, rollO, rollL, decideL, adoptL, hb, if_true, if_false, Bool.false_eq_true, List.nil_append, List.cons_append, List.length_cons, List.length_nil, List.map_cons, List.map_nil, Nat.zero_add, Nat.reduceAdd] at key
            have F9 := @hk
            repeat' (first | refine gf ?_ | refine s_seq fun y9 hy9 => ?_ | refine qT _ ?_ ?_ | refine qG _ ?_ ?_ | refine qN ?_ ?_ | (refine QB.mk fun hb9 => ?_; (try simp only [hb9]); (try simp at hb9); first | (exfalso; omega) | subst hb9 | skip) | refine sD tOK tmix [([],0),([0],1),([],2),([],3),([3],4),([],5),([5],6),([],7),([5,6,7],8),([5,6,7,8],9),([],10),([10],11),([],12),([12],13),([3,4,5,6,7,8,9,10,11,12,13],14),([0,1,2,3,4,5,6,7,8,9,10,11,12,13,14],15),([0,1,2,3,4,5,6,7,8,9,10,11,12,13,14,15],16)] 15 ?_ | refine sD tOK tmix [([],1),([],2),([],3),([1,2],0),([0,1,2,3],4),([0,1,2,3,4],5)] 4 ?_ | refine qD _ ?_ ?_ | (refine nZ ?_; first | refine R_zero ?_ | refine cb ?_ | refine (R_policy b1) ?_ | refine (R_limit (by omega) (by omega) (by omega) (by omega) (by omega) b3.1 b3.2 b4.1 b4.2) ?_) | (apply d_call []; exact rfl; (solve | (conv => lhs; try simp [hk])); (solve | exact rfl | simp); (solve | (conv => lhs; try simp [hk])); intro τ hτ; refine nZ ?_; first | exact R_zero ⟨rfl, rfl⟩ | exact cb ⟨rfl, rfl⟩ | exact (R_policy b1) ⟨rfl, rfl⟩ | exact (R_limit (by omega) (by omega) (by omega) (by omega) (by omega) b3.1 b3.2 b4.1 b4.2) ⟨rfl, rfl⟩))
            refine t_pick tOK [0, 1, 2, 3, 4, 5, 8] [2, 4, 5, 6] (by decide) (by rfl) (by rfl) (by conv => lhs; simp [Fr.keep]) (by conv => lhs; simp [pickS']) (by simp [Fr.keep]) (by simp [pickS']) ?_
            refine T_wk ?_ ?_ (key.down _ _ ⟨0, rfl, trivial, hk, rfl⟩)
            all_goals (repeat' (first | with_reducible exact WkF.refl _ | with_reducible exact WkS.refl _ | with_reducible exact WkB.refl _ | with_reducible exact Wk.refl _ | with_reducible exact WkL.refl _ | exact Wk.nils | refine WkF.cons ?_ ?_ | refine WkS.cons ?_ ?_ | refine WkB.cells ?_ | refine WkL.cons ?_ ?_ | refine Wk.agg ?_ | exact Wk.refl _ | exact WkL.refl _))
          | true =>
            have cb : ∀ {R : Re → Store → Prop} {σ : Store}, R (.ret (.bool true)) σ → C tE 65 [eConf conf, eProbe pr] σ R := fun h => R_breached (by rw [hb]; exact h)
            simp only [outT, decE, rollO, rollL, decideL, adoptL, hb, if_true, if_false, Bool.false_eq_true, List.nil_append, List.cons_append, List.length_cons, List.length_nil, List.map_cons, List.map_nil, Nat.zero_add, Nat.reduceAdd] at key
            have F9 := @hk
            repeat' (first | refine gf ?_ | refine s_seq fun y9 hy9 => ?_ | refine qT _ ?_ ?_ | refine qG _ ?_ ?_ | refine qN ?_ ?_ | (refine QB.mk fun hb9 => ?_; (try simp only [hb9]); (try simp at hb9); first | (exfalso; omega) | subst hb9 | skip) | refine sD tOK tmix [([],0),([0],1),([],2),([],3),([3],4),([],5),([5],6),([],7),([5,6,7],8),([5,6,7,8],9),([],10),([10],11),([],12),([12],13),([3,4,5,6,7,8,9,10,11,12,13],14),([0,1,2,3,4,5,6,7,8,9,10,11,12,13,14],15),([0,1,2,3,4,5,6,7,8,9,10,11,12,13,14,15],16)] 15 ?_ | refine sD tOK tmix [([],1),([],2),([],3),([1,2],0),([0,1,2,3],4),([0,1,2,3,4],5)] 4 ?_ | refine qD _ ?_ ?_ | (refine nZ ?_; first | refine R_zero ?_ | refine cb ?_ | refine (R_fnew b2.len) ?_ | refine (R_policy b2) ?_ | refine (R_limit (by omega) (by omega) (by omega) (by omega) (by omega) b3.1 b3.2 b4.1 b4.2) ?_) | (apply d_call []; exact rfl; (solve | (conv => lhs; try simp [hk])); (solve | exact rfl | simp); (solve | (conv => lhs; try simp [hk])); intro τ hτ; refine nZ ?_; first | exact R_zero ⟨rfl, rfl⟩ | exact cb ⟨rfl, rfl⟩ | exact (R_fnew b2.len) ⟨rfl, rfl⟩ | exact (R_policy b2) ⟨rfl, rfl⟩ | exact (R_limit (by omega) (by omega) (by omega) (by omega) (by omega) b3.1 b3.2 b4.1 b4.2) ⟨rfl, rfl⟩))
            refine t_pick tOK [0, 1, 2, 3, 4, 5, 7] [2, 4, 5, 6] (by decide) (by rfl) (by rfl) (by conv => lhs; simp [Fr.keep]) (by conv => lhs; simp [pickS']) (by simp [Fr.keep]) (by simp [pickS']) ?_
            refine T_wk ?_ ?_ (key.down _ _ ⟨1, rfl, trivial, hk, rfl⟩)
            all_goals (repeat' (first | with_reducible exact WkF.refl _ | with_reducible exact WkS.refl _ | with_reducible exact WkB.refl _ | with_reducible exact Wk.refl _ | with_reducible exact WkL.refl _ | exact Wk.nils | refine WkF.cons ?_ ?_ | refine WkS.cons ?_ ?_ | refine WkB.cells ?_ | refine WkL.cons ?_ ?_ | refine Wk.agg ?_ | exact Wk.refl _ | exact WkL.refl _))
  · clear h
    rw [nowR_eq] at key
    obtain ⟨ins, now, util, dem, set, conf, pol, st, hold, sim, shd, pr⟩ := l
    repeat' (first | refine go ?_ | refine s_seq fun y9 hy9 => ?_ | refine qT _ ?_ ?_ | refine qG _ ?_ ?_ | refine qN ?_ ?_ | (refine QB.mk fun hb9 => ?_; (try simp only [hb9]); (try simp at hb9); first | (exfalso; omega) | subst hb9 | skip) | refine sD tOK tmix [([],0),([0],1),([],2),([],3),([3],4),([],5),([5],6),([],7),([5,6,7],8),([5,6,7,8],9),([],10),([10],11),([],12),([12],13),([3,4,5,6,7,8,9,10,11,12,13],14),([0,1,2,3,4,5,6,7,8,9,10,11,12,13,14],15),([0,1,2,3,4,5,6,7,8,9,10,11,12,13,14,15],16)] 15 ?_ | refine sD tOK tmix [([],1),([],2),([],3),([1,2],0),([0,1,2,3],4),([0,1,2,3,4],5)] 4 ?_ | refine qD _ ?_ ?_)
    refine t_pick tOK [0, 1, 2, 3, 4, 5] [2, 4, 5] (by decide) (by rfl) (by rfl) (by conv => lhs; simp [Fr.keep]) (by conv => lhs; simp [pickS']) (by simp [Fr.keep]) (by simp [pickS']) ?_
    refine T_wk ?_ ?_ (key.down _ _ ⟨rfl, rfl⟩)
    all_goals (repeat' (first | with_reducible exact WkF.refl _ | with_reducible exact WkS.refl _ | with_reducible exact WkB.refl _ | with_reducible exact Wk.refl _ | with_reducible exact WkL.refl _ | exact Wk.nils | refine WkF.cons ?_ ?_ | refine WkS.cons ?_ ?_ | refine WkB.cells ?_ | refine WkL.cons ?_ ?_ | refine Wk.agg ?_ | exact Wk.refl _ | exact WkL.refl _))
end
end Go.Proofs.YtncbfppafgjdiaaGreat
end
section
/- A tick of the document's, its shadows in a row. -/
set_option linter.unusedVariables false
set_option linter.unusedSimpArgs false
set_option maxRecDepth 20000
namespace Go.Proofs.YtncbfppafgjdiaaGreat
open Go
attribute [local irreducible] T TL C RG DP SP YR afterRG DPcall
attribute [-simp] List.map_set
theorem R_pick_at {σ : Store} {R : Re → Store → Prop} {b g n : Nat} {c : ConfV} {live : SimV} {l : List SimV} (hb : Store.at σ b = some (.cells 40 g (l.map eSim))) (hn : n = l.length) (hl : l.length ≤ 1000) (hM : ∀ x ∈ l, okM x.marks) (hL : okM live.marks) (m0 : -1000000000 ≤ c.margin) (m1 : c.margin ≤ 1000000000)
    (h : R (.ret (.tup [i64 (pickS c live l), .bool (decide (0 < pickS c live l))])) σ) : C tE 102 [eConf c, eSim live, .ref b g 0 n] σ R := by
  subst hn
  refine C_lend tOK (args' := [eConf c, eSim live, .lit (l.map eSim)]) ?_ (R_pick hl hM hL m0 m1 ⟨rfl, h⟩)
  have h1 : frz σ 6 (.ref b g 0 l.length) = some (.lit (l.map eSim)) := by
    have := frz_row (n := 5) (off := 0) (len := l.length) hb (by simp) (fun x hx => by
      obtain ⟨a, _, rfl⟩ := List.mem_map.1 hx; simp)
    simpa using this
  simp [h1]
section
variable {R : Re → Store → Prop} {σ : Store}
set_option maxHeartbeats 8000000 in
theorem R_dtick1 {l l0 : LiveV} {t : Int} {e0 : EvV} {gs : Nat} (hl : okL l) (h : ∀ fs o σ', LiveOut (tickL l t).1 (tickL l t).2 fs o σ' → R (.ret (.tup [.agg 45 fs, o])) σ') : C tE 38 [liveR l (.ref 1 gs 0 l.shadows.length), i64 t] [some (lvB l0 (.ref 1 gs 0 l.shadows.length)), some (.cells 40 gs (l.shadows.map eSim)), some zLive, some (.cells 50 0 [eEv e0])] R := by
  refine s_body' Tryz.func38 tOK rfl (by conv => lhs; simp) (by conv => lhs; simp) (by conv => lhs; simp [Fr.args]) rfl (by conv => lhs; try simp) fun R9 hR9 => ?_
  refine j2 (fun fr σ => fr = [(2, .ptr 4 0 0 []), (4, .ptr 5 0 0 []), (5, .nils)] ∧ σ = [some (lvB l0 (.ref 1 gs 0 l.shadows.length)), some (.cells 40 gs (l.shadows.map eSim)), some zLive, some (.cells 50 0 [eEv e0]), some (lvB (nowL l t) (.ref 1 gs 0 l.shadows.length)), some zLive]) ?_ fun yJ key => ?_
  · rintro _ _ ⟨rfl, rfl⟩
    have hm := hl.nowL t
    unfold tickL at h
    simp only at h
    have hs' : l.shadows = (nowL l t).shadows := rfl
    rw [hs']
    clear hs' hl
    generalize nowL l t = m at *
    clear l
    refine j7 (fun fr σ => ∃ g, fr = [(2, .ptr 4 0 0 []), (4, .ptr 5 0 0 []), (5, .nils), (6, .ref 6 g 0 (outT m).length)] ∧ m.set_ = true ∧ ¬ m.pol.kind = 0 ∧ σ = [some (lvB l0 (.ref 1 gs 0 m.shadows.length)), some (.cells 40 gs (m.shadows.map eSim)), some zLive, some (.cells 50 0 [eEv e0]), some (lvB (decideL (rollL m)) (.ref 1 gs 0 m.shadows.length)), some zLive, some (.cells 50 g ((outT m).map eEv))]) ?_ fun yJ key => ?_
    · rintro _ _ ⟨g, rfl, h1, h2, rfl⟩
      have hc := hm.conf h1
      have hr := hm.roll.decide.run (l := decideL (rollL m)) (by rw [show (decideL (rollL m)).conf = m.conf from (roll_conf m).1]; exact hc)
      have hd := hm.roll.decide
      have hbad : (decideL (rollL m)).probe.on = true → (decideL (rollL m)).probe.bad ≤ 32 := fun ho => roll_bad (l := m) hc ho
      have hs2 : m.shadows = (decideL (rollL m)).shadows := by
        show _ = (rollL m).shadows
        unfold rollL; split <;> rfl
      have hc2 : okConf (decideL (rollL m)).conf = true := by rw [show (decideL (rollL m)).conf = m.conf from (roll_conf m).1]; exact hc
      have ho : outT m = outT m := rfl
      rw [if_neg (by rw [h1]; simp [h2])] at h
      change ∀ fs o σ', LiveOut (judgeL (runL (decideL (rollL m)))) (outT m ++ judgeO (runL (decideL (rollL m)))) fs o σ' → _ at h
      obtain ⟨ev, evs, hev⟩ : ∃ ev evs, outT m = ev :: evs := by unfold outT rollO; split <;> exact ⟨_, _, rfl⟩
      have hel : evs.length ≤ 10 := by
        have := congrArg List.length hev
        unfold outT rollO at this
        split at this <;> simp only [List.length_append, List.length_cons, List.length_nil] at this <;> omega
      rw [hev] at h ⊢
      rw [hs2]
      clear ho hev h1 h2 hm hs2
      generalize decideL (rollL m) = q at *
      clear m hc
      obtain ⟨ins, now, util, dem, set, conf, pol, st, hold, sim, shd, pr⟩ := q
      have b1 := hd.pol; have b2 := hd.ppol; have b3 := hd.now; have b4 := hd.hold; have b5 := hd.sim.sim
      simp only at b1 b2 b3 b4 b5 hc2
      have b6 := hr.sim.sim.len.2.2
      obtain ⟨c1, c2, c3, c4⟩ := hd.pr
      simp only [runL] at b6 c1 c2 c3 c4
      have cs : ∀ {R : Re → Store → Prop} {σ : Store}, R (.ret (eSim (stepSim conf sim dem now))) σ → C tE 20 [eConf conf, eSim sim, i64 dem, i64 now] σ R := fun h => R_fstep hc2 b5 b3.1 b3.2 h
      have b7 := hr.shd
      have b8 : shd.length ≤ 1000 := by have := hd.n; simp only at this; omega
      have b9 := gt_all (P := okS) hd.shd okS_zero
      simp only [runL] at b7 b8 b9
      obtain ⟨f, hf'⟩ : ∃ f : SimV → SimV, ∀ x, stepSim conf x dem now = f x := ⟨fun x => stepSim conf x dem now, fun _ => rfl⟩
      have er : runL ⟨ins, now, util, dem, set, conf, pol, st, hold, sim, shd, pr⟩ = ⟨ins, now, util, dem, set, conf, pol, st, hold, f sim, shd.map f, pr⟩ := by
        unfold runL; simp only [hf']
      rw [er] at h
      have cr : ∀ {y : SimV} (hy : okSim y) {R : Re → Store → Prop} {σ : Store}, R (.ret (eSim (f y))) σ → C tE 20 [eConf conf, eSim y, i64 dem, i64 now] σ R := fun {y} hy {R} {σ} h => R_fstep hc2 hy b3.1 b3.2 (by rw [hf']; exact h)
      simp only [hf'] at b7 b6 cs
      have bM := hr.sim.marks
      simp only [runL, hf'] at bM
      generalize f sim = x at *
      obtain ⟨W, w0, wl, wq, ws, we⟩ := run_steps f shd
      rw [← we] at h b7
      have wll := wl shd.length
      generalize hY : W shd.length = Y at *
      clear hr hbad hd hf' we er
      obtain ⟨on, left, bad, id, pp, ps⟩ := pr
      simp only at b2 c1 c2 c3 c4 h
      repeat' (first | refine go ?_ | refine s_seq fun y9 hy9 => ?_ | refine qT _ ?_ ?_ | refine qG _ ?_ ?_ | refine qN ?_ ?_ | (refine QB.mk fun hb9 => ?_; (try simp only [hb9]); (try simp at hb9); first | (exfalso; omega) | subst hb9 | skip) | refine sD tOK tmix [([],0),([0],1),([],2),([],3),([3],4),([],5),([5],6),([],7),([5,6,7],8),([5,6,7,8],9),([],10),([10],11),([],12),([12],13),([3,4,5,6,7,8,9,10,11,12,13],14),([0,1,2,3,4,5,6,7,8,9,10,11,12,13,14],15),([0,1,2,3,4,5,6,7,8,9,10,11,12,13,14,15],16)] 15 ?_ | refine sD tOK tmix [([],1),([],2),([],3),([1,2],0),([0,1,2,3],4),([0,1,2,3,4],5)] 4 ?_ | refine qD _ ?_ ?_ | (refine nZ ?_; refine cs ?_) | (apply d_call []; exact rfl; (solve | (conv => lhs; try simp)); (solve | exact rfl | simp); (solve | (conv => lhs; try simp)); intro τ hτ; refine nZ ?_; first | exact cs ⟨rfl, rfl⟩))
      refine s_loop fun c9 hc9 => ?_
      refine w_trim 7 [2, 4, 5, 6, 9] (by conv => lhs; simp) (by conv => lhs; simp) (by first | rfl | simp) (by first | rfl | simp) ?_
      refine s_loopn (shd.length) (fun j fr σ => fr = [(2, .ptr 4 0 0 []), (4, .ptr 5 0 0 []), (5, .nils), (6, .ref 6 g 0 (evs.length + 1)), (9, i64 j)] ∧ σ = [some (lvB l0 (.ref 1 gs 0 shd.length)), some (.cells 40 gs ((W j).map eSim)), some zLive, some (.cells 50 0 [eEv e0]), some (lvB ⟨ins, now, util, dem, set, conf, pol, st, hold, x, shd, ⟨on, left, bad, id, pp, ps⟩⟩ (.ref 1 gs 0 shd.length)), some zLive, some (.cells 50 g (eEv ev :: evs.map eEv))]) ?_ ⟨by simp [w0], by first | rfl | simp [w0]⟩
      rintro j fr σ hj ⟨rfl, rfl⟩ ih
      have hwl := wl j
      refine s_round hc9 ?_
      rcases Nat.lt_or_ge j shd.length with hjl | hjl
      · have hq := wq j hjl
        have hq2 : ∀ h, (W j)[j]'h = gt shd j := fun h => by rw [List.getElem?_eq_getElem h] at hq; exact Option.some.inj hq
        have hset : ((W j).map eSim).set j (eSim (f (gt shd j))) = (W (j + 1)).map eSim := by rw [← ws j hjl, List.map_set]
        have b10 := (b9 j).sim
        clear ws wq wl
        have F9 := And.intro @hq <| And.intro @hq2 <| And.intro @hset <| @hwl
        repeat' (first | refine gf ?_ | refine s_seq fun y9 hy9 => ?_ | refine qT _ ?_ ?_ | refine qG _ ?_ ?_ | refine qN ?_ ?_ | (refine QB.mk fun hb9 => ?_; (try simp only [hb9]); (try simp at hb9); first | (exfalso; omega) | subst hb9 | skip) | refine sD tOK tmix [([],0),([0],1),([],2),([],3),([3],4),([],5),([5],6),([],7),([5,6,7],8),([5,6,7,8],9),([],10),([10],11),([],12),([12],13),([3,4,5,6,7,8,9,10,11,12,13],14),([0,1,2,3,4,5,6,7,8,9,10,11,12,13,14],15),([0,1,2,3,4,5,6,7,8,9,10,11,12,13,14,15],16)] 15 ?_ | refine sD tOK tmix [([],1),([],2),([],3),([1,2],0),([0,1,2,3],4),([0,1,2,3,4],5)] 4 ?_ | refine qD _ ?_ ?_ | (refine nZ ?_; refine (cr b10) ?_) | (apply d_call []; exact rfl; (solve | (conv => lhs; try simp [hq,hq2,hset,hwl])); (solve | exact rfl | simp); (solve | (conv => lhs; try simp [hq,hq2,hset,hwl])); intro τ hτ; refine nZ ?_; first | exact (cr b10) ⟨rfl, rfl⟩))
        refine w_back 7 [2, 4, 5, 6, 9] (by conv => lhs; simp) (by conv => lhs; simp) (by first | rfl | simp) (by first | rfl | simp) ?_
        exact ih hjl _ _ ⟨by simp, by simp⟩
      · have : j = shd.length := by omega
        subst this
        rw [hY]
        clear ih wq ws wl b9 w0
        have hyl : (Y.map eSim).take shd.length = Y.map eSim := List.take_of_length_le (by simp [wll])
        have cp : ∀ {τ : Store}, Store.at τ 1 = some (.cells 40 gs (Y.map eSim)) → ∀ {R : Re → Store → Prop}, R (.ret (.tup [i64 (pickS conf x Y), .bool (decide (0 < pickS conf x Y))])) τ → C tE 102 [eConf conf, eSim x, .ref 1 gs 0 shd.length] τ R := fun {τ} hτ {R} h => by
          rw [okConf_b, decide_eq_true_eq] at hc2
          exact R_pick_at hτ wll.symm (by omega) (fun x hx => (b7 x hx).marks) bM (by omega) (by omega) h
        cases on with
        | true =>
          have ct : ∀ {b : Bool} {R : Re → Store → Prop} {σ : Store}, R (.ret (eProbe (tickPr ⟨true, left, bad, id, pp, ps⟩ b))) σ → C tE 100 [eProbe ⟨true, left, bad, id, pp, ps⟩, .bool b] σ R := fun h => R_ptick (p := ⟨true, left, bad, id, pp, ps⟩) b2.len (by show _ ≤ left; omega) (by show left ≤ _; omega) (by show _ ≤ bad; omega) (by show bad ≤ _; omega) h
          simp only [judgeL, judgeO, if_true, List.append_nil] at h
          rcases Nat.eq_zero_or_pos x.marks.length with hM | hM
          · rw [List.eq_nil_of_length_eq_zero hM, lastBad_nil] at h
            have F9 := @hM
            repeat' (first | refine gf ?_ | refine s_seq fun y9 hy9 => ?_ | refine qT _ ?_ ?_ | refine qG _ ?_ ?_ | refine qN ?_ ?_ | (refine QB.mk fun hb9 => ?_; (try simp only [hb9]); (try simp at hb9); first | (exfalso; omega) | subst hb9 | skip) | refine w_loop fun y9 hy9 => ?_ | (apply w_again; assumption) | refine sD tOK tmix [([],0),([0],1),([],2),([],3),([3],4),([],5),([5],6),([],7),([5,6,7],8),([5,6,7,8],9),([],10),([10],11),([],12),([12],13),([3,4,5,6,7,8,9,10,11,12,13],14),([0,1,2,3,4,5,6,7,8,9,10,11,12,13,14],15),([0,1,2,3,4,5,6,7,8,9,10,11,12,13,14,15],16)] 15 ?_ | refine sD tOK tmix [([],1),([],2),([],3),([1,2],0),([0,1,2,3],4),([0,1,2,3,4],5)] 4 ?_ | refine sD tOK tmix [([],1),([0],2),([],3),([2],4),([2,3],5),([2,3,4],6),([2,3,4,5],7),([2,3,4,5],8),([2,3,4,5,7],9),([2,3,4,5,7,8],10),([2,3,4,5,6,7,8,9],11),([2,3,4,5,6,7,8,9,10],12),([2,3,4,5,6,7,8,9,10,11],13),([2,3,4,5,6,7,8,9,10,11,12],14),([0,1,2,3,4,5,6,7,8,9,10,11,12,13],15),([],0),([0,1,2,3,4,5,6,7,8,9,10,11,12,13,14,15],16)] 16 ?_ | refine qD _ ?_ ?_ | refine cE Tryz.func66 tOK fun R9 hR9 => ?_ | (refine nZ ?_; first | refine ct ?_ | refine R_over ?_) | (apply d_call []; exact rfl; (solve | (conv => lhs; try simp [hM])); (solve | exact rfl | simp); (solve | (conv => lhs; try simp [hM])); intro τ hτ; refine nZ ?_; first | exact ct ⟨rfl, rfl⟩ | exact R_over ⟨rfl, rfl⟩))
            all_goals
              refine h _ _ _ ⟨rfl, fun x => ⟨?_, ?_⟩⟩
              · simp [*]
              · exact frz_ev (l := ev :: evs) rfl
          · obtain ⟨k, hk⟩ : ∃ k, x.marks.length = k + 1 := ⟨x.marks.length - 1, by omega⟩
            rw [lastBad_gt hk] at h
            have hq : x.marks[k]? = some (gt x.marks k) := gq (by omega)
            have hq2 : ∀ h, x.marks[k]'h = gt x.marks k := fun h => by simp [gt, h]
            have F9 := And.intro @hk <| And.intro @hq <| @hq2
            repeat' (first | refine gf ?_ | refine s_seq fun y9 hy9 => ?_ | refine qT _ ?_ ?_ | refine qG _ ?_ ?_ | refine qN ?_ ?_ | (refine QB.mk fun hb9 => ?_; (try simp only [hb9]); (try simp at hb9); first | (exfalso; omega) | subst hb9 | skip) | refine w_loop fun y9 hy9 => ?_ | (apply w_again; assumption) | refine sD tOK tmix [([],0),([0],1),([],2),([],3),([3],4),([],5),([5],6),([],7),([5,6,7],8),([5,6,7,8],9),([],10),([10],11),([],12),([12],13),([3,4,5,6,7,8,9,10,11,12,13],14),([0,1,2,3,4,5,6,7,8,9,10,11,12,13,14],15),([0,1,2,3,4,5,6,7,8,9,10,11,12,13,14,15],16)] 15 ?_ | refine sD tOK tmix [([],1),([],2),([],3),([1,2],0),([0,1,2,3],4),([0,1,2,3,4],5)] 4 ?_ | refine sD tOK tmix [([],1),([0],2),([],3),([2],4),([2,3],5),([2,3,4],6),([2,3,4,5],7),([2,3,4,5],8),([2,3,4,5,7],9),([2,3,4,5,7,8],10),([2,3,4,5,6,7,8,9],11),([2,3,4,5,6,7,8,9,10],12),([2,3,4,5,6,7,8,9,10,11],13),([2,3,4,5,6,7,8,9,10,11,12],14),([0,1,2,3,4,5,6,7,8,9,10,11,12,13],15),([],0),([0,1,2,3,4,5,6,7,8,9,10,11,12,13,14,15],16)] 16 ?_ | refine qD _ ?_ ?_ | refine cE Tryz.func66 tOK fun R9 hR9 => ?_ | (refine nZ ?_; first | refine ct ?_ | refine R_over ?_) | (apply d_call []; exact rfl; (solve | (conv => lhs; try simp [hk,hq,hq2])); (solve | exact rfl | simp); (solve | (conv => lhs; try simp [hk,hq,hq2])); intro τ hτ; refine nZ ?_; first | exact ct ⟨rfl, rfl⟩ | exact R_over ⟨rfl, rfl⟩))
            all_goals
              refine h _ _ _ ⟨rfl, fun x => ⟨?_, ?_⟩⟩
              · simp [*]
              · exact frz_ev (l := ev :: evs) rfl
        | false =>
          simp only [judgeL, judgeO, if_false, Bool.false_eq_true] at h
          rcases Nat.eq_zero_or_pos (pickS conf x Y) with hk | hk
          · rw [hk] at h cp
            simp only [if_true, List.append_nil] at h
            repeat' (first | refine go ?_ | refine s_seq fun y9 hy9 => ?_ | refine qT _ ?_ ?_ | refine qG _ ?_ ?_ | refine qN ?_ ?_ | (refine QB.mk fun hb9 => ?_; (try simp only [hb9]); (try simp at hb9); first | (exfalso; omega) | subst hb9 | skip) | refine w_loop fun y9 hy9 => ?_ | (apply w_again; assumption) | refine sD tOK tmix [([],0),([0],1),([],2),([],3),([3],4),([],5),([5],6),([],7),([5,6,7],8),([5,6,7,8],9),([],10),([10],11),([],12),([12],13),([3,4,5,6,7,8,9,10,11,12,13],14),([0,1,2,3,4,5,6,7,8,9,10,11,12,13,14],15),([0,1,2,3,4,5,6,7,8,9,10,11,12,13,14,15],16)] 15 ?_ | refine sD tOK tmix [([],1),([],2),([],3),([1,2],0),([0,1,2,3],4),([0,1,2,3,4],5)] 4 ?_ | refine sD tOK tmix [([],1),([0],2),([],3),([2],4),([2,3],5),([2,3,4],6),([2,3,4,5],7),([2,3,4,5],8),([2,3,4,5,7],9),([2,3,4,5,7,8],10),([2,3,4,5,6,7,8,9],11),([2,3,4,5,6,7,8,9,10],12),([2,3,4,5,6,7,8,9,10,11],13),([2,3,4,5,6,7,8,9,10,11,12],14),([0,1,2,3,4,5,6,7,8,9,10,11,12,13],15),([],0),([0,1,2,3,4,5,6,7,8,9,10,11,12,13,14,15],16)] 16 ?_ | refine qD _ ?_ ?_ | refine cE Tryz.func66 tOK fun R9 hR9 => ?_ | (refine nZ ?_; refine (cp (by simp)) ?_) | (apply d_call []; exact rfl; (solve | (conv => lhs; try simp)); (solve | exact rfl | simp); (solve | (conv => lhs; try simp)); intro τ hτ; refine nZ ?_; first | exact (cp (by simp)) ⟨rfl, rfl⟩))
            all_goals
              refine h _ _ _ ⟨rfl, fun x => ⟨?_, ?_⟩⟩
              · simp [*]
              · exact frz_ev (l := ev :: evs) rfl
          · obtain ⟨k, hk⟩ : ∃ k, pickS conf x Y = k + 1 := ⟨pickS conf x Y - 1, by omega⟩
            have hky := pickS_le conf x Y
            rw [hk] at h cp hky
            have hkl : k < Y.length := by omega
            have hyk : Y[k]? = some (gt Y k) := gq hkl
            have hyk2 : ∀ h, Y[k]'h = gt Y k := fun h => by simp [gt, h]
            have hlen := (b7 (gt Y k) (gt_mem hkl)).sim.len.1
            rw [if_neg (by omega), if_neg (by omega)] at h
            change ∀ fs o σ', LiveOut ⟨ins, now, util, dem, set, conf, (gt Y k).pol, (gt Y k).state, hold, gt Y k, Y.set k {}, beginPr conf ((k + 1 : Nat) : Int) pol st⟩ (ev :: evs ++ [{ kind := 6, id := ((k + 1 : Nat) : Int) }]) fs o σ' → _ at h
            have hz := fun σ => sims_set (σ := σ) Y k
            have hyl2 : ∀ z, ((Y.map eSim).set k z).take shd.length = (Y.map eSim).set k z := fun z => List.take_of_length_le (by simp [wll])
            have F9 := And.intro @hyk <| @hyk2
            repeat' (first | refine gf ?_ | refine s_seq fun y9 hy9 => ?_ | refine qT _ ?_ ?_ | refine qG _ ?_ ?_ | refine qN ?_ ?_ | (refine QB.mk fun hb9 => ?_; (try simp only [hb9]); (try simp at hb9); first | (exfalso; omega) | subst hb9 | skip) | refine w_loop fun y9 hy9 => ?_ | (apply w_again; assumption) | refine sD tOK tmix [([],0),([0],1),([],2),([],3),([3],4),([],5),([5],6),([],7),([5,6,7],8),([5,6,7,8],9),([],10),([10],11),([],12),([12],13),([3,4,5,6,7,8,9,10,11,12,13],14),([0,1,2,3,4,5,6,7,8,9,10,11,12,13,14],15),([0,1,2,3,4,5,6,7,8,9,10,11,12,13,14,15],16)] 15 ?_ | refine sD tOK tmix [([],1),([],2),([],3),([1,2],0),([0,1,2,3],4),([0,1,2,3,4],5)] 4 ?_ | refine sD tOK tmix [([],1),([0],2),([],3),([2],4),([2,3],5),([2,3,4],6),([2,3,4,5],7),([2,3,4,5],8),([2,3,4,5,7],9),([2,3,4,5,7,8],10),([2,3,4,5,6,7,8,9],11),([2,3,4,5,6,7,8,9,10],12),([2,3,4,5,6,7,8,9,10,11],13),([2,3,4,5,6,7,8,9,10,11,12],14),([0,1,2,3,4,5,6,7,8,9,10,11,12,13],15),([],0),([0,1,2,3,4,5,6,7,8,9,10,11,12,13,14,15],16)] 16 ?_ | refine qD _ ?_ ?_ | refine cE Tryz.func66 tOK fun R9 hR9 => ?_ | (refine nZ ?_; first | refine (cp (by simp)) ?_ | refine (R_begin b1.len) ?_ | refine (R_pown hlen) ?_) | (apply d_call []; exact rfl; (solve | (conv => lhs; try simp [hyk,hyk2])); (solve | exact rfl | simp); (solve | (conv => lhs; try simp [hyk,hyk2])); intro τ hτ; refine nZ ?_; first | exact (cp (by simp)) ⟨rfl, rfl⟩ | exact (R_begin b1.len) ⟨rfl, rfl⟩ | exact (R_pown hlen) ⟨rfl, rfl⟩))
            all_goals
              refine h _ _ _ ⟨rfl, fun x => ⟨?_, ?_⟩⟩
              · simp [hz, hyl2, *]
              · exact frz_ev2 (l := ev :: evs) rfl rfl rfl
    · obtain ⟨ins, now, util, dem, set, conf, pol, st, hold, sim, shd, pr⟩ := m
      simp only at h
      have b1 := hm.pol; have b2 := hm.ppol; have b3 := hm.now; have b4 := hm.hold
      simp only at b1 b2 b3 b4
      cases set with
      | false =>
        clear key
        repeat' (first | refine go ?_ | refine s_seq fun y9 hy9 => ?_ | refine qT _ ?_ ?_ | refine qG _ ?_ ?_ | refine qN ?_ ?_ | (refine QB.mk fun hb9 => ?_; (try simp only [hb9]); (try simp at hb9); first | (exfalso; omega) | subst hb9 | skip) | refine sD tOK tmix [([],0),([0],1),([],2),([],3),([3],4),([],5),([5],6),([],7),([5,6,7],8),([5,6,7,8],9),([],10),([10],11),([],12),([12],13),([3,4,5,6,7,8,9,10,11,12,13],14),([0,1,2,3,4,5,6,7,8,9,10,11,12,13,14],15),([0,1,2,3,4,5,6,7,8,9,10,11,12,13,14,15],16)] 15 ?_ | refine sD tOK tmix [([],1),([],2),([],3),([1,2],0),([0,1,2,3],4),([0,1,2,3,4],5)] 4 ?_ | refine qD _ ?_ ?_)
        refine h _ _ _ ⟨rfl, fun x => ⟨?_, ?_⟩⟩
        · simp
        · simp
      | true =>
        have hc := hm.conf rfl
        rw [okConf_b, decide_eq_true_eq] at hc
        simp only at hc
        rcases Decidable.em (pol.kind = 0) with hk | hk
        · clear key
          have F9 := @hk
          repeat' (first | refine gf ?_ | refine s_seq fun y9 hy9 => ?_ | refine qT _ ?_ ?_ | refine qG _ ?_ ?_ | refine qN ?_ ?_ | (refine QB.mk fun hb9 => ?_; (try simp only [hb9]); (try simp at hb9); first | (exfalso; omega) | subst hb9 | skip) | refine sD tOK tmix [([],0),([0],1),([],2),([],3),([3],4),([],5),([5],6),([],7),([5,6,7],8),([5,6,7,8],9),([],10),([10],11),([],12),([12],13),([3,4,5,6,7,8,9,10,11,12,13],14),([0,1,2,3,4,5,6,7,8,9,10,11,12,13,14],15),([0,1,2,3,4,5,6,7,8,9,10,11,12,13,14,15],16)] 15 ?_ | refine sD tOK tmix [([],1),([],2),([],3),([1,2],0),([0,1,2,3],4),([0,1,2,3,4],5)] 4 ?_ | refine qD _ ?_ ?_ | (refine nZ ?_; refine R_zero ?_) | (apply d_call []; exact rfl; (solve | (conv => lhs; try simp [hk])); (solve | exact rfl | simp); (solve | (conv => lhs; try simp [hk])); intro τ hτ; refine nZ ?_; first | exact R_zero ⟨rfl, rfl⟩))
          simp only [hk, or_true, if_true] at h
          refine h _ _ _ ⟨rfl, fun x => ⟨?_, ?_⟩⟩
          · simp
          · simp
        · cases hb : breachedPr conf pr with
          | false =>
            have cb : ∀ {R : Re → Store → Prop} {σ : Store}, R (.ret (.bool false)) σ → C tE 65 [eConf conf, eProbe pr] σ R := fun h => R_breached (by rw [hb]; exact h)
            simp only [outT, decE, rollO, rollL, decideL, adoptL, hb, if_true, if_false, Bool.false_eq_true, List.nil_append, List.cons_append, List.length_cons, List.length_nil, List.map_cons, List.map_nil, Nat.zero_add, Nat.reduceAdd] at key
            have F9 := @hk
            repeat' (first | refine gf ?_ | refine s_seq fun y9 hy9 => ?_ | refine qT _ ?_ ?_ | refine qG _ ?_ ?_ | refine qN ?_ ?_ | (refine QB.mk fun hb9 => ?_; (try simp only [hb9]); (try simp at hb9); first | (exfalso; omega) | subst hb9 | skip) | refine sD tOK tmix [([],0),([0],1),([],2),([],3),([3],4),([],5),([5],6),([],7),([5,6,7],8),([5,6,7,8],9),([],10),([10],11),([],12),([12],13),([3,4,5,6,7,8,9,10,11,12,13],14),([0,1,2,3,4,5,6,7,8,9,10,11,12,13,14],15),([0,1,2,3,4,5,6,7,8,9,10,11,12,13,14,15],16)] 15 ?_ | refine sD tOK tmix [([],1),([],2),([],3),([1,2],0),([0,1,2,3],4),([0,1,2,3,4],5)] 4 ?_ | refine qD _ ?_ ?_ | (refine nZ ?_; first | refine R_zero ?_ | refine cb ?_ | refine (R_policy b1) ?_ | refine (R_limit (by omega) (by omega) (by omega) (by omega) (by omega) b3.1 b3.2 b4.1 b4.2) ?_) | (apply d_call []; exact rfl; (solve | (conv => lhs; try simp [hk])); (solve | exact rfl | simp); (solve | (conv => lhs; try simp [hk])); intro τ hτ; refine nZ ?_; first | exact R_zero ⟨rfl, rfl⟩ | exact cb ⟨rfl, rfl⟩ | exact (R_policy b1) ⟨rfl, rfl⟩ | exact (R_limit (by omega) (by omega) (by omega) (by omega) (by omega) b3.1 b3.2 b4.1 b4.2) ⟨rfl, rfl⟩))
            refine t_pick tOK [0, 1, 2, 3, 4, 5, 8] [2, 4, 5, 6] (by decide) (by rfl) (by rfl) (by conv => lhs; simp [Fr.keep]) (by conv => lhs; simp [pickS']) (by simp [Fr.keep]) (by simp [pickS']) ?_
            refine T_wk ?_ ?_ (key.down _ _ ⟨0, rfl, trivial, hk, rfl⟩)
            all_goals (repeat' (first | with_reducible exact WkF.refl _ | with_reducible exact WkS.refl _ | with_reducible exact WkB.refl _ | with_reducible exact Wk.refl _ | with_reducible exact WkL.refl _ | exact Wk.nils | refine WkF.cons ?_ ?_ | refine WkS.cons ?_ ?_ | refine WkB.cells ?_ | refine WkL.cons ?_ ?_ | refine Wk.agg ?_ | exact Wk.refl _ | exact WkL.refl _))
          | true =>
            have cb : ∀ {R : Re → Store → Prop} {σ : Store}, R (.ret (.bool true)) σ → C tE 65 [eConf conf, eProbe pr] σ R := fun h => R_breached (by rw [hb]; exact h)
            simp only [outT, decE, rollO, rollL, decideL, adoptL, hb, if_true, if_false, Bool.false_eq_true, List.nil_append, List.cons_append, List.length_cons, List.length_nil, List.map_cons, List.map_nil, Nat.zero_add, Nat.reduceAdd] at key
            have F9 := @hk
            repeat' (first | refine gf ?_ | refine s_seq fun y9 hy9 => ?_ | refine qT _ ?_ ?_ | refine qG _ ?_ ?_ | refine qN ?_ ?_ | (refine QB.mk fun hb9 => ?_; (try simp only [hb9]); (try simp at hb9); first | (exfalso; omega) | subst hb9 | skip) | refine sD tOK tmix [([],0),([0],1),([],2),([],3),([3],4),([],5),([5],6),([],7),([5,6,7],8),([5,6,7,8],9),([],10),([10],11),([],12),([12],13),([3,4,5,6,7,8,9,10,11,12,13],14),([0,1,2,3,4,5,6,7,8,9,10,11,12,13,14],15),([0,1,2,3,4,5,6,7,8,9,10,11,12,13,14,15],16)] 15 ?_ | refine sD tOK tmix [([],1),([],2),([],3),([1,2],0),([0,1,2,3],4),([0,1,2,3,4],5)] 4 ?_ | refine qD _ ?_ ?_ | (refine nZ ?_; first | refine R_zero ?_ | refine cb ?_ | refine (R_fnew b2.len) ?_ | refine (R_policy b2) ?_ | refine (R_limit (by omega) (by omega) (by omega) (by omega) (by omega) b3.1 b3.2 b4.1 b4.2) ?_) | (apply d_call []; exact rfl; (solve | (conv => lhs; try simp [hk])); (solve | exact rfl | simp); (solve | (conv => lhs; try simp [hk])); intro τ hτ; refine nZ ?_; first | exact R_zero ⟨rfl, rfl⟩ | exact cb ⟨rfl, rfl⟩ | exact (R_fnew b2.len) ⟨rfl, rfl⟩ | exact (R_policy b2) ⟨rfl, rfl⟩ | exact (R_limit (by omega) (by omega) (by omega) (by omega) (by omega) b3.1 b3.2 b4.1 b4.2) ⟨rfl, rfl⟩))
            refine t_pick tOK [0, 1, 2, 3, 4, 5, 7] [2, 4, 5, 6] (by decide) (by rfl) (by rfl) (by conv => lhs; simp [Fr.keep]) (by conv => lhs; simp [pickS']) (by simp [Fr.keep]) (by simp [pickS']) ?_
            refine T_wk ?_ ?_ (key.down _ _ ⟨1, rfl, trivial, hk, rfl⟩)
            all_goals (repeat' (first | with_reducible exact WkF.refl _ | with_reducible exact WkS.refl _ | with_reducible exact WkB.refl _ | with_reducible exact Wk.refl _ | with_reducible exact WkL.refl _ | exact Wk.nils | refine WkF.cons ?_ ?_ | refine WkS.cons ?_ ?_ | refine WkB.cells ?_ | refine WkL.cons ?_ ?_ | refine Wk.agg ?_ | exact Wk.refl _ | exact WkL.refl _))
  · clear h
    rw [nowR_eq] at key
    obtain ⟨ins, now, util, dem, set, conf, pol, st, hold, sim, shd, pr⟩ := l
    repeat' (first | refine go ?_ | refine s_seq fun y9 hy9 => ?_ | refine qT _ ?_ ?_ | refine qG _ ?_ ?_ | refine qN ?_ ?_ | (refine QB.mk fun hb9 => ?_; (try simp only [hb9]); (try simp at hb9); first | (exfalso; omega) | subst hb9 | skip) | refine sD tOK tmix [([],0),([0],1),([],2),([],3),([3],4),([],5),([5],6),([],7),([5,6,7],8),([5,6,7,8],9),([],10),([10],11),([],12),([12],13),([3,4,5,6,7,8,9,10,11,12,13],14),([0,1,2,3,4,5,6,7,8,9,10,11,12,13,14],15),([0,1,2,3,4,5,6,7,8,9,10,11,12,13,14,15],16)] 15 ?_ | refine sD tOK tmix [([],1),([],2),([],3),([1,2],0),([0,1,2,3],4),([0,1,2,3,4],5)] 4 ?_ | refine qD _ ?_ ?_)
    refine t_pick tOK [0, 1, 2, 3, 4, 5] [2, 4, 5] (by decide) (by rfl) (by rfl) (by conv => lhs; simp [Fr.keep]) (by conv => lhs; simp [pickS']) (by simp [Fr.keep]) (by simp [pickS']) ?_
    refine T_wk ?_ ?_ (key.down _ _ ⟨rfl, rfl⟩)
    all_goals (repeat' (first | with_reducible exact WkF.refl _ | with_reducible exact WkS.refl _ | with_reducible exact WkB.refl _ | with_reducible exact Wk.refl _ | with_reducible exact WkL.refl _ | exact Wk.nils | refine WkF.cons ?_ ?_ | refine WkS.cons ?_ ?_ | refine WkB.cells ?_ | refine WkL.cons ?_ ?_ | refine Wk.agg ?_ | exact Wk.refl _ | exact WkL.refl _))
end
end Go.Proofs.YtncbfppafgjdiaaGreat
end
