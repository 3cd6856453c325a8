/- Events that are right: the program. -/
import Derived.Test.YtncbfppafgjdiaaGreatXh
import Derived.Test.YtncbfppafgjdiaaGreatXe
section
set_option linter.unusedVariables false
set_option linter.unusedSimpArgs false
set_option maxRecDepth 20000
namespace Go.Proofs.YtncbfppafgjdiaaGreat
open Go
attribute [local irreducible] T TL C RG DP SP YR afterRG DPcall
attribute [-simp] List.map_set
/-- A policy without what is its kind's own. -/
def bareP (p : PolV) : PolV :=
  if p.kind = 1 then { p with kind := 0, target := 0 } else if p.kind = 2 then { p with kind := 0, bands := [] } else if p.kind = 3 then { p with kind := 0, target := 0, kp := 0, ki := 0, kd := 0 }
  else if p.kind = 4 then { p with kind := 0, period := 0, slots := [] } else { p with kind := 0 }
section
variable {R : Re → Store → Prop} {σ : Store}
theorem C_ewi {n a b : Int} (h : R (.ret (.bool (decide (a ≤ n ∧ n ≤ b)))) σ) : C tE 95 [i64 n, i64 a, i64 b] σ R := by
  refine s_body' Tryz.func95 tOK rfl (by conv => lhs; simp) (by conv => lhs; simp) (by conv => lhs; simp [Fr.args]) rfl (by conv => lhs; try simp) fun R9 hR9 => ?_
  repeat' (first | refine go ?_ | refine s_seq fun y9 hy9 => ?_ | refine qT _ ?_ ?_ | refine qG _ ?_ ?_ | refine qN ?_ ?_ | (refine QB.mk fun hb9 => ?_; (try simp only [hb9]); (try simp at hb9); first | (exfalso; omega) | subst hb9 | skip))
  · exact fin_b h (by simp [hb9])
  · exact fin_b h (by simp; omega)
theorem C_ewl {n a b : Int} (h : R (.ret (.bool (decide (a ≤ n ∧ n ≤ b)))) σ) : C tE 98 [i64 n, i64 a, i64 b] σ R := by
  refine s_body' Tryz.func98 tOK rfl (by conv => lhs; simp) (by conv => lhs; simp) (by conv => lhs; simp [Fr.args]) rfl (by conv => lhs; try simp) fun R9 hR9 => ?_
  repeat' (first | refine go ?_ | refine s_seq fun y9 hy9 => ?_ | refine qT _ ?_ ?_ | refine qG _ ?_ ?_ | refine qN ?_ ?_ | (refine QB.mk fun hb9 => ?_; (try simp only [hb9]); (try simp at hb9); first | (exfalso; omega) | subst hb9 | skip))
  · exact fin_b h (by simp [hb9])
  · exact fin_b h (by simp; omega)
theorem C_ezero {p : PolV} (hl : lenP p) (h : R (.ret (.bool (zeroPol p))) σ) : C tE 63 [ePol p] σ R := by
  obtain ⟨l1, l2⟩ := hl
  rw [← zeroPol_eq] at h
  have e1 : ((p.bands.length : Int) + (p.slots.length : Int) = 0) ↔ p.bands = [] ∧ p.slots = [] := by
    constructor
    · intro h; exact ⟨List.eq_nil_of_length_eq_zero (by omega), List.eq_nil_of_length_eq_zero (by omega)⟩
    · rintro ⟨h1, h2⟩; rw [h1, h2]; rfl
  refine C_pure tOK (by simp) ?_
  refine s_body' Tryz.func63 tOK rfl (by conv => lhs; simp) (by conv => lhs; simp) (by conv => lhs; simp [Fr.args]) rfl (by conv => lhs; try simp) fun R9 hR9 => ?_
  repeat' (first | refine go ?_ | refine s_seq fun y9 hy9 => ?_ | refine qT _ ?_ ?_ | refine qG _ ?_ ?_ | refine qN ?_ ?_ | (refine QB.mk fun hb9 => ?_; (try simp only [hb9]); (try simp at hb9); first | (exfalso; omega) | subst hb9 | skip))
  all_goals (refine fin_b h ?_; clear h; simp [noneP, noB, noK, noS, e1, *])
  · obtain ⟨q1, q2⟩ := e1.1 (by assumption)
    rw [Bool.eq_iff_iff]; simp [q1, q2]
  · intro a _ _ _ _ b; exact hb9 (e1.2 ⟨a, b⟩)
theorem C_ebare {p : PolV} (h : R (.ret (ePol (bareP p))) σ) : C tE 115 [ePol p] σ R := by
  unfold bareP at h
  refine C_pure tOK (by simp) ?_
  refine s_body' Tryz.func115 tOK rfl (by conv => lhs; simp) (by conv => lhs; simp) (by conv => lhs; simp [Fr.args]) rfl (by conv => lhs; try simp) fun R9 hR9 => ?_
  repeat' (first | refine go ?_ | refine s_seq fun y9 hy9 => ?_ | refine qT _ ?_ ?_ | refine qG _ ?_ ?_ | refine qN ?_ ?_ | (refine QB.mk fun hb9 => ?_; (try simp only [hb9]); (try simp at hb9); first | (exfalso; omega) | subst hb9 | skip))
  all_goals exact fin_v h (by simp [*])
/-- Bands that rise: the loop of the program. -/
theorem riseB_iff (l : List BandV) : risingB l = true ↔ ∀ k, k < l.length → 0 ≤ (gt l k).above ∧ (gt l k).above ≤ 1000000000 ∧ (0 < k → (gt l (k - 1)).above < (gt l k).above) := by
  unfold risingB
  simp only [Bool.and_eq_true, decide_eq_true_eq, pair_iff, all_gt]
  constructor
  · rintro ⟨h1, h2⟩ k hk; exact ⟨(h1 k hk).1, (h1 k hk).2, fun h0 => h2 k h0 hk⟩
  · intro h; exact ⟨fun k hk => ⟨(h k hk).1, (h k hk).2.1⟩, fun k h0 hk => (h k hk).2.2 h0⟩
theorem C_rise_B {p : PolV} (hl : lenP p) (h : R (.ret (.bool (risingB p.bands))) [some (.cells 30 0 [ePol p])]) : C tE 117 [i64 p.bands.length, i64 0, i64 1000000000, .fn (.func 118) [] [.ptr 0 0 0 []]] [some (.cells 30 0 [ePol p])] R := by
  obtain ⟨l1, l2⟩ := hl
  have hr := riseB_iff p.bands
  generalize risingB p.bands = b at *
  refine s_body' Tryz.func117 tOK rfl (by conv => lhs; simp) (by conv => lhs; simp) (by conv => lhs; simp [Fr.args]) rfl (by conv => lhs; try simp) fun R9 hR9 => ?_
  repeat' (first | refine go ?_ | refine s_seq fun y9 hy9 => ?_ | refine qT _ ?_ ?_ | refine qG _ ?_ ?_ | refine qN ?_ ?_ | (refine QB.mk fun hb9 => ?_; (try simp only [hb9]); (try simp at hb9); first | (exfalso; omega) | subst hb9 | skip))
  refine s_loop fun c9 hc9 => ?_
  refine w_trim 1 [1, 2, 3, 10, 11] (by conv => lhs; simp) (by conv => lhs; simp) (by first | rfl | simp) (by first | rfl | simp) ?_
  refine s_loopn (p.bands.length) (fun j fr σ => fr = [(1, i64 (if j = 0 then 0 else (gt p.bands (j - 1)).above + 1)), (2, i64 1000000000), (3, .fn (.func 118) [] [.ptr 0 0 0 []]), (10, i64 p.bands.length), (11, i64 j)] ∧ σ = [some (.cells 30 0 [ePol p])] ∧ ∀ k, k < j → 0 ≤ (gt p.bands k).above ∧ (gt p.bands k).above ≤ 1000000000 ∧ (0 < k → (gt p.bands (k - 1)).above < (gt p.bands k).above)) ?_ ⟨by simp, by first | rfl | simp, by first | (intros; omega) | simp⟩
  rintro j fr σ hj ⟨rfl, rfl, hS⟩ ih
  refine s_round hc9 ?_
  obtain ⟨lo, hlo⟩ : ∃ lo, (if j = 0 then 0 else (gt p.bands (j - 1)).above + 1) = lo := ⟨_, rfl⟩
  have hlo2 : (0 ≤ (gt p.bands j).above ∧ (0 < j → (gt p.bands (j - 1)).above < (gt p.bands j).above)) ↔ lo ≤ (gt p.bands j).above := by
    rw [← hlo]
    rcases Nat.eq_zero_or_pos j with h0 | h0
    · subst h0; simp
    · rw [if_neg (by omega)]
      have := (hS (j - 1) (by omega)).1
      omega
  rw [hlo]
  repeat' (first | refine go ?_ | refine s_seq fun y9 hy9 => ?_ | refine qT _ ?_ ?_ | refine qG _ ?_ ?_ | refine qN ?_ ?_ | (refine QB.mk fun hb9 => ?_; (try simp only [hb9]); (try simp at hb9); first | (exfalso; omega) | subst hb9 | skip) | refine cE Tryz.func118 tOK fun R9 hR9 => ?_ | (refine nZ ?_; refine C_ewl ?_))
  · refine fin_b h ?_
    cases b with
    | false => rfl
    | true => have := hr.1 rfl j (by assumption); omega
  · refine w_back 1 [1, 2, 3, 10, 11] (by conv => lhs; simp) (by conv => lhs; simp) (by first | rfl | simp) (by first | rfl | simp) ?_
    refine ih (by assumption) _ _ ⟨by simp, rfl, fun k hk => ?_⟩
    rcases Nat.lt_or_ge k j with h2 | h2
    · exact hS k h2
    · have : k = j := by omega
      subst this
      exact ⟨by omega, by omega, (hlo2.2 (by omega)).2⟩
  · have : j = p.bands.length := by omega
    subst this
    exact fin_b h (hr.2 hS)
/-- Slots that rise: the loop of the program. -/
theorem riseS_iff (l : List SlotV) (m : Int) : risingS l m = true ↔ ∀ k, k < l.length → 0 ≤ (gt l k).from_ ∧ (gt l k).from_ ≤ m ∧ (0 < k → (gt l (k - 1)).from_ < (gt l k).from_) := by
  unfold risingS
  simp only [Bool.and_eq_true, decide_eq_true_eq, pair_iff, all_gt]
  constructor
  · rintro ⟨h1, h2⟩ k hk; exact ⟨(h1 k hk).1, (h1 k hk).2, fun h0 => h2 k h0 hk⟩
  · intro h; exact ⟨fun k hk => ⟨(h k hk).1, (h k hk).2.1⟩, fun k h0 hk => (h k hk).2.2 h0⟩
theorem C_rise_S {p : PolV} (hl : lenP p) (hm : p.period ≤ 9223372036854775807) (h : R (.ret (.bool (risingS p.slots (p.period - 1)))) [some (.cells 30 0 [ePol p])]) : C tE 117 [i64 p.slots.length, i64 0, i64 (p.period - 1), .fn (.func 119) [] [.ptr 0 0 0 []]] [some (.cells 30 0 [ePol p])] R := by
  obtain ⟨l1, l2⟩ := hl
  have hr := riseS_iff p.slots (p.period - 1)
  generalize risingS p.slots (p.period - 1) = b at *
  refine s_body' Tryz.func117 tOK rfl (by conv => lhs; simp) (by conv => lhs; simp) (by conv => lhs; simp [Fr.args]) rfl (by conv => lhs; try simp) fun R9 hR9 => ?_
  repeat' (first | refine go ?_ | refine s_seq fun y9 hy9 => ?_ | refine qT _ ?_ ?_ | refine qG _ ?_ ?_ | refine qN ?_ ?_ | (refine QB.mk fun hb9 => ?_; (try simp only [hb9]); (try simp at hb9); first | (exfalso; omega) | subst hb9 | skip))
  refine s_loop fun c9 hc9 => ?_
  refine w_trim 1 [1, 2, 3, 10, 11] (by conv => lhs; simp) (by conv => lhs; simp) (by first | rfl | simp) (by first | rfl | simp) ?_
  refine s_loopn (p.slots.length) (fun j fr σ => fr = [(1, i64 (if j = 0 then 0 else (gt p.slots (j - 1)).from_ + 1)), (2, i64 (p.period - 1)), (3, .fn (.func 119) [] [.ptr 0 0 0 []]), (10, i64 p.slots.length), (11, i64 j)] ∧ σ = [some (.cells 30 0 [ePol p])] ∧ ∀ k, k < j → 0 ≤ (gt p.slots k).from_ ∧ (gt p.slots k).from_ ≤ (p.period - 1) ∧ (0 < k → (gt p.slots (k - 1)).from_ < (gt p.slots k).from_)) ?_ ⟨by simp, by first | rfl | simp, by first | (intros; omega) | simp⟩
  rintro j fr σ hj ⟨rfl, rfl, hS⟩ ih
  refine s_round hc9 ?_
  obtain ⟨lo, hlo⟩ : ∃ lo, (if j = 0 then 0 else (gt p.slots (j - 1)).from_ + 1) = lo := ⟨_, rfl⟩
  have hlo2 : (0 ≤ (gt p.slots j).from_ ∧ (0 < j → (gt p.slots (j - 1)).from_ < (gt p.slots j).from_)) ↔ lo ≤ (gt p.slots j).from_ := by
    rw [← hlo]
    rcases Nat.eq_zero_or_pos j with h0 | h0
    · subst h0; simp
    · rw [if_neg (by omega)]
      have := (hS (j - 1) (by omega)).1
      omega
  rw [hlo]
  repeat' (first | refine go ?_ | refine s_seq fun y9 hy9 => ?_ | refine qT _ ?_ ?_ | refine qG _ ?_ ?_ | refine qN ?_ ?_ | (refine QB.mk fun hb9 => ?_; (try simp only [hb9]); (try simp at hb9); first | (exfalso; omega) | subst hb9 | skip) | refine cE Tryz.func119 tOK fun R9 hR9 => ?_ | (refine nZ ?_; refine C_ewl ?_))
  · refine fin_b h ?_
    cases b with
    | false => rfl
    | true => have := hr.1 rfl j (by assumption); omega
  · refine w_back 1 [1, 2, 3, 10, 11] (by conv => lhs; simp) (by conv => lhs; simp) (by first | rfl | simp) (by first | rfl | simp) ?_
    refine ih (by assumption) _ _ ⟨by simp, rfl, fun k hk => ?_⟩
    rcases Nat.lt_or_ge k j with h2 | h2
    · exact hS k h2
    · have : k = j := by omega
      subst this
      exact ⟨by omega, by omega, (hlo2.2 (by omega)).2⟩
  · have : j = p.slots.length := by omega
    subst this
    exact fin_b h (hr.2 hS)
theorem C_epol {p : PolV} (hl : lenP p) (h : R (.ret (.bool (okPol p))) σ) : C tE 96 [ePol p] σ R := by
  have hb := hl.1; have hs := hl.2
  have hlb : lenP (bareP p) := by
    unfold bareP
    repeat' split
    all_goals exact ⟨by simp only [List.length_nil]; omega, by simp only [List.length_nil]; omega⟩
  have cz : ∀ {R : Re → Store → Prop} {σ : Store}, R (.ret (.bool (zeroPol (bareP p)))) σ → C tE 63 [ePol (bareP p)] σ R := fun h => C_ezero hlb h
  refine C_pure tOK (by simp) ?_
  have hk5 : p.kind = 1 ∨ p.kind = 2 ∨ p.kind = 3 ∨ p.kind = 4 ∨ (¬ p.kind = 1 ∧ ¬ p.kind = 2 ∧ ¬ p.kind = 3 ∧ ¬ p.kind = 4) := by omega
  rcases hk5 with hk | hk | hk | hk | ⟨g1, g2, g3, g4⟩
  · have hz : zeroPol (bareP p) = (noB p && noK p && noS p) := by rw [← zeroPol_eq]; simp [bareP, hk, noneP, noB, noK, noS]
    unfold okPol at h
    rw [if_pos hk, wth_b, Bool.and_assoc, Bool.and_assoc, ← Bool.and_assoc (noB p), ← hz] at h
    clear hz
    generalize zeroPol (bareP p) = z at *
    refine s_body' Tryz.func96 tOK rfl (by conv => lhs; simp) (by conv => lhs; simp) (by conv => lhs; simp [Fr.args]) rfl (by conv => lhs; try simp) fun R9 hR9 => ?_
    have F9 := @hk
    repeat' (first | refine gf ?_ | refine s_seq fun y9 hy9 => ?_ | refine qT _ ?_ ?_ | refine qG _ ?_ ?_ | refine qN ?_ ?_ | (refine QB.mk fun hb9 => ?_; (try simp only [hb9]); (try simp at hb9); first | (exfalso; omega) | subst hb9 | skip) | (refine nZ ?_; first | refine C_ebare ?_ | refine cz ?_ | refine C_ewl ?_))
    all_goals exact fin_b h (by simp [*])
  · have hz : zeroPol (bareP p) = (decide (p.target = 0) && noK p && noS p) := by rw [← zeroPol_eq]; simp [bareP, hk, noneP, noB, noK, noS]
    unfold okPol at h
    rw [if_neg (by omega), if_pos hk] at h
    have h2 : ((risingB p.bands && (p.bands.all fun b => wth b.delta (-1000) 1000) && wth p.bands.length 1 8 && decide (p.target = 0) && noK p && noS p)) = (zeroPol (bareP p) && (p.bands.all fun b => wth b.delta (-1000) 1000) && decide (1 ≤ (p.bands.length : Int) ∧ (p.bands.length : Int) ≤ 8) && risingB p.bands) := by
      rw [hz, ← wth_b, Bool.eq_iff_iff]; simp only [Bool.and_eq_true]
      constructor
      · rintro ⟨⟨⟨⟨⟨a, b⟩, c⟩, d⟩, e⟩, f⟩; exact ⟨⟨⟨⟨⟨d, e⟩, f⟩, b⟩, c⟩, a⟩
      · rintro ⟨⟨⟨⟨⟨d, e⟩, f⟩, b⟩, c⟩, a⟩; exact ⟨⟨⟨⟨⟨a, b⟩, c⟩, d⟩, e⟩, f⟩
    rw [h2] at h
    clear h2 hz
    have hA := all_gt p.bands fun b => wth b.delta (-1000) 1000
    simp only [wth_b, decide_eq_true_eq] at hA h
    generalize zeroPol (bareP p) = z at *
    generalize (p.bands.all fun b => decide (-1000 ≤ b.delta ∧ b.delta ≤ 1000)) = A at *
    refine s_body' Tryz.func96 tOK rfl (by conv => lhs; simp) (by conv => lhs; simp) (by conv => lhs; simp [Fr.args]) rfl (by conv => lhs; try simp) fun R9 hR9 => ?_
    have F9 := @hk
    repeat' (first | refine gf ?_ | refine s_seq fun y9 hy9 => ?_ | refine qT _ ?_ ?_ | refine qG _ ?_ ?_ | refine qN ?_ ?_ | (refine QB.mk fun hb9 => ?_; (try simp only [hb9]); (try simp at hb9); first | (exfalso; omega) | subst hb9 | skip) | (refine nZ ?_; first | refine C_ebare ?_ | refine cz ?_ | refine C_ewl ?_))
    · exact fin_b h (by simp)
    · refine s_loop fun c9 hc9 => ?_
      refine w_trim 1 [1, 22, 23, 24] (by conv => lhs; simp) (by conv => lhs; simp) (by first | rfl | simp) (by first | rfl | simp) ?_
      refine s_loopn (p.bands.length) (fun j fr σ => fr = [(1, .ptr 0 0 0 []), (22, .lit (p.bands.map eBand)), (23, i64 p.bands.length), (24, i64 j)] ∧ σ = [some (.cells 30 0 [ePol p])] ∧ ∀ k, k < j → -1000 ≤ (gt p.bands k).delta ∧ (gt p.bands k).delta ≤ 1000) ?_ ⟨by simp, by first | rfl | simp, by first | (intros; omega) | simp⟩
      rintro j fr σ hj ⟨rfl, rfl, hS⟩ ih
      refine s_round hc9 ?_
      repeat' (first | refine go ?_ | refine s_seq fun y9 hy9 => ?_ | refine qT _ ?_ ?_ | refine qG _ ?_ ?_ | refine qN ?_ ?_ | (refine QB.mk fun hb9 => ?_; (try simp only [hb9]); (try simp at hb9); first | (exfalso; omega) | subst hb9 | skip) | (refine nZ ?_; first | refine C_ewi ?_ | refine (C_rise_B hl) ?_))
      · have hAf : A = false := by
          cases A with
          | false => rfl
          | true => have := hA.1 rfl j (by assumption); omega
        exact fin_b h (by rw [hAf]; simp)
      · refine w_back 1 [1, 22, 23, 24] (by conv => lhs; simp) (by conv => lhs; simp) (by first | rfl | simp) (by first | rfl | simp) ?_
        refine ih (by assumption) _ _ ⟨by simp, rfl, fun k hk => ?_⟩
        rcases Nat.lt_or_ge k j with h2 | h2
        · exact hS k h2
        · have : k = j := by omega
          subst this; exact hb9
      · have hAt : A = true := hA.2 fun k hk => hS k (by omega)
        exact fin_b h (by rw [hAt, decide_eq_true hb9]; simp)
      · exact fin_b h (by rw [decide_eq_false (by omega)]; simp)
  · have hz : zeroPol (bareP p) = (noB p && noS p) := by rw [← zeroPol_eq]; simp [bareP, hk, noneP, noB, noK, noS]
    unfold okPol at h
    rw [if_neg (by omega), if_neg (by omega), if_pos hk] at h
    simp only [wth_b] at h
    rw [Bool.and_assoc, ← hz] at h
    clear hz
    generalize zeroPol (bareP p) = z at *
    refine s_body' Tryz.func96 tOK rfl (by conv => lhs; simp) (by conv => lhs; simp) (by conv => lhs; simp [Fr.args]) rfl (by conv => lhs; try simp) fun R9 hR9 => ?_
    have F9 := @hk
    repeat' (first | refine gf ?_ | refine s_seq fun y9 hy9 => ?_ | refine qT _ ?_ ?_ | refine qG _ ?_ ?_ | refine qN ?_ ?_ | (refine QB.mk fun hb9 => ?_; (try simp only [hb9]); (try simp at hb9); first | (exfalso; omega) | subst hb9 | skip) | refine cE Tryz.func116 tOK fun R9 hR9 => ?_ | (refine nZ ?_; first | refine C_ebare ?_ | refine cz ?_ | refine C_ewl ?_))
    all_goals exact fin_b h (by first | (simp [*]; done) | (rw [Bool.eq_iff_iff]; simp; omega))
  · have hz : zeroPol (bareP p) = (decide (p.target = 0) && noB p && noK p) := by rw [← zeroPol_eq]; simp [bareP, hk, noneP, noB, noK, noS]
    have hh : p.slots.headD ⟨0, 0⟩ = gt p.slots 0 := by cases p.slots <;> rfl
    unfold okPol at h
    rw [if_neg (by omega), if_neg (by omega), if_neg (by omega), if_pos hk, hh] at h
    have h2 : (risingS p.slots (p.period - 1) && (p.slots.all fun b => wth b.n 0 1000) && wth p.slots.length 1 8 && wth p.period 1 1099511627776 && decide ((gt p.slots 0).from_ = 0) && decide (p.target = 0) && noB p && noK p) = (zeroPol (bareP p) && (p.slots.all fun b => wth b.n 0 1000) && decide (1 ≤ (p.slots.length : Int) ∧ (p.slots.length : Int) ≤ 8) && decide (1 ≤ p.period ∧ p.period ≤ 1099511627776) && decide ((gt p.slots 0).from_ = 0) && risingS p.slots (p.period - 1)) := by
      rw [hz, ← wth_b, ← wth_b, Bool.eq_iff_iff]; simp only [Bool.and_eq_true]
      constructor
      · rintro ⟨⟨⟨⟨⟨⟨⟨a, b⟩, c⟩, d⟩, e⟩, f⟩, g⟩, h⟩; exact ⟨⟨⟨⟨⟨⟨⟨f, g⟩, h⟩, b⟩, c⟩, d⟩, e⟩, a⟩
      · rintro ⟨⟨⟨⟨⟨⟨⟨f, g⟩, h⟩, b⟩, c⟩, d⟩, e⟩, a⟩; exact ⟨⟨⟨⟨⟨⟨⟨a, b⟩, c⟩, d⟩, e⟩, f⟩, g⟩, h⟩
    rw [h2] at h
    clear h2 hz hh
    have hA := all_gt p.slots fun b => wth b.n 0 1000
    simp only [wth_b, decide_eq_true_eq] at hA h
    generalize zeroPol (bareP p) = z at *
    generalize (p.slots.all fun b => decide (0 ≤ b.n ∧ b.n ≤ 1000)) = A at *
    refine s_body' Tryz.func96 tOK rfl (by conv => lhs; simp) (by conv => lhs; simp) (by conv => lhs; simp [Fr.args]) rfl (by conv => lhs; try simp) fun R9 hR9 => ?_
    have F9 := @hk
    repeat' (first | refine gf ?_ | refine s_seq fun y9 hy9 => ?_ | refine qT _ ?_ ?_ | refine qG _ ?_ ?_ | refine qN ?_ ?_ | (refine QB.mk fun hb9 => ?_; (try simp only [hb9]); (try simp at hb9); first | (exfalso; omega) | subst hb9 | skip) | (refine nZ ?_; first | refine C_ebare ?_ | refine cz ?_ | refine C_ewl ?_))
    · exact fin_b h (by simp)
    · refine s_loop fun c9 hc9 => ?_
      refine w_trim 1 [1, 70, 71, 72] (by conv => lhs; simp) (by conv => lhs; simp) (by first | rfl | simp) (by first | rfl | simp) ?_
      refine s_loopn (p.slots.length) (fun j fr σ => fr = [(1, .ptr 0 0 0 []), (70, .lit (p.slots.map eSlot)), (71, i64 p.slots.length), (72, i64 j)] ∧ σ = [some (.cells 30 0 [ePol p])] ∧ ∀ k, k < j → 0 ≤ (gt p.slots k).n ∧ (gt p.slots k).n ≤ 1000) ?_ ⟨by simp, by first | rfl | simp, by first | (intros; omega) | simp⟩
      rintro j fr σ hj ⟨rfl, rfl, hS⟩ ih
      refine s_round hc9 ?_
      repeat' (first | refine go ?_ | refine s_seq fun y9 hy9 => ?_ | refine qT _ ?_ ?_ | refine qG _ ?_ ?_ | refine qN ?_ ?_ | (refine QB.mk fun hb9 => ?_; (try simp only [hb9]); (try simp at hb9); first | (exfalso; omega) | subst hb9 | skip) | (refine nZ ?_; first | refine C_ewi ?_ | refine C_ewl ?_ | refine (C_rise_S hl (by omega)) ?_))
      · have hAf : A = false := by
          cases A with
          | false => rfl
          | true => have := hA.1 rfl j (by assumption); omega
        exact fin_b h (by rw [hAf]; simp)
      · refine w_back 1 [1, 70, 71, 72] (by conv => lhs; simp) (by conv => lhs; simp) (by first | rfl | simp) (by first | rfl | simp) ?_
        refine ih (by assumption) _ _ ⟨by simp, rfl, fun k hk => ?_⟩
        rcases Nat.lt_or_ge k j with h2 | h2
        · exact hS k h2
        · have : k = j := by omega
          subst this; exact hb9
      · have hAt : A = true := hA.2 fun k hk => hS k (by omega)
        exact fin_b h (by rw [hAt, decide_eq_true hb9, decide_eq_true (by assumption), decide_eq_true (by assumption)]; simp)
      · exact fin_b h (by rw [decide_eq_false hb9]; simp)
      · exact fin_b h (by rw [decide_eq_false (p := 1 ≤ p.period ∧ p.period ≤ 1099511627776) (by omega)]; simp)
      · exact fin_b h (by rw [decide_eq_false (p := 1 ≤ (p.slots.length : Int) ∧ (p.slots.length : Int) ≤ 8) (by omega)]; simp)
  · unfold okPol at h
    rw [if_neg g1, if_neg g2, if_neg g3, if_neg g4] at h
    refine s_body' Tryz.func96 tOK rfl (by conv => lhs; simp) (by conv => lhs; simp) (by conv => lhs; simp [Fr.args]) rfl (by conv => lhs; try simp) fun R9 hR9 => ?_
    have F9 := And.intro @g1 <| And.intro @g2 <| And.intro @g3 <| @g4
    repeat' (first | refine gf ?_ | refine s_seq fun y9 hy9 => ?_ | refine qT _ ?_ ?_ | refine qG _ ?_ ?_ | refine qN ?_ ?_ | (refine QB.mk fun hb9 => ?_; (try simp only [hb9]); (try simp at hb9); first | (exfalso; omega) | subst hb9 | skip) | (refine nZ ?_; first | refine C_ebare ?_ | refine cz ?_ | refine C_ewl ?_))
    all_goals exact h
theorem okConf_b (c : ConfV) : okConf c = decide (1 ≤ c.min ∧ c.min ≤ c.max ∧ c.max ≤ 1000 ∧ 1 ≤ c.rate ∧ c.rate ≤ 1000 ∧ 0 ≤ c.stable ∧ c.stable ≤ 1099511627776 ∧ 1 ≤ c.cap ∧ c.cap ≤ 1000000 ∧ 0 ≤ c.delay ∧ c.delay ≤ 8 ∧ 0 ≤ c.slack ∧ c.slack ≤ 1000000000 ∧
    1 ≤ c.window ∧ c.window ≤ 32 ∧ 0 ≤ c.margin ∧ c.margin ≤ 1000000000 ∧ 0 ≤ c.ceil ∧ c.ceil ≤ 32 ∧ 1 ≤ c.probe ∧ c.probe ≤ 32 ∧ 0 ≤ c.breach ∧ c.breach ≤ 32) := by
  rw [Bool.eq_iff_iff]
  simp only [okConf, wth, Bool.and_eq_true, decide_eq_true_eq]
  omega
theorem C_econf {c : ConfV} (h : R (.ret (.bool (okConf c))) σ) : C tE 97 [eConf c] σ R := by
  rw [okConf_b] at h
  refine C_pure tOK (by simp) ?_
  refine s_body' Tryz.func97 tOK rfl (by conv => lhs; simp) (by conv => lhs; simp) (by conv => lhs; simp [Fr.args]) rfl (by conv => lhs; try simp) fun R9 hR9 => ?_
  repeat' (first | refine go ?_ | refine s_seq fun y9 hy9 => ?_ | refine qT _ ?_ ?_ | refine qG _ ?_ ?_ | refine qN ?_ ?_ | (refine QB.mk fun hb9 => ?_; (try simp only [hb9]); (try simp at hb9); first | (exfalso; omega) | subst hb9 | skip) | (refine nZ ?_; first | refine C_ewi ?_ | refine C_ewl ?_))
  all_goals exact fin_b h (by first | exact decide_eq_decide.2 (by omega) | exact decide_eq_false (by omega) | (rw [Bool.eq_iff_iff]; simp; omega))
end
end Go.Proofs.YtncbfppafgjdiaaGreat
end
section
/- Events that are right: the program, the whole. -/
set_option linter.unusedVariables false
set_option linter.unusedSimpArgs false
set_option maxRecDepth 20000
namespace Go.Proofs.YtncbfppafgjdiaaGreat
open Go
attribute [local irreducible] T TL C RG DP SP YR afterRG DPcall
attribute [-simp] List.map_set
/-- What is left of an event without what is its kind's own, and whether that is right. -/
def leftE (e : EvV) : EvV × Bool :=
  if e.kind = 1 then ({ e with util := 0, demand := 0 }, true) else if e.kind = 2 then ({ e with t := 0 }, true)
  else if e.kind = 3 then ({ e with id := 0, pol := {} }, decide (0 ≤ e.id ∧ e.id ≤ 3) && (okPol e.pol || decide (e.id ≠ 0) && zeroPol e.pol))
  else if e.kind = 4 then ({ e with conf := {} }, okConf e.conf)
  else if e.kind = 5 then ({ e with t := 0, n := 0 }, decide (0 ≤ e.t ∧ e.t ≤ 1099511627776) && decide (0 ≤ e.n ∧ e.n ≤ 1000))
  else if e.kind = 6 ∨ e.kind = 7 then ({ e with id := 0 }, decide (0 ≤ e.id ∧ e.id ≤ 3))
  else if e.kind = 8 then ({ e with body := [] }, decide (e.body.length ≤ 1700)) else (e, false)
section
variable {R : Re → Store → Prop} {σ : Store}
theorem C_eleft {e : EvV} (hl : lenE e) (h : R (.ret (.tup [eEv (leftE e).1, .bool (leftE e).2])) σ) : C tE 62 [eEv e] σ R := by
  obtain ⟨l1, l2⟩ := hl
  unfold leftE at h
  have hbe : (((u8l e.body).length : Nat) : Int) = (e.body.length : Int) := by simp [u8l]
  refine C_pure tOK (by simp) ?_
  refine s_body' Tryz.func62 tOK rfl (by conv => lhs; simp) (by conv => lhs; simp) (by conv => lhs; simp [Fr.args]) rfl (by conv => lhs; try simp) fun R9 hR9 => ?_
  have F9 := @hbe
  repeat' (first | refine gf ?_ | refine s_seq fun y9 hy9 => ?_ | refine qT _ ?_ ?_ | refine qG _ ?_ ?_ | refine qN ?_ ?_ | (refine QB.mk fun hb9 => ?_; (try simp only [hb9]); (try simp at hb9); first | (exfalso; omega) | subst hb9 | skip) | (refine nZ ?_; first | refine C_ewi ?_ | refine C_ewl ?_ | refine (C_epol l1) ?_ | refine (C_ezero l1) ?_ | refine C_econf ?_))
  all_goals (refine fin_v h ?_; clear h; simp [*]; try first | exact ⟨rfl, by omega⟩ | (intros; omega) | (intros; exfalso; omega))
theorem right_left (e : EvV) : okEv e = ((leftE e).2 && decide ((leftE e).1.util = 0) && decide ((leftE e).1.demand = 0) && decide ((leftE e).1.t = 0) && decide ((leftE e).1.id = 0) && decide ((leftE e).1.n = 0) && zeroPol (leftE e).1.pol && decide ((leftE e).1.conf = {}) && (leftE e).1.body.isEmpty) := by
  rw [okEv_eq]
  obtain ⟨k, u, d, t, i, n, p, c, b⟩ := e
  unfold rightR leftE
  simp only
  have hb : b.isEmpty = decide (b = []) := by cases b <;> simp
  by_cases h1 : k = 1
  · subst h1; rw [Bool.eq_iff_iff]; simp [hb, zeroPol]; try (constructor <;> intro h <;> simp_all)
  · by_cases h2 : k = 2
    · subst h2; rw [Bool.eq_iff_iff]; simp [hb, zeroPol]; try (constructor <;> intro h <;> simp_all)
    · by_cases h3 : k = 3
      · subst h3; rw [Bool.eq_iff_iff]; simp [hb, zeroPol]; intros; simp only [and_assoc, and_comm, and_left_comm]
      · by_cases h4 : k = 4
        · subst h4; rw [Bool.eq_iff_iff]; simp [hb, zeroPol]; intros; simp only [and_assoc, and_comm, and_left_comm]
        · by_cases h5 : k = 5
          · subst h5; rw [Bool.eq_iff_iff]; simp [hb, zeroPol]; try (constructor <;> intro h <;> simp_all)
          · by_cases h6 : k = 6
            · subst h6; rw [Bool.eq_iff_iff]; simp [hb, zeroPol]; try (constructor <;> intro h <;> simp_all)
            · by_cases h7 : k = 7
              · subst h7; rw [Bool.eq_iff_iff]; simp [hb, zeroPol]; try (constructor <;> intro h <;> simp_all)
              · by_cases h8 : k = 8
                · subst h8; rw [Bool.eq_iff_iff]; simp [hb, zeroPol]; try (constructor <;> intro h <;> simp_all)
                · simp [h1, h2, h3, h4, h5, h6, h7, h8]
theorem C_eright {e : EvV} (hl : lenE e) (h : R (.ret (.bool (okEv e))) σ) : C tE 35 [eEv e] σ R := by
  have hl' : lenE (leftE e).1 := by
    obtain ⟨⟨a, b⟩, c⟩ := hl
    unfold leftE
    repeat' split
    all_goals exact ⟨⟨by first | exact a | (simp only [List.length_nil]; omega), by first | exact b | (simp only [List.length_nil]; omega)⟩, by first | exact c | (simp only [List.length_nil]; omega)⟩
  rw [right_left] at h
  have cl : ∀ {R : Re → Store → Prop} {σ : Store}, R (.ret (.tup [eEv (leftE e).1, .bool (leftE e).2])) σ → C tE 62 [eEv e] σ R := fun h => C_eleft hl h
  generalize (leftE e).1 = x at *
  generalize (leftE e).2 = b at *
  obtain ⟨l1, l2⟩ := hl'
  have cz := cz_iff x.conf
  have hbe : (((u8l x.body).length : Nat) : Int) = (x.body.length : Int) := by simp [u8l]
  have hbe2 := len_emp x.body
  refine C_pure tOK (by simp) ?_
  refine s_body' Tryz.func35 tOK rfl (by conv => lhs; simp) (by conv => lhs; simp) (by conv => lhs; simp [Fr.args]) rfl (by conv => lhs; try simp) fun R9 hR9 => ?_
  have F9 := @hbe
  repeat' (first | refine gf ?_ | refine s_seq fun y9 hy9 => ?_ | refine qT _ ?_ ?_ | refine qG _ ?_ ?_ | refine qN ?_ ?_ | (refine QB.mk fun hb9 => ?_; (try simp only [hb9]); (try simp at hb9); first | (exfalso; omega) | subst hb9 | skip) | (refine nZ ?_; first | refine cl ?_ | refine (C_ezero l1) ?_))
  all_goals (refine fin_b h ?_; clear h cl; simp [cz, hbe, hbe2, *]; try (intros; exfalso; omega))
  all_goals fail
end
end Go.Proofs.YtncbfppafgjdiaaGreat
end
section
/- Policies that run by themselves: a step. -/
set_option linter.unusedVariables false
set_option linter.unusedSimpArgs false
set_option maxRecDepth 20000
namespace Go.Proofs.YtncbfppafgjdiaaGreat
open Go
attribute [local irreducible] T TL C RG DP SP YR afterRG DPcall
attribute [-simp] List.map_set
/-- A policy that runs, as it may be. -/
structure okSim (x : SimV) : Prop where
  ask : ¬ x.pol.kind = 0 → askP x.pol
  len : lenS x
  pl : okPl x.plant
  l0 : 0 ≤ x.hold.last
  l1 : x.hold.last ≤ 1099511627776
section
variable {R : Re → Store → Prop} {σ : Store}
set_option maxHeartbeats 4000000 in
theorem C_fstep {c : ConfV} {x : SimV} {demand now : Int} (hc : okConf c = true) (hx : okSim x) (n0 : 0 ≤ now) (n1 : now ≤ 1099511627776) (h : R (.ret (eSim (stepSim c x demand now))) σ) : C tE 109 [eConf c, eSim x, i64 demand, i64 now] σ R := by
  rw [okConf_b, decide_eq_true_eq] at hc
  obtain ⟨ask, len, pl, l0, l1⟩ := hx
  unfold stepSim at h
  simp only at h
  refine C_pure tOK (by simp) ?_
  rcases Decidable.em (x.pol.kind = 0) with hk | hk
  · rw [if_pos hk] at h
    refine s_body' Tryz.func109 tOK rfl (by conv => lhs; simp) (by conv => lhs; simp) (by conv => lhs; simp [Fr.args]) rfl (by conv => lhs; try simp) fun R9 hR9 => ?_
    have F9 := @hk
    repeat' (first | refine gf ?_ | refine s_seq fun y9 hy9 => ?_ | refine qT _ ?_ ?_ | refine qG _ ?_ ?_ | refine qN ?_ ?_ | (refine QB.mk fun hb9 => ?_; (try simp only [hb9]); (try simp at hb9); first | (exfalso; omega) | subst hb9 | skip) | refine sD tOK tmix [([],1),([0],2),([],3),([],4),([0,1,2,3],5),([0,1,2,3,4],0),([0,1,2,3,4,5],6)] 4 ?_ | refine qD _ ?_ ?_ | (refine nZ ?_; first | refine (C_fown len) ?_ | refine C_zero ?_) | (apply d_call []; exact rfl; (solve | (conv => lhs; try simp [hk])); (solve | exact rfl | simp); (solve | (conv => lhs; try simp [hk])); intro τ hτ; refine nZ ?_; first | exact (C_fown len) ⟨rfl, rfl⟩ | exact C_zero ⟨rfl, rfl⟩))
    exact fin_v h (by simp [hk])
  · rw [if_neg hk] at h
    have hp := ask hk
    have hml := len.2.2
    refine s_body' Tryz.func109 tOK rfl (by conv => lhs; simp) (by conv => lhs; simp) (by conv => lhs; simp [Fr.args]) rfl (by conv => lhs; try simp) fun R9 hR9 => ?_
    have F9 := @hk
    repeat' (first | refine gf ?_ | refine s_seq fun y9 hy9 => ?_ | refine qT _ ?_ ?_ | refine qG _ ?_ ?_ | refine qN ?_ ?_ | (refine QB.mk fun hb9 => ?_; (try simp only [hb9]); (try simp at hb9); first | (exfalso; omega) | subst hb9 | skip) | refine sD tOK tmix [([],1),([0],2),([],3),([],4),([0,1,2,3],5),([0,1,2,3,4],0),([0,1,2,3,4,5],6)] 4 ?_ | refine sD tOK tmix [([],1),([0],2),([0,1],3),([0,1,2],4),([0,1,2,3],5),([],6),([5],7),([5,6],8),([5,6,7],9),([5,6,7,8],10),([],11),([10],12),([10,11],13),([10,11,12],14),([],15),([14],16),([14,15],17),([14,15,16],18),([14,15,16,17],19),([10,11,12,13,14,15,16,17,18],20),([10,11,12,13,14,15,16,17,18,19],21),([],22),([21],23),([21,22],24),([21,22,23],25),([21,22,23,24],26),([21,22,23,24,25],27),([],28),([27],29),([27,28],30),([27,28,29],31),([0,1,2,3,4,5,6,7,8,9,10,11,12,13,14,15,16,17,18,19,20,21,22,23,24,25,26,27,28,29,30],32),([0,1,2,3,4,5,6,7,8,9,10,11,12,13,14,15,16,17,18,19,20,21,22,23,24,25,26,27,28,29,30,31],33),([0,1,2,3,4,5,6,7,8,9,10,11,12,13,14,15,16,17,18,19,20,21,22,23,24,25,26,27,28,29,30,31,32],34),([0,1,2,3,4,5,6,7,8,9,10,11,12,13,14,15,16,17,18,19,20,21,22,23,24,25,26,27,28,29,30,31,32],35),([],0),([0,1,2,3,4,5,6,7,8,9,10,11,12,13,14,15,16,17,18,19,20,21,22,23,24,25,26,27,28,29,30,31,32,33,35],36),([0,1,2,3,4,5,6,7,8,9,10,11,12,13,14,15,16,17,18,19,20,21,22,23,24,25,26,27,28,29,30,31,32,33,34,35,36],37)] 37 ?_ | refine sD tOK tmix [([],0),([],1),([1],2),([1,2],3),([1,2,3],4),([],5),([5],6),([5,6],7),([5,6,7],8),([5,6,7,8],9),([],10),([],11),([11],12),([11,12],13),([11,12,13],14),([1,2,3,4,5,6,7,8,9,10,11,12,13,14],15),([0,1,2,3,4,5,6,7,8,9,10,11,12,13,14,15],16),([0,1,2,3,4,5,6,7,8,9,10,11,12,13,14,15,16],17),([0,1,2,3,4,5,6,7,8,9,10,11,12,13,14,15,16,17],18),([0,1,2,3,4,5,6,7,8,9,10,11,12,13,14,15,16,17,18],19)] 16 ?_ | refine sD tOK tmix [([],2),([0],3),([0,1],4),([0,1,2],5),([],6),([4],7),([4,5],8),([4,5,6],9),([4,5,6,7],10),([],11),([9],12),([9,10],13),([9,10,11],14),([9,10,11,12],15),([9,10,11,12,13],16),([],17),([0,1,2,3,4,5,6,7,8,9,10,11,12,13,14,15],18),([0,1,2,3,4,5,6,7,8,9,10,11,12,13,14,15,16],19),([0,1,2,3,4,5,6,7,8,9,10,11,12,13,14,15,16,17],20),([0,1,2,3,4,5,6,7,8,9,10,11,12,13,14,15,16,17],21),([],0),([],1),([0,1,2,3,4,5,6,7,8,9,10,11,12,13,14,15,16,17,18,20,21],22),([0,1,2,3,4,5,6,7,8,9,10,11,12,13,14,15,16,17,18,19,20,21,22],23)] 23 ?_ | refine sD tOK tmix [([],0),([],1),([],2),([],3),([3],4),([3,4],5),([3,4,5],6),([3,4,5,6],7),([],8),([8],9),([8,9],10),([8,9,10],11),([8,9,10,11],12),([],13),([3,4,5,6,7,8,9,10,11,12,13],14),([0,2,3,4,5,6,7,8,9,10,11,12,13,14],15),([0,2,3,4,5,6,7,8,9,10,11,12,13,14,15],16),([0,2,3,4,5,6,7,8,9,10,11,12,13,14,15,16],17),([0,2,3,4,5,6,7,8,9,10,11,12,13,14,15,16,17],18),([0,1,2,3,4,5,6,7,8,9,10,11,12,13,14,15,16,17,18],19),([0,1,2,3,4,5,6,7,8,9,10,11,12,13,14,15,16,17,18,19],20),([0,1,2,3,4,5,6,7,8,9,10,11,12,13,14,15,16,17,18,19,20],21),([0,1,2,3,4,5,6,7,8,9,10,11,12,13,14,15,16,17,18,19,20,21],22)] 19 ?_ | refine qD _ ?_ ?_ | refine cE Tryz.func125 tOK fun R9 hR9 => ?_ | refine cE Tryz.func124 tOK fun R9 hR9 => ?_ | (refine nZ ?_; first | refine (C_fown len) ?_ | refine C_zero ?_ | refine (C_policy hp) ?_ | refine C_linto ?_ | refine (C_lnext (by omega) (by omega) (by omega) (by omega) (by omega) (by omega) n0 n1 l0 l1) ?_ | refine (C_pstep pl (by omega) (by omega) (by omega) (by omega)) ?_ | refine (C_addM hml (by omega) (by omega)) ?_) | (apply d_call []; exact rfl; (solve | (conv => lhs; try simp [hk])); (solve | exact rfl | simp); (solve | (conv => lhs; try simp [hk])); intro τ hτ; refine nZ ?_; first | exact (C_fown len) ⟨rfl, rfl⟩ | exact C_zero ⟨rfl, rfl⟩ | exact (C_policy hp) ⟨rfl, rfl⟩ | exact C_linto ⟨rfl, rfl⟩ | exact (C_lnext (by omega) (by omega) (by omega) (by omega) (by omega) (by omega) n0 n1 l0 l1) ⟨rfl, rfl⟩ | exact (C_pstep pl (by omega) (by omega) (by omega) (by omega)) ⟨rfl, rfl⟩ | exact (C_addM hml (by omega) (by omega)) ⟨rfl, rfl⟩))
    exact h
set_option maxHeartbeats 4000000 in
theorem R_fstep {c : ConfV} {x : SimV} {demand now : Int} (hc : okConf c = true) (hx : okSim x) (n0 : 0 ≤ now) (n1 : now ≤ 1099511627776) (h : R (.ret (eSim (stepSim c x demand now))) σ) : C tE 20 [eConf c, eSim x, i64 demand, i64 now] σ R := by
  rw [okConf_b, decide_eq_true_eq] at hc
  obtain ⟨ask, len, pl, l0, l1⟩ := hx
  unfold stepSim at h
  simp only at h
  refine C_pure tOK (by simp) ?_
  rcases Decidable.em (x.pol.kind = 0) with hk | hk
  · rw [if_pos hk] at h
    refine s_body' Tryz.func20 tOK rfl (by conv => lhs; simp) (by conv => lhs; simp) (by conv => lhs; simp [Fr.args]) rfl (by conv => lhs; try simp) fun R9 hR9 => ?_
    have F9 := @hk
    repeat' (first | refine gf ?_ | refine s_seq fun y9 hy9 => ?_ | refine qT _ ?_ ?_ | refine qG _ ?_ ?_ | refine qN ?_ ?_ | (refine QB.mk fun hb9 => ?_; (try simp only [hb9]); (try simp at hb9); first | (exfalso; omega) | subst hb9 | skip) | (refine nZ ?_; first | refine (R_fown len) ?_ | refine R_zero ?_))
    exact fin_v h (by simp [hk])
  · rw [if_neg hk] at h
    have hp := ask hk
    have hml := len.2.2
    refine s_body' Tryz.func20 tOK rfl (by conv => lhs; simp) (by conv => lhs; simp) (by conv => lhs; simp [Fr.args]) rfl (by conv => lhs; try simp) fun R9 hR9 => ?_
    have F9 := @hk
    repeat' (first | refine gf ?_ | refine s_seq fun y9 hy9 => ?_ | refine qT _ ?_ ?_ | refine qG _ ?_ ?_ | refine qN ?_ ?_ | (refine QB.mk fun hb9 => ?_; (try simp only [hb9]); (try simp at hb9); first | (exfalso; omega) | subst hb9 | skip) | (refine nZ ?_; first | refine (R_fown len) ?_ | refine R_zero ?_ | refine (R_policy hp) ?_ | refine (R_linto (by omega)) ?_ | refine (R_limit (by omega) (by omega) (by omega) (by omega) (by omega) n0 n1 l0 l1) ?_ | refine (R_pstep pl (by omega) (by omega) (by omega) (by omega)) ?_ | refine (R_addM hml (by omega) (by omega)) ?_))
    exact h
end
end Go.Proofs.YtncbfppafgjdiaaGreat
end
section
/- Which policy takes another one's place. -/
set_option linter.unusedVariables false
set_option linter.unusedSimpArgs false
set_option maxRecDepth 20000
namespace Go.Proofs.YtncbfppafgjdiaaGreat
open Go
attribute [local irreducible] T TL C RG DP SP YR afterRG DPcall
attribute [-simp] List.map_set
/-- Marks that can be reckoned with. -/
def okM (l : List MarkV) : Prop := l.length ≤ 10000 ∧ ∀ m ∈ l, -1000000000 ≤ m.cost ∧ m.cost ≤ 1000000000
theorem pick_steps (c : ConfV) (live : SimV) (l : List SimV) : ∃ B : Nat → Nat, B 0 = 0 ∧ (∀ j, B j ≤ j) ∧
    (∀ j, j < l.length → B (j + 1) = if beats c live (gt l j) = true ∧ (B j = 0 ∨ costM (gt l j).marks < costM (gt l (B j - 1)).marks) then j + 1 else B j) ∧ B l.length = pickS c live l := by
  have key : ∀ (r : List SimV) (i b : Nat), l.drop i = r → b ≤ i → ∃ B : Nat → Nat, B i = b ∧ (∀ j, i ≤ j → B j ≤ j) ∧
      (∀ j, i ≤ j → j < l.length → B (j + 1) = if beats c live (gt l j) = true ∧ (B j = 0 ∨ costM (gt l j).marks < costM (gt l (B j - 1)).marks) then j + 1 else B j) ∧ (i ≤ l.length → B l.length = pickFrom c live l r i b) := by
    intro r
    induction r with
    | nil =>
      intro i b h hb
      have hl : l.length ≤ i := by simpa using h
      exact ⟨fun _ => b, rfl, fun j hj => by show b ≤ j; omega, fun j h1 h2 => by omega, fun _ => rfl⟩
    | cons x r ih =>
      intro i b h hb
      have hi : i < l.length := by
        rcases Nat.lt_or_ge i l.length with h1 | h1
        · exact h1
        · rw [List.drop_of_length_le h1] at h; simp at h
      rw [List.drop_eq_getElem_cons hi] at h
      simp only [List.cons.injEq] at h
      obtain ⟨hx, hr⟩ := h
      have hg : gt l i = x := by rw [← hx]; simp [gt, hi]
      obtain ⟨B, e1, e2, e3, e4⟩ := ih (i + 1) (if beats c live x = true ∧ (b = 0 ∨ costM x.marks < costM ((l.getD (b - 1) {}).marks)) then i + 1 else b) hr (by split <;> omega)
      refine ⟨fun j => if j ≤ i then b else B j, by simp, fun j hj => ?_, fun j h1 h2 => ?_, fun h1 => ?_⟩
      · show (if j ≤ i then b else B j) ≤ j
        split
        · omega
        · exact e2 j (by omega)
      · show (if j + 1 ≤ i then b else B (j + 1)) = _
        rw [if_neg (by omega)]
        rcases Nat.lt_or_ge i j with h3 | h3
        · simp only [if_neg (show ¬ j ≤ i by omega)]
          exact e3 j (by omega) h2
        · have : j = i := by omega
          subst this
          simp only [Nat.le_refl, if_true]
          rw [e1, hg]; rfl
      · show (if l.length ≤ i then b else B l.length) = _
        rw [if_neg (by omega), e4 (by omega)]; rfl
  obtain ⟨B, e1, e2, e3, e4⟩ := key l 0 0 rfl (Nat.le_refl _)
  exact ⟨B, e1, fun j => e2 j (Nat.zero_le _), fun j => e3 j (Nat.zero_le _), e4 (Nat.zero_le _)⟩
section
variable {R : Re → Store → Prop} {σ : Store}
set_option maxHeartbeats 4000000 in
theorem R_pick {c : ConfV} {live : SimV} {l : List SimV} (hl : l.length ≤ 1000) (hM : ∀ x ∈ l, okM x.marks) (hL : okM live.marks) (m0 : -1000000000 ≤ c.margin) (m1 : c.margin ≤ 1000000000)
    (h : R (.ret (.tup [i64 (pickS c live l), .bool (decide (0 < pickS c live l))])) σ) : C tE 102 [eConf c, eSim live, .lit (l.map eSim)] σ R := by
  obtain ⟨B, b0, bj, bs, be⟩ := pick_steps c live l
  rw [← be] at h
  have hg := gt_all (P := fun x : SimV => okM x.marks) hM ⟨by decide, by intro m hm; exact absurd hm (by simp [show (default : SimV).marks = [] from rfl])⟩
  refine C_pure tOK (by simp) ?_
  refine s_body' Tryz.func102 tOK rfl (by conv => lhs; simp) (by conv => lhs; simp) (by conv => lhs; simp [Fr.args]) rfl (by conv => lhs; try simp) fun R9 hR9 => ?_
  repeat' (first | refine go ?_ | refine s_seq fun y9 hy9 => ?_ | refine qT _ ?_ ?_ | refine qG _ ?_ ?_ | refine qN ?_ ?_ | (refine QB.mk fun hb9 => ?_; (try simp only [hb9]); (try simp at hb9); first | (exfalso; omega) | subst hb9 | skip) | refine sD tOK tmix [([],0),([],1),([0,1],2),([0,1,2],3),([0,1,2,3],4),([0,1,2,3,4],5),([0,1,2,3,4,5],6),([0,1,2,3,4,5,6],7),([0,1,2,3,4,5,6,7],8),([0,1,2,3,4,5,6,7],9),([0,1,2,3,4,5,6,7,9],10),([0,1,2,3,4,5,6,7],11),([0,1,2,3,4,5,6,7],12),([0,1,2,3,4,5,6,7,11,12],13),([0,1,2,3,4,5,6,7,11,12,13],14),([0,1,2,3,4,5,6,7,11,12,13,14],15),([0,1,2,3,4,5,6,7,8,9,10,11,12,13,14,15],16),([0,1,2,3,4,5,6,7,8,9,10,11,12,13,14,15,16],17),([0,1,2,3,4,5,6,7,8,9,10,11,12,13,14,15,16,17],18)] 16 ?_ | refine sD tOK tmix [([],0),([0],1),([0,1],2),([0,1,2],3),([0,1,2,3],4),([0,1,2,3,4],5),([0,1,2,3,4],6),([0,1,2,3,4,5,6],7),([0,1,2,3,4,5,6,7],8),([0,1,2,3,4,5,6,7,8],9),([0,1,2,3,4,5,6,7,8,9],10),([0,1,2,3,4],11),([0,1,2,3,4],12),([0,1,2,3,4,12],13),([0,1,2,3,4,11,12,13],14),([0,1,2,3,4,11,12,13,14],15),([0,1,2,3,4,11,12,13,14,15],16),([0,1,2,3,4,5,6,7,8,9,10,11,12,13,14,15,16],17),([0,1,2,3,4,5,6,7,8,9,10,11,12,13,14,15,16,17],18),([0,1,2,3,4,5,6,7,8,9,10,11,12,13,14,15,16,17,18],19),([0,1,2,3,4,5,6,7,8,9,10,11,12,13,14,15,16,17,18,19],20)] 17 ?_ | refine qD _ ?_ ?_)
  refine s_loop fun c9 hc9 => ?_
  refine w_trim 2 [2, 3, 4, 8, 9] (by conv => lhs; simp) (by conv => lhs; simp) (by first | rfl | simp) (by first | rfl | simp) ?_
  refine s_loopn (l.length) (fun j fr σ => fr = [(2, .lit (l.map eSim)), (3, .ptr 0 0 0 []), (4, .ptr 1 0 0 []), (8, i64 (B j)), (9, i64 j)] ∧ σ = [some (.cells 26 0 [eConf c]), some (.cells 40 0 [eSim live])]) ?_ ⟨by simp [b0], by first | rfl | simp [b0]⟩
  rintro j fr σ hj ⟨rfl, rfl⟩ ih
  have hb := bj j
  have hbs := bs j
  have g1 := hg j
  have g2 := hg (B j - 1)
  have ex : ((B j : Int) - 1).toNat = B j - 1 := by omega
  unfold beats at hbs
  obtain ⟨n, hn⟩ : ∃ n, B (j + 1) = n := ⟨_, rfl⟩
  obtain ⟨b, hbb⟩ : ∃ b, B j = b := ⟨_, rfl⟩
  rw [hn] at hbs
  rw [hbb] at hb hbs g2 ex
  rw [hbb]
  have e1 : ∀ (n : Nat), n ≤ 10000 → n ≤ 100000 := fun n hn => by omega
  refine s_round hc9 ?_
  have F9 := @ex
  repeat' (first | refine gf ?_ | refine s_seq fun y9 hy9 => ?_ | refine qT _ ?_ ?_ | refine qG _ ?_ ?_ | refine qN ?_ ?_ | (refine QB.mk fun hb9 => ?_; (try simp only [hb9]); (try simp at hb9); first | (exfalso; omega) | subst hb9 | skip) | refine sD tOK tmix [([],0),([],1),([0,1],2),([0,1,2],3),([0,1,2,3],4),([0,1,2,3,4],5),([0,1,2,3,4,5],6),([0,1,2,3,4,5,6],7),([0,1,2,3,4,5,6,7],8),([0,1,2,3,4,5,6,7],9),([0,1,2,3,4,5,6,7,9],10),([0,1,2,3,4,5,6,7],11),([0,1,2,3,4,5,6,7],12),([0,1,2,3,4,5,6,7,11,12],13),([0,1,2,3,4,5,6,7,11,12,13],14),([0,1,2,3,4,5,6,7,11,12,13,14],15),([0,1,2,3,4,5,6,7,8,9,10,11,12,13,14,15],16),([0,1,2,3,4,5,6,7,8,9,10,11,12,13,14,15,16],17),([0,1,2,3,4,5,6,7,8,9,10,11,12,13,14,15,16,17],18)] 16 ?_ | refine sD tOK tmix [([],0),([0],1),([0,1],2),([0,1,2],3),([0,1,2,3],4),([0,1,2,3,4],5),([0,1,2,3,4],6),([0,1,2,3,4,5,6],7),([0,1,2,3,4,5,6,7],8),([0,1,2,3,4,5,6,7,8],9),([0,1,2,3,4,5,6,7,8,9],10),([0,1,2,3,4],11),([0,1,2,3,4],12),([0,1,2,3,4,12],13),([0,1,2,3,4,11,12,13],14),([0,1,2,3,4,11,12,13,14],15),([0,1,2,3,4,11,12,13,14,15],16),([0,1,2,3,4,5,6,7,8,9,10,11,12,13,14,15,16],17),([0,1,2,3,4,5,6,7,8,9,10,11,12,13,14,15,16,17],18),([0,1,2,3,4,5,6,7,8,9,10,11,12,13,14,15,16,17,18],19),([0,1,2,3,4,5,6,7,8,9,10,11,12,13,14,15,16,17,18,19],20)] 17 ?_ | refine qD _ ?_ ?_ | (refine nZ ?_; first | refine R_zero ?_ | refine (R_better hL.1 g1.1 hL.2 g1.2 m0 m1) ?_ | refine (R_cost (e1 _ g1.1) g1.2) ?_ | refine (R_cost (e1 _ g2.1) g2.2) ?_) | (apply d_call []; exact rfl; (solve | (conv => lhs; try simp [ex])); (solve | exact rfl | simp); (solve | (conv => lhs; try simp [ex])); intro τ hτ; refine nZ ?_; first | exact R_zero ⟨rfl, rfl⟩ | exact (R_better hL.1 g1.1 hL.2 g1.2 m0 m1) ⟨rfl, rfl⟩ | exact (R_cost (e1 _ g1.1) g1.2) ⟨rfl, rfl⟩ | exact (R_cost (e1 _ g2.1) g2.2) ⟨rfl, rfl⟩))
  all_goals first
    | (have hj1 : j = l.length := by omega
       rw [← hj1, hbb] at h
       exact fin_v h (by simp))
    | (have hv : n = j + 1 := by
         rw [hbs (by assumption)]
         exact if_pos ⟨by simp [*], by first | (left; assumption) | (right; assumption)⟩
       refine w_back 2 [2, 3, 4, 8, 9] (by conv => lhs; simp) (by conv => lhs; simp) (by first | rfl | simp) (by first | rfl | simp) ?_
       exact ih (by assumption) _ _ ⟨by simp [hn, hv], rfl⟩)
    | (have hv : n = b := by
         rw [hbs (by assumption)]
         refine if_neg fun hx => ?_
         have hx1 := hx.1
         have hx2 := hx.2
         simp [*] at hx1
         try omega
       refine w_back 2 [2, 3, 4, 8, 9] (by conv => lhs; simp) (by conv => lhs; simp) (by first | rfl | simp) (by first | rfl | simp) ?_
       exact ih (by assumption) _ _ ⟨by simp [hn, hv], rfl⟩)
    | skip
  all_goals fail
theorem fin_own1 {b g : Nat} {U : TypeId} {v y : PV} {rest : Store} (hy : pureB y = true) (hb : Store.at σ b = some (.cells U g [y])) (hv : pureB v = true) (hf : frz (hide 1 (some (.cells U g [y]) :: rest)) 6 v = some v) (h : R (.ret v) σ) : ownRe [b] σ R (.ret v) (some (.cells U g [y]) :: rest) := by
  have hσ : σ.set b (some (.cells U g [y])) = σ := by
    apply List.ext_getElem?
    intro i
    rw [List.getElem?_set]
    split
    · rename_i e; subst e
      have := Store.at_some hb
      rw [List.getElem?_eq_getElem (getElem?_lt this)] at this
      simp [getElem?_lt (Store.at_some hb)]; exact (Option.some.inj this).symm
    · rfl
  refine ⟨by simp [hy], ?_⟩
  simp [hf, putAll, hσ, h, hy]
theorem C_pc {b k : Nat} {v : Int} {l : List SimV} (hb : Store.at σ b = some (.cells 41 0 [.lit (l.map eSim)])) (hv : v = (k : Int) + 1) (hk : k < l.length) (hl : l.length ≤ 1000) (hM : okM (gt l k).marks) (h : R (.ret (i64 (costM (gt l k).marks))) σ) : C tE 127 [i64 v, .ptr b 0 0 []] σ R := by
  subst hv
  refine C_own (σ0 := [some (.cells 41 0 [.lit (l.map eSim)])]) (args := [i64 ((k : Int) + 1), .ptr 0 0 0 []]) tOK [b] (by simp) rfl (by simp) (by simp) (fun j hj => ?_) ?_
  · have : j = 0 := by simpa using hj
    subst this
    have := Store.at_some hb
    simp [nth, this]
  · have e1 : (gt l k).marks.length ≤ 100000 := by have := hM.1; omega
    refine s_body' Tryz.func127 tOK rfl (by conv => lhs; simp) (by conv => lhs; simp) (by conv => lhs; simp [Fr.args]) rfl (by conv => lhs; try simp) fun R9 hR9 => ?_
    repeat' (first | refine go ?_ | refine s_seq fun y9 hy9 => ?_ | refine qT _ ?_ ?_ | refine qG _ ?_ ?_ | refine qN ?_ ?_ | (refine QB.mk fun hb9 => ?_; (try simp only [hb9]); (try simp at hb9); first | (exfalso; omega) | subst hb9 | skip) | (refine nZ ?_; refine (C_cost e1 hM.2) ?_))
    exact fin_own1 (by simp) hb (by simp) (by simp) h
set_option maxHeartbeats 4000000 in
theorem C_pick {c : ConfV} {live : SimV} {l : List SimV} (hl : l.length ≤ 1000) (hM : ∀ x ∈ l, okM x.marks) (hL : okM live.marks) (m0 : -1000000000 ≤ c.margin) (m1 : c.margin ≤ 1000000000)
    (h : R (.ret (.tup [i64 (pickS c live l), .bool (decide (0 < pickS c live l))])) σ) : C tE 112 [eConf c, eSim live, .lit (l.map eSim)] σ R := by
  obtain ⟨B, b0, bj, bs, be⟩ := pick_steps c live l
  rw [← be] at h
  have hg := gt_all (P := fun x : SimV => okM x.marks) hM ⟨by decide, by intro m hm; exact absurd hm (by simp [show (default : SimV).marks = [] from rfl])⟩
  refine C_pure tOK (by simp) ?_
  refine z_enter Tryz.func112 tOK rfl (by conv => lhs; simp) (by conv => lhs; simp) (by conv => lhs; simp [Fr.args]) rfl fun R9 hR9 => ?_
  repeat' (first | ((with_reducible refine iRG ?_); first | (apply o_yield; exact rfl; (solve | (conv => lhs; try simp)); (solve | (conv => lhs; try simp))) | (apply o_move; exact rfl) | (apply o_assign; exact rfl) | (apply o_load; exact rfl; exact rfl; (solve | exact rfl | (conv => lhs; simp))) | (apply o_fa; exact rfl; exact rfl; exact rfl; (solve | (conv => lhs; try simp))) | (apply o_bin; exact rfl; exact rfl; exact rfl; exact rfl; (solve | (conv => lhs; try simp; try simp (disch := omega) only [wi64, wu64, dect, decf, beqt, beqf, bnet, bnef, ift, iff_, ipt, ipf, wtdiv, gq]; try simp))) | (apply o_store; exact rfl; exact rfl; exact rfl; (solve | exact rfl | (conv => lhs; simp))) | (apply o_nilCheck; exact rfl; (solve | exact rfl | simp)) | (apply g_run; exact rfl) | (apply g_not; exact rfl) | (apply g_skip; exact rfl) | (apply g_if; exact rfl; all_goals (intro hb9; ((try simp only [hb9]); (try simp at hb9); first | (exfalso; omega) | subst hb9 | skip))) | (apply o_op; exact rfl; exact rfl; (solve | (conv => lhs; try simp; try simp (disch := omega) only [wi64, wu64, dect, decf, beqt, beqf, bnet, bnef, ift, iff_, ipt, ipf, wtdiv, gq]; try simp))) | (apply o_op0; exact rfl; exact rfl; (solve | (conv => lhs; try simp; try simp (disch := omega) only [wi64, wu64, dect, decf, beqt, beqf, bnet, bnef, ift, iff_, ipt, ipf, wtdiv, gq]; try simp))) | (apply o_call; exact rfl; (solve | (conv => lhs; try simp))) | (apply o_nil1; exact rfl; (solve | (conv => lhs; try simp))) | (apply o_nil2; exact rfl; (solve | (conv => lhs; try simp))) | (apply w_end; exact rfl)) | ((with_reducible refine iT ?_); first | refine s_seq fun y9 hy9 => ?_ | (apply s_reg' tOK; exact rfl; (solve | (conv => lhs; simp))) | refine s_block ?_ | (apply w_ret; exact rfl) | (apply w_skip; exact rfl) | (apply w_exit; exact rfl) | (apply s_ift; exact rfl) | (apply s_iff; exact rfl) | (apply T_if; exact rfl; all_goals (intro hb9; ((try simp only [hb9]); (try simp at hb9); first | (exfalso; omega) | subst hb9 | skip))) | (apply s_draw' tOK tmix [([], 0), ([0], 1), ([0, 1], 2), ([0, 1, 2], 3), ([0, 1, 2], 4), ([0, 1, 2, 3, 4], 5), ([0, 1, 2], 6), ([0, 1, 2], 7), ([0, 1, 2, 3, 4, 5, 6, 7], 8), ([0, 1, 2, 3, 4, 5, 6, 7, 8], 9), ([0, 1, 2, 3, 4, 5, 6, 7, 8, 9], 10)] 8 (by decide +kernel); (solve | (conv => lhs; try simp)); (solve | (conv => lhs; try simp)); (solve | (conv => lhs; try simp))) | (apply s_draw' tOK tmix [([], 0), ([], 1), ([1], 2), ([0], 3), ([0, 1, 2, 3], 4)] 4 (by decide +kernel); (solve | (conv => lhs; try simp)); (solve | (conv => lhs; try simp)); (solve | (conv => lhs; try simp)))) | ((with_reducible refine iSP ?_); first | (apply s_next; assumption) | (apply r_fin; (solve | (conv => lhs; try simp)); (solve | (conv => lhs; try simp))) | (apply n_fin; (solve | (conv => lhs; try simp)); (solve | (conv => lhs; try simp))) | (apply zt_end; exact rfl) | (apply y_bound; exact rfl; assumption; (solve | (conv => lhs; try simp))) | (apply y_on; exact rfl; (solve | (conv => lhs; try simp))) | (apply y_ret; exact rfl; (solve | (conv => lhs; try simp))) | (apply y_exit; exact rfl; (solve | (conv => lhs; try simp)))) | ((with_reducible refine iA ?_); first | refine a_ret ?_ | refine a_ret0 ?_) | ((with_reducible refine iC ?_); first | (refine s_body' Tryz.func129 tOK rfl (by conv => lhs; simp) (by conv => lhs; simp) (by conv => lhs; simp [Fr.args]) rfl (by conv => lhs; try simp) fun R9 hR9 => ?_) | (refine s_body' Tryz.func142 tOK rfl (by conv => lhs; simp) (by conv => lhs; simp) (by conv => lhs; simp [Fr.args]) rfl (by conv => lhs; try simp) fun R9 hR9 => ?_)) | ((with_reducible refine iDP ?_); first | (apply d_move; exact rfl) | (apply d_op; exact rfl; (solve | (conv => lhs; try simp; try simp (disch := omega) only [wi64, wu64, dect, decf, beqt, beqf, bnet, bnef, ift, iff_, ipt, ipf, wtdiv, gq]; try simp)); (solve | exact rfl | simp); (solve | (conv => lhs; try simp))) | (apply d_op0; exact rfl; (solve | (conv => lhs; try simp; try simp (disch := omega) only [wi64, wu64, dect, decf, beqt, beqf, bnet, bnef, ift, iff_, ipt, ipf, wtdiv, gq]; try simp)); (solve | exact rfl | simp); (solve | (conv => lhs; try simp))) | apply d_end | (apply dg_run; exact rfl) | (apply dg_not; exact rfl) | (apply dg_skip; exact rfl) | (apply dg_if; exact rfl; all_goals (intro hb9; ((try simp only [hb9]); (try simp at hb9); first | (exfalso; omega) | subst hb9 | skip)))) | ((with_reducible refine iTZ ?_); first | refine z_seq fun y9 hy9 => ?_ | refine z_block ?_ | (apply z_range tOK [5,8,9]; exact rfl; exact rfl; (solve | (conv => lhs; try simp)); (solve | (conv => lhs; try simp)); intro l9 as9 bd9 has9 hbd9 args9 τ9 hargs9 hτ9; simp at hargs9 hτ9; subst hargs9 hτ9) | (apply z_T; (solve | (conv => lhs; try simp)))) | ((with_reducible refine iSD ?_); first | (apply z_next; assumption) | (apply zd_ret; (solve | (conv => lhs; try simp)); (solve | (conv => lhs; try simp))) | (apply zd_normal; (solve | (conv => lhs; try simp)); (solve | (conv => lhs; try simp))) | refine zm_normal ?_ | refine zm_ret ?_) | (apply z_over; exact rfl; exact rfl; (solve | (conv => lhs; try simp))) | (apply z_left; exact rfl; exact rfl; (solve | (conv => lhs; try simp))) | (apply y_walk (b := 8); exact rfl; assumption; exact rfl; exact rfl; (solve | (conv => lhs; try simp)); (solve | (conv => lhs; try simp))) | (apply s_R; assumption) | (apply f_ret; (solve | (conv => lhs; try simp))))
  refine s_loop fun c9 hc9 => ?_
  refine w_trim 9 [0, 1, 2, 3, 7, 8, 9] (by conv => lhs; simp) (by conv => lhs; simp) (by first | rfl | simp) (by first | rfl | simp) ?_
  refine s_loopn (l.length) (fun j fr σ => fr = [(0, .fn (.yield l9) [] []), (1, .ptr 7 0 0 []), (2, .ptr 5 0 0 []), (3, .ptr 6 0 0 []), (7, .lit (l.map eSim)), (8, i64 l.length), (9, i64 j)] ∧ σ = [some (.cells 26 0 [eConf c]), some (.cells 40 0 [eSim live]), some (.cells 41 0 [.lit (l.map eSim)]), some (.cells 134 0 [.fn (.func 127) [] [.ptr 2 0 0 []]]), some (.cells 3 0 [i64 (B j)]), some (.cells 26 0 [eConf c]), some (.cells 40 0 [eSim live]), some (.cells 41 0 [.lit (l.map eSim)]), some (.loop l9 .ready none 32 [(5, .ptr 2 0 0 []), (8, .ptr 3 0 0 []), (9, .ptr 4 0 0 [])] #[16] as9 bd9)]) ?_ ⟨by simp [b0], by first | rfl | simp [b0]⟩
  rintro j fr σ hj ⟨rfl, rfl⟩ ih
  have hb := bj j
  have hbs := bs j
  have g1 := hg j
  have g2 := hg (B j - 1)
  unfold beats at hbs
  obtain ⟨n, hn⟩ : ∃ n, B (j + 1) = n := ⟨_, rfl⟩
  obtain ⟨b, hbb⟩ : ∃ b, B j = b := ⟨_, rfl⟩
  rw [hn] at hbs
  rw [hbb] at hb hbs g2
  rw [hbb]
  refine s_round hc9 ?_
  repeat' (first | ((with_reducible refine iRG ?_); first | (apply o_yield; exact rfl; (solve | (conv => lhs; try simp)); (solve | (conv => lhs; try simp))) | (apply o_move; exact rfl) | (apply o_assign; exact rfl) | (apply o_load; exact rfl; exact rfl; (solve | exact rfl | (conv => lhs; simp))) | (apply o_fa; exact rfl; exact rfl; exact rfl; (solve | (conv => lhs; try simp))) | (apply o_bin; exact rfl; exact rfl; exact rfl; exact rfl; (solve | (conv => lhs; try simp; try simp (disch := omega) only [wi64, wu64, dect, decf, beqt, beqf, bnet, bnef, ift, iff_, ipt, ipf, wtdiv, gq]; try simp))) | (apply o_store; exact rfl; exact rfl; exact rfl; (solve | exact rfl | (conv => lhs; simp))) | (apply o_nilCheck; exact rfl; (solve | exact rfl | simp)) | (apply g_run; exact rfl) | (apply g_not; exact rfl) | (apply g_skip; exact rfl) | (apply g_if; exact rfl; all_goals (intro hb9; ((try simp only [hb9]); (try simp at hb9); first | (exfalso; omega) | subst hb9 | skip))) | (apply o_op; exact rfl; exact rfl; (solve | (conv => lhs; try simp; try simp (disch := omega) only [wi64, wu64, dect, decf, beqt, beqf, bnet, bnef, ift, iff_, ipt, ipf, wtdiv, gq]; try simp))) | (apply o_op0; exact rfl; exact rfl; (solve | (conv => lhs; try simp; try simp (disch := omega) only [wi64, wu64, dect, decf, beqt, beqf, bnet, bnef, ift, iff_, ipt, ipf, wtdiv, gq]; try simp))) | (apply o_call; exact rfl; (solve | (conv => lhs; try simp))) | (apply o_nil1; exact rfl; (solve | (conv => lhs; try simp))) | (apply o_nil2; exact rfl; (solve | (conv => lhs; try simp))) | (apply w_end; exact rfl)) | ((with_reducible refine iT ?_); first | refine s_seq fun y9 hy9 => ?_ | (apply s_reg' tOK; exact rfl; (solve | (conv => lhs; simp))) | refine s_block ?_ | (apply w_ret; exact rfl) | (apply w_skip; exact rfl) | (apply w_exit; exact rfl) | (apply s_ift; exact rfl) | (apply s_iff; exact rfl) | (apply T_if; exact rfl; all_goals (intro hb9; ((try simp only [hb9]); (try simp at hb9); first | (exfalso; omega) | subst hb9 | skip))) | (apply s_draw' tOK tmix [([], 0), ([0], 1), ([0, 1], 2), ([0, 1, 2], 3), ([0, 1, 2], 4), ([0, 1, 2, 3, 4], 5), ([0, 1, 2], 6), ([0, 1, 2], 7), ([0, 1, 2, 3, 4, 5, 6, 7], 8), ([0, 1, 2, 3, 4, 5, 6, 7, 8], 9), ([0, 1, 2, 3, 4, 5, 6, 7, 8, 9], 10)] 8 (by decide +kernel); (solve | (conv => lhs; try simp)); (solve | (conv => lhs; try simp)); (solve | (conv => lhs; try simp))) | (apply s_draw' tOK tmix [([], 0), ([], 1), ([1], 2), ([0], 3), ([0, 1, 2, 3], 4)] 4 (by decide +kernel); (solve | (conv => lhs; try simp)); (solve | (conv => lhs; try simp)); (solve | (conv => lhs; try simp)))) | ((with_reducible refine iSP ?_); first | (apply s_next; assumption) | (apply r_fin; (solve | (conv => lhs; try simp)); (solve | (conv => lhs; try simp))) | (apply n_fin; (solve | (conv => lhs; try simp)); (solve | (conv => lhs; try simp))) | (apply zt_end; exact rfl) | (apply y_bound; exact rfl; assumption; (solve | (conv => lhs; try simp))) | (apply y_on; exact rfl; (solve | (conv => lhs; try simp))) | (apply y_ret; exact rfl; (solve | (conv => lhs; try simp))) | (apply y_exit; exact rfl; (solve | (conv => lhs; try simp)))) | ((with_reducible refine iA ?_); first | refine a_ret ?_ | refine a_ret0 ?_) | ((with_reducible refine iC ?_); first | refine C_zero ?_ | (refine c_nz (by first | (solve | (conv => lhs; simp)) | rfl) (C_zero ?_)) | refine (C_better hL.1 g1.1 hL.2 g1.2 m0 m1) ?_ | (refine c_nz (by first | (solve | (conv => lhs; simp)) | rfl) ((C_better hL.1 g1.1 hL.2 g1.2 m0 m1) ?_)) | refine (C_pc (k:=b-1) rfl (by omega) (by omega) hl g2) ?_ | (refine c_nz (by first | (solve | (conv => lhs; simp)) | rfl) ((C_pc (k:=b-1) rfl (by omega) (by omega) hl g2) ?_))) | ((with_reducible refine iDP ?_); first | (apply d_call [2]; exact rfl; (solve | (conv => lhs; try simp)); (solve | exact rfl | simp); (solve | (conv => lhs; try simp)); intro τ hτ; exact (C_pc (k:=b-1) ((hτ 2 (by simp)).trans rfl) (by omega) (by omega) hl g2) ⟨rfl, rfl⟩) | (apply d_call [2]; exact rfl; (solve | (conv => lhs; try simp)); (solve | exact rfl | simp); (solve | (conv => lhs; try simp)); intro τ hτ; exact (C_pc (k:=j) ((hτ 2 (by simp)).trans rfl) rfl (by omega) hl g1) ⟨rfl, rfl⟩) | (apply d_move; exact rfl) | (apply d_op; exact rfl; (solve | (conv => lhs; try simp; try simp (disch := omega) only [wi64, wu64, dect, decf, beqt, beqf, bnet, bnef, ift, iff_, ipt, ipf, wtdiv, gq]; try simp)); (solve | exact rfl | simp); (solve | (conv => lhs; try simp))) | (apply d_op0; exact rfl; (solve | (conv => lhs; try simp; try simp (disch := omega) only [wi64, wu64, dect, decf, beqt, beqf, bnet, bnef, ift, iff_, ipt, ipf, wtdiv, gq]; try simp)); (solve | exact rfl | simp); (solve | (conv => lhs; try simp))) | apply d_end | (apply dg_run; exact rfl) | (apply dg_not; exact rfl) | (apply dg_skip; exact rfl) | (apply dg_if; exact rfl; all_goals (intro hb9; ((try simp only [hb9]); (try simp at hb9); first | (exfalso; omega) | subst hb9 | skip))) | (apply d_call []; exact rfl; (solve | (conv => lhs; try simp)); (solve | exact rfl | simp); (solve | (conv => lhs; try simp)); intro τ hτ; first | refine C_zero ⟨rfl, rfl⟩ | exact c_nz (by first | (solve | (conv => lhs; simp)) | rfl) (C_zero ⟨rfl, rfl⟩)) | (apply d_call []; exact rfl; (solve | (conv => lhs; try simp)); (solve | exact rfl | simp); (solve | (conv => lhs; try simp)); intro τ hτ; first | refine (C_better hL.1 g1.1 hL.2 g1.2 m0 m1) ⟨rfl, rfl⟩ | exact c_nz (by first | (solve | (conv => lhs; simp)) | rfl) ((C_better hL.1 g1.1 hL.2 g1.2 m0 m1) ⟨rfl, rfl⟩)) | (apply d_call []; exact rfl; (solve | (conv => lhs; try simp)); (solve | exact rfl | simp); (solve | (conv => lhs; try simp)); intro τ hτ; first | refine (C_pc (k:=b-1) rfl (by omega) (by omega) hl g2) ⟨rfl, rfl⟩ | exact c_nz (by first | (solve | (conv => lhs; simp)) | rfl) ((C_pc (k:=b-1) rfl (by omega) (by omega) hl g2) ⟨rfl, rfl⟩))) | ((with_reducible refine iTZ ?_); first | refine z_seq fun y9 hy9 => ?_ | refine z_block ?_ | (apply z_range tOK [5,8,9]; exact rfl; exact rfl; (solve | (conv => lhs; try simp)); (solve | (conv => lhs; try simp)); intro l9 as9 bd9 has9 hbd9 args9 τ9 hargs9 hτ9; simp at hargs9 hτ9; subst hargs9 hτ9) | (apply z_T; (solve | (conv => lhs; try simp)))) | ((with_reducible refine iSD ?_); first | (apply z_next; assumption) | (apply zd_ret; (solve | (conv => lhs; try simp)); (solve | (conv => lhs; try simp))) | (apply zd_normal; (solve | (conv => lhs; try simp)); (solve | (conv => lhs; try simp))) | refine zm_normal ?_ | refine zm_ret ?_) | (apply z_over; exact rfl; exact rfl; (solve | (conv => lhs; try simp))) | (apply z_left; exact rfl; exact rfl; (solve | (conv => lhs; try simp))) | (apply y_walk (b := 8); exact rfl; assumption; exact rfl; exact rfl; (solve | (conv => lhs; try simp)); (solve | (conv => lhs; try simp))) | (apply s_R; assumption) | (apply f_ret; (solve | (conv => lhs; try simp))))
  all_goals first
    | (have hj1 : j = l.length := by omega
       rw [← hj1, hbb] at h
       exact fin_v h (by simp))
    | (have hv : n = j + 1 := by
         rw [hbs (by assumption)]
         exact if_pos ⟨by simp [*], by first | (left; assumption) | (right; assumption) | (left; rfl)⟩
       refine w_back 9 [0, 1, 2, 3, 7, 8, 9] (by conv => lhs; simp) (by conv => lhs; simp) (by first | rfl | simp) (by first | rfl | simp) ?_
       exact ih (by assumption) _ _ ⟨by simp, by simp [hn, hv]⟩)
    | (have hv : n = b := by
         rw [hbs (by assumption)]
         refine if_neg fun hx => ?_
         have hx1 := hx.1
         have hx2 := hx.2
         simp [*] at hx1
         try omega
       refine w_back 9 [0, 1, 2, 3, 7, 8, 9] (by conv => lhs; simp) (by conv => lhs; simp) (by first | rfl | simp) (by first | rfl | simp) ?_
       exact ih (by assumption) _ _ ⟨by simp, by simp [hn, hv]⟩)
    | skip
  all_goals fail
end
end Go.Proofs.YtncbfppafgjdiaaGreat
end
section
/- Alike: the document's comparisons, of what is the same. -/
set_option linter.unusedVariables false
set_option linter.unusedSimpArgs false
set_option maxRecDepth 20000
namespace Go.Proofs.YtncbfppafgjdiaaGreat
open Go
attribute [local irreducible] T TL C RG DP SP YR afterRG DPcall
attribute [-simp] List.map_set
@[simp high] theorem bytesOf_u8l : ∀ l : List UInt8, bytesOf (u8l l) = some l
  | [] => rfl
  | a :: l => by
    have ih := bytesOf_u8l l
    have ha := a.toNat_lt
    unfold u8l at ih ⊢
    simp [bytesOf, ih]; omega
theorem u8sOf_u8l : ∀ l : List UInt8, u8sOf (u8l l) = some l
  | [] => rfl
  | a :: l => by
    have ih := u8sOf_u8l l
    have ha := a.toNat_lt
    unfold u8l at ih ⊢
    simp [u8sOf, ih]; try omega
section
variable {R : Re → Store → Prop} {σ : Store}
theorem R_samepol {p : PolV} (hl : lenP p) (h : R (.ret (.bool true)) σ) : C tE 18 [ePol p, ePol p] σ R := by
  obtain ⟨l1, l2⟩ := hl
  refine C_pure tOK (by simp) ?_
  refine s_body' Tryz.func18 tOK rfl (by conv => lhs; simp) (by conv => lhs; simp) (by conv => lhs; simp [Fr.args]) rfl (by conv => lhs; try simp) fun R9 hR9 => ?_
  repeat' (first | refine go ?_ | refine s_seq fun y9 hy9 => ?_ | refine qT _ ?_ ?_ | refine qG _ ?_ ?_ | refine qN ?_ ?_ | (refine QB.mk fun hb9 => ?_; (try simp only [hb9]); (try simp at hb9); first | (exfalso; omega) | subst hb9 | skip) | refine sD tOK tmix [([],0),([0],1),([],2),([0,1,2],3),([0,1,2,3],4),([],5),([5],6),([],7),([5,6,7],8),([5,6,7,8],9),([0,1,2,3,4,5,6,7,8,9],10)] 10 ?_ | refine sD tOK tmix [([],0),([0],1),([],2),([0,1,2],3),([0,1,2,3],4),([],5),([5],6),([],7),([5,6,7],8),([5,6,7,8],9),([0,1,2,3,4,5,6,7,8,9],10)] 10 ?_ | refine qD _ ?_ ?_)
  refine s_loop fun c9 hc9 => ?_
  refine w_trim 2 [2, 3, 5] (by conv => lhs; simp) (by conv => lhs; simp) (by first | rfl | simp) (by first | rfl | simp) ?_
  refine s_loopn (p.bands.length) (fun j fr σ => fr = [(2, .ptr 0 0 0 []), (3, .ptr 1 0 0 []), (5, i64 j)] ∧ σ = [some (.cells 30 0 [ePol p]), some (.cells 30 0 [ePol p])]) ?_ ⟨by simp, by first | rfl | simp⟩
  rintro j fr σ hj ⟨rfl, rfl⟩ ih
  refine s_round hc9 ?_
  repeat' (first | refine go ?_ | refine s_seq fun y9 hy9 => ?_ | refine qT _ ?_ ?_ | refine qG _ ?_ ?_ | refine qN ?_ ?_ | (refine QB.mk fun hb9 => ?_; (try simp only [hb9]); (try simp at hb9); first | (exfalso; omega) | subst hb9 | skip) | refine sD tOK tmix [([],0),([0],1),([],2),([0,1,2],3),([0,1,2,3],4),([],5),([5],6),([],7),([5,6,7],8),([5,6,7,8],9),([0,1,2,3,4,5,6,7,8,9],10)] 10 ?_ | refine sD tOK tmix [([],0),([0],1),([],2),([0,1,2],3),([0,1,2,3],4),([],5),([5],6),([],7),([5,6,7],8),([5,6,7,8],9),([0,1,2,3,4,5,6,7,8,9],10)] 10 ?_ | refine qD _ ?_ ?_)
  · (refine w_back 2 [2, 3, 5] (by conv => lhs; simp) (by conv => lhs; simp) (by first | rfl | simp) (by first | rfl | simp) ?_; exact ih (by assumption) _ _ ⟨by first | (simp; done) | (simp; omega), by first | rfl | (simp; done)⟩)
  · refine s_loop fun c9 hc9 => ?_
    refine w_trim 2 [2, 3, 6] (by conv => lhs; simp) (by conv => lhs; simp) (by first | rfl | simp) (by first | rfl | simp) ?_
    refine s_loopn (p.slots.length) (fun j fr σ => fr = [(2, .ptr 0 0 0 []), (3, .ptr 1 0 0 []), (6, i64 j)] ∧ σ = [some (.cells 30 0 [ePol p]), some (.cells 30 0 [ePol p])]) ?_ ⟨by simp, by first | rfl | simp⟩
    rintro j fr σ hj ⟨rfl, rfl⟩ ih
    refine s_round hc9 ?_
    repeat' (first | refine go ?_ | refine s_seq fun y9 hy9 => ?_ | refine qT _ ?_ ?_ | refine qG _ ?_ ?_ | refine qN ?_ ?_ | (refine QB.mk fun hb9 => ?_; (try simp only [hb9]); (try simp at hb9); first | (exfalso; omega) | subst hb9 | skip) | refine sD tOK tmix [([],0),([0],1),([],2),([0,1,2],3),([0,1,2,3],4),([],5),([5],6),([],7),([5,6,7],8),([5,6,7,8],9),([0,1,2,3,4,5,6,7,8,9],10)] 10 ?_ | refine sD tOK tmix [([],0),([0],1),([],2),([0,1,2],3),([0,1,2,3],4),([],5),([5],6),([],7),([5,6,7],8),([5,6,7,8],9),([0,1,2,3,4,5,6,7,8,9],10)] 10 ?_ | refine qD _ ?_ ?_)
    · (refine w_back 2 [2, 3, 6] (by conv => lhs; simp) (by conv => lhs; simp) (by first | rfl | simp) (by first | rfl | simp) ?_; exact ih (by assumption) _ _ ⟨by first | (simp; done) | (simp; omega), by first | rfl | (simp; done)⟩)
    · exact h
theorem R_samemarks {l : List MarkV} (hl : l.length ≤ 10000) (h : R (.ret (.bool true)) σ) : C tE 68 [.lit (l.map eMark), .lit (l.map eMark)] σ R := by
  refine C_pure tOK (by simp) ?_
  refine s_body' Tryz.func68 tOK rfl (by conv => lhs; simp) (by conv => lhs; simp) (by conv => lhs; simp [Fr.args]) rfl (by conv => lhs; try simp) fun R9 hR9 => ?_
  repeat' (first | refine go ?_ | refine s_seq fun y9 hy9 => ?_ | refine qT _ ?_ ?_ | refine qG _ ?_ ?_ | refine qN ?_ ?_ | (refine QB.mk fun hb9 => ?_; (try simp only [hb9]); (try simp at hb9); first | (exfalso; omega) | subst hb9 | skip) | refine sD tOK tmix [([],0),([],1),([0,1],2),([0,1,2],3),([],4),([],5),([4,5],6),([4,5,6],7),([0,1,2,3,4,5,6,7],8)] 8 ?_ | refine qD _ ?_ ?_)
  refine s_loop fun c9 hc9 => ?_
  refine w_trim 0 [0, 1, 5] (by conv => lhs; simp) (by conv => lhs; simp) (by first | rfl | simp) (by first | rfl | simp) ?_
  refine s_loopn (l.length) (fun j fr σ => fr = [(0, .lit (l.map eMark)), (1, .lit (l.map eMark)), (5, i64 j)] ∧ σ = []) ?_ ⟨by simp, by first | rfl | simp⟩
  rintro j fr σ hj ⟨rfl, rfl⟩ ih
  refine s_round hc9 ?_
  repeat' (first | refine go ?_ | refine s_seq fun y9 hy9 => ?_ | refine qT _ ?_ ?_ | refine qG _ ?_ ?_ | refine qN ?_ ?_ | (refine QB.mk fun hb9 => ?_; (try simp only [hb9]); (try simp at hb9); first | (exfalso; omega) | subst hb9 | skip) | refine sD tOK tmix [([],0),([],1),([0,1],2),([0,1,2],3),([],4),([],5),([4,5],6),([4,5,6],7),([0,1,2,3,4,5,6,7],8)] 8 ?_ | refine qD _ ?_ ?_)
  · (refine w_back 0 [0, 1, 5] (by conv => lhs; simp) (by conv => lhs; simp) (by first | rfl | simp) (by first | rfl | simp) ?_; exact ih (by assumption) _ _ ⟨by first | (simp; done) | (simp; omega), by first | rfl | (simp; done)⟩)
  · exact h
theorem R_sameplant {p : PlantV} (hl : p.start.length ≤ 10000) (h : R (.ret (.bool true)) σ) : C tE 67 [ePlant p, ePlant p] σ R := by
  refine C_pure tOK (by simp) ?_
  refine s_body' Tryz.func67 tOK rfl (by conv => lhs; simp) (by conv => lhs; simp) (by conv => lhs; simp [Fr.args]) rfl (by conv => lhs; try simp) fun R9 hR9 => ?_
  repeat' (first | refine go ?_ | refine s_seq fun y9 hy9 => ?_ | refine qT _ ?_ ?_ | refine qG _ ?_ ?_ | refine qN ?_ ?_ | (refine QB.mk fun hb9 => ?_; (try simp only [hb9]); (try simp at hb9); first | (exfalso; omega) | subst hb9 | skip) | refine sD tOK tmix [([],0),([0],1),([],2),([0,1,2],3),([0,1,2,3],4),([],5),([5],6),([],7),([5,6,7],8),([5,6,7,8],9),([0,1,2,3,4,5,6,7,8,9],10)] 10 ?_ | refine qD _ ?_ ?_)
  refine s_loop fun c9 hc9 => ?_
  refine w_trim 2 [2, 3, 5] (by conv => lhs; simp) (by conv => lhs; simp) (by first | rfl | simp) (by first | rfl | simp) ?_
  refine s_loopn (p.start.length) (fun j fr σ => fr = [(2, .ptr 0 0 0 []), (3, .ptr 1 0 0 []), (5, i64 j)] ∧ σ = [some (.cells 37 0 [ePlant p]), some (.cells 37 0 [ePlant p])]) ?_ ⟨by simp, by first | rfl | simp⟩
  rintro j fr σ hj ⟨rfl, rfl⟩ ih
  refine s_round hc9 ?_
  repeat' (first | refine go ?_ | refine s_seq fun y9 hy9 => ?_ | refine qT _ ?_ ?_ | refine qG _ ?_ ?_ | refine qN ?_ ?_ | (refine QB.mk fun hb9 => ?_; (try simp only [hb9]); (try simp at hb9); first | (exfalso; omega) | subst hb9 | skip) | refine sD tOK tmix [([],0),([0],1),([],2),([0,1,2],3),([0,1,2,3],4),([],5),([5],6),([],7),([5,6,7],8),([5,6,7,8],9),([0,1,2,3,4,5,6,7,8,9],10)] 10 ?_ | refine qD _ ?_ ?_)
  · (refine w_back 2 [2, 3, 5] (by conv => lhs; simp) (by conv => lhs; simp) (by first | rfl | simp) (by first | rfl | simp) ?_; exact ih (by assumption) _ _ ⟨by first | (simp; done) | (simp; omega), by first | rfl | (simp; done)⟩)
  · exact h
theorem R_samesim {x : SimV} (hl : lenS x) (h : R (.ret (.bool true)) σ) : C tE 39 [eSim x, eSim x] σ R := by
  obtain ⟨l1, l2, l3⟩ := hl
  refine C_pure tOK (by simp) ?_
  refine s_body' Tryz.func39 tOK rfl (by conv => lhs; simp) (by conv => lhs; simp) (by conv => lhs; simp [Fr.args]) rfl (by conv => lhs; try simp) fun R9 hR9 => ?_
  repeat' (first | refine go ?_ | refine s_seq fun y9 hy9 => ?_ | refine qT _ ?_ ?_ | refine qG _ ?_ ?_ | refine qN ?_ ?_ | (refine QB.mk fun hb9 => ?_; (try simp only [hb9]); (try simp at hb9); first | (exfalso; omega) | subst hb9 | skip) | (refine nZ ?_; first | refine (R_samepol l1) ?_ | refine (R_sameplant l2) ?_ | refine (R_samemarks l3) ?_))
  all_goals exact h
theorem R_sameprobe {x : ProbeV} (hl : lenP x.pol) (h : R (.ret (.bool true)) σ) : C tE 40 [eProbe x, eProbe x] σ R := by
  refine C_pure tOK (by simp) ?_
  refine s_body' Tryz.func40 tOK rfl (by conv => lhs; simp) (by conv => lhs; simp) (by conv => lhs; simp [Fr.args]) rfl (by conv => lhs; try simp) fun R9 hR9 => ?_
  repeat' (first | refine go ?_ | refine s_seq fun y9 hy9 => ?_ | refine qT _ ?_ ?_ | refine qG _ ?_ ?_ | refine qN ?_ ?_ | (refine QB.mk fun hb9 => ?_; (try simp only [hb9]); (try simp at hb9); first | (exfalso; omega) | subst hb9 | skip) | (refine nZ ?_; refine (R_samepol hl) ?_))
  all_goals exact h
theorem R_sameev {e : EvV} (hl : lenE e) (h : R (.ret (.bool true)) σ) : C tE 17 [eEv e, eEv e] σ R := by
  obtain ⟨l1, l2⟩ := hl
  refine C_pure tOK (by simp) ?_
  refine s_body' Tryz.func17 tOK rfl (by conv => lhs; simp) (by conv => lhs; simp) (by conv => lhs; simp [Fr.args]) rfl (by conv => lhs; try simp) fun R9 hR9 => ?_
  have F9 := @u8sOf_u8l
  repeat' (first | refine gf ?_ | refine s_seq fun y9 hy9 => ?_ | refine qT _ ?_ ?_ | refine qG _ ?_ ?_ | refine qN ?_ ?_ | (refine QB.mk fun hb9 => ?_; (try simp only [hb9]); (try simp at hb9); first | (exfalso; omega) | subst hb9 | skip) | (refine nZ ?_; refine (R_samepol l1) ?_))
  all_goals exact h
theorem R_sameall {l : List EvV} (hl : l.length ≤ 10000) (hE : ∀ e ∈ l, lenE e) (h : R (.ret (.bool true)) σ) : C tE 15 [.lit (l.map eEv), .lit (l.map eEv)] σ R := by
  have hg := gt_all (P := fun e : EvV => lenE e) hE ⟨⟨by decide, by decide⟩, by decide⟩
  refine C_pure tOK (by simp) ?_
  refine s_body' Tryz.func15 tOK rfl (by conv => lhs; simp) (by conv => lhs; simp) (by conv => lhs; simp [Fr.args]) rfl (by conv => lhs; try simp) fun R9 hR9 => ?_
  repeat' (first | refine go ?_ | refine s_seq fun y9 hy9 => ?_ | refine qT _ ?_ ?_ | refine qG _ ?_ ?_ | refine qN ?_ ?_ | (refine QB.mk fun hb9 => ?_; (try simp only [hb9]); (try simp at hb9); first | (exfalso; omega) | subst hb9 | skip) | refine sD tOK tmix [([],0),([],1),([0,1],2),([0,1,2],3),([],4),([],5),([4,5],6),([4,5,6],7),([0,1,2,3,4,5,6,7],8),([0,1,2,3,4,5,6,7,8],9)] 8 ?_ | refine qD _ ?_ ?_)
  refine s_loop fun c9 hc9 => ?_
  refine w_trim 0 [0, 1, 5] (by conv => lhs; simp) (by conv => lhs; simp) (by first | rfl | simp) (by first | rfl | simp) ?_
  refine s_loopn (l.length) (fun j fr σ => fr = [(0, .lit (l.map eEv)), (1, .lit (l.map eEv)), (5, i64 j)] ∧ σ = []) ?_ ⟨by simp, by first | rfl | simp⟩
  rintro j fr σ hj ⟨rfl, rfl⟩ ih
  have hgj := hg j
  refine s_round hc9 ?_
  repeat' (first | refine go ?_ | refine s_seq fun y9 hy9 => ?_ | refine qT _ ?_ ?_ | refine qG _ ?_ ?_ | refine qN ?_ ?_ | (refine QB.mk fun hb9 => ?_; (try simp only [hb9]); (try simp at hb9); first | (exfalso; omega) | subst hb9 | skip) | refine sD tOK tmix [([],0),([],1),([0,1],2),([0,1,2],3),([],4),([],5),([4,5],6),([4,5,6],7),([0,1,2,3,4,5,6,7],8),([0,1,2,3,4,5,6,7,8],9)] 8 ?_ | refine qD _ ?_ ?_ | (refine nZ ?_; refine (R_sameev hgj) ?_) | (apply d_call []; exact rfl; (solve | (conv => lhs; try simp)); (solve | exact rfl | simp); (solve | (conv => lhs; try simp)); intro τ hτ; refine nZ ?_; first | exact (R_sameev hgj) ⟨rfl, rfl⟩))
  · (refine w_back 0 [0, 1, 5] (by conv => lhs; simp) (by conv => lhs; simp) (by first | rfl | simp) (by first | rfl | simp) ?_; exact ih (by assumption) _ _ ⟨by first | (simp; done) | (simp; omega), by first | rfl | (simp; done)⟩)
  · exact h
end
end Go.Proofs.YtncbfppafgjdiaaGreat
end
section
/- What a controller knows, its own. -/
set_option linter.unusedVariables false
set_option linter.unusedSimpArgs false
set_option maxRecDepth 20000
namespace Go.Proofs.YtncbfppafgjdiaaGreat
open Go
attribute [local irreducible] T TL C RG DP SP YR afterRG DPcall
attribute [-simp] List.map_set
/-- What a controller knows, no longer than can be. -/
structure lenL (l : LiveV) : Prop where
  p : lenP l.pol
  b : lenP l.probe.pol
  s : lenS l.sim
  n : l.shadows.length ≤ 1000
  x : ∀ x ∈ l.shadows, lenS x
section
variable {R : Re → Store → Prop} {σ : Store}
theorem C_lown {l : LiveV} (hl : lenL l) (h : R (.ret (eLive l)) σ) : C tE 30 [eLive l] σ R := by
  obtain ⟨h1, h2, h3, h4, h5⟩ := hl
  have hg := gt_all (P := fun x : SimV => lenS x) h5 ⟨⟨by decide, by decide⟩, by decide, by decide⟩
  refine C_pure tOK (by simp) ?_
  obtain ⟨ins, now, util, dem, set, conf, pol, st, hold, sim, shd, pr⟩ := l
  simp only at h1 h2 h3 h4 h5 hg
  have mm := mf_eSim shd
  cases shd with
  | nil =>
    refine s_body' Tryz.func30 tOK rfl (by conv => lhs; simp) (by conv => lhs; simp) (by conv => lhs; simp [Fr.args]) rfl (by conv => lhs; try simp) fun R9 hR9 => ?_
    repeat' (first | refine go ?_ | refine s_seq fun y9 hy9 => ?_ | refine qT _ ?_ ?_ | refine qG _ ?_ ?_ | refine qN ?_ ?_ | (refine QB.mk fun hb9 => ?_; (try simp only [hb9]); (try simp at hb9); first | (exfalso; omega) | subst hb9 | skip) | refine w_loop fun y9 hy9 => ?_ | (apply w_again; assumption) | refine sD tOK tmix [([],0),([],1),([1],2),([0,1,2],3),([],4),([],5),([5],6),([5,6],7),([0,1,2,3,4,5,6,7],8),([0,1,2,3,5,6,7],9),([0,1,2,3,4,5,6,7,8,9],10),([0,1,2,3,4,5,6,7,8,9,10],11),([0,1,2,3,4,5,6,7,8,9,10,11],12),([0,1,2,3,4,5,6,7,8,9,10,11,12],13)] 10 ?_ | refine sD tOK tmix [([],0),([0],1),([],2),([],3),([3],4),([0,1,2,3,4],5),([0,1,2,3,4,5],6)] 5 ?_ | refine qD _ ?_ ?_ | refine cE Tryz.func57 tOK fun R9 hR9 => ?_ | (refine nZ ?_; first | refine (C_cown1 h1) ?_ | refine (C_cown1 h2) ?_ | refine (C_fown h3) ?_) | (apply d_call []; exact rfl; (solve | (conv => lhs; try simp)); (solve | exact rfl | simp); (solve | (conv => lhs; try simp)); intro τ hτ; refine nZ ?_; first | exact (C_cown1 h1) ⟨rfl, rfl⟩ | exact (C_cown1 h2) ⟨rfl, rfl⟩ | exact (C_fown h3) ⟨rfl, rfl⟩))
    all_goals first | exact h | skip
    all_goals fail
  | cons x xs =>
    simp only [List.length_cons] at h4
    refine s_body' Tryz.func30 tOK rfl (by conv => lhs; simp) (by conv => lhs; simp) (by conv => lhs; simp [Fr.args]) rfl (by conv => lhs; try simp) fun R9 hR9 => ?_
    repeat' (first | refine go ?_ | refine s_seq fun y9 hy9 => ?_ | refine qT _ ?_ ?_ | refine qG _ ?_ ?_ | refine qN ?_ ?_ | (refine QB.mk fun hb9 => ?_; (try simp only [hb9]); (try simp at hb9); first | (exfalso; omega) | subst hb9 | skip) | refine sD tOK tmix [([],0),([],1),([1],2),([0,1,2],3),([],4),([],5),([5],6),([5,6],7),([0,1,2,3,4,5,6,7],8),([0,1,2,3,5,6,7],9),([0,1,2,3,4,5,6,7,8,9],10),([0,1,2,3,4,5,6,7,8,9,10],11),([0,1,2,3,4,5,6,7,8,9,10,11],12),([0,1,2,3,4,5,6,7,8,9,10,11,12],13)] 10 ?_ | refine sD tOK tmix [([],0),([0],1),([],2),([],3),([3],4),([0,1,2,3,4],5),([0,1,2,3,4,5],6)] 5 ?_ | refine qD _ ?_ ?_ | refine cE Tryz.func57 tOK fun R9 hR9 => ?_ | (refine nZ ?_; first | refine (C_cown1 h1) ?_ | refine (C_cown1 h2) ?_ | refine (C_fown h3) ?_) | (apply d_call []; exact rfl; (solve | (conv => lhs; try simp)); (solve | exact rfl | simp); (solve | (conv => lhs; try simp)); intro τ hτ; refine nZ ?_; first | exact (C_cown1 h1) ⟨rfl, rfl⟩ | exact (C_cown1 h2) ⟨rfl, rfl⟩ | exact (C_fown h3) ⟨rfl, rfl⟩))
    have hll : (x :: xs).length = xs.length + 1 := rfl
    refine s_loop fun c9 hc9 => ?_
    refine w_trim 17 [1, 2, 27, 28, 29] (by conv => lhs; simp) (by conv => lhs; simp) (by first | rfl | simp) (by first | rfl | simp) ?_
    refine s_loopn ((x :: xs).length) (fun j fr σ => fr = [(1, .ptr 0 0 0 []), (2, .ptr 1 0 0 []), (27, .ref 16 1 0 (x :: xs).length), (28, i64 (x :: xs).length), (29, i64 j)] ∧ σ = [some (.cells 45 0 [.agg 45 [i64 ins, i64 now, i64 util, i64 dem, .bool set, eConf conf, ePol pol, eSta st, eHold hold, eSim sim, .ref 16 1 0 (x :: xs).length, eProbe pr]]), some (.cells 45 0 [tE.zero 45]), none, none, none, none, none, none, none, none, none, none, none, none, none, none, some (.cells 40 1 ((x :: xs).map eSim))]) ?_ ⟨by simp, by first | rfl | simp⟩
    rintro j fr σ hj ⟨rfl, rfl⟩ ih
    have hgj := hg j
    generalize x :: xs = L at *
    have hset : (L.map eSim).set j (eSim (gt L j)) = L.map eSim := by
      apply List.ext_getElem?
      intro i
      rw [List.getElem?_set]
      split
      · rename_i e; subst e
        by_cases hj2 : j < L.length
        · have e : gt L j = L[j] := by simp [gt, hj2]
          rw [e]; simp [hj2]
        · simp [hj2]
      · rfl
    refine s_round hc9 ?_
    have F9 := @hset
    repeat' (first | refine gf ?_ | refine s_seq fun y9 hy9 => ?_ | refine qT _ ?_ ?_ | refine qG _ ?_ ?_ | refine qN ?_ ?_ | (refine QB.mk fun hb9 => ?_; (try simp only [hb9]); (try simp at hb9); first | (exfalso; omega) | subst hb9 | skip) | refine sD tOK tmix [([],0),([],1),([1],2),([0,1,2],3),([],4),([],5),([5],6),([5,6],7),([0,1,2,3,4,5,6,7],8),([0,1,2,3,5,6,7],9),([0,1,2,3,4,5,6,7,8,9],10),([0,1,2,3,4,5,6,7,8,9,10],11),([0,1,2,3,4,5,6,7,8,9,10,11],12),([0,1,2,3,4,5,6,7,8,9,10,11,12],13)] 10 ?_ | refine sD tOK tmix [([],0),([0],1),([],2),([],3),([3],4),([0,1,2,3,4],5),([0,1,2,3,4,5],6)] 5 ?_ | refine qD _ ?_ ?_ | (refine nZ ?_; refine (C_fown hgj) ?_) | (apply d_call []; exact rfl; (solve | (conv => lhs; try simp [hset])); (solve | exact rfl | simp); (solve | (conv => lhs; try simp [hset])); intro τ hτ; refine nZ ?_; first | exact (C_fown hgj) ⟨rfl, rfl⟩))
    · refine w_back 17 [1, 2, 27, 28, 29] (by conv => lhs; simp) (by conv => lhs; simp) (by first | rfl | simp) (by first | rfl | simp) ?_
      exact ih hb9 _ _ ⟨by simp, rfl⟩
    · exact h
end
end Go.Proofs.YtncbfppafgjdiaaGreat
end
section
/- What a controller knows, its own: the document. -/
set_option linter.unusedVariables false
set_option linter.unusedSimpArgs false
set_option maxRecDepth 20000
namespace Go.Proofs.YtncbfppafgjdiaaGreat
open Go
attribute [local irreducible] T TL C RG DP SP YR afterRG DPcall
attribute [-simp] List.map_set
section
variable {R : Re → Store → Prop} {σ : Store}
theorem R_lown {l : LiveV} (hl : lenL l) (h : R (.ret (eLive l)) σ) : C tE 29 [eLive l] σ R := by
  obtain ⟨h1, h2, h3, h4, h5⟩ := hl
  have hg := gt_all (P := fun x : SimV => lenS x) h5 ⟨⟨by decide, by decide⟩, by decide, by decide⟩
  refine C_pure tOK (by simp) ?_
  obtain ⟨ins, now, util, dem, set, conf, pol, st, hold, sim, shd, pr⟩ := l
  simp only at h1 h2 h3 h4 h5 hg
  have mm := mf_eSim shd
  refine s_body' Tryz.func29 tOK rfl (by conv => lhs; simp) (by conv => lhs; simp) (by conv => lhs; simp [Fr.args]) rfl (by conv => lhs; try simp) fun R9 hR9 => ?_
  repeat' (first | refine go ?_ | refine s_seq fun y9 hy9 => ?_ | refine qT _ ?_ ?_ | refine qG _ ?_ ?_ | refine qN ?_ ?_ | (refine QB.mk fun hb9 => ?_; (try simp only [hb9]); (try simp at hb9); first | (exfalso; omega) | subst hb9 | skip) | (refine nZ ?_; first | refine (R_pown h1) ?_ | refine (R_pown h2) ?_ | refine (R_fown h3) ?_))
  have tk : ∀ j, j < shd.length → shd.take (j + 1) = shd.take j ++ [gt shd j] := fun j hj => by rw [List.take_add_one, gq hj]; rfl
  have tl : ∀ j, j ≤ shd.length → (shd.take j).length = j := fun j hj => by simp; omega
  have tz : shd.take shd.length = shd := List.take_length
  have t0 : shd.take 0 = [] := rfl
  generalize hT : (fun j => shd.take j) = T at *
  have hT' : ∀ j, shd.take j = T j := fun j => by rw [← hT]
  simp only [hT'] at tk tl tz t0
  refine s_loop fun c9 hc9 => ?_
  refine w_trim 2 [1, 2, 3, 4] (by conv => lhs; simp) (by conv => lhs; simp) (by first | rfl | simp) (by first | rfl | simp) ?_
  refine s_loopn shd.length (fun j fr σ => (j = 0 ∧ fr = [(1, .ptr 0 0 0 []), (2, .ptr 1 0 0 []), (3, .nils), (4, i64 (0 : Nat))] ∧ σ = [some (.cells 45 0 [.agg 45 [i64 ins, i64 now, i64 util, i64 dem, .bool set, eConf conf, ePol pol, eSta st, eHold hold, eSim sim, .lit (shd.map eSim), eProbe pr]]), some (.cells 45 0 [tE.zero 45])]) ∨ (0 < j ∧ fr = [(1, .ptr 0 0 0 []), (2, .ptr 1 0 0 []), (3, .ref 3 (j - 1) 0 j), (4, i64 j)] ∧
    σ = [some (.cells 45 0 [.agg 45 [i64 ins, i64 now, i64 util, i64 dem, .bool set, eConf conf, ePol pol, eSta st, eHold hold, eSim sim, .lit (shd.map eSim), eProbe pr]]), some (.cells 45 0 [tE.zero 45]), some (.cells 40 0 [eSim (gt shd 0)]), some (.cells 40 (j - 1) ((T j).map eSim))])) ?_ (.inl ⟨rfl, by simp, by first | rfl | simp⟩)
  rintro j fr σ hj hS ih
  have hgj := hg j
  have htk := tk j
  have htl := tl j hj
  rcases hS with ⟨rfl, rfl, rfl⟩ | ⟨hj0, rfl, rfl⟩
  · refine s_round hc9 ?_
    have F9 := @mm
    repeat' (first | refine gf ?_ | refine s_seq fun y9 hy9 => ?_ | refine qT _ ?_ ?_ | refine qG _ ?_ ?_ | refine qN ?_ ?_ | (refine QB.mk fun hb9 => ?_; (try simp only [hb9]); (try simp at hb9); first | (exfalso; omega) | subst hb9 | skip) | (refine nZ ?_; first | refine (R_fown hgj) ?_ | refine (R_pown h2) ?_))
    · refine w_back 4 [1, 2, 3, 4] (by conv => lhs; simp) (by conv => lhs; simp) (by first | rfl | simp) (by first | rfl | simp) ?_
      exact ih (by assumption) _ _ (.inr ⟨by omega, by simp, by simp [htk (by assumption), t0]⟩)
    · exact fin_v h (by simp)
  · have htt : ((T j).map eSim).take j = (T j).map eSim := List.take_of_length_le (by simp [htl])
    refine s_round hc9 ?_
    have F9 := And.intro @mm <| And.intro @htl <| @htt
    repeat' (first | refine gf ?_ | refine s_seq fun y9 hy9 => ?_ | refine qT _ ?_ ?_ | refine qG _ ?_ ?_ | refine qN ?_ ?_ | (refine QB.mk fun hb9 => ?_; (try simp only [hb9]); (try simp at hb9); first | (exfalso; omega) | subst hb9 | skip) | (refine nZ ?_; first | refine (R_fown hgj) ?_ | refine (R_pown h2) ?_))
    · refine w_back 4 [1, 2, 3, 4] (by conv => lhs; simp) (by conv => lhs; simp) (by first | rfl | simp) (by first | rfl | simp) ?_
      have e1 : j - 1 + 1 = j + 1 - 1 := by omega
      exact ih (by assumption) _ _ (.inr ⟨by omega, by simp [e1], by simp [htk (by assumption), e1]⟩)
    · have hn : T j = shd := by rw [show j = shd.length by omega, tz]
      exact fin_v h (by simp [hn])
end
end Go.Proofs.YtncbfppafgjdiaaGreat
end
section
/- Helpers of the statements. -/
set_option linter.unusedVariables false
set_option linter.unusedSimpArgs false
set_option maxRecDepth 20000
namespace Go.Proofs.YtncbfppafgjdiaaGreat
open Go
attribute [local irreducible] T TL C RG DP SP YR afterRG DPcall
attribute [-simp] List.map_set
/-- An event that is too much. -/
def greatE (e : EvV) : Bool := decide (60 < e.pol.bands.length) || decide (60 < e.pol.slots.length) || decide (3000 < e.body.length)
/-- The statements' plain configuration. -/
def plainC : ConfV := ⟨1, 20, 4, 3, 100, 1, 50, 4, 2, 1, 3, 1⟩
section
variable {R : Re → Store → Prop} {σ : Store}
theorem R_in {e : EvV} (h : R (.ret (.bool (inEv e))) σ) : C tE 28 [eEv e] σ R := by
  unfold inEv at h
  rw [wth_b] at h
  refine C_pure tOK (by simp) ?_
  refine s_body' Tryz.func28 tOK rfl (by conv => lhs; simp) (by conv => lhs; simp) (by conv => lhs; simp [Fr.args]) rfl (by conv => lhs; try simp) fun R9 hR9 => ?_
  repeat' (first | refine go ?_ | refine s_seq fun y9 hy9 => ?_ | refine qT _ ?_ ?_ | refine qG _ ?_ ?_ | refine qN ?_ ?_ | (refine QB.mk fun hb9 => ?_; (try simp only [hb9]); (try simp at hb9); first | (exfalso; omega) | subst hb9 | skip))
  all_goals exact fin_b h (by first | exact decide_eq_decide.2 (by omega) | exact decide_eq_false (by omega) | (rw [Bool.eq_iff_iff]; simp; omega))
theorem L_tick {t : Int} (h : R (.ret (eEv { kind := 2, t := t })) σ) : C tE 26 [i64 t] σ R := by
  refine C_pure tOK (by simp) ?_
  refine s_body' Tryz.func26 tOK rfl (by conv => lhs; simp) (by conv => lhs; simp) (by conv => lhs; simp [Fr.args]) rfl (by conv => lhs; try simp) fun R9 hR9 => ?_
  repeat' (first | refine go ?_ | refine s_seq fun y9 hy9 => ?_ | refine qT _ ?_ ?_ | refine qG _ ?_ ?_ | refine qN ?_ ?_ | (refine QB.mk fun hb9 => ?_; (try simp only [hb9]); (try simp at hb9); first | (exfalso; omega) | subst hb9 | skip))
  exact h
theorem L_sample {u d : Int} (h : R (.ret (eEv { kind := 1, util := u, demand := d })) σ) : C tE 33 [i64 u, i64 d] σ R := by
  refine C_pure tOK (by simp) ?_
  refine s_body' Tryz.func33 tOK rfl (by conv => lhs; simp) (by conv => lhs; simp) (by conv => lhs; simp [Fr.args]) rfl (by conv => lhs; try simp) fun R9 hR9 => ?_
  repeat' (first | refine go ?_ | refine s_seq fun y9 hy9 => ?_ | refine qT _ ?_ ?_ | refine qG _ ?_ ?_ | refine qN ?_ ?_ | (refine QB.mk fun hb9 => ?_; (try simp only [hb9]); (try simp at hb9); first | (exfalso; omega) | subst hb9 | skip))
  exact h
theorem L_conf {c : ConfV} (h : R (.ret (eEv { kind := 4, conf := c })) σ) : C tE 32 [eConf c] σ R := by
  refine C_pure tOK (by simp) ?_
  refine s_body' Tryz.func32 tOK rfl (by conv => lhs; simp) (by conv => lhs; simp) (by conv => lhs; simp [Fr.args]) rfl (by conv => lhs; try simp) fun R9 hR9 => ?_
  repeat' (first | refine go ?_ | refine s_seq fun y9 hy9 => ?_ | refine qT _ ?_ ?_ | refine qG _ ?_ ?_ | refine qN ?_ ?_ | (refine QB.mk fun hb9 => ?_; (try simp only [hb9]); (try simp at hb9); first | (exfalso; omega) | subst hb9 | skip))
  exact h
theorem L_track {t : Int} (h : R (.ret (ePol { kind := 1, target := t })) σ) : C tE 24 [i64 t] σ R := by
  refine C_pure tOK (by simp) ?_
  refine s_body' Tryz.func24 tOK rfl (by conv => lhs; simp) (by conv => lhs; simp) (by conv => lhs; simp [Fr.args]) rfl (by conv => lhs; try simp) fun R9 hR9 => ?_
  repeat' (first | refine go ?_ | refine s_seq fun y9 hy9 => ?_ | refine qT _ ?_ ?_ | refine qG _ ?_ ?_ | refine qN ?_ ?_ | (refine QB.mk fun hb9 => ?_; (try simp only [hb9]); (try simp at hb9); first | (exfalso; omega) | subst hb9 | skip))
  exact h
theorem L_pol {i : Int} {p : PolV} (h : R (.ret (eEv { kind := 3, id := i, pol := p })) σ) : C tE 23 [i64 i, ePol p] σ R := by
  refine C_pure tOK (by simp) ?_
  refine s_body' Tryz.func23 tOK rfl (by conv => lhs; simp) (by conv => lhs; simp) (by conv => lhs; simp [Fr.args]) rfl (by conv => lhs; try simp) fun R9 hR9 => ?_
  repeat' (first | refine go ?_ | refine s_seq fun y9 hy9 => ?_ | refine qT _ ?_ ?_ | refine qG _ ?_ ?_ | refine qN ?_ ?_ | (refine QB.mk fun hb9 => ?_; (try simp only [hb9]); (try simp at hb9); first | (exfalso; omega) | subst hb9 | skip))
  exact h
theorem L_great1 {e : EvV} (l1 : e.pol.bands.length ≤ 9223372036854775807) (l2 : e.pol.slots.length ≤ 9223372036854775807) (l3 : e.body.length ≤ 9223372036854775807) (h : R (.ret (.bool (greatE e))) σ) : C tE 27 [eEv e] σ R := by
  unfold greatE at h
  have hbe : (((u8l e.body).length : Nat) : Int) = (e.body.length : Int) := by simp [u8l]
  refine C_pure tOK (by simp) ?_
  refine s_body' Tryz.func27 tOK rfl (by conv => lhs; simp) (by conv => lhs; simp) (by conv => lhs; simp [Fr.args]) rfl (by conv => lhs; try simp) fun R9 hR9 => ?_
  have F9 := @hbe
  repeat' (first | refine gf ?_ | refine s_seq fun y9 hy9 => ?_ | refine qT _ ?_ ?_ | refine qG _ ?_ ?_ | refine qN ?_ ?_ | (refine QB.mk fun hb9 => ?_; (try simp only [hb9]); (try simp at hb9); first | (exfalso; omega) | subst hb9 | skip))
  all_goals exact fin_b h (by rw [Bool.eq_iff_iff]; simp; omega)
theorem L_plain (h : R (.ret (eConf plainC)) σ) : C tE 31 [] σ R := by
  refine C_pure tOK (by simp) ?_
  refine s_body' Tryz.func31 tOK rfl (by conv => lhs; simp) (by conv => lhs; simp) (by conv => lhs; simp [Fr.args]) rfl (by conv => lhs; try simp) fun R9 hR9 => ?_
  repeat' (first | refine go ?_ | refine s_seq fun y9 hy9 => ?_ | refine qT _ ?_ ?_ | refine qG _ ?_ ?_ | refine qN ?_ ?_ | (refine QB.mk fun hb9 => ?_; (try simp only [hb9]); (try simp at hb9); first | (exfalso; omega) | subst hb9 | skip))
  exact h
/-- Events that are too much, of a row. -/
def greatL (l : List EvV) : Bool := (l.take 90).any greatE || decide (80 < l.length)
theorem L_great {l : List EvV} (hl : l.length ≤ 9223372036854775807) (hE : ∀ e ∈ l, e.pol.bands.length ≤ 9223372036854775807 ∧ e.pol.slots.length ≤ 9223372036854775807 ∧ e.body.length ≤ 9223372036854775807)
    (h : R (.ret (.bool (greatL l))) σ) : C tE 11 [.lit (l.map eEv)] σ R := by
  have hg := gt_all (P := fun e : EvV => e.pol.bands.length ≤ 9223372036854775807 ∧ e.pol.slots.length ≤ 9223372036854775807 ∧ e.body.length ≤ 9223372036854775807) hE (by decide)
  have hany : ∀ j, j < l.length → j < 90 → greatE (gt l j) = true → (l.take 90).any greatE = true := fun j h1 h2 h3 => by
    rw [List.any_eq_true]
    refine ⟨gt l j, ?_, h3⟩
    have e : gt l j = (l.take 90)[j]'(by simp; omega) := by simp [gt, h1]
    rw [e]; exact List.getElem_mem _
  have hno : ∀ j, (j = l.length ∨ j = 90) → (∀ k, k < j → greatE (gt l k) = false) → (l.take 90).any greatE = false := fun j h1 h2 => by
    rw [List.any_eq_false]
    intro x hx
    obtain ⟨k, hk, rfl⟩ := List.getElem_of_mem hx
    have hk2 : k < l.length ∧ k < 90 := by simp at hk; omega
    have e : (l.take 90)[k] = gt l k := by simp [gt, hk2.1]
    rw [e, h2 k (by omega)]; simp
  unfold greatL at h
  generalize (l.take 90).any greatE = A at *
  refine C_pure tOK (by simp) ?_
  refine s_body' Tryz.func11 tOK rfl (by conv => lhs; simp) (by conv => lhs; simp) (by conv => lhs; simp [Fr.args]) rfl (by conv => lhs; try simp) fun R9 hR9 => ?_
  repeat' (first | refine go ?_ | refine s_seq fun y9 hy9 => ?_ | refine qT _ ?_ ?_ | refine qG _ ?_ ?_ | refine qN ?_ ?_ | (refine QB.mk fun hb9 => ?_; (try simp only [hb9]); (try simp at hb9); first | (exfalso; omega) | subst hb9 | skip))
  refine s_loop fun c9 hc9 => ?_
  refine w_trim 0 [0, 3] (by conv => lhs; simp) (by conv => lhs; simp) (by first | rfl | simp) (by first | rfl | simp) ?_
  refine s_loopn (l.length) (fun j fr σ => fr = [(0, .lit (l.map eEv)), (3, i64 j)] ∧ σ = [] ∧ j ≤ 90 ∧ ∀ k, k < j → greatE (gt l k) = false) ?_ ⟨by simp, by first | rfl | simp, by first | (intros; omega) | simp⟩
  rintro j fr σ hj ⟨rfl, rfl, hS⟩ ih
  obtain ⟨hS1, hS2⟩ := hS
  have hgj := hg j
  refine s_round hc9 ?_
  repeat' (first | refine go ?_ | refine s_seq fun y9 hy9 => ?_ | refine qT _ ?_ ?_ | refine qG _ ?_ ?_ | refine qN ?_ ?_ | (refine QB.mk fun hb9 => ?_; (try simp only [hb9]); (try simp at hb9); first | (exfalso; omega) | subst hb9 | skip) | (refine nZ ?_; refine (L_great1 hgj.1 hgj.2.1 hgj.2.2) ?_))
  all_goals first
    | (have hA : A = true := hany j (by assumption) (by omega) (by assumption)
       exact fin_b h (by rw [hA]; rfl))
    | (have hA : A = false := hno j (by omega) hS2
       exact fin_b h (by rw [hA]; simp; omega))
    | (refine w_back 0 [0, 3] (by conv => lhs; simp) (by conv => lhs; simp) (by first | rfl | simp) (by first | rfl | simp) ?_
       refine ih (by assumption) _ _ ⟨by simp, rfl, by omega, fun k hk => ?_⟩
       rcases Nat.lt_or_ge k j with h2 | h2
       · exact hS2 k h2
       · have : k = j := by omega
         subst this; assumption)
    | skip
  all_goals fail
end
end Go.Proofs.YtncbfppafgjdiaaGreat
end
section
/- Shadows that are there; what is known, alike. -/
set_option linter.unusedVariables false
set_option linter.unusedSimpArgs false
set_option maxRecDepth 20000
namespace Go.Proofs.YtncbfppafgjdiaaGreat
open Go
attribute [local irreducible] T TL C RG DP SP YR afterRG DPcall
attribute [-simp] List.map_set
section
variable {R : Re → Store → Prop} {σ : Store}
theorem R_there {l : LiveV} (hl : l.shadows.length ≤ 1000) (h : R (.ret (eLive (thereL l))) σ) : C tE 41 [eLive l] σ R := by
  unfold thereL at h
  refine C_pure tOK (by simp) ?_
  obtain ⟨ins, now, util, dem, set, conf, pol, st, hold, sim, shd, pr⟩ := l
  match shd, hl, h with
  | [], hl, h =>
    refine s_body' Tryz.func41 tOK rfl (by conv => lhs; simp) (by conv => lhs; simp) (by conv => lhs; simp [Fr.args]) rfl (by conv => lhs; try simp) fun R9 hR9 => ?_
    repeat' (first | refine go ?_ | refine s_seq fun y9 hy9 => ?_ | refine qT _ ?_ ?_ | refine qG _ ?_ ?_ | refine qN ?_ ?_ | (refine QB.mk fun hb9 => ?_; (try simp only [hb9]); (try simp at hb9); first | (exfalso; omega) | subst hb9 | skip) | refine w_loop fun y9 hy9 => ?_ | (apply w_again; assumption))
    exact fin_v h (by simp [List.replicate])
  | [a], hl, h =>
    refine s_body' Tryz.func41 tOK rfl (by conv => lhs; simp) (by conv => lhs; simp) (by conv => lhs; simp [Fr.args]) rfl (by conv => lhs; try simp) fun R9 hR9 => ?_
    repeat' (first | refine go ?_ | refine s_seq fun y9 hy9 => ?_ | refine qT _ ?_ ?_ | refine qG _ ?_ ?_ | refine qN ?_ ?_ | (refine QB.mk fun hb9 => ?_; (try simp only [hb9]); (try simp at hb9); first | (exfalso; omega) | subst hb9 | skip) | refine w_loop fun y9 hy9 => ?_ | (apply w_again; assumption))
    exact fin_v h (by simp [List.replicate])
  | [a, b], hl, h =>
    refine s_body' Tryz.func41 tOK rfl (by conv => lhs; simp) (by conv => lhs; simp) (by conv => lhs; simp [Fr.args]) rfl (by conv => lhs; try simp) fun R9 hR9 => ?_
    repeat' (first | refine go ?_ | refine s_seq fun y9 hy9 => ?_ | refine qT _ ?_ ?_ | refine qG _ ?_ ?_ | refine qN ?_ ?_ | (refine QB.mk fun hb9 => ?_; (try simp only [hb9]); (try simp at hb9); first | (exfalso; omega) | subst hb9 | skip) | refine w_loop fun y9 hy9 => ?_ | (apply w_again; assumption))
    exact fin_v h (by simp [List.replicate])
  | a :: b :: c :: r, hl, h =>
    simp only [List.length_cons] at hl
    refine s_body' Tryz.func41 tOK rfl (by conv => lhs; simp) (by conv => lhs; simp) (by conv => lhs; simp [Fr.args]) rfl (by conv => lhs; try simp) fun R9 hR9 => ?_
    repeat' (first | refine go ?_ | refine s_seq fun y9 hy9 => ?_ | refine qT _ ?_ ?_ | refine qG _ ?_ ?_ | refine qN ?_ ?_ | (refine QB.mk fun hb9 => ?_; (try simp only [hb9]); (try simp at hb9); first | (exfalso; omega) | subst hb9 | skip) | refine w_loop fun y9 hy9 => ?_ | (apply w_again; assumption))
    exact fin_v h (by simp)
theorem R_same {l : LiveV} (hl : lenL l) (h : R (.ret (.bool true)) σ) : C tE 14 [eLive l, eLive l] σ R := by
  obtain ⟨h1, h2, h3, h4, h5⟩ := hl
  have hx : ∀ x ∈ (thereL l).shadows, lenS x := fun x hx => by
    rcases List.mem_append.1 hx with hx | hx
    · exact h5 x hx
    · rw [List.eq_of_mem_replicate hx]; exact ⟨⟨by decide, by decide⟩, by decide, by decide⟩
  have hn : (thereL l).shadows.length ≤ 2000 := by simp only [thereL, List.length_append, List.length_replicate]; omega
  have ct : ∀ {R : Re → Store → Prop} {σ : Store}, R (.ret (eLive (thereL l))) σ → C tE 41 [eLive l] σ R := fun h => R_there h4 h
  generalize thereL l = m at *
  obtain ⟨ins, now, util, dem, set, conf, pol, st, hold, sim, shd, pr⟩ := m
  simp only at hx hn
  have hg := gt_all (P := fun x : SimV => lenS x) hx ⟨⟨by decide, by decide⟩, by decide, by decide⟩
  refine C_pure tOK (by simp) ?_
  refine s_body' Tryz.func14 tOK rfl (by conv => lhs; simp) (by conv => lhs; simp) (by conv => lhs; simp [Fr.args]) rfl (by conv => lhs; try simp) fun R9 hR9 => ?_
  repeat' (first | refine go ?_ | refine s_seq fun y9 hy9 => ?_ | refine qT _ ?_ ?_ | refine qG _ ?_ ?_ | refine qN ?_ ?_ | (refine QB.mk fun hb9 => ?_; (try simp only [hb9]); (try simp at hb9); first | (exfalso; omega) | subst hb9 | skip) | refine sD tOK tmix [([],0),([],1),([0,1],2),([0,1,2],3),([],4),([],5),([4,5],6),([4,5,6],7),([0,1,2,3,4,5,6,7],8),([0,1,2,3,4,5,6,7,8],9)] 8 ?_ | refine qD _ ?_ ?_ | (refine nZ ?_; first | refine (R_samepol h1) ?_ | refine (R_samesim h3) ?_ | refine (R_sameprobe h2) ?_ | refine ct ?_) | (apply d_call []; exact rfl; (solve | (conv => lhs; try simp)); (solve | exact rfl | simp); (solve | (conv => lhs; try simp)); intro τ hτ; refine nZ ?_; first | exact (R_samepol h1) ⟨rfl, rfl⟩ | exact (R_samesim h3) ⟨rfl, rfl⟩ | exact (R_sameprobe h2) ⟨rfl, rfl⟩ | exact ct ⟨rfl, rfl⟩))
  refine s_loop fun c9 hc9 => ?_
  refine w_trim 0 [5, 6, 7, 8, 9] (by conv => lhs; simp) (by conv => lhs; simp) (by first | rfl | simp) (by first | rfl | simp) ?_
  refine s_loopn (shd.length) (fun j fr σ => fr = [(5, .bool true), (6, .bool true), (7, .lit (shd.map eSim)), (8, .lit (shd.map eSim)), (9, i64 j)] ∧ σ = []) ?_ ⟨by simp, by first | rfl | simp⟩
  rintro j fr σ hj ⟨rfl, rfl⟩ ih
  have hgj := hg j
  refine s_round hc9 ?_
  repeat' (first | refine go ?_ | refine s_seq fun y9 hy9 => ?_ | refine qT _ ?_ ?_ | refine qG _ ?_ ?_ | refine qN ?_ ?_ | (refine QB.mk fun hb9 => ?_; (try simp only [hb9]); (try simp at hb9); first | (exfalso; omega) | subst hb9 | skip) | refine sD tOK tmix [([],0),([],1),([0,1],2),([0,1,2],3),([],4),([],5),([4,5],6),([4,5,6],7),([0,1,2,3,4,5,6,7],8),([0,1,2,3,4,5,6,7,8],9)] 8 ?_ | refine qD _ ?_ ?_ | (refine nZ ?_; refine (R_samesim hgj) ?_) | (apply d_call []; exact rfl; (solve | (conv => lhs; try simp)); (solve | exact rfl | simp); (solve | (conv => lhs; try simp)); intro τ hτ; refine nZ ?_; first | exact (R_samesim hgj) ⟨rfl, rfl⟩))
  · (refine w_back 0 [5, 6, 7, 8, 9] (by conv => lhs; simp) (by conv => lhs; simp) (by first | rfl | simp) (by first | rfl | simp) ?_; exact ih (by assumption) _ _ ⟨by first | (simp; done) | (simp; omega), by first | rfl | (simp; done)⟩)
  · exact h
end
end Go.Proofs.YtncbfppafgjdiaaGreat
end
section
/- What a controller knows, as it may be: it stays so. -/
set_option linter.unusedVariables false
set_option linter.unusedSimpArgs false
set_option maxRecDepth 20000
namespace Go.Proofs.YtncbfppafgjdiaaGreat
open Go
/-- A policy that runs, its marks too. -/
structure okS (x : SimV) : Prop where
  ask : askP x.pol
  sim : okSim x
  marks : okM x.marks
structure okL (l : LiveV) : Prop where
  ins : 0 ≤ l.ins ∧ l.ins ≤ 1099511627776
  now : 0 ≤ l.now ∧ l.now ≤ 1099511627776
  conf : l.set_ = true → okConf l.conf = true
  pol : askP l.pol
  ppol : askP l.probe.pol
  hold : 0 ≤ l.hold.last ∧ l.hold.last ≤ 1099511627776
  sim : okS l.sim
  n : l.shadows.length = 0 ∨ l.shadows.length = 3
  shd : ∀ x ∈ l.shadows, okS x
  pr : 0 ≤ l.probe.left ∧ l.probe.left ≤ 1000 ∧ 0 ≤ l.probe.bad ∧ l.probe.bad ≤ 1073741824
theorem askP_zero : askP {} := ⟨⟨by decide, by decide⟩, fun i j h1 h2 => by simp at h2, by simp, by simp, by decide, by simp⟩
theorem okPl_new (n : Int) : okPl (newPl n) := ⟨by simp only [newPl]; omega, by simp [newPl], by simp only [newPl, allPl, List.sum_nil]; omega, by simp [newPl]⟩
theorem okS_new {p : PolV} {s : StaV} {h : HoldV} (hp : askP p) (h0 : 0 ≤ h.last) (h1 : h.last ≤ 1099511627776) : okS (newSim p s h) :=
  ⟨hp, ⟨fun _ => hp, ⟨hp.len, by simp [newSim, newPl], by simp [newSim]⟩, okPl_new _, h0, h1⟩, ⟨by simp [newSim], by simp [newSim]⟩⟩
theorem okS_zero : okS {} := ⟨askP_zero, ⟨fun _ => askP_zero, ⟨askP_zero.len, by simp, by simp⟩, ⟨by decide, by simp, by decide, by simp⟩, by decide, by decide⟩, ⟨by simp, by simp⟩⟩
theorem okL_zero : okL {} := ⟨by decide, by decide, by decide, askP_zero, askP_zero, by decide, okS_zero, by simp, by simp, by decide⟩
theorem okL.len {l : LiveV} (h : okL l) : lenL l := ⟨h.pol.len, h.ppol.len, h.sim.sim.len, by have := h.n; omega, fun x hx => (h.shd x hx).sim.len⟩
theorem lim_last {c : ConfV} {h : HoldV} {w now : Int} (n0 : 0 ≤ now) (n1 : now ≤ 1099511627776) (h0 : 0 ≤ h.last) (h1 : h.last ≤ 1099511627776) : 0 ≤ (limN c h w now).last ∧ (limN c h w now).last ≤ 1099511627776 := by
  unfold limN
  simp only
  have e : (intoH c h).last = h.last := rfl
  split
  · exact ⟨n0, n1⟩
  · split
    · rw [e]; exact ⟨h0, h1⟩
    · show 0 ≤ (intoH c h).last ∧ _; rw [e]; exact ⟨h0, h1⟩
theorem addM_len {w : Int} {l : List MarkV} {m : MarkV} (hw : w ≤ 1000) : (addM w l m).length ≤ 1000 := by
  simp only [addM, List.length_drop, List.length_append, List.length_cons, List.length_nil]; omega
theorem addM_mem {w : Int} {l : List MarkV} {m x : MarkV} (h : x ∈ addM w l m) : x ∈ l ∨ x = m := by
  have := List.mem_of_mem_drop h
  rcases List.mem_append.1 this with h | h
  · exact .inl h
  · exact .inr (by simpa using h)
theorem okPl.step {c : ConfV} {p : PlantV} {w d : Int} (h : okPl p) (d0 : 0 ≤ c.delay) (d1 : c.delay ≤ 1000) : okPl (stepPl c p w d).1 ∧ (stepPl c p w d).2.cost = intoR w := by
  rw [stepPl_eq]
  obtain ⟨h1, h2⟩ := h.come.sized (w := w) d0 d1
  generalize sizePl c.delay (comePl p) w = q at *
  obtain ⟨a, b, e, f⟩ := h1
  have hs : allPl (finPl c q d).1 = allPl q := by simp only [finPl, allPl, trimZ_sum]
  refine ⟨⟨a, fun n hn => b n (trimZ_mem hn), by rw [hs]; exact e, ?_⟩, by show allPl (finPl c q d).1 = _; rw [hs, h2]⟩
  exact Nat.le_trans (trimZ_len _) f
theorem okS.step {c : ConfV} {x : SimV} {d now : Int} (hc : okConf c = true) (hx : okS x) (n0 : 0 ≤ now) (n1 : now ≤ 1099511627776) : okS (stepSim c x d now) := by
  rw [okConf_b, decide_eq_true_eq] at hc
  unfold stepSim
  split
  · exact hx
  · obtain ⟨ask, ⟨a2, ⟨b1, b2, b3⟩, pl, l0, l1⟩, m1, m2⟩ := hx
    simp only
    obtain ⟨p1, p2⟩ := okPl.step (c := c) (w := (limN c x.hold (nextP x.pol x.state (intoH c x.hold).cur x.plant.util now).2 now).cur) (d := d) pl (by omega) (by omega)
    have hl := lim_last (c := c) (w := (nextP x.pol x.state (intoH c x.hold).cur x.plant.util now).2) n0 n1 l0 l1
    generalize limN c x.hold (nextP x.pol x.state (intoH c x.hold).cur x.plant.util now).2 now = H at *
    generalize hq : stepPl c x.plant H.cur d = q at *
    have hlen : (addM c.window x.marks q.2).length ≤ 1000 := addM_len (by omega)
    refine ⟨ask, ⟨fun _ => ask, ⟨b1, ?_, by show (addM c.window x.marks q.2).length ≤ 10000; omega⟩, p1, hl.1, hl.2⟩, by show (addM c.window x.marks q.2).length ≤ 10000; omega, fun m hm => ?_⟩
    · have := p1.len; show q.1.start.length ≤ 10000; omega
    · rcases addM_mem hm with hm | rfl
      · exact m2 m hm
      · rw [p2]; have := intoR_lo H.cur; have := intoR_hi H.cur; omega
theorem upB_of {l : List BandV} (h : l.Pairwise fun a b => a.above < b.above) : upB l := fun i j h1 h2 => by
  have hi : i < l.length := by omega
  have := (List.pairwise_iff_getElem.1 h) i j hi h2 h1
  simpa [gt, hi, h2] using this
theorem askP_ok {p : PolV} (h : okPol p = true) : askP p := by
  unfold okPol at h
  split at h
  · rename_i hk
    simp only [Bool.and_eq_true, noB, noS, List.isEmpty_iff] at h
    refine ⟨⟨by simp [h.1.1.2], by simp [h.2.2]⟩, by rw [h.1.1.2]; exact fun i j h1 h2 => by simp at h2, by simp [h.1.1.2], by simp [h.2.2], by omega, by omega⟩
  · split at h
    · rename_i hk
      simp only [Bool.and_eq_true, noS, List.isEmpty_iff, wth, decide_eq_true_eq, risingB, List.all_eq_true] at h
      obtain ⟨⟨⟨⟨⟨h1, h2⟩, h3⟩, h4⟩, h5⟩, h6⟩ := h
      refine ⟨⟨by omega, by simp [h6.2]⟩, upB_of h1.2, fun b hb => by have := h2 b hb; omega, by simp [h6.2], by omega, by omega⟩
    · split at h
      · rename_i hk
        simp only [Bool.and_eq_true, noB, noS, List.isEmpty_iff] at h
        refine ⟨⟨by simp [h.1.2], by simp [h.2.2]⟩, by rw [h.1.2]; exact fun i j h1 h2 => by simp at h2, by simp [h.1.2], by simp [h.2.2], by omega, by omega⟩
      · split at h
        · rename_i hk
          simp only [Bool.and_eq_true, noB, List.isEmpty_iff, wth, decide_eq_true_eq, risingS, List.all_eq_true] at h
          obtain ⟨⟨⟨⟨⟨⟨⟨h1, h2⟩, h3⟩, h4⟩, h5⟩, h6⟩, h7⟩, h8⟩ := h
          refine ⟨⟨by simp [h7], by omega⟩, by rw [h7]; exact fun i j h1 h2 => by simp at h2, by simp [h7], fun b hb => by have := h2 b hb; omega, by omega, fun _ => h4⟩
        · exact absurd h (by simp)
theorem zeroPol_eq' {p : PolV} (h : zeroPol p = true) : p = {} := by simpa [zeroPol] using h
theorem okEv_pol {e : EvV} (h : okEv e = true) (hk : e.kind = 3) : askP e.pol ∧ 0 ≤ e.id ∧ e.id ≤ 3 ∧ (okPol e.pol = true ∨ e.id ≠ 0 ∧ e.pol = {}) := by
  unfold okEv at h
  rw [if_neg (by omega), if_neg (by omega), if_pos hk] at h
  simp only [Bool.and_eq_true, Bool.or_eq_true, wth, decide_eq_true_eq] at h
  obtain ⟨⟨h1, h2⟩, h3⟩ := h
  rcases h3 with h3 | ⟨h3, h4⟩
  · exact ⟨askP_ok h3, h2.1, h2.2, .inl h3⟩
  · have := zeroPol_eq' h4
    exact ⟨by rw [this]; exact askP_zero, h2.1, h2.2, .inr ⟨h3, this⟩⟩
theorem okEv_conf {e : EvV} (h : okEv e = true) (hk : e.kind = 4) : okConf e.conf = true := by
  unfold okEv at h
  rw [if_neg (by omega), if_neg (by omega), if_neg (by omega), if_pos hk] at h
  simp only [Bool.and_eq_true] at h
  exact h.2
theorem okL.adopt {l : LiveV} {p : PolV} {s : StaV} (h : okL l) (hp : askP p) : okL (adoptL l p s) :=
  ⟨h.ins, h.now, h.conf, hp, askP_zero, h.hold, okS_new hp h.hold.1 h.hold.2, h.n, h.shd, ⟨Int.le_refl _, by show (0 : Int) ≤ 1000; decide, Int.le_refl _, by show (0 : Int) ≤ 1073741824; decide⟩⟩
theorem okL.there {l : LiveV} (h : okL l) : okL (thereL l) := by
  refine ⟨h.ins, h.now, h.conf, h.pol, h.ppol, h.hold, h.sim, ?_, fun x hx => ?_, h.pr⟩
  · have := h.n; simp only [thereL, List.length_append, List.length_replicate]; omega
  · rcases List.mem_append.1 hx with hx | hx
    · exact h.shd x hx
    · rw [List.eq_of_mem_replicate hx]; exact okS_zero
theorem okL.put {l : LiveV} {k : Nat} {x : SimV} (h : okL l) (hx : okS x) : okL { l with shadows := l.shadows.set k x } := by
  refine ⟨h.ins, h.now, h.conf, h.pol, h.ppol, h.hold, h.sim, by simpa using h.n, fun y hy => ?_, h.pr⟩
  rcases List.mem_or_eq_of_mem_set hy with hy | rfl
  · exact h.shd y hy
  · exact hx
theorem okL.policy {l : LiveV} {e : EvV} (h : okL l) (hp : askP e.pol) : okL (policyL l e) := by
  unfold policyL
  split
  · exact h.adopt hp
  · simp only
    refine h.there.put ?_
    split
    · exact okS_zero
    · exact okS_new hp h.hold.1 h.hold.2
theorem okL.roll {l : LiveV} (h : okL l) : okL (rollL l) := by
  unfold rollL
  split
  · exact h.adopt h.ppol
  · exact h
theorem okL.decide {l : LiveV} (h : okL l) : okL (decideL l) := by
  unfold decideL
  simp only
  exact ⟨h.ins, h.now, h.conf, h.pol, h.ppol, lim_last h.now.1 h.now.2 h.hold.1 h.hold.2, h.sim, h.n, h.shd, h.pr⟩
theorem okL.run {l : LiveV} (h : okL l) (hc : okConf l.conf = true) : okL (runL l) := by
  refine ⟨h.ins, h.now, h.conf, h.pol, h.ppol, h.hold, h.sim.step hc h.now.1 h.now.2, by simpa [runL] using h.n, fun x hx => ?_, h.pr⟩
  simp only [runL, List.mem_map] at hx
  obtain ⟨y, hy, rfl⟩ := hx
  exact (h.shd y hy).step hc h.now.1 h.now.2
theorem gt_mem {α : Type} [Inhabited α] {l : List α} {k : Nat} (h : k < l.length) : gt l k ∈ l := by simp [gt, h]
theorem okL.judge {l : LiveV} (h : okL l) (hc : okConf l.conf = true) (hb : l.probe.on = true → l.probe.bad ≤ 32) : okL (judgeL l) := by
  rw [okConf_b, decide_eq_true_eq] at hc
  obtain ⟨p1, p2, p3, p4⟩ := h.pr
  unfold judgeL
  split
  · rename_i ho
    have hb' := hb ho
    obtain ⟨q, hq⟩ : ∃ q, tickPr l.probe (lastBad l.sim.marks) = q := ⟨_, rfl⟩
    have q1 : q.pol = l.probe.pol ∧ 0 ≤ q.left ∧ q.left ≤ 1000 ∧ 0 ≤ q.bad ∧ q.bad ≤ 1073741824 := by
      rw [← hq]
      simp only [tickPr, ho, if_true]
      refine ⟨trivial, by omega, by omega, ?_⟩
      split <;> omega
    simp only [hq]
    have q2 : askP (if overPr l.conf q = true then ({} : ProbeV) else q).pol ∧ 0 ≤ (if overPr l.conf q = true then ({} : ProbeV) else q).left ∧ (if overPr l.conf q = true then ({} : ProbeV) else q).left ≤ 1000 ∧ 0 ≤ (if overPr l.conf q = true then ({} : ProbeV) else q).bad ∧ (if overPr l.conf q = true then ({} : ProbeV) else q).bad ≤ 1073741824 := by
      split
      · exact ⟨askP_zero, by decide⟩
      · exact ⟨by rw [q1.1]; exact h.ppol, q1.2⟩
    exact ⟨h.ins, h.now, h.conf, h.pol, q2.1, h.hold, h.sim, h.n, h.shd, q2.2⟩
  · simp only
    split
    · exact h
    · have hx : okS (l.shadows.getD (pickS l.conf l.sim l.shadows - 1) {}) := gt_all (P := okS) h.shd okS_zero _
      generalize l.shadows.getD (pickS l.conf l.sim l.shadows - 1) {} = x at *
      have hL := h.put (k := pickS l.conf l.sim l.shadows - 1) okS_zero
      refine ⟨h.ins, h.now, h.conf, hx.ask, h.pol, h.hold, hx, hL.n, hL.shd, ?_⟩
      simp only [beginPr]; omega
theorem okL.nowL {l : LiveV} (h : okL l) (t : Int) : okL (nowL l t) := by
  obtain ⟨n0, n1⟩ := h.now
  refine ⟨h.ins, ?_, h.conf, h.pol, h.ppol, h.hold, h.sim, h.n, h.shd, h.pr⟩
  simp only [Proofs.YtncbfppafgjdiaaGreat.nowL]; omega
theorem roll_bad {l : LiveV} (hc : okConf l.conf = true) (ho : (rollL l).probe.on = true) : (rollL l).probe.bad ≤ 32 := by
  rw [okConf_b, decide_eq_true_eq] at hc
  unfold rollL at ho ⊢
  split at ho
  · simp [adoptL] at ho
  · rename_i h1
    rw [if_neg h1]
    simp only [breachedPr, ho, Bool.true_and, decide_eq_true_eq] at h1
    omega
theorem roll_conf (l : LiveV) : (rollL l).conf = l.conf ∧ (rollL l).set_ = l.set_ := by unfold rollL; split <;> exact ⟨rfl, rfl⟩
theorem okL.tick {l : LiveV} (h : okL l) (t : Int) : okL (tickL l t).1 := by
  unfold tickL
  simp only
  have h0 := h.nowL t
  split
  · exact h0
  · rename_i hz
    have hs : l.set_ = true := by
      cases hs : l.set_ with
      | true => rfl
      | false => exact absurd (Or.inl hs) hz
    have hc := h.conf hs
    have e := roll_conf (Proofs.YtncbfppafgjdiaaGreat.nowL l t)
    have hc1 : okConf (rollL (Proofs.YtncbfppafgjdiaaGreat.nowL l t)).conf = true := by rw [e.1]; exact hc
    refine (h0.roll.decide.run hc1).judge hc1 fun ho => ?_
    exact roll_bad (l := Proofs.YtncbfppafgjdiaaGreat.nowL l t) hc ho
theorem okL.step {l : LiveV} {e : EvV} (h : okL l) : okL (stepL l e).1 := by
  unfold stepL
  split
  · exact h
  · rename_i h1
    have he : okEv e = true := by
      cases he : okEv e with
      | true => rfl
      | false => exact absurd (Or.inl he) h1
    have hi : inEv e = true := by
      cases hi : inEv e with
      | true => rfl
      | false => exact absurd (Or.inr hi) h1
    simp only [inEv, wth, Bool.and_eq_true, decide_eq_true_eq] at hi
    have hm : okL { l with ins := if l.ins < 1099511627776 then l.ins + 1 else l.ins } := ⟨by have := h.ins; simp only; split <;> omega, h.now, h.conf, h.pol, h.ppol, h.hold, h.sim, h.n, h.shd, h.pr⟩
    simp only
    generalize ({ l with ins := if l.ins < 1099511627776 then l.ins + 1 else l.ins } : LiveV) = m at *
    split
    · unfold sampleL
      split
      · exact ⟨hm.ins, hm.now, hm.conf, hm.pol, hm.ppol, hm.hold, hm.sim, hm.n, hm.shd, hm.pr⟩
      · exact hm
    · split
      · exact hm.tick e.t
      · split
        · exact hm.policy (okEv_pol he (by assumption)).1
        · refine ⟨hm.ins, hm.now, fun _ => okEv_conf he (by omega), hm.pol, hm.ppol, hm.hold, hm.sim, hm.n, hm.shd, hm.pr⟩
end Go.Proofs.YtncbfppafgjdiaaGreat
end
section
/- A tick of the controller. -/
set_option linter.unusedVariables false
set_option linter.unusedSimpArgs false
set_option maxRecDepth 20000
namespace Go.Proofs.YtncbfppafgjdiaaGreat
open Go
attribute [local irreducible] T TL C RG DP SP YR afterRG DPcall
attribute [-simp] List.map_set
/-- What a controller knows, its shadows' row by itself. -/
abbrev liveR (l : LiveV) (s : PV) : PV := .agg 45 [i64 l.ins, i64 l.now, i64 l.util, i64 l.demand, .bool l.set_, eConf l.conf, ePol l.pol, eSta l.state, eHold l.hold, eSim l.sim, s, eProbe l.probe]
abbrev dsk (l : LiveV) (s o : PV) : Blk := .cells 79 0 [.agg 79 [liveR l s, o]]
noncomputable abbrev zLive : Blk := .cells 45 0 [tE.zero 45]
def decE (l : LiveV) : EvV := { kind := 5, t := l.now, n := l.hold.cur }
def outT (l : LiveV) : List EvV := rollO l ++ [decE (decideL (rollL l))]
/-- What a method leaves. -/
def DeskOut (l : LiveV) (out : List EvV) (σ' : Store) : Prop :=
  ∃ fs o, Store.at σ' 0 = some (.cells 79 0 [.agg 79 [.agg 45 fs, o]]) ∧ Store.at σ' 2 = some zLive ∧ ∀ x, frz (σ'.set 2 (some x)) 5 (.agg 45 fs) = some (eLive l) ∧ frz (σ'.set 2 (some x)) 5 o = some (.lit (out.map eEv))
/-- The last one's word. -/
theorem lastBad_nil : lastBad [] = false := rfl
theorem lastBad_gt {l : List MarkV} {k : Nat} (h : l.length = k + 1) : lastBad l = (gt l k).bad := by
  have h0 : l ≠ [] := by intro e; simp [e] at h
  unfold lastBad
  rw [List.getLast?_eq_some_getLast h0, List.getLast_eq_getElem]
  simp [gt, h]
/-- A row of what goes out, frozen. -/
theorem frz_ev {σ : Store} {b g : Nat} {l : List EvV} (h : Store.at σ b = some (.cells 50 g (l.map eEv))) : frz σ 5 (.ref b g 0 l.length) = some (.lit (l.map eEv)) := by
  have := frz_row (n := 4) (off := 0) (len := l.length) h (by simp) (fun x hx => by
    obtain ⟨a, _, rfl⟩ := List.mem_map.1 hx; simp)
  simpa using this
theorem now_eq (l : LiveV) (t : Int) : nowL l t = { l with now := max l.now (max 0 (min t 1099511627776)) } := by
  unfold nowL; congr 1; omega
section
variable {R : Re → Store → Prop} {σ : Store}
set_option maxHeartbeats 8000000 in
theorem C_dtick0 {l : LiveV} {e e0 : EvV} (hl : okL l) (hs : l.shadows = []) (h : ∀ σ', DeskOut (tickL l e.t).1 (tickL l e.t).2 σ' → R (.ret (.tup [])) σ') : C tE 59 [.ptr 0 0 0 [], eEv e] [some (dsk l .nils .nils), none, some zLive, some (.cells 50 0 [eEv e0])] R := by
  refine s_body' Tryz.func59 tOK rfl (by conv => lhs; simp) (by conv => lhs; simp) (by conv => lhs; simp [Fr.args]) rfl (by conv => lhs; try simp) fun R9 hR9 => ?_
  refine j2 (fun fr σ => fr = [(0, .ptr 0 0 0 [])] ∧ σ = [some (dsk (nowL l e.t) .nils .nils), none, some zLive, some (.cells 50 0 [eEv e0])]) ?_ fun yJ key => ?_
  · rintro _ _ ⟨rfl, rfl⟩
    have hm := hl.nowL e.t
    unfold tickL at h
    simp only at h
    have hs' : (nowL l e.t).shadows = [] := hs
    replace hs := hs'
    clear hs' hl
    generalize nowL l e.t = m at *
    clear l
    refine j3 (fun fr σ => ∃ g, fr = [(0, .ptr 0 0 0 [])] ∧ m.set_ = true ∧ ¬ m.pol.kind = 0 ∧ σ = [some (dsk (decideL (rollL m)) .nils (.ref 4 g 0 (outT m).length)), none, some zLive, some (.cells 50 0 [eEv e0]), some (.cells 50 g ((outT m).map eEv))]) ?_ fun yJ key => ?_
    · rintro _ _ ⟨g, rfl, h1, h2, rfl⟩
      have hc := hm.conf h1
      have hr := hm.roll.decide.run (l := decideL (rollL m)) (by rw [show (decideL (rollL m)).conf = m.conf from (roll_conf m).1]; exact hc)
      have hd := hm.roll.decide
      have hbad : (decideL (rollL m)).probe.on = true → (decideL (rollL m)).probe.bad ≤ 32 := fun ho => roll_bad (l := m) hc ho
      have hs2 : (decideL (rollL m)).shadows = [] := by
        show (rollL m).shadows = []
        unfold rollL; split <;> exact hs
      have hc2 : okConf (decideL (rollL m)).conf = true := by rw [show (decideL (rollL m)).conf = m.conf from (roll_conf m).1]; exact hc
      have ho : outT m = outT m := rfl
      rw [if_neg (by rw [h1]; simp [h2])] at h
      change ∀ σ', DeskOut (judgeL (runL (decideL (rollL m)))) (outT m ++ judgeO (runL (decideL (rollL m)))) σ' → _ at h
      obtain ⟨ev, evs, hev⟩ : ∃ ev evs, outT m = ev :: evs := by unfold outT rollO; split <;> exact ⟨_, _, rfl⟩
      have hel : evs.length ≤ 10 := by
        have := congrArg List.length hev
        unfold outT rollO at this
        split at this <;> simp only [List.length_append, List.length_cons, List.length_nil] at this <;> omega
      rw [hev] at h ⊢
      clear ho hev h1 h2 hm hs
      generalize decideL (rollL m) = q at *
      clear m hc
      obtain ⟨ins, now, util, dem, set, conf, pol, st, hold, sim, shd, pr⟩ := q
      simp only at hs2; subst hs2
      have b1 := hd.pol; have b2 := hd.ppol; have b3 := hd.now; have b4 := hd.hold; have b5 := hd.sim.sim
      simp only at b1 b2 b3 b4 b5 hc2
      have b6 := hr.sim.sim.len.2.2
      obtain ⟨c1, c2, c3, c4⟩ := hd.pr
      simp only [runL] at b6 c1 c2 c3 c4
      simp only [runL, judgeL, judgeO, List.map_nil] at h
      have cs : ∀ {R : Re → Store → Prop} {σ : Store}, R (.ret (eSim (stepSim conf sim dem now))) σ → C tE 109 [eConf conf, eSim sim, i64 dem, i64 now] σ R := fun h => C_fstep hc2 b5 b3.1 b3.2 h
      have hk0 : pickS conf (stepSim conf sim dem now) [] = 0 := rfl
      have cp : ∀ {R : Re → Store → Prop} {σ : Store}, R (.ret (.tup [i64 0, .bool false])) σ → C tE 112 [eConf conf, eSim (stepSim conf sim dem now), .lit []] σ R := fun h => by
        rw [okConf_b, decide_eq_true_eq] at hc2
        refine C_pick (l := []) (by simp) (by simp) hr.sim.marks (by omega) (by omega) ?_
        rw [hk0]; exact h
      simp only [hk0, if_true] at h
      generalize stepSim conf sim dem now = x at *
      clear hr hk0 hbad hd
      obtain ⟨on, left, bad, id, pp, ps⟩ := pr
      simp only at b2 c1 c2 c3 c4 h
      cases on with
      | true =>
        have ct : ∀ {b : Bool} {R : Re → Store → Prop} {σ : Store}, R (.ret (eProbe (tickPr ⟨true, left, bad, id, pp, ps⟩ b))) σ → C tE 110 [eProbe ⟨true, left, bad, id, pp, ps⟩, .bool b] σ R := fun h => C_ptick (p := ⟨true, left, bad, id, pp, ps⟩) b2.len (by show _ ≤ left; omega) (by show left ≤ _; omega) (by show _ ≤ bad; omega) (by show bad ≤ _; omega) h
        rcases Nat.eq_zero_or_pos x.marks.length with hM | hM
        · rw [List.eq_nil_of_length_eq_zero hM, lastBad_nil] at h
          simp only [if_true, List.append_nil] at h
          have F9 := @hM
          repeat' (first | refine gf ?_ | refine s_seq fun y9 hy9 => ?_ | refine qT _ ?_ ?_ | refine qG _ ?_ ?_ | refine qN ?_ ?_ | (refine QB.mk fun hb9 => ?_; (try simp only [hb9]); (try simp at hb9); first | (exfalso; omega) | subst hb9 | skip) | refine w_loop fun y9 hy9 => ?_ | (apply w_again; assumption) | refine sD tOK tmix [([],0),([],1),([1],2),([1,2],3),([1,2,3],4),([1,2,3,4],5),([],6),([6],7),([6,7],8),([1,2,3,4,5,6,7,8],9),([0,1,2,3,4,5,6,7,8,9],10),([0,1,2,3,4,5,6,7,8,9,10],11),([0,1,2,3,4,5,6,7,8,9,10,11],12),([0,1,2,3,4,5,6,7,8,9,10,11,12],13)] 10 ?_ | refine sD tOK tmix [([],0),([],1),([1],2),([1,2],3),([1,2,3],4),([1,2,3,4],5),([],6),([6],7),([6,7],8),([6,7,8],9),([6,7,8,9],10),([],11),([11],12),([11,12],13),([11,12,13],14),([11,12,13,14],15),([],16),([16],17),([16,17],18),([16,17,18],19),([16,17,18,19],20),([1,2,3,4,5,6,7,8,9,10,11,12,13,14,15,16,17,18,19,20],21),([0,1,2,3,4,5,6,7,8,9,10,11,12,13,14,15,16,17,18,19,20,21],22),([0,1,2,3,4,5,6,7,8,9,10,11,12,13,14,15,16,17,18,19,20,21,22],23),([0,1,2,3,4,5,6,7,8,9,10,11,12,13,14,15,16,17,18,19,20,21,22,23],24),([0,1,2,3,4,5,6,7,8,9,10,11,12,13,14,15,16,17,18,19,20,21,22,23,24],25)] 22 ?_ | refine sD tOK tmix [([],0),([0],1),([0,1],2),([0,1,2],3),([0,1,2,3],4),([],5),([],6),([6],7),([6,7],8),([6,7,8],9),([6,7,8,9],10),([],11),([],12),([12],13),([12,13],14),([12,13,14],15),([12,13,14,15],16),([],17),([17],18),([17,18],19),([17,18,19],20),([17,18,19,20],21),([6,7,8,9,10,11,12,13,14,15,16,17,18,19,20,21],22),([0,1,2,3,4,5,6,7,8,9,10,11,12,13,14,15,16,17,18,19,20,21,22],23),([0,1,2,3,4,5,6,7,8,9,10,11,12,13,14,15,16,17,18,19,20,21,22,23],24)] 23 ?_ | refine sD tOK tmix [([],0),([],1),([1],2),([1,2],3),([1,2,3],4),([1,2,3,4],5),([],6),([6],7),([6,7],8),([6,7,8],9),([6,7,8,9],10),([6,7,8,9,10],11),([6,7,8,9,10,11],12),([6,7,8,9,10,11,12],13),([6,7,8,9,10,11,12,13],14),([6,7,8],15),([6,7,8,9,10,11,12,13,14,15],16),([6,7,8,9,10,11,12,13,14,15,16],17),([6,7,8,9,10,11,12,13,14,15,16,17],18),([6,7,8,9,10,11,12,13,14,15,16,17,18],19),([1,2,3,4,5,6,7,8,9,10,11,12,13,14,15,16,17,18,19],20),([0,1,2,3,4,5,6,7,8,9,10,11,12,13,14,15,16,17,18,19,20],21),([0,1,2,3,4,5,6,7,8,9,10,11,12,13,14,15,16,17,18,19,20,21],22),([0,1,2,3,4,5,6,7,8,9,10,11,12,13,14,15,16,17,18,19,20,21,22],23),([0,1,2,3,4,5,6,7,8,9,10,11,12,13,14,15,16,17,18,19,20,21,22,23],24)] 21 ?_ | refine sD tOK tmix [([],0),([0],1),([0,1],2),([0,1,2],3),([0,1,2,3],4),([],5),([5],6),([5,6],7),([5,6,7],8),([5,6,7,8],9),([0,1,2,3,4,5,6,7,8,9],10)] 10 ?_ | refine sD tOK tmix [([],0),([0],1),([0,1],2),([0,1,2],3),([0,1,2,3],4),([],5),([5],6),([5,6],7),([5,6,7],8),([5,6,7,8],9),([],10),([10],11),([10,11],12),([10,11,12],13),([10,11,12,13],14),([0,1,2,3,4,5,6,7,8,9,10,11,12,13,14],15),([0,1,2,3,4,5,6,7,8,9,10,11,12,13,14,15],16),([0,1,2,3,4,5,6,7,8,9,10,11,12,13,14,15,16],17),([0,1,2,3,4,5,6,7,8,9,10,11,12,13,14,15,16],18),([0,1,2,3,4,5,6,7,8,9,10,11,12,13,14,15,16,17],19),([0,1,2,3,4,5,6,7,8,9,10,11,12,13,14,15,16,17,18,19],20)] 20 ?_ | refine sD tOK tmix [([],0),([],1),([1],2),([1,2],3),([1,2,3],4),([1,2,3,4],5),([],6),([],7),([7],8),([7,8],9),([7,8,9],10),([7,8,9,10],11),([],12),([12],13),([12,13],14),([12,13,14],15),([12,13,14,15],16),([1,2,3,4,5,6,7,8,9,10,11,12,13,14,15,16],17),([0,1,2,3,4,5,6,7,8,9,10,11,12,13,14,15,16,17],18),([0,1,2,3,4,5,6,7,8,9,10,11,12,13,14,15,16,17,18],19),([0,1,2,3,4,5,6,7,8,9,10,11,12,13,14,15,16,17,18,19],20),([0,1,2,3,4,5,6,7,8,9,10,11,12,13,14,15,16,17,18,19,20],21)] 18 ?_ | refine sD tOK tmix [([],0),([],1),([],2),([],3),([3],4),([3,4],5),([],6),([6],7),([],8),([0,3,4,5],9),([0,3,4,5,9],10),([0,3,4,5,9,10],11),([0,3,4,5,9,10,11],12),([0,1,3,4,5,6,7,9,10,11,12],13),([0,1,3,4,5,6,7,9,10,11,12,13],14),([0,1,3,4,5,6,7,9,10,11,12,13,14],15),([0,1,3,4,5,6,7,9,10,11,12,13,14,15],16),([0,1,2,3,4,5,6,7,8,9,10,11,12,13,14,15,16],17),([0,1,2,3,4,5,6,7,8,9,10,11,12,13,14,15,16,17],18),([0,1,2,3,4,5,6,7,8,9,10,11,12,13,14,15,16,17,18],19),([0,1,2,3,4,5,6,7,8,9,10,11,12,13,14,15,16,17,18,19],20)] 17 ?_ | refine qD _ ?_ ?_ | refine cE Tryz.func90 tOK fun R9 hR9 => ?_ | refine cE Tryz.func91 tOK fun R9 hR9 => ?_ | (refine nZ ?_; first | refine cs ?_ | refine ct ?_ | refine C_over ?_) | (apply d_call []; exact rfl; (solve | (conv => lhs; try simp [hM])); (solve | exact rfl | simp); (solve | (conv => lhs; try simp [hM])); intro τ hτ; refine nZ ?_; first | exact cs ⟨rfl, rfl⟩ | exact ct ⟨rfl, rfl⟩ | exact C_over ⟨rfl, rfl⟩))
          all_goals
            refine h _ ⟨_, _, rfl, rfl, fun x => ⟨?_, ?_⟩⟩
            · simp [*]
            · exact frz_ev (l := ev :: evs) rfl
        · obtain ⟨k, hk⟩ : ∃ k, x.marks.length = k + 1 := ⟨x.marks.length - 1, by omega⟩
          rw [lastBad_gt hk] at h
          simp only [if_true, List.append_nil] at h
          have hq : x.marks[k]? = some (gt x.marks k) := gq (by omega)
          have hq2 : ∀ h, x.marks[k]'h = gt x.marks k := fun h => by simp [gt, h]
          have F9 := And.intro @hk <| And.intro @hq <| @hq2
          repeat' (first | refine gf ?_ | refine s_seq fun y9 hy9 => ?_ | refine qT _ ?_ ?_ | refine qG _ ?_ ?_ | refine qN ?_ ?_ | (refine QB.mk fun hb9 => ?_; (try simp only [hb9]); (try simp at hb9); first | (exfalso; omega) | subst hb9 | skip) | refine w_loop fun y9 hy9 => ?_ | (apply w_again; assumption) | refine sD tOK tmix [([],0),([],1),([1],2),([1,2],3),([1,2,3],4),([1,2,3,4],5),([],6),([6],7),([6,7],8),([1,2,3,4,5,6,7,8],9),([0,1,2,3,4,5,6,7,8,9],10),([0,1,2,3,4,5,6,7,8,9,10],11),([0,1,2,3,4,5,6,7,8,9,10,11],12),([0,1,2,3,4,5,6,7,8,9,10,11,12],13)] 10 ?_ | refine sD tOK tmix [([],0),([],1),([1],2),([1,2],3),([1,2,3],4),([1,2,3,4],5),([],6),([6],7),([6,7],8),([6,7,8],9),([6,7,8,9],10),([],11),([11],12),([11,12],13),([11,12,13],14),([11,12,13,14],15),([],16),([16],17),([16,17],18),([16,17,18],19),([16,17,18,19],20),([1,2,3,4,5,6,7,8,9,10,11,12,13,14,15,16,17,18,19,20],21),([0,1,2,3,4,5,6,7,8,9,10,11,12,13,14,15,16,17,18,19,20,21],22),([0,1,2,3,4,5,6,7,8,9,10,11,12,13,14,15,16,17,18,19,20,21,22],23),([0,1,2,3,4,5,6,7,8,9,10,11,12,13,14,15,16,17,18,19,20,21,22,23],24),([0,1,2,3,4,5,6,7,8,9,10,11,12,13,14,15,16,17,18,19,20,21,22,23,24],25)] 22 ?_ | refine sD tOK tmix [([],0),([0],1),([0,1],2),([0,1,2],3),([0,1,2,3],4),([],5),([],6),([6],7),([6,7],8),([6,7,8],9),([6,7,8,9],10),([],11),([],12),([12],13),([12,13],14),([12,13,14],15),([12,13,14,15],16),([],17),([17],18),([17,18],19),([17,18,19],20),([17,18,19,20],21),([6,7,8,9,10,11,12,13,14,15,16,17,18,19,20,21],22),([0,1,2,3,4,5,6,7,8,9,10,11,12,13,14,15,16,17,18,19,20,21,22],23),([0,1,2,3,4,5,6,7,8,9,10,11,12,13,14,15,16,17,18,19,20,21,22,23],24)] 23 ?_ | refine sD tOK tmix [([],0),([],1),([1],2),([1,2],3),([1,2,3],4),([1,2,3,4],5),([],6),([6],7),([6,7],8),([6,7,8],9),([6,7,8,9],10),([6,7,8,9,10],11),([6,7,8,9,10,11],12),([6,7,8,9,10,11,12],13),([6,7,8,9,10,11,12,13],14),([6,7,8],15),([6,7,8,9,10,11,12,13,14,15],16),([6,7,8,9,10,11,12,13,14,15,16],17),([6,7,8,9,10,11,12,13,14,15,16,17],18),([6,7,8,9,10,11,12,13,14,15,16,17,18],19),([1,2,3,4,5,6,7,8,9,10,11,12,13,14,15,16,17,18,19],20),([0,1,2,3,4,5,6,7,8,9,10,11,12,13,14,15,16,17,18,19,20],21),([0,1,2,3,4,5,6,7,8,9,10,11,12,13,14,15,16,17,18,19,20,21],22),([0,1,2,3,4,5,6,7,8,9,10,11,12,13,14,15,16,17,18,19,20,21,22],23),([0,1,2,3,4,5,6,7,8,9,10,11,12,13,14,15,16,17,18,19,20,21,22,23],24)] 21 ?_ | refine sD tOK tmix [([],0),([0],1),([0,1],2),([0,1,2],3),([0,1,2,3],4),([],5),([5],6),([5,6],7),([5,6,7],8),([5,6,7,8],9),([0,1,2,3,4,5,6,7,8,9],10)] 10 ?_ | refine sD tOK tmix [([],0),([0],1),([0,1],2),([0,1,2],3),([0,1,2,3],4),([],5),([5],6),([5,6],7),([5,6,7],8),([5,6,7,8],9),([],10),([10],11),([10,11],12),([10,11,12],13),([10,11,12,13],14),([0,1,2,3,4,5,6,7,8,9,10,11,12,13,14],15),([0,1,2,3,4,5,6,7,8,9,10,11,12,13,14,15],16),([0,1,2,3,4,5,6,7,8,9,10,11,12,13,14,15,16],17),([0,1,2,3,4,5,6,7,8,9,10,11,12,13,14,15,16],18),([0,1,2,3,4,5,6,7,8,9,10,11,12,13,14,15,16,17],19),([0,1,2,3,4,5,6,7,8,9,10,11,12,13,14,15,16,17,18,19],20)] 20 ?_ | refine sD tOK tmix [([],0),([],1),([1],2),([1,2],3),([1,2,3],4),([1,2,3,4],5),([],6),([],7),([7],8),([7,8],9),([7,8,9],10),([7,8,9,10],11),([],12),([12],13),([12,13],14),([12,13,14],15),([12,13,14,15],16),([1,2,3,4,5,6,7,8,9,10,11,12,13,14,15,16],17),([0,1,2,3,4,5,6,7,8,9,10,11,12,13,14,15,16,17],18),([0,1,2,3,4,5,6,7,8,9,10,11,12,13,14,15,16,17,18],19),([0,1,2,3,4,5,6,7,8,9,10,11,12,13,14,15,16,17,18,19],20),([0,1,2,3,4,5,6,7,8,9,10,11,12,13,14,15,16,17,18,19,20],21)] 18 ?_ | refine sD tOK tmix [([],0),([],1),([],2),([],3),([3],4),([3,4],5),([],6),([6],7),([],8),([0,3,4,5],9),([0,3,4,5,9],10),([0,3,4,5,9,10],11),([0,3,4,5,9,10,11],12),([0,1,3,4,5,6,7,9,10,11,12],13),([0,1,3,4,5,6,7,9,10,11,12,13],14),([0,1,3,4,5,6,7,9,10,11,12,13,14],15),([0,1,3,4,5,6,7,9,10,11,12,13,14,15],16),([0,1,2,3,4,5,6,7,8,9,10,11,12,13,14,15,16],17),([0,1,2,3,4,5,6,7,8,9,10,11,12,13,14,15,16,17],18),([0,1,2,3,4,5,6,7,8,9,10,11,12,13,14,15,16,17,18],19),([0,1,2,3,4,5,6,7,8,9,10,11,12,13,14,15,16,17,18,19],20)] 17 ?_ | refine qD _ ?_ ?_ | refine cE Tryz.func90 tOK fun R9 hR9 => ?_ | refine cE Tryz.func91 tOK fun R9 hR9 => ?_ | (refine nZ ?_; first | refine cs ?_ | refine ct ?_ | refine C_over ?_) | (apply d_call []; exact rfl; (solve | (conv => lhs; try simp [hk,hq,hq2])); (solve | exact rfl | simp); (solve | (conv => lhs; try simp [hk,hq,hq2])); intro τ hτ; refine nZ ?_; first | exact cs ⟨rfl, rfl⟩ | exact ct ⟨rfl, rfl⟩ | exact C_over ⟨rfl, rfl⟩))
          all_goals
            refine h _ ⟨_, _, rfl, rfl, fun x => ⟨?_, ?_⟩⟩
            · simp [*]
            · exact frz_ev (l := ev :: evs) rfl
      | false =>
        simp only [if_false, Bool.false_eq_true, List.append_nil] at h
        repeat' (first | refine go ?_ | refine s_seq fun y9 hy9 => ?_ | refine qT _ ?_ ?_ | refine qG _ ?_ ?_ | refine qN ?_ ?_ | (refine QB.mk fun hb9 => ?_; (try simp only [hb9]); (try simp at hb9); first | (exfalso; omega) | subst hb9 | skip) | refine w_loop fun y9 hy9 => ?_ | (apply w_again; assumption) | refine sD tOK tmix [([],0),([],1),([1],2),([1,2],3),([1,2,3],4),([1,2,3,4],5),([],6),([6],7),([6,7],8),([1,2,3,4,5,6,7,8],9),([0,1,2,3,4,5,6,7,8,9],10),([0,1,2,3,4,5,6,7,8,9,10],11),([0,1,2,3,4,5,6,7,8,9,10,11],12),([0,1,2,3,4,5,6,7,8,9,10,11,12],13)] 10 ?_ | refine sD tOK tmix [([],0),([],1),([1],2),([1,2],3),([1,2,3],4),([1,2,3,4],5),([],6),([6],7),([6,7],8),([6,7,8],9),([6,7,8,9],10),([],11),([11],12),([11,12],13),([11,12,13],14),([11,12,13,14],15),([],16),([16],17),([16,17],18),([16,17,18],19),([16,17,18,19],20),([1,2,3,4,5,6,7,8,9,10,11,12,13,14,15,16,17,18,19,20],21),([0,1,2,3,4,5,6,7,8,9,10,11,12,13,14,15,16,17,18,19,20,21],22),([0,1,2,3,4,5,6,7,8,9,10,11,12,13,14,15,16,17,18,19,20,21,22],23),([0,1,2,3,4,5,6,7,8,9,10,11,12,13,14,15,16,17,18,19,20,21,22,23],24),([0,1,2,3,4,5,6,7,8,9,10,11,12,13,14,15,16,17,18,19,20,21,22,23,24],25)] 22 ?_ | refine sD tOK tmix [([],0),([0],1),([0,1],2),([0,1,2],3),([0,1,2,3],4),([],5),([],6),([6],7),([6,7],8),([6,7,8],9),([6,7,8,9],10),([],11),([],12),([12],13),([12,13],14),([12,13,14],15),([12,13,14,15],16),([],17),([17],18),([17,18],19),([17,18,19],20),([17,18,19,20],21),([6,7,8,9,10,11,12,13,14,15,16,17,18,19,20,21],22),([0,1,2,3,4,5,6,7,8,9,10,11,12,13,14,15,16,17,18,19,20,21,22],23),([0,1,2,3,4,5,6,7,8,9,10,11,12,13,14,15,16,17,18,19,20,21,22,23],24)] 23 ?_ | refine sD tOK tmix [([],0),([],1),([1],2),([1,2],3),([1,2,3],4),([1,2,3,4],5),([],6),([6],7),([6,7],8),([6,7,8],9),([6,7,8,9],10),([6,7,8,9,10],11),([6,7,8,9,10,11],12),([6,7,8,9,10,11,12],13),([6,7,8,9,10,11,12,13],14),([6,7,8],15),([6,7,8,9,10,11,12,13,14,15],16),([6,7,8,9,10,11,12,13,14,15,16],17),([6,7,8,9,10,11,12,13,14,15,16,17],18),([6,7,8,9,10,11,12,13,14,15,16,17,18],19),([1,2,3,4,5,6,7,8,9,10,11,12,13,14,15,16,17,18,19],20),([0,1,2,3,4,5,6,7,8,9,10,11,12,13,14,15,16,17,18,19,20],21),([0,1,2,3,4,5,6,7,8,9,10,11,12,13,14,15,16,17,18,19,20,21],22),([0,1,2,3,4,5,6,7,8,9,10,11,12,13,14,15,16,17,18,19,20,21,22],23),([0,1,2,3,4,5,6,7,8,9,10,11,12,13,14,15,16,17,18,19,20,21,22,23],24)] 21 ?_ | refine sD tOK tmix [([],0),([0],1),([0,1],2),([0,1,2],3),([0,1,2,3],4),([],5),([5],6),([5,6],7),([5,6,7],8),([5,6,7,8],9),([0,1,2,3,4,5,6,7,8,9],10)] 10 ?_ | refine sD tOK tmix [([],0),([0],1),([0,1],2),([0,1,2],3),([0,1,2,3],4),([],5),([5],6),([5,6],7),([5,6,7],8),([5,6,7,8],9),([],10),([10],11),([10,11],12),([10,11,12],13),([10,11,12,13],14),([0,1,2,3,4,5,6,7,8,9,10,11,12,13,14],15),([0,1,2,3,4,5,6,7,8,9,10,11,12,13,14,15],16),([0,1,2,3,4,5,6,7,8,9,10,11,12,13,14,15,16],17),([0,1,2,3,4,5,6,7,8,9,10,11,12,13,14,15,16],18),([0,1,2,3,4,5,6,7,8,9,10,11,12,13,14,15,16,17],19),([0,1,2,3,4,5,6,7,8,9,10,11,12,13,14,15,16,17,18,19],20)] 20 ?_ | refine sD tOK tmix [([],0),([],1),([1],2),([1,2],3),([1,2,3],4),([1,2,3,4],5),([],6),([],7),([7],8),([7,8],9),([7,8,9],10),([7,8,9,10],11),([],12),([12],13),([12,13],14),([12,13,14],15),([12,13,14,15],16),([1,2,3,4,5,6,7,8,9,10,11,12,13,14,15,16],17),([0,1,2,3,4,5,6,7,8,9,10,11,12,13,14,15,16,17],18),([0,1,2,3,4,5,6,7,8,9,10,11,12,13,14,15,16,17,18],19),([0,1,2,3,4,5,6,7,8,9,10,11,12,13,14,15,16,17,18,19],20),([0,1,2,3,4,5,6,7,8,9,10,11,12,13,14,15,16,17,18,19,20],21)] 18 ?_ | refine sD tOK tmix [([],0),([],1),([],2),([],3),([3],4),([3,4],5),([],6),([6],7),([],8),([0,3,4,5],9),([0,3,4,5,9],10),([0,3,4,5,9,10],11),([0,3,4,5,9,10,11],12),([0,1,3,4,5,6,7,9,10,11,12],13),([0,1,3,4,5,6,7,9,10,11,12,13],14),([0,1,3,4,5,6,7,9,10,11,12,13,14],15),([0,1,3,4,5,6,7,9,10,11,12,13,14,15],16),([0,1,2,3,4,5,6,7,8,9,10,11,12,13,14,15,16],17),([0,1,2,3,4,5,6,7,8,9,10,11,12,13,14,15,16,17],18),([0,1,2,3,4,5,6,7,8,9,10,11,12,13,14,15,16,17,18],19),([0,1,2,3,4,5,6,7,8,9,10,11,12,13,14,15,16,17,18,19],20)] 17 ?_ | refine qD _ ?_ ?_ | refine cE Tryz.func90 tOK fun R9 hR9 => ?_ | refine cE Tryz.func91 tOK fun R9 hR9 => ?_ | (refine nZ ?_; first | refine cs ?_ | refine cp ?_) | (apply d_call []; exact rfl; (solve | (conv => lhs; try simp)); (solve | exact rfl | simp); (solve | (conv => lhs; try simp)); intro τ hτ; refine nZ ?_; first | exact cs ⟨rfl, rfl⟩ | exact cp ⟨rfl, rfl⟩))
        all_goals
          refine h _ ⟨_, _, rfl, rfl, fun x => ⟨?_, ?_⟩⟩
          · simp [*]
          · exact frz_ev (l := ev :: evs) rfl
    · obtain ⟨ins, now, util, dem, set, conf, pol, st, hold, sim, shd, pr⟩ := m
      simp only at hs h
      subst hs
      have b1 := hm.pol; have b2 := hm.ppol; have b3 := hm.now; have b4 := hm.hold
      simp only at b1 b2 b3 b4
      cases set with
      | false =>
        clear key
        repeat' (first | refine go ?_ | refine s_seq fun y9 hy9 => ?_ | refine qT _ ?_ ?_ | refine qG _ ?_ ?_ | refine qN ?_ ?_ | (refine QB.mk fun hb9 => ?_; (try simp only [hb9]); (try simp at hb9); first | (exfalso; omega) | subst hb9 | skip) | refine sD tOK tmix [([],0),([],1),([1],2),([1,2],3),([1,2,3],4),([1,2,3,4],5),([],6),([6],7),([6,7],8),([1,2,3,4,5,6,7,8],9),([0,1,2,3,4,5,6,7,8,9],10),([0,1,2,3,4,5,6,7,8,9,10],11),([0,1,2,3,4,5,6,7,8,9,10,11],12),([0,1,2,3,4,5,6,7,8,9,10,11,12],13)] 10 ?_ | refine qD _ ?_ ?_)
        exact h _ ⟨_, _, rfl, rfl, fun x => ⟨by simp, by simp⟩⟩
      | true =>
        have hc := hm.conf rfl
        rw [okConf_b, decide_eq_true_eq] at hc
        simp only at hc
        rcases Decidable.em (pol.kind = 0) with hk | hk
        · clear key
          have F9 := @hk
          repeat' (first | refine gf ?_ | refine s_seq fun y9 hy9 => ?_ | refine qT _ ?_ ?_ | refine qG _ ?_ ?_ | refine qN ?_ ?_ | (refine QB.mk fun hb9 => ?_; (try simp only [hb9]); (try simp at hb9); first | (exfalso; omega) | subst hb9 | skip) | refine sD tOK tmix [([],0),([],1),([1],2),([1,2],3),([1,2,3],4),([1,2,3,4],5),([],6),([6],7),([6,7],8),([1,2,3,4,5,6,7,8],9),([0,1,2,3,4,5,6,7,8,9],10),([0,1,2,3,4,5,6,7,8,9,10],11),([0,1,2,3,4,5,6,7,8,9,10,11],12),([0,1,2,3,4,5,6,7,8,9,10,11,12],13)] 10 ?_ | refine qD _ ?_ ?_ | (refine nZ ?_; refine C_zero ?_) | (apply d_call []; exact rfl; (solve | (conv => lhs; try simp [hk])); (solve | exact rfl | simp); (solve | (conv => lhs; try simp [hk])); intro τ hτ; refine nZ ?_; first | exact C_zero ⟨rfl, rfl⟩))
          simp only [hk, or_true, if_true] at h
          exact h _ ⟨_, _, rfl, rfl, fun x => ⟨by simp, by simp⟩⟩
        · cases hb : breachedPr conf pr with
          | false =>
            have cb : ∀ {R : Re → Store → Prop} {σ : Store}, R (.ret (.bool false)) σ → C tE 105 [eConf conf, eProbe pr] σ R := fun h => C_breached (by rw [hb]; exact h)
            have F9 := @hk
            repeat' (first | refine gf ?_ | refine s_seq fun y9 hy9 => ?_ | refine qT _ ?_ ?_ | refine qG _ ?_ ?_ | refine qN ?_ ?_ | (refine QB.mk fun hb9 => ?_; (try simp only [hb9]); (try simp at hb9); first | (exfalso; omega) | subst hb9 | skip) | refine sD tOK tmix [([],0),([],1),([1],2),([1,2],3),([1,2,3],4),([1,2,3,4],5),([],6),([6],7),([6,7],8),([1,2,3,4,5,6,7,8],9),([0,1,2,3,4,5,6,7,8,9],10),([0,1,2,3,4,5,6,7,8,9,10],11),([0,1,2,3,4,5,6,7,8,9,10,11],12),([0,1,2,3,4,5,6,7,8,9,10,11,12],13)] 10 ?_ | refine sD tOK tmix [([],0),([0],1),([0,1],2),([0,1,2],3),([0,1,2,3],4),([],5),([0,1,2,3,4,5],6)] 6 ?_ | refine sD tOK tmix [([],1),([0],2),([0,1],3),([0,1,2],4),([0,1,2,3],5),([],6),([5],7),([5,6],8),([5,6,7],9),([5,6,7,8],10),([],11),([10],12),([10,11],13),([10,11,12],14),([10,11,12,13],15),([10,11,12,13,14],16),([],17),([16],18),([16,17],19),([16,17,18],20),([16,17,18,19],21),([],22),([21],23),([21,22],24),([21,22,23],25),([21,22,23,24],26),([0,1,2,3,4,5,6,7,8,9,10,11,12,13,14,15,16,17,18,19,20,21,22,23,24,25],27),([0,1,2,3,4,5,6,7,8,9,10,11,12,13,14,15,16,17,18,19,20,21,22,23,24,25,26],28),([0,1,2,3,4,5,6,7,8,9,10,11,12,13,14,15,16,17,18,19,20,21,22,23,24,25,26,27],29),([0,1,2,3,4,5,6,7,8,9,10,11,12,13,14,15,16,17,18,19,20,21,22,23,24,25,26,27],30),([],0),([0,1,2,3,4,5,6,7,8,9,10,11,12,13,14,15,16,17,18,19,20,21,22,23,24,25,26,27,28,30],31),([0,1,2,3,4,5,6,7,8,9,10,11,12,13,14,15,16,17,18,19,20,21,22,23,24,25,26,27,28,29,30,31],32)] 32 ?_ | refine sD tOK tmix [([],0),([],1),([],2),([],3),([3],4),([3,4],5),([3,4,5],6),([3,4,5,6],7),([],8),([8],9),([8,9],10),([8,9,10],11),([8,9,10,11],12),([],13),([],14),([14],15),([14,15],16),([14,15,16],17),([14,15,16,17],18),([3,4,5,6,7,8,9,10,11,12,13,14,15,16,17,18],19),([0,2,3,4,5,6,7,8,9,10,11,12,13,14,15,16,17,18,19],20),([0,2,3,4,5,6,7,8,9,10,11,12,13,14,15,16,17,18,19,20],21),([0,2,3,4,5,6,7,8,9,10,11,12,13,14,15,16,17,18,19,20,21],22),([0,2,3,4,5,6,7,8,9,10,11,12,13,14,15,16,17,18,19,20,21,22],23),([0,1,2,3,4,5,6,7,8,9,10,11,12,13,14,15,16,17,18,19,20,21,22,23],24),([0,1,2,3,4,5,6,7,8,9,10,11,12,13,14,15,16,17,18,19,20,21,22,23,24],25),([0,1,2,3,4,5,6,7,8,9,10,11,12,13,14,15,16,17,18,19,20,21,22,23,24,25],26),([0,1,2,3,4,5,6,7,8,9,10,11,12,13,14,15,16,17,18,19,20,21,22,23,24,25,26],27)] 24 ?_ | refine sD tOK tmix [([],0),([],1),([1],2),([1,2],3),([1,2,3],4),([1,2,3,4],5),([],6),([6],7),([6,7],8),([6,7,8],9),([6,7,8,9],10),([6,7,8,9,10],11),([1,2,3,4,5,6,7,8,9,10,11],12),([0,1,2,3,4,5,6,7,8,9,10,11,12],13)] 13 ?_ | refine sD tOK tmix [([],2),([],3),([1],4),([1,2],5),([1,2,3],6),([],7),([5],0),([1,2,3,4,5,6],1),([0,1,2,3,4,5,6,7],8),([0,1,2,3,4,5,6,7,8],9),([0,1,2,3,4,5,6,7,8,9],10)] 8 ?_ | refine qD _ ?_ ?_ | refine cE Tryz.func88 tOK fun R9 hR9 => ?_ | refine cE Tryz.func89 tOK fun R9 hR9 => ?_ | refine cE Tryz.func106 tOK fun R9 hR9 => ?_ | (refine nZ ?_; first | refine C_zero ?_ | refine cb ?_ | refine (C_policy b1) ?_ | refine (C_lnext (by omega) (by omega) (by omega) (by omega) (by omega) (by omega) b3.1 b3.2 b4.1 b4.2) ?_) | (apply d_call []; exact rfl; (solve | (conv => lhs; try simp [hk])); (solve | exact rfl | simp); (solve | (conv => lhs; try simp [hk])); intro τ hτ; refine nZ ?_; first | exact C_zero ⟨rfl, rfl⟩ | exact cb ⟨rfl, rfl⟩ | exact (C_policy b1) ⟨rfl, rfl⟩ | exact (C_lnext (by omega) (by omega) (by omega) (by omega) (by omega) (by omega) b3.1 b3.2 b4.1 b4.2) ⟨rfl, rfl⟩))
            simp only [outT, decE, rollO, rollL, decideL, adoptL, hb, if_true, if_false, Bool.false_eq_true, List.nil_append, List.cons_append, List.length_cons, List.length_nil, List.map_cons, List.map_nil, Nat.zero_add, Nat.reduceAdd] at key
            refine t_pick tOK [0, 1, 2, 3, 89] [0] (by decide) (by rfl) (by rfl) (by conv => lhs; simp [Fr.keep]) (by conv => lhs; simp [pickS']) (by simp [Fr.keep]) (by simp [pickS']) ?_
            refine T_wk ?_ ?_ (key.down _ _ ⟨0, rfl, trivial, hk, rfl⟩)
            all_goals (repeat' (first | with_reducible exact WkF.refl _ | with_reducible exact WkS.refl _ | with_reducible exact WkB.refl _ | with_reducible exact Wk.refl _ | with_reducible exact WkL.refl _ | exact Wk.nils | refine WkF.cons ?_ ?_ | refine WkS.cons ?_ ?_ | refine WkB.cells ?_ | refine WkL.cons ?_ ?_ | refine Wk.agg ?_ | exact Wk.refl _ | exact WkL.refl _))
          | true =>
            have cb : ∀ {R : Re → Store → Prop} {σ : Store}, R (.ret (.bool true)) σ → C tE 105 [eConf conf, eProbe pr] σ R := fun h => C_breached (by rw [hb]; exact h)
            have F9 := @hk
            repeat' (first | refine gf ?_ | refine s_seq fun y9 hy9 => ?_ | refine qT _ ?_ ?_ | refine qG _ ?_ ?_ | refine qN ?_ ?_ | (refine QB.mk fun hb9 => ?_; (try simp only [hb9]); (try simp at hb9); first | (exfalso; omega) | subst hb9 | skip) | refine sD tOK tmix [([],0),([],1),([1],2),([1,2],3),([1,2,3],4),([1,2,3,4],5),([],6),([6],7),([6,7],8),([1,2,3,4,5,6,7,8],9),([0,1,2,3,4,5,6,7,8,9],10),([0,1,2,3,4,5,6,7,8,9,10],11),([0,1,2,3,4,5,6,7,8,9,10,11],12),([0,1,2,3,4,5,6,7,8,9,10,11,12],13)] 10 ?_ | refine sD tOK tmix [([],0),([0],1),([0,1],2),([0,1,2],3),([0,1,2,3],4),([],5),([0,1,2,3,4,5],6)] 6 ?_ | refine sD tOK tmix [([],0),([],1),([],2),([],3),([0,2],4),([0,2,4],5),([0,2,4,5],6),([0,2,4,5,6],7),([0,1,2,3,4,5,6,7],8),([0,1,2,3,4,5,6,7,8],9),([0,1,2,3,4,5,6,7,8,9],10),([0,1,2,3,4,5,6,7,8,9,10],11)] 8 ?_ | refine sD tOK tmix [([],0),([],1),([],2),([],3),([3],4),([3,4],5),([3,4,5],6),([3,4,5,6],7),([1,2,3,4,5,6,7],8),([0,1,2,3,4,5,6,7,8],9),([0,1,2,3,4,5,6,7,8,9],10),([0,1,2,3,4,5,6,7,8,9,10],11),([0,1,2,3,4,5,6,7,8,9,10,11],12)] 9 ?_ | refine sD tOK tmix [([],1),([0],2),([0,1],3),([0,1,2],4),([0,1,2,3],5),([],6),([5],7),([5,6],8),([5,6,7],9),([5,6,7,8],10),([],11),([10],12),([10,11],13),([10,11,12],14),([10,11,12,13],15),([10,11,12,13,14],16),([],17),([16],18),([16,17],19),([16,17,18],20),([16,17,18,19],21),([],22),([21],23),([21,22],24),([21,22,23],25),([21,22,23,24],26),([0,1,2,3,4,5,6,7,8,9,10,11,12,13,14,15,16,17,18,19,20,21,22,23,24,25],27),([0,1,2,3,4,5,6,7,8,9,10,11,12,13,14,15,16,17,18,19,20,21,22,23,24,25,26],28),([0,1,2,3,4,5,6,7,8,9,10,11,12,13,14,15,16,17,18,19,20,21,22,23,24,25,26,27],29),([0,1,2,3,4,5,6,7,8,9,10,11,12,13,14,15,16,17,18,19,20,21,22,23,24,25,26,27],30),([],0),([0,1,2,3,4,5,6,7,8,9,10,11,12,13,14,15,16,17,18,19,20,21,22,23,24,25,26,27,28,30],31),([0,1,2,3,4,5,6,7,8,9,10,11,12,13,14,15,16,17,18,19,20,21,22,23,24,25,26,27,28,29,30,31],32)] 32 ?_ | refine sD tOK tmix [([],0),([],1),([],2),([],3),([3],4),([3,4],5),([3,4,5],6),([3,4,5,6],7),([],8),([8],9),([8,9],10),([8,9,10],11),([8,9,10,11],12),([],13),([],14),([14],15),([14,15],16),([14,15,16],17),([14,15,16,17],18),([3,4,5,6,7,8,9,10,11,12,13,14,15,16,17,18],19),([0,2,3,4,5,6,7,8,9,10,11,12,13,14,15,16,17,18,19],20),([0,2,3,4,5,6,7,8,9,10,11,12,13,14,15,16,17,18,19,20],21),([0,2,3,4,5,6,7,8,9,10,11,12,13,14,15,16,17,18,19,20,21],22),([0,2,3,4,5,6,7,8,9,10,11,12,13,14,15,16,17,18,19,20,21,22],23),([0,1,2,3,4,5,6,7,8,9,10,11,12,13,14,15,16,17,18,19,20,21,22,23],24),([0,1,2,3,4,5,6,7,8,9,10,11,12,13,14,15,16,17,18,19,20,21,22,23,24],25),([0,1,2,3,4,5,6,7,8,9,10,11,12,13,14,15,16,17,18,19,20,21,22,23,24,25],26),([0,1,2,3,4,5,6,7,8,9,10,11,12,13,14,15,16,17,18,19,20,21,22,23,24,25,26],27)] 24 ?_ | refine sD tOK tmix [([],0),([],1),([1],2),([1,2],3),([1,2,3],4),([1,2,3,4],5),([],6),([6],7),([6,7],8),([6,7,8],9),([6,7,8,9],10),([6,7,8,9,10],11),([1,2,3,4,5,6,7,8,9,10,11],12),([0,1,2,3,4,5,6,7,8,9,10,11,12],13)] 13 ?_ | refine sD tOK tmix [([],2),([],3),([1],4),([1,2],5),([1,2,3],6),([],7),([5],0),([1,2,3,4,5,6],1),([0,1,2,3,4,5,6,7],8),([0,1,2,3,4,5,6,7,8],9),([0,1,2,3,4,5,6,7,8,9],10)] 8 ?_ | refine qD _ ?_ ?_ | refine cE Tryz.func88 tOK fun R9 hR9 => ?_ | refine cE Tryz.func92 tOK fun R9 hR9 => ?_ | refine cE Tryz.func89 tOK fun R9 hR9 => ?_ | refine cE Tryz.func106 tOK fun R9 hR9 => ?_ | (refine nZ ?_; first | refine C_zero ?_ | refine cb ?_ | refine (C_fnew b2.len) ?_ | refine (C_policy b2) ?_ | refine (C_lnext (by omega) (by omega) (by omega) (by omega) (by omega) (by omega) b3.1 b3.2 b4.1 b4.2) ?_) | (apply d_call []; exact rfl; (solve | (conv => lhs; try simp [hk])); (solve | exact rfl | simp); (solve | (conv => lhs; try simp [hk])); intro τ hτ; refine nZ ?_; first | exact C_zero ⟨rfl, rfl⟩ | exact cb ⟨rfl, rfl⟩ | exact (C_fnew b2.len) ⟨rfl, rfl⟩ | exact (C_policy b2) ⟨rfl, rfl⟩ | exact (C_lnext (by omega) (by omega) (by omega) (by omega) (by omega) (by omega) b3.1 b3.2 b4.1 b4.2) ⟨rfl, rfl⟩))
            simp only [outT, decE, rollO, rollL, decideL, adoptL, hb, if_true, if_false, Bool.false_eq_true, List.nil_append, List.cons_append, List.length_cons, List.length_nil, List.map_cons, List.map_nil, Nat.zero_add, Nat.reduceAdd] at key
            refine t_pick tOK [0, 1, 2, 3, 14] [0] (by decide) (by rfl) (by rfl) (by conv => lhs; simp [Fr.keep]) (by conv => lhs; simp [pickS']) (by simp [Fr.keep]) (by simp [pickS']) ?_
            refine T_wk ?_ ?_ (key.down _ _ ⟨1, rfl, trivial, hk, rfl⟩)
            all_goals (repeat' (first | with_reducible exact WkF.refl _ | with_reducible exact WkS.refl _ | with_reducible exact WkB.refl _ | with_reducible exact Wk.refl _ | with_reducible exact WkL.refl _ | exact Wk.nils | refine WkF.cons ?_ ?_ | refine WkS.cons ?_ ?_ | refine WkB.cells ?_ | refine WkL.cons ?_ ?_ | refine Wk.agg ?_ | exact Wk.refl _ | exact WkL.refl _))
  · clear h
    rw [now_eq] at key
    obtain ⟨ins, now, util, dem, set, conf, pol, st, hold, sim, shd, pr⟩ := l
    repeat' (first | refine go ?_ | refine s_seq fun y9 hy9 => ?_ | refine qT _ ?_ ?_ | refine qG _ ?_ ?_ | refine qN ?_ ?_ | (refine QB.mk fun hb9 => ?_; (try simp only [hb9]); (try simp at hb9); first | (exfalso; omega) | subst hb9 | skip) | refine sD tOK tmix [([],0),([],1),([1],2),([1,2],3),([1,2,3],4),([1,2,3,4],5),([],6),([6],7),([6,7],8),([1,2,3,4,5,6,7,8],9),([0,1,2,3,4,5,6,7,8,9],10),([0,1,2,3,4,5,6,7,8,9,10],11),([0,1,2,3,4,5,6,7,8,9,10,11],12),([0,1,2,3,4,5,6,7,8,9,10,11,12],13)] 10 ?_ | refine qD _ ?_ ?_)
    refine t_pick tOK [0, 1, 2, 3] [0] (by decide) (by rfl) (by rfl) (by conv => lhs; simp [Fr.keep]) (by conv => lhs; simp [pickS']) (by simp [Fr.keep]) (by simp [pickS']) ?_
    refine T_wk ?_ ?_ (key.down _ _ ⟨rfl, rfl⟩)
    all_goals (repeat' (first | with_reducible exact WkF.refl _ | with_reducible exact WkS.refl _ | with_reducible exact WkB.refl _ | with_reducible exact Wk.refl _ | with_reducible exact WkL.refl _ | exact Wk.nils | refine WkF.cons ?_ ?_ | refine WkS.cons ?_ ?_ | refine WkB.cells ?_ | refine WkL.cons ?_ ?_ | refine Wk.agg ?_ | exact Wk.refl _ | exact WkL.refl _))
end
end Go.Proofs.YtncbfppafgjdiaaGreat
end
