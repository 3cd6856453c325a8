/- The document's Get. -/
import Derived.Test.YtdplbgfokoajjaaGreatXh
import Derived.Test.YtdplbgfokoajjaaGreatXp
import Derived.Test.YtdplbgfokoajjaaGreatXe
import Derived.Test.YtdplbgfokoajjaaGreatXl
import Derived.Test.YtdplbgfokoajjaaGreatXn
import Derived.Test.YtdplbgfokoajjaaGreatXo
import Derived.Test.YtdplbgfokoajjaaGreatXj
section
set_option linter.unusedVariables false
set_option linter.unusedSimpArgs false
set_option maxRecDepth 20000
namespace Go.Proofs.YtdplbgfokoajjaaGreat
open Go
attribute [local irreducible] T TL C RG DP SP YR afterRG DPcall
attribute [-simp] List.map_set
attribute [simp] map_take
@[simp high] theorem fz_i64 (σ : Store) (n : Nat) (l : List Int) : (l.map i64).mapM (frz σ (n + 1)) = some (l.map i64) := fz_list i64 (fun a => by simp [frz]) l
@[simp high] theorem af_i64 (l : List Int) : (l.map i64).all (fits tE 2) = true := all_fits i64 (fun a => by simp [fits]) l
@[simp high] theorem mf_i64 (l : List Int) : (∀ x ∈ l.map i64, fits tE 2 x = true) = True := mem_fits i64 (fun a => by simp [fits]) l
@[simp high] theorem pl_i64 (l : List Int) : pureL (l.map i64) = true := pureL_map i64 (fun a => by simp [pureB]) l
theorem C_rright_ref {R : Re → Store → Prop} {σ : Store} {b g n : Nat} {l : List Int} (hb : Store.at σ b = some (.cells 2 g (l.map i64))) (hn : n = l.length) (hl : l.length < 1000000000) (h : R (.ret (.bool (okL l))) σ) : C tE 45 [.ref b g 0 n] σ R := by
 refine C_lend tOK (args' := [.lit (is l)]) ?_ (C_rright hl ⟨rfl, h⟩)
 simp only [List.mapM_cons, List.mapM_nil]
 rw [frz_isrow (l := l) (m := 4) hb hn]; rfl
@[simp] theorem bl_i64 (n : Nat) (l : List Int) : belowL n (l.map i64) = true := belowL_of_pure n _ (pl_i64 l)
attribute [simp] belowL_app
theorem rd4_nat (a b c d : UInt8) : rd4 [a, b, c, d] = ((a.toNat * 16777216 + b.toNat * 65536 + c.toNat * 256 + d.toNat : Nat) : Int) := by
 show (a.toNat : Int) * 16777216 + (b.toNat : Int) * 65536 + (c.toNat : Int) * 256 + d.toNat = _
 simp only [Int.natCast_add, Int.natCast_mul]; rfl
theorem rd4_in (a b c d : UInt8) : 0 ≤ rd4 [a, b, c, d] ∧ rd4 [a, b, c, d] < 4294967296 := by
 rw [rd4_nat]
 have := a.toNat_lt; have := b.toNat_lt; have := c.toNat_lt; have := d.toNat_lt
 omega
section
variable {R : Re → Store → Prop} {σ : Store}
set_option maxHeartbeats 4000000 in
theorem C_rget {b : List UInt8} (hl : b.length < 1000000000) (h : R (.ret (.tup [.lit (is (manGet b).1), i64 (manGet b).2])) σ) : C tE 48 [u8s b] σ R := by
 refine C_pure tOK (by simp [u8s, pureL_u8]) ?_
 unfold u8s
 rcases Nat.eq_zero_or_pos b.length with h0 | h0
 ·have hb : b = [] := List.eq_nil_of_length_eq_zero h0
  subst hb
  simp only [manGet, List.length_nil, true_or, if_true] at h
  refine s_body' Tryz.func48 tOK rfl (by conv => lhs; simp) (by conv => lhs; simp) (by conv => lhs; simp [Fr.args]) rfl (by conv => lhs; try simp) fun R9 hR9 => ?_
  repeat' (first | refine go ?_ | refine s_seq fun y9 hy9 => ?_ | refine qT _ ?_ ?_ | refine qG _ ?_ ?_ | refine qN ?_ ?_ | (refine QB.mk fun hb9 => ?_; (try simp only [hb9]); (try simp at hb9); first | (exfalso; omega) | subst hb9 | skip) | refine sD tOK tmix [([],0),([],1),([0,1],2),([0,1,2],3),([],4),([],5),([4,5],6),([0,1,2,3,4,5,6],7),([0,1,2,3,4,5,6,7],8),([0,1,2,3,4,5,6,7,8],9)] 7 ?_ | refine qD _ ?_ ?_)
  exact h
 ·obtain ⟨x, hx⟩ : ∃ x, b.headD 0 = x := ⟨_, rfl⟩
  have hx2 := UInt8.toNat_lt x
  obtain ⟨m, hm⟩ : ∃ m, x.toNat = m := ⟨_, rfl⟩
  have e0 : (u8l b)[0]? = some (.int .u8 m) := by
   cases b with
   | nil => simp at h0
   | cons y b => simp only [List.headD_cons] at hx; subst hx; subst hm; rfl
  have hne : ¬ b = [] := fun e => by rw [e] at h0; simp at h0
  unfold manGet at h
  rw [hx, hm] at h
  by_cases hlen : b.length = 5 + 4 * m
  ·rw [if_neg (by omega)] at h
   obtain ⟨n, hn⟩ : ∃ n, b.length = n + 4 := ⟨1 + 4 * m, by omega⟩
   have hw : IntKind.i64.wrap ((b.length : Int) - 4) = (n : Int) := by rw [IntWalk.i64_in _ (by omega)]; omega
   rw [show b.length - 4 = n by omega] at h
   obtain ⟨k1, k2, k3, k4, hk4⟩ := four_of (xs := b.drop n) (by rw [List.length_drop]; omega)
   rw [List.take_of_length_le (by rw [List.length_drop]; omega)] at hk4
   obtain ⟨cv, hcv⟩ : ∃ cv : Nat, k1.toNat * 16777216 + k2.toNat * 65536 + k3.toNat * 256 + k4.toNat = cv := ⟨_, rfl⟩
   have hki : be4 cv = [k1, k2, k3, k4] := by
    have e := be4_rd4 k1 k2 k3 k4
    rw [rd4_nat, Int.toNat_natCast, hcv] at e; exact e
   have hcv2 : cv < 4294967296 := by
    have := k1.toNat_lt; have := k2.toNat_lt; have := k3.toNat_lt; have := k4.toNat_lt; omega
   have cr4 : ∀ {R : Re → Store → Prop} {σ : Store}, R (.ret (.int .u64 (cv : Nat))) σ → C tE 77 [.lit (u8l (b.drop n))] σ R := fun h => by rw [hk4]; refine C_read4 ?_; rw [hcv]; exact h
   have cof : ∀ {R : Re → Store → Prop} {σ : Store}, R (.ret (.int .u32 (crc (b.take n) : Nat))) σ → C tE 76 [.lit (u8l (b.take n))] σ R := fun h => C_rof (by rw [List.length_take]; omega) h
   have hcr := crc_lt (b.take n)
   rw [hk4] at h
   by_cases hc : crc (b.take n) = cv
   ·rw [if_neg (by rw [hc, hki]; simp)] at h
    generalize crc (b.take n) = cc at *
    obtain ⟨I, hI⟩ : ∃ I, (b.take n).drop 1 = I := ⟨_, rfl⟩
    rw [hI] at h
    have hIl : I.length = 4 * m := by rw [← hI, List.length_drop, List.length_take]; omega
    have hsl : ∀ j, j < m → (b.take (1 + 4 * j + 4)).drop (1 + 4 * j) = (I.drop (4 * j)).take 4 := fun j hj => by
     rw [← hI, List.drop_drop, List.drop_take, List.drop_take, List.take_take]
     congr 1
     omega
    obtain ⟨gv, hgv⟩ : ∃ gv : Nat → Int, ∀ j, gv j = rd4 ((I.drop (4 * j)).take 4) := ⟨_, fun j => rfl⟩
    have hg0 : ∀ j, j < m → 0 ≤ gv j ∧ gv j < 4294967296 := fun j hj => by
     obtain ⟨a1, a2, a3, a4, ha⟩ := four_of (xs := I.drop (4 * j)) (by rw [List.length_drop]; omega)
     rw [hgv, ha]
     exact rd4_in a1 a2 a3 a4
    have c4 : ∀ j, j < m → ∀ {R : Re → Store → Prop} {σ : Store}, R (.ret (.int .u64 (gv j))) σ → C tE 77 [.lit (u8l ((b.take (1 + 4 * j + 4)).drop (1 + 4 * j)))] σ R := fun j hj {R} {σ} h => by
     rw [hsl j hj]
     obtain ⟨a1, a2, a3, a4, ha⟩ := four_of (xs := I.drop (4 * j)) (by rw [List.length_drop]; omega)
     rw [hgv, ha] at h
     rw [ha]
     refine C_read4 ?_
     rw [← rd4_nat]; exact h
    obtain ⟨G, hG⟩ : ∃ G : Nat → List Int, ∀ j, G j = chunks I j := ⟨_, fun j => rfl⟩
    have hGs : ∀ j, G (j + 1) = G j ++ [gv j] := fun j => by rw [hG, hG, chunks_succ, hgv]
    have hGl : ∀ j, (G j).length = j := fun j => by rw [hG, chunks_len]
    have hG0 : G 0 = [] := by rw [hG]; rfl
    rw [← hG] at h
    have crr := @C_rright_ref
    have crn := @C_rright
    refine s_body' Tryz.func48 tOK rfl (by conv => lhs; simp) (by conv => lhs; simp) (by conv => lhs; simp [Fr.args]) rfl (by conv => lhs; try simp) fun R9 hR9 => ?_
    have F9 := And.intro @hw <| @e0
    repeat' (first | refine gf ?_ | refine s_seq fun y9 hy9 => ?_ | refine qT _ ?_ ?_ | refine qG _ ?_ ?_ | refine qN ?_ ?_ | (refine QB.mk fun hb9 => ?_; (try simp only [hb9]); (try simp at hb9); first | (exfalso; omega) | subst hb9 | skip) | refine sD tOK tmix [([],0),([],1),([0,1],2),([0,1,2],3),([],4),([],5),([4,5],6),([0,1,2,3,4,5,6],7),([0,1,2,3,4,5,6,7],8),([0,1,2,3,4,5,6,7,8],9)] 7 ?_ | refine qD _ ?_ ?_ | (refine nZ ?_; first | refine cr4 ?_ | refine cof ?_) | (apply d_call []; exact rfl; (solve | (conv => lhs; try simp [hw,e0])); (solve | exact rfl | simp); (solve | (conv => lhs; try simp [hw,e0])); intro τ hτ; refine nZ ?_; first | exact cr4 ⟨rfl, rfl⟩ | exact cof ⟨rfl, rfl⟩))
    refine s_loop fun c9 hc9 => ?_
    refine w_trim 0 [0, 4, 5, 6] (by conv => lhs; simp) (by conv => lhs; simp) (by first | rfl | simp) (by first | rfl | simp) ?_
    refine s_loopn m (fun j fr σ => (j = 0 ∧ fr = [(0, .lit (u8l b)), (4, i64 n), (5, .nils), (6, i64 1)] ∧ σ = []) ∨ (0 < j ∧ fr = [(0, .lit (u8l b)), (4, i64 n), (5, .ref 1 (j - 1) 0 j), (6, i64 (1 + 4 * (j : Int)))] ∧ σ = [some (.cells 2 0 [i64 (gv 0)]), some (.cells 2 (j - 1) ((G j).map i64))])) ?_ (.inl ⟨rfl, by simp, by first | rfl | simp⟩)
    rintro j fr σ hj hS ih
    have hgj := hg0 j
    have hGj := hGl j
    have hGk := hGs j
    have hG1 := hGs 0
    rw [hG0] at hG1
    rcases Nat.lt_or_ge j m with hlt | hge
    ·have c4 := @c4 j hlt
     have hgj := hgj hlt
     have z1 : (1 + 4 * (j : Int)).toNat = 1 + 4 * j := by omega
     have z2 : (1 + 4 * (j : Int) + 4).toNat = 1 + 4 * j + 4 := by omega
     rcases hS with ⟨rfl, rfl, rfl⟩ | ⟨hj0, rfl, rfl⟩
     ·refine s_round hc9 ?_
      clear hc9
      have c4 : ∀ {R : Re → Store → Prop} {σ : Store}, R (.ret (.int .u64 (gv 0))) σ → C tE 77 [.lit (u8l (b.take 5).tail)] σ R := fun h => by rw [← List.drop_one]; exact c4 h
      have F9 := And.intro @z1 <| @z2
      repeat' (first | refine gf ?_ | refine s_seq fun y9 hy9 => ?_ | refine qT _ ?_ ?_ | refine qG _ ?_ ?_ | refine qN ?_ ?_ | (refine QB.mk fun hb9 => ?_; (try simp only [hb9]); (try simp at hb9); first | (exfalso; omega) | subst hb9 | skip) | refine sD tOK tmix [([],0),([],1),([0,1],2),([0,1,2],3),([],4),([],5),([4,5],6),([0,1,2,3,4,5,6],7),([0,1,2,3,4,5,6,7],8),([0,1,2,3,4,5,6,7,8],9)] 7 ?_ | refine qD _ ?_ ?_ | (refine nZ ?_; refine c4 ?_) | (apply d_call []; exact rfl; (solve | (conv => lhs; try simp [z1,z2])); (solve | exact rfl | simp); (solve | (conv => lhs; try simp [z1,z2])); intro τ hτ; refine nZ ?_; first | exact c4 ⟨rfl, rfl⟩))
      refine w_back 2 [0, 4, 5, 6] (by conv => lhs; simp) (by conv => lhs; simp) (by first | rfl | simp) (by first | rfl | simp) ?_
      exact ih hlt _ _ (.inr ⟨by omega, by simp, by simp [hG1]⟩)
     ·have htt : ((G j).map i64).take j = (G j).map i64 := List.take_of_length_le (by simp [hGj])
      refine s_round hc9 ?_
      clear hc9
      have F9 := And.intro @z1 <| And.intro @z2 <| And.intro @hGj <| @htt
      repeat' (first | refine gf ?_ | refine s_seq fun y9 hy9 => ?_ | refine qT _ ?_ ?_ | refine qG _ ?_ ?_ | refine qN ?_ ?_ | (refine QB.mk fun hb9 => ?_; (try simp only [hb9]); (try simp at hb9); first | (exfalso; omega) | subst hb9 | skip) | refine sD tOK tmix [([],0),([],1),([0,1],2),([0,1,2],3),([],4),([],5),([4,5],6),([0,1,2,3,4,5,6],7),([0,1,2,3,4,5,6,7],8),([0,1,2,3,4,5,6,7,8],9)] 7 ?_ | refine qD _ ?_ ?_ | (refine nZ ?_; refine c4 ?_) | (apply d_call []; exact rfl; (solve | (conv => lhs; try simp [z1,z2,hGj,htt])); (solve | exact rfl | simp); (solve | (conv => lhs; try simp [z1,z2,hGj,htt])); intro τ hτ; refine nZ ?_; first | exact c4 ⟨rfl, rfl⟩))
      refine w_back 2 [0, 4, 5, 6] (by conv => lhs; simp) (by conv => lhs; simp) (by first | rfl | simp) (by first | rfl | simp) ?_
      have e1 : j - 1 + 1 = j + 1 - 1 := by omega
      exact ih hlt _ _ (.inr ⟨by omega, by simp [e1]; omega, by simp [hGk, e1]⟩)
    ·have hjm : j = m := by omega
     subst hjm
     cases hok : okL (G j) with
     | false =>
      rw [hok] at h
      rcases hS with ⟨rfl, rfl, rfl⟩ | ⟨hj0, rfl, rfl⟩
      ·have cr : ∀ {R : Re → Store → Prop} {σ : Store}, R (.ret (.bool false)) σ → C tE 45 [.lit []] σ R := fun h => C_rright (l := []) (by decide) (by rw [hG0] at hok; rw [hok]; exact h)
       refine s_round hc9 ?_
       clear hc9
       repeat' (first | refine go ?_ | refine s_seq fun y9 hy9 => ?_ | refine qT _ ?_ ?_ | refine qG _ ?_ ?_ | refine qN ?_ ?_ | (refine QB.mk fun hb9 => ?_; (try simp only [hb9]); (try simp at hb9); first | (exfalso; omega) | subst hb9 | skip) | refine sD tOK tmix [([],0),([],1),([0,1],2),([0,1,2],3),([],4),([],5),([4,5],6),([0,1,2,3,4,5,6],7),([0,1,2,3,4,5,6,7],8),([0,1,2,3,4,5,6,7,8],9)] 7 ?_ | refine qD _ ?_ ?_ | (refine nZ ?_; refine cr ?_) | (apply d_call []; exact rfl; (solve | (conv => lhs; try simp)); (solve | exact rfl | simp); (solve | (conv => lhs; try simp)); intro τ hτ; refine nZ ?_; first | exact cr ⟨rfl, rfl⟩))
       exact h
      ·have cr : ∀ {R : Re → Store → Prop} {σ : Store}, Store.at σ 1 = some (.cells 2 (j - 1) ((G j).map i64)) → R (.ret (.bool false)) σ → C tE 45 [.ref 1 (j - 1) 0 j] σ R := fun hb h => C_rright_ref hb (by rw [hGj]) (by omega) (by rw [hok]; exact h)
       refine s_round hc9 ?_
       clear hc9
       repeat' (first | refine go ?_ | refine s_seq fun y9 hy9 => ?_ | refine qT _ ?_ ?_ | refine qG _ ?_ ?_ | refine qN ?_ ?_ | (refine QB.mk fun hb9 => ?_; (try simp only [hb9]); (try simp at hb9); first | (exfalso; omega) | subst hb9 | skip) | refine sD tOK tmix [([],0),([],1),([0,1],2),([0,1,2],3),([],4),([],5),([4,5],6),([0,1,2,3,4,5,6],7),([0,1,2,3,4,5,6,7],8),([0,1,2,3,4,5,6,7,8],9)] 7 ?_ | refine qD _ ?_ ?_ | (refine nZ ?_; refine (cr rfl) ?_) | (apply d_call []; exact rfl; (solve | (conv => lhs; try simp)); (solve | exact rfl | simp); (solve | (conv => lhs; try simp)); intro τ hτ; refine nZ ?_; first | exact (cr rfl) ⟨rfl, rfl⟩))
       exact h
     | true =>
      rw [hok] at h
      rcases hS with ⟨rfl, rfl, rfl⟩ | ⟨hj0, rfl, rfl⟩
      ·exact absurd hok (by rw [hG0]; decide)
      ·have cr : ∀ {R : Re → Store → Prop} {σ : Store}, Store.at σ 1 = some (.cells 2 (j - 1) ((G j).map i64)) → R (.ret (.bool true)) σ → C tE 45 [.ref 1 (j - 1) 0 j] σ R := fun hb h => C_rright_ref hb (by rw [hGj]) (by omega) (by rw [hok]; exact h)
       have htt : ((G j).map i64).take j = (G j).map i64 := List.take_of_length_le (by simp [hGj])
       refine s_round hc9 ?_
       clear hc9
       have F9 := And.intro @htt <| @hGj
       repeat' (first | refine gf ?_ | refine s_seq fun y9 hy9 => ?_ | refine qT _ ?_ ?_ | refine qG _ ?_ ?_ | refine qN ?_ ?_ | (refine QB.mk fun hb9 => ?_; (try simp only [hb9]); (try simp at hb9); first | (exfalso; omega) | subst hb9 | skip) | refine sD tOK tmix [([],0),([],1),([0,1],2),([0,1,2],3),([],4),([],5),([4,5],6),([0,1,2,3,4,5,6],7),([0,1,2,3,4,5,6,7],8),([0,1,2,3,4,5,6,7,8],9)] 7 ?_ | refine qD _ ?_ ?_ | (refine nZ ?_; refine (cr rfl) ?_) | (apply d_call []; exact rfl; (solve | (conv => lhs; try simp [htt,hGj])); (solve | exact rfl | simp); (solve | (conv => lhs; try simp [htt,hGj])); intro τ hτ; refine nZ ?_; first | exact (cr rfl) ⟨rfl, rfl⟩))
       exact h
   ·rw [if_pos (by
     intro e
     exact hc (be4_inj hcr hcv2 (e.trans hki.symm)))] at h
    generalize crc (b.take n) = cc at *
    refine s_body' Tryz.func48 tOK rfl (by conv => lhs; simp) (by conv => lhs; simp) (by conv => lhs; simp [Fr.args]) rfl (by conv => lhs; try simp) fun R9 hR9 => ?_
    have F9 := And.intro @hw <| @e0
    repeat' (first | refine gf ?_ | refine s_seq fun y9 hy9 => ?_ | refine qT _ ?_ ?_ | refine qG _ ?_ ?_ | refine qN ?_ ?_ | (refine QB.mk fun hb9 => ?_; (try simp only [hb9]); (try simp at hb9); first | (exfalso; omega) | subst hb9 | skip) | refine sD tOK tmix [([],0),([],1),([0,1],2),([0,1,2],3),([],4),([],5),([4,5],6),([0,1,2,3,4,5,6],7),([0,1,2,3,4,5,6,7],8),([0,1,2,3,4,5,6,7,8],9)] 7 ?_ | refine qD _ ?_ ?_ | (refine nZ ?_; first | refine cr4 ?_ | refine cof ?_) | (apply d_call []; exact rfl; (solve | (conv => lhs; try simp [hw,e0])); (solve | exact rfl | simp); (solve | (conv => lhs; try simp [hw,e0])); intro τ hτ; refine nZ ?_; first | exact cr4 ⟨rfl, rfl⟩ | exact cof ⟨rfl, rfl⟩))
    exact h
  ·rw [if_pos (by omega)] at h
   refine s_body' Tryz.func48 tOK rfl (by conv => lhs; simp) (by conv => lhs; simp) (by conv => lhs; simp [Fr.args]) rfl (by conv => lhs; try simp) fun R9 hR9 => ?_
   have F9 := @e0
   repeat' (first | refine gf ?_ | refine s_seq fun y9 hy9 => ?_ | refine qT _ ?_ ?_ | refine qG _ ?_ ?_ | refine qN ?_ ?_ | (refine QB.mk fun hb9 => ?_; (try simp only [hb9]); (try simp at hb9); first | (exfalso; omega) | subst hb9 | skip) | refine sD tOK tmix [([],0),([],1),([0,1],2),([0,1,2],3),([],4),([],5),([4,5],6),([0,1,2,3,4,5,6],7),([0,1,2,3,4,5,6,7],8),([0,1,2,3,4,5,6,7,8],9)] 7 ?_ | refine qD _ ?_ ?_)
   exact h
end
end Go.Proofs.YtdplbgfokoajjaaGreat
end
section
set_option linter.unusedVariables false
set_option linter.unusedSimpArgs false
set_option maxRecDepth 20000
namespace Go.Proofs.YtdplbgfokoajjaaGreat
open Go
attribute [local irreducible] T TL C RG DP SP YR afterRG DPcall
attribute [-simp] List.map_set
def Keeps (σ σ' : Store) (k : Nat) : Prop := ∀ a b e, DkAt σ a b e → k ≠ a → k ≠ b → DkAt σ' a b e
theorem Kept.keeps {σ σ' : Store} {k : Nat} {d : Dk} (h : Kept σ σ' k d) : Keeps σ σ' k := fun a b e h0 h1 h2 => h0.kept h h1 h2
theorem Keeps.refl (σ : Store) (k : Nat) : Keeps σ σ k := fun a b e h0 h1 h2 => h0
theorem Keeps.trans {σ σ' σ'' : Store} {k : Nat} (h : Keeps σ σ' k) (h' : Keeps σ' σ'' k) : Keeps σ σ'' k := fun a b e h0 h1 h2 => h' a b e (h a b e h0 h1 h2) h1 h2
section
variable {R : Re → Store → Prop} {σ : Store} {d : Dk} {i : Nat} {l : List Int}
theorem R_load_rd (h0 : RdAt σ i d) (hI : Inv d) (h : R (.ret (.tup [.lit (is (manLoad d).1), i64 (manLoad d).2])) σ) : C tE 13 [.ptr i 0 0 []] σ R := by
 unfold manLoad at h
 refine C_new tOK ?_
 refine s_body' Tryz.func13 tOK rfl (by conv => lhs; simp) (by conv => lhs; simp) (by conv => lhs; simp [Fr.args]) rfl (by conv => lhs; try simp) fun R9 hR9 => ?_
 cases hg : dget filN.data.toList d.files with
 | none =>
  rw [hg] at h
  have cr : ∀ {R : Re → Store → Prop}, R (.ret (.tup [.lit (u8l []), .bool false])) σ → C tE 46 [.ptr i 0 0 [], .str filN] σ R := fun h => R_read_rd h0 hI (by rw [hg]; exact h)
  repeat' (first | refine go ?_ | refine s_seq fun y9 hy9 => ?_ | refine qT _ ?_ ?_ | refine qG _ ?_ ?_ | refine qN ?_ ?_ | (refine QB.mk fun hb9 => ?_; (try simp only [hb9]); (try simp at hb9); first | (exfalso; omega) | subst hb9 | skip) | (refine nZ ?_; refine cr ?_))
  exact n_ret (List.take_length ..) (y := .tup [.lit [], i64 3]) rfl h
 | some f =>
  rw [hg] at h
  have hF := hI.flOK hg
  have cr : ∀ {R : Re → Store → Prop}, R (.ret (.tup [.lit (u8l f.b), .bool true])) σ → C tE 46 [.ptr i 0 0 [], .str filN] σ R := fun h => R_read_rd h0 hI (by rw [hg]; exact h)
  have cg : ∀ {R : Re → Store → Prop} {σ : Store}, R (.ret (.tup [.lit (is (manGet f.b).1), i64 (manGet f.b).2])) σ → C tE 48 [.lit (u8l f.b)] σ R := fun h => C_rget (by have := hF.sz; omega) h
  repeat' (first | refine go ?_ | refine s_seq fun y9 hy9 => ?_ | refine qT _ ?_ ?_ | refine qG _ ?_ ?_ | refine qN ?_ ?_ | (refine QB.mk fun hb9 => ?_; (try simp only [hb9]); (try simp at hb9); first | (exfalso; omega) | subst hb9 | skip) | (refine nZ ?_; first | refine cr ?_ | refine cg ?_))
  exact n_ret (List.take_length ..) (y := .tup [.lit (is (manGet f.b).1), i64 (manGet f.b).2]) rfl h
set_option maxHeartbeats 4000000 in
theorem R_mswap (h0 : RdAt σ i d) (hI : Inv d) (hS : srt d.files) (hl : l.length < 1000000000) (h : ∀ σ', RdAt σ' i (manSwap d l).2 → Keeps σ σ' i → srt (manSwap d l).2.files → R (.ret (i64 (manSwap d l).1)) σ') : C tE 11 [.ptr i 0 0 [], .lit (is l)] σ R := by
 have cr : ∀ {R : Re → Store → Prop} {σ : Store}, R (.ret (.bool (okL l))) σ → C tE 45 [.lit (is l)] σ R := fun h => C_rright hl h
 have cp : ∀ {R : Re → Store → Prop} {σ : Store}, R (.ret (.lit (u8l (manPut l)))) σ → C tE 47 [.lit (is l)] σ R := fun h => C_rput hl h
 have hs : tmpN.size ≤ 9223372036854775807 := by decide
 have hs2 : filN.size ≤ 9223372036854775807 := by decide
 refine s_body' Tryz.func11 tOK rfl (by conv => lhs; simp) (by conv => lhs; simp) (by conv => lhs; simp [Fr.args]) rfl (by conv => lhs; try simp) fun R9 hR9 => ?_
 unfold manSwap at h
 cases hok : okL l with
 | false =>
  rw [hok] at cr h
  repeat' (first | refine go ?_ | refine s_seq fun y9 hy9 => ?_ | refine qT _ ?_ ?_ | refine qG _ ?_ ?_ | refine qN ?_ ?_ | (refine QB.mk fun hb9 => ?_; (try simp only [hb9]); (try simp at hb9); first | (exfalso; omega) | subst hb9 | skip) | (refine nZ ?_; refine cr ?_))
  exact h _ h0 (Keeps.refl _ _) hS
 | true =>
  rw [hok] at cr h
  have hpl : (manPut l).length ≤ 9223372036854775807 := by rw [manPut_len hok]; omega
  refine j4 (fun fr σ' => ∃ d', Inv d' ∧ srt d'.files ∧ RdAt σ' i d' ∧ Keeps σ σ' i ∧ (∀ σ', RdAt σ' i (manTurn d' l).2 → Keeps σ σ' i → srt (manTurn d' l).2.files → R (.ret (i64 (manTurn d' l).1)) σ') ∧ fr = [(0, .ptr i 0 0 []), (1, .lit (is l))]) ?_ ?_
  ·rintro fr' σ1 ⟨d1, I1, S1, r1, k1, h, rfl⟩
   clear h0 hI hS cr
   unfold manTurn at h
   have I2 := I1.write (s := tmpN) (b := manPut l)
   have S2 := srt_write (s := tmpN) (b := manPut l) S1
   obtain ⟨e, d2, hw⟩ : ∃ e d2, write d1 tmpN (manPut l) = (e, d2) := ⟨_, _, rfl⟩
   have cw := fun {R : Re → Store → Prop} (hh : ∀ σ', RdAt σ' i d2 → Kept σ1 σ' i d1 → R (.ret (i64 e)) σ') => R_write_at (R := R) (s := tmpN) r1 I1 S1 hs hpl (by rw [hw]; exact hh)
   rw [hw] at h I2 S2
   simp only at h I2 S2
   clear hw
   repeat' (first | refine go ?_ | refine s_seq fun y9 hy9 => ?_ | refine qT _ ?_ ?_ | refine qG _ ?_ ?_ | refine qN ?_ ?_ | (refine QB.mk fun hb9 => ?_; (try simp only [hb9]); (try simp at hb9); first | (exfalso; omega) | subst hb9 | skip) | (refine nZ ?_; refine cp ?_))
   refine cw ?_
   intro σ2 r2 k2
   replace k2 := k1.trans k2.keeps
   clear cw r1 I1 S1 k1
   have undo : ∀ (e : Int) (d2 : Dk) (σ2 : Store), Inv d2 → srt d2.files → RdAt σ2 i d2 → Keeps σ σ2 i → (e == 42) = false → ∀ {R : Re → Store → Prop}, (∀ σ', RdAt σ' i (manUndo e d2).2 → Keeps σ σ' i → srt (manUndo e d2).2.files → R (.ret (i64 (delete d2 tmpN).1)) σ') → C tE 33 [.ptr i 0 0 [], .str tmpN] σ2 R := fun e d2 σ2 I2 S2 r2 k2 h42 {R} h =>
    R_delete_at r2 I2 S2 fun σ' r k => h σ' (by unfold manUndo; rw [h42]; exact r) (k2.trans (show Kept σ2 σ' i d2 from k).keeps) (by unfold manUndo; rw [h42]; exact srt_delete S2)
   cases hz : (e == 0) with
   | false =>
    rw [hz] at h
    simp only [Bool.false_eq_true, if_false] at h
    have hn42 : bne e 42 = !(e == 42) := rfl
    cases h42 : (e == 42) with
    | true =>
     have F9 := And.intro @hz <| And.intro @h42 <| @hn42
     repeat' (first | refine gf ?_ | refine s_seq fun y9 hy9 => ?_ | refine qT _ ?_ ?_ | refine qG _ ?_ ?_ | refine qN ?_ ?_ | (refine QB.mk fun hb9 => ?_; (try simp only [hb9]); (try simp at hb9); first | (exfalso; omega) | subst hb9 | skip))
     have hu : manUndo e d2 = (e, d2) := by unfold manUndo; rw [h42]; rfl
     rw [hu] at h
     exact h _ r2 k2 S2
    | false =>
     have F9 := And.intro @hz <| And.intro @h42 <| @hn42
     repeat' (first | refine gf ?_ | refine s_seq fun y9 hy9 => ?_ | refine qT _ ?_ ?_ | refine qG _ ?_ ?_ | refine qN ?_ ?_ | (refine QB.mk fun hb9 => ?_; (try simp only [hb9]); (try simp at hb9); first | (exfalso; omega) | subst hb9 | skip))
     refine undo e d2 _ I2 S2 r2 k2 h42 ?_
     intro σ3 r3 k3 s3
     have F9 := And.intro @hz <| And.intro @h42 <| @hn42
     repeat' (first | refine gf ?_ | refine s_seq fun y9 hy9 => ?_ | refine qT _ ?_ ?_ | refine qG _ ?_ ?_ | refine qN ?_ ?_ | (refine QB.mk fun hb9 => ?_; (try simp only [hb9]); (try simp at hb9); first | (exfalso; omega) | subst hb9 | skip))
     have hu : (manUndo e d2).1 = e := by unfold manUndo; rw [h42]; rfl
     rw [hu] at h
     exact h _ r3 k3 s3
   | true =>
    rw [hz] at h
    simp only [if_true] at h
    have I3 := I2.sync (s := tmpN)
    have S3 := srt_sync (s := tmpN) S2
    obtain ⟨e2, d3, hw⟩ : ∃ e d3, sync d2 tmpN = (e, d3) := ⟨_, _, rfl⟩
    have cs := fun {R : Re → Store → Prop} (hh : ∀ σ', RdAt σ' i d3 → Kept σ2 σ' i d2 → R (.ret (i64 e2)) σ') => R_sync_at (R := R) (s := tmpN) r2 I2 S2 (by rw [hw]; exact hh)
    rw [hw] at h I3 S3
    simp only at h I3 S3
    clear hw
    have F9 := @hz
    repeat' (first | refine gf ?_ | refine s_seq fun y9 hy9 => ?_ | refine qT _ ?_ ?_ | refine qG _ ?_ ?_ | refine qN ?_ ?_ | (refine QB.mk fun hb9 => ?_; (try simp only [hb9]); (try simp at hb9); first | (exfalso; omega) | subst hb9 | skip))
    refine cs ?_
    intro σ3 r3 k3
    replace k3 := k2.trans k3.keeps
    clear cs r2 I2 S2 k2
    cases hz : (e2 == 0) with
    | false =>
     rw [hz] at h
     simp only [Bool.false_eq_true, if_false] at h
     have hn42 : bne e2 42 = !(e2 == 42) := rfl
     cases h42 : (e2 == 42) with
     | true =>
      have F9 := And.intro @hz <| And.intro @h42 <| @hn42
      repeat' (first | refine gf ?_ | refine s_seq fun y9 hy9 => ?_ | refine qT _ ?_ ?_ | refine qG _ ?_ ?_ | refine qN ?_ ?_ | (refine QB.mk fun hb9 => ?_; (try simp only [hb9]); (try simp at hb9); first | (exfalso; omega) | subst hb9 | skip))
      have hu : manUndo e2 d3 = (e2, d3) := by unfold manUndo; rw [h42]; rfl
      rw [hu] at h
      exact h _ r3 k3 S3
     | false =>
      have F9 := And.intro @hz <| And.intro @h42 <| @hn42
      repeat' (first | refine gf ?_ | refine s_seq fun y9 hy9 => ?_ | refine qT _ ?_ ?_ | refine qG _ ?_ ?_ | refine qN ?_ ?_ | (refine QB.mk fun hb9 => ?_; (try simp only [hb9]); (try simp at hb9); first | (exfalso; omega) | subst hb9 | skip))
      refine undo e2 d3 _ I3 S3 r3 k3 h42 ?_
      intro σ4 r4 k4 s4
      have F9 := And.intro @hz <| And.intro @h42 <| @hn42
      repeat' (first | refine gf ?_ | refine s_seq fun y9 hy9 => ?_ | refine qT _ ?_ ?_ | refine qG _ ?_ ?_ | refine qN ?_ ?_ | (refine QB.mk fun hb9 => ?_; (try simp only [hb9]); (try simp at hb9); first | (exfalso; omega) | subst hb9 | skip))
      have hu : (manUndo e2 d3).1 = e2 := by unfold manUndo; rw [h42]; rfl
      rw [hu] at h
      exact h _ r4 k4 s4
    | true =>
     rw [hz] at h
     simp only [if_true] at h
     have F9 := @hz
     repeat' (first | refine gf ?_ | refine s_seq fun y9 hy9 => ?_ | refine qT _ ?_ ?_ | refine qG _ ?_ ?_ | refine qN ?_ ?_ | (refine QB.mk fun hb9 => ?_; (try simp only [hb9]); (try simp at hb9); first | (exfalso; omega) | subst hb9 | skip))
     refine R_rename_at r3 I3 S3 hs2 ?_
     intro σ4 r4 k4
     repeat' (first | refine go ?_ | refine s_seq fun y9 hy9 => ?_ | refine qT _ ?_ ?_ | refine qG _ ?_ ?_ | refine qN ?_ ?_ | (refine QB.mk fun hb9 => ?_; (try simp only [hb9]); (try simp at hb9); first | (exfalso; omega) | subst hb9 | skip))
     exact h _ r4 (k3.trans k4.keeps) (srt_rename S3)
  ·intro y9 key
   simp only [if_true] at h
   cases hg : dget tmpN.data.toList d.files with
   | none =>
    rw [hg] at h
    have cd : ∀ {R : Re → Store → Prop}, R (.ret (.tup [.lit (u8l []), .bool false])) σ → C tE 46 [.ptr i 0 0 [], .str tmpN] σ R := fun h => R_read_rd h0 hI (by rw [hg]; exact h)
    repeat' (first | refine go ?_ | refine s_seq fun y9 hy9 => ?_ | refine qT _ ?_ ?_ | refine qG _ ?_ ?_ | refine qN ?_ ?_ | (refine QB.mk fun hb9 => ?_; (try simp only [hb9]); (try simp at hb9); first | (exfalso; omega) | subst hb9 | skip) | (refine nZ ?_; first | refine cr ?_ | refine cd ?_))
    refine T_keep [0, 1] ?_
    exact key.down _ _ ⟨d, hI, hS, h0, Keeps.refl _ _, by simpa using h, by simp⟩
   | some f =>
    rw [hg] at h
    have cd : ∀ {R : Re → Store → Prop}, R (.ret (.tup [.lit (u8l f.b), .bool true])) σ → C tE 46 [.ptr i 0 0 [], .str tmpN] σ R := fun h => R_read_rd h0 hI (by rw [hg]; exact h)
    simp only [Option.isSome_some, if_true] at h
    repeat' (first | refine go ?_ | refine s_seq fun y9 hy9 => ?_ | refine qT _ ?_ ?_ | refine qG _ ?_ ?_ | refine qN ?_ ?_ | (refine QB.mk fun hb9 => ?_; (try simp only [hb9]); (try simp at hb9); first | (exfalso; omega) | subst hb9 | skip) | (refine nZ ?_; first | refine cr ?_ | refine cd ?_))
    have I2 := hI.delete (s := tmpN)
    have S2 := srt_delete (s := tmpN) hS
    obtain ⟨e, d2, hw⟩ : ∃ e d2, delete d tmpN = (e, d2) := ⟨_, _, rfl⟩
    have cw := fun {R : Re → Store → Prop} (hh : ∀ σ', RdAt σ' i d2 → Kept σ σ' i d → R (.ret (i64 e)) σ') => R_delete_at (R := R) (s := tmpN) h0 hI hS (by rw [hw]; exact hh)
    rw [hw] at h I2 S2
    simp only at h I2 S2
    clear hw
    refine cw ?_
    intro σ2 r2 k2
    have hnz : bne e 0 = !(e == 0) := rfl
    cases hz : (e == 0) with
    | false =>
     rw [hz] at h
     have F9 := And.intro @hz <| @hnz
     repeat' (first | refine gf ?_ | refine s_seq fun y9 hy9 => ?_ | refine qT _ ?_ ?_ | refine qG _ ?_ ?_ | refine qN ?_ ?_ | (refine QB.mk fun hb9 => ?_; (try simp only [hb9]); (try simp at hb9); first | (exfalso; omega) | subst hb9 | skip))
     exact h _ r2 k2.keeps S2
    | true =>
     rw [hz] at h
     have F9 := And.intro @hz <| @hnz
     repeat' (first | refine gf ?_ | refine s_seq fun y9 hy9 => ?_ | refine qT _ ?_ ?_ | refine qG _ ?_ ?_ | refine qN ?_ ?_ | (refine QB.mk fun hb9 => ?_; (try simp only [hb9]); (try simp at hb9); first | (exfalso; omega) | subst hb9 | skip))
     refine T_keep [0, 1] ?_
     exact key.down _ _ ⟨d2, I2, S2, r2, k2.keeps, by simpa using h, by simp⟩
end
end Go.Proofs.YtdplbgfokoajjaaGreat
end
section
set_option maxRecDepth 20000
set_option linter.unusedVariables false
set_option linter.unusedSimpArgs false
namespace Go.Proofs.YtdplbgfokoajjaaGreat
open Go
def Small (E : Env) (N : Nat) (ops : Array Oper) (o : Oper) (v : PV) (fr : Fr) : Prop :=
 ∀ fr', (∀ t ∈ o.looksAt ops, Fr.get fr' t = Fr.get fr t) → ∀ (τ : Store) (cx : Cx) (a : Act) (Q : Exit → Act → World → Prop) (M : Act → World → Prop), Now E cx τ → FR E cx N fr' a.tmps →
  (∀ (cx' : Cx) (val : Value) (τ' : Store), (τ' = τ ∨ τ' = τ ++ [none]) → V E cx' v val → Now E cx' τ' → Step cx cx' → M (a.put o.dst val) cx'.w) →
  if Region.wanted o (yielded ops a.tmps) then opr E.P o a cx.w M Q else M (a.put o.dst undef) cx.w
def Great1 (E : Env) (N : Nat) (ops : Array Oper) (o : Oper) (v : PV) (S : Bool → Store → Prop) (fr : Fr) : Prop :=
 ∀ fr', (∀ t ∈ o.looksAt ops, Fr.get fr' t = Fr.get fr t) → ∀ (τ : Store) (cx : Cx) (a : Act) (Q : Exit → Act → World → Prop) (M : Act → World → Prop), S false τ → Now E cx τ → FR E cx N fr' a.tmps →
  (∀ (cx' : Cx) (val : Value) (τ' : Store), S true τ' → V E cx' v val → Now E cx' τ' → Step cx cx' → M (a.put o.dst val) cx'.w) →
  if Region.wanted o (yielded ops a.tmps) then opr E.P o a cx.w M Q else M (a.put o.dst undef) cx.w
section
variable {E : Env} {N z : Nat} {Q : Post} {ops : Array Oper} {tab : Tab} {m q : Nat} {S : Bool → Store → Prop}
theorem Small_skip {o : Oper} {fr : Fr} (hg : sGuard ops o fr = some false) : Small E N ops o (.tup []) fr := fun fr' h1 τ cx a Q M hn hf hM => by
 rw [wanted_of_guard hf ((sGuard_looks h1).trans hg)]
 simp only [Bool.false_eq_true, if_false]
 exact hM cx undef τ (.inl rfl) V_skip hn (Step.refl cx)
theorem Small_op (O : E.OK) {o : Oper} {fr : Fr} {v : PV} (hg : sGuard ops o fr = some true) (hs : ∀ (τ : Store) (s : Nat), sop E o.op fr τ s = some (v, τ)) : Small E N ops o v fr := fun fr' h1 τ cx a Q M hn hf hM => by
 rw [wanted_of_guard hf ((sGuard_looks h1).trans hg)]
 simp only [if_true]
 have hlt : τ.length < (τ ++ [none]).length := by simp
 obtain ⟨w, e0, e1, e2, e3⟩ := sop_loc (hs (τ ++ [none]) τ.length) hlt
 have e4 := e3 fr' (τ ++ [none]) ⟨fun x hx => eval_looks h1 hx, fun b _ => rfl⟩ hlt
 rw [← e1] at e4
 have hp : Now E cx (τ ++ [none]) := hn.pad 1
 obtain ⟨n, val, w', cx', k1, k2, rfl, k4, k5, k6, k7⟩ := sop_ok O e4 cx a.eval hp hf.ev (fun hb => by have := hn.A _ hb; omega) hn.top
 exact opr_value k1 k2 (hM cx' val _ (.inr rfl) k5 k4 k6)
theorem Great1_call (O : E.OK) {o : Oper} {fr : Fr} {v : PV} {c : Call} {g : FuncId} {vs : List PV} (hg : sGuard ops o fr = some true) (hc : isCall o.op = some c) (hcal : sCallee E fr c = some (g, vs))
  (h : ∀ τ, S false τ → C E g vs τ fun re τ' => re = .ret v ∧ S true τ') : Great1 E N ops o v S fr := fun fr' h1 τ cx a Q M hS hn hf hM => by
 rw [wanted_of_guard hf ((sGuard_looks h1).trans hg)]
 simp only [if_true]
 have ho := isCall_some hc
 obtain ⟨f, xs, ys, ws, c1, c2, c3, c4, rfl⟩ := sCallee_some hcal
 have hop : ∀ x ∈ o.op.operands, Fr.eval fr' x = Fr.eval fr x := fun x hx => eval_looks h1 hx
 have d1 : Fr.eval fr' f = some (.fn (.func g) xs ys) := by rw [hop f (by simp [ho, Op.operands, Call.operands, c1])]; exact c2
 have d2 : c.args.toList.mapM (Fr.eval fr') = some ws := by rw [mapM_near _ fun y hy => hop y (by simp [ho, Op.operands, Call.operands, Array.mem_toList_iff.1 hy])]; exact c3
 obtain ⟨us, us', k1, k2, k3⟩ := (hf.ev f _ d1).fn_inv
 have k4 := VL_map hf.ev d2
 have hrun : (execOp a.eval o).run E.P cx.w = .ok (.enter g (us ++ c.args.map a.eval ++ us')) cx.w := by
  simp [execOp, ho, resolve, c1, k1, Deferred.ofValue, invoke, run_callFunc O c4]
 have hvl : VL E cx (xs ++ ws ++ ys) (us ++ c.args.map a.eval ++ us').toList := by simpa using (k2.app k4).app k3
 refine opr_enter hrun ((h τ hS (cx.label τ.length) _ (hn.label (Nat.le_refl _)) (hvl.ext (Ext.label _ _))).mono ?_)
 rintro e w' ⟨re, σ', cx', rfl, ⟨rfl, h3⟩, h4, h5, h6⟩
 cases e <;> simp only [ReOK] at h4
 have hln : cx.top ≤ τ.length := hn.top
 have hn' : Now E (cx'.label cx.top) σ' := h5.label (by have h8 := h5.top; have h9 := h6.top; simp only [Cx.label] at h9; omega)
 exact hM (cx'.label cx.top) _ σ' h3 (h4.ext (Ext.label _ _)) hn' (h6.relabel hln)
structure Trace1 (E : Env) (N : Nat) (ops : Array Oper) (q : Nat) (S : Bool → Store → Prop) (fr : Fr) (rs : List Rec) : Prop where
 ok : ∀ i, i < rs.length → ∃ o, ops[i]? = some o ∧ if i = q then Great1 E N ops o (rs.getD i default).v S (frM ops rs allT fr i) else Small E N ops o (rs.getD i default).v (frM ops rs allT fr i)
def RD1 (E : Env) (ops : Array Oper) (q : Nat) (S : Bool → Store → Prop) (K : Fr → Prop) : Nat → List Oper → Fr → Prop
 | _, [], fr => K fr
 | i, o :: os, fr =>
  match sGuard ops o fr with
  | some true => (match isCall o.op with
   | some c => i = q ∧ (match sCallee E fr c with
    | some (g, vs) => ∃ v, (∀ τ, S false τ → C E g vs τ fun re τ' => re = .ret v ∧ S true τ') ∧ RD1 E ops q S K (i + 1) os (Fr.put fr o.dst v)
    | none => False)
   | none => i ≠ q ∧ ∃ v, (∀ (τ : Store) (s : Nat), sop E o.op fr τ s = some (v, τ)) ∧ RD1 E ops q S K (i + 1) os (Fr.put fr o.dst v))
  | some false => i ≠ q ∧ RD1 E ops q S K (i + 1) os (Fr.put fr o.dst (.tup []))
  | none => False
theorem Trace1.snoc {fr : Fr} {rs : List Rec} (t : Trace1 E N ops q S fr rs) {o : Oper} {v : PV} (ho : ops[rs.length]? = some o)
  (h : if rs.length = q then Great1 E N ops o v S (frM ops rs allT fr rs.length) else Small E N ops o v (frM ops rs allT fr rs.length)) : Trace1 E N ops q S fr (rs ++ [⟨v, none, []⟩]) := by
 have hf : ∀ n, n ≤ rs.length → frM ops (rs ++ [⟨v, none, []⟩]) allT fr n = frM ops rs allT fr n := fun n hn => frM_congr n (fun k hk => getD_snoc_lt (by omega)) fun _ _ => rfl
 refine ⟨fun i hi => ?_⟩
 simp only [List.length_append, List.length_singleton] at hi
 rcases Nat.lt_or_ge i rs.length with h1 | h1
 ·rw [hf i (by omega), getD_snoc_lt h1]; exact t.ok i h1
 ·have : i = rs.length := by omega
  subst this
  rw [hf _ (Nat.le_refl _), getD_snoc]; exact ⟨o, ho, h⟩
theorem RD1_trace (O : E.OK) {fr : Fr} {K : Fr → Prop} : ∀ (os : List Oper) (rs : List Rec), Trace1 E N ops q S fr rs → (∀ k o, os[k]? = some o → ops[rs.length + k]? = some o) →
  RD1 E ops q S K rs.length os (frM ops rs allT fr rs.length) → ∃ rs', rs'.length = rs.length + os.length ∧ Trace1 E N ops q S fr rs' ∧ K (frM ops rs' allT fr rs'.length)
 | [], rs, t, ho, h => ⟨rs, rfl, t, h⟩
 | o :: os, rs, t, ho, h => by
  have ho0 : ops[rs.length]? = some o := ho 0 o rfl
  have go : ∀ v : PV, (if rs.length = q then Great1 E N ops o v S (frM ops rs allT fr rs.length) else Small E N ops o v (frM ops rs allT fr rs.length)) →
    RD1 E ops q S K (rs.length + 1) os (Fr.put (frM ops rs allT fr rs.length) o.dst v) →
    ∃ rs', rs'.length = rs.length + (o :: os).length ∧ Trace1 E N ops q S fr rs' ∧ K (frM ops rs' allT fr rs'.length) := fun v h1 h4 => by
   have t' := t.snoc ho0 h1
   have hl : (rs ++ [(⟨v, none, []⟩ : Rec)]).length = rs.length + 1 := by simp
   obtain ⟨rs', a1, a2, a3⟩ := RD1_trace O os (rs ++ [⟨v, none, []⟩]) t' (fun k o' hk => by
     rw [hl, show rs.length + 1 + k = rs.length + (k + 1) by omega]; exact ho (k + 1) o' hk) (by
     rw [hl, frM_snoc ho0]; exact h4)
   exact ⟨rs', by rw [a1, hl]; simp only [List.length_cons]; omega, a2, a3⟩
  unfold RD1 at h
  split at h
  ·rename_i hg
   split at h
   ·rename_i c hc
    obtain ⟨hq, h⟩ := h
    split at h
    ·rename_i g vs hcal
     obtain ⟨v, h2, h3⟩ := h
     exact go v (by rw [if_pos hq]; exact Great1_call O hg hc hcal h2) h3
    ·exact h.elim
   ·obtain ⟨hq, v, h2, h3⟩ := h
    exact go v (by rw [if_neg hq]; exact Small_op O hg h2) h3
  ·rename_i hg
   exact go (.tup []) (by rw [if_neg h.1]; exact Small_skip hg) h.2
  ·exact h.elim
theorem any_free1 (c : Chk ops tab m N) {ds : List Deferred} {cx0 : Cx} {fr : Fr} {rs : List Rec} (t : Trace1 E N ops q S fr rs) (hm : rs.length = m) (hqm : q < m) (hS : ∀ b τ, S b τ → S b (τ ++ [none]))
  (hK : ∀ τ, S true τ → ROps E N z ops Q (Q .normal) (ops.toList.drop m) (frM ops rs allT fr m) τ) : ∀ (fuel : Nat) (listed : Array Bool) (τ : Store) (cx : Cx) (a : Act), listed.size = ops.size →
  (∀ j, LS listed j = true → j < m ∧ ∀ k ∈ tab.pr j, LS listed k = true) → lefts ops.size (LS listed) ≤ fuel → cx.top ≤ z → S (LS listed q) τ → Now E cx τ → FR E cx N (frM ops rs (LS listed) fr m) a.tmps →
  Step (cx0.below z) cx → a.defers = ds → wpa E.P .any ops (Lift E N z ds cx0 Q) fuel listed a cx.w := by
 intro fuel
 have turn : ∀ (fuel : Nat) (listed : Array Bool) (τ : Store) (cx : Cx) (a : Act), listed.size = ops.size → (∀ j, LS listed j = true → j < m ∧ ∀ k ∈ tab.pr j, LS listed k = true) → lefts ops.size (LS listed) ≤ fuel → cx.top ≤ z →
   S (LS listed q) τ → Now E cx τ → FR E cx N (frM ops rs (LS listed) fr m) a.tmps → Step (cx0.below z) cx → a.defers = ds → (∀ j, j < m → LS listed j = true) → wpa E.P .any ops (Lift E N z ds cx0 Q) fuel listed a cx.w := by
  intro fuel listed τ cx a hsz hcl hf ht hSt hn hfr hs hd hall
  rw [hall q hqm] at hSt
  refine any_seq c fuel listed m (frM ops rs allT fr m) τ cx a hsz (Nat.le_refl _) (fun i hi => ⟨fun h => (hcl i h).1, hall i⟩) hf (hK τ hSt) ht hn ?_ hs hd
  have e : frM ops rs allT fr m = frM ops rs (LS listed) fr m := frM_congr m (fun _ _ => rfl) fun k hk => (hall k hk).symm
  rw [e]; exact hfr
 induction fuel with
 | zero =>
  intro listed τ cx a hsz hcl hf ht hSt hn hfr hs hd
  exact turn 0 listed τ cx a hsz hcl hf ht hSt hn hfr hs hd fun j hj => lefts_zero (Nat.le_zero.1 hf) j (by have := c.le; omega)
 | succ fuel ih =>
  intro listed τ cx a hsz hcl hf ht hSt hn hfr hs hd
  by_cases hall : ∀ j, j < m → LS listed j = true
  ·exact turn _ listed τ cx a hsz hcl hf ht hSt hn hfr hs hd hall
  ·refine ⟨fun hnil => absurd (fun j hj => c.ready_nil hsz hnil j (by have := c.le; omega)) hall, fun i hi => ?_⟩
   obtain ⟨h1, o, ho, h2⟩ := (ready_iff hsz).1 hi
   have hlt := arr_lt ho
   have hcl' : ∀ j, LS listed j = true → ∀ k ∈ tab.pr j, LS listed k = true := fun j hj => (hcl j hj).2
   have hpr := c.ready_pr hsz hcl' hi
   have him : i < m := by
    rcases Nat.lt_or_ge i m with h | h
    ·exact h
    ·exact absurd (fun j hj => hpr j (c.seq ho h j (by omega))) hall
   obtain ⟨o', ho', hrec⟩ := t.ok i (by omega)
   rw [ho] at ho'; simp only [Option.some.injEq] at ho'; subst ho'
   have hmore := LS_set (listed := listed) (i := i) (by omega)
   have agr := fun t' (ht' : t' ∈ o.looksAt ops) => agreeF (rs := rs) (fr := fr) c ho h1 hcl' hpr him ht'
   have cont : ∀ (cx' : Cx) (val : Value) (τ' : Store), S (LS (listed.setIfInBounds i true) q) τ' → V E cx' (rs.getD i default).v val → Now E cx' τ' → Step cx cx' →
     wpa E.P .any ops (Lift E N z ds cx0 Q) fuel (listed.setIfInBounds i true) (a.put o.dst val) cx'.w := fun cx' val τ' hS' hv hn' hs' => by
    refine ih _ τ' cx' _ (by simpa using hsz) (fun j hj => ?_) ?_ (hs'.top ▸ ht) hS' hn' ?_ (hs.transB (hs'.ofBelow ht)) ?_
    ·rw [hmore] at hj ⊢
     unfold more at hj ⊢
     by_cases e : j = i
     ·subst e; exact ⟨him, fun k hk => by rw [if_neg (by have := c.pr_lt ho hk; omega)]; exact hpr k hk⟩
     ·rw [if_neg e] at hj
      exact ⟨(hcl j hj).1, fun k hk => by split; rfl; exact (hcl j hj).2 k hk⟩
    ·have := lefts_lt h1 hlt
     rw [hmore]; omega
    ·rw [hmore]
     exact ((hfr.step hs').put hv (c.dst ho)).congr fun t' => stepF c ho h1 him t'
    ·have : (a.put o.dst val).defers = a.defers := by cases o.dst <;> rfl
     exact this.trans hd
   have hw : if Region.wanted o (yielded ops a.tmps) then opr E.P o a cx.w (wpa E.P .any ops (Lift E N z ds cx0 Q) fuel (listed.setIfInBounds i true)) (Lift E N z ds cx0 Q) else wpa E.P .any ops (Lift E N z ds cx0 Q) fuel (listed.setIfInBounds i true) (a.put o.dst undef) cx.w := by
    by_cases e : i = q
    ·rw [if_pos e] at hrec
     subst e
     rw [h1] at hSt
     exact hrec (frM ops rs (LS listed) fr m) agr τ cx a _ _ hSt hn hfr fun cx' val τ' h3 h4 h5 h6 => cont cx' val τ' (by rw [hmore]; simp only [more, if_true]; exact h3) h4 h5 h6
    ·rw [if_neg e] at hrec
     have hqe : LS (listed.setIfInBounds i true) q = LS listed q := by rw [hmore]; unfold more; rw [if_neg (Ne.symm e)]
     refine hrec (frM ops rs (LS listed) fr m) agr τ cx a _ _ hn hfr fun cx' val τ' h3 h4 h5 h6 => cont cx' val τ' ?_ h4 h5 h6
     rw [hqe]
     rcases h3 with rfl | rfl
     ·exact hSt
     ·exact hS _ _ hSt
   unfold wpo
   rw [ho]
   simp only
   split
   ·rename_i hww; rw [if_pos hww] at hw; exact hw
   ·rename_i hww; rw [if_neg hww] at hw; exact hw
theorem T_draw1 (O : E.OK) (hmix : E.P.follows .mixedOrders = true) {id : Nat} {ops : Array Oper} (tab : Tab) (m q : Nat) (S : Bool → Store → Prop) {fr : Fr} {σ : Store} (hqm : q < m) (hchk : chkDraw ops tab m N = true) (hS : ∀ b τ, S b τ → S b (τ ++ [none])) (h0 : S false σ)
  (h : RD1 E ops q S (fun fr => ∀ τ, S true τ → RF E ops Q (Q .normal) (ops.toList.drop m) fr τ) 0 (ops.toList.take m) fr) : T E N z (.region id ops true) Q fr σ := fun cx a ht hn hfr => by
 have c := Chk.of hchk
 obtain ⟨rs, h1, h2, h3⟩ := RD1_trace (N := N) O (ops.toList.take m) [] ⟨fun i hi => by simp at hi⟩
  (fun k o hk => by
   rw [List.getElem?_take] at hk
   split at hk
   ·simpa using hk
   ·simp at hk) h
 have hlen : rs.length = m := by
  rw [h1, List.length_take]; have := c.le; simp; omega
 rw [hlen] at h3
 have h4 := fun τ hτ => ROps_of_RF (N := N) (z := z) O _ _ _ (fun o ho t hto => by
  obtain ⟨i, hi⟩ := List.getElem?_of_mem (List.mem_of_mem_drop ho)
  exact c.dst (i := i) (o := o) (by simpa using hi) t hto) (h3 τ hτ)
 have hw := hn.world (w := { cx.w with drawn := cx.w.drawn + 1 }) rfl rfl rfl rfl
 have hL : ∀ j, LS (Array.replicate ops.size false) j = false := fun j => by
  unfold LS
  rw [Array.getD_eq_getD_getElem?, Array.getElem?_replicate]
  split <;> rfl
 have hfrM : ∀ n, frM ops rs (LS (Array.replicate ops.size false)) fr n = fr := fun n => by
  induction n with
  | zero => rfl
  | succ n ih => simp only [frM, hL n]; simpa using ih
 refine wr_region_any hmix (any_free1 (cx0 := cx) c h2 hlen hqm hS h4 ops.size (Array.replicate ops.size false) σ { cx with w := { cx.w with drawn := cx.w.drawn + 1 } } a (by simp) (fun j hj => by rw [hL] at hj; simp at hj) ?_ ht (by rw [hL]; exact h0) hw.1 ?_ (hw.2.ofBelow ht) rfl)
 ·have := List.countP_le_length (p := fun j => !LS (Array.replicate ops.size false) j) (l := List.range ops.size)
  simpa [lefts] using this
 ·rw [hfrM]; exact hfr.step hw.2
end
def D1 (E : Env) (q : Nat) (S : Bool → Store → Prop) (K : Fr → Prop) : Nat → List DOp → Fr → Prop
 | _, [], fr => K fr
 | i, ⟨o, _, _⟩ :: os, fr =>
  match pGuard o.g fr with
  | some true => (match isCall o.op with
   | some c => i = q ∧ (match sCallee E fr c with
    | some (g, vs) => ∃ v, (∀ τ, S false τ → C E g vs τ fun re τ' => re = .ret v ∧ S true τ') ∧ D1 E q S K (i + 1) os (Fr.put fr o.d v)
    | none => False)
   | none => i ≠ q ∧ ∃ v, (∀ (τ : Store) (s : Nat), sop E o.op fr τ s = some (v, τ)) ∧ D1 E q S K (i + 1) os (Fr.put fr o.d v))
  | some false => i ≠ q ∧ D1 E q S K (i + 1) os (Fr.put fr o.d (.tup []))
  | none => False
section
variable {E : Env} {N z : Nat} {Q : Post} {q : Nat} {S : Bool → Store → Prop} {K K' : Fr → Prop} {fr : Fr} {σ : Store}
theorem RD1_of_D1 {ops : Array Oper} {tab : Tab} (hK : ∀ fr, K fr → K' fr) : ∀ {i : Nat} {os : List Oper} {fr : Fr}, D1 E q S K i (prepD ops tab i os) fr → RD1 E ops q S K' i os fr
 | i, [], fr, h => hK _ h
 | i, o :: os, fr, h => by
  have ih := fun fr => RD1_of_D1 (ops := ops) (tab := tab) hK (i := i + 1) (os := os) (fr := fr)
  rw [prepD, D1] at h
  dsimp only at h
  rw [RD1, sGuard_prep]
  split at h
  ·rename_i hg
   try simp only [hg]
   split at h
   ·rename_i c hc
    try simp only [hc]
    refine ⟨h.1, ?_⟩
    replace h := h.2
    split at h
    ·rename_i g vs hcal
     try simp only [hcal]
     obtain ⟨v, h1, h2⟩ := h
     exact ⟨v, h1, ih _ h2⟩
    ·exact h.elim
   ·rename_i hc
    try simp only [hc]
    obtain ⟨h0, v, h1, h2⟩ := h
    exact ⟨h0, v, h1, ih _ h2⟩
  ·rename_i hg
   try simp only [hg]
   exact ⟨h.1, ih _ h.2⟩
  ·exact h.elim
theorem s_draw1 (O : E.OK) (hmix : E.P.follows .mixedOrders = true) {id : Nat} {k : List It} {ops : Array Oper} {qs : List DOp} {ps : List POp} (tab : Tab) (m q : Nat) (S : Bool → Store → Prop) (hchk : chkDraw ops tab m N = true) (hqm : Nat.blt q m = true) (hq : prepD ops tab 0 (ops.toList.take m) = qs) (hp : prep ops (ops.toList.drop m) = ps)
  (hS : ∀ b τ, S b τ → S b (τ ++ [none])) (h0 : S false σ) (h : D1 E q S (fun fr => ∀ τ, S true τ → RG E (SP E N z Q k) (SP E N z Q k .normal) ps fr τ) 0 qs fr) : T E N z (.region id ops true) (SP E N z Q k) fr σ := by
 subst hq hp
 exact T_draw1 O hmix tab m q S (by simpa [Nat.blt_eq] using hqm) hchk hS h0 (RD1_of_D1 (fun fr h τ hτ => RF_of_RG (h τ hτ)) h)
theorem e_op {i sl t : Nat} {pr : List Nat} {op : Op} {qs : List DOp} {v : PV} (h1 : isCall op = none) (h2 : Nat.beq i q = false) (h : ∀ (τ : Store) (s : Nat), sop E op fr τ s = some (v, τ)) (hk : D1 E q S K (i + 1) qs ((t, v) :: fr)) : D1 E q S K i (⟨⟨none, some t, op⟩, pr, sl⟩ :: qs) fr := by
 rw [D1]; simp only [pGuard, h1]
 exact ⟨fun e => by subst e; simp at h2, v, h, hk⟩
theorem e_call {i sl t : Nat} {pr : List Nat} {c : Call} {f : Operand} {g : FuncId} {vs : List PV} {qs : List DOp} {v : PV} (hc : c.callee = .value f) (h2 : i = q) (h : sCallee E fr c = some (g, vs)) (hC : ∀ τ, S false τ → C E g vs τ fun re τ' => re = .ret v ∧ S true τ')
  (hk : D1 E q S K (i + 1) qs ((t, v) :: fr)) : D1 E q S K i (⟨⟨none, some t, .call c⟩, pr, sl⟩ :: qs) fr := by
 rw [D1]; simp only [pGuard, isCall, hc, h]
 exact ⟨h2, v, hC, hk⟩
theorem e_end {i : Nat} (h : K fr) : D1 E q S K i [] fr := h
end
end Go.Proofs.YtdplbgfokoajjaaGreat
end
section
set_option linter.unusedVariables false
set_option linter.unusedSimpArgs false
set_option maxRecDepth 20000
namespace Go.Proofs.YtdplbgfokoajjaaGreat
open Go
attribute [local irreducible] T TL C RG DP SP YR afterRG DPcall
attribute [-simp] List.map_set
theorem eN_names' {d : Dk} (h : srt d.files) : d.files.map eN = strs (names d) := by
 rw [names_srt h]; simp [strs]
theorem pad_at {σ : Store} {i : Nat} {x : Option Blk} {b : Blk} (h : σ[i]? = some (some b)) : (σ ++ [x])[i]? = some (some b) := by
 rw [List.getElem?_append_left (getElem?_lt h)]; exact h
theorem DkAt.pad {σ : Store} {i j : Nat} {d : Dk} (h : DkAt σ i j d) : DkAt (σ ++ [none]) i j d := ⟨h.ne, pad_at h.st, pad_at h.mp⟩
theorem RdAt.pad {σ : Store} {i : Nat} {d : Dk} (h : RdAt σ i d) : RdAt (σ ++ [none]) i d := by
 cases h with
 | nil h0 st => exact .nil h0 (pad_at st)
 | row l g ne st ls => exact .row l g ne (pad_at st) (pad_at ls)
theorem opsAt {l : List OpV} {j : Nat} (hO : ∀ o ∈ l, o.OK) (hlt : j < l.length) : ∃ o : OpV, o.OK ∧ (encOps l)[j]? = some (.agg 35 [i64 o.what, .str o.name, .str o.to, .lit (u8l o.b), i64 o.n, .lit (ints o.keep)]) :=
 ⟨l[j], hO l[j] (List.getElem_mem hlt), by simp [encOps, hlt, encOp]⟩
theorem great_len {l : List OpV} (hg : great l = false) : l.length ≤ 300 := by
 unfold great at hg
 simp only [Bool.or_eq_false_iff, decide_eq_false_iff_not] at hg
 omega
theorem manLoad_len (d : Dk) : (manLoad d).1.length < 1000000000 := by
 unfold manLoad
 split
 ·decide
 ·unfold manGet
  split
  ·decide
  ·split
   ·decide
   ·split
    ·rename_i f _ _ _ _
     rw [chunks_len]; have := (f.b.headD 0).toNat_lt; omega
    ·decide
section
variable {R : Re → Store → Prop} {σ : Store}
set_option maxHeartbeats 16000000 in
theorem C_mswaps {n : Int} {l m : List OpV} {a : List Int} (hl : l.length ≤ 9223372036854775807) (hm : m.length ≤ 9223372036854775807) (hO : ∀ o ∈ l, o.OK) (hP : ∀ o ∈ m, o.OK) (ha : a.length ≤ 9223372036854775807) (h : R (.ret (.bool true)) σ) : C tE 3 [i64 n, .lit (encOps l), .lit (is a), .lit (encOps m)] σ R := by
 have hll : (encOps l).length = l.length := by simp [encOps]
 have hlm : (encOps m).length = m.length := by simp [encOps]
 have ila := is_len a
 have cg : ∀ {R : Re → Store → Prop} {σ : Store}, R (.ret (.bool (great l))) σ → C tE 7 [.lit (encOps l)] σ R := fun h => C_great hl h
 have cm : ∀ {R : Re → Store → Prop} {σ : Store}, R (.ret (.bool (great m))) σ → C tE 7 [.lit (encOps m)] σ R := fun h => C_great hm h
 refine C_pure tOK rfl ?_
 refine s_body' Tryz.func3 tOK rfl (by conv => lhs; simp) (by conv => lhs; simp) (by conv => lhs; simp [Fr.args]) rfl (by conv => lhs; try simp) fun R9 hR9 => ?_
 cases hr : (decide (n < 0) || decide (1048576 < n)) with
 | true =>
  have hr' : n < 0 ∨ 1048576 < n := by simpa using hr
  repeat' (first | refine go ?_ | refine s_seq fun y9 hy9 => ?_ | refine qT _ ?_ ?_ | refine qG _ ?_ ?_ | refine qN ?_ ?_ | (refine QB.mk fun hb9 => ?_; (try simp only [hb9]); (try simp at hb9); first | (exfalso; omega) | subst hb9 | skip) | refine qD _ ?_ ?_ | (refine nZ ?_; first | refine C_mhead ?_ | refine (C_new_none hr) ?_ | refine (R_new_none hr') ?_) | (apply d_call []; exact rfl; (solve | (conv => lhs; try simp)); (solve | exact rfl | simp); (solve | (conv => lhs; try simp)); intro τ hτ; refine nZ ?_; first | exact C_mhead ⟨rfl, rfl⟩ | exact (C_new_none hr) ⟨rfl, rfl⟩ | exact (R_new_none hr') ⟨rfl, rfl⟩))
  exact h
 | false =>
  have hr1 : decide (n < 0) = false := by cases h1 : decide (n < 0) <;> simp_all
  have hr2 : decide (1048576 < n) = false := by cases h1 : decide (1048576 < n) <;> simp_all
  have n0 : 0 ≤ n := by simpa using hr1
  have n1 : n ≤ 1048576 := by simpa using hr2
  have cg0 : great l = true ∨ great m = true ∨ 900 < a.length ∨ great l = false ∧ great m = false ∧ a.length ≤ 900 := by
   cases great l with
   | true => exact .inl rfl
   | false =>
    cases great m with
    | true => exact .inr (.inl rfl)
    | false =>
     rcases Nat.lt_or_ge 900 a.length with h9 | h9
     ·exact .inr (.inr (.inl h9))
     ·exact .inr (.inr (.inr ⟨rfl, rfl, h9⟩))
  have cN : ∀ {R : Re → Store → Prop}, R (.ret (.ptr 1 0 0 [])) [some (.mp 9 []), some (.cells 54 0 [.agg 54 [i64 n, .map 0, i64 (-1), i64 0]])] → C tE 5 [i64 n] [] R := fun h => C_new_ok hr1 hr2 h
  rcases cg0 with hg | hg | hg | ⟨hg, hgm, h9⟩
  ·rw [hg] at cg
   repeat' (first | refine go ?_ | refine s_seq fun y9 hy9 => ?_ | refine qT _ ?_ ?_ | refine qG _ ?_ ?_ | refine qN ?_ ?_ | (refine QB.mk fun hb9 => ?_; (try simp only [hb9]); (try simp at hb9); first | (exfalso; omega) | subst hb9 | skip) | refine qD _ ?_ ?_ | refine cE Tryz.func6 tOK fun R9 hR9 => ?_ | (refine nZ ?_; first | refine C_mhead ?_ | refine cN ?_ | refine cg ?_ | refine cm ?_) | (apply d_call []; exact rfl; (solve | (conv => lhs; try simp)); (solve | exact rfl | simp); (solve | (conv => lhs; try simp)); intro τ hτ; refine nZ ?_; first | exact C_mhead ⟨rfl, rfl⟩ | exact cN ⟨rfl, rfl⟩ | exact cg ⟨rfl, rfl⟩ | exact cm ⟨rfl, rfl⟩))
   all_goals exact h
  ·rw [hg] at cm
   repeat' (first | refine go ?_ | refine s_seq fun y9 hy9 => ?_ | refine qT _ ?_ ?_ | refine qG _ ?_ ?_ | refine qN ?_ ?_ | (refine QB.mk fun hb9 => ?_; (try simp only [hb9]); (try simp at hb9); first | (exfalso; omega) | subst hb9 | skip) | refine qD _ ?_ ?_ | refine cE Tryz.func6 tOK fun R9 hR9 => ?_ | (refine nZ ?_; first | refine C_mhead ?_ | refine cN ?_ | refine cg ?_ | refine cm ?_) | (apply d_call []; exact rfl; (solve | (conv => lhs; try simp)); (solve | exact rfl | simp); (solve | (conv => lhs; try simp)); intro τ hτ; refine nZ ?_; first | exact C_mhead ⟨rfl, rfl⟩ | exact cN ⟨rfl, rfl⟩ | exact cg ⟨rfl, rfl⟩ | exact cm ⟨rfl, rfl⟩))
   all_goals exact h
  ·have F9 := @ila
   repeat' (first | refine gf ?_ | refine s_seq fun y9 hy9 => ?_ | refine qT _ ?_ ?_ | refine qG _ ?_ ?_ | refine qN ?_ ?_ | (refine QB.mk fun hb9 => ?_; (try simp only [hb9]); (try simp at hb9); first | (exfalso; omega) | subst hb9 | skip) | refine qD _ ?_ ?_ | refine cE Tryz.func6 tOK fun R9 hR9 => ?_ | (refine nZ ?_; first | refine C_mhead ?_ | refine cN ?_ | refine cg ?_ | refine cm ?_) | (apply d_call []; exact rfl; (solve | (conv => lhs; try simp [ila])); (solve | exact rfl | simp); (solve | (conv => lhs; try simp [ila])); intro τ hτ; refine nZ ?_; first | exact C_mhead ⟨rfl, rfl⟩ | exact cN ⟨rfl, rfl⟩ | exact cg ⟨rfl, rfl⟩ | exact cm ⟨rfl, rfl⟩))
   all_goals exact h
  ·rw [hg] at cg
   rw [hgm] at cm
   have l3 := great_len hg
   have m3 := great_len hgm
   have F9 := @ila
   repeat' (first | refine gf ?_ | refine s_seq fun y9 hy9 => ?_ | refine qT _ ?_ ?_ | refine qG _ ?_ ?_ | refine qN ?_ ?_ | (refine QB.mk fun hb9 => ?_; (try simp only [hb9]); (try simp at hb9); first | (exfalso; omega) | subst hb9 | skip) | refine qD _ ?_ ?_ | refine cE Tryz.func6 tOK fun R9 hR9 => ?_ | (refine nZ ?_; first | refine C_mhead ?_ | refine cN ?_ | refine cg ?_ | refine cm ?_) | (apply d_call []; exact rfl; (solve | (conv => lhs; try simp [ila])); (solve | exact rfl | simp); (solve | (conv => lhs; try simp [ila])); intro τ hτ; refine nZ ?_; first | exact C_mhead ⟨rfl, rfl⟩ | exact cN ⟨rfl, rfl⟩ | exact cg ⟨rfl, rfl⟩ | exact cm ⟨rfl, rfl⟩))
   refine t_pick tOK [0, 1, 2] [0, 1, 2, 3, 9, 10, 11, 12] (by decide) (by rfl) (by rfl) (by conv => lhs; simp [Fr.keep]) (by conv => lhs; simp [pickS']) (by simp [Fr.keep]) (by simp [pickS']) ?_
   refine T_wk (fr' := [(0, i64 n), (1, .lit (encOps l)), (2, .lit (is a)), (3, .lit (encOps m)), (9, .bool true), (10, .ptr 1 0 0 []), (11, .ptr 2 0 0 []), (12, i64 (0 : Nat))]) (σ' := [some (.mp 9 []), some (.cells 54 0 [.agg 54 [i64 n, .map 0, i64 (-1), i64 0]]), some (.cells 57 0 [.agg 57 [i64 n, .lit [], i64 (-1), i64 0]])]) ?_ ?_ ?_
   ·repeat' (first | with_reducible exact WkF.refl _ | with_reducible exact WkS.refl _ | with_reducible exact WkB.refl _ | with_reducible exact Wk.refl _ | with_reducible exact WkL.refl _ | exact Wk.nils | refine WkF.cons ?_ ?_ | refine WkS.cons ?_ ?_ | refine WkB.cells ?_ | refine WkL.cons ?_ ?_ | refine Wk.agg ?_ | exact Wk.refl _ | exact WkL.refl _)
   ·repeat' (first | with_reducible exact WkF.refl _ | with_reducible exact WkS.refl _ | with_reducible exact WkB.refl _ | with_reducible exact Wk.refl _ | with_reducible exact WkL.refl _ | exact Wk.nils | refine WkF.cons ?_ ?_ | refine WkS.cons ?_ ?_ | refine WkB.cells ?_ | refine WkL.cons ?_ ?_ | refine Wk.agg ?_ | exact Wk.refl _ | exact WkL.refl _)
   clear cg cm cN
   refine s_loop fun c9 hc9 => ?_
   refine s_loopn l.length (fun j fr σ => ∃ d, Inv d ∧ srt d.files ∧ DkAt σ 1 0 d ∧ RdAt σ 2 d ∧ fr = [(0, i64 n), (1, .lit (encOps l)), (2, .lit (is a)), (3, .lit (encOps m)), (9, .bool true), (10, .ptr 1 0 0 []), (11, .ptr 2 0 0 []), (12, i64 j)]) ?_ ⟨⟨n, [], -1, 0⟩, Inv.new n0 n1, List.Pairwise.nil, ⟨by decide, rfl, rfl⟩, .nil rfl rfl, rfl⟩
   rintro j fr σ hj ⟨d, hI, hS, D, r, rfl⟩ ih
   refine s_round hc9 ?_
   clear hc9
   rcases Nat.lt_or_ge j l.length with hlt | hge
   ·obtain ⟨o, ho, heo⟩ := opsAt hO hlt
    have F9 := And.intro @heo <| @hll
    repeat' (first | refine gf ?_ | refine s_seq fun y9 hy9 => ?_ | refine qT _ ?_ ?_ | refine qG _ ?_ ?_ | refine qN ?_ ?_ | (refine QB.mk fun hb9 => ?_; (try simp only [hb9]); (try simp at hb9); first | (exfalso; omega) | subst hb9 | skip) | refine sD tOK tmix [([],0),([],1),([],2),([1,2],3),([1,2,3],4),([0,1,2,3,4],5),([],6),([],7),([],8),([7,8],9),([7,8,9],10),([0,1,2,3,4,5,6,7,8,9,10],11),([0,1,2,3,4,5,6,7,8,9,10,11],12)] 11 ?_ | refine qD _ ?_ ?_ | (refine nZ ?_; refine (C_do_at D hI ho) ?_) | (apply d_call []; exact rfl; (solve | (conv => lhs; try simp [heo,hll])); (solve | exact rfl | simp); (solve | (conv => lhs; try simp [heo,hll])); intro τ hτ; refine nZ ?_; first | exact (C_do_at D hI ho) ⟨rfl, rfl⟩))
    have r1 := r.dk (e' := (doOp d o).2) D (by decide) (by decide)
    have D1 := D.put (doOp d o).2
    refine R_plain_at r1 hI hS ho ?_
    intro σ' r2 k2
    have D2 := D1.kept k2 (by decide) (by decide)
    repeat' (first | refine go ?_ | refine s_seq fun y9 hy9 => ?_ | refine qT _ ?_ ?_ | refine qG _ ?_ ?_ | refine qN ?_ ?_ | (refine QB.mk fun hb9 => ?_; (try simp only [hb9]); (try simp at hb9); first | (exfalso; omega) | subst hb9 | skip) | refine sD tOK tmix [([],0),([],1),([],2),([1,2],3),([1,2,3],4),([0,1,2,3,4],5),([],6),([],7),([],8),([7,8],9),([7,8,9],10),([0,1,2,3,4,5,6,7,8,9,10],11),([0,1,2,3,4,5,6,7,8,9,10,11],12)] 11 ?_ | refine qD _ ?_ ?_)
    refine w_backk [0, 1, 2, 3, 9, 10, 11, 12] (by conv => lhs; simp) ?_
    exact ih hlt _ _ ⟨_, hI.doOp ho, srt_doOp (o := o) hS, D2, r2, by simp⟩
   ·clear ih
    have F9 := @hll
    repeat' (first | refine gf ?_ | refine s_seq fun y9 hy9 => ?_ | refine qT _ ?_ ?_ | refine qG _ ?_ ?_ | refine qN ?_ ?_ | (refine QB.mk fun hb9 => ?_; (try simp only [hb9]); (try simp at hb9); first | (exfalso; omega) | subst hb9 | skip) | refine sD tOK tmix [([],0),([],1),([],2),([1,2],3),([1,2,3],4),([0,1,2,3,4],5),([],6),([],7),([],8),([7,8],9),([7,8,9],10),([0,1,2,3,4,5,6,7,8,9,10],11),([0,1,2,3,4,5,6,7,8,9,10,11],12)] 11 ?_ | refine qD _ ?_ ?_ | (refine nZ ?_; refine (C_swap_at D hI (by omega)) ?_) | (apply d_call []; exact rfl; (solve | (conv => lhs; try simp [hll])); (solve | exact rfl | simp); (solve | (conv => lhs; try simp [hll])); intro τ hτ; refine nZ ?_; first | exact (C_swap_at D hI (by omega)) ⟨rfl, rfl⟩))
    have r1 := r.dk (e' := (manSwap d a).2) D (by decide) (by decide)
    have D1 := D.put (manSwap d a).2
    refine R_mswap r1 hI hS (by omega) ?_
    intro σ' r2 k2 S2
    have D2 := k2 _ _ _ D1 (by decide) (by decide)
    have I2 : Inv (manSwap d a).2 := hI.swap
    clear D1 r1 k2 D r hS hI
    generalize (manSwap d a).2 = d2 at *
    generalize (manSwap d a).1 = e2 at *
    have hgl := manLoad_len d2
    have cl : ∀ {R : Re → Store → Prop}, R (.ret (.lit (strs (names d2)))) σ' → C tE 17 [.ptr 2 0 0 []] σ' R := fun h => R_list_rd r2 I2 (by rw [eN_names' S2]; exact h)
    have n64 : (names d2).length < 1000000000 := by rw [names_len]; have := I2.n; omega
    have cs : ∀ {R : Re → Store → Prop} {σ : Store}, R (.ret (.bool true)) σ → C tE 15 [.lit (strs (names d2)), .lit (strs (names d2))] σ R := fun h => C_sames n64 n64 (by rw [beq_self_eq_true]; exact h)
    have csm : ∀ {R : Re → Store → Prop} {σ : Store}, R (.ret (.bool true)) σ → C tE 14 [.lit (is (manLoad d2).1), .lit (is (manLoad d2).1)] σ R := fun h => C_samei hgl hgl (by rw [beq_self_eq_true]; exact h)
    repeat' (first | refine go ?_ | refine s_seq fun y9 hy9 => ?_ | refine qT _ ?_ ?_ | refine qG _ ?_ ?_ | refine qN ?_ ?_ | (refine QB.mk fun hb9 => ?_; (try simp only [hb9]); (try simp at hb9); first | (exfalso; omega) | subst hb9 | skip) | refine qD _ ?_ ?_ | (refine nZ ?_; first | refine (C_load_at D2 I2) ?_ | refine (R_load_rd r2 I2) ?_ | refine csm ?_ | refine (C_list_at D2 I2) ?_ | refine cl ?_ | refine cs ?_ | refine (C_used_at D2 I2.usedlt) ?_ | refine (R_used_rd r2 I2) ?_) | (apply d_call []; exact rfl; (solve | (conv => lhs; try simp)); (solve | exact rfl | simp); (solve | (conv => lhs; try simp)); intro τ hτ; refine nZ ?_; first | exact (C_load_at D2 I2) ⟨rfl, rfl⟩ | exact (R_load_rd r2 I2) ⟨rfl, rfl⟩ | exact csm ⟨rfl, rfl⟩ | exact (C_list_at D2 I2) ⟨rfl, rfl⟩ | exact cl ⟨rfl, rfl⟩ | exact cs ⟨rfl, rfl⟩ | exact (C_used_at D2 I2.usedlt) ⟨rfl, rfl⟩ | exact (R_used_rd r2 I2) ⟨rfl, rfl⟩))
    refine s_loop fun c9 hc9 => ?_
    refine TL_keep [0, 1, 2, 3, 9, 10, 11, 19] ?_
    refine s_loopn m.length (fun j fr σ => ∃ d, Inv d ∧ srt d.files ∧ DkAt σ 1 0 d ∧ RdAt σ 2 d ∧ fr = [(0, i64 n), (1, .lit (encOps l)), (2, .lit (is a)), (3, .lit (encOps m)), (9, .bool true), (10, .ptr 1 0 0 []), (11, .ptr 2 0 0 []), (19, i64 j)]) ?_ ⟨d2, I2, S2, D2, r2, by simp⟩
    clear hgl cl n64 cs csm r2 D2 S2 I2
    clear d2
    rintro j fr σ hj ⟨d, hI, hS, D, r, rfl⟩ ih
    refine s_round hc9 ?_
    clear hc9
    rcases Nat.lt_or_ge j m.length with hlt | hge
    ·obtain ⟨o, ho, heo⟩ := opsAt hP hlt
     have F9 := @hlm
     repeat' (first | refine gf ?_ | refine s_seq fun y9 hy9 => ?_ | refine qT _ ?_ ?_ | refine qG _ ?_ ?_ | refine qN ?_ ?_ | (refine QB.mk fun hb9 => ?_; (try simp only [hb9]); (try simp at hb9); first | (exfalso; omega) | subst hb9 | skip) | refine qD _ ?_ ?_)
     refine s_draw1 tOK tmix [([],0),([],1),([],2),([1,2],3),([1,2,3],4),([0,1,2,3,4],5),([],6),([],7),([],8),([7,8],9),([7,8,9],10),([0,1,2,3,4,5,6,7,8,9,10],11),([0,1,2,3,4,5,6,7,8,9,10,11],12)] 11 5 (fun b τ => DkAt τ 1 0 (cond b (doOp d o).2 d) ∧ RdAt τ 2 d) (by decide +kernel) rfl (by conv => lhs; try simp) (by conv => lhs; try simp) ?_ ?_ ?_
     ·exact fun b τ h => ⟨h.1.pad, h.2.pad⟩
     ·exact ⟨D, r⟩
     repeat (apply e_op; exact rfl; exact rfl; (intro τ s; (solve | (conv => lhs; simp [heo]))))
     refine e_call rfl rfl (by simp [encOp]) (v := i64 (doOp d o).1) (fun τ hτ => C_do_at hτ.1 hI ho ⟨rfl, hτ.1.put _, hτ.2.dk hτ.1 (by decide) (by decide)⟩) ?_
     repeat (apply e_op; exact rfl; exact rfl; (intro τ s; (solve | (conv => lhs; simp [heo]))))
     refine e_end ?_
     rintro τ ⟨D1, r1⟩
     replace D1 : DkAt τ 1 0 (doOp d o).2 := D1
     repeat' (first | refine go ?_ | refine s_seq fun y9 hy9 => ?_ | refine qT _ ?_ ?_ | refine qG _ ?_ ?_ | refine qN ?_ ?_ | (refine QB.mk fun hb9 => ?_; (try simp only [hb9]); (try simp at hb9); first | (exfalso; omega) | subst hb9 | skip) | refine qD _ ?_ ?_)
     refine R_plain_at r1 hI hS ho ?_
     intro σ' r2 k2
     have D2 := D1.kept k2 (by decide) (by decide)
     repeat' (first | refine go ?_ | refine s_seq fun y9 hy9 => ?_ | refine qT _ ?_ ?_ | refine qG _ ?_ ?_ | refine qN ?_ ?_ | (refine QB.mk fun hb9 => ?_; (try simp only [hb9]); (try simp at hb9); first | (exfalso; omega) | subst hb9 | skip) | refine qD _ ?_ ?_)
     refine w_backk [0, 1, 2, 3, 9, 10, 11, 19] (by conv => lhs; simp) ?_
     exact ih hlt _ _ ⟨_, hI.doOp ho, srt_doOp (o := o) hS, D2, r2, by simp⟩
    ·have F9 := @hlm
     repeat' (first | refine gf ?_ | refine s_seq fun y9 hy9 => ?_ | refine qT _ ?_ ?_ | refine qG _ ?_ ?_ | refine qN ?_ ?_ | (refine QB.mk fun hb9 => ?_; (try simp only [hb9]); (try simp at hb9); first | (exfalso; omega) | subst hb9 | skip) | refine qD _ ?_ ?_ | (refine nZ ?_; first | refine (C_synced_at D (show filN.size ≤ maxLen by decide)) ?_ | refine (R_synced_rd r hI) ?_) | (apply d_call []; exact rfl; (solve | (conv => lhs; try simp [hlm])); (solve | exact rfl | simp); (solve | (conv => lhs; try simp [hlm])); intro τ hτ; refine nZ ?_; first | exact (C_synced_at D (show filN.size ≤ maxLen by decide)) ⟨rfl, rfl⟩ | exact (R_synced_rd r hI) ⟨rfl, rfl⟩))
     exact h
end
end Go.Proofs.YtdplbgfokoajjaaGreat
end
section
set_option linter.unusedVariables false
set_option linter.unusedSimpArgs false
set_option maxRecDepth 20000
namespace Go.Proofs.YtdplbgfokoajjaaGreat
open Go Go.ChangeShapes Go.RowKit
section
theorem dat_op {n : Nat} {x : PV} (h : Dat tE (n + 3) 35 x) : ∃ o : OpV, x = encOp o ∧ o.OK := by
 obtain ⟨fs, rfl, hl, hx⟩ := (h : ∃ fs, x = .agg 35 fs ∧ fs.length = (tE.lay 35).length ∧ ∀ (i : Nat) u y, (tE.lay 35)[i]? = some u → fs[i]? = some y → Dat tE (n + 2) u y)
 have hl : fs.length = 6 := hl
 match fs, hl, hx with
 | [a, b, c, d, e, f], _, hx =>
  obtain ⟨w, rfl, _⟩ := dat_int (hx 0 3 a rfl rfl)
  obtain ⟨s, rfl, hs⟩ := dat_str (hx 1 9 b rfl rfl)
  obtain ⟨t, rfl, ht⟩ := dat_str (hx 2 9 c rfl rfl)
  obtain ⟨l, rfl, hlb⟩ := dat_bytes (hx 3 32 d rfl rfl)
  obtain ⟨k, rfl, hk⟩ := dat_int (hx 4 3 e rfl rfl)
  obtain ⟨q, rfl, hq, hq2⟩ := dat_ints (hx 5 33 f rfl rfl)
  exact ⟨⟨w, s, t, l, k, q⟩, rfl, ⟨hs, ht, hk.2, fun k hk => (hq2 k hk).2, hq, Nat.le_trans hlb (show maxLen ≤ 9223372036854775807 by decide)⟩⟩
theorem dat_ops {n : Nat} {x : PV} (h : Dat tE (n + 4) 22 x) : ∃ l : List OpV, x = .lit (encOps l) ∧ l.length ≤ maxLen ∧ ∀ o ∈ l, o.OK :=
 dat_list (t := 0) (f := encOp) (P := OpV.OK) (h : ∃ xs, x = .lit xs ∧ xs.length ≤ maxLen ∧ ∀ y ∈ xs, Dat tE (n + 3) 35 y) (fun y hy => dat_op hy)
end
end Go.Proofs.YtdplbgfokoajjaaGreat
end
