/- Replicas, a step. -/
import Derived.Test.YtncbfppafgjdiaaGreatXg
section
set_option linter.unusedVariables false
set_option linter.unusedSimpArgs false
set_option maxRecDepth 20000
namespace Go.Proofs.YtncbfppafgjdiaaGreat
open Go
attribute [local irreducible] T TL C RG DP SP YR afterRG DPcall
@[simp] theorem bl_eBand (n : Nat) (l : List BandV) : belowL n (l.map eBand) = true := belowL_of_pure n _ (pl_eBand l)
@[simp] theorem al_eBand (p : Nat → Bool) (l : List BandV) : allL p (l.map eBand) = true := allL_pure p _ (pl_eBand l)
@[simp] theorem rl_eBand (r : Nat → Nat) (l : List BandV) : renL r (l.map eBand) = l.map eBand := renL_pure r _ (pl_eBand l)
@[simp] theorem bl_eSlot (n : Nat) (l : List SlotV) : belowL n (l.map eSlot) = true := belowL_of_pure n _ (pl_eSlot l)
@[simp] theorem al_eSlot (p : Nat → Bool) (l : List SlotV) : allL p (l.map eSlot) = true := allL_pure p _ (pl_eSlot l)
@[simp] theorem rl_eSlot (r : Nat → Nat) (l : List SlotV) : renL r (l.map eSlot) = l.map eSlot := renL_pure r _ (pl_eSlot l)
@[simp] theorem bl_eMark (n : Nat) (l : List MarkV) : belowL n (l.map eMark) = true := belowL_of_pure n _ (pl_eMark l)
@[simp] theorem al_eMark (p : Nat → Bool) (l : List MarkV) : allL p (l.map eMark) = true := allL_pure p _ (pl_eMark l)
@[simp] theorem rl_eMark (r : Nat → Nat) (l : List MarkV) : renL r (l.map eMark) = l.map eMark := renL_pure r _ (pl_eMark l)
@[simp] theorem bl_i64 (n : Nat) (l : List Int) : belowL n (l.map i64) = true := belowL_of_pure n _ (pl_i64 l)
@[simp] theorem al_i64 (p : Nat → Bool) (l : List Int) : allL p (l.map i64) = true := allL_pure p _ (pl_i64 l)
@[simp] theorem rl_i64 (r : Nat → Nat) (l : List Int) : renL r (l.map i64) = l.map i64 := renL_pure r _ (pl_i64 l)
@[simp] theorem bl_eSim (n : Nat) (l : List SimV) : belowL n (l.map eSim) = true := belowL_of_pure n _ (pl_eSim l)
@[simp] theorem al_eSim (p : Nat → Bool) (l : List SimV) : allL p (l.map eSim) = true := allL_pure p _ (pl_eSim l)
@[simp] theorem rl_eSim (r : Nat → Nat) (l : List SimV) : renL r (l.map eSim) = l.map eSim := renL_pure r _ (pl_eSim l)
attribute [simp] belowL_app
attribute [-simp] List.map_set
/-- Replicas that may be. -/
structure okPl (p : PlantV) : Prop where
  r0 : 0 ≤ p.ready
  s0 : ∀ n ∈ p.start, 0 ≤ n
  all : allPl p ≤ 1000
  len : p.start.length ≤ 1000
/-- A step's last part. -/
def finPl (c : ConfV) (q : PlantV) (demand : Int) : PlantV × MarkV :=
  let todo := addF q.wait (max 0 (min demand 1000000))
  let can := satF (q.ready * c.cap)
  let r : PlantV := ⟨q.ready, trimZ q.start, max 0 (todo - can), divF todo can⟩
  (r, ⟨allPl r, decide (r.wait > c.slack)⟩)
theorem stepPl_eq (c : ConfV) (p : PlantV) (want demand : Int) : stepPl c p want demand = finPl c (sizePl c.delay (comePl p) want) demand := rfl
theorem sum_nonneg {l : List Int} (h : ∀ n ∈ l, 0 ≤ n) : 0 ≤ l.sum := by
  induction l with
  | nil => simp
  | cons x l ih => simp at h ⊢; have := ih h.2; omega
theorem sum_ge {l : List Int} (h : ∀ n ∈ l, 0 ≤ n) : ∀ n ∈ l, n ≤ l.sum := by
  induction l with
  | nil => simp
  | cons x l ih =>
    intro n hn
    simp at h hn ⊢
    have := sum_nonneg h.2
    rcases hn with rfl | hn
    · omega
    · have := ih h.2 n hn; omega
theorem okPl.num {p : PlantV} (h : okPl p) : numPl p := by
  obtain ⟨h1, h2, h3, h4⟩ := h
  have h5 := sum_nonneg h2
  unfold allPl at h3
  refine ⟨by omega, by omega, by omega, fun n hn => ?_⟩
  have := sum_ge h2 n hn; have := h2 n hn; omega
@[simp] theorem set_i64 (l : List Int) (k : Nat) (v : Int) : (l.map i64).set k (PV.int .i64 v) = (l.set k v).map i64 := by simp [List.map_set]
theorem modify_set {l : List Int} {k : Nat} {m : Int} (h : k < l.length) : l.modify k (· + m) = l.set k (gt l k + m) := by
  apply List.ext_getElem
  · simp
  · intro i h1 h2
    rw [List.getElem_modify, List.getElem_set]
    split
    · rename_i e; subst e; simp [gt, h]
    · rfl
theorem grow_zero {rdy wt ut m : Int} {l : List Int} : growPl ⟨rdy, l, wt, ut⟩ 0 m = ⟨rdy + m, l, wt, ut⟩ := by simp [growPl]
theorem grow_long {rdy wt ut m : Int} {l : List Int} {d : Nat} (h : d < l.length) : growPl ⟨rdy, l, wt, ut⟩ ((d + 1 : Nat) : Int) m = ⟨rdy, l.set d (gt l d + m), wt, ut⟩ := by
  unfold growPl
  rw [if_neg (by omega)]
  simp only
  rw [show ((((d + 1 : Nat) : Int) - (l.length : Int)).toNat) = 0 by omega, List.replicate_zero, List.append_nil, show (((d + 1 : Nat) : Int) - 1).toNat = d by omega, modify_set h]
theorem grow_short {rdy wt ut m : Int} {l : List Int} {d : Nat} (h : l.length ≤ d) : growPl ⟨rdy, l, wt, ut⟩ ((d + 1 : Nat) : Int) m = ⟨rdy, (l ++ List.replicate (d + 1 - l.length) 0).set d m, wt, ut⟩ := by
  unfold growPl
  rw [if_neg (by omega)]
  simp only
  rw [show ((((d + 1 : Nat) : Int) - (l.length : Int)).toNat) = d + 1 - l.length by omega, show (((d + 1 : Nat) : Int) - 1).toNat = d by omega, modify_set (by simp; omega)]
  have : gt (l ++ List.replicate (d + 1 - l.length) (0 : Int)) d = 0 := by
    simp [gt, List.getD_eq_getElem?_getD, List.getElem?_append_right h, List.getElem?_replicate]
    split <;> rfl
  rw [this, Int.zero_add]
theorem shrink_steps (l : List Int) (m : Int) : ∃ (W : Nat → List Int) (M : Nat → Int), W 0 = l ∧ M 0 = m ∧ (∀ j, j ≤ l.length → (W j).length = l.length) ∧ (∀ j, j < l.length → (W j)[l.length - 1 - j]? = some (gt l (l.length - 1 - j))) ∧
    (∀ j, j < l.length → W (j + 1) = (W j).set (l.length - 1 - j) (gt l (l.length - 1 - j) - min (gt l (l.length - 1 - j)) (M j))) ∧ (∀ j, j < l.length → M (j + 1) = M j - min (gt l (l.length - 1 - j)) (M j)) ∧
    ((∀ n ∈ l, 0 ≤ n) → 0 ≤ m → ∀ j, 0 ≤ M j ∧ M j ≤ m) ∧ W l.length = (shrinkL l m).1 ∧ M l.length = (shrinkL l m).2 := by
  have hlen : ∀ l : List Int, (shrinkL l m).1.length = l.length := fun l => by induction l with
    | nil => rfl
    | cons x l ih => simp [shrinkL, ih]
  have hb : ∀ l : List Int, (∀ n ∈ l, 0 ≤ n) → 0 ≤ m → 0 ≤ (shrinkL l m).2 ∧ (shrinkL l m).2 ≤ m := fun l => by induction l with
    | nil => intro _ h; exact ⟨h, Int.le_refl _⟩
    | cons x l ih =>
      intro h0 h
      have h1 := ih (fun n hn => h0 n (List.mem_cons_of_mem _ hn)) h
      have h2 := h0 x (by simp)
      simp only [shrinkL]; omega
  have hd : ∀ j, j < l.length → l.drop (l.length - (j + 1)) = gt l (l.length - 1 - j) :: l.drop (l.length - j) := fun j hj => by
    rw [List.drop_eq_getElem_cons (by omega), show l.length - (j + 1) + 1 = l.length - j by omega]
    congr 1
    simp [gt, List.getD_eq_getElem?_getD, show l.length - (j + 1) = l.length - 1 - j by omega, show l.length - 1 - j < l.length by omega]
  have ht : ∀ j, j < l.length → l.take (l.length - j) = l.take (l.length - 1 - j) ++ [gt l (l.length - 1 - j)] := fun j hj => by
    rw [show l.length - j = (l.length - 1 - j) + 1 by omega, List.take_add_one, gq (by omega)]; rfl
  refine ⟨fun j => l.take (l.length - j) ++ (shrinkL (l.drop (l.length - j)) m).1, fun j => (shrinkL (l.drop (l.length - j)) m).2, ?_, ?_, ?_, ?_, ?_, ?_, ?_, ?_, ?_⟩
  · simp [shrinkL]
  · simp [shrinkL]
  · intro j hj; simp [hlen]; try omega
  · intro j hj
    simp only [ht j hj]
    rw [List.append_assoc, List.getElem?_append_right (by simp; omega)]
    simp [show l.length - 1 - j - min (l.length - 1 - j) l.length = 0 by omega]
  · intro j hj
    simp only [ht j hj, hd j hj, shrinkL]
    rw [List.append_assoc, List.set_append_right _ _ (by simp; omega)]
    simp [show l.length - 1 - j - min (l.length - 1 - j) l.length = 0 by omega, show l.length - (j + 1) = l.length - 1 - j by omega]
  · intro j hj
    simp only [hd j hj, shrinkL]
  · intro h0 h j
    exact hb _ (fun n hn => h0 n (List.mem_of_mem_drop hn)) h
  · simp
  · simp
theorem sized_pos {dl : Int} {q : PlantV} {w : Int} (h : 0 < intoR w - allPl q) : sizePl dl q w = growPl q dl (intoR w - allPl q) := by unfold sizePl; simp only; rw [if_pos h]
theorem sized_neg {dl : Int} {q : PlantV} {w : Int} (h : intoR w - allPl q < 0) : sizePl dl q w = shrinkPl q (-(intoR w - allPl q)) := by unfold sizePl; simp only; rw [if_neg (by omega), if_pos h]
theorem sized_zero {dl : Int} {q : PlantV} {w : Int} (h : intoR w - allPl q = 0) : sizePl dl q w = q := by unfold sizePl; simp only; rw [if_neg (by omega), if_neg (by omega)]
theorem trimZ_snoc (l : List Int) (x : Int) : trimZ (l ++ [x]) = if x = 0 then trimZ l else l ++ [x] := by
  unfold trimZ
  rw [List.reverse_append]
  simp only [List.reverse_cons, List.reverse_nil, List.nil_append, List.singleton_append, List.dropWhile_cons, beq_iff_eq]
  split <;> simp
theorem trimZ_sum (l : List Int) : (trimZ l).sum = l.sum := by
  have : ∀ k (l : List Int), l.length = k → (trimZ l).sum = l.sum := fun k => by
    induction k with
    | zero => intro l h; rw [List.eq_nil_of_length_eq_zero h]; rfl
    | succ k ih =>
      intro l h
      rw [← List.dropLast_concat_getLast (l := l) (by intro h0; simp [h0] at h), trimZ_snoc]
      split
      · rename_i e; rw [ih _ (by simp [h]), e]; simp
      · rfl
  exact this _ l rfl
theorem trimZ_mem {l : List Int} {n : Int} (h : n ∈ trimZ l) : n ∈ l := by
  unfold trimZ at h
  rw [List.mem_reverse] at h
  exact List.mem_reverse.1 ((List.dropWhile_sublist _).subset h)
theorem trimZ_len (l : List Int) : (trimZ l).length ≤ l.length := by
  unfold trimZ
  rw [List.length_reverse]
  exact Nat.le_trans (List.dropWhile_sublist _).length_le (by simp)
theorem sum_set {l : List Int} {k : Nat} {v : Int} (h : k < l.length) : (l.set k v).sum = l.sum - gt l k + v := by
  induction l generalizing k with
  | nil => simp at h
  | cons x l ih =>
    cases k with
    | zero => simp [gt]; omega
    | succ k => simp at h; simp [ih h, gt]; omega
theorem shrink_num {l : List Int} (h : ∀ n ∈ l, 0 ≤ n) {m : Int} (hm : 0 ≤ m) : (shrinkL l m).2 = max 0 (m - l.sum) ∧ (shrinkL l m).1.sum = l.sum - (m - (shrinkL l m).2) ∧ (shrinkL l m).1.length = l.length ∧ ∀ n ∈ (shrinkL l m).1, 0 ≤ n := by
  induction l with
  | nil => simp [shrinkL]; omega
  | cons x l ih =>
    have h0 := h x (by simp)
    obtain ⟨i1, i2, i3, i4⟩ := ih fun n hn => h n (List.mem_cons_of_mem _ hn)
    have h1 := sum_nonneg fun n hn => h n (List.mem_cons_of_mem _ hn)
    simp only [shrinkL, List.sum_cons, List.length_cons, i3, List.mem_cons]
    refine ⟨by omega, by omega, trivial, fun n hn => ?_⟩
    rcases hn with rfl | hn
    · omega
    · exact i4 n hn
theorem okPl.sized {q : PlantV} (h : okPl q) {dl w : Int} (d0 : 0 ≤ dl) (d1 : dl ≤ 1000) : okPl (sizePl dl q w) ∧ allPl (sizePl dl q w) = intoR w := by
  obtain ⟨rdy, l, wt, ut⟩ := q
  obtain ⟨r0, s0, al, ln⟩ := h
  have hl0 := sum_nonneg s0
  have i0 := intoR_lo w; have i1 := intoR_hi w
  simp only [allPl] at r0 s0 al ln hl0
  obtain ⟨d, rfl⟩ := Int.eq_ofNat_of_zero_le d0
  have tt : allPl ⟨rdy, l, wt, ut⟩ = rdy + l.sum := rfl
  rcases Int.lt_trichotomy (intoR w - (rdy + l.sum)) 0 with hm | hm | hm
  · rw [sized_neg (by rw [tt]; omega), tt]
    obtain ⟨n1, n2, n3, n4⟩ := shrink_num s0 (m := -(intoR w - (rdy + l.sum))) (by omega)
    refine ⟨⟨by simp only [shrinkPl]; omega, n4, by simp only [shrinkPl, allPl]; omega, by simp only [shrinkPl, n3]; exact ln⟩, by simp only [shrinkPl, allPl]; omega⟩
  · rw [sized_zero (by rw [tt]; omega)]
    exact ⟨⟨r0, s0, al, ln⟩, by rw [tt]; omega⟩
  · rw [sized_pos (by rw [tt]; omega), tt]
    cases d with
    | zero =>
      rw [show ((0 : Nat) : Int) = 0 from rfl, grow_zero]
      exact ⟨⟨by simp only; omega, s0, by simp only [allPl]; omega, ln⟩, by simp only [allPl]; omega⟩
    | succ d =>
      rcases Nat.lt_or_ge d l.length with hlt | hge
      · rw [grow_long hlt]
        have hs := sum_set (l := l) (v := gt l d + (intoR w - (rdy + l.sum))) hlt
        have hg := s0 (gt l d) (by simp [gt, hlt])
        refine ⟨⟨r0, fun n hn => ?_, by simp only [allPl]; omega, by simpa using ln⟩, by simp only [allPl]; omega⟩
        rcases List.mem_or_eq_of_mem_set hn with hn | hn
        · exact s0 n hn
        · omega
      · rw [grow_short hge]
        have hs := sum_set (l := l ++ List.replicate (d + 1 - l.length) 0) (k := d) (v := intoR w - (rdy + l.sum)) (by simp; omega)
        have hg : gt (l ++ List.replicate (d + 1 - l.length) (0 : Int)) d = 0 := by
          simp [gt, List.getD_eq_getElem?_getD, List.getElem?_append_right hge, List.getElem?_replicate]
          split <;> rfl
        have hz : (List.replicate (d + 1 - l.length) (0 : Int)).sum = 0 := by simp
        rw [hg, List.sum_append, hz] at hs
        refine ⟨⟨r0, fun n hn => ?_, by simp only [allPl]; omega, by simp; omega⟩, by simp only [allPl]; omega⟩
        rcases List.mem_or_eq_of_mem_set hn with hn | hn
        · rcases List.mem_append.1 hn with hn | hn
          · exact s0 n hn
          · rw [List.eq_of_mem_replicate hn]; exact Int.le_refl _
        · omega
theorem okPl.come {p : PlantV} (h : okPl p) : okPl (comePl p) := by
  obtain ⟨rdy, st, wt, ut⟩ := p
  obtain ⟨h1, h2, h3, h4⟩ := h
  cases st with
  | nil => exact ⟨h1, h2, h3, h4⟩
  | cons x xs =>
    simp only [allPl, List.sum_cons, List.length_cons] at h1 h2 h3 h4
    have hx := h2 x (by simp)
    exact ⟨by simp only [comePl]; omega, fun n hn => h2 n (List.mem_cons_of_mem _ hn), by simp only [comePl, allPl]; omega, by simp only [comePl]; omega⟩
theorem sop_apz {E : Env} {S X e : TypeId} {fr : Fr} {σ : Store} {x y : Operand} {sv xv : PV} {ys : List PV} {nid : Nat} {r : PV × Store} (t1 : E.td S = .slice e) (t2 : E.td X = .int .i64) (k1 : E.kn S = true) (k2 : E.kn X = true) (k3 : 0 < E.bytes e) (hx : Fr.eval fr x = some sv) (hy : Fr.eval fr y = some xv)
    (h1 : sApp E e xv σ true = some ys) (h2 : ys.all (fits E e) = true) (h : sAppend E e sv ys σ nid = some r) : sop E (.call { callee := .builtin .append, args := #[x, y], argTypes := #[S, X] }) fr σ nid = some r := by
  simp only [sop, sBuiltin, hx, hy, t1, t2, h1, k1, k2, h2, k3, and_self, if_true]
  exact h
theorem ap_z {fr : Fr} {σ : Store} {x y : Operand} {sv : PV} {n : Nat} {r : PV × Store} (hx : Fr.eval fr x = some sv) (hy : Fr.eval fr y = some (i64 n)) (hn : n ≤ 1000000) (h : sAppend tE 3 sv (List.replicate n (i64 0)) σ σ.length = some r) :
    aop tE (.call { callee := .builtin .append, args := #[x, y], argTypes := #[35, 3] }) fr σ = some r := by
  have h1 : sApp tE 3 (i64 n) σ true = some (List.replicate n (i64 0)) := by
    have hb : (0 : Int) ≤ (n : Int) ∧ (n : Int) < 1073741824 := ⟨by omega, by omega⟩
    have hz : tE.zero 3 = i64 0 := rfl
    simp only [sApp, i64, if_true, if_pos hb, Int.toNat_natCast, hz]
  have h2 : (List.replicate n (i64 0)).all (fits tE 3) = true := by
    rw [List.all_eq_true]; intro a ha; rw [List.eq_of_mem_replicate ha]; rfl
  have h3 := sop_apz (E := tE) (S := 35) (X := 3) (e := 3) (nid := σ.length) rfl rfl rfl rfl (by rw [show tE.bytes 3 = 8 from rfl]; omega) hx hy h1 h2 h
  unfold aop
  rw [h3]
/-- A row of zeros, put behind none. -/
theorem ap_nil {fr : Fr} {σ : Store} {x y : Operand} {n : Nat} (hx : Fr.eval fr x = some .nils) (hy : Fr.eval fr y = some (i64 (n + 1 : Nat))) (hn : n + 1 ≤ 1000000) :
    aop tE (.call { callee := .builtin .append, args := #[x, y], argTypes := #[35, 3] }) fr σ = some (.ref σ.length 0 0 (n + 1), Store.new σ σ.length (.cells 3 0 (i64 0 :: List.replicate n (i64 0)))) := by
  refine ap_z hx hy hn ?_
  rw [List.replicate_succ]
  show (if (2 * (i64 0 :: List.replicate n (i64 0)).length + 1000) * tE.bytes 3 ≤ 281474976710656 then some (PV.ref σ.length 0 0 (i64 0 :: List.replicate n (i64 0)).length, Store.new σ σ.length (.cells 3 0 (i64 0 :: List.replicate n (i64 0)))) else none) = _
  rw [if_pos (by rw [show tE.bytes 3 = 8 from rfl, List.length_cons, List.length_replicate]; omega), List.length_cons, List.length_replicate]
/-- A row of zeros, put behind a row. -/
theorem ap_ref {fr : Fr} {σ : Store} {x y : Operand} {n b g off len : Nat} {cs : List PV} (hx : Fr.eval fr x = some (.ref b g off len)) (hy : Fr.eval fr y = some (i64 n)) (hn : n ≤ 1000000) (hb : Store.at σ b = some (.cells 3 g cs)) (hl : off + len ≤ cs.length) (hl2 : len ≤ 1000000) :
    aop tE (.call { callee := .builtin .append, args := #[x, y], argTypes := #[35, 3] }) fr σ = some (.ref b (g + 1) 0 (len + n), σ.set b (some (.cells 3 (g + 1) ((cs.take (off + len)).drop off ++ List.replicate n (i64 0))))) := by
  refine ap_z hx hy hn ?_
  unfold sAppend
  simp only [hb]
  rw [if_pos ⟨trivial, trivial, hl, by rw [show tE.bytes 3 = 8 from rfl, List.length_replicate]; omega⟩, List.length_replicate]
section
variable {Q : Post} {K : Fr → Store → Prop} {os : List POp} {fr : Fr} {σ : Store} {t : Nat} {x y : Operand}
theorem o_apn (n : Nat) {v : Int} (hx : Fr.eval fr x = some .nils) (hy : Fr.eval fr y = some (.int .i64 v)) (hv : v = ((n + 1 : Nat) : Int)) (hn : n + 1 ≤ 1000000) {σ' : Store} (hσ : Store.new σ σ.length (.cells 3 0 (i64 0 :: List.replicate n (i64 0))) = σ') {m : Nat} (hm : σ.length = m) (hk : RG tE Q K os ((t, .ref m 0 0 (n + 1)) :: fr) σ') :
    RG tE Q K (⟨none, some t, .call { callee := .builtin .append, args := #[x, y], argTypes := #[35, 3] }⟩ :: os) fr σ := by
  subst hv hσ hm; exact o_op rfl rfl (ap_nil hx hy hn) hk
theorem o_apr (n : Nat) {v : Int} {b g off len : Nat} {cs : List PV} (hx : Fr.eval fr x = some (.ref b g off len)) (hy : Fr.eval fr y = some (.int .i64 v)) (hv : v = (n : Int)) (hn : n ≤ 1000000) (hb : Store.at σ b = some (.cells 3 g cs)) (hl : off + len ≤ cs.length) (hl2 : len ≤ 1000000) {σ' : Store}
    (hσ : σ.set b (some (.cells 3 (g + 1) ((cs.take (off + len)).drop off ++ List.replicate n (i64 0)))) = σ') (hk : RG tE Q K os ((t, .ref b (g + 1) 0 (len + n)) :: fr) σ') :
    RG tE Q K (⟨none, some t, .call { callee := .builtin .append, args := #[x, y], argTypes := #[35, 3] }⟩ :: os) fr σ := by
  subst hv hσ; exact o_op rfl rfl (ap_ref hx hy hn hb hl hl2) hk
end
section
variable {R : Re → Store → Prop} {σ : Store}
/-- What a plant may be behind its growth. -/
inductive Grown (c : ConfV) (q : PlantV) : Store → Prop
  | none (h : q.start = []) : Grown c q [some (.cells 26 0 [eConf c]), some (.cells 37 0 [.agg 37 [i64 q.ready, .nils, i64 q.wait, i64 q.util]]), some (.cells 37 0 [.agg 37 [i64 0, .nils, i64 0, i64 0]]), some (.cells 71 0 [.agg 71 [i64 0, .bool false]])]
  | some (g : Nat) (pre : List Int) (hp : pre.length ≤ 1) : Grown c q [some (.cells 26 0 [eConf c]), some (.cells 37 0 [.agg 37 [i64 q.ready, .ref 4 g pre.length q.start.length, i64 q.wait, i64 q.util]]), some (.cells 37 0 [.agg 37 [i64 0, .nils, i64 0, i64 0]]), some (.cells 71 0 [.agg 71 [i64 0, .bool false]]),
      some (.cells 3 g (pre.map i64 ++ q.start.map i64))]
theorem grown_of {c : ConfV} {q : PlantV} {σ' : Store} (g : Nat) (pre : List Int) (hp : pre.length ≤ 1) (e : ([some (.cells 26 0 [eConf c]), some (.cells 37 0 [.agg 37 [i64 q.ready, .ref 4 g pre.length q.start.length, i64 q.wait, i64 q.util]]), some (.cells 37 0 [.agg 37 [i64 0, .nils, i64 0, i64 0]]), some (.cells 71 0 [.agg 71 [i64 0, .bool false]]),
      some (.cells 3 g (pre.map i64 ++ q.start.map i64))] : Store) = σ') : Grown c q σ' := e ▸ .some g pre hp
/-- All of them, of a row that is written still. -/
theorem C_all_at {b g off len : Nat} {r w u : Int} (cs : List Int) {l : List Int} (hp : numPl ⟨r, l, w, u⟩) (hb : Store.at σ b = some (.cells 3 g (cs.map i64))) (hl : off + len ≤ cs.length) (e : (cs.drop off).take len = l) (h : R (.ret (i64 (r + l.sum))) σ) : C tE 157 [.agg 37 [i64 r, .ref b g off len, i64 w, i64 u]] σ R := by
  refine C_lend tOK (args' := [ePlant ⟨r, l, w, u⟩]) ?_ (C_all hp ⟨rfl, h⟩)
  have h1 : frz σ 5 (.ref b g off len) = some (.lit (l.map i64)) := by
    rw [← e, List.map_take, List.map_drop]
    refine frz_row hb (by simpa using hl) fun x hx => ?_
    obtain ⟨a, _, rfl⟩ := List.mem_map.1 hx; simp
  simp [h1]
set_option maxHeartbeats 4000000 in
theorem C_pstep {c : ConfV} {p : PlantV} {want demand : Int} (hp : okPl p) (d0 : 0 ≤ c.delay) (d1 : c.delay ≤ 1000) (c0 : 0 ≤ c.cap) (c1 : c.cap ≤ 1000000000)
    (h : R (.ret (.tup [ePlant (stepPl c p want demand).1, eMark (stepPl c p want demand).2])) σ) : C tE 138 [eConf c, ePlant p, i64 want, i64 demand] σ R := by
  rw [stepPl_eq] at h
  refine C_pure tOK (by simp) ?_
  refine s_body' Tryz.func138 tOK rfl (by conv => lhs; simp) (by conv => lhs; simp) (by conv => lhs; simp [Fr.args]) rfl (by conv => lhs; try simp) fun R9 hR9 => ?_
  refine j3 (fun fr σ => fr = [(2, i64 want), (3, i64 demand), (4, .ptr 0 0 0 []), (5, .ptr 1 0 0 []), (8, .ptr 2 0 0 []), (9, .ptr 3 0 0 [])] ∧ Grown c (comePl p) σ) ?_ fun yJ key => ?_
  · rintro _ _ ⟨rfl, hg⟩
    have hq := hp.come
    generalize comePl p = q at *
    clear hp
    obtain ⟨rdy, l, wt, ut⟩ := q
    obtain ⟨r0, s0, al, ln⟩ := hq
    have hl0 := sum_nonneg s0
    simp only [allPl] at r0 s0 al ln hl0
    obtain ⟨tot, ht⟩ : ∃ tot, rdy + l.sum = tot := ⟨_, rfl⟩
    have tt : allPl ⟨rdy, l, wt, ut⟩ = tot := ht
    rw [ht] at al
    obtain ⟨d, hd⟩ := Int.eq_ofNat_of_zero_le d0
    have iw0 : 0 ≤ intoR want := intoR_lo want
    have iw1 : intoR want ≤ 1000 := intoR_hi want
    have iw : max 0 (min want 1000) = intoR want := rfl
    have nm : numPl ⟨rdy, l, wt, ut⟩ := okPl.num ⟨r0, s0, by rw [tt]; exact al, ln⟩
    refine j1 (fun fr σ => fr = [(3, i64 demand), (4, .ptr 0 0 0 []), (5, .ptr 1 0 0 []), (8, .ptr 2 0 0 []), (9, .ptr 3 0 0 [])] ∧ Grown c (sizePl c.delay ⟨rdy, l, wt, ut⟩ want) σ) ?_ fun yJ key => ?_
    · rintro _ _ ⟨rfl, hg2⟩
      clear hg
      have hq := (okPl.sized ⟨r0, s0, by rw [tt]; exact al, ln⟩ (w := want) d0 d1 : okPl (sizePl c.delay ⟨rdy, l, wt, ut⟩ want) ∧ _).1
      generalize sizePl c.delay ⟨rdy, l, wt, ut⟩ want = q at *
      clear iw iw0 iw1 hd d ht tt nm al hl0 ln s0 r0
      obtain ⟨rdy, l, wt, ut⟩ := q
      have nm := hq.num
      obtain ⟨r0, s0, al, ln⟩ := hq
      have hl0 := sum_nonneg s0
      simp only [allPl] at r0 s0 al ln hl0
      cases hg2 with
      | none hl =>
        simp only at hl; subst hl
        have q1 : -1000000000 ≤ addF wt (max 0 (min demand 1000000)) ∧ addF wt (max 0 (min demand 1000000)) ≤ 1000000000 := ⟨satF_lo _, satF_hi _⟩
        have q2 : -1000000000 ≤ satF (rdy * c.cap) ∧ satF (rdy * c.cap) ≤ 1000000000 := ⟨satF_lo _, satF_hi _⟩
        have hmul : 0 ≤ rdy * c.cap ∧ rdy * c.cap ≤ 1000000000000 := ⟨Int.mul_nonneg r0 c0, Int.le_trans (Int.mul_le_mul (show rdy ≤ 1000 by omega) c1 c0 (by omega)) (by decide)⟩
        have ca : ∀ {w u : Int} {R : Re → Store → Prop} {σ : Store}, R (.ret (i64 rdy)) σ → C tE 157 [.agg 37 [i64 rdy, .lit [], i64 w, i64 u]] σ R := fun {w u} {R} {σ} h => C_all (p := ⟨rdy, [], w, u⟩) ⟨nm.r0, nm.r1, nm.len, nm.s⟩ (fin_i h (by simp [allPl]))
        repeat' (first | refine go ?_ | refine s_seq fun y9 hy9 => ?_ | refine qT _ ?_ ?_ | refine qG _ ?_ ?_ | refine qN ?_ ?_ | (refine QB.mk fun hb9 => ?_; (try simp only [hb9]); (try simp at hb9); first | (exfalso; omega) | subst hb9 | skip) | refine w_loop fun y9 hy9 => ?_ | (apply w_again; assumption) | refine sD tOK tmix [([],0),([0],1),([],2),([2],3),([2,3],4),([2,3,4],5),([0,1,2,3,4,5],6),([0,1,2,3,4,5,6],7),([0,1,2,3,4,5,6,7],8)] 6 ?_ | refine sD tOK tmix [([],0),([],1),([1],2),([],3),([3],4),([],5),([5],6),([3,4,5,6],7),([1,2,3,4,5,6,7],8),([0,1,2],9),([0,1,2,3,4,5,6,7,8,9],10)] 10 ?_ | refine qD _ ?_ ?_ | (refine nZ ?_; first | refine ca ?_ | refine C_fadd ?_ | refine C_sat ?_ | refine C_fdiv ?_) | (apply d_call []; exact rfl; (solve | (conv => lhs; try simp)); (solve | exact rfl | simp); (solve | (conv => lhs; try simp)); intro τ hτ; refine nZ ?_; first | exact ca ⟨rfl, rfl⟩ | exact C_fadd ⟨rfl, rfl⟩ | exact C_sat ⟨rfl, rfl⟩ | exact C_fdiv ⟨rfl, rfl⟩))
        exact fin_v h (by simp [finPl, trimZ, allPl])
      | some g pre hpre =>
        have q1 : -1000000000 ≤ addF wt (max 0 (min demand 1000000)) ∧ addF wt (max 0 (min demand 1000000)) ≤ 1000000000 := ⟨satF_lo _, satF_hi _⟩
        have q2 : -1000000000 ≤ satF (rdy * c.cap) ∧ satF (rdy * c.cap) ≤ 1000000000 := ⟨satF_lo _, satF_hi _⟩
        have hmul : 0 ≤ rdy * c.cap ∧ rdy * c.cap ≤ 1000000000000 := ⟨Int.mul_nonneg r0 c0, Int.le_trans (Int.mul_le_mul (show rdy ≤ 1000 by omega) c1 c0 (by omega)) (by decide)⟩
        simp only at hpre ⊢
        repeat' (first | refine go ?_ | refine s_seq fun y9 hy9 => ?_ | refine qT _ ?_ ?_ | refine qG _ ?_ ?_ | refine qN ?_ ?_ | (refine QB.mk fun hb9 => ?_; (try simp only [hb9]); (try simp at hb9); first | (exfalso; omega) | subst hb9 | skip) | refine sD tOK tmix [([],0),([0],1),([],2),([2],3),([2,3],4),([2,3,4],5),([0,1,2,3,4,5],6),([0,1,2,3,4,5,6],7),([0,1,2,3,4,5,6,7],8)] 6 ?_ | refine sD tOK tmix [([],0),([],1),([1],2),([],3),([3],4),([],5),([5],6),([3,4,5,6],7),([1,2,3,4,5,6,7],8),([0,1,2],9),([0,1,2,3,4,5,6,7,8,9],10)] 10 ?_ | refine qD _ ?_ ?_)
        refine s_loop fun c9 hc9 => ?_
        refine w_trim 5 [3, 4, 5, 8, 9] (by conv => lhs; simp) (by conv => lhs; simp) (by first | rfl | simp) (by first | rfl | simp) ?_
        refine s_loopn (l.length) (fun j fr σ => fr = [(3, i64 demand), (4, .ptr 0 0 0 []), (5, .ptr 1 0 0 []), (8, .ptr 2 0 0 []), (9, .ptr 3 0 0 [])] ∧ σ = [some (.cells 26 0 [eConf c]), some (.cells 37 0 [.agg 37 [i64 rdy, .ref 4 g pre.length (l.length - j), i64 wt, i64 ut]]), some (.cells 37 0 [.agg 37 [i64 0, .nils, i64 0, i64 0]]), some (.cells 71 0 [.agg 71 [i64 0, .bool false]]), some (.cells 3 g (pre.map i64 ++ l.map i64))] ∧ trimZ (l.take (l.length - j)) = trimZ l) ?_ ⟨by simp, by first | rfl | simp, by first | (intros; omega) | simp⟩
        rintro j fr σ hj ⟨rfl, rfl, hS⟩ ih
        refine s_round hc9 ?_
        obtain ⟨r, hr⟩ : ∃ r, l.length - j = r := ⟨_, rfl⟩
        have hrl : r ≤ l.length := by omega
        have nmr : ∀ {w u : Int}, numPl ⟨rdy, l.take r, w, u⟩ := fun {w u} => ⟨nm.r0, nm.r1, by have := nm.len; simp only [List.length_take] at this ⊢; omega, fun n hn => nm.s n (List.mem_of_mem_take hn)⟩
        have fin : ∀ (b0 b1 b2 b3 : Option Blk) (ns : Store) (w u : Int) (b : Bool), trimZ l = l.take r → w = (finPl c ⟨rdy, l, wt, ut⟩ demand).1.wait → u = (finPl c ⟨rdy, l, wt, ut⟩ demand).1.util → b = (finPl c ⟨rdy, l, wt, ut⟩ demand).2.bad →
            frzRe σ R (.ret (.tup [.agg 37 [i64 rdy, .ref 4 g pre.length r, i64 w, i64 u], .agg 71 [i64 (rdy + (l.take r).sum), .bool b]])) (b0 :: b1 :: b2 :: b3 :: some (.cells 3 g (pre.map i64 ++ l.map i64)) :: ns) := by
          intro b0 b1 b2 b3 ns w u b ht hw hu hb
          have h1 : frz (b0 :: b1 :: b2 :: b3 :: some (.cells 3 g (pre.map i64 ++ l.map i64)) :: ns) 4 (.ref 4 g pre.length r) = some (.lit ((l.take r).map i64)) := by
            have := frz_row (n := 3) (b := 4) (g := g) (ty := 3) (off := pre.length) (len := r) (xs := pre.map i64 ++ l.map i64) (σ := b0 :: b1 :: b2 :: b3 :: some (.cells 3 g (pre.map i64 ++ l.map i64)) :: ns) rfl (by simp; omega) (fun x hx => by
              rw [← List.map_append] at hx
              obtain ⟨a, _, rfl⟩ := List.mem_map.1 hx; simp)
            rw [this, List.drop_left' (by simp), List.map_take]
          refine f_ret (y := .tup [ePlant ⟨rdy, l.take r, w, u⟩, eMark ⟨rdy + (l.take r).sum, b⟩]) (by simp [h1]) ?_
          refine fin_v h ?_
          subst hw hu hb
          simp only [finPl, allPl, ht]
        cases r with
        | zero =>
          rw [hr]
          repeat' (first | refine go ?_ | refine s_seq fun y9 hy9 => ?_ | refine qT _ ?_ ?_ | refine qG _ ?_ ?_ | refine qN ?_ ?_ | (refine QB.mk fun hb9 => ?_; (try simp only [hb9]); (try simp at hb9); first | (exfalso; omega) | subst hb9 | skip) | refine sD tOK tmix [([],0),([0],1),([],2),([2],3),([2,3],4),([2,3,4],5),([0,1,2,3,4,5],6),([0,1,2,3,4,5,6],7),([0,1,2,3,4,5,6,7],8)] 6 ?_ | refine sD tOK tmix [([],0),([],1),([1],2),([],3),([3],4),([],5),([5],6),([3,4,5,6],7),([1,2,3,4,5,6,7],8),([0,1,2],9),([0,1,2,3,4,5,6,7,8,9],10)] 10 ?_ | refine qD _ ?_ ?_ | (refine nZ ?_; first | refine C_fadd ?_ | refine C_sat ?_ | refine C_fdiv ?_) | (apply d_call []; exact rfl; (solve | (conv => lhs; try simp)); (solve | exact rfl | simp); (solve | (conv => lhs; try simp)); intro τ hτ; refine nZ ?_; first | exact C_fadd ⟨rfl, rfl⟩ | exact C_sat ⟨rfl, rfl⟩ | exact C_fdiv ⟨rfl, rfl⟩) | (apply d_call [4]; exact rfl; (solve | (conv => lhs; try simp)); (solve | exact rfl | simp); (solve | (conv => lhs; try simp)); intro τ hτ; exact (C_all_at (pre++l) nmr ((hτ 4 (by simp)).trans (by simp)) (by simp) (by simp)) ⟨rfl, rfl⟩))
          have ht : trimZ l = [] := by rw [← hS, hr]; rfl
          all_goals exact fin_v h (by simp [finPl, allPl, ht])
        | succ k =>
          have hx := gt_all (P := fun n => -1000000000 ≤ n ∧ n ≤ 1000000000) nm.s (by decide) k
          have hq : l[k]? = some (gt l k) := gq (by omega)
          obtain ⟨x, hxx⟩ : ∃ x, gt l k = x := ⟨_, rfl⟩
          rw [hxx] at hq hx
          have hwl : (pre.map i64 ++ l.map i64)[pre.length + k]? = some (i64 x) := by
            rw [List.getElem?_append_right (by simp)]; simp [hq]
          have hrr : ∀ h, (pre.map i64 ++ l.map i64)[pre.length + k]'h = i64 x := fun h => by
            rw [List.getElem?_eq_getElem h] at hwl; exact Option.some.inj hwl
          have htk : l.take (k + 1) = l.take k ++ [x] := by rw [List.take_add_one, hq]; rfl
          rw [hr]
          rcases Int.decEq x 0 with hx0 | hx0
          · have ht : trimZ l = l.take (k + 1) := by rw [← hS, hr, htk, trimZ_snoc, if_neg hx0]
            have F9 := And.intro @hwl <| @hrr
            repeat' (first | refine gf ?_ | refine s_seq fun y9 hy9 => ?_ | refine qT _ ?_ ?_ | refine qG _ ?_ ?_ | refine qN ?_ ?_ | (refine QB.mk fun hb9 => ?_; (try simp only [hb9]); (try simp at hb9); first | (exfalso; omega) | subst hb9 | skip) | refine sD tOK tmix [([],0),([0],1),([],2),([2],3),([2,3],4),([2,3,4],5),([0,1,2,3,4,5],6),([0,1,2,3,4,5,6],7),([0,1,2,3,4,5,6,7],8)] 6 ?_ | refine sD tOK tmix [([],0),([],1),([1],2),([],3),([3],4),([],5),([5],6),([3,4,5,6],7),([1,2,3,4,5,6,7],8),([0,1,2],9),([0,1,2,3,4,5,6,7,8,9],10)] 10 ?_ | refine qD _ ?_ ?_ | (refine nZ ?_; first | refine C_fadd ?_ | refine C_sat ?_ | refine C_fdiv ?_) | (apply d_call []; exact rfl; (solve | (conv => lhs; try simp [hwl,hrr])); (solve | exact rfl | simp); (solve | (conv => lhs; try simp [hwl,hrr])); intro τ hτ; refine nZ ?_; first | exact C_fadd ⟨rfl, rfl⟩ | exact C_sat ⟨rfl, rfl⟩ | exact C_fdiv ⟨rfl, rfl⟩) | (apply d_call [4]; exact rfl; (solve | (conv => lhs; try simp [hwl,hrr])); (solve | exact rfl | simp); (solve | (conv => lhs; try simp [hwl,hrr])); intro τ hτ; exact (C_all_at (pre++l) nmr ((hτ 4 (by simp)).trans (by simp)) (by simp; omega) (by simp)) ⟨rfl, rfl⟩))
            all_goals exact fin _ _ _ _ _ _ _ _ ht rfl rfl rfl
          · subst hx0
            have F9 := And.intro @hwl <| @hrr
            repeat' (first | refine gf ?_ | refine s_seq fun y9 hy9 => ?_ | refine qT _ ?_ ?_ | refine qG _ ?_ ?_ | refine qN ?_ ?_ | (refine QB.mk fun hb9 => ?_; (try simp only [hb9]); (try simp at hb9); first | (exfalso; omega) | subst hb9 | skip) | refine sD tOK tmix [([],0),([0],1),([],2),([2],3),([2,3],4),([2,3,4],5),([0,1,2,3,4,5],6),([0,1,2,3,4,5,6],7),([0,1,2,3,4,5,6,7],8)] 6 ?_ | refine sD tOK tmix [([],0),([],1),([1],2),([],3),([3],4),([],5),([5],6),([3,4,5,6],7),([1,2,3,4,5,6,7],8),([0,1,2],9),([0,1,2,3,4,5,6,7,8,9],10)] 10 ?_ | refine qD _ ?_ ?_)
            refine w_back 5 [3, 4, 5, 8, 9] (by conv => lhs; simp) (by conv => lhs; simp) (by first | rfl | simp) (by first | rfl | simp) ?_
            exact ih (by omega) _ _ ⟨rfl, by simp; omega, by rw [← hS, hr, htk, trimZ_snoc, if_pos rfl, show l.length - (j + 1) = k by omega]⟩
    · clear h
      cases hg with
      | none hl =>
        simp only at hl; subst hl
        have ca : ∀ {R : Re → Store → Prop} {σ : Store}, R (.ret (i64 tot)) σ → C tE 157 [.agg 37 [i64 rdy, .lit [], i64 wt, i64 ut]] σ R := fun h => C_all nm (fin_i h tt.symm)
        simp only [List.sum_nil, Int.add_zero] at ht; subst ht
        have dn : d ≤ 1000 := by omega
        cases d with
        | zero =>
          repeat' (first | ((with_reducible refine iRG ?_); first | (apply o_yield; exact rfl; (solve | (conv => lhs; try simp [hd,iw])); (solve | (conv => lhs; try simp [hd,iw]))) | (apply o_move; exact rfl) | (apply o_assign; exact rfl) | (apply o_load; exact rfl; exact rfl; (solve | exact rfl | (conv => lhs; simp [hd,iw]))) | (apply o_fa; exact rfl; exact rfl; exact rfl; (solve | (conv => lhs; try simp [hd,iw]))) | (apply o_bin; exact rfl; exact rfl; exact rfl; exact rfl; (solve | (conv => lhs; try simp [hd,iw]; try simp (disch := omega) only [wi64, wu64, dect, decf, beqt, beqf, bnet, bnef, ift, iff_, ipt, ipf, wtdiv, gq]; try simp [hd,iw]))) | (apply o_store; exact rfl; exact rfl; exact rfl; (solve | exact rfl | (conv => lhs; simp [hd,iw]))) | (apply o_nilCheck; exact rfl; (solve | exact rfl | simp)) | (apply g_run; exact rfl) | (apply g_not; exact rfl) | (apply g_skip; exact rfl) | (apply g_if; exact rfl; all_goals (intro hb9; ((try simp only [hb9]); (try simp at hb9); first | (exfalso; omega) | subst hb9 | skip))) | (apply o_op; exact rfl; exact rfl; (solve | (conv => lhs; try simp [hd,iw]; try simp (disch := omega) only [wi64, wu64, dect, decf, beqt, beqf, bnet, bnef, ift, iff_, ipt, ipf, wtdiv, gq]; try simp [hd,iw]))) | (apply o_op0; exact rfl; exact rfl; (solve | (conv => lhs; try simp [hd,iw]; try simp (disch := omega) only [wi64, wu64, dect, decf, beqt, beqf, bnet, bnef, ift, iff_, ipt, ipf, wtdiv, gq]; try simp [hd,iw]))) | (apply o_call; exact rfl; (solve | (conv => lhs; try simp [hd,iw]))) | (apply o_nil1; exact rfl; (solve | (conv => lhs; try simp [hd,iw]))) | (apply o_nil2; exact rfl; (solve | (conv => lhs; try simp [hd,iw]))) | (apply w_end; exact rfl)) | ((with_reducible refine iT ?_); first | refine s_seq fun y9 hy9 => ?_ | (apply s_reg' tOK; exact rfl; (solve | (conv => lhs; simp))) | refine s_block ?_ | (apply w_ret; exact rfl) | (apply w_skip; exact rfl) | (apply w_exit; exact rfl) | (apply s_ift; exact rfl) | (apply s_iff; exact rfl) | (apply T_if; exact rfl; all_goals (intro hb9; ((try simp only [hb9]); (try simp at hb9); first | (exfalso; omega) | subst hb9 | skip))) | refine w_loop fun y9 hy9 => ?_ | (apply s_draw' tOK tmix [([], 0), ([0], 1), ([], 2), ([2], 3), ([2, 3], 4), ([2, 3, 4], 5), ([0, 1, 2, 3, 4, 5], 6), ([0, 1, 2, 3, 4, 5, 6], 7), ([0, 1, 2, 3, 4, 5, 6, 7], 8)] 6 (by decide +kernel); (solve | (conv => lhs; try simp [hd,iw])); (solve | (conv => lhs; try simp [hd,iw])); (solve | (conv => lhs; try simp [hd,iw]))) | (apply s_draw' tOK tmix [([], 0), ([], 1), ([1], 2), ([], 3), ([3], 4), ([], 5), ([5], 6), ([3, 4, 5, 6], 7), ([1, 2, 3, 4, 5, 6, 7], 8), ([0, 1, 2], 9), ([0, 1, 2, 3, 4, 5, 6, 7, 8, 9], 10)] 10 (by decide +kernel); (solve | (conv => lhs; try simp [hd,iw])); (solve | (conv => lhs; try simp [hd,iw])); (solve | (conv => lhs; try simp [hd,iw]))) | (apply s_draw' tOK tmix [([], 0), ([0], 1), ([0, 1], 2), ([0, 1, 2], 3), ([], 4), ([0, 1, 2, 3, 4], 5), ([0, 1, 2, 3, 4, 5], 6), ([0, 1, 2, 3, 4, 5, 6], 7), ([0, 1, 2, 3, 4, 5, 6, 7], 8)] 5 (by decide +kernel); (solve | (conv => lhs; try simp [hd,iw])); (solve | (conv => lhs; try simp [hd,iw])); (solve | (conv => lhs; try simp [hd,iw])))) | ((with_reducible refine iSP ?_); first | (apply s_next; assumption) | (apply r_fin; (solve | (conv => lhs; try simp [hd,iw])); (solve | (conv => lhs; try simp [hd,iw]))) | (apply n_fin; (solve | (conv => lhs; try simp [hd,iw])); (solve | (conv => lhs; try simp [hd,iw]))) | (apply w_again; assumption) | (apply zt_end; exact rfl) | (apply y_bound; exact rfl; assumption; (solve | (conv => lhs; try simp [hd,iw]))) | (apply y_on; exact rfl; (solve | (conv => lhs; try simp [hd,iw]))) | (apply y_ret; exact rfl; (solve | (conv => lhs; try simp [hd,iw]))) | (apply y_exit; exact rfl; (solve | (conv => lhs; try simp [hd,iw])))) | ((with_reducible refine iA ?_); first | refine a_ret ?_ | refine a_ret0 ?_) | ((with_reducible refine iC ?_); first | refine ca ?_ | (refine c_nz (by first | (solve | (conv => lhs; simp)) | rfl) (ca ?_)) | (refine s_body' Tryz.func158 tOK rfl (by conv => lhs; simp) (by conv => lhs; simp) (by conv => lhs; simp [Fr.args]) rfl (by conv => lhs; try simp) fun R9 hR9 => ?_) | (refine z_enter Tryz.func159 tOK rfl (by conv => lhs; simp) (by conv => lhs; simp) (by conv => lhs; simp [Fr.args]) rfl fun R9 hR9 => ?_) | (refine s_body' Tryz.func172 tOK rfl (by conv => lhs; simp) (by conv => lhs; simp) (by conv => lhs; simp [Fr.args]) rfl (by conv => lhs; try simp) fun R9 hR9 => ?_) | (refine s_body' Tryz.func175 tOK rfl (by conv => lhs; simp) (by conv => lhs; simp) (by conv => lhs; simp [Fr.args]) rfl (by conv => lhs; try simp) fun R9 hR9 => ?_)) | ((with_reducible refine iDP ?_); first | (apply d_move; exact rfl) | (apply d_op; exact rfl; (solve | (conv => lhs; try simp [hd,iw]; try simp (disch := omega) only [wi64, wu64, dect, decf, beqt, beqf, bnet, bnef, ift, iff_, ipt, ipf, wtdiv, gq]; try simp [hd,iw])); (solve | exact rfl | simp); (solve | (conv => lhs; try simp [hd,iw]))) | (apply d_op0; exact rfl; (solve | (conv => lhs; try simp [hd,iw]; try simp (disch := omega) only [wi64, wu64, dect, decf, beqt, beqf, bnet, bnef, ift, iff_, ipt, ipf, wtdiv, gq]; try simp [hd,iw])); (solve | exact rfl | simp); (solve | (conv => lhs; try simp [hd,iw]))) | apply d_end | (apply dg_run; exact rfl) | (apply dg_not; exact rfl) | (apply dg_skip; exact rfl) | (apply dg_if; exact rfl; all_goals (intro hb9; ((try simp only [hb9]); (try simp at hb9); first | (exfalso; omega) | subst hb9 | skip))) | (apply d_call []; exact rfl; (solve | (conv => lhs; try simp [hd,iw])); (solve | exact rfl | simp); (solve | (conv => lhs; try simp [hd,iw])); intro τ hτ; first | refine ca ⟨rfl, rfl⟩ | exact c_nz (by first | (solve | (conv => lhs; simp)) | rfl) (ca ⟨rfl, rfl⟩))) | ((with_reducible refine iTZ ?_); first | refine z_seq fun y9 hy9 => ?_ | refine z_block ?_ | (apply z_range tOK [2,3]; exact rfl; exact rfl; (solve | (conv => lhs; try simp [hd,iw])); (solve | (conv => lhs; try simp [hd,iw])); intro l9 as9 bd9 has9 hbd9 args9 τ9 hargs9 hτ9; simp at hargs9 hτ9; subst hargs9 hτ9) | (apply z_T; (solve | (conv => lhs; try simp [hd,iw])))) | ((with_reducible refine iSD ?_); first | (apply z_next; assumption) | (apply zd_ret; (solve | (conv => lhs; try simp [hd,iw])); (solve | (conv => lhs; try simp [hd,iw]))) | (apply zd_normal; (solve | (conv => lhs; try simp [hd,iw])); (solve | (conv => lhs; try simp [hd,iw]))) | refine zm_normal ?_ | refine zm_ret ?_) | (apply z_over; exact rfl; exact rfl; (solve | (conv => lhs; try simp [hd,iw]))) | (apply z_left; exact rfl; exact rfl; (solve | (conv => lhs; try simp [hd,iw]))) | (apply y_walk (b := 7); exact rfl; assumption; exact rfl; exact rfl; (solve | (conv => lhs; try simp [hd,iw])); (solve | (conv => lhs; try simp [hd,iw]))) | (apply s_R; assumption) | (apply f_ret; (solve | (conv => lhs; try simp [hd,iw]))))
          · rw [sized_pos (by rw [tt]; omega)] at key
            refine t_trim 4 [3, 4, 5, 8, 9] (by conv => lhs; simp) (by conv => lhs; simp) (by first | rfl | simp) ?_
            exact key.down _ _ ⟨rfl, by simp [growPl, hd, tt]; exact .none rfl⟩
          · rw [sized_neg (by rw [tt]; omega)] at key
            refine t_trim 4 [3, 4, 5, 8, 9] (by conv => lhs; simp) (by conv => lhs; simp) (by first | rfl | simp) ?_
            exact key.down _ _ ⟨rfl, by simp [shrinkPl, shrinkL, hd, tt]; exact .none rfl⟩
          · rw [sized_zero (by rw [tt]; omega)] at key
            refine t_trim 4 [3, 4, 5, 8, 9] (by conv => lhs; simp) (by conv => lhs; simp) (by first | rfl | simp) ?_
            exact key.down _ _ ⟨rfl, .none rfl⟩
        | succ d =>
          have hr : ∀ h : d < d + 1, (i64 0 :: List.replicate d (i64 0))[d] = i64 0 := fun h => by cases d <;> simp
          have hs : ∀ m, (i64 0 :: List.replicate d (i64 0)).set d (PV.int .i64 m) = ((0 :: List.replicate d 0).set d m).map i64 := fun m => by simp [List.map_set]
          repeat' (first | ((with_reducible refine iRG ?_); first | (apply o_apn d; exact rfl; exact rfl; omega; omega; exact rfl; exact rfl) | (apply o_yield; exact rfl; (solve | (conv => lhs; try simp [hd,iw,hr,hs])); (solve | (conv => lhs; try simp [hd,iw,hr,hs]))) | (apply o_move; exact rfl) | (apply o_assign; exact rfl) | (apply o_load; exact rfl; exact rfl; (solve | exact rfl | (conv => lhs; simp [hd,iw,hr,hs]))) | (apply o_fa; exact rfl; exact rfl; exact rfl; (solve | (conv => lhs; try simp [hd,iw,hr,hs]))) | (apply o_bin; exact rfl; exact rfl; exact rfl; exact rfl; (solve | (conv => lhs; try simp [hd,iw,hr,hs]; try simp (disch := omega) only [wi64, wu64, dect, decf, beqt, beqf, bnet, bnef, ift, iff_, ipt, ipf, wtdiv, gq]; try simp [hd,iw,hr,hs]))) | (apply o_store; exact rfl; exact rfl; exact rfl; (solve | exact rfl | (conv => lhs; simp [hd,iw,hr,hs]))) | (apply o_nilCheck; exact rfl; (solve | exact rfl | simp)) | (apply g_run; exact rfl) | (apply g_not; exact rfl) | (apply g_skip; exact rfl) | (apply g_if; exact rfl; all_goals (intro hb9; ((try simp only [hb9]); (try simp at hb9); first | (exfalso; omega) | subst hb9 | skip))) | (apply o_op; exact rfl; exact rfl; (solve | (conv => lhs; try simp [hd,iw,hr,hs]; try simp (disch := omega) only [wi64, wu64, dect, decf, beqt, beqf, bnet, bnef, ift, iff_, ipt, ipf, wtdiv, gq]; try simp [hd,iw,hr,hs]))) | (apply o_op0; exact rfl; exact rfl; (solve | (conv => lhs; try simp [hd,iw,hr,hs]; try simp (disch := omega) only [wi64, wu64, dect, decf, beqt, beqf, bnet, bnef, ift, iff_, ipt, ipf, wtdiv, gq]; try simp [hd,iw,hr,hs]))) | (apply o_call; exact rfl; (solve | (conv => lhs; try simp [hd,iw,hr,hs]))) | (apply o_nil1; exact rfl; (solve | (conv => lhs; try simp [hd,iw,hr,hs]))) | (apply o_nil2; exact rfl; (solve | (conv => lhs; try simp [hd,iw,hr,hs]))) | (apply w_end; exact rfl)) | ((with_reducible refine iT ?_); first | refine s_seq fun y9 hy9 => ?_ | (apply s_reg' tOK; exact rfl; (solve | (conv => lhs; simp))) | refine s_block ?_ | (apply w_ret; exact rfl) | (apply w_skip; exact rfl) | (apply w_exit; exact rfl) | (apply s_ift; exact rfl) | (apply s_iff; exact rfl) | (apply T_if; exact rfl; all_goals (intro hb9; ((try simp only [hb9]); (try simp at hb9); first | (exfalso; omega) | subst hb9 | skip))) | refine w_loop fun y9 hy9 => ?_ | (apply s_draw' tOK tmix [([], 0), ([0], 1), ([], 2), ([2], 3), ([2, 3], 4), ([2, 3, 4], 5), ([0, 1, 2, 3, 4, 5], 6), ([0, 1, 2, 3, 4, 5, 6], 7), ([0, 1, 2, 3, 4, 5, 6, 7], 8)] 6 (by decide +kernel); (solve | (conv => lhs; try simp [hd,iw,hr,hs])); (solve | (conv => lhs; try simp [hd,iw,hr,hs])); (solve | (conv => lhs; try simp [hd,iw,hr,hs]))) | (apply s_draw' tOK tmix [([], 0), ([], 1), ([1], 2), ([], 3), ([3], 4), ([], 5), ([5], 6), ([3, 4, 5, 6], 7), ([1, 2, 3, 4, 5, 6, 7], 8), ([0, 1, 2], 9), ([0, 1, 2, 3, 4, 5, 6, 7, 8, 9], 10)] 10 (by decide +kernel); (solve | (conv => lhs; try simp [hd,iw,hr,hs])); (solve | (conv => lhs; try simp [hd,iw,hr,hs])); (solve | (conv => lhs; try simp [hd,iw,hr,hs]))) | (apply s_draw' tOK tmix [([], 0), ([0], 1), ([0, 1], 2), ([0, 1, 2], 3), ([], 4), ([0, 1, 2, 3, 4], 5), ([0, 1, 2, 3, 4, 5], 6), ([0, 1, 2, 3, 4, 5, 6], 7), ([0, 1, 2, 3, 4, 5, 6, 7], 8)] 5 (by decide +kernel); (solve | (conv => lhs; try simp [hd,iw,hr,hs])); (solve | (conv => lhs; try simp [hd,iw,hr,hs])); (solve | (conv => lhs; try simp [hd,iw,hr,hs])))) | ((with_reducible refine iSP ?_); first | (apply s_next; assumption) | (apply r_fin; (solve | (conv => lhs; try simp [hd,iw,hr,hs])); (solve | (conv => lhs; try simp [hd,iw,hr,hs]))) | (apply n_fin; (solve | (conv => lhs; try simp [hd,iw,hr,hs])); (solve | (conv => lhs; try simp [hd,iw,hr,hs]))) | (apply w_again; assumption) | (apply zt_end; exact rfl) | (apply y_bound; exact rfl; assumption; (solve | (conv => lhs; try simp [hd,iw,hr,hs]))) | (apply y_on; exact rfl; (solve | (conv => lhs; try simp [hd,iw,hr,hs]))) | (apply y_ret; exact rfl; (solve | (conv => lhs; try simp [hd,iw,hr,hs]))) | (apply y_exit; exact rfl; (solve | (conv => lhs; try simp [hd,iw,hr,hs])))) | ((with_reducible refine iA ?_); first | refine a_ret ?_ | refine a_ret0 ?_) | ((with_reducible refine iC ?_); first | refine ca ?_ | (refine c_nz (by first | (solve | (conv => lhs; simp)) | rfl) (ca ?_)) | (refine s_body' Tryz.func158 tOK rfl (by conv => lhs; simp) (by conv => lhs; simp) (by conv => lhs; simp [Fr.args]) rfl (by conv => lhs; try simp) fun R9 hR9 => ?_) | (refine z_enter Tryz.func159 tOK rfl (by conv => lhs; simp) (by conv => lhs; simp) (by conv => lhs; simp [Fr.args]) rfl fun R9 hR9 => ?_) | (refine s_body' Tryz.func172 tOK rfl (by conv => lhs; simp) (by conv => lhs; simp) (by conv => lhs; simp [Fr.args]) rfl (by conv => lhs; try simp) fun R9 hR9 => ?_) | (refine s_body' Tryz.func175 tOK rfl (by conv => lhs; simp) (by conv => lhs; simp) (by conv => lhs; simp [Fr.args]) rfl (by conv => lhs; try simp) fun R9 hR9 => ?_)) | ((with_reducible refine iDP ?_); first | (apply d_move; exact rfl) | (apply d_op; exact rfl; (solve | (conv => lhs; try simp [hd,iw,hr,hs]; try simp (disch := omega) only [wi64, wu64, dect, decf, beqt, beqf, bnet, bnef, ift, iff_, ipt, ipf, wtdiv, gq]; try simp [hd,iw,hr,hs])); (solve | exact rfl | simp); (solve | (conv => lhs; try simp [hd,iw,hr,hs]))) | (apply d_op0; exact rfl; (solve | (conv => lhs; try simp [hd,iw,hr,hs]; try simp (disch := omega) only [wi64, wu64, dect, decf, beqt, beqf, bnet, bnef, ift, iff_, ipt, ipf, wtdiv, gq]; try simp [hd,iw,hr,hs])); (solve | exact rfl | simp); (solve | (conv => lhs; try simp [hd,iw,hr,hs]))) | apply d_end | (apply dg_run; exact rfl) | (apply dg_not; exact rfl) | (apply dg_skip; exact rfl) | (apply dg_if; exact rfl; all_goals (intro hb9; ((try simp only [hb9]); (try simp at hb9); first | (exfalso; omega) | subst hb9 | skip))) | (apply d_call []; exact rfl; (solve | (conv => lhs; try simp [hd,iw,hr,hs])); (solve | exact rfl | simp); (solve | (conv => lhs; try simp [hd,iw,hr,hs])); intro τ hτ; first | refine ca ⟨rfl, rfl⟩ | exact c_nz (by first | (solve | (conv => lhs; simp)) | rfl) (ca ⟨rfl, rfl⟩))) | ((with_reducible refine iTZ ?_); first | refine z_seq fun y9 hy9 => ?_ | refine z_block ?_ | (apply z_range tOK [2,3]; exact rfl; exact rfl; (solve | (conv => lhs; try simp [hd,iw,hr,hs])); (solve | (conv => lhs; try simp [hd,iw,hr,hs])); intro l9 as9 bd9 has9 hbd9 args9 τ9 hargs9 hτ9; simp at hargs9 hτ9; subst hargs9 hτ9) | (apply z_T; (solve | (conv => lhs; try simp [hd,iw,hr,hs])))) | ((with_reducible refine iSD ?_); first | (apply z_next; assumption) | (apply zd_ret; (solve | (conv => lhs; try simp [hd,iw,hr,hs])); (solve | (conv => lhs; try simp [hd,iw,hr,hs]))) | (apply zd_normal; (solve | (conv => lhs; try simp [hd,iw,hr,hs])); (solve | (conv => lhs; try simp [hd,iw,hr,hs]))) | refine zm_normal ?_ | refine zm_ret ?_) | (apply z_over; exact rfl; exact rfl; (solve | (conv => lhs; try simp [hd,iw,hr,hs]))) | (apply z_left; exact rfl; exact rfl; (solve | (conv => lhs; try simp [hd,iw,hr,hs]))) | (apply y_walk (b := 7); exact rfl; assumption; exact rfl; exact rfl; (solve | (conv => lhs; try simp [hd,iw,hr,hs])); (solve | (conv => lhs; try simp [hd,iw,hr,hs]))) | (apply s_R; assumption) | (apply f_ret; (solve | (conv => lhs; try simp [hd,iw,hr,hs]))))
          · rw [sized_pos (by rw [tt]; omega)] at key
            refine t_trim 5 [3, 4, 5, 8, 9] (by conv => lhs; simp) (by conv => lhs; simp) (by first | rfl | simp) ?_
            refine key.down _ _ ⟨rfl, ?_⟩
            rw [hd, tt, grow_short (by simp)]
            exact grown_of 0 [] (by simp) (by simp [List.replicate_succ])
          · rw [sized_neg (by rw [tt]; omega)] at key
            refine t_trim 4 [3, 4, 5, 8, 9] (by conv => lhs; simp) (by conv => lhs; simp) (by first | rfl | simp) ?_
            exact key.down _ _ ⟨rfl, by simp [shrinkPl, shrinkL, hd, tt]; exact .none rfl⟩
          · rw [sized_zero (by rw [tt]; omega)] at key
            refine t_trim 4 [3, 4, 5, 8, 9] (by conv => lhs; simp) (by conv => lhs; simp) (by first | rfl | simp) ?_
            exact key.down _ _ ⟨rfl, .none rfl⟩
      | some g pre hpre =>
        have dn : d ≤ 1000 := by omega
        simp only at hpre ⊢
        rcases Int.lt_trichotomy (intoR want - tot) 0 with hm | hm | hm
        · rw [sized_neg (by rw [tt]; omega)] at key
          repeat' (first | ((with_reducible refine iRG ?_); first | (apply o_yield; exact rfl; (solve | (conv => lhs; try simp [hd,iw,ht])); (solve | (conv => lhs; try simp [hd,iw,ht]))) | (apply o_move; exact rfl) | (apply o_assign; exact rfl) | (apply o_load; exact rfl; exact rfl; (solve | exact rfl | (conv => lhs; simp [hd,iw,ht]))) | (apply o_fa; exact rfl; exact rfl; exact rfl; (solve | (conv => lhs; try simp [hd,iw,ht]))) | (apply o_bin; exact rfl; exact rfl; exact rfl; exact rfl; (solve | (conv => lhs; try simp [hd,iw,ht]; try simp (disch := omega) only [wi64, wu64, dect, decf, beqt, beqf, bnet, bnef, ift, iff_, ipt, ipf, wtdiv, gq]; try simp [hd,iw,ht]))) | (apply o_store; exact rfl; exact rfl; exact rfl; (solve | exact rfl | (conv => lhs; simp [hd,iw,ht]))) | (apply o_nilCheck; exact rfl; (solve | exact rfl | simp)) | (apply g_run; exact rfl) | (apply g_not; exact rfl) | (apply g_skip; exact rfl) | (apply g_if; exact rfl; all_goals (intro hb9; ((try simp only [hb9]); (try simp at hb9); first | (exfalso; omega) | subst hb9 | skip))) | (apply o_op; exact rfl; exact rfl; (solve | (conv => lhs; try simp [hd,iw,ht]; try simp (disch := omega) only [wi64, wu64, dect, decf, beqt, beqf, bnet, bnef, ift, iff_, ipt, ipf, wtdiv, gq]; try simp [hd,iw,ht]))) | (apply o_op0; exact rfl; exact rfl; (solve | (conv => lhs; try simp [hd,iw,ht]; try simp (disch := omega) only [wi64, wu64, dect, decf, beqt, beqf, bnet, bnef, ift, iff_, ipt, ipf, wtdiv, gq]; try simp [hd,iw,ht]))) | (apply o_call; exact rfl; (solve | (conv => lhs; try simp [hd,iw,ht]))) | (apply o_nil1; exact rfl; (solve | (conv => lhs; try simp [hd,iw,ht]))) | (apply o_nil2; exact rfl; (solve | (conv => lhs; try simp [hd,iw,ht]))) | (apply w_end; exact rfl)) | ((with_reducible refine iT ?_); first | refine s_seq fun y9 hy9 => ?_ | (apply s_reg' tOK; exact rfl; (solve | (conv => lhs; simp))) | refine s_block ?_ | (apply w_ret; exact rfl) | (apply w_skip; exact rfl) | (apply w_exit; exact rfl) | (apply s_ift; exact rfl) | (apply s_iff; exact rfl) | (apply T_if; exact rfl; all_goals (intro hb9; ((try simp only [hb9]); (try simp at hb9); first | (exfalso; omega) | subst hb9 | skip))) | (apply s_draw' tOK tmix [([], 0), ([0], 1), ([], 2), ([2], 3), ([2, 3], 4), ([2, 3, 4], 5), ([0, 1, 2, 3, 4, 5], 6), ([0, 1, 2, 3, 4, 5, 6], 7), ([0, 1, 2, 3, 4, 5, 6, 7], 8)] 6 (by decide +kernel); (solve | (conv => lhs; try simp [hd,iw,ht])); (solve | (conv => lhs; try simp [hd,iw,ht])); (solve | (conv => lhs; try simp [hd,iw,ht]))) | (apply s_draw' tOK tmix [([], 0), ([], 1), ([1], 2), ([], 3), ([3], 4), ([], 5), ([5], 6), ([3, 4, 5, 6], 7), ([1, 2, 3, 4, 5, 6, 7], 8), ([0, 1, 2], 9), ([0, 1, 2, 3, 4, 5, 6, 7, 8, 9], 10)] 10 (by decide +kernel); (solve | (conv => lhs; try simp [hd,iw,ht])); (solve | (conv => lhs; try simp [hd,iw,ht])); (solve | (conv => lhs; try simp [hd,iw,ht]))) | (apply s_draw' tOK tmix [([], 0), ([0], 1), ([0, 1], 2), ([0, 1, 2], 3), ([], 4), ([0, 1, 2, 3, 4], 5), ([0, 1, 2, 3, 4, 5], 6), ([0, 1, 2, 3, 4, 5, 6], 7), ([0, 1, 2, 3, 4, 5, 6, 7], 8)] 5 (by decide +kernel); (solve | (conv => lhs; try simp [hd,iw,ht])); (solve | (conv => lhs; try simp [hd,iw,ht])); (solve | (conv => lhs; try simp [hd,iw,ht])))) | ((with_reducible refine iSP ?_); first | (apply s_next; assumption) | (apply r_fin; (solve | (conv => lhs; try simp [hd,iw,ht])); (solve | (conv => lhs; try simp [hd,iw,ht]))) | (apply n_fin; (solve | (conv => lhs; try simp [hd,iw,ht])); (solve | (conv => lhs; try simp [hd,iw,ht]))) | (apply zt_end; exact rfl) | (apply y_bound; exact rfl; assumption; (solve | (conv => lhs; try simp [hd,iw,ht]))) | (apply y_on; exact rfl; (solve | (conv => lhs; try simp [hd,iw,ht]))) | (apply y_ret; exact rfl; (solve | (conv => lhs; try simp [hd,iw,ht]))) | (apply y_exit; exact rfl; (solve | (conv => lhs; try simp [hd,iw,ht])))) | ((with_reducible refine iA ?_); first | refine a_ret ?_ | refine a_ret0 ?_) | ((with_reducible refine iC ?_); first | refine (C_all_at (pre++l) nm (by simp) (by simp) (by simp)) ?_ | (refine c_nz (by first | (solve | (conv => lhs; simp)) | rfl) ((C_all_at (pre++l) nm (by simp) (by simp) (by simp)) ?_)) | (refine z_enter Tryz.func159 tOK rfl (by conv => lhs; simp) (by conv => lhs; simp) (by conv => lhs; simp [Fr.args]) rfl fun R9 hR9 => ?_) | (refine s_body' Tryz.func172 tOK rfl (by conv => lhs; simp) (by conv => lhs; simp) (by conv => lhs; simp [Fr.args]) rfl (by conv => lhs; try simp) fun R9 hR9 => ?_) | (refine s_body' Tryz.func175 tOK rfl (by conv => lhs; simp) (by conv => lhs; simp) (by conv => lhs; simp [Fr.args]) rfl (by conv => lhs; try simp) fun R9 hR9 => ?_)) | ((with_reducible refine iDP ?_); first | (apply d_move; exact rfl) | (apply d_op; exact rfl; (solve | (conv => lhs; try simp [hd,iw,ht]; try simp (disch := omega) only [wi64, wu64, dect, decf, beqt, beqf, bnet, bnef, ift, iff_, ipt, ipf, wtdiv, gq]; try simp [hd,iw,ht])); (solve | exact rfl | simp); (solve | (conv => lhs; try simp [hd,iw,ht]))) | (apply d_op0; exact rfl; (solve | (conv => lhs; try simp [hd,iw,ht]; try simp (disch := omega) only [wi64, wu64, dect, decf, beqt, beqf, bnet, bnef, ift, iff_, ipt, ipf, wtdiv, gq]; try simp [hd,iw,ht])); (solve | exact rfl | simp); (solve | (conv => lhs; try simp [hd,iw,ht]))) | apply d_end | (apply dg_run; exact rfl) | (apply dg_not; exact rfl) | (apply dg_skip; exact rfl) | (apply dg_if; exact rfl; all_goals (intro hb9; ((try simp only [hb9]); (try simp at hb9); first | (exfalso; omega) | subst hb9 | skip))) | (apply d_call []; exact rfl; (solve | (conv => lhs; try simp [hd,iw,ht])); (solve | exact rfl | simp); (solve | (conv => lhs; try simp [hd,iw,ht])); intro τ hτ; first | refine (C_all_at (pre++l) nm (by simp) (by simp) (by simp)) ⟨rfl, rfl⟩ | exact c_nz (by first | (solve | (conv => lhs; simp)) | rfl) ((C_all_at (pre++l) nm (by simp) (by simp) (by simp)) ⟨rfl, rfl⟩))) | ((with_reducible refine iTZ ?_); first | refine z_seq fun y9 hy9 => ?_ | refine z_block ?_ | (apply z_range tOK [2,3]; exact rfl; exact rfl; (solve | (conv => lhs; try simp [hd,iw,ht])); (solve | (conv => lhs; try simp [hd,iw,ht])); intro l9 as9 bd9 has9 hbd9 args9 τ9 hargs9 hτ9; simp at hargs9 hτ9; subst hargs9 hτ9) | (apply z_T; (solve | (conv => lhs; try simp [hd,iw,ht])))) | ((with_reducible refine iSD ?_); first | (apply z_next; assumption) | (apply zd_ret; (solve | (conv => lhs; try simp [hd,iw,ht])); (solve | (conv => lhs; try simp [hd,iw,ht]))) | (apply zd_normal; (solve | (conv => lhs; try simp [hd,iw,ht])); (solve | (conv => lhs; try simp [hd,iw,ht]))) | refine zm_normal ?_ | refine zm_ret ?_) | (apply z_over; exact rfl; exact rfl; (solve | (conv => lhs; try simp [hd,iw,ht]))) | (apply z_left; exact rfl; exact rfl; (solve | (conv => lhs; try simp [hd,iw,ht]))) | (apply y_walk (b := 8); exact rfl; assumption; exact rfl; exact rfl; (solve | (conv => lhs; try simp [hd,iw,ht])); (solve | (conv => lhs; try simp [hd,iw,ht]))) | (apply s_R; assumption) | (apply f_ret; (solve | (conv => lhs; try simp [hd,iw,ht]))))
          obtain ⟨m, hmm⟩ : ∃ m, -(intoR want - tot) = m := ⟨_, rfl⟩
          rw [hmm]
          rw [tt, hmm] at key
          obtain ⟨W, M, w0, m0, wl, wk, ws, ms, mb, we, me⟩ := shrink_steps l m
          refine s_loop fun c9 hc9 => ?_
          refine w_trim 9 [0, 1, 3] (by conv => lhs; simp) (by conv => lhs; simp) (by first | rfl | simp) (by first | rfl | simp) ?_
          refine s_loopn (l.length) (fun j fr σ => fr = [(0, .fn (.yield l9) [] []), (1, .ptr 7 0 0 []), (3, i64 ((l.length : Int) - 1 - j))] ∧ σ = [some (.cells 26 0 [eConf c]), some (.cells 37 0 [.agg 37 [i64 rdy, .ref 4 g pre.length l.length, i64 wt, i64 ut]]), some (.cells 37 0 [.agg 37 [i64 0, .nils, i64 0, i64 0]]), some (.cells 71 0 [.agg 71 [i64 0, .bool false]]), some (.cells 3 g (pre.map i64 ++ (W j).map i64)), some (.cells 169 0 [.ptr 1 0 0 []]), some (.cells 3 0 [i64 (M j)]), some (.cells 35 0 [.ref 4 g pre.length l.length]), some (.loop l9 .ready none 38 [(2, .ptr 5 0 0 []), (3, .ptr 6 0 0 [])] #[12, 13] as9 bd9)]) ?_ ⟨by simp [w0,m0], by first | rfl | simp [w0,m0]⟩
          rintro j fr σ hj ⟨rfl, rfl⟩ ih
          have hmb := mb s0 (by omega) j
          have hwn := wl j hj
          refine s_round hc9 ?_
          rcases Nat.lt_or_ge j l.length with hjl | hjl
          · have ex : ((l.length : Int) - 1 - j).toNat = l.length - 1 - j := by omega
            have hx := gt_all (P := fun n => -1000000000 ≤ n ∧ n ≤ 1000000000) nm.s (by decide) (l.length - 1 - j)
            have hwk := wk j hjl
            have hws := ws j hjl
            have hms := ms j hjl
            obtain ⟨x, hxx⟩ : ∃ x, gt l (l.length - 1 - j) = x := ⟨_, rfl⟩
            rw [hxx] at hwk hx hws hms
            have hwl : (pre.map i64 ++ (W j).map i64)[pre.length + (l.length - 1 - j)]? = some (i64 x) := by
              rw [List.getElem?_append_right (by simp)]; simp [hwk]
            have hr : ∀ h, (pre.map i64 ++ (W j).map i64)[pre.length + (l.length - 1 - j)]'h = i64 x := fun h => by
              rw [List.getElem?_eq_getElem h] at hwl; exact Option.some.inj hwl
            repeat' (first | ((with_reducible refine iRG ?_); first | (apply o_yield; exact rfl; (solve | (conv => lhs; try simp [ex,hwl,hr,hwn])); (solve | (conv => lhs; try simp [ex,hwl,hr,hwn]))) | (apply o_move; exact rfl) | (apply o_assign; exact rfl) | (apply o_load; exact rfl; exact rfl; (solve | exact rfl | (conv => lhs; simp [ex,hwl,hr,hwn]))) | (apply o_fa; exact rfl; exact rfl; exact rfl; (solve | (conv => lhs; try simp [ex,hwl,hr,hwn]))) | (apply o_bin; exact rfl; exact rfl; exact rfl; exact rfl; (solve | (conv => lhs; try simp [ex,hwl,hr,hwn]; try simp (disch := omega) only [wi64, wu64, dect, decf, beqt, beqf, bnet, bnef, ift, iff_, ipt, ipf, wtdiv, gq]; try simp [ex,hwl,hr,hwn]))) | (apply o_store; exact rfl; exact rfl; exact rfl; (solve | exact rfl | (conv => lhs; simp [ex,hwl,hr,hwn]))) | (apply o_nilCheck; exact rfl; (solve | exact rfl | simp)) | (apply g_run; exact rfl) | (apply g_not; exact rfl) | (apply g_skip; exact rfl) | (apply g_if; exact rfl; all_goals (intro hb9; ((try simp only [hb9]); (try simp at hb9); first | (exfalso; omega) | subst hb9 | skip))) | (apply o_op; exact rfl; exact rfl; (solve | (conv => lhs; try simp [ex,hwl,hr,hwn]; try simp (disch := omega) only [wi64, wu64, dect, decf, beqt, beqf, bnet, bnef, ift, iff_, ipt, ipf, wtdiv, gq]; try simp [ex,hwl,hr,hwn]))) | (apply o_op0; exact rfl; exact rfl; (solve | (conv => lhs; try simp [ex,hwl,hr,hwn]; try simp (disch := omega) only [wi64, wu64, dect, decf, beqt, beqf, bnet, bnef, ift, iff_, ipt, ipf, wtdiv, gq]; try simp [ex,hwl,hr,hwn]))) | (apply o_call; exact rfl; (solve | (conv => lhs; try simp [ex,hwl,hr,hwn]))) | (apply o_nil1; exact rfl; (solve | (conv => lhs; try simp [ex,hwl,hr,hwn]))) | (apply o_nil2; exact rfl; (solve | (conv => lhs; try simp [ex,hwl,hr,hwn]))) | (apply w_end; exact rfl)) | ((with_reducible refine iT ?_); first | refine s_seq fun y9 hy9 => ?_ | (apply s_reg' tOK; exact rfl; (solve | (conv => lhs; simp))) | refine s_block ?_ | (apply w_ret; exact rfl) | (apply w_skip; exact rfl) | (apply w_exit; exact rfl) | (apply s_ift; exact rfl) | (apply s_iff; exact rfl) | (apply T_if; exact rfl; all_goals (intro hb9; ((try simp only [hb9]); (try simp at hb9); first | (exfalso; omega) | subst hb9 | skip))) | (apply s_draw' tOK tmix [([], 0), ([0], 1), ([], 2), ([2], 3), ([2, 3], 4), ([2, 3, 4], 5), ([0, 1, 2, 3, 4, 5], 6), ([0, 1, 2, 3, 4, 5, 6], 7), ([0, 1, 2, 3, 4, 5, 6, 7], 8)] 6 (by decide +kernel); (solve | (conv => lhs; try simp [ex,hwl,hr,hwn])); (solve | (conv => lhs; try simp [ex,hwl,hr,hwn])); (solve | (conv => lhs; try simp [ex,hwl,hr,hwn]))) | (apply s_draw' tOK tmix [([], 0), ([], 1), ([1], 2), ([], 3), ([3], 4), ([], 5), ([5], 6), ([3, 4, 5, 6], 7), ([1, 2, 3, 4, 5, 6, 7], 8), ([0, 1, 2], 9), ([0, 1, 2, 3, 4, 5, 6, 7, 8, 9], 10)] 10 (by decide +kernel); (solve | (conv => lhs; try simp [ex,hwl,hr,hwn])); (solve | (conv => lhs; try simp [ex,hwl,hr,hwn])); (solve | (conv => lhs; try simp [ex,hwl,hr,hwn]))) | (apply s_draw' tOK tmix [([], 0), ([0], 1), ([0, 1], 2), ([0, 1, 2], 3), ([], 4), ([0, 1, 2, 3, 4], 5), ([0, 1, 2, 3, 4, 5], 6), ([0, 1, 2, 3, 4, 5, 6], 7), ([0, 1, 2, 3, 4, 5, 6, 7], 8)] 5 (by decide +kernel); (solve | (conv => lhs; try simp [ex,hwl,hr,hwn])); (solve | (conv => lhs; try simp [ex,hwl,hr,hwn])); (solve | (conv => lhs; try simp [ex,hwl,hr,hwn])))) | ((with_reducible refine iSP ?_); first | (apply s_next; assumption) | (apply r_fin; (solve | (conv => lhs; try simp [ex,hwl,hr,hwn])); (solve | (conv => lhs; try simp [ex,hwl,hr,hwn]))) | (apply n_fin; (solve | (conv => lhs; try simp [ex,hwl,hr,hwn])); (solve | (conv => lhs; try simp [ex,hwl,hr,hwn]))) | (apply zt_end; exact rfl) | (apply y_bound; exact rfl; assumption; (solve | (conv => lhs; try simp [ex,hwl,hr,hwn]))) | (apply y_on; exact rfl; (solve | (conv => lhs; try simp [ex,hwl,hr,hwn]))) | (apply y_ret; exact rfl; (solve | (conv => lhs; try simp [ex,hwl,hr,hwn]))) | (apply y_exit; exact rfl; (solve | (conv => lhs; try simp [ex,hwl,hr,hwn])))) | ((with_reducible refine iA ?_); first | refine a_ret ?_ | refine a_ret0 ?_) | ((with_reducible refine iC ?_); first | (refine z_enter Tryz.func159 tOK rfl (by conv => lhs; simp) (by conv => lhs; simp) (by conv => lhs; simp [Fr.args]) rfl fun R9 hR9 => ?_)) | ((with_reducible refine iDP ?_); first | (apply d_move; exact rfl) | (apply d_op; exact rfl; (solve | (conv => lhs; try simp [ex,hwl,hr,hwn]; try simp (disch := omega) only [wi64, wu64, dect, decf, beqt, beqf, bnet, bnef, ift, iff_, ipt, ipf, wtdiv, gq]; try simp [ex,hwl,hr,hwn])); (solve | exact rfl | simp); (solve | (conv => lhs; try simp [ex,hwl,hr,hwn]))) | (apply d_op0; exact rfl; (solve | (conv => lhs; try simp [ex,hwl,hr,hwn]; try simp (disch := omega) only [wi64, wu64, dect, decf, beqt, beqf, bnet, bnef, ift, iff_, ipt, ipf, wtdiv, gq]; try simp [ex,hwl,hr,hwn])); (solve | exact rfl | simp); (solve | (conv => lhs; try simp [ex,hwl,hr,hwn]))) | apply d_end | (apply dg_run; exact rfl) | (apply dg_not; exact rfl) | (apply dg_skip; exact rfl) | (apply dg_if; exact rfl; all_goals (intro hb9; ((try simp only [hb9]); (try simp at hb9); first | (exfalso; omega) | subst hb9 | skip)))) | ((with_reducible refine iTZ ?_); first | refine z_seq fun y9 hy9 => ?_ | refine z_block ?_ | (apply z_range tOK [2,3]; exact rfl; exact rfl; (solve | (conv => lhs; try simp [ex,hwl,hr,hwn])); (solve | (conv => lhs; try simp [ex,hwl,hr,hwn])); intro l9 as9 bd9 has9 hbd9 args9 τ9 hargs9 hτ9; simp at hargs9 hτ9; subst hargs9 hτ9) | (apply z_T; (solve | (conv => lhs; try simp [ex,hwl,hr,hwn])))) | ((with_reducible refine iSD ?_); first | (apply z_next; assumption) | (apply zd_ret; (solve | (conv => lhs; try simp [ex,hwl,hr,hwn])); (solve | (conv => lhs; try simp [ex,hwl,hr,hwn]))) | (apply zd_normal; (solve | (conv => lhs; try simp [ex,hwl,hr,hwn])); (solve | (conv => lhs; try simp [ex,hwl,hr,hwn]))) | refine zm_normal ?_ | refine zm_ret ?_) | (apply z_over; exact rfl; exact rfl; (solve | (conv => lhs; try simp [ex,hwl,hr,hwn]))) | (apply z_left; exact rfl; exact rfl; (solve | (conv => lhs; try simp [ex,hwl,hr,hwn]))) | (apply y_walk (b := 8); exact rfl; assumption; exact rfl; exact rfl; (solve | (conv => lhs; try simp [ex,hwl,hr,hwn])); (solve | (conv => lhs; try simp [ex,hwl,hr,hwn]))) | (apply s_R; assumption) | (apply f_ret; (solve | (conv => lhs; try simp [ex,hwl,hr,hwn]))))
            refine w_back 9 [0, 1, 3] (by conv => lhs; simp) (by conv => lhs; simp) (by first | rfl | simp) (by first | rfl | simp) ?_
            exact ih hjl _ _ ⟨by simp; omega, by simp [hws, hms]⟩
          · have : j = l.length := by omega
            subst this
            rw [we, me]
            repeat' (first | ((with_reducible refine iRG ?_); first | (apply o_yield; exact rfl; (solve | (conv => lhs; try simp)); (solve | (conv => lhs; try simp))) | (apply o_move; exact rfl) | (apply o_assign; exact rfl) | (apply o_load; exact rfl; exact rfl; (solve | exact rfl | (conv => lhs; simp))) | (apply o_fa; exact rfl; exact rfl; exact rfl; (solve | (conv => lhs; try simp))) | (apply o_bin; exact rfl; exact rfl; exact rfl; exact rfl; (solve | (conv => lhs; try simp; try simp (disch := omega) only [wi64, wu64, dect, decf, beqt, beqf, bnet, bnef, ift, iff_, ipt, ipf, wtdiv, gq]; try simp))) | (apply o_store; exact rfl; exact rfl; exact rfl; (solve | exact rfl | (conv => lhs; simp))) | (apply o_nilCheck; exact rfl; (solve | exact rfl | simp)) | (apply g_run; exact rfl) | (apply g_not; exact rfl) | (apply g_skip; exact rfl) | (apply g_if; exact rfl; all_goals (intro hb9; ((try simp only [hb9]); (try simp at hb9); first | (exfalso; omega) | subst hb9 | skip))) | (apply o_op; exact rfl; exact rfl; (solve | (conv => lhs; try simp; try simp (disch := omega) only [wi64, wu64, dect, decf, beqt, beqf, bnet, bnef, ift, iff_, ipt, ipf, wtdiv, gq]; try simp))) | (apply o_op0; exact rfl; exact rfl; (solve | (conv => lhs; try simp; try simp (disch := omega) only [wi64, wu64, dect, decf, beqt, beqf, bnet, bnef, ift, iff_, ipt, ipf, wtdiv, gq]; try simp))) | (apply o_call; exact rfl; (solve | (conv => lhs; try simp))) | (apply o_nil1; exact rfl; (solve | (conv => lhs; try simp))) | (apply o_nil2; exact rfl; (solve | (conv => lhs; try simp))) | (apply w_end; exact rfl)) | ((with_reducible refine iT ?_); first | refine s_seq fun y9 hy9 => ?_ | (apply s_reg' tOK; exact rfl; (solve | (conv => lhs; simp))) | refine s_block ?_ | (apply w_ret; exact rfl) | (apply w_skip; exact rfl) | (apply w_exit; exact rfl) | (apply s_ift; exact rfl) | (apply s_iff; exact rfl) | (apply T_if; exact rfl; all_goals (intro hb9; ((try simp only [hb9]); (try simp at hb9); first | (exfalso; omega) | subst hb9 | skip))) | (apply s_draw' tOK tmix [([], 0), ([0], 1), ([], 2), ([2], 3), ([2, 3], 4), ([2, 3, 4], 5), ([0, 1, 2, 3, 4, 5], 6), ([0, 1, 2, 3, 4, 5, 6], 7), ([0, 1, 2, 3, 4, 5, 6, 7], 8)] 6 (by decide +kernel); (solve | (conv => lhs; try simp)); (solve | (conv => lhs; try simp)); (solve | (conv => lhs; try simp))) | (apply s_draw' tOK tmix [([], 0), ([], 1), ([1], 2), ([], 3), ([3], 4), ([], 5), ([5], 6), ([3, 4, 5, 6], 7), ([1, 2, 3, 4, 5, 6, 7], 8), ([0, 1, 2], 9), ([0, 1, 2, 3, 4, 5, 6, 7, 8, 9], 10)] 10 (by decide +kernel); (solve | (conv => lhs; try simp)); (solve | (conv => lhs; try simp)); (solve | (conv => lhs; try simp))) | (apply s_draw' tOK tmix [([], 0), ([0], 1), ([0, 1], 2), ([0, 1, 2], 3), ([], 4), ([0, 1, 2, 3, 4], 5), ([0, 1, 2, 3, 4, 5], 6), ([0, 1, 2, 3, 4, 5, 6], 7), ([0, 1, 2, 3, 4, 5, 6, 7], 8)] 5 (by decide +kernel); (solve | (conv => lhs; try simp)); (solve | (conv => lhs; try simp)); (solve | (conv => lhs; try simp)))) | ((with_reducible refine iSP ?_); first | (apply s_next; assumption) | (apply r_fin; (solve | (conv => lhs; try simp)); (solve | (conv => lhs; try simp))) | (apply n_fin; (solve | (conv => lhs; try simp)); (solve | (conv => lhs; try simp))) | (apply zt_end; exact rfl) | (apply y_bound; exact rfl; assumption; (solve | (conv => lhs; try simp))) | (apply y_on; exact rfl; (solve | (conv => lhs; try simp))) | (apply y_ret; exact rfl; (solve | (conv => lhs; try simp))) | (apply y_exit; exact rfl; (solve | (conv => lhs; try simp)))) | ((with_reducible refine iA ?_); first | refine a_ret ?_ | refine a_ret0 ?_) | ((with_reducible refine iC ?_); first | (refine z_enter Tryz.func159 tOK rfl (by conv => lhs; simp) (by conv => lhs; simp) (by conv => lhs; simp [Fr.args]) rfl fun R9 hR9 => ?_)) | ((with_reducible refine iDP ?_); first | (apply d_move; exact rfl) | (apply d_op; exact rfl; (solve | (conv => lhs; try simp; try simp (disch := omega) only [wi64, wu64, dect, decf, beqt, beqf, bnet, bnef, ift, iff_, ipt, ipf, wtdiv, gq]; try simp)); (solve | exact rfl | simp); (solve | (conv => lhs; try simp))) | (apply d_op0; exact rfl; (solve | (conv => lhs; try simp; try simp (disch := omega) only [wi64, wu64, dect, decf, beqt, beqf, bnet, bnef, ift, iff_, ipt, ipf, wtdiv, gq]; try simp)); (solve | exact rfl | simp); (solve | (conv => lhs; try simp))) | apply d_end | (apply dg_run; exact rfl) | (apply dg_not; exact rfl) | (apply dg_skip; exact rfl) | (apply dg_if; exact rfl; all_goals (intro hb9; ((try simp only [hb9]); (try simp at hb9); first | (exfalso; omega) | subst hb9 | skip)))) | ((with_reducible refine iTZ ?_); first | refine z_seq fun y9 hy9 => ?_ | refine z_block ?_ | (apply z_range tOK [2,3]; exact rfl; exact rfl; (solve | (conv => lhs; try simp)); (solve | (conv => lhs; try simp)); intro l9 as9 bd9 has9 hbd9 args9 τ9 hargs9 hτ9; simp at hargs9 hτ9; subst hargs9 hτ9) | (apply z_T; (solve | (conv => lhs; try simp)))) | ((with_reducible refine iSD ?_); first | (apply z_next; assumption) | (apply zd_ret; (solve | (conv => lhs; try simp)); (solve | (conv => lhs; try simp))) | (apply zd_normal; (solve | (conv => lhs; try simp)); (solve | (conv => lhs; try simp))) | refine zm_normal ?_ | refine zm_ret ?_) | (apply z_over; exact rfl; exact rfl; (solve | (conv => lhs; try simp))) | (apply z_left; exact rfl; exact rfl; (solve | (conv => lhs; try simp))) | (apply y_walk (b := 8); exact rfl; assumption; exact rfl; exact rfl; (solve | (conv => lhs; try simp)); (solve | (conv => lhs; try simp))) | (apply s_R; assumption) | (apply f_ret; (solve | (conv => lhs; try simp))))
            refine t_trim 5 [3, 4, 5, 8, 9] (by conv => lhs; simp) (by conv => lhs; simp) (by first | rfl | simp) ?_
            have hwl : (shrinkL l m).1.length = l.length := by rw [← we]; exact wl _ (Nat.le_refl _)
            exact key.down _ _ ⟨rfl, grown_of g pre hpre (by simp [shrinkPl, hwl])⟩
        · rw [sized_zero (by rw [tt]; omega)] at key
          have F9 := And.intro @hd <| And.intro @iw <| @ht
          repeat' (first | refine gf ?_ | refine s_seq fun y9 hy9 => ?_ | refine qT _ ?_ ?_ | refine qG _ ?_ ?_ | refine qN ?_ ?_ | (refine QB.mk fun hb9 => ?_; (try simp only [hb9]); (try simp at hb9); first | (exfalso; omega) | subst hb9 | skip) | refine sD tOK tmix [([],0),([0],1),([],2),([2],3),([2,3],4),([2,3,4],5),([0,1,2,3,4,5],6),([0,1,2,3,4,5,6],7),([0,1,2,3,4,5,6,7],8)] 6 ?_ | refine sD tOK tmix [([],0),([],1),([1],2),([],3),([3],4),([],5),([5],6),([3,4,5,6],7),([1,2,3,4,5,6,7],8),([0,1,2],9),([0,1,2,3,4,5,6,7,8,9],10)] 10 ?_ | refine qD _ ?_ ?_ | (refine nZ ?_; refine (C_all_at (pre++l) nm (by simp) (by simp) (by simp)) ?_) | (apply d_call []; exact rfl; (solve | (conv => lhs; try simp [hd,iw,ht])); (solve | exact rfl | simp); (solve | (conv => lhs; try simp [hd,iw,ht])); intro τ hτ; refine nZ ?_; first | exact (C_all_at (pre++l) nm (by simp) (by simp) (by simp)) ⟨rfl, rfl⟩))
          refine t_trim 5 [3, 4, 5, 8, 9] (by conv => lhs; simp) (by conv => lhs; simp) (by first | rfl | simp) ?_
          exact key.down _ _ ⟨rfl, .some g pre hpre⟩
        · rw [sized_pos (by rw [tt]; omega), tt, hd] at key
          cases d with
          | zero =>
            rw [show ((0 : Nat) : Int) = 0 from rfl, grow_zero] at key
            have F9 := And.intro @hd <| And.intro @iw <| @ht
            repeat' (first | refine gf ?_ | refine s_seq fun y9 hy9 => ?_ | refine qT _ ?_ ?_ | refine qG _ ?_ ?_ | refine qN ?_ ?_ | (refine QB.mk fun hb9 => ?_; (try simp only [hb9]); (try simp at hb9); first | (exfalso; omega) | subst hb9 | skip) | refine sD tOK tmix [([],0),([0],1),([],2),([2],3),([2,3],4),([2,3,4],5),([0,1,2,3,4,5],6),([0,1,2,3,4,5,6],7),([0,1,2,3,4,5,6,7],8)] 6 ?_ | refine sD tOK tmix [([],0),([],1),([1],2),([],3),([3],4),([],5),([5],6),([3,4,5,6],7),([1,2,3,4,5,6,7],8),([0,1,2],9),([0,1,2,3,4,5,6,7,8,9],10)] 10 ?_ | refine qD _ ?_ ?_ | refine cE Tryz.func158 tOK fun R9 hR9 => ?_ | (refine nZ ?_; refine (C_all_at (pre++l) nm (by simp) (by simp) (by simp)) ?_) | (apply d_call []; exact rfl; (solve | (conv => lhs; try simp [hd,iw,ht])); (solve | exact rfl | simp); (solve | (conv => lhs; try simp [hd,iw,ht])); intro τ hτ; refine nZ ?_; first | exact (C_all_at (pre++l) nm (by simp) (by simp) (by simp)) ⟨rfl, rfl⟩))
            refine t_trim 5 [3, 4, 5, 8, 9] (by conv => lhs; simp) (by conv => lhs; simp) (by first | rfl | simp) ?_
            exact key.down _ _ ⟨rfl, .some g pre hpre⟩
          | succ d =>
            rcases Nat.lt_or_ge d l.length with hlt | hge
            · rw [grow_long hlt] at key
              have hx := gt_all (P := fun n => -1000000000 ≤ n ∧ n ≤ 1000000000) nm.s (by decide) d
              have hq : l[d]? = some (gt l d) := gq hlt
              obtain ⟨x, hxx⟩ : ∃ x, gt l d = x := ⟨_, rfl⟩
              rw [hxx] at hq hx key
              have hwl : (pre.map i64 ++ l.map i64)[pre.length + d]? = some (i64 x) := by
                rw [List.getElem?_append_right (by simp)]; simp [hq]
              have hr : ∀ h, (pre.map i64 ++ l.map i64)[pre.length + d]'h = i64 x := fun h => by
                rw [List.getElem?_eq_getElem h] at hwl; exact Option.some.inj hwl
              have hs : ∀ v, (pre.map i64 ++ l.map i64).set (pre.length + d) (PV.int .i64 v) = pre.map i64 ++ (l.set d v).map i64 := fun v => by
                rw [List.set_append_right _ _ (by simp)]; simp
              have F9 := And.intro @hd <| And.intro @iw <| And.intro @ht <| And.intro @hwl <| And.intro @hr <| @hs
              repeat' (first | refine gf ?_ | refine s_seq fun y9 hy9 => ?_ | refine qT _ ?_ ?_ | refine qG _ ?_ ?_ | refine qN ?_ ?_ | (refine QB.mk fun hb9 => ?_; (try simp only [hb9]); (try simp at hb9); first | (exfalso; omega) | subst hb9 | skip) | refine sD tOK tmix [([],0),([0],1),([],2),([2],3),([2,3],4),([2,3,4],5),([0,1,2,3,4,5],6),([0,1,2,3,4,5,6],7),([0,1,2,3,4,5,6,7],8)] 6 ?_ | refine sD tOK tmix [([],0),([],1),([1],2),([],3),([3],4),([],5),([5],6),([3,4,5,6],7),([1,2,3,4,5,6,7],8),([0,1,2],9),([0,1,2,3,4,5,6,7,8,9],10)] 10 ?_ | refine qD _ ?_ ?_ | refine cE Tryz.func158 tOK fun R9 hR9 => ?_ | (refine nZ ?_; refine (C_all_at (pre++l) nm (by simp) (by simp) (by simp)) ?_) | (apply d_call []; exact rfl; (solve | (conv => lhs; try simp [hd,iw,ht,hwl,hr,hs])); (solve | exact rfl | simp); (solve | (conv => lhs; try simp [hd,iw,ht,hwl,hr,hs])); intro τ hτ; refine nZ ?_; first | exact (C_all_at (pre++l) nm (by simp) (by simp) (by simp)) ⟨rfl, rfl⟩))
              refine t_trim 5 [3, 4, 5, 8, 9] (by conv => lhs; simp) (by conv => lhs; simp) (by first | rfl | simp) ?_
              exact key.down _ _ ⟨rfl, grown_of g pre hpre (by simp)⟩
            · rw [grow_short hge] at key
              obtain ⟨k, hk⟩ : ∃ k, d + 1 - l.length = k + 1 := ⟨d - l.length, by omega⟩
              have hk2 : (d : Int) + 1 - (l.length : Int) = ((k + 1 : Nat) : Int) := by omega
              have hk3 : d = l.length + k := by omega
              have e1 : ((pre.map i64 ++ l.map i64).take (pre.length + l.length)).drop pre.length = l.map i64 := by
                rw [List.take_of_length_le (by simp), List.drop_left' (by simp)]
              have hwl : (l.map i64 ++ List.replicate (k + 1) (i64 0))[d]? = some (i64 0) := by
                rw [List.getElem?_append_right (by simp; omega)]; simp [List.getElem?_replicate]; omega
              have hr : ∀ h, (l.map i64 ++ List.replicate (k + 1) (i64 0))[d]'h = i64 0 := fun h => by
                rw [List.getElem?_eq_getElem h] at hwl; exact Option.some.inj hwl
              have hs : ∀ v, (l.map i64 ++ List.replicate (k + 1) (i64 0)).set d (PV.int .i64 v) = ((l ++ List.replicate (k + 1) 0).set d v).map i64 := fun v => by rw [← set_i64]; simp
              rw [hk] at key
              have F9 := And.intro @hd <| And.intro @iw <| And.intro @ht <| And.intro @hwl <| And.intro @hr <| @hs
              repeat' (first | ((apply o_apr (k+1); exact rfl; exact rfl; omega; omega; exact rfl; (solve | simp); omega; (conv => lhs; simp only [e1,List.set_cons_succ,List.set_cons_zero]))) | refine g2 ?_ | refine s_seq fun y9 hy9 => ?_ | refine qT _ ?_ ?_ | refine qG _ ?_ ?_ | refine qN ?_ ?_ | (refine QB.mk fun hb9 => ?_; (try simp only [hb9]); (try simp at hb9); first | (exfalso; omega) | subst hb9 | skip) | refine sD tOK tmix [([],0),([0],1),([],2),([2],3),([2,3],4),([2,3,4],5),([0,1,2,3,4,5],6),([0,1,2,3,4,5,6],7),([0,1,2,3,4,5,6,7],8)] 6 ?_ | refine sD tOK tmix [([],0),([],1),([1],2),([],3),([3],4),([],5),([5],6),([3,4,5,6],7),([1,2,3,4,5,6,7],8),([0,1,2],9),([0,1,2,3,4,5,6,7,8,9],10)] 10 ?_ | refine qD _ ?_ ?_ | refine cE Tryz.func158 tOK fun R9 hR9 => ?_ | (refine nZ ?_; refine (C_all_at (pre++l) nm (by simp) (by simp) (by simp)) ?_) | (apply d_call []; exact rfl; (solve | (conv => lhs; try simp [hd,iw,ht,hwl,hr,hs])); (solve | exact rfl | simp); (solve | (conv => lhs; try simp [hd,iw,ht,hwl,hr,hs])); intro τ hτ; refine nZ ?_; first | exact (C_all_at (pre++l) nm (by simp) (by simp) (by simp)) ⟨rfl, rfl⟩))
              refine t_trim 5 [3, 4, 5, 8, 9] (by conv => lhs; simp) (by conv => lhs; simp) (by first | rfl | simp) ?_
              exact key.down _ _ ⟨rfl, grown_of (g + 1) [] (by simp) (by simp [hk3])⟩
  · clear h
    obtain ⟨rdy, st, wt, ut⟩ := p
    obtain ⟨r0, s0, al, ln⟩ := hp
    simp only [allPl] at r0 s0 al ln
    cases st with
    | nil =>
      repeat' (first | refine go ?_ | refine s_seq fun y9 hy9 => ?_ | refine qT _ ?_ ?_ | refine qG _ ?_ ?_ | refine qN ?_ ?_ | (refine QB.mk fun hb9 => ?_; (try simp only [hb9]); (try simp at hb9); first | (exfalso; omega) | subst hb9 | skip) | refine sD tOK tmix [([],0),([0],1),([],2),([2],3),([2,3],4),([2,3,4],5),([0,1,2,3,4,5],6),([0,1,2,3,4,5,6],7),([0,1,2,3,4,5,6,7],8)] 6 ?_ | refine sD tOK tmix [([],0),([],1),([1],2),([],3),([3],4),([],5),([5],6),([3,4,5,6],7),([1,2,3,4,5,6,7],8),([0,1,2],9),([0,1,2,3,4,5,6,7,8,9],10)] 10 ?_ | refine qD _ ?_ ?_ | refine cE Tryz.func84 tOK fun R9 hR9 => ?_)
      · refine t_trim 4 [2, 3, 4, 5, 8, 9] (by conv => lhs; simp) (by conv => lhs; simp) (by first | rfl | simp) ?_
        exact key.down _ _ ⟨rfl, .none rfl⟩
      · refine t_trim 5 [2, 3, 4, 5, 8, 9] (by conv => lhs; simp) (by conv => lhs; simp) (by first | rfl | simp) ?_
        exact key.down _ _ ⟨rfl, .some 1 [] (by simp)⟩
    | cons x xs =>
      have hx := s0 x (by simp)
      have hxs := sum_nonneg fun n hn => s0 n (List.mem_cons_of_mem _ hn)
      simp only [List.sum_cons] at al
      simp only [List.length_cons] at ln
      repeat' (first | refine go ?_ | refine s_seq fun y9 hy9 => ?_ | refine qT _ ?_ ?_ | refine qG _ ?_ ?_ | refine qN ?_ ?_ | (refine QB.mk fun hb9 => ?_; (try simp only [hb9]); (try simp at hb9); first | (exfalso; omega) | subst hb9 | skip) | refine sD tOK tmix [([],0),([0],1),([],2),([2],3),([2,3],4),([2,3,4],5),([0,1,2,3,4,5],6),([0,1,2,3,4,5,6],7),([0,1,2,3,4,5,6,7],8)] 6 ?_ | refine sD tOK tmix [([],0),([],1),([1],2),([],3),([3],4),([],5),([5],6),([3,4,5,6],7),([1,2,3,4,5,6,7],8),([0,1,2],9),([0,1,2,3,4,5,6,7,8,9],10)] 10 ?_ | refine qD _ ?_ ?_ | refine cE Tryz.func84 tOK fun R9 hR9 => ?_)
      all_goals
        refine t_trim 5 [2, 3, 4, 5, 8, 9] (by conv => lhs; simp) (by conv => lhs; simp) (by first | rfl | simp) ?_
        exact key.down _ _ ⟨rfl, .some 1 [x] (by simp)⟩
end
end Go.Proofs.YtncbfppafgjdiaaGreat
end
section
/- Replicas, the document's step. -/
set_option linter.unusedVariables false
set_option linter.unusedSimpArgs false
set_option maxRecDepth 20000
namespace Go.Proofs.YtncbfppafgjdiaaGreat
open Go
attribute [local irreducible] T TL C RG DP SP YR afterRG DPcall
attribute [-simp] List.map_set
theorem fin_v3 {R : Re → Store → Prop} {σ σ' : Store} {a b : PV} (h : R (.ret a) σ) (e : a = b ∧ σ = σ') : R (.ret b) σ' := e.1 ▸ e.2 ▸ h
@[simp] theorem allL_app (p : Nat → Bool) (a b : List PV) : allL p (a ++ b) = (allL p a && allL p b) := by
  induction a with
  | nil => simp [allL]
  | cons x a ih => simp [allL, ih, Bool.and_assoc]
@[simp] theorem renL_app (r : Nat → Nat) (a b : List PV) : renL r (a ++ b) = renL r a ++ renL r b := by
  induction a with
  | nil => simp [renL]
  | cons x a ih => simp [renL, ih]
theorem sized_u (dl : Int) (r w u u' want : Int) (l : List Int) : (sizePl dl ⟨r, l, w, u⟩ want).ready = (sizePl dl ⟨r, l, w, u'⟩ want).ready ∧ (sizePl dl ⟨r, l, w, u⟩ want).start = (sizePl dl ⟨r, l, w, u'⟩ want).start ∧ (sizePl dl ⟨r, l, w, u⟩ want).wait = w := by
  unfold sizePl growPl shrinkPl allPl
  simp only
  split
  · split <;> exact ⟨rfl, rfl, rfl⟩
  · split <;> exact ⟨rfl, rfl, rfl⟩
theorem trimZ_zeros (l : List Int) : ∀ n, trimZ (l ++ List.replicate n 0) = trimZ l
  | 0 => by simp
  | n + 1 => by rw [List.replicate_succ', ← List.append_assoc, trimZ_snoc, if_pos rfl, trimZ_zeros l n]
theorem set_gt {l : List Int} {k : Nat} : l.set k (gt l k) = l := by
  apply List.ext_getElem
  · simp
  · intro i h1 h2
    rw [List.getElem_set]
    split
    · rename_i e; subst e; simp [gt, h2]
    · rfl
theorem sized_up {rdy wt ut want tot : Int} {l : List Int} {e : Nat} (tt : allPl ⟨rdy, l, wt, ut⟩ = tot) (hm : 0 ≤ intoR want - tot) : (sizePl ((e + 1 : Nat) : Int) ⟨rdy, l, wt, ut⟩ want).ready = rdy ∧
    trimZ ((l ++ List.replicate (e + 1 - l.length) 0).set e (gt (l ++ List.replicate (e + 1 - l.length) 0) e + (intoR want - tot))) = trimZ (sizePl ((e + 1 : Nat) : Int) ⟨rdy, l, wt, ut⟩ want).start := by
  rcases Int.lt_or_eq_of_le hm with h | h
  · rw [sized_pos (by rw [tt]; omega), tt]
    rcases Nat.lt_or_ge e l.length with hlt | hge
    · rw [grow_long hlt, show e + 1 - l.length = 0 by omega]; simp
    · rw [grow_short hge]
      have hg : gt (l ++ List.replicate (e + 1 - l.length) (0 : Int)) e = 0 := by
        simp [gt, List.getD_eq_getElem?_getD, List.getElem?_append_right hge, List.getElem?_replicate]
        split <;> rfl
      rw [hg]; simp
  · rw [sized_zero (by rw [tt]; omega), ← h, Int.add_zero, set_gt, trimZ_zeros]; simp
section
variable {R : Re → Store → Prop} {σ : Store}
theorem R_all_at {b g off len : Nat} {r w u : Int} (cs : List Int) {l : List Int} (hp : numPl ⟨r, l, w, u⟩) (hb : Store.at σ b = some (.cells 3 g (cs.map i64))) (hl : off + len ≤ cs.length) (e : (cs.drop off).take len = l) (h : R (.ret (i64 (r + l.sum))) σ) : C tE 75 [.agg 37 [i64 r, .ref b g off len, i64 w, i64 u]] σ R := by
  refine C_lend tOK (args' := [ePlant ⟨r, l, w, u⟩]) ?_ (R_all hp ⟨rfl, h⟩)
  have h1 : frz σ 5 (.ref b g off len) = some (.lit (l.map i64)) := by
    rw [← e, List.map_take, List.map_drop]
    refine frz_row hb (by simpa using hl) fun x hx => ?_
    obtain ⟨a, _, rfl⟩ := List.mem_map.1 hx; simp
  simp [h1]
theorem fin_sized {b k g g' : Nat} {cs : List Int} {rest : Store} {rdy wt ut : Int} {l : List Int} {ty : TypeId} (hb : Store.at σ b = some (.cells 3 g (cs.map i64))) (hk : 1 ≤ k) (hat : Store.at (some (.cells 3 g (cs.map i64)) :: rest) k = some (.cells ty g' (l.map i64)))
    (h : R (.ret (.agg 37 [i64 rdy, .lit (l.map i64), i64 wt, i64 ut])) σ) : ownRe [b] σ R (.ret (.agg 37 [i64 rdy, .ref k g' 0 l.length, i64 wt, i64 ut])) (some (.cells 3 g (cs.map i64)) :: rest) := by
  have hσ : σ.set b (some (.cells 3 g (cs.map i64))) = σ := by
    apply List.ext_getElem?
    intro i
    rw [List.getElem?_set]
    split
    · rename_i e; subst e
      have := Store.at_some hb
      rw [List.getElem?_eq_getElem (getElem?_lt this)] at this
      simp [getElem?_lt (Store.at_some hb)]; exact (Option.some.inj this).symm
    · rfl
  have hh : Store.at (hide 1 (some (.cells 3 g (cs.map i64)) :: rest)) k = some (.cells ty g' (l.map i64)) := by
    obtain ⟨k, rfl⟩ : ∃ j, k = j + 1 := ⟨k - 1, by omega⟩
    simpa [hide, Store.at] using hat
  have h1 : frz (hide 1 (some (.cells 3 g (cs.map i64)) :: rest)) 5 (.ref k g' 0 l.length) = some (.lit (l.map i64)) := by
    rw [frz_row hh (by simp) (fun x hx => by obtain ⟨a, _, rfl⟩ := List.mem_map.1 hx; simp)]
    simp
  refine ⟨by simp, ?_⟩
  simp [h1, putAll, hσ, h]
set_option maxHeartbeats 4000000 in
theorem R_sized0 {rdy wt ut dl want : Int} {l pre : List Int} {g : Nat} (hpre : pre.length ≤ 1) (hq : okPl ⟨rdy, l, wt, ut⟩) (d0 : 0 ≤ dl) (d1 : dl ≤ 1000)
    (h : ∀ b1 b2 g' l', l'.length ≤ 1000 → trimZ l' = trimZ (sizePl dl ⟨rdy, l, wt, ut⟩ want).start →
      R (.ret (.agg 37 [i64 (sizePl dl ⟨rdy, l, wt, ut⟩ want).ready, .ref 3 g' 0 l'.length, i64 wt, i64 0])) [some (.cells 3 g (pre.map i64 ++ l.map i64)), b1, b2, some (.cells 3 g' (l'.map i64))]) :
    C tE 72 [i64 dl, .agg 37 [i64 rdy, .ref 0 g pre.length l.length, i64 wt, i64 ut], i64 (intoR want)] [some (.cells 3 g (pre.map i64 ++ l.map i64))] R := by
  have nm := hq.num
  obtain ⟨r0, s0, al, ln⟩ := hq
  have hl0 := sum_nonneg s0
  simp only [allPl] at r0 s0 al ln hl0
  obtain ⟨tot, ht⟩ : ∃ tot, rdy + l.sum = tot := ⟨_, rfl⟩
  have tt : allPl ⟨rdy, l, wt, ut⟩ = tot := ht
  rw [ht] at al
  obtain ⟨d, hd⟩ := Int.eq_ofNat_of_zero_le d0
  subst hd
  have iw0 : 0 ≤ intoR want := intoR_lo want
  have iw1 : intoR want ≤ 1000 := intoR_hi want
  have e1 : ((pre.map i64 ++ l.map i64).drop pre.length).take l.length = l.map i64 := by
    rw [List.drop_left' (by simp), List.take_of_length_le (by simp)]
  have mm := mf_i64 l
  rcases Int.lt_or_le (intoR want - tot) 0 with hm | hm
  · rw [sized_neg (by rw [tt]; omega), tt] at h
    obtain ⟨W, M, w0, m0, wl, wk, ws, ms, mb, we, me⟩ := shrink_steps l (-(intoR want - tot))
    simp only [shrinkPl] at h
    rw [← we, ← me] at h
    refine s_body' Tryz.func72 tOK rfl (by conv => lhs; simp) (by conv => lhs; simp) (by conv => lhs; simp [Fr.args]) rfl (by conv => lhs; try simp) fun R9 hR9 => ?_
    have F9 := And.intro @ht <| @e1
    repeat' (first | refine gf ?_ | refine s_seq fun y9 hy9 => ?_ | refine qT _ ?_ ?_ | refine qG _ ?_ ?_ | refine qN ?_ ?_ | (refine QB.mk fun hb9 => ?_; (try simp only [hb9]); (try simp at hb9); first | (exfalso; omega) | subst hb9 | skip) | (refine nZ ?_; refine (R_all_at (pre++l) nm (by simp) (by simp) (by simp)) ?_))
    refine s_loop fun c9 hc9 => ?_
    refine w_trim 4 [4, 6, 8, 9, 10] (by conv => lhs; simp) (by conv => lhs; simp) (by first | rfl | simp) (by first | rfl | simp) ?_
    refine s_loopn (l.length) (fun j fr σ => fr = [(4, .ptr 1 0 0 []), (6, .ptr 2 0 0 []), (8, .ref 3 1 0 l.length), (9, i64 (M j)), (10, i64 ((l.length : Int) - 1 - j))] ∧ σ = [some (.cells 3 g (pre.map i64 ++ l.map i64)), some (.cells 37 0 [.agg 37 [i64 rdy, .ref 0 g pre.length l.length, i64 wt, i64 ut]]), some (.cells 37 0 [.agg 37 [i64 0, .nils, i64 0, i64 0]]), some (.cells 3 1 ((W j).map i64))]) ?_ ⟨by simp [w0,m0], by first | rfl | simp [w0,m0]⟩
    rintro j fr σ hj ⟨rfl, rfl⟩ ih
    have hmb := mb s0 (by omega) j
    have hwn := wl j hj
    refine s_round hc9 ?_
    rcases Nat.lt_or_ge j l.length with hjl | hjl
    · have ex : ((l.length : Int) - 1 - j).toNat = l.length - 1 - j := by omega
      have hx := gt_all (P := fun n => -1000000000 ≤ n ∧ n ≤ 1000000000) nm.s (by decide) (l.length - 1 - j)
      have hwk := wk j hjl
      have hws := ws j hjl
      have hms := ms j hjl
      obtain ⟨x, hxx⟩ : ∃ x, gt l (l.length - 1 - j) = x := ⟨_, rfl⟩
      rw [hxx] at hwk hx hws hms
      have hwl : ((W j).map i64)[l.length - 1 - j]? = some (i64 x) := by simp [hwk]
      have hr : ∀ h, ((W j).map i64)[l.length - 1 - j]'h = i64 x := fun h => by
        rw [List.getElem?_eq_getElem h] at hwl; exact Option.some.inj hwl
      have F9 := And.intro @ex <| And.intro @hwl <| And.intro @hr <| @hwn
      repeat' (first | refine gf ?_ | refine s_seq fun y9 hy9 => ?_ | refine qT _ ?_ ?_ | refine qG _ ?_ ?_ | refine qN ?_ ?_ | (refine QB.mk fun hb9 => ?_; (try simp only [hb9]); (try simp at hb9); first | (exfalso; omega) | subst hb9 | skip))
      refine w_back 4 [4, 6, 8, 9, 10] (by conv => lhs; simp) (by conv => lhs; simp) (by first | rfl | simp) (by first | rfl | simp) ?_
      exact ih hjl _ _ ⟨by simp [hms]; omega, by simp [hws]⟩
    · have : j = l.length := by omega
      subst this
      repeat' (first | refine go ?_ | refine s_seq fun y9 hy9 => ?_ | refine qT _ ?_ ?_ | refine qG _ ?_ ?_ | refine qN ?_ ?_ | (refine QB.mk fun hb9 => ?_; (try simp only [hb9]); (try simp at hb9); first | (exfalso; omega) | subst hb9 | skip))
      have hf := fun b1 b2 => h b1 b2 1 (W l.length) (by rw [hwn]; exact ln) rfl
      simp only [hwn] at hf
      exact hf _ _
  · skip
    cases d with
    | zero =>
      have hz : (sizePl ((0 : Nat) : Int) ⟨rdy, l, wt, ut⟩ want).ready = rdy + (intoR want - tot) ∧ (sizePl ((0 : Nat) : Int) ⟨rdy, l, wt, ut⟩ want).start = l := by
        rcases Int.lt_or_eq_of_le hm with h | h
        · rw [sized_pos (by rw [tt]; omega), tt, show ((0 : Nat) : Int) = 0 from rfl, grow_zero]; simp
        · rw [sized_zero (by rw [tt]; omega)]; simp [← h]
      refine s_body' Tryz.func72 tOK rfl (by conv => lhs; simp) (by conv => lhs; simp) (by conv => lhs; simp [Fr.args]) rfl (by conv => lhs; try simp) fun R9 hR9 => ?_
      have F9 := And.intro @ht <| @e1
      repeat' (first | refine gf ?_ | refine s_seq fun y9 hy9 => ?_ | refine qT _ ?_ ?_ | refine qG _ ?_ ?_ | refine qN ?_ ?_ | (refine QB.mk fun hb9 => ?_; (try simp only [hb9]); (try simp at hb9); first | (exfalso; omega) | subst hb9 | skip) | (refine nZ ?_; refine (R_all_at (pre++l) nm (by simp) (by simp) (by simp)) ?_))
      have hf := fun b1 b2 => h b1 b2 1 l ln (by rw [hz.2])
      simp only [hz.1] at hf
      exact hf _ _
    | succ e =>
      obtain ⟨W, hW⟩ : ∃ W : Nat → List Int, ∀ j, W j = l ++ List.replicate j 0 := ⟨_, fun j => rfl⟩
      have w0 : W 0 = l := by simp [hW]
      have wl : ∀ j, (W j).length = l.length + j := fun j => by simp [hW]
      have w1 : ∀ j, W (j + 1) = W j ++ [0] := fun j => by rw [hW, hW, List.replicate_succ', List.append_assoc]
      have wb : ∀ j, ∀ n ∈ W j, -1000000000 ≤ n ∧ n ≤ 1000000000 := fun j n hn => by
        rw [hW] at hn
        rcases List.mem_append.1 hn with hn | hn
        · exact nm.s n hn
        · rw [List.eq_of_mem_replicate hn]; decide
      refine s_body' Tryz.func72 tOK rfl (by conv => lhs; simp) (by conv => lhs; simp) (by conv => lhs; simp [Fr.args]) rfl (by conv => lhs; try simp) fun R9 hR9 => ?_
      have F9 := And.intro @ht <| @e1
      repeat' (first | refine gf ?_ | refine s_seq fun y9 hy9 => ?_ | refine qT _ ?_ ?_ | refine qG _ ?_ ?_ | refine qN ?_ ?_ | (refine QB.mk fun hb9 => ?_; (try simp only [hb9]); (try simp at hb9); first | (exfalso; omega) | subst hb9 | skip) | (refine nZ ?_; refine (R_all_at (pre++l) nm (by simp) (by simp) (by simp)) ?_))
      refine s_loop fun c9 hc9 => ?_
      refine w_trim 4 [0, 4, 6, 7, 8] (by conv => lhs; simp) (by conv => lhs; simp) (by first | rfl | simp) (by first | rfl | simp) ?_
      refine s_loopn ((e + 1 - l.length)) (fun j fr σ => fr = [(0, i64 (e + 1 : Nat)), (4, .ptr 1 0 0 []), (6, .ptr 2 0 0 []), (7, i64 (intoR want - tot)), (8, .ref 3 (1 + j) 0 (l.length + j))] ∧ σ = [some (.cells 3 g (pre.map i64 ++ l.map i64)), some (.cells 37 0 [.agg 37 [i64 rdy, .ref 0 g pre.length l.length, i64 wt, i64 ut]]), some (.cells 37 0 [.agg 37 [i64 0, .nils, i64 0, i64 0]]), some (.cells 3 (1 + j) ((W j).map i64))]) ?_ ⟨by simp [w0], by first | rfl | simp [w0]⟩
      rintro j fr σ hj ⟨rfl, rfl⟩ ih
      have hwj := wl j
      have htk : ((W j).map i64).take (l.length + j) = (W j).map i64 := List.take_of_length_le (by simp [hwj])
      refine s_round hc9 ?_
      rcases Nat.lt_or_ge j (e + 1 - l.length) with hj1 | hj1
      · have F9 := And.intro @htk <| @hwj
        repeat' (first | refine gf ?_ | refine s_seq fun y9 hy9 => ?_ | refine qT _ ?_ ?_ | refine qG _ ?_ ?_ | refine qN ?_ ?_ | (refine QB.mk fun hb9 => ?_; (try simp only [hb9]); (try simp at hb9); first | (exfalso; omega) | subst hb9 | skip))
        refine w_back 4 [0, 4, 6, 7, 8] (by conv => lhs; simp) (by conv => lhs; simp) (by first | rfl | simp) (by first | rfl | simp) ?_
        exact ih hj1 _ _ ⟨by simp; omega, by simp [w1]; omega⟩
      · have hje : j = e + 1 - l.length := by omega
        have hx := gt_all (P := fun n => -1000000000 ≤ n ∧ n ≤ 1000000000) (wb j) (by decide) e
        have hq : (W j)[e]? = some (gt (W j) e) := gq (by rw [hwj]; omega)
        have hu := sized_up (e := e) tt hm
        rw [← hje, ← hW] at hu
        obtain ⟨x, hxx⟩ : ∃ x, gt (W j) e = x := ⟨_, rfl⟩
        rw [hxx] at hq hx hu
        have hwl : ((W j).map i64)[e]? = some (i64 x) := by simp [hq]
        have hr : ∀ h, ((W j).map i64)[e]'h = i64 x := fun h => by
          rw [List.getElem?_eq_getElem h] at hwl; exact Option.some.inj hwl
        have F9 := And.intro @hwj <| And.intro @hwl <| @hr
        repeat' (first | refine gf ?_ | refine s_seq fun y9 hy9 => ?_ | refine qT _ ?_ ?_ | refine qG _ ?_ ?_ | refine qN ?_ ?_ | (refine QB.mk fun hb9 => ?_; (try simp only [hb9]); (try simp at hb9); first | (exfalso; omega) | subst hb9 | skip))
        have hf := fun b1 b2 => h b1 b2 (1 + j) ((W j).set e (x + (intoR want - tot))) (by simp [hwj]; omega) hu.2
        simp only [hu.1, List.length_set, hwj] at hf
        exact hf _ _
theorem R_sized {b g : Nat} {rdy wt ut dl want : Int} (l pre : List Int) (hpre : pre.length ≤ 1) (hq : okPl ⟨rdy, l, wt, ut⟩) (d0 : 0 ≤ dl) (d1 : dl ≤ 1000) (hb : Store.at σ b = some (.cells 3 g (pre.map i64 ++ l.map i64)))
    (h : ∀ l', l'.length ≤ 1000 → trimZ l' = trimZ (sizePl dl ⟨rdy, l, wt, ut⟩ want).start → R (.ret (.agg 37 [i64 (sizePl dl ⟨rdy, l, wt, ut⟩ want).ready, .lit (l'.map i64), i64 wt, i64 0])) σ) :
    C tE 72 [i64 dl, .agg 37 [i64 rdy, .ref b g pre.length l.length, i64 wt, i64 ut], i64 (intoR want)] σ R := by
  refine C_own (σ0 := [some (.cells 3 g (pre.map i64 ++ l.map i64))]) (args := [i64 dl, .agg 37 [i64 rdy, .ref 0 g pre.length l.length, i64 wt, i64 ut], i64 (intoR want)]) tOK [b] (by simp) rfl (by simp) (by simp [allL_app]) (fun k hk => ?_) ?_
  · have : k = 0 := by simpa using hk
    subst this
    have := Store.at_some hb
    simp [nth, this, renL_app]
  · refine R_sized0 hpre hq d0 d1 fun b1 b2 g' l' h1 h2 => ?_
    have hb2 := hb
    rw [← List.map_append] at hb2
    have := fin_sized (R := R) (σ := σ) (b := b) (k := 3) (g := g) (g' := g') (cs := pre ++ l) (rest := [b1, b2, some (.cells 3 g' (l'.map i64))]) (rdy := (sizePl dl ⟨rdy, l, wt, ut⟩ want).ready) (wt := wt) (ut := 0) (l := l') (ty := 3) hb2 (by omega) rfl (h l' h1 h2)
    rw [List.map_append] at this
    exact this
set_option maxHeartbeats 4000000 in
theorem R_pstep {c : ConfV} {p : PlantV} {want demand : Int} (hp : okPl p) (d0 : 0 ≤ c.delay) (d1 : c.delay ≤ 1000) (c0 : 0 ≤ c.cap) (c1 : c.cap ≤ 1000000000)
    (h : R (.ret (.tup [ePlant (stepPl c p want demand).1, eMark (stepPl c p want demand).2])) σ) : C tE 48 [eConf c, ePlant p, i64 want, i64 demand] σ R := by
  rw [stepPl_eq] at h
  refine C_pure tOK (by simp) ?_
  refine s_body' Tryz.func48 tOK rfl (by conv => lhs; simp) (by conv => lhs; simp) (by conv => lhs; simp [Fr.args]) rfl (by conv => lhs; try simp) fun R9 hR9 => ?_
  have hq := hp.come
  have hz := (okPl.sized hq (w := want) d0 d1).1
  have iw : min (max want 0) 1000 = intoR want := by unfold intoR; omega
  refine j4 (fun fr σ => fr = [(3, i64 demand), (4, .ptr 0 0 0 []), (8, .ptr 1 0 0 []), (9, .ptr 2 0 0 []), (10, .ptr 3 0 0 [])] ∧ ∃ l', l'.length ≤ 1000 ∧ trimZ l' = trimZ (sizePl c.delay (comePl p) want).start ∧
    σ = [some (.cells 26 0 [eConf c]), some (.cells 37 0 [.agg 37 [i64 0, .nils, i64 0, i64 0]]), some (.cells 71 0 [.agg 71 [i64 0, .bool false]]), some (.cells 37 0 [.agg 37 [i64 (sizePl c.delay (comePl p) want).ready, .lit (l'.map i64), i64 (sizePl c.delay (comePl p) want).wait, i64 0]])]) ?_ fun yJ key => ?_
  · rintro _ _ ⟨rfl, l', ll, lt, rfl⟩
    generalize sizePl c.delay (comePl p) want = q at *
    clear hq hp iw
    obtain ⟨rdy, l, wt, ut⟩ := q
    obtain ⟨r0, s0, al, ln⟩ := hz
    have hl0 := sum_nonneg s0
    simp only [allPl] at r0 s0 al ln hl0 lt ⊢
    have q1 : -1000000000 ≤ addF wt (max 0 (min demand 1000000)) ∧ addF wt (max 0 (min demand 1000000)) ≤ 1000000000 := ⟨satF_lo _, satF_hi _⟩
    have hmul : 0 ≤ rdy * c.cap ∧ rdy * c.cap ≤ 1000000000000 := ⟨Int.mul_nonneg r0 c0, Int.le_trans (Int.mul_le_mul (show rdy ≤ 1000 by omega) c1 c0 (by omega)) (by decide)⟩
    have q2 : min (rdy * c.cap) 1000000000 = satF (rdy * c.cap) := by unfold satF; omega
    have q3 : min (max demand 0) 1000000 = max 0 (min demand 1000000) := by omega
    have q4 : -1000000000 ≤ satF (rdy * c.cap) ∧ satF (rdy * c.cap) ≤ 1000000000 := ⟨satF_lo _, satF_hi _⟩
    have F9 := And.intro @q2 <| @q3
    repeat' (first | refine gf ?_ | refine s_seq fun y9 hy9 => ?_ | refine qT _ ?_ ?_ | refine qG _ ?_ ?_ | refine qN ?_ ?_ | (refine QB.mk fun hb9 => ?_; (try simp only [hb9]); (try simp at hb9); first | (exfalso; omega) | subst hb9 | skip) | refine sD tOK tmix [([],3),([0],4),([],0),([],5),([3],6),([2,3,4],1),([],7),([6],8),([0,1,2,3,4,5,6,7],9),([],2),([0,1,2,3,4,5,6,7,8,9],10)] 10 ?_ | refine sD tOK tmix [([],0),([0],1),([],2),([2],3),([2,3],4),([2,3,4],5),([0,1,2,3,4,5],6),([0,1,2,3,4,5,6],7),([0,1,2,3,4,5,6,7],8)] 6 ?_ | refine sD tOK tmix [([],0),([],1),([1],2),([],3),([3],4),([],5),([5],6),([3,4,5,6],7),([1,2,3,4,5,6,7],8),([0,1,2],9),([0,1,2,3,4,5,6,7,8,9],10)] 10 ?_ | refine qD _ ?_ ?_ | (refine nZ ?_; first | refine R_add ?_ | refine R_div ?_) | (apply d_call []; exact rfl; (solve | (conv => lhs; try simp [q2,q3])); (solve | exact rfl | simp); (solve | (conv => lhs; try simp [q2,q3])); intro τ hτ; refine nZ ?_; first | exact R_add ⟨rfl, rfl⟩ | exact R_div ⟨rfl, rfl⟩))
    obtain ⟨w3, hw3⟩ : ∃ w3, max (addF wt (max 0 (min demand 1000000)) - satF (rdy * c.cap)) 0 = w3 := ⟨_, rfl⟩
    have hw4 : (finPl c ⟨rdy, l, wt, ut⟩ demand).1.wait = w3 := by rw [← hw3]; simp only [finPl]; omega
    have hu4 : (finPl c ⟨rdy, l, wt, ut⟩ demand).1.util = divF (addF wt (max 0 (min demand 1000000))) (satF (rdy * c.cap)) := rfl
    obtain ⟨u3, hu3⟩ : ∃ u3, divF (addF wt (max 0 (min demand 1000000))) (satF (rdy * c.cap)) = u3 := ⟨_, rfl⟩
    rw [hu3] at hu4
    rw [hw3, hu3]
    have hb4 : (finPl c ⟨rdy, l, wt, ut⟩ demand).2.bad = decide (w3 > c.slack) := by rw [← hw4]; rfl
    have hs4 : (finPl c ⟨rdy, l, wt, ut⟩ demand).1.start = trimZ l := rfl
    have hr4 : (finPl c ⟨rdy, l, wt, ut⟩ demand).1.ready = rdy := rfl
    have hc4 : (finPl c ⟨rdy, l, wt, ut⟩ demand).2.cost = rdy + l.sum := by show rdy + (trimZ l).sum = _; rw [trimZ_sum]
    have ls : l'.sum = l.sum := by rw [← trimZ_sum l', lt, trimZ_sum]
    have hb9' : ∀ n ∈ trimZ l, -1000000000 ≤ n ∧ n ≤ 1000000000 := fun n hn => by
      have h1 := s0 n (trimZ_mem hn); have h2 := sum_ge s0 n (trimZ_mem hn); omega
    clear hw3 hu3 q1 q2 q3 q4 hmul
    have hfin : finPl c ⟨rdy, l, wt, ut⟩ demand = (⟨rdy, trimZ l, w3, u3⟩, ⟨rdy + l.sum, decide (w3 > c.slack)⟩) := by
      rw [← hw4, ← hu4, ← hc4, hw4, ← hb4, ← hw4]; rfl
    rw [hfin] at h
    clear hw4 hu4 hb4 hs4 hr4 hc4 hfin
    refine s_loop fun c9 hc9 => ?_
    refine w_trim 4 [4, 8, 9, 10] (by conv => lhs; simp) (by conv => lhs; simp) (by first | rfl | simp) (by first | rfl | simp) ?_
    refine s_loopn (l'.length) (fun j fr σ => fr = [(4, .ptr 0 0 0 []), (8, .ptr 1 0 0 []), (9, .ptr 2 0 0 []), (10, .ptr 3 0 0 [])] ∧ σ = [some (.cells 26 0 [eConf c]), some (.cells 37 0 [.agg 37 [i64 0, .nils, i64 0, i64 0]]), some (.cells 71 0 [.agg 71 [i64 0, .bool false]]), some (.cells 37 0 [.agg 37 [i64 rdy, .lit ((l'.take (l'.length - j)).map i64), i64 w3, i64 u3]])] ∧ trimZ (l'.take (l'.length - j)) = trimZ l) ?_ ⟨by simp [lt], by first | rfl | simp [lt], by first | (intros; omega) | simp [lt]⟩
    rintro j fr σ hj ⟨rfl, rfl, hS⟩ ih
    refine s_round hc9 ?_
    obtain ⟨r, hr⟩ : ∃ r, l'.length - j = r := ⟨_, rfl⟩
    have hrl : r ≤ l'.length := by omega
    cases r with
    | zero =>
      rw [hr] at hS ⊢
      have ht : trimZ l = [] := by rw [← hS]; rfl
      have nmr : numPl ⟨rdy, [], w3, u3⟩ := ⟨by simp only; omega, by simp only; omega, by simp, by simp⟩
      repeat' (first | refine go ?_ | refine s_seq fun y9 hy9 => ?_ | refine qT _ ?_ ?_ | refine qG _ ?_ ?_ | refine qN ?_ ?_ | (refine QB.mk fun hb9 => ?_; (try simp only [hb9]); (try simp at hb9); first | (exfalso; omega) | subst hb9 | skip) | refine sD tOK tmix [([],3),([0],4),([],0),([],5),([3],6),([2,3,4],1),([],7),([6],8),([0,1,2,3,4,5,6,7],9),([],2),([0,1,2,3,4,5,6,7,8,9],10)] 10 ?_ | refine sD tOK tmix [([],0),([0],1),([],2),([2],3),([2,3],4),([2,3,4],5),([0,1,2,3,4,5],6),([0,1,2,3,4,5,6],7),([0,1,2,3,4,5,6,7],8)] 6 ?_ | refine sD tOK tmix [([],0),([],1),([1],2),([],3),([3],4),([],5),([5],6),([3,4,5,6],7),([1,2,3,4,5,6,7],8),([0,1,2],9),([0,1,2,3,4,5,6,7,8,9],10)] 10 ?_ | refine qD _ ?_ ?_ | (refine nZ ?_; refine (R_all nmr) ?_) | (apply d_call []; exact rfl; (solve | (conv => lhs; try simp)); (solve | exact rfl | simp); (solve | (conv => lhs; try simp)); intro τ hτ; refine nZ ?_; first | exact (R_all nmr) ⟨rfl, rfl⟩))
      have hs0 : l.sum = 0 := by rw [← trimZ_sum, ht]; rfl
      all_goals exact fin_v h (by simp [ht, hs0, allPl])
    | succ k =>
      have hq : l'[k]? = some (gt l' k) := gq (by omega)
      obtain ⟨x, hxx⟩ : ∃ x, gt l' k = x := ⟨_, rfl⟩
      rw [hxx] at hq
      have htk : l'.take (k + 1) = l'.take k ++ [x] := by rw [List.take_add_one, hq]; rfl
      have htt : (l'.take (k + 1)).take k = l'.take k := by rw [List.take_take]; congr 1; omega
      have hlk : (l'.take (k + 1)).length = k + 1 := by simp; omega
      have hqk : (l'.take (k + 1))[k]? = some x := by rw [List.getElem?_take]; simp [hq]
      rw [hr] at hS ⊢
      obtain ⟨L, hL⟩ : ∃ L, l'.take (k + 1) = L := ⟨_, rfl⟩
      rw [hL] at hlk hS htk htt hqk ⊢
      have hwl : (L.map i64)[k]? = some (i64 x) := by simp [hqk]
      have hrr : ∀ h, (L.map i64)[k]'h = i64 x := fun h => by
        rw [List.getElem?_eq_getElem h] at hwl; exact Option.some.inj hwl
      have hr2 : ∀ h, L[k]'h = x := fun h => by
        rw [List.getElem?_eq_getElem h] at hqk; exact Option.some.inj hqk
      have hst : (L.map i64).take k = (l'.take k).map i64 := by rw [← htt, List.map_take]
      rcases Int.decEq x 0 with hx0 | hx0
      · have ht : trimZ l = L := by rw [← hS, htk, trimZ_snoc, if_neg hx0]
        have hx1 := hb9' x (by rw [ht, htk]; simp)
        have nmr : numPl ⟨rdy, L, w3, u3⟩ := ⟨by simp only; omega, by simp only; omega, by simp only [hlk]; omega, fun n hn => hb9' n (by rw [ht]; exact hn)⟩
        have hs0 : l.sum = L.sum := by rw [← trimZ_sum, ht]
        have F9 := And.intro @hwl <| And.intro @hrr <| And.intro @hr2 <| And.intro @hqk <| @hlk
        repeat' (first | refine gf ?_ | refine s_seq fun y9 hy9 => ?_ | refine qT _ ?_ ?_ | refine qG _ ?_ ?_ | refine qN ?_ ?_ | (refine QB.mk fun hb9 => ?_; (try simp only [hb9]); (try simp at hb9); first | (exfalso; omega) | subst hb9 | skip) | refine sD tOK tmix [([],3),([0],4),([],0),([],5),([3],6),([2,3,4],1),([],7),([6],8),([0,1,2,3,4,5,6,7],9),([],2),([0,1,2,3,4,5,6,7,8,9],10)] 10 ?_ | refine sD tOK tmix [([],0),([0],1),([],2),([2],3),([2,3],4),([2,3,4],5),([0,1,2,3,4,5],6),([0,1,2,3,4,5,6],7),([0,1,2,3,4,5,6,7],8)] 6 ?_ | refine sD tOK tmix [([],0),([],1),([1],2),([],3),([3],4),([],5),([5],6),([3,4,5,6],7),([1,2,3,4,5,6,7],8),([0,1,2],9),([0,1,2,3,4,5,6,7,8,9],10)] 10 ?_ | refine qD _ ?_ ?_ | (refine nZ ?_; refine (R_all nmr) ?_) | (apply d_call []; exact rfl; (solve | (conv => lhs; try simp [hwl,hrr,hr2,hqk,hlk])); (solve | exact rfl | simp); (solve | (conv => lhs; try simp [hwl,hrr,hr2,hqk,hlk])); intro τ hτ; refine nZ ?_; first | exact (R_all nmr) ⟨rfl, rfl⟩))
        all_goals exact fin_v h (by simp [ht, hs0, allPl])
      · subst hx0
        have F9 := And.intro @hwl <| And.intro @hrr <| And.intro @hr2 <| And.intro @hqk <| And.intro @hlk <| @hst
        repeat' (first | refine gf ?_ | refine s_seq fun y9 hy9 => ?_ | refine qT _ ?_ ?_ | refine qG _ ?_ ?_ | refine qN ?_ ?_ | (refine QB.mk fun hb9 => ?_; (try simp only [hb9]); (try simp at hb9); first | (exfalso; omega) | subst hb9 | skip) | refine sD tOK tmix [([],3),([0],4),([],0),([],5),([3],6),([2,3,4],1),([],7),([6],8),([0,1,2,3,4,5,6,7],9),([],2),([0,1,2,3,4,5,6,7,8,9],10)] 10 ?_ | refine sD tOK tmix [([],0),([0],1),([],2),([2],3),([2,3],4),([2,3,4],5),([0,1,2,3,4,5],6),([0,1,2,3,4,5,6],7),([0,1,2,3,4,5,6,7],8)] 6 ?_ | refine sD tOK tmix [([],0),([],1),([1],2),([],3),([3],4),([],5),([5],6),([3,4,5,6],7),([1,2,3,4,5,6,7],8),([0,1,2],9),([0,1,2,3,4,5,6,7,8,9],10)] 10 ?_ | refine qD _ ?_ ?_)
        refine w_back 4 [4, 8, 9, 10] (by conv => lhs; simp) (by conv => lhs; simp) (by first | rfl | simp) (by first | rfl | simp) ?_
        have hk1 : l'.length - (j + 1) = k := by omega
        exact ih (by omega) _ _ ⟨rfl, by simp [hk1], by rw [hk1, ← hS, htk, trimZ_snoc, if_pos rfl]⟩
  obtain ⟨rdy, st, wt, ut⟩ := p
  obtain ⟨r0, s0, al, ln⟩ := hp
  simp only [allPl] at r0 s0 al ln
  have mm := mf_i64 st
  clear h hz
  cases st with
  | nil =>
    have hu := sized_u c.delay rdy wt 0 ut want []
    have hw := (sized_u c.delay rdy wt ut ut want []).2.2
    rw [show comePl ⟨rdy, [], wt, ut⟩ = ⟨rdy, [], wt, ut⟩ from rfl, hw, ← hu.1, ← hu.2.1] at key
    have F9 := @iw
    repeat' (first | refine gf ?_ | refine s_seq fun y9 hy9 => ?_ | refine qT _ ?_ ?_ | refine qG _ ?_ ?_ | refine qN ?_ ?_ | (refine QB.mk fun hb9 => ?_; (try simp only [hb9]); (try simp at hb9); first | (exfalso; omega) | subst hb9 | skip) | refine sD tOK tmix [([],3),([0],4),([],0),([],5),([3],6),([2,3,4],1),([],7),([6],8),([0,1,2,3,4,5,6,7],9),([],2),([0,1,2,3,4,5,6,7,8,9],10)] 10 ?_ | refine sD tOK tmix [([],0),([0],1),([],2),([2],3),([2,3],4),([2,3,4],5),([0,1,2,3,4,5],6),([0,1,2,3,4,5,6],7),([0,1,2,3,4,5,6,7],8)] 6 ?_ | refine sD tOK tmix [([],0),([],1),([1],2),([],3),([3],4),([],5),([5],6),([3,4,5,6],7),([1,2,3,4,5,6,7],8),([0,1,2],9),([0,1,2,3,4,5,6,7,8,9],10)] 10 ?_ | refine qD _ ?_ ?_)
    refine R_sized [] [] (by simp) ⟨r0, s0, by simp only [allPl]; omega, ln⟩ d0 d1 rfl fun l' h1 h2 => ?_
    repeat' (first | refine go ?_ | refine s_seq fun y9 hy9 => ?_ | refine qT _ ?_ ?_ | refine qG _ ?_ ?_ | refine qN ?_ ?_ | (refine QB.mk fun hb9 => ?_; (try simp only [hb9]); (try simp at hb9); first | (exfalso; omega) | subst hb9 | skip) | refine sD tOK tmix [([],3),([0],4),([],0),([],5),([3],6),([2,3,4],1),([],7),([6],8),([0,1,2,3,4,5,6,7],9),([],2),([0,1,2,3,4,5,6,7,8,9],10)] 10 ?_ | refine sD tOK tmix [([],0),([0],1),([],2),([2],3),([2,3],4),([2,3,4],5),([0,1,2,3,4,5],6),([0,1,2,3,4,5,6],7),([0,1,2,3,4,5,6,7],8)] 6 ?_ | refine sD tOK tmix [([],0),([],1),([1],2),([],3),([3],4),([],5),([5],6),([3,4,5,6],7),([1,2,3,4,5,6,7],8),([0,1,2],9),([0,1,2,3,4,5,6,7,8,9],10)] 10 ?_ | refine qD _ ?_ ?_)
    refine t_join tOK _ _ [0, 2, 3, 6] [3, 4, 8, 9, 10] (key.down _ _ ⟨rfl, l', h1, h2, rfl⟩) (by decide) (by rfl) (by simp [Fr.keep, nth]) (by simp) (by simp) (by simp [nth])
  | cons x xs =>
    have hu := sized_u c.delay (rdy + x) wt 0 ut want xs
    have hw := (sized_u c.delay (rdy + x) wt ut ut want xs).2.2
    rw [show comePl ⟨rdy, x :: xs, wt, ut⟩ = ⟨rdy + x, xs, wt, ut⟩ from rfl, hw, ← hu.1, ← hu.2.1] at key
    have hx := s0 x (by simp)
    have hxs := sum_nonneg fun n hn => s0 n (List.mem_cons_of_mem _ hn)
    simp only [List.sum_cons] at al
    simp only [List.length_cons] at ln
    have F9 := @iw
    repeat' (first | refine gf ?_ | refine s_seq fun y9 hy9 => ?_ | refine qT _ ?_ ?_ | refine qG _ ?_ ?_ | refine qN ?_ ?_ | (refine QB.mk fun hb9 => ?_; (try simp only [hb9]); (try simp at hb9); first | (exfalso; omega) | subst hb9 | skip) | refine sD tOK tmix [([],3),([0],4),([],0),([],5),([3],6),([2,3,4],1),([],7),([6],8),([0,1,2,3,4,5,6,7],9),([],2),([0,1,2,3,4,5,6,7,8,9],10)] 10 ?_ | refine sD tOK tmix [([],0),([0],1),([],2),([2],3),([2,3],4),([2,3,4],5),([0,1,2,3,4,5],6),([0,1,2,3,4,5,6],7),([0,1,2,3,4,5,6,7],8)] 6 ?_ | refine sD tOK tmix [([],0),([],1),([1],2),([],3),([3],4),([],5),([5],6),([3,4,5,6],7),([1,2,3,4,5,6,7],8),([0,1,2],9),([0,1,2,3,4,5,6,7,8,9],10)] 10 ?_ | refine qD _ ?_ ?_)
    refine R_sized xs [x] (by simp) ⟨by simp only; omega, fun n hn => s0 n (List.mem_cons_of_mem _ hn), by simp only [allPl]; omega, by simp only; omega⟩ d0 d1 rfl fun l' h1 h2 => ?_
    repeat' (first | refine go ?_ | refine s_seq fun y9 hy9 => ?_ | refine qT _ ?_ ?_ | refine qG _ ?_ ?_ | refine qN ?_ ?_ | (refine QB.mk fun hb9 => ?_; (try simp only [hb9]); (try simp at hb9); first | (exfalso; omega) | subst hb9 | skip) | refine sD tOK tmix [([],3),([0],4),([],0),([],5),([3],6),([2,3,4],1),([],7),([6],8),([0,1,2,3,4,5,6,7],9),([],2),([0,1,2,3,4,5,6,7,8,9],10)] 10 ?_ | refine sD tOK tmix [([],0),([0],1),([],2),([2],3),([2,3],4),([2,3,4],5),([0,1,2,3,4,5],6),([0,1,2,3,4,5,6],7),([0,1,2,3,4,5,6,7],8)] 6 ?_ | refine sD tOK tmix [([],0),([],1),([1],2),([],3),([3],4),([],5),([5],6),([3,4,5,6],7),([1,2,3,4,5,6,7],8),([0,1,2],9),([0,1,2,3,4,5,6,7,8,9],10)] 10 ?_ | refine qD _ ?_ ?_)
    refine t_join tOK _ _ [0, 2, 3, 6] [3, 4, 8, 9, 10] (key.down _ _ ⟨rfl, l', h1, h2, rfl⟩) (by decide) (by rfl) (by simp [Fr.keep, nth]) (by simp) (by simp) (by simp [nth])
end
end Go.Proofs.YtncbfppafgjdiaaGreat
end
section
/- What may be: the document. -/
set_option linter.unusedVariables false
set_option linter.unusedSimpArgs false
set_option maxRecDepth 20000
namespace Go.Proofs.YtncbfppafgjdiaaGreat
open Go
attribute [local irreducible] T TL C RG DP SP YR afterRG DPcall
theorem wth_t {n a b : Int} (h : wth n a b = true) : a ≤ n ∧ n ≤ b := by simpa [wth] using h
theorem wth_f {n a b : Int} (h : wth n a b = false) : ¬ (a ≤ n ∧ n ≤ b) := by intro h1; simp [wth, h1] at h
/-- Nothing of what is not a kind's own. -/
def noneP (p : PolV) (a b c d : Bool) : Bool := (!a || decide (p.target = 0)) && (!b || noB p) && (!c || noK p) && (!d || noS p)
theorem pair_iff {α : Type} [Inhabited α] (f : α → Int) (l : List α) : l.Pairwise (fun a b => f a < f b) ↔ ∀ k, 0 < k → k < l.length → f (gt l (k - 1)) < f (gt l k) := by
  have hg : ∀ k (h : k < l.length), l[k] = gt l k := fun k h => by simp [gt, h]
  rw [List.pairwise_iff_getElem]
  constructor
  · intro h k h0 hk
    have := h (k - 1) k (by omega) hk (by omega)
    rwa [hg, hg] at this
  · intro h i j hi hj hij
    rw [hg, hg]
    induction j with
    | zero => omega
    | succ j ih =>
      have h1 := h (j + 1) (by omega) hj
      rw [Nat.add_sub_cancel] at h1
      rcases Nat.lt_or_ge i j with h2 | h2
      · exact Int.lt_trans (ih (by omega) h2) h1
      · have : i = j := by omega
        subst this; exact h1
theorem all_gt {α : Type} [Inhabited α] (l : List α) (q : α → Bool) : l.all q = true ↔ ∀ k, k < l.length → q (gt l k) = true := by
  have hg : ∀ k (h : k < l.length), l[k] = gt l k := fun k h => by simp [gt, h]
  rw [List.all_eq_true]
  constructor
  · intro h k hk; rw [← hg k hk]; exact h _ (List.getElem_mem hk)
  · intro h x hx
    obtain ⟨k, hk, rfl⟩ := List.getElem_of_mem hx
    rw [hg]; exact h k hk
/-- A band that may stand at its place. -/
def stepB (l : List BandV) (k : Nat) : Prop := 0 ≤ (gt l k).above ∧ (gt l k).above ≤ 1000000000 ∧ (0 < k → (gt l (k - 1)).above < (gt l k).above) ∧ -1000 ≤ (gt l k).delta ∧ (gt l k).delta ≤ 1000
theorem stepB_iff (l : List BandV) : (risingB l && l.all fun b => wth b.delta (-1000) 1000) = true ↔ ∀ k, k < l.length → stepB l k := by
  unfold risingB
  simp only [Bool.and_eq_true, decide_eq_true_eq, pair_iff, all_gt, wth]
  constructor
  · rintro ⟨⟨h1, h2⟩, h3⟩ k hk
    exact ⟨(h1 k hk).1, (h1 k hk).2, fun h0 => h2 k h0 hk, (h3 k hk).1, (h3 k hk).2⟩
  · intro h
    exact ⟨⟨fun k hk => ⟨(h k hk).1, (h k hk).2.1⟩, fun k h0 hk => (h k hk).2.2.1 h0⟩, fun k hk => (h k hk).2.2.2⟩
theorem stepB_no {l : List BandV} {j : Nat} (hj : j < l.length) (h : ¬ stepB l j) : (risingB l && l.all fun b => wth b.delta (-1000) 1000) = false := by
  rw [Bool.eq_false_iff]; intro h1; exact h ((stepB_iff l).1 h1 j hj)
/-- A slot that may stand at its place. -/
def slotS (l : List SlotV) (most : Int) (k : Nat) : Prop := 0 ≤ (gt l k).from_ ∧ (gt l k).from_ ≤ most ∧ (0 < k → (gt l (k - 1)).from_ < (gt l k).from_) ∧ 0 ≤ (gt l k).n ∧ (gt l k).n ≤ 1000
theorem slotS_iff (l : List SlotV) (m : Int) : (risingS l m && l.all fun b => wth b.n 0 1000) = true ↔ ∀ k, k < l.length → slotS l m k := by
  unfold risingS
  simp only [Bool.and_eq_true, decide_eq_true_eq, pair_iff, all_gt, wth]
  constructor
  · rintro ⟨⟨h1, h2⟩, h3⟩ k hk
    exact ⟨(h1 k hk).1, (h1 k hk).2, fun h0 => h2 k h0 hk, (h3 k hk).1, (h3 k hk).2⟩
  · intro h
    exact ⟨⟨fun k hk => ⟨(h k hk).1, (h k hk).2.1⟩, fun k h0 hk => (h k hk).2.2.1 h0⟩, fun k hk => (h k hk).2.2.2⟩
theorem slotS_no {l : List SlotV} {m : Int} {j : Nat} (hj : j < l.length) (h : ¬ slotS l m j) : (risingS l m && l.all fun b => wth b.n 0 1000) = false := by
  rw [Bool.eq_false_iff]; intro h1; exact h ((slotS_iff l m).1 h1 j hj)
section
variable {R : Re → Store → Prop} {σ : Store}
theorem wth_b (n a b : Int) : wth n a b = decide (a ≤ n ∧ n ≤ b) := by simp [wth]
theorem R_within {n a b : Int} (h : R (.ret (.bool (decide (a ≤ n ∧ n ≤ b)))) σ) : C tE 45 [i64 n, i64 a, i64 b] σ R := by
  refine s_body' Tryz.func45 tOK rfl (by conv => lhs; simp) (by conv => lhs; simp) (by conv => lhs; simp [Fr.args]) rfl (by conv => lhs; try simp) fun R9 hR9 => ?_
  repeat' (first | refine go ?_ | refine s_seq fun y9 hy9 => ?_ | refine qT _ ?_ ?_ | refine qG _ ?_ ?_ | refine qN ?_ ?_ | (refine QB.mk fun hb9 => ?_; (try simp only [hb9]); (try simp at hb9); first | (exfalso; omega) | subst hb9 | skip))
  · exact fin_b h (by simp [hb9])
  · exact fin_b h (by simp; omega)
theorem len_emp {α : Type} (l : List α) : (((l.length : Nat) : Int) == 0) = l.isEmpty := by
  cases l with
  | nil => rfl
  | cons x l => simp; omega
theorem R_none {p : PolV} {a b c d : Bool} (hl : lenP p) (h : R (.ret (.bool (noneP p a b c d))) σ) : C tE 69 [ePol p, .bool a, .bool b, .bool c, .bool d] σ R := by
  obtain ⟨l1, l2⟩ := hl
  refine C_pure tOK (by simp) ?_
  refine s_body' Tryz.func69 tOK rfl (by conv => lhs; simp) (by conv => lhs; simp) (by conv => lhs; simp [Fr.args]) rfl (by conv => lhs; try simp) fun R9 hR9 => ?_
  repeat' (first | refine go ?_ | refine s_seq fun y9 hy9 => ?_ | refine qT _ ?_ ?_ | refine qG _ ?_ ?_ | refine qN ?_ ?_ | (refine QB.mk fun hb9 => ?_; (try simp only [hb9]); (try simp at hb9); first | (exfalso; omega) | subst hb9 | skip))
  all_goals (refine fin_b h ?_; clear h; simp [noneP, noB, noK, noS, len_emp, *])
theorem R_bands {l : List BandV} (hl : l.length ≤ 10000) (h : R (.ret (.bool (risingB l && (l.all fun b => wth b.delta (-1000) 1000) && wth l.length 1 8))) σ) : C tE 70 [.lit (l.map eBand)] σ R := by
  refine C_pure tOK (by simp) ?_
  refine s_body' Tryz.func70 tOK rfl (by conv => lhs; simp) (by conv => lhs; simp) (by conv => lhs; simp [Fr.args]) rfl (by conv => lhs; try simp) fun R9 hR9 => ?_
  repeat' (first | refine go ?_ | refine s_seq fun y9 hy9 => ?_ | refine qT _ ?_ ?_ | refine qG _ ?_ ?_ | refine qN ?_ ?_ | (refine QB.mk fun hb9 => ?_; (try simp only [hb9]); (try simp at hb9); first | (exfalso; omega) | subst hb9 | skip) | refine sD tOK tmix [([],0),([],1),([0,1],2),([0,1,2],3),([0,1,2,3],4),([0,1,2,3,4],5),([0,1,2,3,4,5],6),([0,1,2,3,4,5,6],7),([0,1,2,3,4,5,6,7],8),([0,1,2,3,4,5,6,7,8],9),([0,1,2,3,4,5,6,7,8,9],10),([0,1,2,3,4,5,6,7,8,9,10],11),([0,1,2,3,4,5,6,7,8,9,10],12),([0,1,2,3,4,5,6,7,8,9,10,11,12],13),([0,1,2,3,4,5,6,7,8,9,10,11,12,13],14),([0,1,2,3,4,5,6,7,8,9,10,11,12,13,14],15),([0,1,2,3,4,5,6,7,8,9,10],16),([0,1,2,3,4,5,6,7,8,9,10],17),([0,1,2,3,4,5,6,7,8,9,10,17],18),([0,1,2,3,4,5,6,7,8,9,10,16,17,18],19),([0,1,2,3,4,5,6,7,8,9,10,16,17,18,19],20),([0,1,2,3,4,5,6,7,8,9,10,16,17,18,19,20],21),([0,1,2,3,4,5,6,7,8,9,10,11,12,13,14,15,16,17,18,19,20,21],22),([0,1,2,3,4,5,6,7,8,9,10,11,12,13,14,15,16,17,18,19,20,21,22],23),([0,1,2,3,4,5,6,7,8,9,10,11,12,13,14,15,16,17,18,19,20,21,22,23],24),([0,1,2,3,4,5,6,7,8,9,10,11,12,13,14,15,16,17,18,19,20,21,22,23,24],25),([0,1,2,3,4,5,6,7,8,9,10,11,12,13,14,15,16,17,18,19,20,21,22,23,24,25],26),([0,1,2,3,4,5,6,7,8,9,10,11,12,13,14,15,16,17,18,19,20,21,22,23,24,25],27),([0,1,2,3,4,5,6,7,8,9,10,11,12,13,14,15,16,17,18,19,20,21,22,23,24,25,26,27],28),([0,1,2,3,4,5,6,7,8,9,10,11,12,13,14,15,16,17,18,19,20,21,22,23,24,25,26,27,28],29),([0,1,2,3,4,5,6,7,8,9,10,11,12,13,14,15,16,17,18,19,20,21,22,23,24,25,26,27,28,29],30),([0,1,2,3,4,5,6,7,8,9,10,11,12,13,14,15,16,17,18,19,20,21,22,23,24,25,26,27,28,29,30],31),([0,1,2,3,4,5,6,7,8,9,10,11,12,13,14,15,16,17,18,19,20,21,22,23,24,25,26,27,28,29,30,31],32),([0,1,2,3,4,5,6,7,8,9,10,11,12,13,14,15,16,17,18,19,20,21,22,23,24,25,26,27,28,29,30,31,32],33)] 28 ?_ | refine qD _ ?_ ?_)
  refine s_loop fun c9 hc9 => ?_
  refine w_trim 0 [0, 3] (by conv => lhs; simp) (by conv => lhs; simp) (by first | rfl | simp) (by first | rfl | simp) ?_
  refine s_loopn (l.length) (fun j fr σ => fr = [(0, .lit (l.map eBand)), (3, i64 j)] ∧ σ = [] ∧ ∀ k, k < j → stepB l k) ?_ ⟨by simp, by first | rfl | simp, by first | (intros; omega) | simp⟩
  rintro j fr σ hj ⟨rfl, rfl, hS⟩ ih
  refine s_round hc9 ?_
  have bad : ¬ (0 ≤ (gt l j).above ∧ (gt l j).above ≤ 1000000000 ∧ (0 < j → (gt l (j - 1)).above < (gt l j).above) ∧ -1000 ≤ (gt l j).delta ∧ (gt l j).delta ≤ 1000) → j < l.length → R (.ret (.bool false)) σ := fun h1 h2 => fin_b h (by rw [stepB_no h2 h1]; rfl)
  have good : j = l.length → (risingB l && l.all fun b => wth b.delta (-1000) 1000) = true := fun h1 => (stepB_iff l).2 (h1 ▸ hS)
  have next : (0 ≤ (gt l j).above ∧ (gt l j).above ≤ 1000000000 ∧ (0 < j → (gt l (j - 1)).above < (gt l j).above) ∧ -1000 ≤ (gt l j).delta ∧ (gt l j).delta ≤ 1000) → ∀ k, k < j + 1 → stepB l k := fun h1 k hk => by
    rcases Nat.lt_or_ge k j with h2 | h2
    · exact hS k h2
    · have : k = j := by omega
      subst this; exact h1
  have ex : ((j : Int) - 1).toNat = j - 1 := by omega
  have F9 := @ex
  repeat' (first | refine gf ?_ | refine s_seq fun y9 hy9 => ?_ | refine qT _ ?_ ?_ | refine qG _ ?_ ?_ | refine qN ?_ ?_ | (refine QB.mk fun hb9 => ?_; (try simp only [hb9]); (try simp at hb9); first | (exfalso; omega) | subst hb9 | skip) | refine sD tOK tmix [([],0),([],1),([0,1],2),([0,1,2],3),([0,1,2,3],4),([0,1,2,3,4],5),([0,1,2,3,4,5],6),([0,1,2,3,4,5,6],7),([0,1,2,3,4,5,6,7],8),([0,1,2,3,4,5,6,7,8],9),([0,1,2,3,4,5,6,7,8,9],10),([0,1,2,3,4,5,6,7,8,9,10],11),([0,1,2,3,4,5,6,7,8,9,10],12),([0,1,2,3,4,5,6,7,8,9,10,11,12],13),([0,1,2,3,4,5,6,7,8,9,10,11,12,13],14),([0,1,2,3,4,5,6,7,8,9,10,11,12,13,14],15),([0,1,2,3,4,5,6,7,8,9,10],16),([0,1,2,3,4,5,6,7,8,9,10],17),([0,1,2,3,4,5,6,7,8,9,10,17],18),([0,1,2,3,4,5,6,7,8,9,10,16,17,18],19),([0,1,2,3,4,5,6,7,8,9,10,16,17,18,19],20),([0,1,2,3,4,5,6,7,8,9,10,16,17,18,19,20],21),([0,1,2,3,4,5,6,7,8,9,10,11,12,13,14,15,16,17,18,19,20,21],22),([0,1,2,3,4,5,6,7,8,9,10,11,12,13,14,15,16,17,18,19,20,21,22],23),([0,1,2,3,4,5,6,7,8,9,10,11,12,13,14,15,16,17,18,19,20,21,22,23],24),([0,1,2,3,4,5,6,7,8,9,10,11,12,13,14,15,16,17,18,19,20,21,22,23,24],25),([0,1,2,3,4,5,6,7,8,9,10,11,12,13,14,15,16,17,18,19,20,21,22,23,24,25],26),([0,1,2,3,4,5,6,7,8,9,10,11,12,13,14,15,16,17,18,19,20,21,22,23,24,25],27),([0,1,2,3,4,5,6,7,8,9,10,11,12,13,14,15,16,17,18,19,20,21,22,23,24,25,26,27],28),([0,1,2,3,4,5,6,7,8,9,10,11,12,13,14,15,16,17,18,19,20,21,22,23,24,25,26,27,28],29),([0,1,2,3,4,5,6,7,8,9,10,11,12,13,14,15,16,17,18,19,20,21,22,23,24,25,26,27,28,29],30),([0,1,2,3,4,5,6,7,8,9,10,11,12,13,14,15,16,17,18,19,20,21,22,23,24,25,26,27,28,29,30],31),([0,1,2,3,4,5,6,7,8,9,10,11,12,13,14,15,16,17,18,19,20,21,22,23,24,25,26,27,28,29,30,31],32),([0,1,2,3,4,5,6,7,8,9,10,11,12,13,14,15,16,17,18,19,20,21,22,23,24,25,26,27,28,29,30,31,32],33)] 28 ?_ | refine qD _ ?_ ?_ | (refine nZ ?_; refine R_within ?_) | (apply d_call []; exact rfl; (solve | (conv => lhs; try simp [ex])); (solve | exact rfl | simp); (solve | (conv => lhs; try simp [ex])); intro τ hτ; refine nZ ?_; first | exact R_within ⟨rfl, rfl⟩))
  all_goals first
    | exact bad (by omega) (by omega)
    | exact fin_b h (by rw [good (by omega), wth_b]; simp; omega)
    | (refine w_back 0 [0, 3] (by conv => lhs; simp) (by conv => lhs; simp) (by first | rfl | simp) (by first | rfl | simp) ?_
       exact ih (by omega) _ _ ⟨by simp, rfl, next (by omega)⟩)
theorem R_slots {l : List SlotV} {m : Int} (hl : l.length ≤ 10000) (h : R (.ret (.bool (risingS l (m - 1) && (l.all fun b => wth b.n 0 1000) && wth l.length 1 8 && wth m 1 1099511627776 && decide ((l.headD ⟨0, 0⟩).from_ = 0)))) σ) : C tE 71 [.lit (l.map eSlot), i64 m] σ R := by
  refine C_pure tOK (by simp) ?_
  cases l with
  | nil =>
    refine s_body' Tryz.func71 tOK rfl (by conv => lhs; simp) (by conv => lhs; simp) (by conv => lhs; simp [Fr.args]) rfl (by conv => lhs; try simp) fun R9 hR9 => ?_
    repeat' (first | refine go ?_ | refine s_seq fun y9 hy9 => ?_ | refine qT _ ?_ ?_ | refine qG _ ?_ ?_ | refine qN ?_ ?_ | (refine QB.mk fun hb9 => ?_; (try simp only [hb9]); (try simp at hb9); first | (exfalso; omega) | subst hb9 | skip) | refine sD tOK tmix [([],0),([],1),([0,1],2),([0,1,2],3),([0,1,2,3],4),([],5),([5],6),([0,1,2,3,4,5,6],7),([0,1,2,3,4,5,6,7],8),([0,1,2,3,4,5,6,7,8],9),([0,1,2,3,4,5,6,7,8,9],10),([0,1,2,3,4,5,6,7,8,9,10],11),([0,1,2,3,4,5,6,7,8,9,10,11],12),([0,1,2,3,4,5,6,7,8,9,10,11,12],13),([0,1,2,3,4,5,6,7,8,9,10,11,12],14),([0,1,2,3,4,5,6,7,8,9,10,11,12,13,14],15),([0,1,2,3,4,5,6,7,8,9,10,11,12,13,14,15],16),([0,1,2,3,4,5,6,7,8,9,10,11,12,13,14,15,16],17),([0,1,2,3,4,5,6,7,8,9,10,11,12],18),([0,1,2,3,4,5,6,7,8,9,10,11,12],19),([0,1,2,3,4,5,6,7,8,9,10,11,12,19],20),([0,1,2,3,4,5,6,7,8,9,10,11,12,18,19,20],21),([0,1,2,3,4,5,6,7,8,9,10,11,12,18,19,20,21],22),([0,1,2,3,4,5,6,7,8,9,10,11,12,18,19,20,21,22],23),([0,1,2,3,4,5,6,7,8,9,10,11,12,13,14,15,16,17,18,19,20,21,22,23],24),([0,1,2,3,4,5,6,7,8,9,10,11,12,13,14,15,16,17,18,19,20,21,22,23,24],25),([0,1,2,3,4,5,6,7,8,9,10,11,12,13,14,15,16,17,18,19,20,21,22,23,24,25],26),([0,1,2,3,4,5,6,7,8,9,10,11,12,13,14,15,16,17,18,19,20,21,22,23,24,25,26],27),([0,1,2,3,4,5,6,7,8,9,10,11,12,13,14,15,16,17,18,19,20,21,22,23,24,25,26,27],28),([0,1,2,3,4,5,6,7,8,9,10,11,12,13,14,15,16,17,18,19,20,21,22,23,24,25,26,27],29),([0,1,2,3,4,5,6,7,8,9,10,11,12,13,14,15,16,17,18,19,20,21,22,23,24,25,26,27,28,29],30),([0,1,2,3,4,5,6,7,8,9,10,11,12,13,14,15,16,17,18,19,20,21,22,23,24,25,26,27,28,29,30],31),([0,1,2,3,4,5,6,7,8,9,10,11,12,13,14,15,16,17,18,19,20,21,22,23,24,25,26,27,28,29,30,31],32),([0,1,2,3,4,5,6,7,8,9,10,11,12,13,14,15,16,17,18,19,20,21,22,23,24,25,26,27,28,29,30,31,32],33),([0,1,2,3,4,5,6,7,8,9,10,11,12,13,14,15,16,17,18,19,20,21,22,23,24,25,26,27,28,29,30,31,32,33],34),([0,1,2,3,4,5,6,7,8,9,10,11,12,13,14,15,16,17,18,19,20,21,22,23,24,25,26,27,28,29,30,31,32,33,34],35)] 30 ?_ | refine qD _ ?_ ?_ | (refine nZ ?_; refine R_within ?_) | (apply d_call []; exact rfl; (solve | (conv => lhs; try simp)); (solve | exact rfl | simp); (solve | (conv => lhs; try simp)); intro τ hτ; refine nZ ?_; first | exact R_within ⟨rfl, rfl⟩))
    exact fin_b h (by simp [wth])
  | cons x l =>
    have hx : gt (x :: l) 0 = x := rfl
    have hh : (x :: l).headD ⟨0, 0⟩ = x := rfl
    rw [hh] at h
    have hlen : 1 ≤ (x :: l).length := by simp
    have hle : ((x :: l).length : Int) = (l.length : Int) + 1 := by simp
    refine s_body' Tryz.func71 tOK rfl (by conv => lhs; simp) (by conv => lhs; simp) (by conv => lhs; simp [Fr.args]) rfl (by conv => lhs; try simp) fun R9 hR9 => ?_
    repeat' (first | refine go ?_ | refine s_seq fun y9 hy9 => ?_ | refine qT _ ?_ ?_ | refine qG _ ?_ ?_ | refine qN ?_ ?_ | (refine QB.mk fun hb9 => ?_; (try simp only [hb9]); (try simp at hb9); first | (exfalso; omega) | subst hb9 | skip) | refine sD tOK tmix [([],0),([],1),([0,1],2),([0,1,2],3),([0,1,2,3],4),([],5),([5],6),([0,1,2,3,4,5,6],7),([0,1,2,3,4,5,6,7],8),([0,1,2,3,4,5,6,7,8],9),([0,1,2,3,4,5,6,7,8,9],10),([0,1,2,3,4,5,6,7,8,9,10],11),([0,1,2,3,4,5,6,7,8,9,10,11],12),([0,1,2,3,4,5,6,7,8,9,10,11,12],13),([0,1,2,3,4,5,6,7,8,9,10,11,12],14),([0,1,2,3,4,5,6,7,8,9,10,11,12,13,14],15),([0,1,2,3,4,5,6,7,8,9,10,11,12,13,14,15],16),([0,1,2,3,4,5,6,7,8,9,10,11,12,13,14,15,16],17),([0,1,2,3,4,5,6,7,8,9,10,11,12],18),([0,1,2,3,4,5,6,7,8,9,10,11,12],19),([0,1,2,3,4,5,6,7,8,9,10,11,12,19],20),([0,1,2,3,4,5,6,7,8,9,10,11,12,18,19,20],21),([0,1,2,3,4,5,6,7,8,9,10,11,12,18,19,20,21],22),([0,1,2,3,4,5,6,7,8,9,10,11,12,18,19,20,21,22],23),([0,1,2,3,4,5,6,7,8,9,10,11,12,13,14,15,16,17,18,19,20,21,22,23],24),([0,1,2,3,4,5,6,7,8,9,10,11,12,13,14,15,16,17,18,19,20,21,22,23,24],25),([0,1,2,3,4,5,6,7,8,9,10,11,12,13,14,15,16,17,18,19,20,21,22,23,24,25],26),([0,1,2,3,4,5,6,7,8,9,10,11,12,13,14,15,16,17,18,19,20,21,22,23,24,25,26],27),([0,1,2,3,4,5,6,7,8,9,10,11,12,13,14,15,16,17,18,19,20,21,22,23,24,25,26,27],28),([0,1,2,3,4,5,6,7,8,9,10,11,12,13,14,15,16,17,18,19,20,21,22,23,24,25,26,27],29),([0,1,2,3,4,5,6,7,8,9,10,11,12,13,14,15,16,17,18,19,20,21,22,23,24,25,26,27,28,29],30),([0,1,2,3,4,5,6,7,8,9,10,11,12,13,14,15,16,17,18,19,20,21,22,23,24,25,26,27,28,29,30],31),([0,1,2,3,4,5,6,7,8,9,10,11,12,13,14,15,16,17,18,19,20,21,22,23,24,25,26,27,28,29,30,31],32),([0,1,2,3,4,5,6,7,8,9,10,11,12,13,14,15,16,17,18,19,20,21,22,23,24,25,26,27,28,29,30,31,32],33),([0,1,2,3,4,5,6,7,8,9,10,11,12,13,14,15,16,17,18,19,20,21,22,23,24,25,26,27,28,29,30,31,32,33],34),([0,1,2,3,4,5,6,7,8,9,10,11,12,13,14,15,16,17,18,19,20,21,22,23,24,25,26,27,28,29,30,31,32,33,34],35)] 30 ?_ | refine qD _ ?_ ?_ | (refine nZ ?_; refine R_within ?_) | (apply d_call []; exact rfl; (solve | (conv => lhs; try simp)); (solve | exact rfl | simp); (solve | (conv => lhs; try simp)); intro τ hτ; refine nZ ?_; first | exact R_within ⟨rfl, rfl⟩))
    · exact fin_b h (by rw [wth_b m, decide_eq_false (by omega)]; simp)
    · refine s_loop fun c9 hc9 => ?_
      refine w_trim 0 [0, 1, 5] (fr' := [(0, .lit ((x :: l).map eSlot)), (1, i64 m), (5, i64 (0 : Nat))]) (by simp [Fr.keep]) (by conv => lhs; simp) rfl (by simp) ?_
      rw [show decide (x.from_ = 0) = decide ((gt (x :: l) 0).from_ = 0) from rfl] at h
      have hz : (gt (x :: l) 0).from_ = 0 := by rw [hx]; assumption
      have h8 : (x :: l).length ≤ 8 := by omega
      clear hle hh
      generalize x :: l = L at *
      refine s_loopn L.length (fun j fr σ => fr = [(0, .lit (L.map eSlot)), (1, i64 m), (5, i64 j)] ∧ σ = [] ∧ ∀ k, k < j → slotS L (m - 1) k) ?_ ⟨rfl, rfl, by intros; omega⟩
      rintro j fr σ hj ⟨rfl, rfl, hS⟩ ih
      refine s_round hc9 ?_
      have bad : ¬ (0 ≤ (gt L j).from_ ∧ (gt L j).from_ ≤ m - 1 ∧ (0 < j → (gt L (j - 1)).from_ < (gt L j).from_) ∧ 0 ≤ (gt L j).n ∧ (gt L j).n ≤ 1000) → j < L.length → R (.ret (.bool false)) σ := fun h1 h2 => fin_b h (by rw [slotS_no h2 h1]; rfl)
      have good : j = L.length → (risingS L (m - 1) && L.all fun b => wth b.n 0 1000) = true := fun h1 => (slotS_iff L _).2 (h1 ▸ hS)
      have next : (0 ≤ (gt L j).from_ ∧ (gt L j).from_ ≤ m - 1 ∧ (0 < j → (gt L (j - 1)).from_ < (gt L j).from_) ∧ 0 ≤ (gt L j).n ∧ (gt L j).n ≤ 1000) → ∀ k, k < j + 1 → slotS L (m - 1) k := fun h1 k hk => by
        rcases Nat.lt_or_ge k j with h2 | h2
        · exact hS k h2
        · have : k = j := by omega
          subst this; exact h1
      have ex : ((j : Int) - 1).toNat = j - 1 := by omega
      have F9 := @ex
      repeat' (first | refine gf ?_ | refine s_seq fun y9 hy9 => ?_ | refine qT _ ?_ ?_ | refine qG _ ?_ ?_ | refine qN ?_ ?_ | (refine QB.mk fun hb9 => ?_; (try simp only [hb9]); (try simp at hb9); first | (exfalso; omega) | subst hb9 | skip) | refine sD tOK tmix [([],0),([],1),([0,1],2),([0,1,2],3),([0,1,2,3],4),([],5),([5],6),([0,1,2,3,4,5,6],7),([0,1,2,3,4,5,6,7],8),([0,1,2,3,4,5,6,7,8],9),([0,1,2,3,4,5,6,7,8,9],10),([0,1,2,3,4,5,6,7,8,9,10],11),([0,1,2,3,4,5,6,7,8,9,10,11],12),([0,1,2,3,4,5,6,7,8,9,10,11,12],13),([0,1,2,3,4,5,6,7,8,9,10,11,12],14),([0,1,2,3,4,5,6,7,8,9,10,11,12,13,14],15),([0,1,2,3,4,5,6,7,8,9,10,11,12,13,14,15],16),([0,1,2,3,4,5,6,7,8,9,10,11,12,13,14,15,16],17),([0,1,2,3,4,5,6,7,8,9,10,11,12],18),([0,1,2,3,4,5,6,7,8,9,10,11,12],19),([0,1,2,3,4,5,6,7,8,9,10,11,12,19],20),([0,1,2,3,4,5,6,7,8,9,10,11,12,18,19,20],21),([0,1,2,3,4,5,6,7,8,9,10,11,12,18,19,20,21],22),([0,1,2,3,4,5,6,7,8,9,10,11,12,18,19,20,21,22],23),([0,1,2,3,4,5,6,7,8,9,10,11,12,13,14,15,16,17,18,19,20,21,22,23],24),([0,1,2,3,4,5,6,7,8,9,10,11,12,13,14,15,16,17,18,19,20,21,22,23,24],25),([0,1,2,3,4,5,6,7,8,9,10,11,12,13,14,15,16,17,18,19,20,21,22,23,24,25],26),([0,1,2,3,4,5,6,7,8,9,10,11,12,13,14,15,16,17,18,19,20,21,22,23,24,25,26],27),([0,1,2,3,4,5,6,7,8,9,10,11,12,13,14,15,16,17,18,19,20,21,22,23,24,25,26,27],28),([0,1,2,3,4,5,6,7,8,9,10,11,12,13,14,15,16,17,18,19,20,21,22,23,24,25,26,27],29),([0,1,2,3,4,5,6,7,8,9,10,11,12,13,14,15,16,17,18,19,20,21,22,23,24,25,26,27,28,29],30),([0,1,2,3,4,5,6,7,8,9,10,11,12,13,14,15,16,17,18,19,20,21,22,23,24,25,26,27,28,29,30],31),([0,1,2,3,4,5,6,7,8,9,10,11,12,13,14,15,16,17,18,19,20,21,22,23,24,25,26,27,28,29,30,31],32),([0,1,2,3,4,5,6,7,8,9,10,11,12,13,14,15,16,17,18,19,20,21,22,23,24,25,26,27,28,29,30,31,32],33),([0,1,2,3,4,5,6,7,8,9,10,11,12,13,14,15,16,17,18,19,20,21,22,23,24,25,26,27,28,29,30,31,32,33],34),([0,1,2,3,4,5,6,7,8,9,10,11,12,13,14,15,16,17,18,19,20,21,22,23,24,25,26,27,28,29,30,31,32,33,34],35)] 30 ?_ | refine qD _ ?_ ?_ | (refine nZ ?_; refine R_within ?_) | (apply d_call []; exact rfl; (solve | (conv => lhs; try simp [ex])); (solve | exact rfl | simp); (solve | (conv => lhs; try simp [ex])); intro τ hτ; refine nZ ?_; first | exact R_within ⟨rfl, rfl⟩))
      all_goals first
        | exact bad (by omega) (by omega)
        | exact fin_b h (by rw [good (by omega), wth_b, wth_b, decide_eq_true (by omega), decide_eq_true (by omega), decide_eq_true hz]; rfl)
        | (refine w_back 0 [0, 1, 5] (by conv => lhs; simp) (by conv => lhs; simp) (by first | rfl | simp) (by first | rfl | simp) ?_
           exact ih (by omega) _ _ ⟨by simp, rfl, next (by omega)⟩)
    · exact fin_b h (by rw [decide_eq_false hb9]; simp)
    · exact fin_b h (by rw [wth_b (((x :: l).length : Nat) : Int), decide_eq_false (by omega)]; simp)
theorem R_pol {p : PolV} (hl : lenP p) (h : R (.ret (.bool (okPol p))) σ) : C tE 43 [ePol p] σ R := by
  have l1 := hl.1; have l2 := hl.2
  have cb : ∀ {R : Re → Store → Prop} {σ : Store}, R (.ret (.bool _)) σ → C tE 70 [.lit (p.bands.map eBand)] σ R := fun h => R_bands l1 h
  have cs : ∀ {R : Re → Store → Prop} {σ : Store}, R (.ret (.bool _)) σ → C tE 71 [.lit (p.slots.map eSlot), i64 p.period] σ R := fun h => R_slots l2 h
  unfold okPol at h
  simp only [wth_b p.target, wth_b p.kp, wth_b p.ki, wth_b p.kd] at h
  obtain ⟨B, hB⟩ : ∃ B, (risingB p.bands && (p.bands.all fun b => wth b.delta (-1000) 1000) && wth p.bands.length 1 8) = B := ⟨_, rfl⟩
  obtain ⟨S, hS⟩ : ∃ S, (risingS p.slots (p.period - 1) && (p.slots.all fun b => wth b.n 0 1000) && wth p.slots.length 1 8 && wth p.period 1 1099511627776 && decide ((p.slots.headD ⟨0, 0⟩).from_ = 0)) = S := ⟨_, rfl⟩
  simp only [hB, hS] at cb cs h
  clear hB hS
  refine C_pure tOK (by simp) ?_
  refine s_body' Tryz.func43 tOK rfl (by conv => lhs; simp) (by conv => lhs; simp) (by conv => lhs; simp [Fr.args]) rfl (by conv => lhs; try simp) fun R9 hR9 => ?_
  repeat' (first | refine go ?_ | refine s_seq fun y9 hy9 => ?_ | refine qT _ ?_ ?_ | refine qG _ ?_ ?_ | refine qN ?_ ?_ | (refine QB.mk fun hb9 => ?_; (try simp only [hb9]); (try simp at hb9); first | (exfalso; omega) | subst hb9 | skip) | (refine nZ ?_; first | refine R_within ?_ | refine (R_none hl) ?_ | refine cb ?_ | refine cs ?_))
  all_goals (refine fin_b h ?_; clear h cb cs; simp [noneP, Bool.and_assoc, *])
  all_goals (intros; exfalso; omega)
theorem R_zpol {p : PolV} (hl : lenP p) (h : R (.ret (.bool (decide (p.kind = 0) && noneP p true true true true))) σ) : C tE 42 [ePol p] σ R := by
  refine C_pure tOK (by simp) ?_
  refine s_body' Tryz.func42 tOK rfl (by conv => lhs; simp) (by conv => lhs; simp) (by conv => lhs; simp [Fr.args]) rfl (by conv => lhs; try simp) fun R9 hR9 => ?_
  repeat' (first | refine go ?_ | refine s_seq fun y9 hy9 => ?_ | refine qT _ ?_ ?_ | refine qG _ ?_ ?_ | refine qN ?_ ?_ | (refine QB.mk fun hb9 => ?_; (try simp only [hb9]); (try simp at hb9); first | (exfalso; omega) | subst hb9 | skip) | (refine nZ ?_; refine (R_none hl) ?_))
  · exact fin_b h (by simp [hb9])
  · exact fin_b h (by simp [hb9])
def szC (c : ConfV) : Bool := decide (1 ≤ c.min ∧ c.min ≤ c.max ∧ c.max ≤ 1000 ∧ 1 ≤ c.rate ∧ c.rate ≤ 1000)
def plC (c : ConfV) : Bool := decide (0 ≤ c.stable ∧ c.stable ≤ 1099511627776 ∧ 1 ≤ c.cap ∧ c.cap ≤ 1000000 ∧ 0 ≤ c.delay ∧ c.delay ≤ 8 ∧ 0 ≤ c.slack ∧ c.slack ≤ 1000000000)
def juC (c : ConfV) : Bool := decide (1 ≤ c.window ∧ c.window ≤ 32 ∧ 0 ≤ c.margin ∧ c.margin ≤ 1000000000 ∧ 0 ≤ c.ceil ∧ c.ceil ≤ 32 ∧ 1 ≤ c.probe ∧ c.probe ≤ 32 ∧ 0 ≤ c.breach ∧ c.breach ≤ 32)
theorem okConf_eq (c : ConfV) : okConf c = (szC c && plC c && juC c) := by
  rw [Bool.eq_iff_iff]
  simp only [okConf, szC, plC, juC, wth, Bool.and_eq_true, decide_eq_true_eq]
  omega
theorem fr_bool {fr : Fr} {σ : Store} {P : Fr → Store → Prop} {b b' : Bool} {t : Nat} (e : b = b') (h : P ((t, .bool b') :: fr) σ) : P ((t, .bool b) :: fr) σ := e ▸ h
set_option maxHeartbeats 4000000 in
theorem R_conf {c : ConfV} (h : R (.ret (.bool (okConf c))) σ) : C tE 44 [eConf c] σ R := by
  rw [okConf_eq] at h
  refine C_pure tOK (by simp) ?_
  refine s_body' Tryz.func44 tOK rfl (by conv => lhs; simp) (by conv => lhs; simp) (by conv => lhs; simp [Fr.args]) rfl (by conv => lhs; try simp) fun R9 hR9 => ?_
  refine j2 (fun fr σ => fr = [(3, .bool (szC c)), (1, .ptr 0 0 0 [])] ∧ σ = [some (.cells 26 0 [eConf c])]) ?_ fun yJ key => ?_
  · rintro _ _ ⟨rfl, rfl⟩
    refine j1 (fun fr σ => fr = [(4, .bool (plC c)), (3, .bool (szC c)), (1, .ptr 0 0 0 [])] ∧ σ = [some (.cells 26 0 [eConf c])]) ?_ fun yJ key => ?_
    · rintro _ _ ⟨rfl, rfl⟩
      refine j1 (fun fr σ => fr = [(5, .bool (juC c)), (4, .bool (plC c)), (3, .bool (szC c)), (1, .ptr 0 0 0 [])] ∧ σ = [some (.cells 26 0 [eConf c])]) ?_ fun yJ key => ?_
      · rintro _ _ ⟨rfl, rfl⟩
        generalize szC c = a at *
        generalize plC c = b at *
        generalize juC c = d at *
        repeat' (first | refine go ?_ | refine s_seq fun y9 hy9 => ?_ | refine qT _ ?_ ?_ | refine qG _ ?_ ?_ | refine qN ?_ ?_ | (refine QB.mk fun hb9 => ?_; (try simp only [hb9]); (try simp at hb9); first | (exfalso; omega) | subst hb9 | skip))
        all_goals exact fin_b h (by simp [*])
      · repeat' (first | refine go ?_ | refine s_seq fun y9 hy9 => ?_ | refine qT _ ?_ ?_ | refine qG _ ?_ ?_ | refine qN ?_ ?_ | (refine QB.mk fun hb9 => ?_; (try simp only [hb9]); (try simp at hb9); first | (exfalso; omega) | subst hb9 | skip) | (refine nZ ?_; refine R_within ?_))
        all_goals
          refine t_trim 1 [5, 4, 3, 1] (by conv => lhs; simp) (by conv => lhs; simp) (by first | rfl | simp) ?_
          refine key.down _ _ (fr_bool (P := fun fr σ => fr = _ ∧ σ = _) ?_ ⟨rfl, rfl⟩)
          first | exact decide_eq_decide.2 (by omega) | exact (decide_eq_false (by omega)).symm | (rw [Bool.eq_iff_iff]; simp [juC, plC, szC]; omega)
    · repeat' (first | refine go ?_ | refine s_seq fun y9 hy9 => ?_ | refine qT _ ?_ ?_ | refine qG _ ?_ ?_ | refine qN ?_ ?_ | (refine QB.mk fun hb9 => ?_; (try simp only [hb9]); (try simp at hb9); first | (exfalso; omega) | subst hb9 | skip) | (refine nZ ?_; refine R_within ?_))
      all_goals
        refine t_trim 1 [4, 3, 1] (by conv => lhs; simp) (by conv => lhs; simp) (by first | rfl | simp) ?_
        refine key.down _ _ (fr_bool (P := fun fr σ => fr = _ ∧ σ = _) ?_ ⟨rfl, rfl⟩)
        first | exact decide_eq_decide.2 (by omega) | exact (decide_eq_false (by omega)).symm | (rw [Bool.eq_iff_iff]; simp [juC, plC, szC]; omega)
  · repeat' (first | refine go ?_ | refine s_seq fun y9 hy9 => ?_ | refine qT _ ?_ ?_ | refine qG _ ?_ ?_ | refine qN ?_ ?_ | (refine QB.mk fun hb9 => ?_; (try simp only [hb9]); (try simp at hb9); first | (exfalso; omega) | subst hb9 | skip) | (refine nZ ?_; refine R_within ?_))
    all_goals
      refine t_trim 1 [3, 1] (by conv => lhs; simp) (by conv => lhs; simp) (by first | rfl | simp) ?_
      refine key.down _ _ (fr_bool (P := fun fr σ => fr = _ ∧ σ = _) ?_ ⟨rfl, rfl⟩)
      first | exact decide_eq_decide.2 (by omega) | exact (decide_eq_false (by omega)).symm | (rw [Bool.eq_iff_iff]; simp [juC, plC, szC]; omega)
end
end Go.Proofs.YtncbfppafgjdiaaGreat
end
section
/- Events that are right: the document. -/
set_option linter.unusedVariables false
set_option linter.unusedSimpArgs false
set_option maxRecDepth 20000
namespace Go.Proofs.YtncbfppafgjdiaaGreat
open Go
attribute [local irreducible] T TL C RG DP SP YR afterRG DPcall
attribute [-simp] List.map_set
section
variable {R : Re → Store → Prop} {σ : Store}
/-- An event that is right, as the document asks. -/
def rightR (e : EvV) : Bool :=
  let sm := decide (e.util = 0 ∧ e.demand = 0)
  let rs := zeroPol e.pol && decide (e.conf = {}) && e.body.isEmpty
  if e.kind = 1 then rs && decide (e.t = 0 ∧ e.id = 0 ∧ e.n = 0)
  else if e.kind = 2 then rs && sm && decide (e.id = 0 ∧ e.n = 0)
  else if e.kind = 3 then (okPol e.pol || decide (e.id ≠ 0) && zeroPol e.pol) && decide (0 ≤ e.id ∧ e.id ≤ 3) && sm && decide (e.t = 0 ∧ e.n = 0) && decide (e.conf = {}) && e.body.isEmpty
  else if e.kind = 4 then okConf e.conf && sm && decide (e.t = 0 ∧ e.id = 0 ∧ e.n = 0) && zeroPol e.pol && e.body.isEmpty
  else if e.kind = 5 then rs && sm && decide (e.id = 0 ∧ 0 ≤ e.t ∧ e.t ≤ 1099511627776 ∧ 0 ≤ e.n ∧ e.n ≤ 1000)
  else if e.kind = 6 ∨ e.kind = 7 then rs && sm && decide (e.t = 0 ∧ e.n = 0 ∧ 0 ≤ e.id ∧ e.id ≤ 3)
  else if e.kind = 8 then sm && decide (e.t = 0 ∧ e.id = 0 ∧ e.n = 0) && zeroPol e.pol && decide (e.conf = {}) && decide (e.body.length ≤ 1700)
  else false
theorem zeroPol_eq (p : PolV) : (decide (p.kind = 0) && noneP p true true true true) = zeroPol p := by
  rw [Bool.eq_iff_iff]
  obtain ⟨k, t, b, kp, ki, kd, pe, s⟩ := p
  simp only [zeroPol, noneP, noB, noK, noS, Bool.and_eq_true, decide_eq_true_eq, PolV.mk.injEq, List.isEmpty_iff, Bool.not_true, Bool.false_or]
  simp only [and_assoc]
theorem okEv_eq (e : EvV) : okEv e = rightR e := by
  obtain ⟨k, u, d, t, i, n, p, c, b⟩ := e
  unfold okEv rightR
  simp only
  have hb : b.isEmpty = decide (b = []) := by cases b <;> simp
  by_cases h1 : k = 1
  · subst h1; rw [Bool.eq_iff_iff]; simp [hb, zeroPol, wth]; try (constructor <;> intro h <;> simp_all)
  · by_cases h2 : k = 2
    · subst h2; rw [Bool.eq_iff_iff]; simp [hb, zeroPol, wth]; try (constructor <;> intro h <;> simp_all)
    · by_cases h3 : k = 3
      · subst h3; rw [Bool.eq_iff_iff]; simp [hb, zeroPol, wth]; try (constructor <;> intro h <;> simp_all)
      · by_cases h4 : k = 4
        · subst h4; rw [Bool.eq_iff_iff]; simp [hb, zeroPol, wth]; try (constructor <;> intro h <;> simp_all)
        · by_cases h5 : k = 5
          · subst h5; rw [Bool.eq_iff_iff]; simp [hb, zeroPol, wth]; try (constructor <;> intro h <;> simp_all)
          · by_cases h6 : k = 6
            · subst h6; rw [Bool.eq_iff_iff]; simp [hb, zeroPol, wth]; try (constructor <;> intro h <;> simp_all)
            · by_cases h7 : k = 7
              · subst h7; rw [Bool.eq_iff_iff]; simp [hb, zeroPol, wth]; try (constructor <;> intro h <;> simp_all)
              · by_cases h8 : k = 8
                · subst h8; rw [Bool.eq_iff_iff]; simp [hb, zeroPol, wth]; intro _; simp only [and_assoc]
                · simp [h1, h2, h3, h4, h5, h6, h7, h8]
/-- An event whose rows are no longer than can be. -/
def lenE (e : EvV) : Prop := lenP e.pol ∧ e.body.length ≤ 100000
theorem R_zeroP {p : PolV} (hl : lenP p) (h : R (.ret (.bool (zeroPol p))) σ) : C tE 42 [ePol p] σ R := R_zpol hl (by rw [zeroPol_eq]; exact h)
theorem cz_iff (c : ConfV) : c = {} ↔ (c.min = 0 ∧ c.max = 0 ∧ c.rate = 0 ∧ c.stable = 0 ∧ c.cap = 0 ∧ c.delay = 0 ∧ c.slack = 0 ∧ c.window = 0 ∧ c.margin = 0 ∧ c.ceil = 0 ∧ c.probe = 0 ∧ c.breach = 0) := by
  obtain ⟨a, b, c, d, e, f, g, h, i, j, k, l⟩ := c
  simp
set_option maxHeartbeats 4000000 in
theorem R_right {e : EvV} (hl : lenE e) (h : R (.ret (.bool (okEv e))) σ) : C tE 16 [eEv e] σ R := by
  obtain ⟨l1, l2⟩ := hl
  rw [okEv_eq] at h
  unfold rightR at h
  simp only at h
  refine C_pure tOK (by simp) ?_
  refine s_body' Tryz.func16 tOK rfl (by conv => lhs; simp) (by conv => lhs; simp) (by conv => lhs; simp [Fr.args]) rfl (by conv => lhs; try simp) fun R9 hR9 => ?_
  refine j2 (fun fr σ => fr = [(3, .bool (decide (e.util = 0 ∧ e.demand = 0))), (1, .ptr 0 0 0 [])] ∧ σ = [some (.cells 50 0 [eEv e])]) ?_ fun yJ key => ?_
  · rintro _ _ ⟨rfl, rfl⟩
    generalize decide (e.util = 0 ∧ e.demand = 0) = sm at *
    refine j1 (fun fr σ => fr = [(4, .bool (zeroPol e.pol && decide (e.conf = {}) && e.body.isEmpty)), (3, .bool sm), (1, .ptr 0 0 0 [])] ∧ σ = [some (.cells 50 0 [eEv e])]) ?_ fun yJ key => ?_
    · rintro _ _ ⟨rfl, rfl⟩
      generalize hrs : (zeroPol e.pol && decide (e.conf = {}) && e.body.isEmpty) = rs at *
      clear hrs
      have cz := cz_iff e.conf
      have hbe : (((u8l e.body).length : Nat) : Int) = (e.body.length : Int) := by simp [u8l]
      have hbe2 := len_emp e.body
      have F9 := @hbe
      repeat' (first | refine gf ?_ | refine s_seq fun y9 hy9 => ?_ | refine qT _ ?_ ?_ | refine qG _ ?_ ?_ | refine qN ?_ ?_ | (refine QB.mk fun hb9 => ?_; (try simp only [hb9]); (try simp at hb9); first | (exfalso; omega) | subst hb9 | skip) | (refine nZ ?_; first | refine (R_zeroP l1) ?_ | refine (R_pol l1) ?_ | refine R_conf ?_ | refine R_within ?_))
      all_goals (refine fin_b h ?_; clear h; simp [cz, hbe, hbe2, *]; try omega)
      all_goals (rw [Bool.eq_iff_iff]; simp)
    · repeat' (first | refine go ?_ | refine s_seq fun y9 hy9 => ?_ | refine qT _ ?_ ?_ | refine qG _ ?_ ?_ | refine qN ?_ ?_ | (refine QB.mk fun hb9 => ?_; (try simp only [hb9]); (try simp at hb9); first | (exfalso; omega) | subst hb9 | skip) | (refine nZ ?_; refine (R_zeroP l1) ?_))
      all_goals
        refine t_trim 1 [4, 3, 1] (by conv => lhs; simp) (by conv => lhs; simp) (by first | rfl | simp) ?_
        refine key.down _ _ (fr_bool (P := fun fr σ => fr = _ ∧ σ = _) ?_ ⟨rfl, rfl⟩)
        have cz := cz_iff e.conf
        have hbe : (((u8l e.body).length : Nat) : Int) = (e.body.length : Int) := by simp [u8l]
        have hbe2 := len_emp e.body
        clear h key
        simp [cz, hbe, hbe2, *]
      all_goals (intros; exfalso; omega)
  · repeat' (first | refine go ?_ | refine s_seq fun y9 hy9 => ?_ | refine qT _ ?_ ?_ | refine qG _ ?_ ?_ | refine qN ?_ ?_ | (refine QB.mk fun hb9 => ?_; (try simp only [hb9]); (try simp at hb9); first | (exfalso; omega) | subst hb9 | skip))
    all_goals
      refine t_trim 1 [3, 1] (by conv => lhs; simp) (by conv => lhs; simp) (by first | rfl | simp) ?_
      refine key.down _ _ (fr_bool (P := fun fr σ => fr = _ ∧ σ = _) ?_ ⟨rfl, rfl⟩)
      first | exact decide_eq_decide.2 (by omega) | exact (decide_eq_false (by omega)).symm | (rw [Bool.eq_iff_iff]; simp; omega)
end
end Go.Proofs.YtncbfppafgjdiaaGreat
end
