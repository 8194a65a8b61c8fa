/- Plain mathematics: the parts of a map (darts that come to one another), their names; how names come to be by going from dart to dart. -/
import Derived.Test.YthakkchmegnlhaaM3
namespace Go.Proofs.Ythakkchmegnlhaa.Pq

/-- The classes of a relation on the numbers below n. -/
structure Cls (n : Nat) (R : Nat → Nat → Prop) : Prop where
  refl : ∀ a, R a a
  symm : ∀ a b, a < n → R a b → R b a
  trans : ∀ a b c, R a b → R b c → R a c
  lt : ∀ a b, a < n → R a b → b < n

def isLow (R : Nat → Nat → Prop) (n d : Nat) : Prop := d < n ∧ ∀ x, R d x → d ≤ x

section
variable {n : Nat} {R : Nat → Nat → Prop}
theorem Cls.exists_low (h : Cls n R) (a : Nat) (ha : a < n) : ∃ d, isLow R n d ∧ R a d := by
  induction a using Nat.strongRecOn with
  | _ a ih =>
    by_cases hl : ∀ x, R a x → a ≤ x
    · exact ⟨a, ⟨ha, hl⟩, h.refl a⟩
    · simp only [Classical.not_forall] at hl
      obtain ⟨x, o, hx⟩ := hl
      obtain ⟨d, hd, od⟩ := ih x (by omega) (h.lt _ _ ha o)
      exact ⟨d, hd, h.trans _ _ _ o od⟩
theorem Cls.low_unique (h : Cls n R) {a b : Nat} (ha : isLow R n a) (hb : isLow R n b) (o : R a b) : a = b := by
  have h1 := ha.2 b o
  have h2 := hb.2 a (h.symm _ _ ha.1 o)
  omega

open Classical in
noncomputable def lo (R : Nat → Nat → Prop) (n a : Nat) : Nat := if h : ∃ d, isLow R n d ∧ R a d then h.choose else 0
theorem Cls.lo_spec (h : Cls n R) {a : Nat} (ha : a < n) : isLow R n (lo R n a) ∧ R a (lo R n a) := by
  unfold lo
  rw [dif_pos (h.exists_low a ha)]
  exact (h.exists_low a ha).choose_spec
theorem Cls.lo_le (h : Cls n R) {a : Nat} (ha : a < n) : lo R n a ≤ a :=
  have s := h.lo_spec ha
  s.1.2 a (h.symm _ _ ha s.2)
theorem Cls.lo_eq (h : Cls n R) {a b : Nat} (ha : a < n) (hb : b < n) : lo R n a = lo R n b ↔ R a b := by
  have sa := h.lo_spec ha
  have sb := h.lo_spec hb
  constructor
  · intro e
    have := h.symm _ _ hb sb.2
    rw [← e] at this
    exact h.trans _ _ _ sa.2 this
  · intro o
    exact h.low_unique sa.1 sb.1 (h.trans _ _ _ (h.symm _ _ ha sa.2) (h.trans _ _ _ o sb.2))
theorem Cls.lo_self (h : Cls n R) {a : Nat} (ha : isLow R n a) : lo R n a = a :=
  h.low_unique (h.lo_spec ha.1).1 ha (h.symm _ _ ha.1 (h.lo_spec ha.1).2)

open Classical in
noncomputable def lowsR (R : Nat → Nat → Prop) (n k : Nat) : Nat := ((List.range k).filter fun d => decide (isLow R n d)).length
theorem lowsR_zero : lowsR R n 0 = 0 := rfl
theorem lowsR_succ_low {k : Nat} (h : isLow R n k) : lowsR R n (k + 1) = lowsR R n k + 1 := by
  unfold lowsR; rw [List.range_succ, List.filter_append]; simp [h]
theorem lowsR_succ_not {k : Nat} (h : ¬ isLow R n k) : lowsR R n (k + 1) = lowsR R n k := by
  unfold lowsR; rw [List.range_succ, List.filter_append]; simp [h]
theorem lowsR_mono {j k : Nat} (h : j ≤ k) : lowsR R n j ≤ lowsR R n k := by
  induction k with
  | zero => obtain rfl : j = 0 := by omega
            exact Nat.le_refl _
  | succ k ih =>
    rcases Nat.lt_or_ge j (k + 1) with hlt | hge
    · have := ih (by omega)
      by_cases hl : isLow R n k
      · rw [lowsR_succ_low hl]; omega
      · rw [lowsR_succ_not hl]; omega
    · obtain rfl : j = k + 1 := by omega
      exact Nat.le_refl _
theorem lowsR_lt {j k : Nat} (hj : isLow R n j) (h : j < k) : lowsR R n j < lowsR R n k := by
  have h1 := lowsR_mono (R := R) (n := n) (show j + 1 ≤ k by omega)
  rw [lowsR_succ_low hj] at h1
  omega
theorem lowsR_le (k : Nat) : lowsR R n k ≤ k := by
  unfold lowsR
  exact Nat.le_trans (List.length_filter_le _ _) (by simp)

noncomputable def nmR (R : Nat → Nat → Prop) (n a : Nat) : Nat := lowsR R n (lo R n a)
noncomputable def cntR (R : Nat → Nat → Prop) (n : Nat) : Nat := lowsR R n n
theorem Cls.nm_eq (h : Cls n R) {a b : Nat} (ha : a < n) (hb : b < n) : nmR R n a = nmR R n b ↔ R a b := by
  rw [← h.lo_eq ha hb]
  constructor
  · intro e
    have la := (h.lo_spec ha).1
    have lb := (h.lo_spec hb).1
    unfold nmR at e
    rcases Nat.lt_trichotomy (lo R n a) (lo R n b) with hlt | heq | hgt
    · have := lowsR_lt la hlt; omega
    · exact heq
    · have := lowsR_lt lb hgt; omega
  · intro e; unfold nmR; rw [e]
theorem Cls.nm_lt (h : Cls n R) {a : Nat} (ha : a < n) : nmR R n a < cntR R n := lowsR_lt (h.lo_spec ha).1 (h.lo_spec ha).1.1
theorem Cls.nm_low (h : Cls n R) {k : Nat} (hl : isLow R n k) : nmR R n k = lowsR R n k := by rw [nmR, h.lo_self hl]
theorem Cls.low_iff (h : Cls n R) {k : Nat} (hk : k < n) : isLow R n k ↔ ¬ lo R n k < k := by
  constructor
  · intro hl
    rw [h.lo_self hl]
    omega
  · intro hl
    have := h.lo_le hk
    have e : lo R n k = k := by omega
    have := (h.lo_spec hk).1
    rw [e] at this
    exact this
theorem Cls.nm_lt_lows (h : Cls n R) {k : Nat} (hk : k < n) (hl : ¬ isLow R n k) : nmR R n k < lowsR R n k := by
  rw [h.low_iff hk, Classical.not_not] at hl
  exact lowsR_lt (h.lo_spec hk).1 hl
theorem cntR_le : cntR R n ≤ n := lowsR_le n

/-- The names so far: of the classes whose least number is below k, and of T, which is on its way to be the class of k. -/
noncomputable def nmAt (R : Nat → Nat → Prop) (n k : Nat) (T : List Nat) : List Int :=
  (List.range n).map fun a => if lo R n a < k then (nmR R n a : Int) else if T.contains a then (lowsR R n k : Int) else -1
noncomputable def nmL (R : Nat → Nat → Prop) (n : Nat) : List Int := (List.range n).map fun a => (nmR R n a : Int)
theorem nmAt_length (k : Nat) (T : List Nat) : (nmAt R n k T).length = n := by simp [nmAt]
theorem nmL_length : (nmL R n).length = n := by simp [nmL]
theorem nmL_getD {a : Nat} (ha : a < n) : (nmL R n).getD a 0 = (nmR R n a : Int) := by simp [nmL, List.getD_eq_getElem?_getD, ha]
theorem nmAt_getD {k a : Nat} {T : List Nat} (ha : a < n) : (nmAt R n k T).getD a 0 = if lo R n a < k then (nmR R n a : Int) else if T.contains a then (lowsR R n k : Int) else -1 := by
  simp [nmAt, List.getD_eq_getElem?_getD, ha]
theorem nmAt_zero : nmAt R n 0 [] = List.replicate n (-1) := by
  rw [nmAt, List.eq_replicate_iff]
  refine ⟨by simp, fun b hb => ?_⟩
  rw [List.mem_map] at hb
  obtain ⟨a, _, rfl⟩ := hb
  rw [if_neg (by omega)]
  rfl
theorem nmAt_all (h : Cls n R) : nmAt R n n [] = nmL R n := by
  unfold nmAt nmL
  refine List.map_congr_left fun a ha => ?_
  rw [List.mem_range] at ha
  rw [if_pos (h.lo_spec ha).1.1]
theorem nmAt_nonneg (h : Cls n R) {k : Nat} (hk : k < n) (hl : ¬ isLow R n k) : 0 ≤ (nmAt R n k []).getD k 0 := by
  rw [nmAt_getD hk]
  rw [h.low_iff hk, Classical.not_not] at hl
  rw [if_pos hl]
  omega
theorem nmAt_neg (h : Cls n R) {k : Nat} (hk : k < n) (hl : isLow R n k) : (nmAt R n k []).getD k 0 = -1 := by
  rw [nmAt_getD hk, if_neg ((h.low_iff hk).1 hl)]
  rfl
theorem nmAt_skip (h : Cls n R) {k : Nat} (hl : ¬ isLow R n k) : nmAt R n (k + 1) [] = nmAt R n k [] := by
  unfold nmAt
  refine List.map_congr_left fun a ha => ?_
  rw [List.mem_range] at ha
  have : lo R n a ≠ k := fun e => hl (e ▸ (h.lo_spec ha).1)
  by_cases h1 : lo R n a < k
  · rw [if_pos h1, if_pos (by omega)]
  · rw [if_neg h1, if_neg (by omega)]
    rfl
/-- One more of the class of k. -/
theorem nmAt_set (h : Cls n R) {k y : Nat} (T : List Nat) (hk : isLow R n k) (hy : R k y) : (nmAt R n k T).set y (lowsR R n k : Int) = nmAt R n k (y :: T) := by
  have hyl : y < n := h.lt _ _ hk.1 hy
  apply List.ext_getElem (by simp [nmAt])
  intro a h1 h2
  have ha : a < n := by simpa [nmAt] using h2
  rw [List.getElem_set]
  simp only [nmAt, List.getElem_map, List.getElem_range, List.contains_cons]
  by_cases e : y = a
  · subst e
    have : ¬ lo R n y < k := by rw [(h.lo_eq hyl hk.1).2 (h.symm _ _ hk.1 hy), h.lo_self hk]; omega
    rw [if_pos rfl, if_neg this, if_pos (by simp)]
  · rw [if_neg e]
    have : (a == y) = false := beq_eq_false_iff_ne.2 (fun h => e h.symm)
    rw [this, Bool.false_or]
/-- Whose name is still below 0 in the class of k was not met. -/
theorem nmAt_in (h : Cls n R) {k y : Nat} (T : List Nat) (hk : isLow R n k) (hy : R k y) : (nmAt R n k T).getD y 0 = if T.contains y then (lowsR R n k : Int) else -1 := by
  have hyl : y < n := h.lt _ _ hk.1 hy
  have : ¬ lo R n y < k := by rw [(h.lo_eq hyl hk.1).2 (h.symm _ _ hk.1 hy), h.lo_self hk]; omega
  rw [nmAt_getD hyl, if_neg this]
/-- The class is whole. -/
theorem nmAt_done (h : Cls n R) {k : Nat} (T : List Nat) (hk : isLow R n k) (hT : ∀ a, a < n → (a ∈ T ↔ R k a)) : nmAt R n k T = nmAt R n (k + 1) [] := by
  unfold nmAt
  refine List.map_congr_left fun a ha => ?_
  rw [List.mem_range] at ha
  by_cases h1 : lo R n a < k
  · rw [if_pos h1, if_pos (by omega)]
  · rw [if_neg h1]
    by_cases h2 : R k a
    · have e : lo R n a = k := by rw [(h.lo_eq ha hk.1).2 (h.symm _ _ hk.1 h2), h.lo_self hk]
      rw [if_pos (by simpa using (hT a ha).2 h2), if_pos (by omega), nmR, e]
    · have e : lo R n a ≠ k := fun e => h2 (by
        have := h.symm _ _ ha (h.lo_spec ha).2
        rw [e] at this
        exact this)
      rw [if_neg (by simpa using fun h => h2 ((hT a ha).1 h)), if_neg (by omega)]
      rfl
end

/-- Darts that come to one another. -/
inductive Conn (f : Nat → Nat) : Nat → Nat → Prop where
  | refl (a : Nat) : Conn f a a
  | sig (a b : Nat) : Conn f a b → Conn f a (f b)
  | mat (a b : Nat) : Conn f a b → Conn f a (mate b)
theorem Conn.trans {f : Nat → Nat} {a b c : Nat} (h : Conn f a b) (k : Conn f b c) : Conn f a c := by
  induction k with
  | refl => exact h
  | sig _ _ ih => exact .sig _ _ ih
  | mat _ _ ih => exact .mat _ _ ih
theorem Conn.of_orb {f : Nat → Nat} {a b : Nat} (h : Orb f a b) : Conn f a b := by
  obtain ⟨k, rfl⟩ := h
  induction k with
  | zero => exact .refl _
  | succ k ih => rw [it_succ']; exact .sig _ _ ih
theorem Conn.lt {f : Nat → Nat} {n a b : Nat} (hf : Pm n f) (he : n % 2 = 0) (ha : a < n) (h : Conn f a b) : b < n := by
  induction h with
  | refl => exact ha
  | sig _ _ ih => exact hf.lt _ ih
  | mat _ _ ih => exact mate_lt he ih
theorem Conn.symm {f : Nat → Nat} {n a b : Nat} (hf : Pm n f) (he : n % 2 = 0) (ha : a < n) (h : Conn f a b) : Conn f b a := by
  induction h with
  | refl => exact .refl _
  | sig c hc ih => exact (Conn.of_orb (hf.orb_symm (hc.lt hf he ha) (Orb.step f c))).trans ih
  | mat c hc ih =>
    have := Conn.mat (f := f) (mate c) (mate c) (.refl _)
    rw [mate_mate] at this
    exact this.trans ih
theorem conn_cls {f : Nat → Nat} {n : Nat} (hf : Pm n f) (he : n % 2 = 0) : Cls n (Conn f) :=
  ⟨.refl, fun _ _ ha h => h.symm hf he ha, fun _ _ _ => .trans, fun _ _ ha h => h.lt hf he ha⟩

end Go.Proofs.Ythakkchmegnlhaa.Pq
