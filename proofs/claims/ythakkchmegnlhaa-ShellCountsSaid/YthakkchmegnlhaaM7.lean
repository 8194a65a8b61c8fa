/- Plain mathematics: pairs joined one after the other; parity; on a plane each cycle is the border of some faces. -/
import Derived.Test.YthakkchmegnlhaaM6
namespace Go.Proofs.Ythakkchmegnlhaa.Pq

/-- Two classes joined. -/
def Jn (R : Nat → Nat → Prop) (a b : Nat) : Nat → Nat → Prop := fun x y => R x y ∨ (R x a ∧ R b y) ∨ (R x b ∧ R a y)

section
variable {n : Nat} {R : Nat → Nat → Prop}
theorem Jn.ab (h : Cls n R) (a b : Nat) : Jn R a b a b := .inr (.inl ⟨h.refl _, h.refl _⟩)
theorem Jn.ba (h : Cls n R) (a b : Nat) : Jn R a b b a := .inr (.inr ⟨h.refl _, h.refl _⟩)
theorem Cls.jn (h : Cls n R) {a b : Nat} (ha : a < n) (hb : b < n) : Cls n (Jn R a b) := by
  refine ⟨fun a => .inl (h.refl a), ?_, ?_, ?_⟩
  · rintro x y hx (o | ⟨o1, o2⟩ | ⟨o1, o2⟩)
    · exact .inl (h.symm _ _ hx o)
    · exact .inr (.inr ⟨h.symm _ _ hb o2, h.symm _ _ hx o1⟩)
    · exact .inr (.inl ⟨h.symm _ _ ha o2, h.symm _ _ hx o1⟩)
  · rintro x y z (o | ⟨o1, o2⟩ | ⟨o1, o2⟩) (p | ⟨p1, p2⟩ | ⟨p1, p2⟩)
    · exact .inl (h.trans _ _ _ o p)
    · exact .inr (.inl ⟨h.trans _ _ _ o p1, p2⟩)
    · exact .inr (.inr ⟨h.trans _ _ _ o p1, p2⟩)
    · exact .inr (.inl ⟨o1, h.trans _ _ _ o2 p⟩)
    · exact .inr (.inl ⟨o1, p2⟩)
    · exact .inl (h.trans _ _ _ o1 p2)
    · exact .inr (.inr ⟨o1, h.trans _ _ _ o2 p⟩)
    · exact .inl (h.trans _ _ _ o1 p2)
    · exact .inr (.inr ⟨o1, p2⟩)
  · rintro x y hx (o | ⟨o1, o2⟩ | ⟨o1, o2⟩)
    · exact h.lt _ _ hx o
    · exact h.lt _ _ hb o2
    · exact h.lt _ _ ha o2

theorem lowsR_congr {R' : Nat → Nat → Prop} {k : Nat} (h : ∀ d, d < k → (isLow R n d ↔ isLow R' n d)) : lowsR R n k = lowsR R' n k := by
  induction k with
  | zero => rfl
  | succ k ih =>
    have ih := ih (fun d hd => h d (by omega))
    by_cases hl : isLow R n k
    · rw [lowsR_succ_low hl, lowsR_succ_low ((h k (by omega)).1 hl), ih]
    · rw [lowsR_succ_not hl, lowsR_succ_not (fun e => hl ((h k (by omega)).2 e)), ih]
theorem cntR_congr {R' : Nat → Nat → Prop} (h : ∀ a b, a < n → (R a b ↔ R' a b)) : cntR R n = cntR R' n :=
  lowsR_congr fun d hd => by
    constructor
    · exact fun e => ⟨hd, fun x o => e.2 x ((h d x hd).2 o)⟩
    · exact fun e => ⟨hd, fun x o => e.2 x ((h d x hd).1 o)⟩
theorem lowsR_less {R' : Nat → Nat → Prop} {k m : Nat} (hm : isLow R n m) (h : ∀ d, isLow R' n d ↔ isLow R n d ∧ d ≠ m) : lowsR R' n k + (if m < k then 1 else 0) = lowsR R n k := by
  induction k with
  | zero => rfl
  | succ k ih =>
    by_cases hl : isLow R n k
    · rw [lowsR_succ_low hl]
      by_cases e : k = m
      · subst e
        rw [lowsR_succ_not (fun x => ((h k).1 x).2 rfl)]
        rw [if_neg (by omega)] at ih
        rw [if_pos (by omega)]
        omega
      · rw [lowsR_succ_low ((h k).2 ⟨hl, e⟩)]
        by_cases hk : m < k
        · rw [if_pos hk] at ih
          rw [if_pos (by omega)]; omega
        · rw [if_neg hk] at ih
          rw [if_neg (by omega)]; omega
    · have e : k ≠ m := fun e => hl (e ▸ hm)
      rw [lowsR_succ_not hl, lowsR_succ_not (fun x => hl ((h k).1 x).1)]
      by_cases hk : m < k
      · rw [if_pos hk] at ih
        rw [if_pos (by omega)]; omega
      · rw [if_neg hk] at ih
        rw [if_neg (by omega)]; omega
theorem cntR_jn_in (h : Cls n R) {a b : Nat} (ha : a < n) (o : R a b) : cntR (Jn R a b) n = cntR R n :=
  cntR_congr fun x y hx => by
    constructor
    · rintro (p | ⟨p1, p2⟩ | ⟨p1, p2⟩)
      · exact p
      · exact h.trans _ _ _ p1 (h.trans _ _ _ o p2)
      · exact h.trans _ _ _ p1 (h.trans _ _ _ (h.symm _ _ ha o) p2)
    · exact .inl
theorem cntR_jn_out (h : Cls n R) {a b : Nat} (ha : a < n) (hb : b < n) (o : ¬ R a b) : cntR (Jn R a b) n + 1 = cntR R n := by
  have sa := h.lo_spec ha
  have sb := h.lo_spec hb
  have hne : lo R n a ≠ lo R n b := fun e => o ((h.lo_eq ha hb).1 e)
  have key : ∀ u v, u < n → v < n → lo R n u < lo R n v → (∀ x y, Jn R a b x y ↔ R x y ∨ (R x u ∧ R v y) ∨ (R x v ∧ R u y)) → cntR (Jn R a b) n + 1 = cntR R n := by
    intro u v hu hv hlt hj
    have su := h.lo_spec hu
    have sv := h.lo_spec hv
    have := lowsR_less (R' := Jn R a b) (k := n) sv.1 (fun d => ?_)
    · rw [if_pos sv.1.1] at this
      exact this
    · constructor
      · intro e
        refine ⟨⟨e.1, fun x p => e.2 x (.inl p)⟩, ?_⟩
        rintro rfl
        have := e.2 (lo R n u) ((hj _ _).2 (.inr (.inr ⟨h.symm _ _ hv sv.2, su.2⟩)))
        omega
      · rintro ⟨e, hd⟩
        refine ⟨e.1, fun x p => ?_⟩
        rcases (hj _ _).1 p with p | ⟨p1, p2⟩ | ⟨p1, p2⟩
        · exact e.2 x p
        · have h1 : d = lo R n u := h.low_unique e su.1 (h.trans _ _ _ p1 su.2)
          have h2 := sv.1.2 x (h.trans _ _ _ (h.symm _ _ hv sv.2) p2)
          omega
        · exact absurd (h.low_unique e sv.1 (h.trans _ _ _ p1 sv.2)) hd
  rcases Nat.lt_or_ge (lo R n a) (lo R n b) with hlt | hge
  · exact key a b ha hb hlt (fun x y => Iff.rfl)
  · exact key b a hb ha (by omega) (fun x y => by
      unfold Jn
      constructor
      · rintro (p | p | p)
        · exact .inl p
        · exact .inr (.inr p)
        · exact .inr (.inl p)
      · rintro (p | p | p)
        · exact .inl p
        · exact .inr (.inr p)
        · exact .inr (.inl p))

open Classical in
/-- Edges joined one after the other, those of P. -/
noncomputable def jns (R : Nat → Nat → Prop) (P : Nat → Prop) : Nat → Nat → Nat → Prop
  | 0 => R
  | i + 1 => if P i then Jn (jns R P i) (2 * i) (2 * i + 1) else jns R P i
open Classical in
noncomputable def num (P : Nat → Prop) : Nat → Nat
  | 0 => 0
  | i + 1 => num P i + if P i then 1 else 0
theorem num_le (P : Nat → Prop) (k : Nat) : num P k ≤ k := by
  induction k with
  | zero => exact Nat.le_refl _
  | succ k ih => unfold num; split <;> omega
theorem num_two {P Q : Nat → Prop} (hd : ∀ i, P i → ¬ Q i) (k : Nat) : num P k + num Q k ≤ k ∧ (k ≤ num P k + num Q k → ∀ i, i < k → P i ∨ Q i) := by
  induction k with
  | zero => exact ⟨Nat.le_refl _, fun _ i hi => absurd hi (by omega)⟩
  | succ k ih =>
    unfold num
    by_cases hp : P k
    · rw [if_pos hp, if_neg (hd k hp)]
      refine ⟨by omega, fun h i hi => ?_⟩
      rcases Nat.lt_or_ge i k with h1 | h1
      · exact ih.2 (by omega) i h1
      · obtain rfl : i = k := by omega
        exact .inl hp
    · rw [if_neg hp]
      by_cases hq : Q k
      · rw [if_pos hq]
        refine ⟨by omega, fun h i hi => ?_⟩
        rcases Nat.lt_or_ge i k with h1 | h1
        · exact ih.2 (by omega) i h1
        · obtain rfl : i = k := by omega
          exact .inr hq
      · rw [if_neg hq]
        exact ⟨by omega, fun h => absurd h (by omega)⟩

theorem jns_pos {P : Nat → Prop} {i : Nat} (h : P i) : jns R P (i + 1) = Jn (jns R P i) (2 * i) (2 * i + 1) := by rw [jns, if_pos h]
theorem jns_neg {P : Nat → Prop} {i : Nat} (h : ¬ P i) : jns R P (i + 1) = jns R P i := by rw [jns, if_neg h]
theorem jns_cls (h : Cls n R) {P : Nat → Prop} {i : Nat} (hi : 2 * i ≤ n) : Cls n (jns R P i) := by
  induction i with
  | zero => exact h
  | succ i ih =>
    by_cases hp : P i
    · rw [jns_pos hp]; exact (ih (by omega)).jn (by omega) (by omega)
    · rw [jns_neg hp]; exact ih (by omega)
theorem jns_mono {P : Nat → Prop} {i j : Nat} (hij : i ≤ j) {a b : Nat} (o : jns R P i a b) : jns R P j a b := by
  induction j with
  | zero => obtain rfl : i = 0 := by omega
            exact o
  | succ j ih =>
    rcases Nat.lt_or_ge i (j + 1) with h1 | h1
    · by_cases hp : P j
      · rw [jns_pos hp]; exact .inl (ih (by omega))
      · rw [jns_neg hp]; exact ih (by omega)
    · obtain rfl : i = j + 1 := by omega
      exact o
theorem jns_of {P : Nat → Prop} {i : Nat} {a b : Nat} (o : R a b) : jns R P i a b := jns_mono (Nat.zero_le i) o
theorem jns_edge (h : Cls n R) {P : Nat → Prop} {i j : Nat} (hij : i < j) (hj : 2 * j ≤ n) (hp : P i) : jns R P j (2 * i) (2 * i + 1) ∧ jns R P j (2 * i + 1) (2 * i) := by
  have hc := jns_cls h (P := P) (i := i) (by omega)
  constructor
  · refine jns_mono (i := i + 1) (by omega) ?_
    rw [jns_pos hp]
    exact .ab hc _ _
  · refine jns_mono (i := i + 1) (by omega) ?_
    rw [jns_pos hp]
    exact .ba hc _ _
theorem jns_mate (h : Cls n R) {P : Nat → Prop} {j : Nat} (hj : 2 * j ≤ n) {d : Nat} (hd : d / 2 < j) (hp : P (d / 2)) : jns R P j d (mate d) := by
  have := jns_edge h hd hj hp
  unfold mate
  by_cases e : d % 2 = 0
  · rw [if_pos e]
    rw [show 2 * (d / 2) = d by omega] at this
    exact this.1
  · rw [if_neg e]
    rw [show 2 * (d / 2) = d - 1 by omega, show d - 1 + 1 = d by omega] at this
    exact this.2
/-- Whatever function on the darts R keeps, and the edges of P before i keep, the joined keep. -/
theorem jns_keep {α : Type} {P : Nat → Prop} {i : Nat} (g : Nat → α) (hR : ∀ a b, a < n → R a b → g a = g b) (hE : ∀ j, j < i → P j → g (2 * j) = g (2 * j + 1)) {a b : Nat} (ha : a < n)
    (hi : 2 * i ≤ n) (o : jns R P i a b) : g a = g b := by
  induction i generalizing a b with
  | zero => exact hR a b ha o
  | succ i ih =>
    have ih := fun a b ha o => ih (fun j hj => hE j (by omega)) (a := a) (b := b) ha (by omega) o
    by_cases hp : P i
    · rw [jns_pos hp] at o
      have he := hE i (by omega) hp
      rcases o with o | ⟨o1, o2⟩ | ⟨o1, o2⟩
      · exact ih _ _ ha o
      · rw [ih _ _ ha o1, he, ih _ _ (by omega) o2]
      · rw [ih _ _ ha o1, ← he, ih _ _ (by omega) o2]
    · rw [jns_neg hp] at o
      exact ih _ _ ha o
theorem jns_cnt (h : Cls n R) {P : Nat → Prop} {i : Nat} (hi : 2 * i ≤ n) : cntR (jns R P i) n + num (fun j => P j ∧ ¬ jns R P j (2 * j) (2 * j + 1)) i = cntR R n := by
  induction i with
  | zero => rfl
  | succ i ih =>
    have ih := ih (by omega)
    have hc := jns_cls h (P := P) (i := i) (by omega)
    unfold num
    by_cases hp : P i
    · rw [jns_pos hp]
      by_cases o : jns R P i (2 * i) (2 * i + 1)
      · rw [cntR_jn_in hc (by omega) o, if_neg (fun e => e.2 o)]
        exact ih
      · have := cntR_jn_out hc (by omega) (by omega) o
        rw [if_pos ⟨hp, o⟩]
        omega
    · rw [jns_neg hp, if_neg (fun e => hp e.1)]
      exact ih
theorem cntR_one (h : Cls n R) (hn : 0 < n) (ht : ∀ a b, a < n → b < n → R a b) : cntR R n = 1 := by
  have h1 := h.nm_lt hn
  rcases Nat.lt_or_ge 1 (cntR R n) with h2 | h2
  · exfalso
    have : ∀ k, k ≤ n → lowsR R n k ≤ 1 := by
      intro k hk
      induction k with
      | zero => exact Nat.zero_le _
      | succ k ih =>
        by_cases hl : isLow R n k
        · have hk0 : k = 0 := by have := hl.2 0 (ht _ _ hl.1 hn); omega
          subst hk0
          have := lowsR_le (R := R) (n := n) 1
          exact this
        · rw [lowsR_succ_not hl]; exact ih (by omega)
    have := this n (Nat.le_refl _)
    unfold cntR at h2
    omega
  · omega
theorem cntR_one_all (h : Cls n R) (e : cntR R n = 1) {a b : Nat} (ha : a < n) (hb : b < n) : R a b := by
  rw [← h.nm_eq ha hb]
  have h1 := h.nm_lt ha
  have h2 := h.nm_lt hb
  omega
end

/-- Are there an odd number of them? -/
def par (z : Nat → Bool) : Nat → Bool
  | 0 => false
  | k + 1 => par z k ^^ z k
theorem par_congr {y z : Nat → Bool} {k : Nat} (h : ∀ i, i < k → y i = z i) : par y k = par z k := by
  induction k with
  | zero => rfl
  | succ k ih => rw [par, par, ih (fun i hi => h i (by omega)), h k (by omega)]
theorem par_xor (y z : Nat → Bool) (k : Nat) : par (fun i => y i ^^ z i) k = (par y k ^^ par z k) := by
  induction k with
  | zero => rfl
  | succ k ih =>
    simp only [par, ih]
    cases par y k <;> cases par z k <;> cases y k <;> cases z k <;> rfl
theorem par_none {z : Nat → Bool} {k : Nat} (h : ∀ i, i < k → z i = false) : par z k = false := by
  induction k with
  | zero => rfl
  | succ k ih => rw [par, ih (fun i hi => h i (by omega)), h k (by omega)]; rfl
theorem par_one {z : Nat → Bool} {k t : Nat} (ht : t < k) (h : ∀ i, i < k → z i = decide (i = t)) : par z k = true := by
  induction k with
  | zero => omega
  | succ k ih =>
    rw [par, h k (by omega)]
    by_cases e : k = t
    · subst e
      rw [par_none (fun i hi => by rw [h i (by omega)]; simp; omega)]
      simp
    · rw [ih (by omega) (fun i hi => h i (by omega))]
      simp [e]
theorem par_count (z : Nat → Bool) (k : Nat) : par z k = decide ((List.range k).countP z % 2 = 1) := by
  induction k with
  | zero => rfl
  | succ k ih =>
    rw [par, ih, List.range_succ, List.countP_append]
    generalize List.countP z (List.range k) = c
    cases h : z k
    · simp [h]
    · simp only [List.countP_cons, List.countP_nil, h, if_pos]
      rcases Nat.mod_two_eq_zero_or_one c with e | e
      · have : (c + (0 + 1)) % 2 = 1 := by omega
        simp [e, this]
      · have : (c + (0 + 1)) % 2 = 0 := by omega
        simp [e, this]
theorem Pm.range_perm {n : Nat} {f : Nat → Nat} (h : Pm n f) : ((List.range n).map f).Perm (List.range n) := by
  rw [List.perm_ext_iff_of_nodup ?_ List.nodup_range]
  · intro a
    simp only [List.mem_map, List.mem_range]
    constructor
    · rintro ⟨x, hx, rfl⟩; exact h.lt x hx
    · intro ha
      exact h.surj a ha
  · rw [List.Nodup, List.pairwise_map]
    refine List.Pairwise.imp_of_mem ?_ List.pairwise_lt_range
    intro a b ha hb hab e
    rw [List.mem_range] at ha hb
    have := h.inj a b ha hb e
    omega
theorem par_perm {n : Nat} {f : Nat → Nat} (h : Pm n f) (z : Nat → Bool) : par (fun d => z (f d)) n = par z n := by
  rw [par_count, par_count, ← h.range_perm.countP_eq z, List.countP_map]
  rfl
theorem par_edges (z : Nat → Bool) (k : Nat) : par z (2 * k) = par (fun i => z (2 * i) ^^ z (2 * i + 1)) k := by
  induction k with
  | zero => rfl
  | succ k ih =>
    rw [show 2 * (k + 1) = 2 * k + 1 + 1 by omega, par, par, ih, par, Bool.xor_assoc]

/-- Even at each class of darts that f keeps. -/
def Even (n : Nat) (f : Nat → Nat) (z : Nat → Bool) : Prop := ∀ K : Nat → Bool, (∀ d, d < n → K (f d) = K d) → par (fun d => K d && z d) n = false

theorem orb_cls {n : Nat} {f : Nat → Nat} (h : Pm n f) : Cls n (Orb f) :=
  ⟨Orb.refl f, fun _ _ ha o => h.orb_symm ha o, fun _ _ _ => .trans, fun _ _ ha o => h.orb_lt ha o⟩
theorem cntR_orb (f : Nat → Nat) (n : Nat) : cntR (Orb f) n = cnt f n := rfl

/-- The borders of faces are even. -/
theorem even_border {n : Nat} {f : Nat → Nat} (h : Pm n f) (A : Nat → Bool) (hA : ∀ d, d < n → A (f d) = A (mate d)) : Even n f (fun d => A d ^^ A (mate d)) := by
  intro K hK
  have e : par (fun d => K d && (A d ^^ A (mate d))) n = par (fun d => (K d && A d) ^^ (K (f d) && A (f d))) n :=
    par_congr fun d hd => by rw [hK d hd, hA d hd, Bool.and_xor_distrib_left]
  rw [e, par_xor, par_perm h (fun d => K d && A d), Bool.xor_self]
theorem Even.xor {n : Nat} {f : Nat → Nat} {y z : Nat → Bool} (hy : Even n f y) (hz : Even n f z) : Even n f (fun d => y d ^^ z d) := by
  intro K hK
  have e : par (fun d => K d && (y d ^^ z d)) n = par (fun d => (K d && y d) ^^ (K d && z d)) n :=
    par_congr fun d hd => by rw [Bool.and_xor_distrib_left]
  rw [e, par_xor, hy K hK, hz K hK]
  rfl
/-- An edge of a forest: no edge ahead joins its ends. -/
def Tre (f : Nat → Nat) (i : Nat) : Prop := ¬ jns (Orb f) (fun _ => True) i (2 * i) (2 * i + 1)

open Classical in
/-- What is even, on the edges of a forest alone, is nothing. -/
theorem even_tree {n : Nat} {f : Nat → Nat} (h : Pm n f) (he : n % 2 = 0) {z : Nat → Bool} (hz : Even n f z) (hm : ∀ d, d < n → z (mate d) = z d)
    (ht : ∀ i, 2 * i < n → z (2 * i) = true → Tre f i) : ∀ d, d < n → z d = false := by
  have hm2 : ∀ i, 2 * i < n → z (2 * i + 1) = z (2 * i) := fun i hi => by
    have := hm (2 * i) hi
    rwa [show mate (2 * i) = 2 * i + 1 by unfold mate; rw [if_pos (by omega)]] at this
  have key : ∀ i, 2 * i < n → z (2 * i) = false := by
    apply Classical.byContradiction
    intro hno
    simp only [Classical.not_forall] at hno
    obtain ⟨i0, hi0, hz0⟩ := hno
    -- the greatest
    have hmax : ∃ t, 2 * t < n ∧ z (2 * t) = true ∧ ∀ i, t < i → 2 * i < n → z (2 * i) = false := by
      apply Classical.byContradiction
      intro hno
      have : ∀ k i, 2 * i < n → z (2 * i) = true → n ≤ 2 * i + k → False := by
        intro k
        induction k with
        | zero => intro i h1 _ h3; omega
        | succ k ih =>
          intro i h1 h2 h3
          apply hno
          refine ⟨i, h1, h2, fun j hj hjn => ?_⟩
          cases hzj : z (2 * j)
          · rfl
          · exact (ih j hjn hzj (by omega)).elim
      exact this n i0 hi0 (by simpa using hz0) (by omega)
    obtain ⟨t, htn, htz, htm⟩ := hmax
    have hT := ht t htn htz
    have hc := jns_cls (orb_cls h) (P := fun _ => True) (i := t) (by omega)
    have hK := hz (fun d => decide (jns (Orb f) (fun _ => True) t (2 * t) d)) (fun d hd => by
      have : jns (Orb f) (fun _ => True) t (2 * t) (f d) ↔ jns (Orb f) (fun _ => True) t (2 * t) d := by
        constructor
        · exact fun o => hc.trans _ _ _ o (jns_of (h.orb_symm hd (Orb.step f d)))
        · exact fun o => hc.trans _ _ _ o (jns_of (Orb.step f d))
      simp only [this])
    rw [show n = 2 * (n / 2) by omega, par_edges] at hK
    rw [par_one (t := t) (by omega) (fun i hi => ?_)] at hK
    · cases hK
    · rw [hm2 i (by omega)]
      by_cases e : i = t
      · subst e
        have h1 : ¬ jns (Orb f) (fun _ => True) i (2 * i) (2 * i + 1) := hT
        have h2 := hc.refl (2 * i)
        simp [htz, h1, h2]
      · rcases Nat.lt_or_ge i t with h1 | h1
        · have ee := jns_edge (orb_cls h) (P := fun _ => True) h1 (by omega) trivial
          have : jns (Orb f) (fun _ => True) t (2 * t) (2 * i + 1) ↔ jns (Orb f) (fun _ => True) t (2 * t) (2 * i) :=
            ⟨fun o => hc.trans _ _ _ o ee.2, fun o => hc.trans _ _ _ o ee.1⟩
          simp only [this, Bool.xor_self]
          simp [e]
        · rw [htm i (by omega) (by omega)]
          simp [e]
  intro d hd
  rcases Nat.mod_two_eq_zero_or_one d with e | e
  · have := key (d / 2) (by omega)
    rwa [show 2 * (d / 2) = d by omega] at this
  · have h1 := key (d / 2) (by omega)
    have h2 := hm2 (d / 2) (by omega)
    rw [h1, show 2 * (d / 2) + 1 = d by omega] at h2
    exact h2

/-- Along faces. -/
def ph (f : Nat → Nat) (d : Nat) : Nat := f (mate d)
theorem ph_pm {n : Nat} {f : Nat → Nat} (h : Pm n f) (he : n % 2 = 0) : Pm n (ph f) := by
  refine ⟨fun x hx => h.lt _ (mate_lt he hx), fun x y hx hy e => ?_⟩
  have := h.inj _ _ (mate_lt he hx) (mate_lt he hy) e
  rw [← mate_mate x, this, mate_mate]

open Classical in
/-- Colors of the faces for what is asked of the edges of a forest of faces. -/
theorem tree_border {n : Nat} {f : Nat → Nat} (h : Pm n f) (he : n % 2 = 0) (P : Nat → Prop) (z : Nat → Bool) (k : Nat) (hk : 2 * k ≤ n)
    (hC : ∀ i, i < k → P i → ¬ jns (Orb (ph f)) P i (2 * i) (2 * i + 1)) :
    ∃ A : Nat → Bool, (∀ d, d < n → A (ph f d) = A d) ∧ ∀ i, i < k → P i → (A (2 * i) ^^ A (2 * i + 1)) = z (2 * i) := by
  induction k with
  | zero => exact ⟨fun _ => false, fun _ _ => rfl, fun i hi => absurd hi (by omega)⟩
  | succ k ih =>
    obtain ⟨A, hA, hE⟩ := ih (by omega) (fun i hi => hC i (by omega))
    by_cases hp : P k ∧ (A (2 * k) ^^ A (2 * k + 1)) ≠ z (2 * k)
    · have hf := ph_pm h he
      have hc := jns_cls (orb_cls hf) (P := P) (i := k) (by omega)
      refine ⟨fun d => A d ^^ decide (jns (Orb (ph f)) P k (2 * k) d), fun d hd => ?_, fun i hi hpi => ?_⟩
      · have : jns (Orb (ph f)) P k (2 * k) (ph f d) ↔ jns (Orb (ph f)) P k (2 * k) d :=
          ⟨fun o => hc.trans _ _ _ o (jns_of (hf.orb_symm hd (Orb.step _ d))), fun o => hc.trans _ _ _ o (jns_of (Orb.step _ d))⟩
        simp only [this, hA d hd]
      · rcases Nat.lt_or_ge i k with h1 | h1
        · have ee := jns_edge (orb_cls hf) h1 (by omega) hpi
          have : jns (Orb (ph f)) P k (2 * k) (2 * i + 1) ↔ jns (Orb (ph f)) P k (2 * k) (2 * i) :=
            ⟨fun o => hc.trans _ _ _ o ee.2, fun o => hc.trans _ _ _ o ee.1⟩
          simp only [this]
          rw [← hE i h1 hpi]
          cases A (2 * i) <;> cases A (2 * i + 1) <;> cases decide (jns (Orb (ph f)) P k (2 * k) (2 * i)) <;> rfl
        · obtain rfl : i = k := by omega
          have h1 := hC i (by omega) hpi
          have h2 := hc.refl (2 * i)
          have h3 := hp.2
          simp only [h1, h2, decide_true, decide_false]
          revert h3
          cases A (2 * i) <;> cases A (2 * i + 1) <;> cases z (2 * i) <;> simp
    · refine ⟨A, hA, fun i hi hpi => ?_⟩
      rcases Nat.lt_or_ge i k with h1 | h1
      · exact hE i h1 hpi
      · obtain rfl : i = k := by omega
        apply Classical.byContradiction
        exact fun e => hp ⟨hpi, e⟩

theorem num_congr {P Q : Nat → Prop} {k : Nat} (h : ∀ i, i < k → (P i ↔ Q i)) : num P k = num Q k := by
  induction k with
  | zero => rfl
  | succ k ih =>
    unfold num
    rw [ih (fun i hi => h i (by omega))]
    by_cases hp : P k
    · rw [if_pos hp, if_pos ((h k (by omega)).1 hp)]
    · rw [if_neg hp, if_neg (fun e => hp ((h k (by omega)).2 e))]

open Classical in
/-- On a plane, in one part, each cycle is the border of some faces. -/
theorem plane {n : Nat} {f : Nat → Nat} (h : Pm n f) (he : n % 2 = 0) (hn : 0 < n) (hc : ∀ a b, a < n → b < n → Conn f a b) (heul : n / 2 + 2 ≤ cnt f n + cnt (ph f) n)
    {z : Nat → Bool} (hm : ∀ d, d < n → z (mate d) = z d) (hz : Even n f z) :
    ∃ A : Nat → Bool, (∀ d, d < n → A (ph f d) = A d) ∧ ∀ d, d < n → (A d ^^ A (mate d)) = z d := by
  have hf := ph_pm h he
  let P : Nat → Prop := fun i => ¬ Tre f i
  have hR := jns_cls (orb_cls h) (P := fun _ => True) (i := n / 2) (by omega)
  have hQ := jns_cls (orb_cls hf) (P := P) (i := n / 2) (by omega)
  have hcR := jns_cnt (orb_cls h) (P := fun _ => True) (i := n / 2) (by omega)
  have hcQ := jns_cnt (orb_cls hf) (P := P) (i := n / 2) (by omega)
  rw [cntR_orb] at hcR hcQ
  have hall : ∀ a b, a < n → b < n → jns (Orb f) (fun _ => True) (n / 2) a b := by
    intro a b ha hb
    have := hc a b ha hb
    induction this with
    | refl => exact hR.refl _
    | sig c o ih =>
      have hcl := o.lt h he ha
      exact hR.trans _ _ _ (ih hcl) (jns_of (Orb.step f c))
    | mat c o ih =>
      have hcl := o.lt h he ha
      exact hR.trans _ _ _ (ih hcl) (jns_mate (orb_cls h) (by omega) (by omega) trivial)
  rw [cntR_one hR hn hall] at hcR
  -- what borders are on the tree alone is nothing
  have hzero : ∀ y : Nat → Bool, (∀ d, d < n → y (mate d) = y d) → Even n f y → (∀ i, i < n / 2 → P i → y (2 * i) = false) → ∀ d, d < n → y d = false := by
    intro y hy1 hy2 hy3
    refine even_tree h he hy2 hy1 (fun i hi hyi => ?_)
    apply Classical.byContradiction
    intro hno
    rw [hy3 i (by omega) hno] at hyi
    cases hyi
  have hsy : ∀ A : Nat → Bool, ∀ d, d < n → (A (mate d) ^^ A (mate (mate d))) = (A d ^^ A (mate d)) := fun A d _ => by rw [mate_mate, Bool.xor_comm]
  have hbd : ∀ A : Nat → Bool, (∀ d, d < n → A (ph f d) = A d) → ∀ d, d < n → A (f d) = A (mate d) := fun A hA d hd => by
    have := hA (mate d) (mate_lt he hd)
    rwa [ph, mate_mate] at this
  have hme : ∀ i, mate (2 * i) = 2 * i + 1 := fun i => by unfold mate; rw [if_pos (by omega)]
  -- the faces are one class
  have hallQ : ∀ a b, a < n → b < n → jns (Orb (ph f)) P (n / 2) a b := by
    intro a b ha hb
    have hK : ∀ d, d < n → (jns (Orb (ph f)) P (n / 2) a (ph f d) ↔ jns (Orb (ph f)) P (n / 2) a d) := fun d hd =>
      ⟨fun o => hQ.trans _ _ _ o (jns_of (hf.orb_symm hd (Orb.step _ d))), fun o => hQ.trans _ _ _ o (jns_of (Orb.step _ d))⟩
    have hA : ∀ d, d < n → (fun d => decide (jns (Orb (ph f)) P (n / 2) a d)) (ph f d) = (fun d => decide (jns (Orb (ph f)) P (n / 2) a d)) d := fun d hd => decide_eq_decide.2 (hK d hd)
    have h0 := hzero (fun d => decide (jns (Orb (ph f)) P (n / 2) a d) ^^ decide (jns (Orb (ph f)) P (n / 2) a (mate d))) (hsy (fun d => decide (jns (Orb (ph f)) P (n / 2) a d))) (even_border h _ (hbd (fun d => decide (jns (Orb (ph f)) P (n / 2) a d)) hA)) (fun i hi hp => by
      have ee := jns_edge (orb_cls hf) hi (by omega) hp
      rw [hme]
      have : jns (Orb (ph f)) P (n / 2) a (2 * i + 1) ↔ jns (Orb (ph f)) P (n / 2) a (2 * i) :=
        ⟨fun o => hQ.trans _ _ _ o ee.2, fun o => hQ.trans _ _ _ o ee.1⟩
      simp only [this, Bool.xor_self])
    have hmt : ∀ d, d < n → (jns (Orb (ph f)) P (n / 2) a (mate d) ↔ jns (Orb (ph f)) P (n / 2) a d) := fun d hd => by
      have := h0 d hd
      simp only [bne_eq_false_iff_eq, decide_eq_decide] at this
      exact this.symm
    have := hc a b ha hb
    induction this with
    | refl => exact hQ.refl _
    | sig c o ih =>
      have hcl := o.lt h he ha
      have h1 := hK (mate c) (mate_lt he hcl)
      rw [ph, mate_mate] at h1
      exact h1.2 ((hmt c hcl).2 (ih hcl))
    | mat c o ih =>
      have hcl := o.lt h he ha
      exact (hmt c hcl).2 (ih hcl)
  rw [cntR_one hQ hn hallQ] at hcQ
  have hdis := num_two (P := fun j => True ∧ ¬ jns (Orb f) (fun _ => True) j (2 * j) (2 * j + 1)) (Q := fun j => P j ∧ ¬ jns (Orb (ph f)) P j (2 * j) (2 * j + 1)) (fun i h1 h2 => h2.1 h1.2) (n / 2)
  have hcov := hdis.2 (by omega)
  obtain ⟨A, hA, hE⟩ := tree_border h he P z (n / 2) (by omega) (fun i hi hp => by
    rcases hcov i hi with h1 | h1
    · exact absurd h1.2 hp
    · exact h1.2)
  refine ⟨A, hA, fun d hd => ?_⟩
  have h0 := hzero (fun d => z d ^^ (A d ^^ A (mate d))) (fun d hd => by rw [hm d hd, hsy A d hd]) (hz.xor (even_border h A (hbd A hA))) (fun i hi hp => by
    rw [hme, hE i hi hp, Bool.xor_self]) d hd
  revert h0
  cases z d <;> cases (A d ^^ A (mate d)) <;> simp
end Go.Proofs.Ythakkchmegnlhaa.Pq
