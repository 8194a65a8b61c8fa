/- Plain mathematics: two values of a permutation are swapped; vertices, edges and borders are even together; orbits of three. -/
import Derived.Test.YthakkchmegnlhaaM9
namespace Go.Proofs.Ythakkchmegnlhaa.Pq

/-- The values at a and b are swapped. -/
def swp (f : Nat → Nat) (a b x : Nat) : Nat := if x = a then f b else if x = b then f a else f x
section
variable {n : Nat} {f : Nat → Nat} {a b : Nat}
theorem swp_a : swp f a b a = f b := by unfold swp; rw [if_pos rfl]
theorem swp_b (h : a ≠ b) : swp f a b b = f a := by unfold swp; rw [if_neg (Ne.symm h), if_pos rfl]
theorem swp_o {x : Nat} (h1 : x ≠ a) (h2 : x ≠ b) : swp f a b x = f x := by unfold swp; rw [if_neg h1, if_neg h2]
theorem swp_pm (hf : Pm n f) (ha : a < n) (hb : b < n) (h : a ≠ b) : Pm n (swp f a b) := by
  have hi : ∀ x, x < n → ∃ y, y < n ∧ swp f a b x = f y ∧ ((x = a ∧ y = b) ∨ (x = b ∧ y = a) ∨ (x ≠ a ∧ x ≠ b ∧ y = x)) := fun x hx => by
    by_cases h1 : x = a
    · subst h1; exact ⟨b, hb, swp_a, .inl ⟨rfl, rfl⟩⟩
    · by_cases h2 : x = b
      · subst h2; exact ⟨a, ha, swp_b h, .inr (.inl ⟨rfl, rfl⟩)⟩
      · exact ⟨x, hx, swp_o h1 h2, .inr (.inr ⟨h1, h2, rfl⟩)⟩
  refine ⟨fun x hx => ?_, fun x y hx hy e => ?_⟩
  · obtain ⟨y, hy, e, _⟩ := hi x hx
    rw [e]; exact hf.lt y hy
  · obtain ⟨u, hu, e1, c1⟩ := hi x hx
    obtain ⟨v, hv, e2, c2⟩ := hi y hy
    rw [e1, e2] at e
    have := hf.inj u v hu hv e
    rcases c1 with ⟨p, q⟩ | ⟨p, q⟩ | ⟨p, p2, q⟩ <;> rcases c2 with ⟨u1, u2⟩ | ⟨u1, u2⟩ | ⟨u1, u3, u2⟩ <;> omega
theorem swp_swp (h : a ≠ b) : swp (swp f a b) a b = f := by
  funext x
  by_cases h1 : x = a
  · subst h1; rw [swp_a, swp_b h]
  · by_cases h2 : x = b
    · subst h2; rw [swp_b h, swp_a]
    · rw [swp_o h1 h2, swp_o h1 h2]
theorem swp_jn (hf : Pm n f) (ha : a < n) (hb : b < n) (h : a ≠ b) {x y : Nat} (hx : x < n) (o : Orb (swp f a b) x y) : Jn (Orb f) a b x y := by
  have hc := (orb_cls hf).jn ha hb
  obtain ⟨k, rfl⟩ := o
  induction k with
  | zero => exact hc.refl _
  | succ k ih =>
    rw [it_succ']
    have hy := (swp_pm hf ha hb h).it_lt k x hx
    generalize it (swp f a b) k x = y at ih hy
    refine hc.trans _ _ _ ih ?_
    by_cases h1 : y = a
    · subst h1; rw [swp_a]; exact .inr (.inl ⟨Orb.refl _ _, Orb.step _ _⟩)
    · by_cases h2 : y = b
      · subst h2; rw [swp_b h]; exact .inr (.inr ⟨Orb.refl _ _, Orb.step _ _⟩)
      · rw [swp_o h1 h2]; exact .inl (Orb.step _ _)
theorem swp_cnt_jn (hf : Pm n f) (ha : a < n) (hb : b < n) (h : a ≠ b) : cntR (Jn (Orb (swp f a b)) a b) n = cntR (Jn (Orb f) a b) n := by
  have hp := swp_pm hf ha hb h
  have hc := (orb_cls hf).jn ha hb
  have hc2 := (orb_cls hp).jn ha hb
  have key : ∀ {u v : Nat → Nat}, Pm n u → Pm n v → (∀ x y, x < n → Orb u x y → Jn (Orb v) a b x y) → ∀ x y, x < n → Jn (Orb u) a b x y → Jn (Orb v) a b x y := by
    intro u v hu hv hh x y hx o
    have hcv := (orb_cls hv).jn ha hb
    rcases o with o | ⟨o1, o2⟩ | ⟨o1, o2⟩
    · exact hh x y hx o
    · exact hcv.trans _ _ _ (hh x a hx o1) (hcv.trans _ _ _ (Jn.ab (orb_cls hv) a b) (hh b y hb o2))
    · exact hcv.trans _ _ _ (hh x b hx o1) (hcv.trans _ _ _ (Jn.ba (orb_cls hv) a b) (hh a y ha o2))
  refine cntR_congr fun x y hx => ⟨key hp hf (fun x y hx o => swp_jn hf ha hb h hx o) x y hx, key hf hp (fun x y hx o => ?_) x y hx⟩
  rw [← swp_swp (f := f) h] at o
  exact swp_jn hp ha hb h hx o
/-- On the way from a, before it comes to a or b, it is as from b with the values swapped. -/
theorem swp_run (h : a ≠ b) {k : Nat} (hk : ∀ i, 0 < i → i < k → it f i a ≠ a ∧ it f i a ≠ b) : ∀ i : Nat, 0 < i → i ≤ k → it (swp f a b) i b = it f i a := by
  intro i h0 hi
  induction i with
  | zero => omega
  | succ i ih =>
    rw [it_succ', it_succ']
    rcases Nat.eq_zero_or_pos i with e | e
    · subst e; exact swp_b h
    · rw [ih e (by omega)]
      have := hk i e (by omega)
      exact swp_o this.1 this.2
theorem swp_in (hf : Pm n f) (ha : a < n) (hb : b < n) (h : a ≠ b) (o : Orb f a b) : ¬ Orb (swp f a b) a b := by
  have hp := swp_pm hf ha hb h
  obtain ⟨k, hk, ek⟩ := hf.exists_it ha hb ((hf.nm_eq ha hb).2 o).symm
  have hk0 : 0 < k := by
    rcases Nat.eq_zero_or_pos k with e | e
    · subst e; exact absurd ek h
    · exact e
  have hr := swp_run (f := f) h (k := k) (fun i i1 i2 => ⟨(hf.per_spec ha).2.2 i i1 (by omega), fun e => hf.it_ne ha i2 hk (by rw [e, ek])⟩)
  have hkb := hr k hk0 (Nat.le_refl _)
  rw [ek] at hkb
  intro ho
  obtain ⟨m, em⟩ := hp.orb_symm ha ho
  rw [it_mod hkb m] at em
  have hm := Nat.mod_lt m hk0
  rcases Nat.eq_zero_or_pos (m % k) with e | e
  · rw [e] at em; exact h em.symm
  · rw [hr _ e (by omega)] at em
    exact (hf.per_spec ha).2.2 _ e (by omega) em
theorem swp_out (hf : Pm n f) (ha : a < n) (hb : b < n) (h : a ≠ b) (o : ¬ Orb f a b) : Orb (swp f a b) a b := by
  have hp := swp_pm hf ha hb h
  have s := hf.per_spec ha
  have hr := swp_run (f := f) h (k := per f a) (fun i i1 i2 => ⟨s.2.2 i i1 i2, fun e => o ⟨i, e⟩⟩) _ s.1 (Nat.le_refl _)
  rw [s.2.1] at hr
  exact hp.orb_symm hb ⟨_, hr⟩
theorem swp_cnt (hf : Pm n f) (ha : a < n) (hb : b < n) (h : a ≠ b) : (Orb f a b → cnt (swp f a b) n = cnt f n + 1) ∧ (¬ Orb f a b → cnt (swp f a b) n + 1 = cnt f n) := by
  have hp := swp_pm hf ha hb h
  have e := swp_cnt_jn hf ha hb h
  constructor
  · intro o
    have h1 := cntR_jn_in (orb_cls hf) ha o
    have h2 := cntR_jn_out (orb_cls hp) ha hb (swp_in hf ha hb h o)
    rw [cntR_orb] at h1 h2
    omega
  · intro o
    have h1 := cntR_jn_out (orb_cls hf) ha hb o
    have h2 := cntR_jn_in (orb_cls hp) ha (swp_out hf ha hb h o)
    rw [cntR_orb] at h1 h2
    omega
end

/-- The first edges' values are swapped. -/
def swm (f : Nat → Nat) (i x : Nat) : Nat := if x / 2 < i then f (mate x) else f x
theorem swm_zero (f : Nat → Nat) : swm f 0 = f := by funext x; unfold swm; rw [if_neg (by omega)]
theorem swm_succ (f : Nat → Nat) (i : Nat) : swm f (i + 1) = swp (swm f i) (2 * i) (2 * i + 1) := by
  have m1 : mate (2 * i) = 2 * i + 1 := by unfold mate; rw [if_pos (by omega)]
  have m2 : mate (2 * i + 1) = 2 * i := by unfold mate; rw [if_neg (by omega)]; rfl
  funext x
  by_cases h1 : x = 2 * i
  · subst h1
    rw [swp_a, swm, swm, if_pos (by omega), if_neg (by omega), m1]
  · by_cases h2 : x = 2 * i + 1
    · subst h2
      rw [swp_b (by omega), swm, swm, if_pos (by omega), if_neg (by omega), m2]
    · rw [swp_o h1 h2, swm, swm]
      by_cases h3 : x / 2 < i
      · rw [if_pos h3, if_pos (by omega)]
      · rw [if_neg h3, if_neg (by omega)]
theorem swm_parity {n : Nat} {f : Nat → Nat} (hf : Pm n f) (i : Nat) (hi : 2 * i ≤ n) : Pm n (swm f i) ∧ (cnt (swm f i) n + cnt f n + i) % 2 = 0 := by
  induction i with
  | zero => rw [swm_zero]; exact ⟨hf, by omega⟩
  | succ i ih =>
    obtain ⟨hp, hq⟩ := ih (by omega)
    rw [swm_succ]
    refine ⟨swp_pm hp (by omega) (by omega) (by omega), ?_⟩
    have := swp_cnt hp (a := 2 * i) (b := 2 * i + 1) (by omega) (by omega) (by omega)
    by_cases o : Orb (swm f i) (2 * i) (2 * i + 1)
    · have := this.1 o; omega
    · have := this.2 o; omega
theorem lows_congr {f g : Nat → Nat} {n : Nat} (h : ∀ d x, d < n → (Orb f d x ↔ Orb g d x)) : cnt f n = cnt g n := by
  rw [← cntR_orb, ← cntR_orb]
  exact cntR_congr fun a b ha => h a b ha
theorem orb_congr {f g : Nat → Nat} {n : Nat} (hf : Pm n f) (h : ∀ x, x < n → f x = g x) {d x : Nat} (hd : d < n) (o : Orb f d x) : Orb g d x := by
  obtain ⟨k, rfl⟩ := o
  induction k with
  | zero => exact Orb.refl _ _
  | succ k ih =>
    rw [it_succ', h _ (hf.it_lt k d hd)]
    exact ih.trans (Orb.step _ _)
theorem pm_congr {f g : Nat → Nat} {n : Nat} (hf : Pm n f) (h : ∀ x, x < n → f x = g x) : Pm n g :=
  ⟨fun x hx => by rw [← h x hx]; exact hf.lt x hx, fun x y hx hy e => by rw [← h x hx, ← h y hy] at e; exact hf.inj x y hx hy e⟩
theorem cnt_congr {f g : Nat → Nat} {n : Nat} (hf : Pm n f) (h : ∀ x, x < n → f x = g x) : cnt f n = cnt g n :=
  lows_congr fun _ _ hd => ⟨fun o => orb_congr hf h hd o, fun o => orb_congr (pm_congr hf h) (fun x hx => (h x hx).symm) hd o⟩
/-- Vertices, edges and borders are even together. -/
theorem euler_even {n : Nat} {f : Nat → Nat} (hf : Pm n f) (he : n % 2 = 0) : (cnt f n + n / 2 + cnt (ph f) n) % 2 = 0 := by
  have := (swm_parity hf (n / 2) (by omega)).2
  rw [cnt_congr (swm_parity hf (n / 2) (by omega)).1 (g := ph f) (fun x hx => by rw [swm, if_pos (by omega)]; rfl)] at this
  omega
end Go.Proofs.Ythakkchmegnlhaa.Pq
