/- Plain mathematics: permutations of the numbers below n, their orbits, least numbers, and how many orbits there are. -/
namespace Go.Proofs.Ythakkchmegnlhaa.Pq

/-- k times. -/
def it (f : Nat → Nat) : Nat → Nat → Nat
  | 0, x => x
  | k + 1, x => it f k (f x)

theorem it_zero (f : Nat → Nat) (x : Nat) : it f 0 x = x := rfl
theorem it_succ (f : Nat → Nat) (k x : Nat) : it f (k + 1) x = it f k (f x) := rfl
theorem it_add (f : Nat → Nat) (a b x : Nat) : it f (a + b) x = it f b (it f a x) := by
  induction a generalizing x with
  | zero => simp [it]
  | succ a ih => rw [Nat.succ_add]; exact ih (f x)
theorem it_succ' (f : Nat → Nat) (k x : Nat) : it f (k + 1) x = f (it f k x) := by
  rw [it_add]; rfl

/-- A permutation of the numbers below n. -/
structure Pm (n : Nat) (f : Nat → Nat) : Prop where
  lt : ∀ x, x < n → f x < n
  inj : ∀ x y, x < n → y < n → f x = f y → x = y

theorem Pm.it_lt {n : Nat} {f : Nat → Nat} (h : Pm n f) (k x : Nat) (hx : x < n) : it f k x < n := by
  induction k generalizing x with
  | zero => exact hx
  | succ k ih => exact ih _ (h.lt x hx)

theorem Pm.it_inj {n : Nat} {f : Nat → Nat} (h : Pm n f) (k x y : Nat) (hx : x < n) (hy : y < n) (e : it f k x = it f k y) : x = y := by
  induction k generalizing x y with
  | zero => exact e
  | succ k ih => exact h.inj _ _ hx hy (ih _ _ (h.lt x hx) (h.lt y hy) e)

/-- Among more numbers than there is room for two are the same. -/
theorem pigeon (n : Nat) (g : Nat → Nat) (h : ∀ i, i ≤ n → g i < n) : ∃ i j, i < j ∧ j ≤ n ∧ g i = g j := by
  apply Classical.byContradiction
  intro hno
  have hnd : ((List.range (n + 1)).map g).Nodup := by
    rw [List.Nodup, List.pairwise_map]
    refine List.Pairwise.imp_of_mem ?_ List.pairwise_lt_range
    intro a b ha hb hab e
    simp at ha hb
    exact hno ⟨a, b, hab, by omega, e⟩
  have hs : ((List.range (n + 1)).map g) ⊆ List.range n := by
    intro x hx
    simp at hx ⊢
    obtain ⟨i, hi, rfl⟩ := hx
    exact h i (by omega)
  have := hnd.length_le_of_subset hs
  simp at this
  omega

theorem Pm.back {n : Nat} {f : Nat → Nat} (h : Pm n f) (x : Nat) (hx : x < n) : ∃ k, 0 < k ∧ k ≤ n ∧ it f k x = x := by
  obtain ⟨i, j, hij, hj, e⟩ := pigeon n (fun i => it f i x) (fun i _ => h.it_lt i x hx)
  refine ⟨j - i, by omega, by omega, ?_⟩
  have : it f j x = it f i (it f (j - i) x) := by rw [← it_add]; congr 1; omega
  rw [this] at e
  exact (h.it_inj i _ _ hx (h.it_lt _ x hx) e).symm

/-- The same orbit. -/
def Orb (f : Nat → Nat) (a b : Nat) : Prop := ∃ k, it f k a = b

theorem Orb.refl (f : Nat → Nat) (a : Nat) : Orb f a a := ⟨0, rfl⟩
theorem Orb.step (f : Nat → Nat) (a : Nat) : Orb f a (f a) := ⟨1, rfl⟩
theorem Orb.trans {f : Nat → Nat} {a b c : Nat} (h : Orb f a b) (h' : Orb f b c) : Orb f a c := by
  obtain ⟨k, rfl⟩ := h
  obtain ⟨l, rfl⟩ := h'
  exact ⟨k + l, it_add f k l a⟩

theorem it_mul_back {f : Nat → Nat} {p x : Nat} (e : it f p x = x) (m : Nat) : it f (m * p) x = x := by
  induction m with
  | zero => simp [it]
  | succ m ih => rw [Nat.succ_mul, it_add, ih, e]

theorem Pm.orb_symm {n : Nat} {f : Nat → Nat} (h : Pm n f) {a b : Nat} (ha : a < n) (o : Orb f a b) : Orb f b a := by
  obtain ⟨k, rfl⟩ := o
  obtain ⟨p, hp, _, e⟩ := h.back a ha
  refine ⟨(k + 1) * p - k, ?_⟩
  rw [← it_add, show k + ((k + 1) * p - k) = (k + 1) * p from ?_]
  · exact it_mul_back e _
  · have : k + 1 ≤ (k + 1) * p := Nat.le_mul_of_pos_right _ hp
    omega

theorem Pm.orb_lt {n : Nat} {f : Nat → Nat} (h : Pm n f) {a b : Nat} (ha : a < n) (o : Orb f a b) : b < n := by
  obtain ⟨k, rfl⟩ := o
  exact h.it_lt k a ha

theorem Pm.surj {n : Nat} {f : Nat → Nat} (h : Pm n f) (y : Nat) (hy : y < n) : ∃ x, x < n ∧ f x = y := by
  obtain ⟨k, hk, _, e⟩ := h.back y hy
  obtain ⟨j, rfl⟩ : ∃ j, k = j + 1 := ⟨k - 1, by omega⟩
  rw [it_succ'] at e
  exact ⟨it f j y, h.it_lt j y hy, e⟩

/-- Whatever a step keeps, an orbit keeps. -/
theorem Orb.keep {α : Type} {f : Nat → Nat} {n : Nat} (h : Pm n f) (g : Nat → α) (hg : ∀ x, x < n → g (f x) = g x) {a b : Nat} (ha : a < n) (o : Orb f a b) : g b = g a := by
  obtain ⟨k, rfl⟩ := o
  induction k generalizing a with
  | zero => rfl
  | succ k ih => rw [it_succ, ih (h.lt a ha), hg a ha]

/-- The least one of an orbit. -/
def isLeast (f : Nat → Nat) (n d : Nat) : Prop := d < n ∧ ∀ x, Orb f d x → d ≤ x

theorem Pm.exists_least {n : Nat} {f : Nat → Nat} (h : Pm n f) (a : Nat) (ha : a < n) : ∃ d, isLeast f n d ∧ Orb f a d := by
  induction a using Nat.strongRecOn with
  | _ a ih =>
    by_cases hl : ∀ x, Orb f a x → a ≤ x
    · exact ⟨a, ⟨ha, hl⟩, Orb.refl f a⟩
    · simp only [Classical.not_forall] at hl
      obtain ⟨x, o, hx⟩ := hl
      obtain ⟨d, hd, od⟩ := ih x (by omega) (h.orb_lt ha o)
      exact ⟨d, hd, o.trans od⟩

theorem Pm.least_unique {n : Nat} {f : Nat → Nat} (h : Pm n f) {a b : Nat} (ha : isLeast f n a) (hb : isLeast f n b) (o : Orb f a b) : a = b := by
  have h1 := ha.2 b o
  have h2 := hb.2 a (h.orb_symm ha.1 o)
  omega


/-- How long it takes to come back. -/
theorem Pm.exists_per {n : Nat} {f : Nat → Nat} (h : Pm n f) (x : Nat) (hx : x < n) : ∃ p, 0 < p ∧ p ≤ n ∧ it f p x = x ∧ ∀ k, 0 < k → k < p → it f k x ≠ x := by
  obtain ⟨k, hk, hkn, e⟩ := h.back x hx
  induction k using Nat.strongRecOn with
  | _ k ih =>
    by_cases hm : ∀ j, 0 < j → j < k → it f j x ≠ x
    · exact ⟨k, hk, hkn, e, hm⟩
    · simp only [Classical.not_forall, Classical.not_not] at hm
      obtain ⟨j, hj, hjk, e'⟩ := hm
      exact ih j hjk hj (by omega) e'

/-- The period: 0 where there is none. -/
noncomputable def per (f : Nat → Nat) (x : Nat) : Nat := open Classical in if h : ∃ p, 0 < p ∧ it f p x = x ∧ ∀ k, 0 < k → k < p → it f k x ≠ x then h.choose else 0

theorem Pm.per_spec {n : Nat} {f : Nat → Nat} (h : Pm n f) {x : Nat} (hx : x < n) : 0 < per f x ∧ it f (per f x) x = x ∧ ∀ k, 0 < k → k < per f x → it f k x ≠ x := by
  obtain ⟨p, h1, _, h2, h3⟩ := h.exists_per x hx
  have he : ∃ p, 0 < p ∧ it f p x = x ∧ ∀ k, 0 < k → k < p → it f k x ≠ x := ⟨p, h1, h2, h3⟩
  unfold per
  rw [dif_pos he]
  exact he.choose_spec

theorem per_unique {f : Nat → Nat} {x p q : Nat} (hp : 0 < p) (ep : it f p x = x) (mp : ∀ k, 0 < k → k < p → it f k x ≠ x)
    (hq : 0 < q) (eq : it f q x = x) (mq : ∀ k, 0 < k → k < q → it f k x ≠ x) : p = q := by
  rcases Nat.lt_trichotomy p q with h | h | h
  · exact absurd ep (mq p hp h)
  · exact h
  · exact absurd eq (mp q hq h)

theorem Pm.per_eq {n : Nat} {f : Nat → Nat} (h : Pm n f) {x p : Nat} (hx : x < n) (hp : 0 < p) (ep : it f p x = x) (mp : ∀ k, 0 < k → k < p → it f k x ≠ x) : per f x = p :=
  have s := h.per_spec hx
  per_unique s.1 s.2.1 s.2.2 hp ep mp

theorem Pm.per_le {n : Nat} {f : Nat → Nat} (h : Pm n f) {x : Nat} (hx : x < n) : per f x ≤ n := by
  obtain ⟨p, h1, h0, h2, h3⟩ := h.exists_per x hx
  rw [h.per_eq hx h1 h2 h3]; exact h0

theorem it_mod {f : Nat → Nat} {p x : Nat} (e : it f p x = x) (k : Nat) : it f k x = it f (k % p) x := by
  have : k = (k / p) * p + k % p := by rw [Nat.mul_comm]; exact (Nat.div_add_mod k p).symm
  conv => lhs; rw [this]
  rw [it_add, it_mul_back e]

/-- Within the period all are unlike. -/
theorem Pm.it_ne {n : Nat} {f : Nat → Nat} (h : Pm n f) {x : Nat} (hx : x < n) {i j : Nat} (hij : i < j) (hj : j < per f x) : it f i x ≠ it f j x := by
  intro e
  have e2 : it f j x = it f i (it f (j - i) x) := by rw [← it_add]; congr 1; omega
  rw [e2] at e
  exact (h.per_spec hx).2.2 (j - i) (by omega) (by omega) (h.it_inj i _ _ hx (h.it_lt _ x hx) e).symm

/-- The orbit from one on. -/
noncomputable def orb (f : Nat → Nat) (x : Nat) : List Nat := (List.range (per f x)).map fun k => it f k x

theorem Pm.mem_orb {n : Nat} {f : Nat → Nat} (h : Pm n f) {x : Nat} (hx : x < n) (y : Nat) : y ∈ orb f x ↔ Orb f x y := by
  have s := h.per_spec hx
  constructor
  · intro hy
    simp only [orb, List.mem_map, List.mem_range] at hy
    obtain ⟨k, _, rfl⟩ := hy
    exact ⟨k, rfl⟩
  · rintro ⟨k, rfl⟩
    simp only [orb, List.mem_map, List.mem_range]
    exact ⟨k % per f x, Nat.mod_lt _ s.1, (it_mod s.2.1 k).symm⟩

theorem Pm.orb_nodup {n : Nat} {f : Nat → Nat} (h : Pm n f) {x : Nat} (hx : x < n) : (orb f x).Nodup := by
  unfold orb
  rw [List.Nodup, List.pairwise_map]
  refine List.Pairwise.imp_of_mem ?_ List.pairwise_lt_range
  intro a b ha hb hab
  simp at ha hb
  exact h.it_ne hx hab hb

theorem Pm.orb_length {n : Nat} {f : Nat → Nat} (h : Pm n f) {x : Nat} (hx : x < n) : 0 < (orb f x).length ∧ (orb f x).length ≤ n := by
  simp only [orb, List.length_map, List.length_range]
  exact ⟨(h.per_spec hx).1, h.per_le hx⟩

theorem orb_length_eq (f : Nat → Nat) (x : Nat) : (orb f x).length = per f x := by simp [orb]
theorem orb_get (f : Nat → Nat) (x k : Nat) (hk : k < per f x) : (orb f x)[k]? = some (it f k x) := by simp [orb, hk]

open Classical in
/-- The least one that it comes to. -/
noncomputable def lst (f : Nat → Nat) (n a : Nat) : Nat := if h : ∃ d, isLeast f n d ∧ Orb f a d then h.choose else 0

theorem Pm.lst_spec {n : Nat} {f : Nat → Nat} (h : Pm n f) {a : Nat} (ha : a < n) : isLeast f n (lst f n a) ∧ Orb f a (lst f n a) := by
  unfold lst
  rw [dif_pos (h.exists_least a ha)]
  exact (h.exists_least a ha).choose_spec

theorem Pm.lst_le {n : Nat} {f : Nat → Nat} (h : Pm n f) {a : Nat} (ha : a < n) : lst f n a ≤ a :=
  have s := h.lst_spec ha
  s.1.2 a (h.orb_symm ha s.2)

theorem Pm.lst_eq {n : Nat} {f : Nat → Nat} (h : Pm n f) {a b : Nat} (ha : a < n) (hb : b < n) : lst f n a = lst f n b ↔ Orb f a b := by
  have sa := h.lst_spec ha
  have sb := h.lst_spec hb
  constructor
  · intro e
    have := h.orb_symm hb sb.2
    rw [← e] at this
    exact sa.2.trans this
  · intro o
    exact h.least_unique sa.1 sb.1 ((h.orb_symm ha sa.2).trans (o.trans sb.2))

theorem Pm.lst_self {n : Nat} {f : Nat → Nat} (h : Pm n f) {a : Nat} (ha : isLeast f n a) : lst f n a = a :=
  h.least_unique (h.lst_spec ha.1).1 ha (h.orb_symm ha.1 (h.lst_spec ha.1).2)

open Classical in
/-- How many least ones there are below k. -/
noncomputable def lows (f : Nat → Nat) (n k : Nat) : Nat := ((List.range k).filter fun d => decide (isLeast f n d)).length

theorem lows_zero (f : Nat → Nat) (n : Nat) : lows f n 0 = 0 := rfl
theorem lows_succ_least {f : Nat → Nat} {n k : Nat} (h : isLeast f n k) : lows f n (k + 1) = lows f n k + 1 := by
  unfold lows; rw [List.range_succ, List.filter_append]; simp [h]
theorem lows_succ_not {f : Nat → Nat} {n k : Nat} (h : ¬ isLeast f n k) : lows f n (k + 1) = lows f n k := by
  unfold lows; rw [List.range_succ, List.filter_append]; simp [h]
theorem lows_mono {f : Nat → Nat} {n : Nat} {j k : Nat} (h : j ≤ k) : lows f n j ≤ lows f n k := by
  induction k with
  | zero => obtain rfl : j = 0 := by omega
            exact Nat.le_refl _
  | succ k ih =>
    rcases Nat.lt_or_ge j (k + 1) with hlt | hge
    · have := ih (by omega)
      by_cases hl : isLeast f n k
      · rw [lows_succ_least hl]; omega
      · rw [lows_succ_not hl]; omega
    · obtain rfl : j = k + 1 := by omega
      exact Nat.le_refl _
theorem lows_lt {f : Nat → Nat} {n j k : Nat} (hj : isLeast f n j) (h : j < k) : lows f n j < lows f n k := by
  have h1 := lows_mono (f := f) (n := n) (show j + 1 ≤ k by omega)
  rw [lows_succ_least hj] at h1
  omega
theorem lows_le (f : Nat → Nat) (n k : Nat) : lows f n k ≤ k := by
  unfold lows
  exact Nat.le_trans (List.length_filter_le _ _) (by simp)

/-- The place of one's orbit among the orbits, by their least numbers; how many there are. -/
noncomputable def nm (f : Nat → Nat) (n a : Nat) : Nat := lows f n (lst f n a)
noncomputable def cnt (f : Nat → Nat) (n : Nat) : Nat := lows f n n

theorem Pm.nm_eq {n : Nat} {f : Nat → Nat} (h : Pm n f) {a b : Nat} (ha : a < n) (hb : b < n) : nm f n a = nm f n b ↔ Orb f a b := by
  rw [← h.lst_eq ha hb]
  constructor
  · intro e
    have la := (h.lst_spec ha).1
    have lb := (h.lst_spec hb).1
    unfold nm at e
    rcases Nat.lt_trichotomy (lst f n a) (lst f n b) with hlt | heq | hgt
    · have := lows_lt la hlt; omega
    · exact heq
    · have := lows_lt lb hgt; omega
  · intro e; unfold nm; rw [e]

theorem Pm.nm_lt {n : Nat} {f : Nat → Nat} (h : Pm n f) {a : Nat} (ha : a < n) : nm f n a < cnt f n :=
  lows_lt (h.lst_spec ha).1 (h.lst_spec ha).1.1

theorem Pm.nm_step {n : Nat} {f : Nat → Nat} (h : Pm n f) {a : Nat} (ha : a < n) : nm f n (f a) = nm f n a :=
  (h.nm_eq (h.lt a ha) ha).2 (h.orb_symm ha (Orb.step f a))

theorem cnt_le (f : Nat → Nat) (n : Nat) : cnt f n ≤ n := lows_le f n n

/-- Each name is someone's. -/
theorem exists_lows {f : Nat → Nat} {n : Nat} (k m : Nat) (hm : m < lows f n k) : ∃ d, d < k ∧ isLeast f n d ∧ lows f n d = m := by
  induction k with
  | zero => simp [lows_zero] at hm
  | succ k ih =>
    by_cases hl : isLeast f n k
    · rw [lows_succ_least hl] at hm
      by_cases he : m = lows f n k
      · exact ⟨k, by omega, hl, he.symm⟩
      · obtain ⟨d, hd, r⟩ := ih (by omega)
        exact ⟨d, by omega, r⟩
    · rw [lows_succ_not hl] at hm
      obtain ⟨d, hd, r⟩ := ih hm
      exact ⟨d, by omega, r⟩

theorem Pm.exists_nm {n : Nat} {f : Nat → Nat} (h : Pm n f) {m : Nat} (hm : m < cnt f n) : ∃ d, isLeast f n d ∧ nm f n d = m := by
  obtain ⟨d, _, hl, e⟩ := exists_lows n m hm
  exact ⟨d, hl, by unfold nm; rw [h.lst_self hl]; exact e⟩

end Go.Proofs.Ythakkchmegnlhaa.Pq
