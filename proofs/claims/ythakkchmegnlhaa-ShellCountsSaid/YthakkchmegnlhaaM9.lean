/- Plain mathematics: some vertex of the border may go (two chords do not cross). -/
import Derived.Test.YthakkchmegnlhaaM8
namespace Go.Proofs.Ythakkchmegnlhaa.Pq

/-- One edge. -/
def ed (x : Nat) (d : Nat) : Bool := decide (d = x) ^^ decide (d = mate x)
theorem ed_mate (x d : Nat) : ed x (mate d) = ed x d := by
  unfold ed
  have h1 : (mate d = x) ↔ (d = mate x) := ⟨mate_eq, fun h => by rw [h, mate_mate]⟩
  have h2 : (mate d = mate x) ↔ (d = x) := ⟨fun h => by rw [← mate_mate d, h, mate_mate], fun h => by rw [h]⟩
  simp only [h1, h2]
  exact Bool.xor_comm _ _
theorem ed_true {x d : Nat} (h : ed x d = true) : d = x ∨ d = mate x := by
  unfold ed at h
  by_cases e : d = x
  · exact .inl e
  · by_cases e2 : d = mate x
    · exact .inr e2
    · simp [e, e2] at h
theorem ed_self (x : Nat) : ed x x = true := by
  unfold ed
  have : ¬ x = mate x := fun h => mate_ne x h.symm
  simp [this]
theorem par_point {n : Nat} (K : Nat → Bool) {x : Nat} (hx : x < n) : par (fun d => K d && decide (d = x)) n = K x := by
  cases h : K x
  · refine par_none fun d _ => ?_
    by_cases e : d = x
    · subst e; simp [h]
    · simp [e]
  · refine par_one hx fun d _ => ?_
    by_cases e : d = x
    · subst e; simp [h]
    · simp [e]
theorem par_ed {n : Nat} (K : Nat → Bool) {x : Nat} (hx : x < n) (hm : mate x < n) : par (fun d => K d && ed x d) n = (K x ^^ K (mate x)) := by
  have : par (fun d => K d && ed x d) n = par (fun d => (K d && decide (d = x)) ^^ (K d && decide (d = mate x))) n :=
    par_congr fun d _ => by rw [ed, Bool.and_xor_distrib_left]
  rw [this, par_xor, par_point K hx, par_point K hm]

/-- A chord, and the border from the one end to the other. -/
def zs (c : Nat) (l : Nat → Nat) (i : Nat) : Nat → Nat → Bool
  | 0, d => ed c d
  | m + 1, d => zs c l i m d ^^ ed (l (i + m + 1)) d
theorem zs_mate (c : Nat) (l : Nat → Nat) (i m d : Nat) : zs c l i m (mate d) = zs c l i m d := by
  induction m with
  | zero => exact ed_mate c d
  | succ m ih => rw [zs, zs, ih, ed_mate]
theorem zs_true {c : Nat} {l : Nat → Nat} {i m d : Nat} (h : zs c l i m d = true) : d = c ∨ d = mate c ∨ ∃ k, i < k ∧ k ≤ i + m ∧ (d = l k ∨ d = mate (l k)) := by
  induction m with
  | zero =>
    rcases ed_true h with e | e
    · exact .inl e
    · exact .inr (.inl e)
  | succ m ih =>
    rw [zs] at h
    cases h2 : zs c l i m d
    · rw [h2, Bool.false_xor] at h
      exact .inr (.inr ⟨i + m + 1, by omega, by omega, ed_true h⟩)
    · rcases ih h2 with e | e | ⟨k, h1, h2, e⟩
      · exact .inl e
      · exact .inr (.inl e)
      · exact .inr (.inr ⟨k, h1, by omega, e⟩)
theorem zs_false {c : Nat} {l : Nat → Nat} {i m d : Nat} (h1 : d ≠ c) (h2 : d ≠ mate c) (h3 : ∀ k, i < k → k ≤ i + m → d ≠ l k ∧ d ≠ mate (l k)) : zs c l i m d = false := by
  cases h : zs c l i m d
  · rfl
  · rcases zs_true h with e | e | ⟨k, k1, k2, e⟩
    · exact absurd e h1
    · exact absurd e h2
    · have := h3 k k1 k2
      rcases e with e | e
      · exact absurd e this.1
      · exact absurd e this.2
theorem zs_at {c : Nat} {l : Nat → Nat} {i m q : Nat} (hq : i < q) (hm : q ≤ i + m) (h1 : l q ≠ c) (h2 : l q ≠ mate c) (h3 : ∀ k, i < k → k ≤ i + m → k ≠ q → l q ≠ l k) (h4 : ∀ k, i < k → k ≤ i + m → l q ≠ mate (l k)) :
    zs c l i m (l q) = true := by
  induction m with
  | zero => omega
  | succ m ih =>
    rw [zs]
    by_cases e : q = i + m + 1
    · subst e
      rw [ed_self, zs_false h1 h2 (fun k k1 k2 => ⟨h3 k k1 (by omega) (by omega), h4 k k1 (by omega)⟩)]
      rfl
    · rw [ih (by omega) (fun k k1 k2 => h3 k k1 (by omega)) (fun k k1 k2 => h4 k k1 (by omega))]
      have : ed (l (i + m + 1)) (l q) = false := by
        cases h : ed (l (i + m + 1)) (l q)
        · rfl
        · rcases ed_true h with e2 | e2
          · exact absurd e2 (h3 _ (by omega) (by omega) (fun e3 => e e3.symm))
          · exact absurd e2 (h4 _ (by omega) (by omega))
      rw [this]
      rfl
theorem zs_par {n c : Nat} {l : Nat → Nat} {i m : Nat} (K : Nat → Bool) (hc : c < n) (hc2 : mate c < n) (hl : ∀ k, i ≤ k → k ≤ i + m → l k < n ∧ mate (l k) < n)
    (hK : ∀ k, i ≤ k → k < i + m → K (mate (l (k + 1))) = K (l k)) : par (fun d => K d && zs c l i m d) n = ((K c ^^ K (mate c)) ^^ (K (l i) ^^ K (l (i + m)))) := by
  induction m with
  | zero =>
    have := par_ed (n := n) K hc hc2
    rw [Nat.add_zero, Bool.xor_self, Bool.xor_false]
    exact this
  | succ m ih =>
    have : par (fun d => K d && zs c l i (m + 1) d) n = par (fun d => (K d && zs c l i m d) ^^ (K d && ed (l (i + m + 1)) d)) n :=
      par_congr fun d _ => by rw [zs, Bool.and_xor_distrib_left]
    have hk := hl (i + m + 1) (by omega) (by omega)
    rw [this, par_xor, ih (fun k k1 k2 => hl k k1 (by omega)) (fun k k1 k2 => hK k k1 (by omega)), par_ed K hk.1 hk.2, hK (i + m) (by omega) (by omega)]
    rw [show i + (m + 1) = i + m + 1 by omega]
    cases K c <;> cases K (mate c) <;> cases K (l i) <;> cases K (l (i + m)) <;> cases K (l (i + m + 1)) <;> rfl

theorem chn_get {R : Nat → Nat → Prop} {L : List Nat} {e : Nat} (h : Chn R L e) {i : Nat} (hi : i < L.length) : R (L.getD i 0) (if i + 1 < L.length then L.getD (i + 1) 0 else e) := by
  induction L generalizing i with
  | nil => simp at hi
  | cons x T ih =>
    cases i with
    | zero =>
      have := h.1
      cases T with
      | nil => simpa using this
      | cons y T => simpa using this
    | succ i =>
      have := ih h.2 (i := i) (by simpa using hi)
      simpa using this

theorem split_at {L : List Nat} {q : Nat} (h0 : 0 < q) (h1 : q + 1 < L.length) :
    ∃ X Y, L = X ++ L.getD (q - 1) 0 :: L.getD q 0 :: L.getD (q + 1) 0 :: Y ∧ X.length = q - 1 := by
  refine ⟨L.take (q - 1), L.drop (q + 2), ?_, by simp; omega⟩
  have g : ∀ i, (h : i < L.length) → L.getD i 0 = L[i] := fun i h => by simp [List.getD_eq_getElem?_getD, h]
  rw [g (q - 1) (by omega), g q (by omega), g (q + 1) h1]
  conv => lhs; rw [← List.take_append_drop (q - 1) L]
  rw [List.drop_eq_getElem_cons (by omega : q - 1 < L.length)]
  rw [List.drop_eq_getElem_cons (by omega : q - 1 + 1 < L.length)]
  rw [List.drop_eq_getElem_cons (by omega : q - 1 + 1 + 1 < L.length)]
  have e : q - 1 + 1 = q := by omega
  simp only [e]

section
variable {n : Nat} {f : Nat → Nat} {r : Nat} {g : Nat → Prop} {L : List Nat}
/-- May the i-th of the border go? Its darts from the one to the other neighbour are a steps; those between do not lead to the border. -/
def Fre (n : Nat) (f : Nat → Nat) (g : Nat → Prop) (L : List Nat) (q t a : Nat) : Prop :=
  a < per f q ∧ it f a q = mate t ∧ (∀ j, 0 < j → j < a → ¬ g (nm f n (mate (it f j q)))) ∧ (∀ j, a < j → j < per f q → g (nm f n (mate (it f j q)))) ∧
    ∀ j, 0 < j → j < a → nm f n (mate (it f j q)) ∉ L.map (nm f n)

theorem getD_mem {L : List Nat} {i : Nat} (h : i < L.length) : L.getD i 0 ∈ L := by
  rw [List.getD_eq_getElem?_getD, List.getElem?_eq_getElem h]
  exact List.getElem_mem h
theorem mem_getD {L : List Nat} {x : Nat} (h : x ∈ L) : ∃ i, i < L.length ∧ L.getD i 0 = x := by
  obtain ⟨i, hi, e⟩ := List.mem_iff_getElem.1 h
  exact ⟨i, hi, by rw [List.getD_eq_getElem?_getD, List.getElem?_eq_getElem hi]; exact e⟩

theorem Bd.free (T : Trg n f) (B : Bd n f r g L) (h3 : 3 ≤ L.length) : ∃ q a, 0 < q ∧ q + 1 < L.length ∧ Fre n f g L (L.getD q 0) (L.getD (q + 1) 0) a := by
  have hpm := T.pm
  obtain ⟨l, hl⟩ : ∃ l, l = fun i => L.getD i 0 := ⟨_, rfl⟩
  obtain ⟨N, hN⟩ : ∃ N, N = L.length := ⟨_, rfl⟩
  obtain ⟨nx, hnx⟩ : ∃ nx : Nat → Nat, nx = fun i => if i + 1 < N then i + 1 else 0 := ⟨_, rfl⟩
  have hl0 : l 0 = r := by
    have := B.head
    rw [hl]
    cases L with
    | nil => simp at h3
    | cons x L => exact this
  have hlL : ∀ i, i < N → l i ∈ L := fun i hi => by rw [hl]; exact getD_mem (by omega)
  have hll : ∀ i, i < N → l i < n := fun i hi => B.lt _ (hlL i hi)
  have hli : ∀ i j, i < N → j < N → nm f n (l i) = nm f n (l j) → i = j := fun i j hi hj e => by
    have := B.inj (hlL i hi) (hlL j hj) e
    rw [hl] at this
    simp only [List.getD_eq_getElem?_getD] at this
    rw [List.getElem?_eq_getElem (by omega), List.getElem?_eq_getElem (by omega)] at this
    exact (List.getElem_inj B.nodupL).1 this
  have hnl : ∀ i, i < N → nx i < N := fun i hi => by rw [hnx]; dsimp only; split <;> omega
  have hch : ∀ i, i < N → Nx n f g (l i) (l (nx i)) := fun i hi => by
    have := chn_get B.chain (i := i) (by omega)
    rw [hnx]
    dsimp only
    rw [← hN] at this
    split
    · rename_i h; rw [if_pos h] at this; rw [hl]; exact this
    · rename_i h; rw [if_neg h, ← hl0] at this; rw [hl] at this ⊢; exact this
  obtain ⟨a, ha⟩ : ∃ a : Nat → Nat, ∀ i, i < N → a i < per f (l i) ∧ it f (a i) (l i) = mate (l (nx i)) ∧ (∀ j, 0 < j → j < a i → ¬ g (nm f n (mate (it f j (l i))))) ∧
      ∀ j, a i < j → j < per f (l i) → g (nm f n (mate (it f j (l i)))) :=
    ⟨fun i => if h : i < N then (hch i h).choose else 0, fun i hi => by simp only [dif_pos hi]; exact (hch i hi).choose_spec⟩
  have hnmx : ∀ i, i < N → nm f n (mate (l (nx i))) = nm f n (l i) := fun i hi => (hch i hi).name T (hll i hi)
  -- chords
  let C : Nat → Nat → Prop := fun i p => ∃ j, 0 < j ∧ j < a i ∧ nm f n (mate (it f j (l i))) = nm f n (l p)
  have hdl : ∀ i j, i < N → it f j (l i) < n := fun i j hi => hpm.it_lt j _ (hll i hi)
  have hprev : ∀ p, p < N → ∃ p', p' < N ∧ nx p' = p := fun p hp => by
    rw [hnx]
    rcases Nat.eq_zero_or_pos p with e | e
    · exact ⟨N - 1, by omega, by dsimp only; rw [if_neg (by omega)]; omega⟩
    · exact ⟨p - 1, by omega, by dsimp only; rw [if_pos (by omega)]; omega⟩
  have hback : ∀ i p j, i < N → p < N → 0 < j → j < a i → nm f n (mate (it f j (l i))) = nm f n (l p) → ∃ j', 0 < j' ∧ j' < a p ∧ it f j' (l p) = mate (it f j (l i)) := by
    intro i p j hi hp j1 j2 e
    have hd := hdl i j hi
    obtain ⟨j', k1, k2⟩ := hpm.exists_it (hll p hp) (T.ml hd) e
    refine ⟨j', ?_, ?_, k2⟩
    · rcases Nat.eq_zero_or_pos j' with e0 | e0
      · exfalso
        subst e0
        have k2 : l p = mate (it f j (l i)) := k2
        have k3 : it f j (l i) = mate (l p) := mate_eq k2.symm
        obtain ⟨p', hp', ep⟩ := hprev p hp
        have h1 := (ha p' hp').2.1
        rw [ep, ← k3] at h1
        have : i = p' := hli i p' hi hp' (by rw [← hpm.nm_it (hll i hi) j, ← h1, hpm.nm_it (hll p' hp')])
        subst this
        exact hpm.it_ne (hll i hi) j2 (ha i hi).1 h1.symm
      · exact e0
    · rcases Nat.lt_trichotomy j' (a p) with e0 | e0 | e0
      · exact e0
      · exfalso
        subst e0
        have h1 := (ha p hp).2.1
        rw [k2] at h1
        have h2 : it f j (l i) = l (nx p) := by rw [← mate_mate (it f j (l i)), h1, mate_mate]
        have : i = nx p := hli i _ hi (hnl p hp) (by rw [← h2, hpm.nm_it (hll i hi)])
        rw [← this] at h2
        exact (hpm.per_spec (hll i hi)).2.2 j j1 (by have := (ha i hi).1; omega) h2
      · exfalso
        have := (ha p hp).2.2.2 j' e0 k1
        rw [k2, mate_mate, hpm.nm_it (hll i hi)] at this
        exact B.alive _ (hlL i hi) this
  have hsym : ∀ i p, i < N → p < N → C i p → C p i := by
    rintro i p hi hp ⟨j, j1, j2, e⟩
    obtain ⟨j', k1, k2, k3⟩ := hback i p j hi hp j1 j2 e
    exact ⟨j', k1, k2, by rw [k3, mate_mate, hpm.nm_it (hll i hi)]⟩
  have hirr : ∀ i, i < N → ¬ C i i := by
    rintro i hi ⟨j, j1, j2, e⟩
    exact T.nl _ (hdl i j hi) (by rw [e, hpm.nm_it (hll i hi)])
  have hnear : ∀ i, i < N → ¬ C i (nx i) := by
    rintro i hi ⟨j, j1, j2, e⟩
    have h1 := (ha i hi).2.1
    have := T.nd (it f j (l i)) (it f (a i) (l i)) (hdl i j hi) (hdl i _ hi) (by rw [hpm.nm_it (hll i hi), hpm.nm_it (hll i hi)]) (by rw [e, h1, mate_mate])
    exact hpm.it_ne (hll i hi) j2 (ha i hi).1 this
  have hlne : ∀ i k, i < N → k < N → l i ≠ mate (l k) := by
    intro i k hi hk e
    obtain ⟨k', hk', ek⟩ := hprev k hk
    have h1 := (ha k' hk').2.1
    have h2 := hnmx k' hk'
    rw [ek] at h1 h2
    rw [← e] at h1 h2
    have hik : i = k' := hli i k' hi hk' h2
    subst hik
    -- then the head of l i, the one ahead, is the next
    obtain ⟨i', hi', ei⟩ := hprev i hi
    have h3 := hnmx i' hi'
    rw [ei, e, mate_mate] at h3
    have h4 : k = i' := hli k i' hk hi' h3
    rw [hnx] at ek ei
    dsimp only at ek ei
    subst h4
    split at ek <;> split at ei <;> omega
  -- two chords do not cross
  have hcross : ∀ i j q p, i < q → q < j → j < N → p < N → (p < i ∨ j < p) → C i j → C q p → False := by
    rintro i j q p hiq hqj hj hp hout ⟨jc, c1, c2, ec⟩ ⟨jd, d1, d2, edd⟩
    have hi : i < N := by omega
    have hq : q < N := by omega
    obtain ⟨c, hc⟩ : ∃ c, c = it f jc (l i) := ⟨_, rfl⟩
    obtain ⟨d0, hd0⟩ : ∃ d0, d0 = it f jd (l q) := ⟨_, rfl⟩
    rw [← hc] at ec
    rw [← hd0] at edd
    have hcl : c < n := by rw [hc]; exact hdl i jc hi
    have hdl0 : d0 < n := by rw [hd0]; exact hdl q jd hq
    have hcn : nm f n c = nm f n (l i) := by rw [hc, hpm.nm_it (hll i hi)]
    have hm : ∀ d, d < n → zs c l i (j - i) (mate d) = zs c l i (j - i) d := fun d _ => zs_mate _ _ _ _ _
    have hkm : ∀ k, k + 1 < N → nm f n (mate (l (k + 1))) = nm f n (l k) := fun k hk => by
      have := hnmx k (by omega)
      rw [hnx] at this
      dsimp only at this
      rwa [if_pos hk] at this
    have hz : Even n f (zs c l i (j - i)) := by
      intro K hK
      have hKn : ∀ x y, x < n → y < n → nm f n x = nm f n y → K x = K y := fun x y hx hy e => (Orb.keep hpm K hK hx ((hpm.nm_eq hx hy).1 e)).symm
      rw [zs_par K hcl (T.ml hcl) (fun k k1 k2 => ⟨hll k (by omega), T.ml (hll k (by omega))⟩) (fun k k1 k2 => hKn _ _ (T.ml (hll _ (by omega))) (hll _ (by omega)) (hkm k (by omega)))]
      rw [hKn c (l i) hcl (hll i hi) hcn, hKn (mate c) (l (i + (j - i))) (T.ml hcl) (hll _ (by omega)) (by rw [ec, show i + (j - i) = j by omega])]
      cases K (l i) <;> cases K (l (i + (j - i))) <;> rfl
    obtain ⟨A, hA, hE⟩ := plane hpm T.ev T.pos T.conn (Nat.le_of_eq T.eul) hm hz
    have hAf : ∀ d, d < n → A (f d) = (A d ^^ zs c l i (j - i) d) := fun d hd => by
      have h1 := hA (mate d) (T.ml hd)
      rw [ph, mate_mate] at h1
      rw [h1, ← hE d hd]
      cases A d <;> cases A (mate d) <;> rfl
    -- where the edges are
    have hzn : ∀ d, zs c l i (j - i) d = true → (∃ m, i ≤ m ∧ m ≤ j ∧ nm f n d = nm f n (l m)) ∧ ¬ g (nm f n (mate d)) := by
      intro d hd
      rcases zs_true hd with rfl | rfl | ⟨k, k1, k2, rfl | rfl⟩
      · exact ⟨⟨i, by omega, by omega, hcn⟩, by rw [ec]; exact B.alive _ (hlL j hj)⟩
      · exact ⟨⟨j, by omega, by omega, ec⟩, by rw [mate_mate, hcn]; exact B.alive _ (hlL i hi)⟩
      · refine ⟨⟨k, by omega, by omega, rfl⟩, ?_⟩
        have := hkm (k - 1) (by omega)
        rw [show k - 1 + 1 = k by omega] at this
        rw [this]
        exact B.alive _ (hlL _ (by omega))
      · have := hkm (k - 1) (by omega)
        rw [show k - 1 + 1 = k by omega] at this
        exact ⟨⟨k - 1, by omega, by omega, this⟩, by rw [mate_mate]; exact B.alive _ (hlL k (by omega))⟩
    -- walking around a vertex
    have hrun : ∀ x, x < n → ∀ u v, u ≤ v → (∀ k, u ≤ k → k < v → zs c l i (j - i) (it f k x) = false) → A (it f v x) = A (it f u x) := by
      intro x hx u v huv hk
      induction v with
      | zero => obtain rfl : u = 0 := by omega
                rfl
      | succ v ih =>
        rcases Nat.lt_or_ge u (v + 1) with h1 | h1
        · rw [it_succ', hAf _ (hpm.it_lt v x hx), hk v (by omega) (by omega), Bool.xor_false]
          exact ih (by omega) (fun k k1 k2 => hk k k1 (by omega))
        · obtain rfl : u = v + 1 := by omega
          rfl
    have hzo : ∀ d, g (nm f n (mate d)) → zs c l i (j - i) d = false := fun d hd => by
      cases h : zs c l i (j - i) d
      · rfl
      · exact absurd hd (hzn d h).2
    -- outside all is alike
    have hsame : ∀ m, m + 1 < N → A (l (m + 1)) = A (l m) := by
      intro m hm1
      have hmN : m < N := by omega
      obtain ⟨h1, h2, _, h4⟩ := ha m hmN
      have hxm : nx m = m + 1 := by rw [hnx]; dsimp only; rw [if_pos hm1]
      rw [hxm] at h2
      have e1 : A (l (m + 1)) = A (it f (a m + 1) (l m)) := by
        rw [it_succ', h2]
        exact (hA _ (hll _ hm1)).symm
      rw [e1, ← hrun (l m) (hll m hmN) (a m + 1) (per f (l m)) (by omega) (fun k k1 k2 => hzo _ (h4 k (by omega) k2)), (hpm.per_spec (hll m hmN)).2.1]
    have hall : ∀ m, m < N → A (l m) = A (l 0) := by
      intro m hm1
      induction m with
      | zero => rfl
      | succ m ih => rw [hsame m hm1, ih (by omega)]
    -- at q
    have hqi : ∀ k, 0 < k → k < a q → zs c l i (j - i) (it f k (l q)) = false := by
      intro k k1 k2
      have hx := hdl q k hq
      have hxn := hpm.nm_it (hll q hq) k
      refine zs_false (fun e => ?_) (fun e => ?_) (fun m m1 m2 => ⟨fun e => ?_, fun e => ?_⟩)
      · have := hli q i hq hi (by rw [← hxn, e, hcn])
        omega
      · have := hli q j hq hj (by rw [← hxn, e, ec])
        omega
      · have := hli q m hq (by omega) (by rw [← hxn, e])
        subst this
        exact (hpm.per_spec (hll q hq)).2.2 k k1 (by have := (ha q hq).1; omega) e
      · have h1 := hkm (m - 1) (by omega)
        rw [show m - 1 + 1 = m by omega] at h1
        have := hli q (m - 1) hq (by omega) (by rw [← hxn, e, h1])
        have hqm : nx q = m := by rw [hnx]; dsimp only; rw [if_pos (by omega)]; omega
        have h2 := (ha q hq).2.1
        rw [hqm, ← e] at h2
        exact hpm.it_ne (hll q hq) k2 (ha q hq).1 h2.symm
    have hzq : zs c l i (j - i) (l q) = true := by
      refine zs_at hiq (by omega) (fun e => ?_) (fun e => ?_) (fun k k1 k2 k3 e => ?_) (fun k k1 k2 => hlne q k hq (by omega))
      · have := hli q i hq hi (by rw [e, hcn])
        omega
      · have := hli q j hq hj (by rw [e, ec])
        omega
      · exact k3 (hli k q (by omega) hq (by rw [e]))
    have hAd : A d0 = !A (l 0) := by
      have h1 := hrun (l q) (hll q hq) 1 jd (by omega) (fun k k1 k2 => hqi k (by omega) (by omega))
      have h2 : A (it f 1 (l q)) = (A (l q) ^^ true) := by
        have := hAf (l q) (hll q hq)
        rw [hzq] at this
        exact this
      rw [hd0, h1, h2, hall q hq, Bool.xor_true]
    have hzd : zs c l i (j - i) d0 = false := by rw [hd0]; exact hqi jd d1 d2
    have hAm : A (mate d0) = !A (l 0) := by
      have := hE d0 hdl0
      rw [hzd, hAd] at this
      revert this
      cases A (l 0) <;> cases A (mate d0) <;> simp
    -- at p
    obtain ⟨kp, hkp, ekp⟩ := hpm.exists_it (hll p hp) (T.ml hdl0) edd
    have h1 := hrun (l p) (hll p hp) 0 kp (by omega) (fun k _ _ => by
      cases h : zs c l i (j - i) (it f k (l p))
      · rfl
      · obtain ⟨m, m1, m2, e⟩ := (hzn _ h).1
        rw [hpm.nm_it (hll p hp)] at e
        have := hli p m hp (by omega) e
        omega)
    rw [ekp, hAm] at h1
    have h1 : (!A (l 0)) = A (l p) := h1
    rw [hall p hp] at h1
    revert h1
    cases A (l 0) <;> simp
  -- if none were free
  apply Classical.byContradiction
  intro hno
  have hnone : ∀ q, 0 < q → q + 1 < N → ∃ p, p < N ∧ C q p := by
    intro q h1 h2
    apply Classical.byContradiction
    intro hno2
    apply hno
    have hxq : nx q = q + 1 := by rw [hnx]; dsimp only; rw [if_pos h2]
    obtain ⟨b1, b2, b3, b4⟩ := ha q (by omega)
    rw [hxq] at b2
    refine ⟨q, a q, h1, by omega, ?_⟩
    have : Fre n f g L (l q) (l (q + 1)) (a q) := by
      refine ⟨b1, b2, b3, b4, fun j j1 j2 hm => hno2 ?_⟩
      rw [List.mem_map] at hm
      obtain ⟨x, hx, e⟩ := hm
      obtain ⟨p, hp, rfl⟩ := mem_getD hx
      refine ⟨p, by omega, j, j1, j2, ?_⟩
      rw [← e, hl]
    rw [hl] at this
    exact this
  have hmin : ∀ w i j, i < j → j < N → j - i ≤ w → C i j → False := by
    intro w
    induction w with
    | zero => intro i j h1 _ h2; omega
    | succ w ih =>
      intro i j h1 h2 h3 hc
      by_cases e : j = i + 1
      · have hxi : nx i = j := by rw [hnx]; dsimp only; rw [if_pos (by omega), e]
        exact hnear i (by omega) (by rw [hxi]; exact hc)
      · obtain ⟨p, hp, hq⟩ := hnone (i + 1) (by omega) (by omega)
        by_cases h4 : p < i ∨ j < p
        · exact hcross i j (i + 1) p (by omega) (by omega) h2 hp h4 hc hq
        · by_cases h5 : p = i + 1
          · rw [h5] at hq; exact hirr _ (by omega) hq
          · rcases Nat.lt_or_ge p (i + 1) with h6 | h6
            · exact ih p (i + 1) h6 (by omega) (by omega) (hsym _ _ (by omega) hp hq)
            · exact ih (i + 1) p (by omega) hp (by omega) hq
  obtain ⟨p, hp, hq⟩ := hnone 1 (by omega) (by omega)
  by_cases h5 : p = 1
  · rw [h5] at hq; exact hirr _ (by omega) hq
  · rcases Nat.lt_or_ge p 1 with h6 | h6
    · exact hmin N p 1 h6 (by omega) (by omega) (hsym _ _ (by omega) hp hq)
    · exact hmin N 1 p (by omega) hp (by omega) hq
end
end Go.Proofs.Ythakkchmegnlhaa.Pq
