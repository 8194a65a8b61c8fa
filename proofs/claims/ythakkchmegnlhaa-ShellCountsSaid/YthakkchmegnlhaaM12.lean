/- Plain mathematics: the count of darts that lead to the border says who may go. -/
import Derived.Test.YthakkchmegnlhaaM11
namespace Go.Proofs.Ythakkchmegnlhaa.Pq

theorem Pm.orb_perm {n : Nat} {f : Nat → Nat} (h : Pm n f) {x y : Nat} (hx : x < n) (hy : y < n) (e : nm f n x = nm f n y) : (orb f x).Perm (orb f y) := by
  rw [List.perm_ext_iff_of_nodup (h.orb_nodup hx) (h.orb_nodup hy)]
  intro a
  rw [h.mem_orb hx, h.mem_orb hy]
  have o := (h.nm_eq hx hy).1 e
  exact ⟨fun k => (h.orb_symm hx o).trans k, fun k => o.trans k⟩
theorem orb_countP (f : Nat → Nat) (x : Nat) (P : Nat → Bool) : (List.range (per f x)).countP (fun j => P (it f j x)) = (orb f x).countP P := by
  rw [orb, List.countP_map]
  rfl
/-- Two at least, and no other. -/
theorem countP_two {P : Nat → Bool} {n a : Nat} (ha0 : 0 < a) (ha : a < n) (h0 : P 0 = true) (h1 : P a = true) (h2 : ∀ j, a < j → j < n → P j = false) :
    (List.range n).countP P = 2 ↔ ∀ j, 0 < j → j < a → P j = false := by
  have e1 : ∀ k, a + 1 + k ≤ n → (List.range (a + 1 + k)).countP P = (List.range (a + 1)).countP P := by
    intro k
    induction k with
    | zero => intro _; rfl
    | succ k ih =>
      intro hk
      rw [show a + 1 + (k + 1) = (a + 1 + k) + 1 by omega, List.range_succ, List.countP_append, ih (by omega), List.countP_cons, List.countP_nil, h2 _ (by omega) (by omega)]
      simp
  have e2 : (List.range n).countP P = (List.range a).countP P + 1 := by
    have := e1 (n - (a + 1)) (by omega)
    rw [show a + 1 + (n - (a + 1)) = n by omega] at this
    rw [this, List.range_succ, List.countP_append, List.countP_cons, List.countP_nil, h1]
    simp
  have e3 : ∀ k, k < a → ((List.range (k + 1)).countP P = 1 ↔ ∀ j, 0 < j → j ≤ k → P j = false) ∧ 1 ≤ (List.range (k + 1)).countP P := by
    intro k
    induction k with
    | zero =>
      intro _
      simp [List.range_succ, h0]
      intro j h1 h2
      omega
    | succ k ih =>
      intro hk
      obtain ⟨i1, i2⟩ := ih (by omega)
      rw [List.range_succ, List.countP_append, List.countP_cons, List.countP_nil]
      cases hp : P (k + 1)
      · simp only [Bool.false_eq_true, if_false, Nat.add_zero]
        refine ⟨⟨fun h j j1 j2 => ?_, fun h => i1.2 (fun j j1 j2 => h j j1 (by omega))⟩, i2⟩
        rcases Nat.lt_or_ge k j with h3 | h3
        · obtain rfl : j = k + 1 := by omega
          exact hp
        · exact i1.1 h j j1 h3
      · simp only [if_true]
        refine ⟨⟨fun h => by omega, fun h => ?_⟩, by omega⟩
        have := h (k + 1) (by omega) (Nat.le_refl _)
        rw [hp] at this
        cases this
  have := (e3 (a - 1) (by omega)).1
  rw [show a - 1 + 1 = a by omega] at this
  rw [e2]
  constructor
  · intro h j j1 j2
    exact this.1 (by omega) j j1 (by omega)
  · intro h
    have := this.2 (fun j j1 j2 => h j j1 (by omega))
    omega

section
variable {n : Nat} {f : Nat → Nat} {r : Nat} {g : Nat → Prop} {L : List Nat}
/-- The i-th of the border may go just if two darts of its vertex lead to the border. -/
theorem Bd.fre_iff (T : Trg n f) (B : Bd n f r g L) {X Y : List Nat} {p q t : Nat} (hL : L = X ++ p :: q :: t :: Y) (P : Nat → Bool)
    (hP : ∀ z, z < n → (P z = true ↔ ¬ g (nm f n (mate z)) ∧ nm f n (mate z) ∈ L.map (nm f n))) {y : Nat} (hy : y < n) (e : nm f n y = nm f n q) :
    (List.range (per f y)).countP (fun j => P (it f j y)) = 2 ↔ ∃ a, Fre n f g L q t a := by
  have hpm := T.pm
  have hpL : p ∈ L := by rw [hL]; simp
  have hqL : q ∈ L := by rw [hL]; simp
  have htL : t ∈ L := by rw [hL]; simp
  have hq := B.lt q hqL
  have hch := B.chain
  rw [hL, chn_append] at hch
  have npq : nm f n (mate q) = nm f n p := Nx.name T (B.lt p hpL) hch.2.1
  obtain ⟨a, ha, hr, hin, hout⟩ : Nx n f g q t := hch.2.2.1
  have ha0 := B.pos T hL hr
  rw [orb_countP, (hpm.orb_perm hy hq e).countP_eq, ← orb_countP]
  have hdl : ∀ j, it f j q < n := fun j => hpm.it_lt j q hq
  have h0 : P (it f 0 q) = true := (hP _ (hdl 0)).2 (by
    rw [show it f 0 q = q from rfl, npq]
    exact ⟨B.alive p hpL, List.mem_map.2 ⟨p, hpL, rfl⟩⟩)
  have h1 : P (it f a q) = true := (hP _ (hdl a)).2 (by
    rw [hr, mate_mate]
    exact ⟨B.alive t htL, List.mem_map.2 ⟨t, htL, rfl⟩⟩)
  have h2 : ∀ j, a < j → j < per f q → P (it f j q) = false := fun j j1 j2 => by
    cases h : P (it f j q)
    · rfl
    · exact absurd (hout j j1 j2) ((hP _ (hdl j)).1 h).1
  rw [countP_two (P := fun j => P (it f j q)) ha0 ha h0 h1 h2]
  constructor
  · intro h
    refine ⟨a, ha, hr, hin, hout, fun j j1 j2 hm => ?_⟩
    have := h j j1 j2
    rw [(hP _ (hdl j)).2 ⟨hin j j1 j2, hm⟩] at this
    cases this
  · rintro ⟨b, hb, hbr, _, _, hf⟩ j j1 j2
    have hab : b = a := by
      rcases Nat.lt_trichotomy b a with h | h | h
      · exact absurd (hbr.trans hr.symm) (hpm.it_ne hq h ha)
      · exact h
      · exact absurd (hr.trans hbr.symm) (hpm.it_ne hq h hb)
    subst hab
    cases h : P (it f j q)
    · rfl
    · exact absurd ((hP _ (hdl j)).1 h).2 (hf j j1 j2)
end
end Go.Proofs.Ythakkchmegnlhaa.Pq
