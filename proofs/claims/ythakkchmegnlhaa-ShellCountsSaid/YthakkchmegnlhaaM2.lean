/- Plain mathematics: how the names of orbits come to be, one least number after the other. -/
import Derived.Test.YthakkchmegnlhaaM1
namespace Go.Proofs.Ythakkchmegnlhaa.Pq

open Classical in
/-- The names so far: of all orbits whose least number is below k; and of the orbit of k those of the first j. -/
noncomputable def namesMid (f : Nat → Nat) (n k j : Nat) : List Int :=
  (List.range n).map fun a => if lst f n a < k then (nm f n a : Int) else if a ∈ (orb f k).take j then (lows f n k : Int) else -1
noncomputable def namesAt (f : Nat → Nat) (n k : Nat) : List Int := (List.range n).map fun a => if lst f n a < k then (nm f n a : Int) else -1
noncomputable def namesL (f : Nat → Nat) (n : Nat) : List Int := (List.range n).map fun a => (nm f n a : Int)

theorem namesMid_length (f : Nat → Nat) (n k j : Nat) : (namesMid f n k j).length = n := by simp [namesMid]
theorem namesAt_length (f : Nat → Nat) (n k : Nat) : (namesAt f n k).length = n := by simp [namesAt]
theorem namesL_length (f : Nat → Nat) (n : Nat) : (namesL f n).length = n := by simp [namesL]

theorem namesL_getD (f : Nat → Nat) (n a : Nat) (ha : a < n) : (namesL f n).getD a 0 = (nm f n a : Int) := by
  simp [namesL, List.getD_eq_getElem?_getD, ha]

theorem namesAt_getD (f : Nat → Nat) (n k a : Nat) (ha : a < n) : (namesAt f n k).getD a 0 = if lst f n a < k then (nm f n a : Int) else -1 := by
  simp [namesAt, List.getD_eq_getElem?_getD, ha]

section
variable {f : Nat → Nat} {n : Nat}
theorem namesAt_zero : namesAt f n 0 = List.replicate n (-1) := by
  rw [namesAt, List.eq_replicate_iff]
  refine ⟨by simp, fun b hb => ?_⟩
  rw [List.mem_map] at hb
  obtain ⟨a, _, rfl⟩ := hb
  rw [if_neg (by omega)]

theorem namesAt_all (h : Pm n f) : namesAt f n n = namesL f n := by
  unfold namesAt namesL
  refine List.map_congr_left fun a ha => ?_
  rw [List.mem_range] at ha
  rw [if_pos (h.lst_spec ha).1.1]

theorem least_iff (h : Pm n f) {k : Nat} (hk : k < n) : isLeast f n k ↔ ¬ lst f n k < k := by
  constructor
  · intro hl
    rw [h.lst_self hl]
    omega
  · intro hl
    have := h.lst_le hk
    have e : lst f n k = k := by omega
    have := (h.lst_spec hk).1
    rw [e] at this
    exact this

theorem namesAt_nonneg (h : Pm n f) {k : Nat} (hk : k < n) (hl : ¬ isLeast f n k) : 0 ≤ (namesAt f n k).getD k 0 := by
  rw [namesAt_getD _ _ _ _ hk]
  rw [least_iff h hk, Classical.not_not] at hl
  rw [if_pos hl]
  omega

theorem namesAt_neg (h : Pm n f) {k : Nat} (hk : k < n) (hl : isLeast f n k) : (namesAt f n k).getD k 0 = -1 := by
  rw [namesAt_getD _ _ _ _ hk, if_neg ((least_iff h hk).1 hl)]

theorem namesAt_skip (h : Pm n f) {k : Nat} (hl : ¬ isLeast f n k) : namesAt f n (k + 1) = namesAt f n k := by
  unfold namesAt
  refine List.map_congr_left fun a ha => ?_
  rw [List.mem_range] at ha
  have : lst f n a ≠ k := fun e => hl (e ▸ (h.lst_spec ha).1)
  by_cases h1 : lst f n a < k
  · rw [if_pos h1, if_pos (by omega)]
  · rw [if_neg h1, if_neg (by omega)]

theorem namesMid_zero (f : Nat → Nat) (n k : Nat) : namesMid f n k 0 = namesAt f n k := by
  unfold namesMid namesAt
  refine List.map_congr_left fun a _ => ?_
  simp

theorem namesMid_all (h : Pm n f) {k : Nat} (hk : isLeast f n k) : namesMid f n k (per f k) = namesAt f n (k + 1) := by
  unfold namesMid namesAt
  refine List.map_congr_left fun a ha => ?_
  rw [List.mem_range] at ha
  rw [List.take_of_length_le (by rw [orb_length_eq]; exact Nat.le_refl _)]
  by_cases h1 : lst f n a < k
  · rw [if_pos h1, if_pos (by omega)]
  · rw [if_neg h1]
    by_cases h2 : a ∈ orb f k
    · have o := (h.mem_orb hk.1 a).1 h2
      have e : lst f n a = k := by
        rw [← h.lst_self hk]
        exact ((h.lst_eq hk.1 ha).2 o).symm
      rw [if_pos h2, if_pos (by omega), nm, e]
    · rw [if_neg h2, if_neg]
      intro h3
      have e : lst f n a = k := by omega
      refine h2 ((h.mem_orb hk.1 a).2 ((h.lst_eq hk.1 ha).1 ?_))
      rw [e, h.lst_self hk]

theorem namesMid_step (h : Pm n f) {k j : Nat} (hk : isLeast f n k) (hj : j < per f k) : (namesMid f n k j).set (it f j k) (lows f n k : Int) = namesMid f n k (j + 1) := by
  apply List.ext_getElem (by simp [namesMid])
  intro a h1 h2
  have ha : a < n := by simpa [namesMid] using h2
  have hl : ¬ lst f n (it f j k) < k := by
    have e : lst f n (it f j k) = k := by
      have := (h.lst_eq (h.it_lt j k hk.1) hk.1).2 (h.orb_symm hk.1 ⟨j, rfl⟩)
      rw [this, h.lst_self hk]
    omega
  rw [List.getElem_set]
  have hs : (orb f k).take (j + 1) = (orb f k).take j ++ [it f j k] := by
    rw [List.take_add_one, orb_get f k j hj]
    rfl
  by_cases e : it f j k = a
  · rw [if_pos e]
    simp only [namesMid, List.getElem_map, List.getElem_range]
    rw [← e, if_neg hl, if_pos (by rw [hs]; simp)]
  · rw [if_neg e]
    simp only [namesMid, List.getElem_map, List.getElem_range]
    rw [hs]
    have : (a ∈ (orb f k).take j ++ [it f j k]) ↔ (a ∈ (orb f k).take j) := by
      rw [List.mem_append]
      simp [show ¬ a = it f j k from fun h => e h.symm]
    by_cases h3 : a ∈ (orb f k).take j
    · rw [if_pos h3, if_pos (this.2 h3)]
    · rw [if_neg h3, if_neg (fun h => h3 (this.1 h))]
end
end Go.Proofs.Ythakkchmegnlhaa.Pq
