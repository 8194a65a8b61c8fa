/- Plain mathematics: how many each orbit has, counted one after the other; mates; the permutation along faces. -/
import Derived.Test.YthakkchmegnlhaaM2
namespace Go.Proofs.Ythakkchmegnlhaa.Pq

noncomputable def cntNm (f : Nat → Nat) (n k j : Nat) : Nat := ((List.range k).filter fun a => nm f n a == j).length
noncomputable def sizesAt (f : Nat → Nat) (n k : Nat) : List Nat := (List.range (lows f n k)).map (cntNm f n k)
noncomputable def sizesL (f : Nat → Nat) (n : Nat) : List Nat := (List.range (cnt f n)).map (cntNm f n n)

section
variable {f : Nat → Nat} {n : Nat}
theorem sizesAt_length (k : Nat) : (sizesAt f n k).length = lows f n k := by simp [sizesAt]
theorem sizesAt_zero : sizesAt f n 0 = [] := by simp [sizesAt, lows_zero]
theorem sizesAt_all : sizesAt f n n = sizesL f n := rfl
theorem cntNm_succ (k j : Nat) : cntNm f n (k + 1) j = cntNm f n k j + if nm f n k = j then 1 else 0 := by
  unfold cntNm
  rw [List.range_succ, List.filter_append, List.length_append]
  by_cases h : nm f n k = j
  · simp [h]
  · simp [h]
theorem cntNm_le (k j : Nat) : cntNm f n k j ≤ k := by
  unfold cntNm
  exact Nat.le_trans (List.length_filter_le _ _) (by simp)
theorem nm_least (h : Pm n f) {k : Nat} (hl : isLeast f n k) : nm f n k = lows f n k := by rw [nm, h.lst_self hl]
theorem nm_lt_lows (h : Pm n f) {k : Nat} (hk : k < n) (hl : ¬ isLeast f n k) : nm f n k < lows f n k := by
  rw [least_iff h hk, Classical.not_not] at hl
  exact lows_lt (h.lst_spec hk).1 hl
theorem cntNm_none (h : Pm n f) {k : Nat} (hk : k ≤ n) : cntNm f n k (lows f n k) = 0 := by
  unfold cntNm
  rw [List.length_eq_zero_iff, List.filter_eq_nil_iff]
  intro a ha
  rw [List.mem_range] at ha
  have : nm f n a < lows f n k := lows_lt (h.lst_spec (by omega)).1 (Nat.lt_of_le_of_lt (h.lst_le (by omega)) ha)
  simp
  omega
theorem sizesAt_get (k j : Nat) (hj : j < lows f n k) : (sizesAt f n k).getD j 0 = cntNm f n k j := by
  simp [sizesAt, List.getD_eq_getElem?_getD, hj]

theorem sizesAt_least (h : Pm n f) {k : Nat} (hk : k < n) (hl : isLeast f n k) : (sizesAt f n k ++ [0]).set (nm f n k) 1 = sizesAt f n (k + 1) := by
  have e := nm_least h hl
  apply List.ext_getElem (by simp [sizesAt, lows_succ_least hl])
  intro j h1 h2
  have hj : j < lows f n k + 1 := by simpa [sizesAt] using h1
  rw [List.getElem_set]
  simp only [sizesAt, List.getElem_map, List.getElem_range]
  rw [cntNm_succ]
  by_cases hc : nm f n k = j
  · rw [if_pos hc, if_pos hc, ← hc, e, cntNm_none h (by omega)]
  · rw [if_neg hc, if_neg hc, List.getElem_append_left (by simp; omega)]
    simp

theorem sizesAt_more (h : Pm n f) {k : Nat} (hk : k < n) (hl : ¬ isLeast f n k) : (sizesAt f n k).set (nm f n k) (cntNm f n k (nm f n k) + 1) = sizesAt f n (k + 1) := by
  have e := nm_lt_lows h hk hl
  apply List.ext_getElem (by simp [sizesAt, lows_succ_not hl])
  intro j h1 h2
  rw [List.getElem_set]
  simp only [sizesAt, List.getElem_map, List.getElem_range]
  rw [cntNm_succ]
  by_cases hc : nm f n k = j
  · rw [if_pos hc, if_pos hc, hc]
  · rw [if_neg hc, if_neg hc]
    omega
end

/-- The other dart of an edge. -/
def mate (d : Nat) : Nat := if d % 2 = 0 then d + 1 else d - 1
theorem mate_mate (d : Nat) : mate (mate d) = d := by unfold mate; split <;> split <;> omega
theorem mate_ne (d : Nat) : mate d ≠ d := by unfold mate; split <;> omega
theorem mate_lt {n d : Nat} (hn : n % 2 = 0) (hd : d < n) : mate d < n := by unfold mate; split <;> omega
theorem mate_half (d : Nat) : mate d / 2 = d / 2 := by unfold mate; split <;> omega

def sg (s : List Nat) (d : Nat) : Nat := s.getD d 0
/-- Along faces. -/
def phiL (s : List Nat) : List Nat := (List.range s.length).map fun d => sg s (mate d)
theorem phiL_length (s : List Nat) : (phiL s).length = s.length := by simp [phiL]
theorem phiL_sg {s : List Nat} {d : Nat} (hd : d < s.length) : sg (phiL s) d = sg s (mate d) := by
  rw [sg, phiL, List.getD_eq_getElem?_getD, List.getElem?_map, List.getElem?_range hd]
  rfl
theorem phiL_pm {s : List Nat} (h : Pm s.length (sg s)) (he : s.length % 2 = 0) : Pm (phiL s).length (sg (phiL s)) := by
  rw [phiL_length]
  refine ⟨fun x hx => ?_, fun x y hx hy e => ?_⟩
  · rw [phiL_sg hx]; exact h.lt _ (mate_lt he hx)
  · rw [phiL_sg hx, phiL_sg hy] at e
    have := h.inj _ _ (mate_lt he hx) (mate_lt he hy) e
    rw [← mate_mate x, this, mate_mate]

end Go.Proofs.Ythakkchmegnlhaa.Pq
