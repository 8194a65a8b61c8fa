/- Plain mathematics: what is counted of the parts of a map. -/
import Derived.Test.YthakkchmegnlhaaM5
namespace Go.Proofs.Ythakkchmegnlhaa.Pq

open Classical in
/-- How many of the first k darts of part j are least in their orbit of f. -/
noncomputable def cvF (f g : Nat → Nat) (n k j : Nat) : Nat := ((List.range k).filter fun a => decide (isLeast g n a) && (nmR (Conn f) n a == j)).length
noncomputable def ceF (f : Nat → Nat) (n k j : Nat) : Nat := ((List.range k).filter fun a => (a % 2 == 1) && (nmR (Conn f) n a == j)).length
open Classical in
noncomputable def lowList (R : Nat → Nat → Prop) (n : Nat) : List Nat := (List.range n).filter fun d => decide (isLow R n d)

section
variable {f g : Nat → Nat} {n : Nat}
theorem cvF_succ (k j : Nat) : cvF f g n (k + 1) j = cvF f g n k j + (open Classical in if isLeast g n k ∧ nmR (Conn f) n k = j then 1 else 0) := by
  unfold cvF
  rw [List.range_succ, List.filter_append, List.length_append]
  congr 1
  by_cases h1 : isLeast g n k <;> by_cases h2 : nmR (Conn f) n k = j <;> simp [h1, h2]
theorem ceF_succ (k j : Nat) : ceF f n (k + 1) j = ceF f n k j + if k % 2 = 1 ∧ nmR (Conn f) n k = j then 1 else 0 := by
  unfold ceF
  rw [List.range_succ, List.filter_append, List.length_append]
  congr 1
  by_cases h1 : k % 2 = 1 <;> by_cases h2 : nmR (Conn f) n k = j <;> simp [h1, h2]
theorem cvF_le (k j : Nat) : cvF f g n k j ≤ k := by
  unfold cvF
  exact Nat.le_trans (List.length_filter_le _ _) (by simp)
theorem ceF_le (k j : Nat) : ceF f n k j ≤ k := by
  unfold ceF
  exact Nat.le_trans (List.length_filter_le _ _) (by simp)
theorem cvF_zero (j : Nat) : cvF f g n 0 j = 0 := by simp [cvF]
theorem ceF_zero (j : Nat) : ceF f n 0 j = 0 := by simp [ceF]
/-- Of a part whose least dart is still to come there is nothing. -/
theorem nm_none {R : Nat → Nat → Prop} (h : Cls n R) {a k : Nat} (hk : k ≤ n) (ha : a < k) : nmR R n a ≠ lowsR R n k := by
  have : nmR R n a < lowsR R n k := lowsR_lt (h.lo_spec (by omega)).1 (Nat.lt_of_le_of_lt (h.lo_le (by omega)) ha)
  omega
theorem cvF_none (h : Cls n (Conn f)) {k : Nat} (hk : k ≤ n) : cvF f g n k (lowsR (Conn f) n k) = 0 := by
  unfold cvF
  rw [List.length_eq_zero_iff, List.filter_eq_nil_iff]
  intro a ha
  rw [List.mem_range] at ha
  simp [nm_none h hk ha]
theorem ceF_none (h : Cls n (Conn f)) {k : Nat} (hk : k ≤ n) : ceF f n k (lowsR (Conn f) n k) = 0 := by
  unfold ceF
  rw [List.length_eq_zero_iff, List.filter_eq_nil_iff]
  intro a ha
  rw [List.mem_range] at ha
  simp [nm_none h hk ha]
theorem lowList_length {R : Nat → Nat → Prop} : (lowList R n).length = cntR R n := rfl
open Classical in
theorem lowList_get {R : Nat → Nat → Prop} {k : Nat} (hl : isLow R n k) : (lowList R n).getD (lowsR R n k) 0 = k := by
  have hk := hl.1
  have e : List.range n = List.range k ++ k :: (List.range (n - (k + 1))).map (fun i => k + 1 + i) := by
    rw [show n = k + (1 + (n - (k + 1))) by omega, List.range_add]
    congr 1
    rw [Nat.add_comm 1, List.range_succ_eq_map]
    simp only [List.map_cons, List.map_map, Nat.add_zero, List.cons.injEq, true_and]
    rw [show k + (n - (k + 1) + 1) - (k + 1) = n - (k + 1) by omega]
    refine List.map_congr_left fun i _ => ?_
    simp; omega
  unfold lowList
  rw [e, List.filter_append, List.filter_cons, if_pos (by simpa using hl), List.getD_eq_getElem?_getD]
  have h1 : ((List.range k).filter fun d => decide (isLow R n d)).length = lowsR R n k := rfl
  rw [List.getElem?_append_right (by rw [h1]; exact Nat.le_refl _), h1, Nat.sub_self]
  rfl

/-- The parts as they stand when k darts were looked at: root, vertices, edges, borders. -/
noncomputable def prtF (s : List Nat) (k j : Nat) : Nat → Int
  | 0 => ((lowList (Conn (sg s)) s.length).getD j 0 : Nat)
  | 1 => (cvF (sg s) (sg s) s.length k j : Nat)
  | 2 => (ceF (sg s) s.length k j : Nat)
  | 3 => (cvF (sg s) (sg (phiL s)) s.length k j : Nat)
  | _ => 0
/-- Half of 2 less vertices, plus edges, less borders. -/
noncomputable def genF (s : List Nat) (j : Nat) : Int := (2 - prtF s s.length j 1 + prtF s s.length j 2 - prtF s s.length j 3).tdiv 2
/-- The parts, the first k of them with their genus. -/
noncomputable def prtG (s : List Nat) (k j c : Nat) : Int := if c = 4 ∧ j < k then genF s j else prtF s s.length j c
/-- With the lone ones. -/
noncomputable def prtL (s : List Nat) (j c : Nat) : Int := if j < cntR (Conn (sg s)) s.length then prtG s (cntR (Conn (sg s)) s.length) j c else [-1, 1, 0, 1, 0].getD c 0
end
end Go.Proofs.Ythakkchmegnlhaa.Pq
