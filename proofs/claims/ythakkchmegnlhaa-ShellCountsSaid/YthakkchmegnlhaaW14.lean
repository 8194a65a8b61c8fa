/- What euler.Triangulation answers, in plain words. -/
import Derived.Test.YthakkchmegnlhaaW13
import Derived.Test.YthakkchmegnlhaaM11
namespace Go.Proofs.Ythakkchmegnlhaa
open Go.RowKit Pq

section
variable {s : List Nat} {lone : Nat}
theorem loopsN_zero (k : Nat) : loopsN s k = 0 ↔ ∀ e, e < k → nm (sg s) s.length (2 * e) ≠ nm (sg s) s.length (2 * e + 1) := by
  unfold loopsN
  rw [List.length_eq_zero_iff, List.filter_eq_nil_iff]
  constructor
  · intro h e he
    have := h e (List.mem_range.2 he)
    simpa using this
  · intro h e he
    have := h e (List.mem_range.1 he)
    simpa using this
theorem cntP_zero (k a b : Nat) (hl : ∀ e, e < k → nm (sg s) s.length (2 * e) ≠ nm (sg s) s.length (2 * e + 1)) : cntP s k a b = 0 ↔
    ∀ e, e < k → ¬ (min (nm (sg s) s.length (2 * e)) (nm (sg s) s.length (2 * e + 1)) = a ∧ max (nm (sg s) s.length (2 * e)) (nm (sg s) s.length (2 * e + 1)) = b) := by
  unfold cntP
  rw [List.length_eq_zero_iff, List.filter_eq_nil_iff]
  constructor
  · intro h e he
    have := h e (List.mem_range.2 he)
    have h2 := hl e he
    simpa [h2] using this
  · intro h e he
    have h2 := hl e (List.mem_range.1 he)
    have := h e (List.mem_range.1 he)
    simpa [h2] using this
theorem dblN_zero (k : Nat) (hl : ∀ e, e < k → nm (sg s) s.length (2 * e) ≠ nm (sg s) s.length (2 * e + 1)) : dblN s k = 0 ↔
    ∀ e, e < k → ∀ e', e' < e → ¬ (min (nm (sg s) s.length (2 * e')) (nm (sg s) s.length (2 * e' + 1)) = min (nm (sg s) s.length (2 * e)) (nm (sg s) s.length (2 * e + 1)) ∧
      max (nm (sg s) s.length (2 * e')) (nm (sg s) s.length (2 * e' + 1)) = max (nm (sg s) s.length (2 * e)) (nm (sg s) s.length (2 * e + 1))) := by
  unfold dblN
  rw [List.length_eq_zero_iff, List.filter_eq_nil_iff]
  constructor
  · intro h e he
    have := h e (List.mem_range.2 he)
    have h2 := hl e he
    rw [← cntP_zero e _ _ (fun e' he' => hl e' (by omega))]
    simpa [h2] using this
  · intro h e he
    have he := List.mem_range.1 he
    have := h e he
    rw [← cntP_zero e _ _ (fun e' he' => hl e' (by omega))] at this
    simp [this]

theorem cvF_all {f g : Nat → Nat} {n : Nat} (h : Cls n (Conn f)) (hc : cntR (Conn f) n = 1) (k : Nat) (hk : k ≤ n) : cvF f g n k 0 = lows g n k := by
  induction k with
  | zero => rw [cvF_zero]; rfl
  | succ k ih =>
    rw [cvF_succ, ih (by omega)]
    have h1 := h.nm_lt (show k < n by omega)
    have h2 : nmR (Conn f) n k = 0 := by omega
    by_cases hl : isLeast g n k
    · rw [lows_succ_least hl, if_pos ⟨hl, h2⟩]
    · rw [lows_succ_not hl, if_neg (fun e => hl e.1)]
      rfl
theorem ceF_all {f : Nat → Nat} {n : Nat} (h : Cls n (Conn f)) (hc : cntR (Conn f) n = 1) (k : Nat) (hk : k ≤ n) : ceF f n k 0 = k / 2 := by
  induction k with
  | zero => rw [ceF_zero]
  | succ k ih =>
    rw [ceF_succ, ih (by omega)]
    have h1 := h.nm_lt (show k < n by omega)
    have h2 : nmR (Conn f) n k = 0 := by omega
    by_cases hl : k % 2 = 1
    · rw [if_pos ⟨hl, h2⟩]; omega
    · rw [if_neg (fun e => hl e.1)]; omega

theorem phiL_ph {d : Nat} (hd : d < s.length) : sg (phiL s) d = ph (sg s) d := by rw [phiL_sg hd]; rfl
theorem genus_one (hp : Pm s.length (sg s)) (he : s.length % 2 = 0) (hc : cntR (Conn (sg s)) s.length = 1) :
    genusOf s 0 = (2 - (cnt (sg s) s.length : Int) + (s.length / 2 : Nat) - (cnt (ph (sg s)) s.length : Int)).tdiv 2 := by
  have hcl := conn_cls hp he
  have hpl := phiL_pm hp he
  rw [phiL_length] at hpl
  have e1 : genusOf s 0 = prtL s 0 4 := by
    rw [genusOf, hc]
    show 0 + prtL s 0 4 = prtL s 0 4
    omega
  rw [e1, prtL, if_pos (by omega), prtG, if_pos ⟨rfl, by omega⟩, genF]
  have p1 : prtF s s.length 0 1 = (cnt (sg s) s.length : Int) := by
    show ((cvF (sg s) (sg s) s.length s.length 0 : Nat) : Int) = _
    rw [cvF_all hcl hc _ (Nat.le_refl _)]
    rfl
  have p2 : prtF s s.length 0 2 = ((s.length / 2 : Nat) : Int) := by
    show ((ceF (sg s) s.length s.length 0 : Nat) : Int) = _
    rw [ceF_all hcl hc _ (Nat.le_refl _)]
  have p3 : prtF s s.length 0 3 = (cnt (ph (sg s)) s.length : Int) := by
    show ((cvF (sg s) (sg (phiL s)) s.length s.length 0 : Nat) : Int) = _
    rw [cvF_all hcl hc _ (Nat.le_refl _)]
    rw [← cnt_congr hpl (fun x hx => phiL_ph hx)]
    rfl
  rw [p1, p2, p3]

theorem tri_iff (hp : Pm s.length (sg s)) (he : s.length % 2 = 0) : triB s lone = true ↔ lone = 0 ∧ Trg s.length (sg s) := by
  have hcl := conn_cls hp he
  have hpar := euler_even hp he
  have hml : ∀ d, d < s.length → mate d < s.length := fun d hd => mate_lt he hd
  have hev : ∀ e, mate (2 * e) = 2 * e + 1 := fun e => by unfold mate; rw [if_pos (by omega)]
  have hod : ∀ e, mate (2 * e + 1) = 2 * e := fun e => by rw [← hev, mate_mate]
  have hph : ∀ d, d < s.length → sg (phiL s) d = ph (sg s) d := fun d hd => phiL_ph hd
  have hpl : ∀ d, d < s.length → ph (sg s) d < s.length := fun d hd => hp.lt _ (hml d hd)
  have hpm : ∀ {a : Nat}, a < s.length → nm (sg s) s.length a < cnt (sg s) s.length := fun h => hp.nm_lt h
  unfold triB
  simp only [Bool.and_eq_true, decide_eq_true_eq]
  constructor
  · rintro ⟨⟨⟨⟨h1, h2⟩, h3⟩, h4⟩, h5⟩
    have hn : 0 < s.length := by
      rcases Nat.eq_zero_or_pos s.length with e | e
      · rw [e, cntR_zero] at h2
        rw [e, cnt_zero] at h1
        omega
      · exact e
    have h2n := hcl.nm_lt hn
    have hc : cntR (Conn (sg s)) s.length = 1 := by omega
    have hl : lone = 0 := by omega
    subst hl
    refine ⟨rfl, ?_⟩
    rw [genus_one hp he hc] at h3
    rw [simpleB, Bool.and_eq_true, decide_eq_true_eq, decide_eq_true_eq, loopsN_zero] at h4
    obtain ⟨h4, h6⟩ := h4
    rw [dblN_zero _ h4] at h6
    rw [threeB, decide_eq_true_eq] at h5
    have hnl : ∀ d, d < s.length → nm (sg s) s.length (mate d) ≠ nm (sg s) s.length d := by
      intro d hd
      have h7 := h4 (d / 2) (by omega)
      rcases Nat.mod_two_eq_zero_or_one d with e | e
      · rw [show 2 * (d / 2) = d by omega] at h7
        have := hev (d / 2)
        rw [show 2 * (d / 2) = d by omega] at this
        rw [this]
        exact h7.symm
      · rw [show 2 * (d / 2) + 1 = d by omega] at h7
        have := hod (d / 2)
        rw [show 2 * (d / 2) + 1 = d by omega] at this
        rw [this]
        exact h7
    refine ⟨hp, he, hn, fun a b ha hb => cntR_one_all hcl hc ha hb, ?_, ?_, hnl, ?_⟩
    · generalize hx : 2 - (cnt (sg s) s.length : Int) + (s.length / 2 : Nat) - (cnt (ph (sg s)) s.length : Int) = x at h3
      rcases Int.le_total 0 x with h0 | h0
      · rw [Int.tdiv_eq_ediv_of_nonneg h0] at h3; omega
      · rw [show x = -(-x) by omega, Int.neg_tdiv, Int.tdiv_eq_ediv_of_nonneg (by omega)] at h3; omega
    · intro d hd
      have := (h5 d hd).1
      rw [hph d hd, hph _ (hpl d hd), hph _ (hpl _ (hpl d hd))] at this
      exact this
    · intro d d' hd hd' e1 e2
      have key : ∀ d d', d < s.length → d' < s.length → nm (sg s) s.length d = nm (sg s) s.length d' → nm (sg s) s.length (mate d) = nm (sg s) s.length (mate d') → d' / 2 < d / 2 → False := by
        intro d d' hd hd' e1 e2 hlt
        refine h6 (d / 2) (by omega) (d' / 2) hlt ?_
        have hxx : ∀ d, (nm (sg s) s.length (2 * (d / 2)) = nm (sg s) s.length d ∧ nm (sg s) s.length (2 * (d / 2) + 1) = nm (sg s) s.length (mate d)) ∨
            (nm (sg s) s.length (2 * (d / 2)) = nm (sg s) s.length (mate d) ∧ nm (sg s) s.length (2 * (d / 2) + 1) = nm (sg s) s.length d) := by
          intro d
          rcases Nat.mod_two_eq_zero_or_one d with e | e
          · left
            have := hev (d / 2)
            rw [show 2 * (d / 2) = d by omega] at this ⊢
            rw [this]
            exact ⟨rfl, rfl⟩
          · right
            have := hod (d / 2)
            rw [show 2 * (d / 2) + 1 = d by omega] at this ⊢
            rw [this]
            exact ⟨rfl, rfl⟩
        rcases hxx d with ⟨a1, a2⟩ | ⟨a1, a2⟩ <;> rcases hxx d' with ⟨b1, b2⟩ | ⟨b1, b2⟩ <;> rw [a1, a2, b1, b2, e1, e2] <;> constructor <;> omega
      rcases Nat.lt_trichotomy (d / 2) (d' / 2) with h | h | h
      · exact (key d' d hd' hd e1.symm e2.symm h).elim
      · by_cases e : d = d'
        · exact e
        · exfalso
          have : d' = mate d := by unfold mate; split <;> omega
          rw [this] at e1
          exact hnl d hd e1.symm
      · exact (key d d' hd hd' e1 e2 h).elim
  · rintro ⟨rfl, T⟩
    have hc : cntR (Conn (sg s)) s.length = 1 := cntR_one hcl T.pos (fun a b ha hb => T.conn a b ha hb)
    have hl : ∀ e, e < s.length / 2 → nm (sg s) s.length (2 * e) ≠ nm (sg s) s.length (2 * e + 1) := fun e he => by
      have := T.nl (2 * e) (by omega)
      rw [hev] at this
      exact this.symm
    refine ⟨⟨⟨⟨?_, by omega⟩, ?_⟩, ?_⟩, ?_⟩
    · have p0 := T.pl T.pos
      have p1 := T.pl p0
      have a0 := hpm T.pos
      have a1 := hpm p0
      have a2 := hpm p1
      have b0 := T.nl 0 T.pos
      have b1 := T.nl _ p0
      have b2 := T.nl _ p1
      rw [← T.nm_ph T.pos] at b0
      rw [← T.nm_ph p0] at b1
      rw [← T.nm_ph p1, T.tri 0 T.pos] at b2
      omega
    · rw [genus_one hp he hc]
      have := T.eul
      rw [show 2 - (cnt (sg s) s.length : Int) + (s.length / 2 : Nat) - (cnt (ph (sg s)) s.length : Int) = 0 by omega]
      rfl
    · rw [simpleB, Bool.and_eq_true, decide_eq_true_eq, decide_eq_true_eq, loopsN_zero, dblN_zero _ hl]
      refine ⟨hl, fun e he1 e' he2 => ?_⟩
      rintro ⟨m1, m2⟩
      have k1 := T.nd (2 * e) (2 * e') (by omega) (by omega)
      have k2 := T.nd (2 * e) (2 * e' + 1) (by omega) (by omega)
      rw [hev, hev] at k1
      rw [hev, hod] at k2
      omega
    · rw [threeB, decide_eq_true_eq]
      intro d hd
      rw [hph d hd, hph _ (hpl d hd), hph _ (hpl _ (hpl d hd))]
      refine ⟨T.tri d hd, fun e => ?_⟩
      have := T.nm_ph hd
      rw [e] at this
      exact T.nl d hd this.symm
end
end Go.Proofs.Ythakkchmegnlhaa
