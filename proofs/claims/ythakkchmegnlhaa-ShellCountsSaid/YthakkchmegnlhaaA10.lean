/- slices.Replace of one number by some others, in one contract. -/
import Derived.Test.YthakkchmegnlhaaA9
namespace Go.Proofs.Ythakkchmegnlhaa
open Go.RowKit Go.Lib

theorem getD_repl (xs ys : List Int) {i i1 k : Nat} (hi : i ≤ xs.length) : (xs.take i ++ ys ++ xs.drop i1).getD k 0 = if k < i then xs.getD k 0 else if k < i + ys.length then ys.getD (k - i) 0 else xs.getD (i1 + (k - (i + ys.length))) 0 := by
  have hl : (xs.take i).length = i := by rw [List.length_take]; omega
  simp only [List.getD_eq_getElem?_getD]
  by_cases h1 : k < i
  · rw [if_pos h1, List.append_assoc, List.getElem?_append_left (by omega), List.getElem?_take, if_pos h1]
  · rw [if_neg h1, List.append_assoc, List.getElem?_append_right (by omega), hl]
    by_cases h2 : k < i + ys.length
    · rw [if_pos h2, List.getElem?_append_left (by omega)]
    · rw [if_neg h2, List.getElem?_append_right (by omega), List.getElem?_drop, show k - i - ys.length = k - (i + ys.length) by omega]
theorem map_get (xs : List Int) (k : Nat) (hk : k < xs.length) : (xs.map (Value.int .i64))[k]? = some (.int .i64 (xs.getD k 0)) := by
  simp [List.getD_eq_getElem?_getD, hk]

theorem Replace_calls {w : World} {base bu : Nat} {v u : Value} {xs ys : List Int} {i i1 : Nat} (hv : Own w base 3 v xs) (hu : Own w bu 3 u ys) (hne : ∀ g, v.ownBlock = some g → u.ownBlock ≠ some g)
    (h1 : i1 = i + 1) (hlt : i1 < xs.length) (hbig : xs.length + ys.length < 1099511627776) :
    Calls Try.prog 28 #[v, .int .i64 i, .int .i64 i1, u] w fun e w' =>
      ∃ v', e = .returned v' ∧ Own w' base 3 v' (xs.take i ++ ys ++ xs.drop i1) ∧ Upd (fun k => v.ownBlock = some k) w w' ∧ (v'.ownBlock = v.ownBlock ∨ v'.ownBlock = some w.heap.size) := by
  rcases hv.2 with ⟨_, hn⟩ | ⟨g, cap, cur, rfl, hg, hh, hnc, hcm, hcs, hcur⟩
  · omega
  have hB : Blk w g 3 cur := hh
  rw [Nat.mul_one] at hcs
  have hc : ∀ k, k < xs.length → cur[k]? = some (.int .i64 (xs.getD k 0)) := fun k hk => by
    have h2 : (cur.toList.take (xs.length * 1))[k]? = (xs.map (Value.int .i64))[k]? := by rw [hcur]
    rw [List.getElem?_take, if_pos (by omega), map_get _ _ hk] at h2
    rw [← Array.getElem?_toList, h2]
  have hown : ∀ k, (Value.slice (some ⟨g, 0, none⟩) xs.length cap).ownBlock = some k ↔ k = g := fun k => by
    simp only [Value.ownBlock, Option.some.injEq]
    exact eq_comm
  have hS : (fun k => (Value.slice (some ⟨g, 0, none⟩) xs.length cap).ownBlock = some k) = (· = g) := by
    funext k
    exact propext (hown k)
  rw [hS]
  have hi : i ≤ xs.length := by omega
  have hzl : (xs.take i ++ ys ++ xs.drop i1).length = i + ys.length + (xs.length - i1) := by
    rw [List.length_append, List.length_append, List.length_take, List.length_drop]; omega
  have hdl : ((xs.drop i1).map (Value.int .i64)).length = xs.length - i1 := by simp
  have hyl : (ys.map (Value.int .i64)).length = ys.length := by simp
  have hdg : ∀ k, k < xs.length - i1 → ((xs.drop i1).map (Value.int .i64))[k]? = some (.int .i64 (xs.getD (i1 + k) 0)) := fun k hk => by
    rw [map_get _ _ (by rw [List.length_drop]; exact hk), getD_drop]
  obtain ⟨A, cu, rfl, _, _, hrd, hA1, _⟩ := hu.form
  by_cases hgrow : cap < i + ys.length + (xs.length - i1)
  · refine (Replace_grow (w := w) hB hcm hnc hc hrd h1 hlt ys.length (i + ys.length + (xs.length - i1)) (i + ys.length) rfl rfl rfl hgrow (by omega) rfl).mono ?_
    rintro e w' ⟨cap', cs, rfl, k1, k2, k3, k4, k5, k6⟩
    refine ⟨_, rfl, ?_, Upd.of_below k6, .inr rfl⟩
    have := Own.of_cells (base := base) (cap := cap') (xs := xs.take i ++ ys ++ xs.drop i1) k1 (by have := hB.lt; omega) (by rw [cset_size, cset_size, k2]) k4 (by rw [hzl]; exact k3) (fun k hk => by
      rw [hzl] at hk
      rw [getD_repl xs ys hi, cset_get _ _ _ _ (by rw [cset_size]; omega), hdl]
      by_cases e1 : i + ys.length ≤ k
      · rw [if_pos (by omega), if_neg (by omega), if_neg (by omega), hdg _ (by omega)]
      · rw [if_neg (by omega), cset_get _ _ _ _ (by omega), hyl]
        by_cases e2 : i ≤ k
        · rw [if_pos (by omega), if_neg (by omega), if_pos (by omega), map_get _ _ (by omega)]
        · rw [if_neg (by omega), if_pos (by omega), k5 k (by omega)])
    rw [hzl] at this
    exact this
  · have hm : ys.length = 0 ∨ ys.length = 1 ∨ 2 ≤ ys.length := by omega
    rcases hm with hm | hm | hm
    · have hy0 : ys = [] := List.eq_nil_of_length_eq_zero hm
      subst hy0
      refine (Replace_none (w := w) (cu := cu) (A := A) hB hcs hcm hnc hc h1 hlt rfl (xs.length - 1) rfl).mono ?_
      rintro e w' ⟨rfl, k1, k2⟩
      refine ⟨_, rfl, ?_, k2, .inl rfl⟩
      have := Own.of_cells (base := base) (cap := cap) (xs := xs.take i ++ [] ++ xs.drop i1) k1 hg (by rw [cset_size, cset_size, hcs]) hcm (by rw [hzl]; omega) (fun k hk => by
        rw [hzl] at hk
        rw [getD_repl xs [] hi, cset_get _ _ _ _ (by rw [cset_size]; omega), if_neg (by simp at hk ⊢; omega), cset_get _ _ _ _ (by omega), hdl]
        simp only [List.length_nil] at hk ⊢
        by_cases e1 : i ≤ k
        · rw [if_pos (by omega), if_neg (by omega), if_neg (by omega), hdg _ (by omega)]
          rfl
        · rw [if_neg (by omega), if_pos (by omega), hc k (by omega)])
      rw [hzl] at this
      rw [show xs.length - 1 = i + [].length + (xs.length - i1) by simp; omega]
      exact this
    · refine (Replace_one (w := w) hB hcs hcm hnc hc hrd h1 hlt hm rfl).mono ?_
      rintro e w' ⟨rfl, k1, k2⟩
      refine ⟨_, rfl, ?_, k2, .inl rfl⟩
      have := Own.of_cells (base := base) (cap := cap) (xs := xs.take i ++ ys ++ xs.drop i1) k1 hg (by rw [cset_size, cset_size, hcs]) hcm (by rw [hzl]; omega) (fun k hk => by
        rw [hzl] at hk
        rw [getD_repl xs ys hi, cset_get _ _ _ _ (by rw [cset_size]; omega), hdl]
        by_cases e1 : i1 ≤ k
        · rw [if_pos (by omega), if_neg (by omega), if_neg (by omega), hdg _ (by omega), show i1 + (k - i1) = i1 + (k - (i + ys.length)) by omega]
        · rw [if_neg (by omega), cset_get _ _ _ _ (by omega), hyl]
          by_cases e2 : i ≤ k
          · rw [if_pos (by omega), if_neg (by omega), if_pos (by omega), map_get _ _ (by omega)]
          · rw [if_neg (by omega), if_pos (by omega), hc k (by omega)])
      rw [hzl] at this
      rw [show xs.length = i + ys.length + (xs.length - i1) by omega]
      exact this
    · have hA : ∃ b off cs', A = some ⟨b, off, none⟩ ∧ b ≠ g ∧ Blk w b 3 cs' ∧ cs'.size ≠ 0 := by
        rcases hu.2 with ⟨e, _⟩ | ⟨b, cap2, cur2, e, _, hh2, hl2, _, hs2, _⟩
        · injection e with _ e; omega
        · injection e with e _ e3
          subst e
          refine ⟨b, 0, cur2, rfl, ?_, hh2, by omega⟩
          rintro rfl
          exact hne b rfl rfl
      refine (Replace_more (w := w) hB hcs hcm hnc hc hrd hA h1 hlt ys.length (i + ys.length + (xs.length - i1)) (i + ys.length) rfl hm rfl rfl (by omega) rfl).mono ?_
      rintro e w' ⟨rfl, k1, k2⟩
      refine ⟨_, rfl, ?_, k2, .inl rfl⟩
      have := Own.of_cells (base := base) (cap := cap) (xs := xs.take i ++ ys ++ xs.drop i1) k1 hg (by rw [cset_size, cset_size, hcs]) hcm (by rw [hzl]; omega) (fun k hk => by
        rw [hzl] at hk
        rw [getD_repl xs ys hi, cset_get _ _ _ _ (by rw [cset_size]; omega), hyl]
        by_cases e1 : i ≤ k ∧ k < i + ys.length
        · rw [if_pos e1, if_neg (by omega), if_pos (by omega), map_get _ _ (by omega)]
        · rw [if_neg e1, cset_get _ _ _ _ (by omega), hdl]
          by_cases e2 : i + ys.length ≤ k
          · rw [if_pos (by omega), if_neg (by omega), if_neg (by omega), hdg _ (by omega)]
          · rw [if_neg (by omega), if_pos (by omega), hc k (by omega)])
      rw [hzl] at this
      exact this
end Go.Proofs.Ythakkchmegnlhaa
