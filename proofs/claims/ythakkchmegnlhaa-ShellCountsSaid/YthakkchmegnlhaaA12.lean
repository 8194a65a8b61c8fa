/- An append of noughts that are told by their number, and of a slice that is read. -/
import Derived.Test.YthakkchmegnlhaaA11
namespace Go.Proofs.Ythakkchmegnlhaa
open Go.RowKit Go.Lib

theorem zero_get {k j : Nat} (h : j < k) : (Builtin.zeroCells (Value.int IntKind.i64 0).cells k)[j]? = some (.int .i64 0) := by
  rw [show (Value.int IntKind.i64 0).cells = #[Value.int IntKind.i64 0] from rfl]
  simp [Builtin.zeroCells, Nat.mod_one, h]
theorem run_zeros_room {w : World} {g n cap k : Nat} {cur : Array Value} (hB : Blk w g 3 cur) (hroom : n + k ≤ cap) (hcs : cur.size = cap) (hk : 0 < k) (hbig : k < 1099511627776) (ty : TypeId) :
    (Builtin.append_ #[24, 3] ty #[.slice (some ⟨g, 0, none⟩) n cap, .int .i64 (k : Int)]).run Try.prog w = .ok (.slice (some ⟨g, 0, none⟩) (n + k) cap) (w.setCells g n (List.replicate k (.int .i64 0))) := by
  obtain ⟨i0, hi, hz0, hz1, hz2⟩ := info_parts Try.infoInt
  have hw : IntKind.i64.wrap (k : Int) = k := by rw [IntKind.wrap_i64]; omega
  have hneg : ¬ ((k : Int) < 0) := by omega
  have h48 : ¬ (281474976710656 < (k : Int) * (8 : Int)) := by omega
  have hk0 : k ≠ 0 := by omega
  have hzc : (Builtin.zeroCells (Value.int IntKind.i64 0).cells k).toList = List.replicate k (.int .i64 0) := by
    rw [show (Value.int IntKind.i64 0).cells = #[Value.int IntKind.i64 0] from rfl]
    simp [Builtin.zeroCells]
    apply List.ext_getElem
    · simp
    · intro i h1 h2
      simp [Nat.mod_one]
  have hst := run_storeCells_cells (P := Try.prog) g 0 (List.replicate k (.int .i64 0)) n w (fun j hj => by rw [hB.cell]; rw [List.length_replicate] at hj; simp; omega) (fun j hj => hB.frozen _) (fun v hv => by rw [List.eq_of_mem_replicate hv]; rfl)
  rw [Nat.zero_add] at hst
  have hadd : (⟨g, 0, none⟩ : Addr).add n = ⟨g, n, none⟩ := by unfold Addr.add; split <;> simp_all
  have hst2 : (storeCells ⟨g, n, none⟩ (List.replicate k (.int .i64 0))).run Try.prog w = .ok () (w.setCells g n (List.replicate k (.int .i64 0))) := by
    have := run_storeCells_cells (P := Try.prog) g n (List.replicate k (.int .i64 0)) 0 w (fun j hj => by rw [hB.cell]; rw [List.length_replicate] at hj; simp; omega) (fun j hj => hB.frozen _) (fun v hv => by rw [List.eq_of_mem_replicate hv]; rfl)
    rw [Nat.add_zero] at this
    exact this
  simp [Builtin.append_, run_underlying Try.underlying24, run_underlying Try.underlying3, sizeOf, typeInfo, zeroValue, hi, hz0, hz1, hz2, asInt, asIntOf, hw, hneg, h48, hk0, hroom, hzc, hadd, hst2]

theorem run_app_zeros {w : World} {base : Nat} {v : Value} {xs : List Int} (h : Own w base 3 v xs) (k : Nat) (hk : 0 < k) (hbig : xs.length + k < 1099511627776) (hb : base ≤ w.heap.size) (hn0 : 0 < xs.length) (ty : TypeId) :
    ∃ g c w', (Builtin.append_ #[24, 3] ty #[v, .int .i64 (k : Int)]).run Try.prog w = .ok (.slice (some ⟨g, 0, none⟩) (xs.length + k) c) w' ∧
      Own w' base 3 (.slice (some ⟨g, 0, none⟩) (xs.length + k) c) (xs ++ List.replicate k 0) ∧ Upd (fun b => v.ownBlock = some b) w w' := by
  rcases h.2 with ⟨_, h0⟩ | ⟨g, cap, cur, rfl, hg, hh, hnc, hcm, hcs, hcur⟩
  · omega
  have hB : Blk w g 3 cur := hh
  rw [Nat.mul_one] at hcs
  have hc : ∀ j, j < xs.length → cur[j]? = some (.int .i64 (xs.getD j 0)) := fun j hj => by
    have h2 : (cur.toList.take (xs.length * 1))[j]? = (xs.map (Value.int .i64))[j]? := by rw [hcur]
    rw [List.getElem?_take, if_pos (by omega), map_get _ _ hj] at h2
    rw [← Array.getElem?_toList, h2]
  have hl : (xs ++ List.replicate k (0 : Int)).length = xs.length + k := by simp
  have hget : ∀ j, j < xs.length + k → (xs ++ List.replicate k (0 : Int)).getD j 0 = if j < xs.length then xs.getD j 0 else 0 := fun j hj => by
    simp only [List.getD_eq_getElem?_getD]
    by_cases e : j < xs.length
    · rw [if_pos e, List.getElem?_append_left e]
    · rw [if_neg e, List.getElem?_append_right (by omega), List.getElem?_replicate, if_pos (by omega)]
      rfl
  by_cases hroom : xs.length + k ≤ cap
  · refine ⟨g, cap, _, run_zeros_room hB hroom hcs hk (by omega) ty, ?_, Upd.setCells (S := fun b => (Value.slice (some ⟨g, 0, none⟩) xs.length cap).ownBlock = some b) (.inl rfl) _ _ (Upd.refl _ w)⟩
    have hB2 := hB.setCells (List.replicate k (.int .i64 0)) xs.length
    have := Own.of_cells (base := base) (xs := xs ++ List.replicate k 0) hB2 hg (by rw [cset_size, hcs]) hcm (by rw [hl]; exact hroom) (fun j hj => by
      rw [hl] at hj
      rw [cset_get _ _ _ _ (by omega), hget j hj, List.length_replicate]
      by_cases e : j < xs.length
      · rw [if_neg (by omega), if_pos e, hc j e]
      · rw [if_pos (by omega), if_neg e, List.getElem?_replicate, if_pos (by omega)])
    rw [hl] at this
    exact this
  · obtain ⟨i0, hi, hz0, hz1, hz2⟩ := info_parts Try.infoInt
    have hll : (xs.map (Value.int .i64)).length = xs.length := by simp
    have hr := run_append_grow_zeros (P := Try.prog) w 24 3 ty 3 i0 (.int .i64 0) .i64 .i64 Try.underlying24 Try.underlying3 hi hz0 (some ⟨g, 0, none⟩) xs.length cap (xs.map (Value.int .i64))
      (by
        rw [hz1]
        refine run_firstCells_some _ 1 xs.length _ xs.length cap _ (by rw [hll]; omega) (fun j v hj => ?_)
        have hjl : j < xs.length := by
          rcases Nat.lt_or_ge j xs.length with e | e
          · exact e
          · rw [List.getElem?_eq_none (by omega)] at hj; cases hj
        rw [map_get _ _ hjl] at hj
        rw [Addr.add_lit, Nat.zero_add]
        show w.cell? _ = _
        rw [hB.cell, hc j hjl, ← hj]) k hk (by omega) (by omega) (by omega) (by rw [hz2]; omega) (by rw [hz2]; exact growslice_fits (by omega) (by omega))
    refine ⟨w.heap.size, _, _, hr, ?_, ?_⟩
    · have h8 := grownCap_ge w (xs.length + k) cap 3
      have h9 := grownCap_le_maxLen w (xs.length + k) cap 3 (by unfold maxLen; omega)
      have hsz : ((xs.map (Value.int .i64)).toArray ++ Builtin.zeroCells (Value.int IntKind.i64 0).cells k ++ Builtin.zeroCells (Value.int IntKind.i64 0).cells (grownCap w (xs.length + k) cap 3 - (xs.length + k))).size = grownCap w (xs.length + k) cap 3 := by
        simp only [Array.size_append, size_zeroCells, List.size_toArray, hll]
        show xs.length + k * 1 + (grownCap w (xs.length + k) cap 3 - (xs.length + k)) * 1 = _
        omega
      have := Own.of_cells (base := base) (xs := xs ++ List.replicate k 0) (Blk.new w.drew 3 ((xs.map (Value.int .i64)).toArray ++ Builtin.zeroCells (Value.int IntKind.i64 0).cells k ++ Builtin.zeroCells (Value.int IntKind.i64 0).cells (grownCap w (xs.length + k) cap 3 - (xs.length + k)))) hb hsz h9 (by rw [hl]; exact h8) (fun j hj => by
        rw [hl] at hj
        rw [hget j hj, Array.getElem?_append_left (by simp only [Array.size_append, size_zeroCells, List.size_toArray, hll]; show j < xs.length + k * 1; omega)]
        by_cases e : j < xs.length
        · rw [if_pos e, Array.getElem?_append_left (by simp only [List.size_toArray, hll]; exact e), List.getElem?_toArray, map_get _ _ e]
        · rw [if_neg e, Array.getElem?_append_right (by simp only [List.size_toArray, hll]; omega), List.size_toArray, hll]
          exact zero_get (by omega))
      rw [hl] at this
      exact this
    · exact ((Upd.refl _ w).drew).alloc _

/-- 'append(s, t...)', s a row of the call's own, t one that is read. -/
theorem run_app_list {w : World} {base B : Nat} {v : Value} {xs ys : List Int} {A : Option Addr} {c : Nat} (h : Own w base 3 v xs) (hr : Rd w B A ys) (hy : 0 < ys.length) (hbig : xs.length + ys.length < 1099511627776) (hb : base ≤ w.heap.size) (ty : TypeId) :
    ∃ g c' w', (Builtin.append_ #[24, 24] ty #[v, .slice A ys.length c]).run Try.prog w = .ok (.slice (some ⟨g, 0, none⟩) (xs.length + ys.length) c') w' ∧
      Own w' base 3 (.slice (some ⟨g, 0, none⟩) (xs.length + ys.length) c') (xs ++ ys) ∧ Upd (fun b => v.ownBlock = some b) w w' := by
  obtain ⟨i0, hi, hz0, hz1, hz2⟩ := info_parts Try.infoInt
  obtain ⟨b, off, rfl, hbB, hcl⟩ := hr.at_ hy
  obtain ⟨g, c', w', h1, h2, h3, _⟩ := run_append_lies (P := Try.prog) w 24 ty base 3 i0 (.int .i64 0) 1 8 Try.underlying24 hi hz0 hz1 hz2 rfl (by decide) v xs.length (xs.map (Value.int .i64)) h
    ⟨b, off, none⟩ ys.length c (ys.map (Value.int .i64)) (by simp) (fun j u hj => by
      have hjl : j < ys.length := by
        rcases Nat.lt_or_ge j ys.length with e | e
        · exact e
        · rw [List.getElem?_eq_none (by simpa using e)] at hj; cases hj
      rw [map_get _ _ hjl] at hj
      rw [Addr.add_lit, hcl j hjl, ← hj]) (fun u hu => by
      rw [List.mem_map] at hu
      obtain ⟨y, _, rfl⟩ := hu
      rfl) hy (by unfold maxLen; omega) (by omega) hb _ rfl
  refine ⟨g, c', w', h1, ?_, (Upd.refl _ w).grown h3 (fun k e => .inl e)⟩
  simpa [Own] using h2
end Go.Proofs.Ythakkchmegnlhaa
