/- slices.Reverse; an append of some numbers, at a step of a region that draws its order; make at such a step. -/
import Derived.Test.YthakkchmegnlhaaA10
import Derived.Test.YthakkchmegnlhaaA3
import Derived.Test.YthakkchmegnlhaaA6
namespace Go.Proofs.Ythakkchmegnlhaa
open Go.RowKit Go.Lib

theorem Reverse_calls {w : World} {base : Nat} {v : Value} {xs : List Int} (h : Own w base 3 v xs) (hn : xs.length < 1099511627776) :
    Calls Try.prog 30 #[v] w fun e w' => e = .returned (.tuple #[]) ∧ Own w' base 3 v xs.reverse ∧ Upd (fun k => v.ownBlock = some k) w w' := by
  rcases h.2 with ⟨rfl, h0⟩ | ⟨g, cap, cur, rfl, hg, hh, hnc, hcm, hcs, hcur⟩
  · obtain rfl : xs = [] := List.eq_nil_of_length_eq_zero h0
    refine (Try.slices_Reverse_int_empty none 0 w).mono ?_
    rintro e w' ⟨rfl, rfl⟩
    exact ⟨rfl, Own.nil _ _ _, Upd.refl _ _⟩
  · have hB : Blk w g 3 cur := hh
    rw [Nat.mul_one] at hcs
    have hc : ∀ k, k < xs.length → cur[k]? = some (.int .i64 (xs.getD k 0)) := fun k hk => by
      have h2 : (cur.toList.take (xs.length * 1))[k]? = (xs.map (Value.int .i64))[k]? := by rw [hcur]
      rw [List.getElem?_take, if_pos (by omega), map_get _ _ hk] at h2
      rw [← Array.getElem?_toList, h2]
    refine (Try.slices_Reverse_int_cells g 0 xs.length cap xs w (Nat.le_refl _) (by omega) (fun j hj => by rw [Nat.zero_add, hB.cell, hc j hj]) (fun j _ => hB.frozen _)).mono ?_
    rintro e w' ⟨rfl, q, rfl⟩
    rw [List.take_length]
    refine ⟨rfl, ?_, Upd.setCells (S := fun k => (Value.slice (some ⟨g, 0, none⟩) xs.length cap).ownBlock = some k) (.inl rfl) _ 0 ((Upd.refl _ w).drewN q)⟩
    have hB2 := (hB.drewN q).setCells (xs.reverse.map (Value.int .i64)) 0
    have := Own.of_cells (base := base) (xs := xs.reverse) hB2 hg (by rw [cset_size, hcs]) hcm (by rw [List.length_reverse]; exact hnc) (fun k hk => by
      rw [List.length_reverse] at hk
      rw [cset_get _ _ _ _ (by omega), if_pos (by rw [List.length_map, List.length_reverse]; omega), Nat.sub_zero, map_get _ _ (by rw [List.length_reverse]; exact hk)])
    rw [List.length_reverse] at this
    exact this

theorem step_app_ints {ops : Array Oper} {o : Oper} {a : Act} {w : World} {K : Act → World → Prop} {Q : Exit → Act → World → Prop} {E : Prop} (hgd : o.guard = none) (s x : Operand)
    (ho : o.op = .call { callee := .builtin .append, args := #[s, x], argTypes := #[24, 24] })
    (base : Nat) (v : Value) (xs ys : List Int) (hs : a.eval s = v) (hown : Own w base 3 v xs) (B m : Nat) (hm : ys.length = m) (hm0 : 0 < m) (hx : a.eval x = .slice (some ⟨B, 0, none⟩) m m)
    (hB : Blk w B 3 (ivs ys)) (hlen : xs.length + ys.length < 1099511627776) (hbase : base ≤ w.heap.size)
    (h : ∀ v' w', Own w' base 3 v' (xs ++ ys) → w.grownBy w' v.ownBlock → K (a.put o.dst v') w') :
    if Region.wanted o (yielded ops a.tmps) = true then Oper.wp Try.prog o a w K Q else E := by
  obtain ⟨i0, hi, hz0, hz1, hz2⟩ := info_parts Try.infoInt
  subst hm
  refine step_append_lies w hgd s x 24 ho base 3 i0 (.int .i64 0) 1 8 Try.underlying24 hi hz0 hz1 hz2 rfl (by decide) v xs.length (xs.map (Value.int .i64)) hs hown
    ⟨B, 0, none⟩ ys.length ys.length (ys.map (Value.int .i64)) hx (by simp) ?_ ?_ hm0 ?_ ?_ hbase w.heap.size rfl ?_
  · exact World.news_of_block hB
  · intro u hu
    rw [List.mem_map] at hu
    obtain ⟨y, _, rfl⟩ := hu
    rfl
  · unfold maxLen; omega
  · omega
  · intro g cap w' h1 h2 _ _
    refine h _ w' ?_ h2
    simpa [Own] using h1

/-- 'append(s, y)', and where the new row lies. -/
theorem app_lies {ops : Array Oper} {rest : List Oper} {o : Oper} {a : Act} {Q : Exit → Act → World → Prop} {w : World} (hgd : o.guard = none) (s x : Operand)
    (ho : o.op = .call { callee := .builtin .append, args := #[s, x], argTypes := #[24, 24] })
    (base : Nat) (v : Value) (xs : List Int) (n n1 : Nat) (hn : xs.length = n) (hn1 : n1 = n + 1) (y : Int) (hs : a.eval s = v) (hown : Own w base 3 v xs) (hx : a.eval x = .slice (some ⟨w.heap.size, 0, none⟩) 1 1)
    (hlen : n < 1099511627776) (hbase : base ≤ w.heap.size)
    (h : ∀ g c w', Own w' base 3 (.slice (some ⟨g, 0, none⟩) n1 c) (xs ++ [y]) → w.grownBy w' v.ownBlock → (v.ownBlock = some g ∨ w.heap.size < g) → wpList Try.prog ops Q rest (a.put o.dst (.slice (some ⟨g, 0, none⟩) n1 c)) w') :
    wpList Try.prog ops Q (o :: rest) a (w.alloc (.cells #[.int .i64 y] 3)) := by
  obtain ⟨i0, hi, hz0, hz1, hz2⟩ := info_parts Try.infoInt
  subst hn hn1
  refine wpList_append_lies _ hgd s x 24 ho base 3 i0 (.int .i64 0) 1 8 Try.underlying24 hi hz0 hz1 hz2 rfl (by decide) v xs.length (xs.map (Value.int .i64)) hs (hown.alloc _)
    ⟨w.heap.size, 0, none⟩ 1 1 [.int .i64 y] hx rfl ?_ ?_ (by decide) ?_ ?_ ?_ _ rfl ?_
  · exact World.news_of_block (Blk.new w 3 #[.int .i64 y])
  · intro u hu; simp at hu; subst hu; rfl
  · unfold maxLen; omega
  · omega
  · simp; omega
  · intro g c w' h1 h2 h3 _
    refine h g c w' ?_ ?_ ?_
    · simpa [Own] using h1
    · refine ⟨h2.os, h2.tape, h2.output, Nat.le_trans (by simp) h2.size, fun k hk hne => (h2.block k (by simp; omega) hne).trans (Below.heap_alloc _ _ _ hk)⟩
    · rcases h3 with h3 | h3
      · exact .inl h3
      · right; rw [h3]; simp

theorem run_make_int (n : Nat) (hn : n < 1099511627776) (w : World) :
    (Instr.makeSlice 24 (.int .i64 (n : Int)) (.int .i64 (n : Int))).run Try.prog w = .ok (.slice (some ⟨w.heap.size, 0, none⟩) n n) (w.alloc (.cells (ivs (List.replicate n 0)) 3)) := by
  obtain ⟨i0, hi, hz0, hz1, hz2⟩ := info_parts Try.infoInt
  have h := run_make (P := Try.prog) w 24 3 i0 (.int .i64 0) Try.underlying24 hi hz0 .i64 .i64 (n : Int) (n : Int) (by omega) (by omega) (by rw [hz2]; omega) (by omega)
  have e : madeCells (Value.int IntKind.i64 0).cells (n * 1) = ivs (List.replicate n 0) := by
    rw [show (Value.int IntKind.i64 0).cells = #[Value.int IntKind.i64 0] from rfl, Nat.mul_one, ivs_rep, ← List.toArray_replicate, ← toList_madeCells_one]
  rw [Int.toNat_natCast, hz1, e] at h
  exact h
theorem run_make_bool (n : Nat) (hn : n < 1099511627776) (w : World) :
    (Instr.makeSlice 52 (.int .i64 (n : Int)) (.int .i64 (n : Int))).run Try.prog w = .ok (.slice (some ⟨w.heap.size, 0, none⟩) n n) (w.alloc (.cells (bvs (List.replicate n false)) 4)) := by
  obtain ⟨i0, hi, hz0, hz1, hz2⟩ := info_parts Try.infoBool
  have h := run_make (P := Try.prog) w 52 4 i0 (.bool false) Try.underlying52 hi hz0 .i64 .i64 (n : Int) (n : Int) (by omega) (by omega) (by rw [hz2]; omega) (by omega)
  have e : madeCells (Value.bool false).cells (n * 1) = bvs (List.replicate n false) := by
    rw [show (Value.bool false).cells = #[Value.bool false] from rfl, Nat.mul_one, bvs_rep, ← List.toArray_replicate, ← toList_madeCells_one]
  rw [Int.toNat_natCast, hz1, e] at h
  exact h
end Go.Proofs.Ythakkchmegnlhaa
