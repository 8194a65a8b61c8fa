/- Laws of this program's own: an append of one number to a row of the call's own; make; facts of its types. -/
import Derived.Test.YthakkchmegnlhaaProg
import Derived.Test.YthakkchmegnlhaaA1
namespace Go.Proofs.Ythakkchmegnlhaa
open Go.RowKit

theorem Try.infoInt : (Try.prog.info? 3).map (fun i => (i.zero, i.size, i.bytes)) = some (some (.int .i64 0), 1, 8) := by kernel_rfl
theorem Try.infoBool : (Try.prog.info? 4).map (fun i => (i.zero, i.size, i.bytes)) = some (some (.bool false), 1, 1) := by kernel_rfl

/-- 'append(s, y)', s a row of numbers of the call's own; y was laid in a new block. -/
theorem app_int {ops : Array Oper} {rest : List Oper} {o : Oper} {a : Act} {Q : Exit → Act → World → Prop} {w : World} (hgd : o.guard = none) (s x : Operand)
    (ho : o.op = .call { callee := .builtin .append, args := #[s, x], argTypes := #[24, 24] })
    (base : Nat) (v : Value) (xs : List Int) (y : Int) (hs : a.eval s = v) (hown : Own w base 3 v xs) (hx : a.eval x = .slice (some ⟨w.heap.size, 0, none⟩) 1 1)
    (hlen : xs.length < 1099511627776) (hbase : base ≤ w.heap.size)
    (h : ∀ v' w', Own w' base 3 v' (xs ++ [y]) → w.grownBy w' v.ownBlock → wpList Try.prog ops Q rest (a.put o.dst v') w') :
    wpList Try.prog ops Q (o :: rest) a (w.alloc (.cells #[.int .i64 y] 3)) := by
  obtain ⟨i0, hi, hz0, hz1, hz2⟩ := info_parts Try.infoInt
  refine wpList_append_own _ hgd s x 24 ho base 3 i0 (.int .i64 0) 1 8 Try.underlying24 hi hz0 hz1 hz2 rfl (by decide) v xs.length (xs.map (Value.int .i64)) hs (hown.alloc _)
    ⟨w.heap.size, 0, none⟩ 1 1 [.int .i64 y] hx rfl ?_ ?_ ?_ ?_ ?_ ?_
  · intro j u hj
    match j, hj with
    | 0, hj => simp at hj; subst hj; simp [Addr.add]
  · intro u hu; simp at hu; subst hu; rfl
  · unfold maxLen; omega
  · omega
  · simp; omega
  · intro v' w' h1 h2 _
    refine h v' w' ?_ ?_
    · simpa [Own] using h1
    · refine ⟨h2.os, h2.tape, h2.output, Nat.le_trans (by simp) h2.size, fun k hk hne => (h2.block k (by simp; omega) hne).trans (Below.heap_alloc _ _ _ hk)⟩

theorem blk_of_own {w : World} {base g n : Nat} {e : TypeId} {xs : List Value} (h : w.ownsRow base e 1 (.slice (some ⟨g, 0, none⟩) n n) n xs) : Blk w g e xs.toArray := by
  rcases h.2 with ⟨h, _⟩ | ⟨g', cap, cur, hv, _, hh, _, _, hcs, hcur⟩
  · cases h
  · cases hv
    have : cur.toList = xs := by rw [← hcur, List.take_of_length_le (by simp [hcs])]
    rw [← this]
    exact hh

/-- 'make([]int, n)': noughts. -/
theorem make_int {ops : Array Oper} {rest : List Oper} {o : Oper} {a : Act} {Q : Exit → Act → World → Prop} {w : World} (hg : o.guard = none) (l c : Operand)
    (hop : o.op = Op.makeSlice 24 l c) (n : Nat) (hl : a.eval l = .int .i64 n) (hc : a.eval c = .int .i64 n) (hn : n < 1099511627776)
    (hK : ∀ w', Blk w' w.heap.size 3 (ivs (List.replicate n 0)) → w.grownBy w' none → wpList Try.prog ops Q rest (a.put o.dst (.slice (some ⟨w.heap.size, 0, none⟩) n n)) w') :
    wpList Try.prog ops Q (o :: rest) a w := by
  obtain ⟨i0, hi, hz0, hz1, hz2⟩ := info_parts Try.infoInt
  refine wpList_make_full w hg l c 24 hop 0 3 i0 (.int .i64 0) 1 Try.underlying24 hi hz0 hz1 .i64 .i64 n n n hl hc rfl rfl (by rw [hz2]; omega) (by unfold maxLen; omega) (Nat.zero_le _) ?_
  intro w' h1 h2
  refine hK w' ?_ h2
  have h := blk_of_own h1
  rw [show (Value.int IntKind.i64 0).cells = #[Value.int IntKind.i64 0] from rfl, Nat.mul_one, toList_madeCells_one] at h
  rw [ivs_rep, ← List.toArray_replicate]
  exact h

/-- 'make([]bool, n)': all false. -/
theorem make_bool {ops : Array Oper} {rest : List Oper} {o : Oper} {a : Act} {Q : Exit → Act → World → Prop} {w : World} (hg : o.guard = none) (l c : Operand)
    (hop : o.op = Op.makeSlice 52 l c) (n : Nat) (hl : a.eval l = .int .i64 n) (hc : a.eval c = .int .i64 n) (hn : n < 1099511627776)
    (hK : ∀ w', Blk w' w.heap.size 4 (bvs (List.replicate n false)) → w.grownBy w' none → wpList Try.prog ops Q rest (a.put o.dst (.slice (some ⟨w.heap.size, 0, none⟩) n n)) w') :
    wpList Try.prog ops Q (o :: rest) a w := by
  obtain ⟨i0, hi, hz0, hz1, hz2⟩ := info_parts Try.infoBool
  refine wpList_make_full w hg l c 52 hop 0 4 i0 (.bool false) 1 Try.underlying52 hi hz0 hz1 .i64 .i64 n n n hl hc rfl rfl (by rw [hz2]; omega) (by unfold maxLen; omega) (Nat.zero_le _) ?_
  intro w' h1 h2
  refine hK w' ?_ h2
  have h := blk_of_own h1
  rw [show (Value.bool false).cells = #[Value.bool false] from rfl, Nat.mul_one, toList_madeCells_one] at h
  rw [bvs_rep, ← List.toArray_replicate]
  exact h

end Go.Proofs.Ythakkchmegnlhaa
