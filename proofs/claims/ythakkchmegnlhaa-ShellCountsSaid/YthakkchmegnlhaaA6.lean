/- An append of one number to a row of the call's own, at a step of a region that draws its order. -/
import Derived.Test.YthakkchmegnlhaaA2
import Derived.Deep.AppendLies
namespace Go.Proofs.Ythakkchmegnlhaa
open Go.RowKit

theorem step_app_int {ops : Array Oper} {o : Oper} {a : Act} {w : World} {K : Act → World → Prop} {Q : Exit → Act → World → Prop} {E : Prop} (hgd : o.guard = none) (s x : Operand)
    (ho : o.op = .call { callee := .builtin .append, args := #[s, x], argTypes := #[24, 24] })
    (base : Nat) (v : Value) (xs : List Int) (y : Int) (hs : a.eval s = v) (hown : Own w base 3 v xs) (B : Nat) (hx : a.eval x = .slice (some ⟨B, 0, none⟩) 1 1)
    (hB : Blk w B 3 #[.int .i64 y]) (hlen : xs.length < 1099511627776) (hbase : base ≤ w.heap.size)
    (h : ∀ v' w', Own w' base 3 v' (xs ++ [y]) → w.grownBy w' v.ownBlock → K (a.put o.dst v') w') :
    if Region.wanted o (yielded ops a.tmps) = true then Oper.wp Try.prog o a w K Q else E := by
  obtain ⟨i0, hi, hz0, hz1, hz2⟩ := info_parts Try.infoInt
  refine step_append_lies w hgd s x 24 ho base 3 i0 (.int .i64 0) 1 8 Try.underlying24 hi hz0 hz1 hz2 rfl (by decide) v xs.length (xs.map (Value.int .i64)) hs hown
    ⟨B, 0, none⟩ 1 1 [.int .i64 y] hx rfl ?_ ?_ (by decide) ?_ ?_ hbase w.heap.size rfl ?_
  · exact World.news_of_block hB
  · intro u hu; simp at hu; subst hu; rfl
  · unfold maxLen; omega
  · omega
  · intro g cap w' h1 h2 _ _
    refine h _ w' ?_ h2
    simpa [Own] using h1
end Go.Proofs.Ythakkchmegnlhaa
