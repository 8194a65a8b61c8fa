/- Rows of structs of five numbers (euler's Part): their cells as a function of place and field; an append of one. -/
import Derived.Test.YthakkchmegnlhaaW1
namespace Go.Proofs.Ythakkchmegnlhaa
open Go.RowKit Pq

/-- The cells of N structs of five numbers. -/
def fl (N : Nat) (F : Nat → Nat → Int) : List Int := (List.range (N * 5)).map fun i => F (i / 5) (i % 5)
theorem fl_length (N : Nat) (F : Nat → Nat → Int) : (fl N F).length = N * 5 := by simp [fl]
theorem fl_get {N : Nat} {F : Nat → Nat → Int} {j c : Nat} (hj : j < N) (hc : c < 5) : (fl N F)[j * 5 + c]? = some (F j c) := by
  have h1 : (j * 5 + c) / 5 = j := by omega
  have h2 : (j * 5 + c) % 5 = c := by omega
  simp [fl, show j * 5 + c < N * 5 by omega, h1, h2]
theorem fl_set {N : Nat} {F : Nat → Nat → Int} {j c : Nat} (hc : c < 5) (x : Int) : (fl N F).set (j * 5 + c) x = fl N (fun i k => if i = j ∧ k = c then x else F i k) := by
  apply List.ext_getElem (by simp [fl])
  intro i h1 h2
  rw [List.getElem_set]
  simp only [fl, List.getElem_map, List.getElem_range]
  by_cases e : j * 5 + c = i
  · rw [if_pos e, if_pos (by omega)]
  · rw [if_neg e, if_neg (by omega)]
theorem fl_succ (N : Nat) (F : Nat → Nat → Int) : fl (N + 1) F = fl N F ++ [F N 0, F N 1, F N 2, F N 3, F N 4] := by
  unfold fl
  rw [show (N + 1) * 5 = N * 5 + 1 + 1 + 1 + 1 + 1 by omega]
  iterate 5 rw [List.range_succ]
  simp only [List.map_append, List.map_cons, List.map_nil, List.append_assoc, List.cons_append, List.nil_append]
  rw [show N * 5 / 5 = N by omega, show N * 5 % 5 = 0 by omega, show (N * 5 + 1) / 5 = N by omega, show (N * 5 + 1) % 5 = 1 by omega,
    show (N * 5 + 1 + 1) / 5 = N by omega, show (N * 5 + 1 + 1) % 5 = 2 by omega, show (N * 5 + 1 + 1 + 1) / 5 = N by omega, show (N * 5 + 1 + 1 + 1) % 5 = 3 by omega,
    show (N * 5 + 1 + 1 + 1 + 1) / 5 = N by omega, show (N * 5 + 1 + 1 + 1 + 1) % 5 = 4 by omega]
theorem fl_congr {N : Nat} {F G : Nat → Nat → Int} (h : ∀ j c, j < N → c < 5 → F j c = G j c) : fl N F = fl N G := by
  unfold fl
  refine List.map_congr_left fun i hi => ?_
  rw [List.mem_range] at hi
  exact h _ _ (by omega) (by omega)

def OwnF (w : World) (base : Nat) (v : Value) (N : Nat) (F : Nat → Nat → Int) : Prop := w.ownsRow base 112 5 v N ((fl N F).map (Value.int .i64))

section
variable {w w' : World} {base : Nat} {v : Value} {N : Nat} {F G : Nat → Nat → Int}
theorem OwnF.nil (w : World) (base : Nat) (F : Nat → Nat → Int) : OwnF w base (.slice none 0 0) 0 F := ⟨by simp [fl], .inl ⟨rfl, rfl⟩⟩
theorem OwnF.congr (h : OwnF w base v N F) (hg : ∀ j c, j < N → c < 5 → F j c = G j c) : OwnF w base v N G := by
  unfold OwnF at h ⊢
  rw [← fl_congr hg]
  exact h
theorem OwnF.upd {S : Nat → Prop} (h : OwnF w base v N F) (hu : Upd S w w') (hs : ∀ k, base ≤ k → ¬ S k) : OwnF w' base v N F := by
  refine ⟨h.1, ?_⟩
  rcases h.2 with h2 | ⟨g, cap, cur, hv, hg, hh, r⟩
  · exact .inl h2
  · exact .inr ⟨g, cap, cur, hv, hg, (hu.block g (Blk.lt hh) (hs g hg)).trans hh, r⟩
theorem OwnF.below (h : OwnF w base v N F) (hu : Below w.heap.size w w') : OwnF w' base v N F := h.upd (S := fun _ => False) (Upd.of_below hu) (fun _ _ h => h)
theorem OwnF.less {base' : Nat} (h : OwnF w base v N F) (hb : base' ≤ base) : OwnF w base' v N F := by
  refine ⟨h.1, ?_⟩
  rcases h.2 with h2 | ⟨g, cap, cur, hv, hg, r⟩
  · exact .inl h2
  · exact .inr ⟨g, cap, cur, hv, by omega, r⟩
theorem OwnF.ge (h : OwnF w base v N F) : ∀ k, v.ownBlock = some k → base ≤ k := by
  intro k hk
  rcases h.2 with ⟨rfl, _⟩ | ⟨g, cap, cur, rfl, hg, _⟩
  · simp [Value.ownBlock] at hk
  · simp [Value.ownBlock] at hk
    omega
theorem OwnF.ty (h : OwnF w base v N F) {k : Nat} (hk : v.ownBlock = some k) : ∃ cs, Blk w k 112 cs := by
  rcases h.2 with ⟨rfl, _⟩ | ⟨g, cap, cur, rfl, hg, hh, _⟩
  · simp [Value.ownBlock] at hk
  · simp [Value.ownBlock] at hk
    subst hk
    exact ⟨_, hh⟩
theorem OwnF.form (h : OwnF w base v N F) : ∃ A c, v = .slice A N c ∧ N ≤ c ∧ (∀ a, A = some a → base ≤ a.block) := by
  rcases h.2 with ⟨rfl, hn⟩ | ⟨g, cap, cur, rfl, hg, hh, hnc, _⟩
  · exact ⟨none, 0, by rw [hn], by omega, fun _ e => by cases e⟩
  · exact ⟨_, cap, rfl, hnc, fun a e => by cases e; exact hg⟩
theorem OwnF.pos (h : OwnF w base v N F) (hp : 0 < N) :
    ∃ g c, v = .slice (some ⟨g, 0, none⟩) N c ∧ base ≤ g ∧ g < w.heap.size ∧ (∀ j k, j < N → k < 5 → w.cell? ⟨g, j * 5 + k, none⟩ = some (.int .i64 (F j k))) ∧ (∀ i, w.frozen? ⟨g, i, none⟩ = false) ∧ ∃ cs, Blk w g 112 cs := by
  rcases h.2 with ⟨_, hn⟩ | ⟨g, cap, cur, rfl, hg, hh, hnc, hcm, hcs, hcur⟩
  · omega
  · refine ⟨g, cap, rfl, hg, Blk.lt hh, fun j k hj hk => ?_, fun i => Blk.frozen hh i, _, hh⟩
    rw [Blk.cell hh]
    have h2 : (cur.toList.take (N * 5))[j * 5 + k]? = ((fl N F).map (Value.int .i64))[j * 5 + k]? := by rw [hcur]
    rw [List.getElem?_take, if_pos (by omega), List.getElem?_map, fl_get hj hk] at h2
    rw [← Array.getElem?_toList, h2]
    rfl
theorem OwnF.store {g n c : Nat} (h : OwnF w base (.slice (some ⟨g, 0, none⟩) n c) N F) {j k : Nat} (hk : k < 5) (x : Int) :
    OwnF (w.setCell ⟨g, j * 5 + k, none⟩ (.int .i64 x)) base (.slice (some ⟨g, 0, none⟩) n c) N (fun i l => if i = j ∧ l = k then x else F i l) := by
  obtain ⟨A, c', h1, _⟩ := h.form
  injection h1 with _ hn _
  subst hn
  have h2 := World.ownsRow.stored h (j * 5 + k) (.int .i64 x)
  unfold OwnF
  rw [← fl_set hk, List.map_set]
  exact h2.1
end

theorem Try.infoPart : (Try.prog.info? 112).map (fun i => (i.zero, i.size, i.bytes)) = some (some (.agg #[.int .i64 0, .int .i64 0, .int .i64 0, .int .i64 0, .int .i64 0]), 5, 40) := by kernel_rfl

/-- 'append(s, p)', s a row of structs of the call's own; p was laid in a new block. -/
theorem app_part {ops : Array Oper} {rest : List Oper} {o : Oper} {a : Act} {Q : Exit → Act → World → Prop} {w : World} (hgd : o.guard = none) (s x : Operand)
    (ho : o.op = .call { callee := .builtin .append, args := #[s, x], argTypes := #[103, 103] })
    (base : Nat) (v : Value) (N : Nat) (F : Nat → Nat → Int) (y0 y1 y2 y3 y4 : Int) (hs : a.eval s = v) (hown : OwnF w base v N F) (hx : a.eval x = .slice (some ⟨w.heap.size, 0, none⟩) 1 1)
    (hlen : N < 17179869184) (hbase : base ≤ w.heap.size)
    (h : ∀ v' w', OwnF w' base v' (N + 1) (fun j c => if j = N then [y0, y1, y2, y3, y4].getD c 0 else F j c) → w.grownBy w' v.ownBlock → wpList Try.prog ops Q rest (a.put o.dst v') w') :
    wpList Try.prog ops Q (o :: rest) a (w.alloc (.cells #[.int .i64 y0, .int .i64 y1, .int .i64 y2, .int .i64 y3, .int .i64 y4] 112)) := by
  obtain ⟨i0, hi, hz0, hz1, hz2⟩ := info_parts Try.infoPart
  refine wpList_append_own _ hgd s x 103 ho base 112 i0 _ 5 40 Try.underlying103 hi hz0 hz1 hz2 rfl (by decide) v N ((fl N F).map (Value.int .i64)) hs (hown.below ((Below.refl _ _).alloc (Nat.le_refl _) _))
    ⟨w.heap.size, 0, none⟩ 1 1 [.int .i64 y0, .int .i64 y1, .int .i64 y2, .int .i64 y3, .int .i64 y4] hx rfl ?_ ?_ ?_ ?_ ?_ ?_
  · intro j u hj
    match j, hj with
    | 0, hj => simp at hj; subst hj; simp [Addr.add]
    | 1, hj => simp at hj; subst hj; simp [Addr.add]
    | 2, hj => simp at hj; subst hj; simp [Addr.add]
    | 3, hj => simp at hj; subst hj; simp [Addr.add]
    | 4, hj => simp at hj; subst hj; simp [Addr.add]
  · intro u hu
    simp only [List.mem_cons, List.not_mem_nil, or_false] at hu
    rcases hu with rfl | rfl | rfl | rfl | rfl <;> rfl
  · unfold maxLen; omega
  · omega
  · simp; omega
  · intro v' w' h1 h2 _
    refine h v' w' ?_ ?_
    · unfold OwnF
      rw [fl_succ, List.map_append, fl_congr (G := F) (fun j c hj _ => by rw [if_neg (by omega)])]
      simpa using h1
    · refine ⟨h2.os, h2.tape, h2.output, Nat.le_trans (by simp) h2.size, fun k hk hne => (h2.block k (by simp; omega) hne).trans (Below.heap_alloc _ _ _ hk)⟩

end Go.Proofs.Ythakkchmegnlhaa
