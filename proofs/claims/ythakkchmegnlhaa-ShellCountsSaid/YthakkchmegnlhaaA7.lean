/- slices.Replace of one number by some others. -/
import Derived.Test.YthakkchmegnlhaaA2
import Derived.Lib.SliceRun
import Derived.Lib.AppendZerosOnto
import Derived.Lib.Overlaps
import Derived.Laws.Externs
import Derived.Laws.IdiomCopy
import Derived.Deep.RegionLaw
namespace Go.Proofs.Ythakkchmegnlhaa
open Go.RowKit Go.Lib

/-- Some cells of an array, one after the other. -/
def cset : Array Value → Nat → List Value → Array Value
  | cs, _, [] => cs
  | cs, o, v :: r => cset (cs.setIfInBounds o v) (o + 1) r
theorem cset_size (vs : List Value) : ∀ (cs : Array Value) (o : Nat), (cset cs o vs).size = cs.size := by
  induction vs with
  | nil => intro cs o; rfl
  | cons v r ih => intro cs o; rw [cset, ih]; simp
theorem cset_get (vs : List Value) : ∀ (cs : Array Value) (o k : Nat), k < cs.size → (cset cs o vs)[k]? = if o ≤ k ∧ k < o + vs.length then vs[k - o]? else cs[k]? := by
  induction vs with
  | nil =>
    intro cs o k hk
    rw [cset, if_neg (by simp)]
  | cons v r ih =>
    intro cs o k hk
    rw [cset, ih _ _ _ (by simpa using hk), List.length_cons]
    by_cases h1 : o + 1 ≤ k ∧ k < o + 1 + r.length
    · rw [if_pos h1, if_pos (by omega), show k - o = (k - (o + 1)) + 1 by omega]
      rfl
    · rw [if_neg h1]
      by_cases h2 : k = o
      · subst h2
        rw [if_pos (by omega)]
        simp [hk]
      · rw [if_neg (by omega)]
        simp [Ne.symm h2]
theorem Blk.setCells {g : Nat} {t : TypeId} (vs : List Value) : ∀ {w : World} {cs : Array Value} (o : Nat), Blk w g t cs → Blk (w.setCells g o vs) g t (cset cs o vs) := by
  induction vs with
  | nil => intro w cs o h; exact h
  | cons v r ih => intro w cs o h; exact ih (o + 1) (h.set_ o v)
theorem Upd.setCells {S : Nat → Prop} {a : World} {g : Nat} (hp : S g ∨ a.heap.size ≤ g) (vs : List Value) : ∀ {w : World} (o : Nat), Upd S a w → Upd S a (w.setCells g o vs) := by
  induction vs with
  | nil => intro w o h; exact h
  | cons v r ih => intro w o h; exact ih (o + 1) (h.setCell hp v)
theorem Rd.setCells {B : Nat} {A : Option Addr} {xs : List Int} {g : Nat} (vs : List Value) {w : World} (o : Nat) (h : Rd w B A xs) (hg : xs ≠ [] → ∀ a, A = some a → a.block ≠ g) : Rd (w.setCells g o vs) B A xs := by
  rcases h with rfl | ⟨b, off, rfl, hb, hc⟩
  · exact .inl rfl
  · by_cases hx : xs = []
    · exact .inl hx
    have hg := hg hx
    exact .inr ⟨b, off, rfl, hb, fun i hi => by rw [World.cell?_setCells_out g vs o w ⟨b, off + i, none⟩ (fun e => absurd e (hg ⟨b, off, none⟩ rfl))]; exact hc i hi⟩

/-- The numbers of a slice are copied into a block. -/
theorem copy_rd {w : World} {g o B : Nat} {A : Option Addr} {cs : Array Value} (h : Blk w g 3 cs) (ys : List Int) (hr : Rd w B A ys) (dL dC c : Nat) (hd : ys.length ≤ dL) (ho : o + ys.length ≤ cs.size) (ty : TypeId) :
    (Builtin.copy_ #[24, 24] ty #[.slice (some ⟨g, o, none⟩) dL dC, .slice A ys.length c]).run Try.prog w = .ok (goInt ys.length) (w.setCells g o (ys.map (Value.int .i64))) := by
  have hsz : (Try.prog.info? 3).map (·.size) = some 1 := by
    obtain ⟨i0, hi0, h0, h1, h2⟩ := info_parts Try.infoInt
    rw [hi0]; simp [h1]
  rcases hr with rfl | ⟨b, off, rfl, hb, hc⟩
  · exact run_copy_none w 24 24 ty 3 (some ⟨g, o, none⟩) A dL dC 0 c Try.underlying24 hsz (by simp)
  · have := run_copy_cells (P := Try.prog) w 24 24 ty 3 g o dL dC ⟨b, off, none⟩ ys.length c (ys.map (Value.int .i64)) Try.underlying24 hsz (by rw [List.length_map]; exact (Nat.min_eq_left hd).symm)
      (fun j v hj => by
        rw [List.getElem?_map] at hj
        have hjl : j < ys.length := by
          rcases Nat.lt_or_ge j ys.length with e | e
          · exact e
          · rw [List.getElem?_eq_none e] at hj; simp at hj
        rw [Addr.add_lit, hc j hjl]
        rw [List.getElem?_eq_getElem hjl] at hj
        simp at hj
        simp [List.getD_eq_getElem?_getD, hjl, hj])
      (fun j hj => by rw [h.cell]; rw [List.length_map] at hj; simp; omega) (fun j hj => h.frozen _) (fun v hv => by
        rw [List.mem_map] at hv
        obtain ⟨y, _, rfl⟩ := hv
        rfl)
    rw [this, List.length_map]

/-- What an array holds, as a row of the call's own. -/
theorem Own.of_cells {w : World} {base g cap : Nat} {e : TypeId} {cs : Array Value} {xs : List Int} (h : Blk w g e cs) (hg : base ≤ g) (hc : cs.size = cap) (hm : cap ≤ maxLen) (hx : xs.length ≤ cap)
    (hv : ∀ k, k < xs.length → cs[k]? = some (.int .i64 (xs.getD k 0))) : Own w base e (.slice (some ⟨g, 0, none⟩) xs.length cap) xs := by
  refine ⟨by simp, .inr ⟨g, cap, cs, rfl, hg, h, hx, hm, by omega, ?_⟩⟩
  apply List.ext_getElem?
  intro k
  rw [List.getElem?_take, List.getElem?_map]
  by_cases hk : k < xs.length
  · rw [if_pos (by omega), Array.getElem?_toList, hv k hk, List.getD_eq_getElem?_getD, List.getElem?_eq_getElem hk]
    rfl
  · rw [if_neg (by omega), List.getElem?_eq_none (by omega)]
    rfl

theorem wpList_copy_runN {ops : Array Oper} {rest : List Oper} {o : Oper} {a : Act} {Q : Exit → Act → World → Prop} {w : World} (hgd : o.guard = none) (d s : Operand) (t t' : TypeId)
    (ho : o.op = .call { callee := .builtin .copy, args := #[d, s], argTypes := #[t, t'] }) (v u : Value) (hd : a.eval d = v) (hs : a.eval s = u) {v' : Value} {w' : World}
    (hr : (Builtin.copy_ #[t, t'] o.type #[v, u]).run Try.prog w = .ok v' w') (h : wpList Try.prog ops Q rest (a.put o.dst v') w') : wpList Try.prog ops Q (o :: rest) a w :=
  wpList_plain hgd fun _ hK => by
    unfold Oper.wp execOp
    simp only [ho, resolve, invoke, builtin, Sem.run_bind, Sem.run_pure, Result.andThen_ok, List.map_toArray, List.map_cons, List.map_nil, hd, hs, hr]
    exact hK _ _ h
theorem step_copy_runN {ops : Array Oper} {o : Oper} {a : Act} {w : World} {K : Act → World → Prop} {Q : Exit → Act → World → Prop} {E : Prop}
    (hg : o.guard = none) (d x : Operand) (dT sT : TypeId) (hop : o.op = Op.call { callee := Callee.builtin Builtin.copy, args := #[d, x], argTypes := #[dT, sT] })
    (v u : Value) (hd : a.eval d = v) (hx : a.eval x = u) {v' : Value} {w' : World} (hr : (Builtin.copy_ #[dT, sT] o.type #[v, u]).run Try.prog w = .ok v' w') (hK : K (a.put o.dst v') w') :
    if Region.wanted o (yielded ops a.tmps) = true then Oper.wp Try.prog o a w K Q else E := by
  have hw : Region.wanted o (yielded ops a.tmps) = true := by simp [Region.wanted, hg]
  rw [if_pos hw]
  unfold Oper.wp
  simp [execOp, hop, resolve, invoke, builtin, hd, hx, hr, Result.andThen]
  exact hK
end Go.Proofs.Ythakkchmegnlhaa
