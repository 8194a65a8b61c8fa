/- slices.Replace of one number by some others: in place, and in a new row. -/
import Derived.Test.YthakkchmegnlhaaA7
import Derived.Deep.QuietTactic
import Derived.BigQuiet
namespace Go.Proofs.Ythakkchmegnlhaa
open Go.RowKit Go.Lib

theorem Blk.rdAt {w : World} {g off : Nat} {t : TypeId} {cs : Array Value} {xs : List Int} (h : Blk w g t cs) (hc : ∀ k, k < xs.length → cs[off + k]? = some (.int .i64 (xs.getD k 0))) : Rd w w.heap.size (some ⟨g, off, none⟩) xs :=
  .inr ⟨g, off, rfl, h.lt, fun i hi => by rw [h.cell]; exact hc i hi⟩
theorem Blk.shape {w : World} {g : Nat} {t : TypeId} {cs : Array Value} (h : Blk w g t cs) : w.shape? g = some (t, cs.size) := by
  unfold Blk at h
  simp [World.shape?, h]
theorem getD_drop (xs : List Int) (j k : Nat) : (xs.drop j).getD k 0 = xs.getD (j + k) 0 := by simp [List.getD_eq_getElem?_getD]
theorem int_getD_map (xs : List Int) (k : Nat) (hk : k < xs.length) : (xs.map (Value.int .i64))[k]? = some (.int .i64 (xs.getD k 0)) := by
  simp [List.getD_eq_getElem?_getD, hk]

theorem clear_zero (w : World) (a : Option Addr) (c : Nat) (ty : TypeId) : (Builtin.clear_ #[24] ty #[.slice a 0 c]).run Try.prog w = .ok (.tuple #[]) w := by
  cases a <;> simp [Builtin.clear_, run_underlying Try.underlying24]
theorem clear_one {w : World} {g o : Nat} {cs : Array Value} (h : Blk w g 3 cs) (ho : o < cs.size) (c : Nat) (ty : TypeId) :
    (Builtin.clear_ #[24] ty #[.slice (some ⟨g, o, none⟩) 1 c]).run Try.prog w = .ok (.tuple #[]) (w.setCells g o [.int .i64 0]) := by
  obtain ⟨i0, hi, hz0, hz1, hz2⟩ := info_parts Try.infoInt
  exact run_clear_slice w 24 3 ty (.int .i64 0) Try.underlying24 (fun w => by simp [zeroValue, typeInfo, hi, hz0]) rfl rfl g o 1 c (by omega)
    (fun j hj => by rw [h.cell]; simp; omega) (fun j hj => h.frozen _)
theorem wpList_clear_runN {ops : Array Oper} {rest : List Oper} {o : Oper} {a : Act} {Q : Exit → Act → World → Prop} {w : World} (hgd : o.guard = none) (d : Operand) (t : TypeId)
    (ho : o.op = .call { callee := .builtin .clear, args := #[d], argTypes := #[t] }) (v : Value) (hd : a.eval d = v) {v' : Value} {w' : World}
    (hr : (Builtin.clear_ #[t] o.type #[v]).run Try.prog w = .ok v' w') (h : wpList Try.prog ops Q rest (a.put o.dst v') w') : wpList Try.prog ops Q (o :: rest) a w :=
  wpList_plain hgd fun _ hK => by
    unfold Oper.wp execOp
    simp only [ho, resolve, invoke, builtin, Sem.run_bind, Sem.run_pure, Result.andThen_ok, List.map_toArray, List.map_cons, List.map_nil, hd, hr]
    exact hK _ _ h

section
variable {w : World} {g cap cu i i1 : Nat} {cur : Array Value} {A : Option Addr} {xs ys : List Int} {tl : List Value}
set_option maxRecDepth 100000 in
set_option maxHeartbeats 4000000 in
theorem Replace_one (hh : Blk w g 3 cur) (hcs : cur.size = cap) (hcm : cap ≤ maxLen) (hnc : xs.length ≤ cap) (hcur : ∀ k, k < xs.length → cur[k]? = some (.int .i64 (xs.getD k 0)))
    (hr : Rd w w.heap.size A ys) (h1 : i1 = i + 1) (hlt : i1 < xs.length) (hm : ys.length = 1) (htl : tl = (xs.drop i1).map (Value.int .i64)) :
    Calls Try.prog 28 #[.slice (some ⟨g, 0, none⟩) xs.length cap, .int .i64 i, .int .i64 i1, .slice A ys.length cu] w fun e w' =>
      e = .returned (.slice (some ⟨g, 0, none⟩) xs.length cap) ∧ Blk w' g 3 (cset (cset cur i (ys.map (Value.int .i64))) i1 tl) ∧ Upd (· = g) w w' := by
  have hmx : cap ≤ 9223372036854775807 := by unfold maxLen at hcm; omega
  have e1 : ((i : Int) == (i1 : Int)) = false := beq_eq_false_iff_ne.2 (by omega)
  have e2 : ((i1 : Int) == (xs.length : Int)) = false := beq_eq_false_iff_ne.2 (by omega)
  have hcp1 := fun q ty dc => copy_rd (hh.drewN q) ys (hr.drewN q) (xs.length - i) dc cu (by omega) (o := i) (by omega) ty
  rw [hm] at hcp1
  have hc2 : ∀ k, k < (xs.drop i1).length → (cset cur i (ys.map (Value.int .i64)))[i1 + k]? = some (.int .i64 ((xs.drop i1).getD k 0)) := fun k hk => by
    rw [List.length_drop] at hk
    rw [cset_get _ _ _ _ (by omega), if_neg (by rw [List.length_map]; omega), getD_drop]
    exact hcur _ (by omega)
  have hcp2 : ∀ (W : World), Blk W g 3 (cset cur i (ys.map (Value.int .i64))) → ∀ ty dc sc, (Builtin.copy_ #[24, 24] ty #[.slice (some ⟨g, i1, none⟩) (xs.length - i1) dc, .slice (some ⟨g, i1, none⟩) (xs.length - i1) sc]).run Try.prog W =
      .ok (goInt (xs.length - i1 : Nat)) (W.setCells g i1 tl) := fun W hB ty dc sc => by
    have := copy_rd hB (xs.drop i1) (hB.rdAt hc2) (xs.length - i1) dc sc (by rw [List.length_drop]; omega) (o := i1) (by rw [cset_size, List.length_drop]; omega) ty
    rw [List.length_drop] at this
    rw [← htl] at this
    exact this
  have HB := Lib.hid hh
  clear hcur hr hc2 hh htl
  have hii : i ≤ i1 := by omega
  have hi1n : i1 ≤ xs.length := by omega
  have hci1 : ¬ (cap = i1) := by omega
  have hci : ¬ (cap = i) := by omega
  have hi : i ≤ xs.length := by omega
  have hsub : xs.length - i1 + (i + 1) = xs.length := by omega
  have hI1 : (i : Int) + 1 = (i1 : Int) := by omega
  have hw1 : IntKind.i64.wrap ((i : Int) + 1) = (i1 : Int) := by rw [IntWalk.i64_in _ (by omega)]; omega
  have hw2 : IntKind.i64.wrap ((i1 : Int) + ((xs.length - i1 : Nat) : Int)) = (xs.length : Int) := by rw [IntWalk.i64_in _ (by omega)]; omega
  rw [hm]
  have HCP := Lib.hid hcp2
  clear h1 hsub hI1 hcp2
  go_enter Try.func28, Try.ntmps28
  go_wp2
  go_quiet (fail)
  go_wp2_with (with_reducible refine wpList_copy_runN rfl (.tmp 95) (.tmp 96) 24 24 rfl _ _ rfl rfl (hcp1 _ _ _) ?_)
  have hB1 : Blk ((w.drewN nq).setCells g i (List.map (Value.int .i64) ys)) g 3 (cset cur i (ys.map (Value.int .i64))) := (HB.out.drewN nq).setCells _ i
  have hU1 : Upd (· = g) w ((w.drewN nq).setCells g i (List.map (Value.int .i64) ys)) := Upd.setCells (S := (· = g)) (.inl rfl) _ i ((Upd.refl _ w).drewN nq)
  generalize (w.drewN nq).setCells g i (List.map (Value.int .i64) ys) = W1 at hB1 hU1 ⊢
  have HB1 := Lib.hid hB1
  have HU1 := Lib.hid hU1
  clear hB1 hU1 hcp1
  go_wp2
  go_region_law (refine step_copy_runN rfl (.tmp 103) (.tmp 106) 24 24 rfl _ _ (by simp [Act.eval, Act.put]) (by simp [Act.eval, Act.put]) (HCP.out W1.drew HB1.out.drew 3 (cap - i1) (cap - i1)) ?_)
  have hB2 := HB1.out.drew.setCells tl i1
  have hU2 : Upd (· = g) w (W1.drew.setCells g i1 tl) := Upd.setCells (S := (· = g)) (.inl rfl) _ i1 HU1.out.drew
  generalize W1.drew.setCells g i1 tl = W2 at hB2 hU2 ⊢
  have HB2 := Lib.hid hB2
  have HU2 := Lib.hid hU2
  clear hB2 hU2
  go_wp2_with (with_reducible refine wpList_clear_runN rfl (.tmp 110) 24 rfl _ rfl (clear_zero _ _ _ _) ?_)
  all_goals
    go_ret
    exact ⟨rfl, HB2.out, HU2.out⟩
set_option maxRecDepth 100000 in
set_option maxHeartbeats 4000000 in
theorem Replace_none (hh : Blk w g 3 cur) (hcs : cur.size = cap) (hcm : cap ≤ maxLen) (hnc : xs.length ≤ cap) (hcur : ∀ k, k < xs.length → cur[k]? = some (.int .i64 (xs.getD k 0)))
    (h1 : i1 = i + 1) (hlt : i1 < xs.length) (htl : tl = (xs.drop i1).map (Value.int .i64)) (t : Nat) (ht : t = xs.length - 1) :
    Calls Try.prog 28 #[.slice (some ⟨g, 0, none⟩) xs.length cap, .int .i64 i, .int .i64 i1, .slice A 0 cu] w fun e w' =>
      e = .returned (.slice (some ⟨g, 0, none⟩) t cap) ∧ Blk w' g 3 (cset (cset cur i tl) t [.int .i64 0]) ∧ Upd (· = g) w w' := by
  have hmx : cap ≤ 9223372036854775807 := by unfold maxLen at hcm; omega
  have e1 : ((i : Int) == (i1 : Int)) = false := beq_eq_false_iff_ne.2 (by omega)
  have e2 : ((i1 : Int) == (xs.length : Int)) = false := beq_eq_false_iff_ne.2 (by omega)
  have hcp1 : ∀ q ty dc, (Builtin.copy_ #[24, 24] ty #[.slice (some ⟨g, i, none⟩) (t - i) dc, .slice A 0 cu]).run Try.prog (w.drewN q) = .ok (goInt 0) (w.drewN q) := fun q ty dc =>
    copy_rd (hh.drewN q) [] (Rd.nil (w.drewN q) 0 A) (t - i) dc cu (by simp) (o := i) (by simp; omega) ty
  have hc2 : ∀ k, k < (xs.drop i1).length → cur[i1 + k]? = some (.int .i64 ((xs.drop i1).getD k 0)) := fun k hk => by
    rw [List.length_drop] at hk
    rw [getD_drop]
    exact hcur _ (by omega)
  have hcp2 : ∀ (W : World), Blk W g 3 cur → ∀ ty dc sc, (Builtin.copy_ #[24, 24] ty #[.slice (some ⟨g, i, none⟩) (t - i) dc, .slice (some ⟨g, i1, none⟩) (xs.length - i1) sc]).run Try.prog W =
      .ok (goInt (xs.length - i1 : Nat)) (W.setCells g i tl) := fun W hB ty dc sc => by
    have := copy_rd hB (xs.drop i1) (hB.rdAt hc2) (t - i) dc sc (by rw [List.length_drop]; omega) (o := i) (by rw [List.length_drop]; omega) ty
    rw [List.length_drop] at this
    rw [← htl] at this
    exact this
  have HB := Lib.hid hh
  clear hcur hc2 hh htl
  have hii : i ≤ i1 := by omega
  have hi1n : i1 ≤ xs.length := by omega
  have hci1 : ¬ (cap = i1) := by omega
  have hci : ¬ (cap = i) := by omega
  have hct : ¬ (cap = t) := by omega
  have hi : i ≤ xs.length := by omega
  have hit : i ≤ t := by omega
  have htn : t ≤ xs.length := by omega
  have htc : t ≤ cap := by omega
  have hz : xs.length - t = 1 := by omega
  have hts : t < cur.size := by omega
  have hw1 : IntKind.i64.wrap (i : Int) = (i : Int) := by rw [IntWalk.i64_in _ (by omega)]
  have hw2 : IntKind.i64.wrap ((i : Int) + ((xs.length - i1 : Nat) : Int)) = (t : Int) := by rw [IntWalk.i64_in _ (by omega)]; omega
  have HCP := Lib.hid hcp2
  clear h1 hcp2 ht
  go_enter Try.func28, Try.ntmps28
  go_wp2
  go_quiet (fail)
  go_wp2_with (with_reducible refine wpList_copy_runN rfl (.tmp 95) (.tmp 96) 24 24 rfl _ _ rfl rfl (hcp1 _ _ _) ?_)
  have HB1 := Lib.hid (HB.out.drewN nq)
  have HU1 := Lib.hid ((Upd.refl (· = g) w).drewN nq)
  generalize w.drewN nq = W1 at HB1 HU1 ⊢
  clear hcp1
  go_wp2
  go_region_law (refine step_copy_runN rfl (.tmp 103) (.tmp 106) 24 24 rfl _ _ (by simp [Act.eval, Act.put]) (by simp [Act.eval, Act.put]) (HCP.out W1.drew HB1.out.drew 3 (cap - i) (cap - i1)) ?_)
  have hB2 := HB1.out.drew.setCells tl i
  have hU2 : Upd (· = g) w (W1.drew.setCells g i tl) := Upd.setCells (S := (· = g)) (.inl rfl) _ i HU1.out.drew
  generalize W1.drew.setCells g i tl = W2 at hB2 hU2 ⊢
  have HB2 := Lib.hid hB2
  have HU2 := Lib.hid hU2
  clear hB2 hU2
  go_wp2_with (with_reducible refine wpList_clear_runN rfl (.tmp 110) 24 rfl _ rfl (clear_one HB2.out (by rw [cset_size]; exact hts) _ _) ?_)
  go_ret
  exact ⟨rfl, HB2.out.setCells [_] t, Upd.setCells (S := (· = g)) (.inl rfl) _ t HU2.out⟩
end
end Go.Proofs.Ythakkchmegnlhaa
