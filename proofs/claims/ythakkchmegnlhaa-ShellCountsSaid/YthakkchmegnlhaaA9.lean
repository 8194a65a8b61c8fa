/- slices.Replace of one number by more than one: in place, and in a new row. -/
import Derived.Test.YthakkchmegnlhaaA8
namespace Go.Proofs.Ythakkchmegnlhaa
open Go.RowKit Go.Lib

section
variable {w : World} {g cap cu i i1 : Nat} {cur : Array Value} {A : Option Addr} {xs ys : List Int} {tl : List Value}
set_option maxRecDepth 100000 in
set_option maxHeartbeats 4000000 in
theorem Replace_more (hh : Blk w g 3 cur) (hcs : cur.size = cap) (hcm : cap ≤ maxLen) (hnc : xs.length ≤ cap) (hcur : ∀ k, k < xs.length → cur[k]? = some (.int .i64 (xs.getD k 0)))
    (hr : Rd w w.heap.size A ys) (hA : ∃ b off cs', A = some ⟨b, off, none⟩ ∧ b ≠ g ∧ Blk w b 3 cs' ∧ cs'.size ≠ 0) (h1 : i1 = i + 1) (hlt : i1 < xs.length) (m t k : Nat) (hm : ys.length = m) (hm2 : 2 ≤ m) (hk : k = i + m) (ht : t = k + (xs.length - i1)) (htc : t ≤ cap)
    (htl : tl = (xs.drop i1).map (Value.int .i64)) :
    Calls Try.prog 28 #[.slice (some ⟨g, 0, none⟩) xs.length cap, .int .i64 i, .int .i64 i1, .slice A m cu] w fun e w' =>
      e = .returned (.slice (some ⟨g, 0, none⟩) t cap) ∧ Blk w' g 3 (cset (cset cur k tl) i (ys.map (Value.int .i64))) ∧ Upd (· = g) w w' := by
  have hmx : cap ≤ 9223372036854775807 := by unfold maxLen at hcm; omega
  have e1 : ((i : Int) == (i1 : Int)) = false := beq_eq_false_iff_ne.2 (by omega)
  have e2 : ((i1 : Int) == (xs.length : Int)) = false := beq_eq_false_iff_ne.2 (by omega)
  have hc2 : ∀ k, k < (xs.drop i1).length → cur[i1 + k]? = some (.int .i64 ((xs.drop i1).getD k 0)) := fun k hk => by
    rw [List.length_drop] at hk
    rw [getD_drop]
    exact hcur _ (by omega)
  have hcp1 : ∀ (W : World), Blk W g 3 cur → ∀ ty dc sc, (Builtin.copy_ #[24, 24] ty #[.slice (some ⟨g, k, none⟩) (t - k) dc, .slice (some ⟨g, i1, none⟩) (xs.length - i1) sc]).run Try.prog W =
      .ok (goInt (xs.length - i1 : Nat)) (W.setCells g k tl) := fun W hB ty dc sc => by
    have := copy_rd hB (xs.drop i1) (hB.rdAt hc2) (t - k) dc sc (by rw [List.length_drop]; omega) (o := k) (by rw [List.length_drop]; omega) ty
    rw [List.length_drop] at this
    rw [← htl] at this
    exact this
  have hcp2 : ∀ (W : World), Blk W g 3 (cset cur k tl) → Rd W w.heap.size A ys → ∀ ty dc sc, (Builtin.copy_ #[24, 24] ty #[.slice (some ⟨g, i, none⟩) (t - i) dc, .slice A m sc]).run Try.prog W =
      .ok (goInt m) (W.setCells g i (ys.map (Value.int .i64))) := fun W hB hR ty dc sc => by
    have := copy_rd hB ys hR (t - i) dc sc (by omega) (o := i) (by rw [cset_size]; omega) ty
    rw [hm] at this
    exact this
  obtain ⟨b, off, cs', rfl, hbg, hbb, hcs0⟩ := hA
  have hov : ∀ q lb cb, (callFunc 49 #[.slice (some ⟨g, k, none⟩) lb cb, .slice (some ⟨b, off, none⟩) m cu]).run Try.prog (w.drewN q) = .ok (.value (.bool false)) (w.drewN q) := fun q lb cb => by
    rw [run_callFunc_extern Try.func49 (by kernel_rfl) (by kernel_rfl) (by kernel_rfl) (e := Extern.SlicesOverlaps.overlaps #[24, 24] #[4]) (by kernel_rfl),
      Lib.run_overlaps_apart (w.drewN q) 24 4 3 Try.underlying24 1 (fun w => by
        obtain ⟨i0, hi, hz0, hz1, hz2⟩ := info_parts Try.infoInt
        simp [sizeOf, typeInfo, hi, hz1]) ⟨g, k, none⟩ ⟨b, off, none⟩ lb cb m cu (Ne.symm hbg) 3 3 cur.size cs'.size (hh.drewN q).shape (hbb.drewN q).shape hcs0 (hh.drewN q |>.frozen _) (hh.drewN q |>.frozen _)]
    rfl
  have HB := Lib.hid hh
  have HR := Lib.hid hr
  clear hcur hc2 hh htl hr hbb hcs0
  have hii : i ≤ i1 := by omega
  have hi1n : i1 ≤ xs.length := by omega
  have hci1 : ¬ (cap = i1) := by omega
  have hci : ¬ (cap = i) := by omega
  have hck : ¬ (cap = k) := by omega
  have hi : i ≤ xs.length := by omega
  have hit : i ≤ t := by omega
  have hkt : k ≤ t := by omega
  have hki : ¬ ((k : Int) ≤ (i1 : Int)) := by omega
  have htc' : ¬ ((cap : Int) < (t : Int)) := by omega
  have hw1 : IntKind.i64.wrap ((i : Int) + (m : Int)) = (k : Int) := by rw [IntWalk.i64_in _ (by omega)]; omega
  have hw2 : IntKind.i64.wrap ((k : Int) + ((xs.length - i1 : Nat) : Int)) = (t : Int) := by rw [IntWalk.i64_in _ (by omega)]; omega
  have HCP := Lib.hid hcp1
  have HCP2 := Lib.hid hcp2
  clear h1 hcp1 hcp2 ht hk
  go_enter Try.func28, Try.ntmps28
  go_wp2
  go_quiet (fail)
  go_wp2_with (simp only [hov])
  have HB1 := Lib.hid (HB.out.drewN nq)
  have HR1 : Hid (Rd (w.drewN nq) w.heap.size (some ⟨b, off, none⟩) ys) := Lib.hid (HR.out.drewN nq)
  have HU1 := Lib.hid ((Upd.refl (· = g) w).drewN nq)
  generalize w.drewN nq = W1 at HB1 HU1 HR1 ⊢
  clear hov
  go_region_law (refine step_copy_runN rfl (.tmp 126) (.tmp 129) 24 24 rfl _ _ (by simp [Act.eval, Act.put]) (by simp [Act.eval, Act.put]) (HCP.out W1.drew HB1.out.drew 3 (cap - k) (cap - i1)) ?_)
  have hB2 := HB1.out.drew.setCells tl k
  have hU2 : Upd (· = g) w (W1.drew.setCells g k tl) := Upd.setCells (S := (· = g)) (.inl rfl) _ k HU1.out.drew
  have hR2 : Rd (W1.drew.setCells g k tl) w.heap.size (some ⟨b, off, none⟩) ys := Rd.setCells _ k HR1.out.drew (fun _ a e => by cases e; exact hbg)
  have HR2 := Lib.hid hR2
  generalize W1.drew.setCells g k tl = W2 at hB2 hU2 HR2 ⊢
  have HB2 := Lib.hid hB2
  have HU2 := Lib.hid hU2
  clear hB2 hU2 hR2
  have HC3 := Lib.hid (HCP2.out W2 HB2.out HR2.out)
  go_wp2_with (with_reducible refine wpList_copy_runN rfl (.tmp 133) (.tmp 134) 24 24 rfl _ _ rfl rfl (HC3.out _ _ _) ?_)
  have hB3 := HB2.out.setCells (ys.map (Value.int .i64)) i
  have hU3 : Upd (· = g) w (W2.setCells g i (ys.map (Value.int .i64))) := Upd.setCells (S := (· = g)) (.inl rfl) _ i HU2.out
  go_ret
  exact ⟨rfl, hB3, hU3⟩
set_option maxRecDepth 100000 in
set_option maxHeartbeats 4000000 in
theorem Replace_grow (hh : Blk w g 3 cur) (hcm : cap ≤ maxLen) (hnc : xs.length ≤ cap) (hcur : ∀ k, k < xs.length → cur[k]? = some (.int .i64 (xs.getD k 0)))
    (hr : Rd w w.heap.size A ys) (h1 : i1 = i + 1) (hlt : i1 < xs.length) (m t k : Nat) (hm : ys.length = m) (hk : k = i + m) (ht : t = k + (xs.length - i1)) (htc : cap < t) (hbig : t < 1099511627776)
    (htl : tl = (xs.drop i1).map (Value.int .i64)) :
    Calls Try.prog 28 #[.slice (some ⟨g, 0, none⟩) xs.length cap, .int .i64 i, .int .i64 i1, .slice A m cu] w fun e w' =>
      ∃ cap' cs, e = .returned (.slice (some ⟨w.heap.size, 0, none⟩) t cap') ∧ Blk w' w.heap.size 3 (cset (cset cs i (ys.map (Value.int .i64))) k tl) ∧ cs.size = cap' ∧ t ≤ cap' ∧ cap' ≤ maxLen ∧
        (∀ j, j < i → cs[j]? = some (.int .i64 (xs.getD j 0))) ∧ Below w.heap.size w w' := by
  have hmx : cap ≤ 9223372036854775807 := by unfold maxLen at hcm; omega
  have e1 : ((i : Int) == (i1 : Int)) = false := beq_eq_false_iff_ne.2 (by omega)
  have e2 : ((i1 : Int) == (xs.length : Int)) = false := beq_eq_false_iff_ne.2 (by omega)
  have happ : ∀ q ty, ∃ c' cs, (Builtin.append_ #[24, 3] ty #[.slice (some ⟨g, 0, none⟩) i cap, .int .i64 ((t - i : Nat) : Int)]).run Try.prog (w.drewN q) =
      .ok (.slice (some ⟨w.heap.size, 0, none⟩) t c') ((w.drewN q).drew.alloc (.cells cs 3)) ∧ cs.size = c' ∧ t ≤ c' ∧ c' ≤ maxLen ∧ ∀ j, j < i → cs[j]? = some (.int .i64 (xs.getD j 0)) := fun q ty => by
    obtain ⟨i0, hi, hz0, hz1, hz2⟩ := info_parts Try.infoInt
    have hti : i + (t - i) = t := by omega
    have hl : ((xs.take i).map (Value.int .i64)).length = i := by rw [List.length_map, List.length_take]; omega
    have := run_append_grow_zeros (P := Try.prog) (w.drewN q) 24 3 ty 3 i0 (.int .i64 0) .i64 .i64 Try.underlying24 Try.underlying3 hi hz0 (some ⟨g, 0, none⟩) i cap ((xs.take i).map (Value.int .i64))
      (by
        rw [hz1]
        refine run_firstCells_some _ 1 i _ i cap _ (by rw [hl]; omega) (fun j v hj => ?_)
        have hjl : j < i := by
          rcases Nat.lt_or_ge j i with e | e
          · exact e
          · rw [List.getElem?_eq_none (by omega)] at hj; cases hj
        rw [List.getElem?_map, List.getElem?_take, if_pos hjl] at hj
        have h9 := hcur j (by omega)
        rw [List.getD_eq_getElem?_getD] at h9
        rw [List.getElem?_eq_getElem (by omega : j < xs.length)] at hj h9
        rw [Addr.add_lit, Nat.zero_add]
        show w.cell? _ = _
        rw [hh.cell, h9, ← hj]
        rfl) (t - i) (by omega) (by omega) (by omega) (by omega) (by rw [hz2]; omega) (by rw [hz2, hti]; exact growslice_fits htc (by omega))
    rw [hti] at this
    refine ⟨_, _, this, ?_, grownCap_ge _ _ _ _, grownCap_le_maxLen _ _ _ _ (by unfold maxLen; omega), ?_⟩
    · have h8 := grownCap_ge (w.drewN q) t cap 3
      simp only [Array.size_append, size_zeroCells, List.size_toArray, hl]
      show i + (t - i) * 1 + (grownCap (w.drewN q) t cap 3 - t) * 1 = _
      omega
    · intro j hj
      rw [Array.getElem?_append_left (by simp only [Array.size_append, size_zeroCells, List.size_toArray, hl]; omega), Array.getElem?_append_left (by simp only [List.size_toArray, hl]; omega), List.getElem?_toArray,
        List.getElem?_map, List.getElem?_take, if_pos hj, List.getD_eq_getElem?_getD, List.getElem?_eq_getElem (by omega : j < xs.length)]
      rfl
  have hc2 : ∀ k, k < (xs.drop i1).length → cur[i1 + k]? = some (.int .i64 ((xs.drop i1).getD k 0)) := fun k hk => by
    rw [List.length_drop] at hk
    rw [getD_drop]
    exact hcur _ (by omega)
  have hcp1 : ∀ (W : World) (cs : Array Value), t ≤ cs.size → Blk W w.heap.size 3 cs → Rd W w.heap.size A ys → ∀ ty dc sc, (Builtin.copy_ #[24, 24] ty #[.slice (some ⟨w.heap.size, i, none⟩) (t - i) dc, .slice A m sc]).run Try.prog W =
      .ok (goInt m) (W.setCells w.heap.size i (ys.map (Value.int .i64))) := fun W cs hcz hB hR ty dc sc => by
    have := copy_rd hB ys hR (t - i) dc sc (by omega) (o := i) (by omega) ty
    rw [hm] at this
    exact this
  have hcp2 : ∀ (W : World) (cs : Array Value), t ≤ cs.size → Blk W w.heap.size 3 cs → Blk W g 3 cur → ∀ ty dc sc, (Builtin.copy_ #[24, 24] ty #[.slice (some ⟨w.heap.size, k, none⟩) (t - k) dc, .slice (some ⟨g, i1, none⟩) (xs.length - i1) sc]).run Try.prog W =
      .ok (goInt (xs.length - i1 : Nat)) (W.setCells w.heap.size k tl) := fun W cs hcz hB hB2 ty dc sc => by
    have := copy_rd hB (xs.drop i1) (hB2.rdAt hc2) (t - k) dc sc (by rw [List.length_drop]; omega) (o := k) (by rw [List.length_drop]; omega) ty
    rw [List.length_drop] at this
    rw [← htl] at this
    exact this
  have HB := Lib.hid hh
  have HR := Lib.hid hr
  have HAP := Lib.hid happ
  have HCP := Lib.hid hcp1
  have HCP2 := Lib.hid hcp2
  have hgs := hh.lt
  have hkti : k < t := by omega
  clear hcur hh htl hr happ hcp1 hcp2 hc2
  have hii : i ≤ i1 := by omega
  have hi1n : i1 ≤ xs.length := by omega
  have hci1 : ¬ (cap = i1) := by omega
  have hci : ¬ (cap = i) := by omega
  have hi : i ≤ xs.length := by omega
  have hit : i ≤ t := by omega
  have hkt : k ≤ t := by omega
  have htc' : ((cap : Int) < (t : Int)) := by omega
  have hw1 : IntKind.i64.wrap ((i : Int) + (m : Int)) = (k : Int) := by rw [IntWalk.i64_in _ (by omega)]; omega
  have hw2 : IntKind.i64.wrap ((k : Int) + ((xs.length - i1 : Nat) : Int)) = (t : Int) := by rw [IntWalk.i64_in _ (by omega)]; omega
  have hw3 : IntKind.i64.wrap ((t : Int) - (i : Int)) = ((t - i : Nat) : Int) := by rw [IntWalk.i64_in _ (by omega)]; omega
  clear h1 ht hk
  go_enter Try.func28, Try.ntmps28
  go_wp2
  go_quiet (fail)
  obtain ⟨c', cs, hap, hc1, hc2, hc3, hc4⟩ := HAP.out nq 24
  have HC4 := Lib.hid hc4
  have hc'i : ¬ (c' = i) := by omega
  have hc'k : ¬ (c' = k) := by omega
  clear hc4
  have HBa : Hid (Blk ((w.drewN (nq + 1)).alloc (.cells cs 3)) w.heap.size 3 cs) := Lib.hid (Blk.new (w.drewN (nq + 1)) 3 cs)
  have HBg : Hid (Blk ((w.drewN (nq + 1)).alloc (.cells cs 3)) g 3 cur) := Lib.hid ((HB.out.drewN (nq + 1)).alloc _)
  have HRa : Hid (Rd ((w.drewN (nq + 1)).alloc (.cells cs 3)) w.heap.size A ys) := Lib.hid ((HR.out.drewN (nq + 1)).alloc (Nat.le_refl _) _)
  have HUa : Hid (Below w.heap.size w ((w.drewN (nq + 1)).alloc (.cells cs 3))) := Lib.hid ((below_drewN (Below.refl _ _) (nq + 1)).alloc (Nat.le_refl _) _)
  have hcsz : t ≤ cs.size := by omega
  have HCPa := Lib.hid (HCP.out ((w.drewN (nq + 1)).alloc (.cells cs 3)) cs hcsz HBa.out HRa.out)
  go_wp2_with (first
    | (at_builtin; refine Lib.wpList_append_run _ rfl (.tmp 63) (.tmp 66) _ _ rfl _ _ rfl rfl _ _ hap ?_)
    | (with_reducible refine wpList_copy_runN rfl (.tmp 70) (.tmp 71) 24 24 rfl _ _ rfl rfl (HCPa.out _ _ _) ?_))
  have hB2 : Blk _ w.heap.size 3 _ := HBa.out.setCells (ys.map (Value.int .i64)) i
  have hg2 : Blk _ g 3 cur := HBg.out.upd (S := (· = w.heap.size)) (Upd.setCells (S := (· = w.heap.size)) (g := w.heap.size) (.inl rfl) (ys.map (Value.int .i64)) i (Upd.refl _ _)) (by omega)
  have hu2 : Below w.heap.size w _ := Below.upd_ (S := (· = w.heap.size)) HUa.out (Upd.setCells (S := (· = w.heap.size)) (g := w.heap.size) (.inl rfl) (ys.map (Value.int .i64)) i (Upd.refl _ _)) (Nat.le_refl _) (fun k hk => by omega)
  generalize ((w.drewN (nq + 1)).alloc (.cells cs 3)).setCells w.heap.size i (ys.map (Value.int .i64)) = W2 at hB2 hg2 hu2 ⊢
  have HB2 := Lib.hid hB2
  have HG2 := Lib.hid hg2
  have HU2 := Lib.hid hu2
  have hcsz2 : t ≤ (cset cs i (ys.map (Value.int .i64))).size := by rw [cset_size]; exact hcsz
  have HCPb := Lib.hid (HCP2.out W2.drew _ hcsz2 HB2.out.drew HG2.out.drew)
  clear hB2 hg2 hu2
  go_wp2
  go_region_law (refine step_copy_runN rfl (.tmp 78) (.tmp 81) 24 24 rfl _ _ (by simp [Act.eval, Act.put]) (by simp [Act.eval, Act.put]) (HCPb.out 3 (c' - k) (cap - i1)) ?_)
  go_wp2
  go_ret
  refine ⟨c', cs, rfl, HB2.out.drew.setCells tl k, hc1, hc2, hc3, HC4.out, ?_⟩
  exact Below.upd_ (S := (· = w.heap.size)) HU2.out.drew (Upd.setCells (S := (· = w.heap.size)) (g := w.heap.size) (.inl rfl) tl k (Upd.refl _ _)) (Nat.le_refl _) (fun k hk => by omega)
end
end Go.Proofs.Ythakkchmegnlhaa
