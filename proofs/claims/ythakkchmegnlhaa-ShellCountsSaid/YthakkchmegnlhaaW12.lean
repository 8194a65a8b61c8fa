/- Walks over package euler: Doubles, Simple. -/
import Derived.Test.YthakkchmegnlhaaW11
import Derived.Test.YthakkchmegnlhaaA5
namespace Go.Proofs.Ythakkchmegnlhaa
open Go.RowKit Pq

theorem Try.laidOut : laidOutB Try.prog = true := by kernel_rfl
theorem key_pair {P : Program} {t e : TypeId} {f0 f1 : Field} (ht : P.underlying t = some (.struct #[f0, f1])) (h1 : P.keyType t = true) (hc : P.cellsOf t = 2) (he : P.underlying e = some (.int .i64)) (hc3 : P.cellsOf e = 1) (hp : 0 < P.types.size)
    (t0 : f0.type = e) (t1 : f1.type = e) (o0 : f0.offset = 0) (o1 : f1.offset = 1) (n0 : (f0.name != "_") = true) (n1 : (f1.name != "_") = true)
    (a b : Int) (ha : (Lit.int .i64 a).wf = true) (hb : (Lit.int .i64 b).wf = true) : ∃ l, keyOf P t (.agg #[.int .i64 a, .int .i64 b]) = some l := by
  obtain ⟨n, hn⟩ : ∃ n, P.types.size = n + 1 := ⟨P.types.size - 1, by omega⟩
  have m0 : f0.name ≠ "_" := by simpa using n0
  have m1 : f1.name ≠ "_" := by simpa using n1
  simp [keyOf, ht, h1, Value.formed, hc, hn, Program.keyLits, he, hc3, ha, hb, Value.cells, t0, t1, o0, o1, m0, m1]
theorem pair_key1 : Try.prog.keyType 116 = true := by kernel_rfl
theorem pair_cells : Try.prog.cellsOf 116 = 2 := by kernel_rfl
theorem int_cells : Try.prog.cellsOf 3 = 1 := by kernel_rfl
theorem types_pos : 0 < Try.prog.types.size := of_decide_eq_true (by kernel_rfl)
theorem pair_row : (116 : TypeId) < Try.prog.types.size := of_decide_eq_true (by kernel_rfl)
theorem pair_at : Try.prog.keyTypeAt 2 116 = true := by kernel_rfl
theorem pair_law : Maps.Keyed Try.prog 116 := Maps.Keyed.of_law (deep_law_laid Try.laidOut (m := 2) (by omega) pair_row pair_at (by rw [Try.underlying116]))
theorem pair_key (a b : Int) (ha : (Lit.int .i64 a).wf = true) (hb : (Lit.int .i64 b).wf = true) : ∃ l, keyOf Try.prog 116 (.agg #[.int .i64 a, .int .i64 b]) = some l :=
  key_pair Try.underlying116 pair_key1 pair_cells Try.underlying3 int_cells types_pos rfl rfl rfl rfl (by kernel_rfl) (by kernel_rfl) a b ha hb

def pv (a b : Nat) : Value := .agg #[.int .i64 a, .int .i64 b]
theorem pv_inj {a b c d : Nat} (h : pv a b = pv c d) : a = c ∧ b = d := by
  simp [pv] at h
  omega
/-- How many of the first k edges, no loops, join the vertices a ≤ b; how many of them have an edge ahead between the same two. -/
noncomputable def cntP (s : List Nat) (k a b : Nat) : Nat := ((List.range k).filter fun e => (nm (sg s) s.length (2 * e) != nm (sg s) s.length (2 * e + 1)) && (min (nm (sg s) s.length (2 * e)) (nm (sg s) s.length (2 * e + 1)) == a) &&
  (max (nm (sg s) s.length (2 * e)) (nm (sg s) s.length (2 * e + 1)) == b)).length
noncomputable def dblN (s : List Nat) (k : Nat) : Nat := ((List.range k).filter fun e => (nm (sg s) s.length (2 * e) != nm (sg s) s.length (2 * e + 1)) &&
  decide (0 < cntP s e (min (nm (sg s) s.length (2 * e)) (nm (sg s) s.length (2 * e + 1))) (max (nm (sg s) s.length (2 * e)) (nm (sg s) s.length (2 * e + 1))))).length
theorem cntP_le (s : List Nat) (k a b : Nat) : cntP s k a b ≤ k := by
  unfold cntP
  exact Nat.le_trans (List.length_filter_le _ _) (by simp)
theorem dblN_le (s : List Nat) (k : Nat) : dblN s k ≤ k := by
  unfold dblN
  exact Nat.le_trans (List.length_filter_le _ _) (by simp)
theorem cntP_loop {s : List Nat} {k : Nat} (h : nm (sg s) s.length (2 * k) = nm (sg s) s.length (2 * k + 1)) (a b : Nat) : cntP s (k + 1) a b = cntP s k a b := by
  unfold cntP
  rw [List.range_succ, List.filter_append, List.length_append]
  simp [h]
theorem cntP_succ {s : List Nat} {k : Nat} (h : nm (sg s) s.length (2 * k) ≠ nm (sg s) s.length (2 * k + 1)) (a b : Nat) : cntP s (k + 1) a b = cntP s k a b +
    if min (nm (sg s) s.length (2 * k)) (nm (sg s) s.length (2 * k + 1)) = a ∧ max (nm (sg s) s.length (2 * k)) (nm (sg s) s.length (2 * k + 1)) = b then 1 else 0 := by
  unfold cntP
  rw [List.range_succ, List.filter_append, List.length_append]
  congr 1
  by_cases h1 : min (nm (sg s) s.length (2 * k)) (nm (sg s) s.length (2 * k + 1)) = a <;> by_cases h2 : max (nm (sg s) s.length (2 * k)) (nm (sg s) s.length (2 * k + 1)) = b <;> simp [h, h1, h2]
theorem dblN_loop {s : List Nat} {k : Nat} (h : nm (sg s) s.length (2 * k) = nm (sg s) s.length (2 * k + 1)) : dblN s (k + 1) = dblN s k := by
  unfold dblN
  rw [List.range_succ, List.filter_append, List.length_append]
  simp [h]
theorem dblN_succ {s : List Nat} {k : Nat} (h : nm (sg s) s.length (2 * k) ≠ nm (sg s) s.length (2 * k + 1)) : dblN s (k + 1) = dblN s k +
    if 0 < cntP s k (min (nm (sg s) s.length (2 * k)) (nm (sg s) s.length (2 * k + 1))) (max (nm (sg s) s.length (2 * k)) (nm (sg s) s.length (2 * k + 1))) then 1 else 0 := by
  unfold dblN
  rw [List.range_succ, List.filter_append, List.length_append]
  congr 1
  by_cases h1 : 0 < cntP s k (min (nm (sg s) s.length (2 * k)) (nm (sg s) s.length (2 * k + 1))) (max (nm (sg s) s.length (2 * k)) (nm (sg s) s.length (2 * k + 1))) <;> simp [h, h1]

section
variable {w : World} {M : MR} {s : List Nat} {root : Int} {lone : Nat} {fs ff fb : Bool}
set_option maxRecDepth 100000 in
set_option maxHeartbeats 2000000 in
theorem Doubles_warm (h : MapAt w M s root lone true ff fb) :
    Calls Try.prog 77 #[.pointer (some ⟨M.b, 0, none⟩)] w fun e w' => e = .returned (.int .i64 (dblN s (s.length / 2))) ∧ Below w.heap.size w w' := by
  have hlen := h.ok.len
  have hpm := h.ok.pm
  have hcl := cnt_le (sg s) s.length
  have H := Lib.hid h
  have hmm := @run_makeMap Try.prog
  have hm0 : IMap Try.prog (w.alloc (.map #[] 0)) w.heap.size 116 0 (fun _ => none) := IMap.new _ _ _
  have HM0 := Lib.hid hm0
  have hb0 : Below w.heap.size w (w.alloc (.map #[] 0)) := (Below.refl _ _).alloc (Nat.le_refl _) _
  have HB0 := Lib.hid hb0
  have he0 := h.below hb0
  have HE0 := Lib.hid he0
  have HPM := Lib.hid hpm
  clear h hm0 hb0 he0 hpm
  go_enter Try.func77, Try.ntmps77
  go_wp2_with (go_at_call 85; refine (Edges_calls HE0.out).mono ?_; rintro e w1 ⟨rfl, rfl⟩; obtain ⟨E, hE⟩ : ∃ E, E = s.length / 2 := ⟨_, rfl⟩; rw [← hE]; have hEl : 2 * E ≤ s.length := (by omega); have HE := Lib.hid hE; clear hE)
  clear hmm
  go_loopw [4, 12] (fun n i wr => ∃ (k nE : Nat) (f : Value → Option Int), k ≤ E ∧ i = .int .i64 k ∧ n = .int .i64 (dblN s k) ∧ IMap Try.prog wr w.heap.size 116 nE f ∧ (∀ a b : Nat, (f (pv a b)).getD 0 = cntP s k a b) ∧ Below w.heap.size w wr)
    (fun _ i _ => E - (intOf i).toNat)
  case atStart => exact ⟨0, 0, _, Nat.zero_le _, rfl, rfl, HM0.out, fun _ _ => rfl, HB0.out⟩
  case round =>
    obtain ⟨k, nE, f, hk, rfl, rfl, him, hf, hbw⟩ := hrel
    have HI := Lib.hid him
    have HF := Lib.hid hf
    have HB := Lib.hid hbw
    have HM := Lib.hid (H.out.below hbw)
    have hws := hbw.size
    have hdl := dblN_le s k
    clear him hf hbw HM0 HB0 HE0
    by_cases hlt : k < E
    · have c1 := Vertex_warm HM.out (2 * k) (by omega)
      have c2 := Vertex_warm HM.out (2 * k + 1) (by omega)
      rw [show ((2 * k : Nat) : Int) = 2 * (k : Int) from by omega] at c1
      rw [show ((2 * k + 1 : Nat) : Int) = 2 * (k : Int) + 1 from by omega] at c2
      have C1 := Lib.hid c1
      have C2 := Lib.hid c2
      have hn1 := HPM.out.nm_lt (show 2 * k < s.length by omega)
      have hn2 := HPM.out.nm_lt (show 2 * k + 1 < s.length by omega)
      clear c1 c2
      by_cases he : nm (sg s) s.length (2 * k) = nm (sg s) s.length (2 * k + 1)
      · have ht : (((nm (sg s) s.length (2 * k) : Nat) : Int) == ((nm (sg s) s.length (2 * k + 1) : Nat) : Int)) = true := by rw [he]; simp
        have HD := Lib.hid (dblN_loop he)
        have HC := Lib.hid (cntP_loop he)
        clear he
        go_wp2_with fail
        refine C1.out.mono ?_
        rintro e w1 ⟨rfl, rfl⟩
        go_wp2_with fail
        refine C2.out.mono ?_
        rintro e w1 ⟨rfl, rfl⟩
        go_wp2
        go_roundw
        case rel => exact ⟨k + 1, nE, f, by omega, by go_num, by rw [HD.out], HI.out, fun a b => by rw [HC.out]; exact HF.out a b, HB.out⟩
        case measure => simp [intOf]; omega
      · have ht : (((nm (sg s) s.length (2 * k) : Nat) : Int) == ((nm (sg s) s.length (2 * k + 1) : Nat) : Int)) = false := beq_eq_false_iff_ne.2 (by omega)
        have HD := Lib.hid (dblN_succ he)
        have HC := Lib.hid (cntP_succ he)
        clear he
        go_wp2_with fail
        refine C1.out.mono ?_
        rintro e w1 ⟨rfl, rfl⟩
        go_wp2_with fail
        refine C2.out.mono ?_
        rintro e w1 ⟨rfl, rfl⟩
        generalize nm (sg s) s.length (2 * k) = x at hn1 ht HD HC ⊢
        generalize nm (sg s) s.length (2 * k + 1) = y at hn2 ht HD HC ⊢
        obtain ⟨q, hq⟩ : ∃ q, q = cntP s k (min x y) (max x y) := ⟨_, rfl⟩
        have hql : q ≤ k := hq ▸ cntP_le s k _ _
        obtain ⟨W, hW⟩ : ∃ W, W = wr.alloc (.cells #[.int .i64 (min (x : Int) (y : Int)), .int .i64 (max (x : Int) (y : Int))] 116) := ⟨_, rfl⟩
        have hkv : Value.agg #[.int .i64 (min (x : Int) (y : Int)), .int .i64 (max (x : Int) (y : Int))] = pv (min x y) (max x y) := by
          simp only [pv]
          rw [show ((min x y : Nat) : Int) = min (x : Int) (y : Int) by omega, show ((max x y : Nat) : Int) = max (x : Int) (y : Int) by omega]
        obtain ⟨kl, hkl⟩ := pair_key (min (x : Int) (y : Int)) (max (x : Int) (y : Int)) (WalkArith.wf_i64 (by omega)) (WalkArith.wf_i64 (by omega))
        have hbW : Below wr.heap.size wr W := by rw [hW]; exact (Below.refl _ _).alloc (Nat.le_refl _) _
        have hml := HI.out.lt
        have hIW := HI.out.below hbW
        have hfq : (f (.agg #[.int .i64 (min (x : Int) (y : Int)), .int .i64 (max (x : Int) (y : Int))])).getD 0 = (q : Int) := by rw [hkv, HF.out, hq]
        have hl1 := (hIW.lookup pair_law Try.underlying114 (fun u => by kernel_rfl) hkl).1
        have hl3 := ((hIW.below (Below.refl _ _).drew).lookup pair_law Try.underlying114 (fun u => by kernel_rfl) hkl).1
        rw [hfq] at hl1 hl3
        obtain ⟨st, w1, hen, hl2, hu1, hst⟩ := IMap.entry pair_law Try.underlying114 (fun u => by kernel_rfl) (hIW.below (Below.refl _ _).drew) hkl
        rw [hfq] at hen hl2
        obtain ⟨w2, hst2, hI2, hu2⟩ := hst ((q : Int) + 1)
        have hblW : Blk W wr.heap.size 116 #[.int .i64 (min (x : Int) (y : Int)), .int .i64 (max (x : Int) (y : Int))] := by rw [hW]; exact Blk.new _ _ _
        have hbl1 := hblW.drew.upd hu1 (by show ¬ wr.heap.size = w.heap.size; omega)
        have d0 : w1.cell? ⟨wr.heap.size, 0, none⟩ = some (.int .i64 (min (x : Int) (y : Int))) := by rw [hbl1.cell]; rfl
        have d1 : w1.cell? ⟨wr.heap.size, 1, none⟩ = some (.int .i64 (max (x : Int) (y : Int))) := by rw [hbl1.cell]; rfl
        have e0 : W.drew.cell? ⟨wr.heap.size, 0, none⟩ = some (.int .i64 (min (x : Int) (y : Int))) := by rw [hblW.drew.cell]; rfl
        have e1 : W.drew.cell? ⟨wr.heap.size, 1, none⟩ = some (.int .i64 (max (x : Int) (y : Int))) := by rw [hblW.drew.cell]; rfl
        have hb2 : Below w.heap.size w w2 := Below.upd_ ((HB.out.trans (hbW.mono hws)).drew) hu2 (Nat.le_refl _) (fun k hk => by omega)
        have hinv : ∀ a b : Nat, (put f (.agg #[.int .i64 (min (x : Int) (y : Int)), .int .i64 (max (x : Int) (y : Int))]) ((q : Int) + 1) (pv a b)).getD 0 = cntP s (k + 1) a b := by
          intro a b
          rw [HC.out a b, hkv]
          by_cases hab : pv a b = pv (min x y) (max x y)
          · obtain ⟨ha, hb⟩ := pv_inj hab
            rw [hab, put_same, ha, hb, if_pos ⟨rfl, rfl⟩, ← hq]
            rfl
          · rw [put_other _ _ hab, HF.out, if_neg (fun h => hab (by rw [h.1, h.2]))]
            rfl
        have HI2 := Lib.hid hI2
        have HB2 := Lib.hid hb2
        have HIV := Lib.hid hinv
        have HQ := Lib.hid hq
        have hws2 : w.heap.size ≤ W.heap.size := by have := hbW.size; omega
        clear hkv hkl hbW hIW hfq hu1 hst hI2 hu2 hblW hbl1 hb2 hinv hq
        rw [← HQ.out] at HD
        subst hW
        by_cases hq0 : 0 < q
        · have hd : dblN s (k + 1) = dblN s k + 1 := by rw [HD.out, if_pos hq0]
          have HD2 := Lib.hid hd
          have hgt : decide ((0 : Int) < (q : Int)) = true := by simp; omega
          clear hd HD
          go_wp2_with fail
          go_region
          clear hl1 hl2 hl3 hen hst2 d0 d1 e0 e1
          go_wp2
          go_roundw
          case rel => exact ⟨k + 1, _, _, by omega, by go_num, by rw [HD2.out]; go_num, HI2.out, HIV.out, HB2.out⟩
          case measure => simp [intOf]; omega
        · have hd : dblN s (k + 1) = dblN s k := by rw [HD.out, if_neg hq0]; rfl
          have HD2 := Lib.hid hd
          have hgt : decide ((0 : Int) < (q : Int)) = false := by simp; omega
          clear hd HD
          go_wp2_with fail
          go_region
          clear hl1 hl2 hl3 hen hst2 d0 d1 e0 e1
          go_wp2
          go_roundw
          case rel => exact ⟨k + 1, _, _, by omega, by go_num, by rw [HD2.out], HI2.out, HIV.out, HB2.out⟩
          case measure => simp [intOf]; omega
    · obtain rfl : E = k := by omega
      go_wp2
      go_ret
      exact ⟨ret_int (by rw [HE.out]), HB.out⟩

/-- No loops, no two edges between the same two vertices. -/
noncomputable def simpleB (s : List Nat) : Bool := decide (loopsN s (s.length / 2) = 0) && decide (dblN s (s.length / 2) = 0)

set_option maxHeartbeats 1000000 in
theorem Simple_warm (h : MapAt w M s root lone true ff fb) :
    Calls Try.prog 64 #[.pointer (some ⟨M.b, 0, none⟩)] w fun e w' => e = .returned (.bool (simpleB s)) ∧ Below w.heap.size w w' := by
  have HL := Lib.hid (Loops_warm h)
  have HD := Lib.hid (Doubles_warm h)
  obtain ⟨L, hL⟩ : ∃ L, L = loopsN s (s.length / 2) := ⟨_, rfl⟩
  obtain ⟨D, hD⟩ : ∃ D, D = dblN s (s.length / 2) := ⟨_, rfl⟩
  rw [← hL] at HL
  rw [← hD] at HD
  have hb : simpleB s = (decide (L = 0) && decide (D = 0)) := by rw [simpleB, hL, hD]
  have HB := Lib.hid hb
  clear h hL hD hb
  by_cases h0 : L = 0
  · have hl : ((L : Int) == 0) = true := by rw [h0]; rfl
    by_cases h1 : D = 0
    · have hd : ((D : Int) == 0) = true := by rw [h1]; rfl
      have hv : (decide (L = 0) && decide (D = 0)) = true := by simp [h0, h1]
      have HV := Lib.hid hv
      clear h0 h1 hv
      go_enter Try.func64, Try.ntmps64
      go_wp2_with (first | (go_at_call 76; refine HL.out.mono ?_; rintro e w1 ⟨rfl, rfl⟩) | (go_at_call 77; refine HD.out.mono ?_; rintro e w1 ⟨rfl, hb1⟩; have HB1 := Lib.hid hb1; clear hb1))
      go_ret
      exact ⟨ret_bool (by rw [HB.out, HV.out]), HB1.out⟩
    · have hd : ((D : Int) == 0) = false := beq_eq_false_iff_ne.2 (by omega)
      have hv : (decide (L = 0) && decide (D = 0)) = false := by simp [h1]
      have HV := Lib.hid hv
      clear h0 h1 hv
      go_enter Try.func64, Try.ntmps64
      go_wp2_with (first | (go_at_call 76; refine HL.out.mono ?_; rintro e w1 ⟨rfl, rfl⟩) | (go_at_call 77; refine HD.out.mono ?_; rintro e w1 ⟨rfl, hb1⟩; have HB1 := Lib.hid hb1; clear hb1))
      go_ret
      exact ⟨ret_bool (by rw [HB.out, HV.out]), HB1.out⟩
  · have hl : ((L : Int) == 0) = false := beq_eq_false_iff_ne.2 (by omega)
    have hv : (decide (L = 0) && decide (D = 0)) = false := by simp [h0]
    have HV := Lib.hid hv
    clear h0 hv
    go_enter Try.func64, Try.ntmps64
    go_wp2_with (first | (go_at_call 76; refine HL.out.mono ?_; rintro e w1 ⟨rfl, rfl⟩) | (go_at_call 77; refine HD.out.mono ?_; rintro e w1 ⟨rfl, hb1⟩; have HB1 := Lib.hid hb1; clear hb1))
    go_ret
    exact ⟨ret_bool (by rw [HB.out, HV.out]), Below.refl _ _⟩
end
end Go.Proofs.Ythakkchmegnlhaa
