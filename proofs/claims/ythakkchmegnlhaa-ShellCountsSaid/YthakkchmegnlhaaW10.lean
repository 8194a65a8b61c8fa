/- Walks over package euler: Parts. -/
import Derived.Test.YthakkchmegnlhaaW9
import Derived.Test.YthakkchmegnlhaaA4
import Derived.Test.YthakkchmegnlhaaM6
namespace Go.Proofs.Ythakkchmegnlhaa
open Go.RowKit Pq

theorem pF1 (s : List Nat) (k j : Nat) : prtF s k j 1 = (cvF (sg s) (sg s) s.length k j : Nat) := rfl
theorem pF2 (s : List Nat) (k j : Nat) : prtF s k j 2 = (ceF (sg s) s.length k j : Nat) := rfl
theorem pF3 (s : List Nat) (k j : Nat) : prtF s k j 3 = (cvF (sg s) (sg (phiL s)) s.length k j : Nat) := rfl

/-- One dart more: what its round leaves of the parts is what they are then. -/
theorem prtF_step {s : List Nat} {lone k y : Nat} (ho : Okm s lone) (hk : k < s.length) (hy : y = nmR (Conn (sg s)) s.length k) (lw vs fs : Bool)
    (hl : lw = true ↔ isLow (Conn (sg s)) s.length k) (hv : vs = true ↔ isLeast (sg s) s.length k) (hf : fs = true ↔ isLeast (sg (phiL s)) s.length k)
    (F : Nat → Nat → Int) (hF : ∀ j c, j < lowsR (Conn (sg s)) s.length (k + 1) → c < 5 → F j c =
      (if lw = true ∧ j = lowsR (Conn (sg s)) s.length k then [(k : Int), 0, 0, 0, 0].getD c 0 else prtF s k j c) + (if j = y ∧ c = 1 ∧ vs = true then 1 else 0) + (if j = y ∧ c = 3 ∧ fs = true then 1 else 0) +
        (if j = y ∧ c = 2 then ((k % 2 : Nat) : Int) else 0)) :
    ∀ j c, j < lowsR (Conn (sg s)) s.length (k + 1) → c < 5 → F j c = prtF s (k + 1) j c := by
  intro j c hj hc
  have hcl := conn_cls ho.pm ho.even
  rw [hF j c hj hc]
  match c, hc with
  | 0, _ =>
    simp only [prtF, Nat.zero_ne_one, false_and, and_false, if_false, Int.add_zero, show ¬ (0 = 3) by omega, show ¬ (0 = 2) by omega]
    split
    · rename_i h
      have := lowList_get (hl.1 h.1)
      rw [h.2, this]; rfl
    · rfl
  | 1, _ =>
    simp only [pF1, cvF_succ, show ¬ (1 = 3) by omega, show ¬ (1 = 2) by omega, false_and, and_false, if_false, Int.add_zero, true_and]
    by_cases h1 : lw = true ∧ j = lowsR (Conn (sg s)) s.length k
    · rw [if_pos h1]
      have h0 := cvF_none (g := sg s) hcl (Nat.le_of_lt hk)
      rw [← h1.2] at h0
      rw [h0]
      by_cases h2 : vs = true
      · by_cases h3 : j = y
        · rw [if_pos ⟨h3, h2⟩, if_pos ⟨hv.1 h2, by rw [← hy, h3]⟩]; rfl
        · rw [if_neg (fun h => h3 h.1), if_neg (fun h => h3 (by rw [hy, h.2]))]; rfl
      · rw [if_neg (fun h => h2 h.2), if_neg (fun h => h2 (hv.2 h.1))]; rfl
    · rw [if_neg h1]
      by_cases h2 : vs = true
      · by_cases h3 : j = y
        · rw [if_pos ⟨h3, h2⟩, if_pos ⟨hv.1 h2, by rw [← hy, h3]⟩]; rfl
        · rw [if_neg (fun h => h3 h.1), if_neg (fun h => h3 (by rw [hy, h.2]))]; rfl
      · rw [if_neg (fun h => h2 h.2), if_neg (fun h => h2 (hv.2 h.1))]; rfl
  | 2, _ =>
    simp only [pF2, ceF_succ, show ¬ (2 = 3) by omega, show ¬ (2 = 1) by omega, false_and, and_false, if_false, Int.add_zero, and_true]
    have hz : lw = true ∧ j = lowsR (Conn (sg s)) s.length k → ceF (sg s) s.length k j = 0 := fun h => by rw [h.2]; exact ceF_none hcl (Nat.le_of_lt hk)
    have hA : (if lw = true ∧ j = lowsR (Conn (sg s)) s.length k then [(k : Int), 0, 0, 0, 0].getD 2 0 else (ceF (sg s) s.length k j : Nat)) = ((ceF (sg s) s.length k j : Nat) : Int) := by
      split
      · rename_i h; rw [hz h]; rfl
      · rfl
    rw [hA]
    by_cases h3 : j = y
    · rw [if_pos h3]
      by_cases h4 : k % 2 = 1
      · rw [if_pos ⟨h4, by rw [← hy, h3]⟩, h4]; rfl
      · rw [if_neg (fun h => h4 h.1), show k % 2 = 0 by omega]; rfl
    · rw [if_neg h3, if_neg (fun h => h3 (by rw [hy, h.2]))]; rfl
  | 3, _ =>
    simp only [pF3, cvF_succ, show ¬ (3 = 1) by omega, show ¬ (3 = 2) by omega, false_and, and_false, if_false, Int.add_zero, true_and]
    have hz : lw = true ∧ j = lowsR (Conn (sg s)) s.length k → cvF (sg s) (sg (phiL s)) s.length k j = 0 := fun h => by rw [h.2]; exact cvF_none hcl (Nat.le_of_lt hk)
    have hA : (if lw = true ∧ j = lowsR (Conn (sg s)) s.length k then [(k : Int), 0, 0, 0, 0].getD 3 0 else (cvF (sg s) (sg (phiL s)) s.length k j : Nat)) = ((cvF (sg s) (sg (phiL s)) s.length k j : Nat) : Int) := by
      split
      · rename_i h; rw [hz h]; rfl
      · rfl
    rw [hA]
    by_cases h2 : fs = true
    · by_cases h3 : j = y
      · rw [if_pos ⟨h3, h2⟩, if_pos ⟨hf.1 h2, by rw [← hy, h3]⟩]; rfl
      · rw [if_neg (fun h => h3 h.1), if_neg (fun h => h3 (by rw [hy, h.2]))]; rfl
    · rw [if_neg (fun h => h2 h.2), if_neg (fun h => h2 (hf.2 h.1))]; rfl
  | 4, _ =>
    simp only [prtF, show ¬ (4 = 1) by omega, show ¬ (4 = 2) by omega, show ¬ (4 = 3) by omega, false_and, and_false, if_false, Int.add_zero]
    split <;> rfl

theorem fin_eq (F2 : Nat → Nat → Int) (y : Nat) (a1 a2 a3 m : Int) (h1 : F2 y 1 = a1) (h2 : F2 y 2 = a2) (h3 : F2 y 3 = a3) (vs fs : Bool) (j c : Nat) :
    (if j = y ∧ c = 2 then a2 + m else if fs = true ∧ j = y ∧ c = 3 then a3 + 1 else if vs = true ∧ j = y ∧ c = 1 then a1 + 1 else F2 j c) =
      F2 j c + (if j = y ∧ c = 1 ∧ vs = true then 1 else 0) + (if j = y ∧ c = 3 ∧ fs = true then 1 else 0) + (if j = y ∧ c = 2 then m else 0) := by
  by_cases hj : j = y
  · subst hj
    by_cases c1 : c = 1
    · subst c1; cases vs <;> simp [h1]
    · by_cases c2 : c = 2
      · subst c2; simp [h2]
      · by_cases c3 : c = 3
        · subst c3; cases fs <;> simp [h3]
        · simp [c1, c2, c3]
  · simp [hj]

/-- The parts behind the append of a new one, where the dart is a part's least. -/
noncomputable def prtN (s : List Nat) (k : Nat) (lw : Bool) (j c : Nat) : Int := if lw = true ∧ j = lowsR (Conn (sg s)) s.length k then [(k : Int), 0, 0, 0, 0].getD c 0 else prtF s k j c

theorem prtN_bounds {s : List Nat} {k : Nat} (lw : Bool) (hk : k ≤ 131072) (j c : Nat) (h1 : c = 1 ∨ c = 2 ∨ c = 3) : ∃ a : Nat, a ≤ 131072 ∧ prtN s k lw j c = a := by
  unfold prtN
  split
  · rcases h1 with rfl | rfl | rfl <;> exact ⟨0, by omega, rfl⟩
  · rcases h1 with rfl | rfl | rfl
    · exact ⟨_, Nat.le_trans (cvF_le k j) hk, rfl⟩
    · exact ⟨_, Nat.le_trans (ceF_le k j) hk, rfl⟩
    · exact ⟨_, Nat.le_trans (cvF_le k j) hk, rfl⟩

theorem upd_of_grown {w w' : World} {v : Value} (h : w.grownBy w' v.ownBlock) : Upd (fun k => v.ownBlock = some k) w w' :=
  ⟨h.os, h.tape, h.output, h.size, fun k hk hne => h.block k hk (fun e => hne e.symm)⟩

set_option maxRecDepth 100000 in
set_option maxHeartbeats 8000000 in
theorem Parts_calls {w : World} {M : MR} {s : List Nat} {root : Int} {lone : Nat} {fs ff fb : Bool} (h : MapAt w M s root lone fs ff fb) :
    Calls Try.prog 74 #[.pointer (some ⟨M.b, 0, none⟩)] w fun e w' =>
      ∃ v fs' ff', e = .returned v ∧ OwnF w' w.heap.size v (cntR (Conn (sg s)) s.length + lone) (prtL s) ∧ MapAt w' M s root lone fs' ff' fb ∧ Upd M.set w w' ∧
        (0 < s.length → fs' = true ∧ ff' = true) ∧ (fs = true → fs' = true) ∧ (ff = true → ff' = true) := by
  have hlen := h.ok.len
  have hfew := h.ok.few
  have HC := Lib.hid (conn_cls h.ok.pm h.ok.even)
  have HO := Lib.hid h.ok
  have HLT := Lib.hid h.lt
  have H := Lib.hid h
  clear h
  go_enter Try.func74, Try.ntmps74
  go_wp2_with (go_at_call 83; refine (eNames_calls H.out).mono ?_; rintro e w1 ⟨g, hg, rfl, hb1, hbel1⟩; have HB1 := Lib.hid hb1; have HW1 := Lib.hid hbel1; clear hb1 hbel1)
  have hm1 := H.out.below HW1.out
  have HM1 := Lib.hid hm1
  have hws1 := HW1.out.size
  have hgl := HB1.out.lt
  clear hm1
  go_loopw [3, 4, 5, 14] (fun out vs bs i wr => ∃ (k : Nat) (fs' ff' : Bool), k ≤ s.length ∧ vs = .int .i64 ((lows (sg s) s.length k : Nat) : Int) ∧ bs = .int .i64 ((lows (sg (phiL s)) s.length k : Nat) : Int) ∧ i = .int .i64 k ∧
      OwnF wr w1.heap.size out (lowsR (Conn (sg s)) s.length k) (prtF s k) ∧ Blk wr g 3 (ivs (nmL (Conn (sg s)) s.length)) ∧ MapAt wr M s root lone fs' ff' fb ∧ Upd M.set w1 wr ∧
      (0 < k → fs' = true ∧ ff' = true) ∧ (fs = true → fs' = true) ∧ (ff = true → ff' = true))
    (fun _ _ _ i _ => s.length - (intOf i).toNat)
  case atStart => exact ⟨0, fs, ff, Nat.zero_le _, rfl, rfl, rfl, OwnF.nil _ _ _, HB1.out, HM1.out, Upd.refl _ _, fun h => absurd h (by omega), fun h => h, fun h => h⟩
  case round =>
    obtain ⟨k, fs', ff', hk, rfl, rfl, rfl, hown, hblk, hm, hup, hfl, hfs, hff⟩ := hrel
    obtain ⟨A, c, rfl, hcap, hAb⟩ := hown.form
    have HOW := Lib.hid hown
    have HBK := Lib.hid hblk
    have HM := Lib.hid hm
    have HU := Lib.hid hup
    have hwr := hup.size
    have hll := lowsR_le (R := Conn (sg s)) (n := s.length) k
    have hl1 := lows_le (sg s) s.length k
    have hl2 := lows_le (sg (phiL s)) s.length k
    have HFL := Lib.hid (And.intro hfl (And.intro hfs hff))
    clear hown hblk hm hup hfl hfs hff HB1 HM1 hAb
    by_cases hlt : k < s.length
    · have hlp : k < (phiL s).length := by rw [phiL_length]; exact hlt
      have hcn : wr.cell? ⟨g, k, none⟩ = some (.int .i64 (nmR (Conn (sg s)) s.length k)) := by rw [HBK.out.cell, ivs_get _ _ (by rw [nmL_length]; exact hlt), nmL_getD hlt]
      have hpm := HO.out.pm
      have hpf := HO.out.phi
      rw [phiL_length] at hpf
      have hymax := HC.out.nm_lt hlt
      have hcle := cntR_le (R := Conn (sg s)) (n := s.length)
      have HNOT := Lib.hid (HC.out.nm_lt_lows hlt)
      have HLOW := Lib.hid (fun hl => HC.out.nm_low (k := k) hl)
      have HSL := Lib.hid (fun hl => nm_least hpm (k := k) hl)
      have HSN := Lib.hid (nm_lt_lows hpm hlt)
      have HPL := Lib.hid (fun hl => nm_least hpf (k := k) hl)
      have HPN := Lib.hid (nm_lt_lows hpf hlt)
      have HSTEP := Lib.hid (prtF_step (y := nmR (Conn (sg s)) s.length k) HO.out hlt rfl)
      clear hpm hpf
      by_cases hl : isLow (Conn (sg s)) s.length k
      · by_cases hv : isLeast (sg s) s.length k
        · by_cases hf : isLeast (sg (phiL s)) s.length k
          · skip
            obtain ⟨a1, ha1, hA1⟩ := prtN_bounds (s := s) true (show k ≤ 131072 by omega) (nmR (Conn (sg s)) s.length k) 1 (.inl rfl)
            obtain ⟨a2, ha2, hA2⟩ := prtN_bounds (s := s) true (show k ≤ 131072 by omega) (nmR (Conn (sg s)) s.length k) 2 (.inr (.inl rfl))
            obtain ⟨a3, ha3, hA3⟩ := prtN_bounds (s := s) true (show k ≤ 131072 by omega) (nmR (Conn (sg s)) s.length k) 3 (.inr (.inr rfl))
            have HA := Lib.hid (And.intro hA1 (And.intro hA2 hA3))
            clear hA1 hA2 hA3
            have ht1 : (((nmR (Conn (sg s)) s.length k : Nat) : Int) == ((lowsR (Conn (sg s)) s.length k : Nat) : Int)) = true := by rw [HLOW.out hl]; simp
            have hyn : nmR (Conn (sg s)) s.length k < lowsR (Conn (sg s)) s.length k + 1 := by rw [HLOW.out hl]; exact Nat.lt_succ_self _
            have hN := lowsR_succ_low hl
            have HNN := Lib.hid hN
            have ht2 : (((nm (sg s) s.length k : Nat) : Int) == ((lows (sg s) s.length k : Nat) : Int)) = true := by rw [HSL.out hv]; simp
            have HV := Lib.hid (lows_succ_least hv)
            have ht3 : (((nm (sg (phiL s)) s.length k : Nat) : Int) == ((lows (sg (phiL s)) s.length k : Nat) : Int)) = true := by rw [HPL.out hf]; simp
            have HF := Lib.hid (lows_succ_least hf)
            have HLL := Lib.hid hl
            have HVV := Lib.hid hv
            have HFF := Lib.hid hf
            clear hN HSL HSN HPL HPN HNOT HLOW hl hv hf
            go_wp2_with (first
              | (at_builtin; refine app_part rfl (.tmp 23) (.tmp 26) rfl w1.heap.size _ (lowsR (Conn (sg s)) s.length k) (prtF s k) k 0 0 0 0 rfl HOW.out rfl (by omega) hwr ?_; intro v' w2 hown2 hgr; have hown3 : OwnF w2 w1.heap.size v' (lowsR (Conn (sg s)) s.length k + 1) (prtN s k true) := hown2.congr (fun j c _ _ => by simp [prtN]); obtain ⟨g2, c2, rfl, hge2, hlt2, _, _, _⟩ := hown3.pos (by omega); have hu2 := upd_of_grown hgr; have HO2 := Lib.hid hown3; have HM2 := Lib.hid (HM.out.upd hu2 (fun j hj e => (by have := HOW.out.ge j e; have := HLT.out j hj; omega)) (fun j e => (by obtain ⟨cs, hb⟩ := HOW.out.ty e; exact ⟨_, cs, hb, by decide⟩))); have HB2 := Lib.hid (HBK.out.grown hgr (fun e => (by have := HOW.out.ge g e.symm; omega))); have HU2 := Lib.hid (HU.out.grown hgr (fun j hj => .inr (HOW.out.ge j hj))); have hws2 := Nat.le_trans hwr hgr.size; clear hown2 hown3 hgr hu2)
              | (go_at_call 11; refine (Vertex_calls HM2.out k hlt).mono ?_; rintro e w3 ⟨rfl, hm3, hu3, _⟩; have ho3 := HO2.out.upd hu3 (fun j hj e => (by have := HLT.out j e; omega)); have hb3 := HB2.out.upd hu3 (fun e => (by have := HLT.out g e; omega)); have hu3' := HU2.out.trans hu3; have hws3 := hu3'.size; obtain ⟨g3, c3, hv3, _, hg3l, hcs3, hfz3, hbt3⟩ := ho3.pos (by omega); injection hv3 with hv3 _ hc9; subst hc9; injection hv3 with hv3; injection hv3 with hv3 _; subst hv3; have hc1 := hcs3 (nmR (Conn (sg s)) s.length k) 1 hyn (by omega); rw [HA.out.1] at hc1; have hf1 := hfz3 (nmR (Conn (sg s)) s.length k * 5 + 1); have HO3 := Lib.hid (ho3.store (j := nmR (Conn (sg s)) s.length k) (k := 1) (by omega) ((a1 : Int) + 1)); have hu9 : Upd (fun j => j = g2) w3 (w3.setCell ⟨g2, nmR (Conn (sg s)) s.length k * 5 + 1, none⟩ (.int .i64 ((a1 : Int) + 1))) := Upd.setCell (S := fun j => j = g2) (p := ⟨g2, nmR (Conn (sg s)) s.length k * 5 + 1, none⟩) (Upd.refl _ _) (.inl rfl) _; have HM3 := Lib.hid (hm3.upd hu9 (fun j hj e => (by have := HLT.out j hj; omega)) (fun j e => (by obtain ⟨cs, hb⟩ := hbt3; exact ⟨_, cs, e ▸ hb, by decide⟩))); have HB3 := Lib.hid (hb3.upd hu9 (by show ¬ g = g2; omega)); have HU3 := Lib.hid (hu3'.setCell (p := ⟨g2, nmR (Conn (sg s)) s.length k * 5 + 1, none⟩) (.inr (by simp; omega)) (.int .i64 ((a1 : Int) + 1))); clear hm3 hu3 ho3 hb3 hu3' hcs3 hfz3 hbt3 hu9)
              | (go_at_call 15; refine (Face_calls HM3.out k hlt).mono ?_; rintro e w4 ⟨rfl, hm4, hu4, _⟩; have hws4 := HU3.out.size; have ho4 := HO3.out.upd hu4 (fun j hj e => (by have := HLT.out j e; omega)); have hb4 := HB3.out.upd hu4 (fun e => (by have := HLT.out g e; omega)); have hu4' := HU3.out.trans hu4; have hws5 := hu4'.size; obtain ⟨g3, c3, hv3, _, hg4l, hcs4, hfz4, hbt4⟩ := ho4.pos (by omega); injection hv3 with hv3 _ hc9; subst hc9; injection hv3 with hv3; injection hv3 with hv3 _; subst hv3; have hc2 := (hcs4 (nmR (Conn (sg s)) s.length k) 2 hyn (by omega)).trans (congrArg (fun z : Int => some (Value.int .i64 z)) (show (fun i l => if i = nmR (Conn (sg s)) s.length k ∧ l = 1 then (a1 : Int) + 1 else prtN s k true i l) (nmR (Conn (sg s)) s.length k) 2 = (a2 : Int) by simp [HA.out.2.1])); have hf2 := hfz4 (nmR (Conn (sg s)) s.length k * 5 + 2); have hc3 := (hcs4 (nmR (Conn (sg s)) s.length k) 3 hyn (by omega)).trans (congrArg (fun z : Int => some (Value.int .i64 z)) (show (fun i l => if i = nmR (Conn (sg s)) s.length k ∧ l = 1 then (a1 : Int) + 1 else prtN s k true i l) (nmR (Conn (sg s)) s.length k) 3 = (a3 : Int) by simp [HA.out.2.2])); have hf3 := hfz4 (nmR (Conn (sg s)) s.length k * 5 + 3); have HO4 := Lib.hid ho4; have HM4 := Lib.hid hm4; have HB4 := Lib.hid hb4; have HU4 := Lib.hid hu4'; have HT4 := Lib.hid hbt4; clear hm4 hu4 ho4 hb4 hu4' hcs4 hfz4 hbt4))
            go_roundw
            case rel =>
              have ho5 := HO4.out.store (j := nmR (Conn (sg s)) s.length k) (k := 3) (by omega) ((a3 : Int) + 1)
              have ho6 := ho5.store (j := nmR (Conn (sg s)) s.length k) (k := 2) (by omega) ((a2 : Int) + (k : Int) % 2)
              have hu9 : Upd (fun j => j = g2) w4 ((w4.setCell ⟨g2, nmR (Conn (sg s)) s.length k * 5 + 3, none⟩ (.int .i64 ((a3 : Int) + 1))).setCell ⟨g2, nmR (Conn (sg s)) s.length k * 5 + 2, none⟩ (.int .i64 ((a2 : Int) + (k : Int) % 2))) := Upd.setCell (S := fun j => j = g2) (p := ⟨g2, nmR (Conn (sg s)) s.length k * 5 + 2, none⟩) (Upd.setCell (S := fun j => j = g2) (p := ⟨g2, nmR (Conn (sg s)) s.length k * 5 + 3, none⟩) (Upd.refl _ _) (.inl rfl) _) (.inl rfl) _
              have hm9 := HM4.out.upd hu9 (fun j hj e => (by have := HLT.out j hj; omega)) (fun j e => (by obtain ⟨cs, hb⟩ := HT4.out; exact ⟨_, cs, e ▸ hb, by decide⟩))
              have hb9 := HB4.out.upd hu9 (by show ¬ g = g2; omega)
              have hw5 := HU4.out.size
              have hu99 := (HU4.out.setCell (p := ⟨g2, nmR (Conn (sg s)) s.length k * 5 + 3, none⟩) (.inr (by simp; omega)) (.int .i64 ((a3 : Int) + 1))).setCell (p := ⟨g2, nmR (Conn (sg s)) s.length k * 5 + 2, none⟩) (.inr (by simp; omega)) (.int .i64 ((a2 : Int) + (k : Int) % 2))
              have HST := HSTEP.out true true true (by simp [HLL.out]) (by simp [HVV.out]) (by simp [HFF.out])
              have hfin := fun j c (hj : j < (lowsR (Conn (sg s)) s.length k + 1)) (hc : c < 5) => HST (fun j c => if j = nmR (Conn (sg s)) s.length k ∧ c = 2 then (a2 : Int) + ((k % 2 : Nat) : Int) else if true = true ∧ j = nmR (Conn (sg s)) s.length k ∧ c = 3 then (a3 : Int) + 1 else if true = true ∧ j = nmR (Conn (sg s)) s.length k ∧ c = 1 then (a1 : Int) + 1 else prtN s k true j c) (fun j c _ _ => fin_eq (prtN s k true) (nmR (Conn (sg s)) s.length k) a1 a2 a3 ((k % 2 : Nat) : Int) HA.out.1 HA.out.2.1 HA.out.2.2 true true j c) j c (by rw [HNN.out]; exact hj) hc
              exact ⟨k + 1, true, true, by omega, by rw [HV.out]; go_num, by rw [HF.out]; go_num, by go_num, (by rw [HNN.out]; exact ho6.congr (fun j c hj hc => Eq.trans (by simp) (hfin j c hj hc))), hb9, hm9, hu99, fun _ => ⟨rfl, rfl⟩, fun _ => rfl, fun _ => rfl⟩
            case measure => simp [intOf]; omega
          · skip
            obtain ⟨a1, ha1, hA1⟩ := prtN_bounds (s := s) true (show k ≤ 131072 by omega) (nmR (Conn (sg s)) s.length k) 1 (.inl rfl)
            obtain ⟨a2, ha2, hA2⟩ := prtN_bounds (s := s) true (show k ≤ 131072 by omega) (nmR (Conn (sg s)) s.length k) 2 (.inr (.inl rfl))
            obtain ⟨a3, ha3, hA3⟩ := prtN_bounds (s := s) true (show k ≤ 131072 by omega) (nmR (Conn (sg s)) s.length k) 3 (.inr (.inr rfl))
            have HA := Lib.hid (And.intro hA1 (And.intro hA2 hA3))
            clear hA1 hA2 hA3
            have ht1 : (((nmR (Conn (sg s)) s.length k : Nat) : Int) == ((lowsR (Conn (sg s)) s.length k : Nat) : Int)) = true := by rw [HLOW.out hl]; simp
            have hyn : nmR (Conn (sg s)) s.length k < lowsR (Conn (sg s)) s.length k + 1 := by rw [HLOW.out hl]; exact Nat.lt_succ_self _
            have hN := lowsR_succ_low hl
            have HNN := Lib.hid hN
            have ht2 : (((nm (sg s) s.length k : Nat) : Int) == ((lows (sg s) s.length k : Nat) : Int)) = true := by rw [HSL.out hv]; simp
            have HV := Lib.hid (lows_succ_least hv)
            have ht3 : (((nm (sg (phiL s)) s.length k : Nat) : Int) == ((lows (sg (phiL s)) s.length k : Nat) : Int)) = false := beq_eq_false_iff_ne.2 (by have := HPN.out hf; omega)
            have HF := Lib.hid (lows_succ_not hf)
            have HLL := Lib.hid hl
            have HVV := Lib.hid hv
            have HFF := Lib.hid hf
            clear hN HSL HSN HPL HPN HNOT HLOW hl hv hf
            go_wp2_with (first
              | (at_builtin; refine app_part rfl (.tmp 23) (.tmp 26) rfl w1.heap.size _ (lowsR (Conn (sg s)) s.length k) (prtF s k) k 0 0 0 0 rfl HOW.out rfl (by omega) hwr ?_; intro v' w2 hown2 hgr; have hown3 : OwnF w2 w1.heap.size v' (lowsR (Conn (sg s)) s.length k + 1) (prtN s k true) := hown2.congr (fun j c _ _ => by simp [prtN]); obtain ⟨g2, c2, rfl, hge2, hlt2, _, _, _⟩ := hown3.pos (by omega); have hu2 := upd_of_grown hgr; have HO2 := Lib.hid hown3; have HM2 := Lib.hid (HM.out.upd hu2 (fun j hj e => (by have := HOW.out.ge j e; have := HLT.out j hj; omega)) (fun j e => (by obtain ⟨cs, hb⟩ := HOW.out.ty e; exact ⟨_, cs, hb, by decide⟩))); have HB2 := Lib.hid (HBK.out.grown hgr (fun e => (by have := HOW.out.ge g e.symm; omega))); have HU2 := Lib.hid (HU.out.grown hgr (fun j hj => .inr (HOW.out.ge j hj))); have hws2 := Nat.le_trans hwr hgr.size; clear hown2 hown3 hgr hu2)
              | (go_at_call 11; refine (Vertex_calls HM2.out k hlt).mono ?_; rintro e w3 ⟨rfl, hm3, hu3, _⟩; have ho3 := HO2.out.upd hu3 (fun j hj e => (by have := HLT.out j e; omega)); have hb3 := HB2.out.upd hu3 (fun e => (by have := HLT.out g e; omega)); have hu3' := HU2.out.trans hu3; have hws3 := hu3'.size; obtain ⟨g3, c3, hv3, _, hg3l, hcs3, hfz3, hbt3⟩ := ho3.pos (by omega); injection hv3 with hv3 _ hc9; subst hc9; injection hv3 with hv3; injection hv3 with hv3 _; subst hv3; have hc1 := hcs3 (nmR (Conn (sg s)) s.length k) 1 hyn (by omega); rw [HA.out.1] at hc1; have hf1 := hfz3 (nmR (Conn (sg s)) s.length k * 5 + 1); have HO3 := Lib.hid (ho3.store (j := nmR (Conn (sg s)) s.length k) (k := 1) (by omega) ((a1 : Int) + 1)); have hu9 : Upd (fun j => j = g2) w3 (w3.setCell ⟨g2, nmR (Conn (sg s)) s.length k * 5 + 1, none⟩ (.int .i64 ((a1 : Int) + 1))) := Upd.setCell (S := fun j => j = g2) (p := ⟨g2, nmR (Conn (sg s)) s.length k * 5 + 1, none⟩) (Upd.refl _ _) (.inl rfl) _; have HM3 := Lib.hid (hm3.upd hu9 (fun j hj e => (by have := HLT.out j hj; omega)) (fun j e => (by obtain ⟨cs, hb⟩ := hbt3; exact ⟨_, cs, e ▸ hb, by decide⟩))); have HB3 := Lib.hid (hb3.upd hu9 (by show ¬ g = g2; omega)); have HU3 := Lib.hid (hu3'.setCell (p := ⟨g2, nmR (Conn (sg s)) s.length k * 5 + 1, none⟩) (.inr (by simp; omega)) (.int .i64 ((a1 : Int) + 1))); clear hm3 hu3 ho3 hb3 hu3' hcs3 hfz3 hbt3 hu9)
              | (go_at_call 15; refine (Face_calls HM3.out k hlt).mono ?_; rintro e w4 ⟨rfl, hm4, hu4, _⟩; have hws4 := HU3.out.size; have ho4 := HO3.out.upd hu4 (fun j hj e => (by have := HLT.out j e; omega)); have hb4 := HB3.out.upd hu4 (fun e => (by have := HLT.out g e; omega)); have hu4' := HU3.out.trans hu4; have hws5 := hu4'.size; obtain ⟨g3, c3, hv3, _, hg4l, hcs4, hfz4, hbt4⟩ := ho4.pos (by omega); injection hv3 with hv3 _ hc9; subst hc9; injection hv3 with hv3; injection hv3 with hv3 _; subst hv3; have hc2 := (hcs4 (nmR (Conn (sg s)) s.length k) 2 hyn (by omega)).trans (congrArg (fun z : Int => some (Value.int .i64 z)) (show (fun i l => if i = nmR (Conn (sg s)) s.length k ∧ l = 1 then (a1 : Int) + 1 else prtN s k true i l) (nmR (Conn (sg s)) s.length k) 2 = (a2 : Int) by simp [HA.out.2.1])); have hf2 := hfz4 (nmR (Conn (sg s)) s.length k * 5 + 2); have HO4 := Lib.hid ho4; have HM4 := Lib.hid hm4; have HB4 := Lib.hid hb4; have HU4 := Lib.hid hu4'; have HT4 := Lib.hid hbt4; clear hm4 hu4 ho4 hb4 hu4' hcs4 hfz4 hbt4))
            go_roundw
            case rel =>
              have ho5 := HO4.out
              have ho6 := ho5.store (j := nmR (Conn (sg s)) s.length k) (k := 2) (by omega) ((a2 : Int) + (k : Int) % 2)
              have hu9 : Upd (fun j => j = g2) w4 (w4.setCell ⟨g2, nmR (Conn (sg s)) s.length k * 5 + 2, none⟩ (.int .i64 ((a2 : Int) + (k : Int) % 2))) := Upd.setCell (S := fun j => j = g2) (p := ⟨g2, nmR (Conn (sg s)) s.length k * 5 + 2, none⟩) (Upd.refl _ _) (.inl rfl) _
              have hm9 := HM4.out.upd hu9 (fun j hj e => (by have := HLT.out j hj; omega)) (fun j e => (by obtain ⟨cs, hb⟩ := HT4.out; exact ⟨_, cs, e ▸ hb, by decide⟩))
              have hb9 := HB4.out.upd hu9 (by show ¬ g = g2; omega)
              have hw5 := HU4.out.size
              have hu99 := HU4.out.setCell (p := ⟨g2, nmR (Conn (sg s)) s.length k * 5 + 2, none⟩) (.inr (by simp; omega)) (.int .i64 ((a2 : Int) + (k : Int) % 2))
              have HST := HSTEP.out true true false (by simp [HLL.out]) (by simp [HVV.out]) (by simp [HFF.out])
              have hfin := fun j c (hj : j < (lowsR (Conn (sg s)) s.length k + 1)) (hc : c < 5) => HST (fun j c => if j = nmR (Conn (sg s)) s.length k ∧ c = 2 then (a2 : Int) + ((k % 2 : Nat) : Int) else if false = true ∧ j = nmR (Conn (sg s)) s.length k ∧ c = 3 then (a3 : Int) + 1 else if true = true ∧ j = nmR (Conn (sg s)) s.length k ∧ c = 1 then (a1 : Int) + 1 else prtN s k true j c) (fun j c _ _ => fin_eq (prtN s k true) (nmR (Conn (sg s)) s.length k) a1 a2 a3 ((k % 2 : Nat) : Int) HA.out.1 HA.out.2.1 HA.out.2.2 true false j c) j c (by rw [HNN.out]; exact hj) hc
              exact ⟨k + 1, true, true, by omega, by rw [HV.out]; go_num, by rw [HF.out], by go_num, (by rw [HNN.out]; exact ho6.congr (fun j c hj hc => Eq.trans (by simp) (hfin j c hj hc))), hb9, hm9, hu99, fun _ => ⟨rfl, rfl⟩, fun _ => rfl, fun _ => rfl⟩
            case measure => simp [intOf]; omega
        · by_cases hf : isLeast (sg (phiL s)) s.length k
          · skip
            obtain ⟨a1, ha1, hA1⟩ := prtN_bounds (s := s) true (show k ≤ 131072 by omega) (nmR (Conn (sg s)) s.length k) 1 (.inl rfl)
            obtain ⟨a2, ha2, hA2⟩ := prtN_bounds (s := s) true (show k ≤ 131072 by omega) (nmR (Conn (sg s)) s.length k) 2 (.inr (.inl rfl))
            obtain ⟨a3, ha3, hA3⟩ := prtN_bounds (s := s) true (show k ≤ 131072 by omega) (nmR (Conn (sg s)) s.length k) 3 (.inr (.inr rfl))
            have HA := Lib.hid (And.intro hA1 (And.intro hA2 hA3))
            clear hA1 hA2 hA3
            have ht1 : (((nmR (Conn (sg s)) s.length k : Nat) : Int) == ((lowsR (Conn (sg s)) s.length k : Nat) : Int)) = true := by rw [HLOW.out hl]; simp
            have hyn : nmR (Conn (sg s)) s.length k < lowsR (Conn (sg s)) s.length k + 1 := by rw [HLOW.out hl]; exact Nat.lt_succ_self _
            have hN := lowsR_succ_low hl
            have HNN := Lib.hid hN
            have ht2 : (((nm (sg s) s.length k : Nat) : Int) == ((lows (sg s) s.length k : Nat) : Int)) = false := beq_eq_false_iff_ne.2 (by have := HSN.out hv; omega)
            have HV := Lib.hid (lows_succ_not hv)
            have ht3 : (((nm (sg (phiL s)) s.length k : Nat) : Int) == ((lows (sg (phiL s)) s.length k : Nat) : Int)) = true := by rw [HPL.out hf]; simp
            have HF := Lib.hid (lows_succ_least hf)
            have HLL := Lib.hid hl
            have HVV := Lib.hid hv
            have HFF := Lib.hid hf
            clear hN HSL HSN HPL HPN HNOT HLOW hl hv hf
            go_wp2_with (first
              | (at_builtin; refine app_part rfl (.tmp 23) (.tmp 26) rfl w1.heap.size _ (lowsR (Conn (sg s)) s.length k) (prtF s k) k 0 0 0 0 rfl HOW.out rfl (by omega) hwr ?_; intro v' w2 hown2 hgr; have hown3 : OwnF w2 w1.heap.size v' (lowsR (Conn (sg s)) s.length k + 1) (prtN s k true) := hown2.congr (fun j c _ _ => by simp [prtN]); obtain ⟨g2, c2, rfl, hge2, hlt2, _, _, _⟩ := hown3.pos (by omega); have hu2 := upd_of_grown hgr; have HO2 := Lib.hid hown3; have HM2 := Lib.hid (HM.out.upd hu2 (fun j hj e => (by have := HOW.out.ge j e; have := HLT.out j hj; omega)) (fun j e => (by obtain ⟨cs, hb⟩ := HOW.out.ty e; exact ⟨_, cs, hb, by decide⟩))); have HB2 := Lib.hid (HBK.out.grown hgr (fun e => (by have := HOW.out.ge g e.symm; omega))); have HU2 := Lib.hid (HU.out.grown hgr (fun j hj => .inr (HOW.out.ge j hj))); have hws2 := Nat.le_trans hwr hgr.size; clear hown2 hown3 hgr hu2)
              | (go_at_call 11; refine (Vertex_calls HM2.out k hlt).mono ?_; rintro e w3 ⟨rfl, hm3, hu3, _⟩; have ho3 := HO2.out.upd hu3 (fun j hj e => (by have := HLT.out j e; omega)); have hb3 := HB2.out.upd hu3 (fun e => (by have := HLT.out g e; omega)); have hu3' := HU2.out.trans hu3; have hws3 := hu3'.size; obtain ⟨g3, c3, hv3, _, hg3l, hcs3, hfz3, hbt3⟩ := ho3.pos (by omega); injection hv3 with hv3 _ hc9; subst hc9; injection hv3 with hv3; injection hv3 with hv3 _; subst hv3; have HO3 := Lib.hid ho3; have HM3 := Lib.hid hm3; have HB3 := Lib.hid hb3; have HU3 := Lib.hid hu3'; clear hm3 hu3 ho3 hb3 hu3' hcs3 hfz3 hbt3)
              | (go_at_call 15; refine (Face_calls HM3.out k hlt).mono ?_; rintro e w4 ⟨rfl, hm4, hu4, _⟩; have hws4 := HU3.out.size; have ho4 := HO3.out.upd hu4 (fun j hj e => (by have := HLT.out j e; omega)); have hb4 := HB3.out.upd hu4 (fun e => (by have := HLT.out g e; omega)); have hu4' := HU3.out.trans hu4; have hws5 := hu4'.size; obtain ⟨g3, c3, hv3, _, hg4l, hcs4, hfz4, hbt4⟩ := ho4.pos (by omega); injection hv3 with hv3 _ hc9; subst hc9; injection hv3 with hv3; injection hv3 with hv3 _; subst hv3; have hc2 := (hcs4 (nmR (Conn (sg s)) s.length k) 2 hyn (by omega)).trans (congrArg (fun z : Int => some (Value.int .i64 z)) (show (prtN s k true) (nmR (Conn (sg s)) s.length k) 2 = (a2 : Int) by simp [HA.out.2.1])); have hf2 := hfz4 (nmR (Conn (sg s)) s.length k * 5 + 2); have hc3 := (hcs4 (nmR (Conn (sg s)) s.length k) 3 hyn (by omega)).trans (congrArg (fun z : Int => some (Value.int .i64 z)) (show (prtN s k true) (nmR (Conn (sg s)) s.length k) 3 = (a3 : Int) by simp [HA.out.2.2])); have hf3 := hfz4 (nmR (Conn (sg s)) s.length k * 5 + 3); have HO4 := Lib.hid ho4; have HM4 := Lib.hid hm4; have HB4 := Lib.hid hb4; have HU4 := Lib.hid hu4'; have HT4 := Lib.hid hbt4; clear hm4 hu4 ho4 hb4 hu4' hcs4 hfz4 hbt4))
            go_roundw
            case rel =>
              have ho5 := HO4.out.store (j := nmR (Conn (sg s)) s.length k) (k := 3) (by omega) ((a3 : Int) + 1)
              have ho6 := ho5.store (j := nmR (Conn (sg s)) s.length k) (k := 2) (by omega) ((a2 : Int) + (k : Int) % 2)
              have hu9 : Upd (fun j => j = g2) w4 ((w4.setCell ⟨g2, nmR (Conn (sg s)) s.length k * 5 + 3, none⟩ (.int .i64 ((a3 : Int) + 1))).setCell ⟨g2, nmR (Conn (sg s)) s.length k * 5 + 2, none⟩ (.int .i64 ((a2 : Int) + (k : Int) % 2))) := Upd.setCell (S := fun j => j = g2) (p := ⟨g2, nmR (Conn (sg s)) s.length k * 5 + 2, none⟩) (Upd.setCell (S := fun j => j = g2) (p := ⟨g2, nmR (Conn (sg s)) s.length k * 5 + 3, none⟩) (Upd.refl _ _) (.inl rfl) _) (.inl rfl) _
              have hm9 := HM4.out.upd hu9 (fun j hj e => (by have := HLT.out j hj; omega)) (fun j e => (by obtain ⟨cs, hb⟩ := HT4.out; exact ⟨_, cs, e ▸ hb, by decide⟩))
              have hb9 := HB4.out.upd hu9 (by show ¬ g = g2; omega)
              have hw5 := HU4.out.size
              have hu99 := (HU4.out.setCell (p := ⟨g2, nmR (Conn (sg s)) s.length k * 5 + 3, none⟩) (.inr (by simp; omega)) (.int .i64 ((a3 : Int) + 1))).setCell (p := ⟨g2, nmR (Conn (sg s)) s.length k * 5 + 2, none⟩) (.inr (by simp; omega)) (.int .i64 ((a2 : Int) + (k : Int) % 2))
              have HST := HSTEP.out true false true (by simp [HLL.out]) (by simp [HVV.out]) (by simp [HFF.out])
              have hfin := fun j c (hj : j < (lowsR (Conn (sg s)) s.length k + 1)) (hc : c < 5) => HST (fun j c => if j = nmR (Conn (sg s)) s.length k ∧ c = 2 then (a2 : Int) + ((k % 2 : Nat) : Int) else if true = true ∧ j = nmR (Conn (sg s)) s.length k ∧ c = 3 then (a3 : Int) + 1 else if false = true ∧ j = nmR (Conn (sg s)) s.length k ∧ c = 1 then (a1 : Int) + 1 else prtN s k true j c) (fun j c _ _ => fin_eq (prtN s k true) (nmR (Conn (sg s)) s.length k) a1 a2 a3 ((k % 2 : Nat) : Int) HA.out.1 HA.out.2.1 HA.out.2.2 false true j c) j c (by rw [HNN.out]; exact hj) hc
              exact ⟨k + 1, true, true, by omega, by rw [HV.out], by rw [HF.out]; go_num, by go_num, (by rw [HNN.out]; exact ho6.congr (fun j c hj hc => Eq.trans (by simp) (hfin j c hj hc))), hb9, hm9, hu99, fun _ => ⟨rfl, rfl⟩, fun _ => rfl, fun _ => rfl⟩
            case measure => simp [intOf]; omega
          · skip
            obtain ⟨a1, ha1, hA1⟩ := prtN_bounds (s := s) true (show k ≤ 131072 by omega) (nmR (Conn (sg s)) s.length k) 1 (.inl rfl)
            obtain ⟨a2, ha2, hA2⟩ := prtN_bounds (s := s) true (show k ≤ 131072 by omega) (nmR (Conn (sg s)) s.length k) 2 (.inr (.inl rfl))
            obtain ⟨a3, ha3, hA3⟩ := prtN_bounds (s := s) true (show k ≤ 131072 by omega) (nmR (Conn (sg s)) s.length k) 3 (.inr (.inr rfl))
            have HA := Lib.hid (And.intro hA1 (And.intro hA2 hA3))
            clear hA1 hA2 hA3
            have ht1 : (((nmR (Conn (sg s)) s.length k : Nat) : Int) == ((lowsR (Conn (sg s)) s.length k : Nat) : Int)) = true := by rw [HLOW.out hl]; simp
            have hyn : nmR (Conn (sg s)) s.length k < lowsR (Conn (sg s)) s.length k + 1 := by rw [HLOW.out hl]; exact Nat.lt_succ_self _
            have hN := lowsR_succ_low hl
            have HNN := Lib.hid hN
            have ht2 : (((nm (sg s) s.length k : Nat) : Int) == ((lows (sg s) s.length k : Nat) : Int)) = false := beq_eq_false_iff_ne.2 (by have := HSN.out hv; omega)
            have HV := Lib.hid (lows_succ_not hv)
            have ht3 : (((nm (sg (phiL s)) s.length k : Nat) : Int) == ((lows (sg (phiL s)) s.length k : Nat) : Int)) = false := beq_eq_false_iff_ne.2 (by have := HPN.out hf; omega)
            have HF := Lib.hid (lows_succ_not hf)
            have HLL := Lib.hid hl
            have HVV := Lib.hid hv
            have HFF := Lib.hid hf
            clear hN HSL HSN HPL HPN HNOT HLOW hl hv hf
            go_wp2_with (first
              | (at_builtin; refine app_part rfl (.tmp 23) (.tmp 26) rfl w1.heap.size _ (lowsR (Conn (sg s)) s.length k) (prtF s k) k 0 0 0 0 rfl HOW.out rfl (by omega) hwr ?_; intro v' w2 hown2 hgr; have hown3 : OwnF w2 w1.heap.size v' (lowsR (Conn (sg s)) s.length k + 1) (prtN s k true) := hown2.congr (fun j c _ _ => by simp [prtN]); obtain ⟨g2, c2, rfl, hge2, hlt2, _, _, _⟩ := hown3.pos (by omega); have hu2 := upd_of_grown hgr; have HO2 := Lib.hid hown3; have HM2 := Lib.hid (HM.out.upd hu2 (fun j hj e => (by have := HOW.out.ge j e; have := HLT.out j hj; omega)) (fun j e => (by obtain ⟨cs, hb⟩ := HOW.out.ty e; exact ⟨_, cs, hb, by decide⟩))); have HB2 := Lib.hid (HBK.out.grown hgr (fun e => (by have := HOW.out.ge g e.symm; omega))); have HU2 := Lib.hid (HU.out.grown hgr (fun j hj => .inr (HOW.out.ge j hj))); have hws2 := Nat.le_trans hwr hgr.size; clear hown2 hown3 hgr hu2)
              | (go_at_call 11; refine (Vertex_calls HM2.out k hlt).mono ?_; rintro e w3 ⟨rfl, hm3, hu3, _⟩; have ho3 := HO2.out.upd hu3 (fun j hj e => (by have := HLT.out j e; omega)); have hb3 := HB2.out.upd hu3 (fun e => (by have := HLT.out g e; omega)); have hu3' := HU2.out.trans hu3; have hws3 := hu3'.size; obtain ⟨g3, c3, hv3, _, hg3l, hcs3, hfz3, hbt3⟩ := ho3.pos (by omega); injection hv3 with hv3 _ hc9; subst hc9; injection hv3 with hv3; injection hv3 with hv3 _; subst hv3; have HO3 := Lib.hid ho3; have HM3 := Lib.hid hm3; have HB3 := Lib.hid hb3; have HU3 := Lib.hid hu3'; clear hm3 hu3 ho3 hb3 hu3' hcs3 hfz3 hbt3)
              | (go_at_call 15; refine (Face_calls HM3.out k hlt).mono ?_; rintro e w4 ⟨rfl, hm4, hu4, _⟩; have hws4 := HU3.out.size; have ho4 := HO3.out.upd hu4 (fun j hj e => (by have := HLT.out j e; omega)); have hb4 := HB3.out.upd hu4 (fun e => (by have := HLT.out g e; omega)); have hu4' := HU3.out.trans hu4; have hws5 := hu4'.size; obtain ⟨g3, c3, hv3, _, hg4l, hcs4, hfz4, hbt4⟩ := ho4.pos (by omega); injection hv3 with hv3 _ hc9; subst hc9; injection hv3 with hv3; injection hv3 with hv3 _; subst hv3; have hc2 := (hcs4 (nmR (Conn (sg s)) s.length k) 2 hyn (by omega)).trans (congrArg (fun z : Int => some (Value.int .i64 z)) (show (prtN s k true) (nmR (Conn (sg s)) s.length k) 2 = (a2 : Int) by simp [HA.out.2.1])); have hf2 := hfz4 (nmR (Conn (sg s)) s.length k * 5 + 2); have HO4 := Lib.hid ho4; have HM4 := Lib.hid hm4; have HB4 := Lib.hid hb4; have HU4 := Lib.hid hu4'; have HT4 := Lib.hid hbt4; clear hm4 hu4 ho4 hb4 hu4' hcs4 hfz4 hbt4))
            go_roundw
            case rel =>
              have ho5 := HO4.out
              have ho6 := ho5.store (j := nmR (Conn (sg s)) s.length k) (k := 2) (by omega) ((a2 : Int) + (k : Int) % 2)
              have hu9 : Upd (fun j => j = g2) w4 (w4.setCell ⟨g2, nmR (Conn (sg s)) s.length k * 5 + 2, none⟩ (.int .i64 ((a2 : Int) + (k : Int) % 2))) := Upd.setCell (S := fun j => j = g2) (p := ⟨g2, nmR (Conn (sg s)) s.length k * 5 + 2, none⟩) (Upd.refl _ _) (.inl rfl) _
              have hm9 := HM4.out.upd hu9 (fun j hj e => (by have := HLT.out j hj; omega)) (fun j e => (by obtain ⟨cs, hb⟩ := HT4.out; exact ⟨_, cs, e ▸ hb, by decide⟩))
              have hb9 := HB4.out.upd hu9 (by show ¬ g = g2; omega)
              have hw5 := HU4.out.size
              have hu99 := HU4.out.setCell (p := ⟨g2, nmR (Conn (sg s)) s.length k * 5 + 2, none⟩) (.inr (by simp; omega)) (.int .i64 ((a2 : Int) + (k : Int) % 2))
              have HST := HSTEP.out true false false (by simp [HLL.out]) (by simp [HVV.out]) (by simp [HFF.out])
              have hfin := fun j c (hj : j < (lowsR (Conn (sg s)) s.length k + 1)) (hc : c < 5) => HST (fun j c => if j = nmR (Conn (sg s)) s.length k ∧ c = 2 then (a2 : Int) + ((k % 2 : Nat) : Int) else if false = true ∧ j = nmR (Conn (sg s)) s.length k ∧ c = 3 then (a3 : Int) + 1 else if false = true ∧ j = nmR (Conn (sg s)) s.length k ∧ c = 1 then (a1 : Int) + 1 else prtN s k true j c) (fun j c _ _ => fin_eq (prtN s k true) (nmR (Conn (sg s)) s.length k) a1 a2 a3 ((k % 2 : Nat) : Int) HA.out.1 HA.out.2.1 HA.out.2.2 false false j c) j c (by rw [HNN.out]; exact hj) hc
              exact ⟨k + 1, true, true, by omega, by rw [HV.out], by rw [HF.out], by go_num, (by rw [HNN.out]; exact ho6.congr (fun j c hj hc => Eq.trans (by simp) (hfin j c hj hc))), hb9, hm9, hu99, fun _ => ⟨rfl, rfl⟩, fun _ => rfl, fun _ => rfl⟩
            case measure => simp [intOf]; omega
      · by_cases hv : isLeast (sg s) s.length k
        · by_cases hf : isLeast (sg (phiL s)) s.length k
          · skip
            obtain ⟨a1, ha1, hA1⟩ := prtN_bounds (s := s) false (show k ≤ 131072 by omega) (nmR (Conn (sg s)) s.length k) 1 (.inl rfl)
            obtain ⟨a2, ha2, hA2⟩ := prtN_bounds (s := s) false (show k ≤ 131072 by omega) (nmR (Conn (sg s)) s.length k) 2 (.inr (.inl rfl))
            obtain ⟨a3, ha3, hA3⟩ := prtN_bounds (s := s) false (show k ≤ 131072 by omega) (nmR (Conn (sg s)) s.length k) 3 (.inr (.inr rfl))
            have HA := Lib.hid (And.intro hA1 (And.intro hA2 hA3))
            clear hA1 hA2 hA3
            have hyn : nmR (Conn (sg s)) s.length k < lowsR (Conn (sg s)) s.length k := HNOT.out hl
            have ht1 : (((nmR (Conn (sg s)) s.length k : Nat) : Int) == ((lowsR (Conn (sg s)) s.length k : Nat) : Int)) = false := beq_eq_false_iff_ne.2 (by omega)
            have hN := lowsR_succ_not hl
            have HNN := Lib.hid hN
            have ht2 : (((nm (sg s) s.length k : Nat) : Int) == ((lows (sg s) s.length k : Nat) : Int)) = true := by rw [HSL.out hv]; simp
            have HV := Lib.hid (lows_succ_least hv)
            have ht3 : (((nm (sg (phiL s)) s.length k : Nat) : Int) == ((lows (sg (phiL s)) s.length k : Nat) : Int)) = true := by rw [HPL.out hf]; simp
            have HF := Lib.hid (lows_succ_least hf)
            have HLL := Lib.hid hl
            have HVV := Lib.hid hv
            have HFF := Lib.hid hf
            clear hN HSL HSN HPL HPN HNOT HLOW hl hv hf
            obtain ⟨g2, c2, hv2, hge2, hlt2, _, _, _⟩ := HOW.out.pos (by omega)
            injection hv2 with hA2 _ hc2
            subst hA2 hc2
            have HO2 : Hid (OwnF wr w1.heap.size (.slice (some ⟨g2, 0, none⟩) (lowsR (Conn (sg s)) s.length k) c) (lowsR (Conn (sg s)) s.length k) (prtN s k false)) := Lib.hid (HOW.out.congr (fun j c _ _ => by simp [prtN]))
            have HM2 := Lib.hid HM.out
            have HU2 := Lib.hid HU.out
            have HB2 := Lib.hid HBK.out
            have hws2 := hwr
            go_wp2_with (first
              | (go_at_call 11; refine (Vertex_calls HM2.out k hlt).mono ?_; rintro e w3 ⟨rfl, hm3, hu3, _⟩; have ho3 := HO2.out.upd hu3 (fun j hj e => (by have := HLT.out j e; omega)); have hb3 := HB2.out.upd hu3 (fun e => (by have := HLT.out g e; omega)); have hu3' := HU2.out.trans hu3; have hws3 := hu3'.size; obtain ⟨g3, c3, hv3, _, hg3l, hcs3, hfz3, hbt3⟩ := ho3.pos (by omega); injection hv3 with hv3 _ hc9; subst hc9; injection hv3 with hv3; injection hv3 with hv3 _; subst hv3; have hc1 := hcs3 (nmR (Conn (sg s)) s.length k) 1 hyn (by omega); rw [HA.out.1] at hc1; have hf1 := hfz3 (nmR (Conn (sg s)) s.length k * 5 + 1); have HO3 := Lib.hid (ho3.store (j := nmR (Conn (sg s)) s.length k) (k := 1) (by omega) ((a1 : Int) + 1)); have hu9 : Upd (fun j => j = g2) w3 (w3.setCell ⟨g2, nmR (Conn (sg s)) s.length k * 5 + 1, none⟩ (.int .i64 ((a1 : Int) + 1))) := Upd.setCell (S := fun j => j = g2) (p := ⟨g2, nmR (Conn (sg s)) s.length k * 5 + 1, none⟩) (Upd.refl _ _) (.inl rfl) _; have HM3 := Lib.hid (hm3.upd hu9 (fun j hj e => (by have := HLT.out j hj; omega)) (fun j e => (by obtain ⟨cs, hb⟩ := hbt3; exact ⟨_, cs, e ▸ hb, by decide⟩))); have HB3 := Lib.hid (hb3.upd hu9 (by show ¬ g = g2; omega)); have HU3 := Lib.hid (hu3'.setCell (p := ⟨g2, nmR (Conn (sg s)) s.length k * 5 + 1, none⟩) (.inr (by simp; omega)) (.int .i64 ((a1 : Int) + 1))); clear hm3 hu3 ho3 hb3 hu3' hcs3 hfz3 hbt3 hu9)
              | (go_at_call 15; refine (Face_calls HM3.out k hlt).mono ?_; rintro e w4 ⟨rfl, hm4, hu4, _⟩; have hws4 := HU3.out.size; have ho4 := HO3.out.upd hu4 (fun j hj e => (by have := HLT.out j e; omega)); have hb4 := HB3.out.upd hu4 (fun e => (by have := HLT.out g e; omega)); have hu4' := HU3.out.trans hu4; have hws5 := hu4'.size; obtain ⟨g3, c3, hv3, _, hg4l, hcs4, hfz4, hbt4⟩ := ho4.pos (by omega); injection hv3 with hv3 _ hc9; subst hc9; injection hv3 with hv3; injection hv3 with hv3 _; subst hv3; have hc2 := (hcs4 (nmR (Conn (sg s)) s.length k) 2 hyn (by omega)).trans (congrArg (fun z : Int => some (Value.int .i64 z)) (show (fun i l => if i = nmR (Conn (sg s)) s.length k ∧ l = 1 then (a1 : Int) + 1 else prtN s k false i l) (nmR (Conn (sg s)) s.length k) 2 = (a2 : Int) by simp [HA.out.2.1])); have hf2 := hfz4 (nmR (Conn (sg s)) s.length k * 5 + 2); have hc3 := (hcs4 (nmR (Conn (sg s)) s.length k) 3 hyn (by omega)).trans (congrArg (fun z : Int => some (Value.int .i64 z)) (show (fun i l => if i = nmR (Conn (sg s)) s.length k ∧ l = 1 then (a1 : Int) + 1 else prtN s k false i l) (nmR (Conn (sg s)) s.length k) 3 = (a3 : Int) by simp [HA.out.2.2])); have hf3 := hfz4 (nmR (Conn (sg s)) s.length k * 5 + 3); have HO4 := Lib.hid ho4; have HM4 := Lib.hid hm4; have HB4 := Lib.hid hb4; have HU4 := Lib.hid hu4'; have HT4 := Lib.hid hbt4; clear hm4 hu4 ho4 hb4 hu4' hcs4 hfz4 hbt4))
            go_roundw
            case rel =>
              have ho5 := HO4.out.store (j := nmR (Conn (sg s)) s.length k) (k := 3) (by omega) ((a3 : Int) + 1)
              have ho6 := ho5.store (j := nmR (Conn (sg s)) s.length k) (k := 2) (by omega) ((a2 : Int) + (k : Int) % 2)
              have hu9 : Upd (fun j => j = g2) w4 ((w4.setCell ⟨g2, nmR (Conn (sg s)) s.length k * 5 + 3, none⟩ (.int .i64 ((a3 : Int) + 1))).setCell ⟨g2, nmR (Conn (sg s)) s.length k * 5 + 2, none⟩ (.int .i64 ((a2 : Int) + (k : Int) % 2))) := Upd.setCell (S := fun j => j = g2) (p := ⟨g2, nmR (Conn (sg s)) s.length k * 5 + 2, none⟩) (Upd.setCell (S := fun j => j = g2) (p := ⟨g2, nmR (Conn (sg s)) s.length k * 5 + 3, none⟩) (Upd.refl _ _) (.inl rfl) _) (.inl rfl) _
              have hm9 := HM4.out.upd hu9 (fun j hj e => (by have := HLT.out j hj; omega)) (fun j e => (by obtain ⟨cs, hb⟩ := HT4.out; exact ⟨_, cs, e ▸ hb, by decide⟩))
              have hb9 := HB4.out.upd hu9 (by show ¬ g = g2; omega)
              have hw5 := HU4.out.size
              have hu99 := (HU4.out.setCell (p := ⟨g2, nmR (Conn (sg s)) s.length k * 5 + 3, none⟩) (.inr (by simp; omega)) (.int .i64 ((a3 : Int) + 1))).setCell (p := ⟨g2, nmR (Conn (sg s)) s.length k * 5 + 2, none⟩) (.inr (by simp; omega)) (.int .i64 ((a2 : Int) + (k : Int) % 2))
              have HST := HSTEP.out false true true (by simp [HLL.out]) (by simp [HVV.out]) (by simp [HFF.out])
              have hfin := fun j c (hj : j < (lowsR (Conn (sg s)) s.length k)) (hc : c < 5) => HST (fun j c => if j = nmR (Conn (sg s)) s.length k ∧ c = 2 then (a2 : Int) + ((k % 2 : Nat) : Int) else if true = true ∧ j = nmR (Conn (sg s)) s.length k ∧ c = 3 then (a3 : Int) + 1 else if true = true ∧ j = nmR (Conn (sg s)) s.length k ∧ c = 1 then (a1 : Int) + 1 else prtN s k false j c) (fun j c _ _ => fin_eq (prtN s k false) (nmR (Conn (sg s)) s.length k) a1 a2 a3 ((k % 2 : Nat) : Int) HA.out.1 HA.out.2.1 HA.out.2.2 true true j c) j c (by rw [HNN.out]; exact hj) hc
              exact ⟨k + 1, true, true, by omega, by rw [HV.out]; go_num, by rw [HF.out]; go_num, by go_num, (by rw [HNN.out]; exact ho6.congr (fun j c hj hc => Eq.trans (by simp) (hfin j c hj hc))), hb9, hm9, hu99, fun _ => ⟨rfl, rfl⟩, fun _ => rfl, fun _ => rfl⟩
            case measure => simp [intOf]; omega
          · skip
            obtain ⟨a1, ha1, hA1⟩ := prtN_bounds (s := s) false (show k ≤ 131072 by omega) (nmR (Conn (sg s)) s.length k) 1 (.inl rfl)
            obtain ⟨a2, ha2, hA2⟩ := prtN_bounds (s := s) false (show k ≤ 131072 by omega) (nmR (Conn (sg s)) s.length k) 2 (.inr (.inl rfl))
            obtain ⟨a3, ha3, hA3⟩ := prtN_bounds (s := s) false (show k ≤ 131072 by omega) (nmR (Conn (sg s)) s.length k) 3 (.inr (.inr rfl))
            have HA := Lib.hid (And.intro hA1 (And.intro hA2 hA3))
            clear hA1 hA2 hA3
            have hyn : nmR (Conn (sg s)) s.length k < lowsR (Conn (sg s)) s.length k := HNOT.out hl
            have ht1 : (((nmR (Conn (sg s)) s.length k : Nat) : Int) == ((lowsR (Conn (sg s)) s.length k : Nat) : Int)) = false := beq_eq_false_iff_ne.2 (by omega)
            have hN := lowsR_succ_not hl
            have HNN := Lib.hid hN
            have ht2 : (((nm (sg s) s.length k : Nat) : Int) == ((lows (sg s) s.length k : Nat) : Int)) = true := by rw [HSL.out hv]; simp
            have HV := Lib.hid (lows_succ_least hv)
            have ht3 : (((nm (sg (phiL s)) s.length k : Nat) : Int) == ((lows (sg (phiL s)) s.length k : Nat) : Int)) = false := beq_eq_false_iff_ne.2 (by have := HPN.out hf; omega)
            have HF := Lib.hid (lows_succ_not hf)
            have HLL := Lib.hid hl
            have HVV := Lib.hid hv
            have HFF := Lib.hid hf
            clear hN HSL HSN HPL HPN HNOT HLOW hl hv hf
            obtain ⟨g2, c2, hv2, hge2, hlt2, _, _, _⟩ := HOW.out.pos (by omega)
            injection hv2 with hA2 _ hc2
            subst hA2 hc2
            have HO2 : Hid (OwnF wr w1.heap.size (.slice (some ⟨g2, 0, none⟩) (lowsR (Conn (sg s)) s.length k) c) (lowsR (Conn (sg s)) s.length k) (prtN s k false)) := Lib.hid (HOW.out.congr (fun j c _ _ => by simp [prtN]))
            have HM2 := Lib.hid HM.out
            have HU2 := Lib.hid HU.out
            have HB2 := Lib.hid HBK.out
            have hws2 := hwr
            go_wp2_with (first
              | (go_at_call 11; refine (Vertex_calls HM2.out k hlt).mono ?_; rintro e w3 ⟨rfl, hm3, hu3, _⟩; have ho3 := HO2.out.upd hu3 (fun j hj e => (by have := HLT.out j e; omega)); have hb3 := HB2.out.upd hu3 (fun e => (by have := HLT.out g e; omega)); have hu3' := HU2.out.trans hu3; have hws3 := hu3'.size; obtain ⟨g3, c3, hv3, _, hg3l, hcs3, hfz3, hbt3⟩ := ho3.pos (by omega); injection hv3 with hv3 _ hc9; subst hc9; injection hv3 with hv3; injection hv3 with hv3 _; subst hv3; have hc1 := hcs3 (nmR (Conn (sg s)) s.length k) 1 hyn (by omega); rw [HA.out.1] at hc1; have hf1 := hfz3 (nmR (Conn (sg s)) s.length k * 5 + 1); have HO3 := Lib.hid (ho3.store (j := nmR (Conn (sg s)) s.length k) (k := 1) (by omega) ((a1 : Int) + 1)); have hu9 : Upd (fun j => j = g2) w3 (w3.setCell ⟨g2, nmR (Conn (sg s)) s.length k * 5 + 1, none⟩ (.int .i64 ((a1 : Int) + 1))) := Upd.setCell (S := fun j => j = g2) (p := ⟨g2, nmR (Conn (sg s)) s.length k * 5 + 1, none⟩) (Upd.refl _ _) (.inl rfl) _; have HM3 := Lib.hid (hm3.upd hu9 (fun j hj e => (by have := HLT.out j hj; omega)) (fun j e => (by obtain ⟨cs, hb⟩ := hbt3; exact ⟨_, cs, e ▸ hb, by decide⟩))); have HB3 := Lib.hid (hb3.upd hu9 (by show ¬ g = g2; omega)); have HU3 := Lib.hid (hu3'.setCell (p := ⟨g2, nmR (Conn (sg s)) s.length k * 5 + 1, none⟩) (.inr (by simp; omega)) (.int .i64 ((a1 : Int) + 1))); clear hm3 hu3 ho3 hb3 hu3' hcs3 hfz3 hbt3 hu9)
              | (go_at_call 15; refine (Face_calls HM3.out k hlt).mono ?_; rintro e w4 ⟨rfl, hm4, hu4, _⟩; have hws4 := HU3.out.size; have ho4 := HO3.out.upd hu4 (fun j hj e => (by have := HLT.out j e; omega)); have hb4 := HB3.out.upd hu4 (fun e => (by have := HLT.out g e; omega)); have hu4' := HU3.out.trans hu4; have hws5 := hu4'.size; obtain ⟨g3, c3, hv3, _, hg4l, hcs4, hfz4, hbt4⟩ := ho4.pos (by omega); injection hv3 with hv3 _ hc9; subst hc9; injection hv3 with hv3; injection hv3 with hv3 _; subst hv3; have hc2 := (hcs4 (nmR (Conn (sg s)) s.length k) 2 hyn (by omega)).trans (congrArg (fun z : Int => some (Value.int .i64 z)) (show (fun i l => if i = nmR (Conn (sg s)) s.length k ∧ l = 1 then (a1 : Int) + 1 else prtN s k false i l) (nmR (Conn (sg s)) s.length k) 2 = (a2 : Int) by simp [HA.out.2.1])); have hf2 := hfz4 (nmR (Conn (sg s)) s.length k * 5 + 2); have HO4 := Lib.hid ho4; have HM4 := Lib.hid hm4; have HB4 := Lib.hid hb4; have HU4 := Lib.hid hu4'; have HT4 := Lib.hid hbt4; clear hm4 hu4 ho4 hb4 hu4' hcs4 hfz4 hbt4))
            go_roundw
            case rel =>
              have ho5 := HO4.out
              have ho6 := ho5.store (j := nmR (Conn (sg s)) s.length k) (k := 2) (by omega) ((a2 : Int) + (k : Int) % 2)
              have hu9 : Upd (fun j => j = g2) w4 (w4.setCell ⟨g2, nmR (Conn (sg s)) s.length k * 5 + 2, none⟩ (.int .i64 ((a2 : Int) + (k : Int) % 2))) := Upd.setCell (S := fun j => j = g2) (p := ⟨g2, nmR (Conn (sg s)) s.length k * 5 + 2, none⟩) (Upd.refl _ _) (.inl rfl) _
              have hm9 := HM4.out.upd hu9 (fun j hj e => (by have := HLT.out j hj; omega)) (fun j e => (by obtain ⟨cs, hb⟩ := HT4.out; exact ⟨_, cs, e ▸ hb, by decide⟩))
              have hb9 := HB4.out.upd hu9 (by show ¬ g = g2; omega)
              have hw5 := HU4.out.size
              have hu99 := HU4.out.setCell (p := ⟨g2, nmR (Conn (sg s)) s.length k * 5 + 2, none⟩) (.inr (by simp; omega)) (.int .i64 ((a2 : Int) + (k : Int) % 2))
              have HST := HSTEP.out false true false (by simp [HLL.out]) (by simp [HVV.out]) (by simp [HFF.out])
              have hfin := fun j c (hj : j < (lowsR (Conn (sg s)) s.length k)) (hc : c < 5) => HST (fun j c => if j = nmR (Conn (sg s)) s.length k ∧ c = 2 then (a2 : Int) + ((k % 2 : Nat) : Int) else if false = true ∧ j = nmR (Conn (sg s)) s.length k ∧ c = 3 then (a3 : Int) + 1 else if true = true ∧ j = nmR (Conn (sg s)) s.length k ∧ c = 1 then (a1 : Int) + 1 else prtN s k false j c) (fun j c _ _ => fin_eq (prtN s k false) (nmR (Conn (sg s)) s.length k) a1 a2 a3 ((k % 2 : Nat) : Int) HA.out.1 HA.out.2.1 HA.out.2.2 true false j c) j c (by rw [HNN.out]; exact hj) hc
              exact ⟨k + 1, true, true, by omega, by rw [HV.out]; go_num, by rw [HF.out], by go_num, (by rw [HNN.out]; exact ho6.congr (fun j c hj hc => Eq.trans (by simp) (hfin j c hj hc))), hb9, hm9, hu99, fun _ => ⟨rfl, rfl⟩, fun _ => rfl, fun _ => rfl⟩
            case measure => simp [intOf]; omega
        · by_cases hf : isLeast (sg (phiL s)) s.length k
          · skip
            obtain ⟨a1, ha1, hA1⟩ := prtN_bounds (s := s) false (show k ≤ 131072 by omega) (nmR (Conn (sg s)) s.length k) 1 (.inl rfl)
            obtain ⟨a2, ha2, hA2⟩ := prtN_bounds (s := s) false (show k ≤ 131072 by omega) (nmR (Conn (sg s)) s.length k) 2 (.inr (.inl rfl))
            obtain ⟨a3, ha3, hA3⟩ := prtN_bounds (s := s) false (show k ≤ 131072 by omega) (nmR (Conn (sg s)) s.length k) 3 (.inr (.inr rfl))
            have HA := Lib.hid (And.intro hA1 (And.intro hA2 hA3))
            clear hA1 hA2 hA3
            have hyn : nmR (Conn (sg s)) s.length k < lowsR (Conn (sg s)) s.length k := HNOT.out hl
            have ht1 : (((nmR (Conn (sg s)) s.length k : Nat) : Int) == ((lowsR (Conn (sg s)) s.length k : Nat) : Int)) = false := beq_eq_false_iff_ne.2 (by omega)
            have hN := lowsR_succ_not hl
            have HNN := Lib.hid hN
            have ht2 : (((nm (sg s) s.length k : Nat) : Int) == ((lows (sg s) s.length k : Nat) : Int)) = false := beq_eq_false_iff_ne.2 (by have := HSN.out hv; omega)
            have HV := Lib.hid (lows_succ_not hv)
            have ht3 : (((nm (sg (phiL s)) s.length k : Nat) : Int) == ((lows (sg (phiL s)) s.length k : Nat) : Int)) = true := by rw [HPL.out hf]; simp
            have HF := Lib.hid (lows_succ_least hf)
            have HLL := Lib.hid hl
            have HVV := Lib.hid hv
            have HFF := Lib.hid hf
            clear hN HSL HSN HPL HPN HNOT HLOW hl hv hf
            obtain ⟨g2, c2, hv2, hge2, hlt2, _, _, _⟩ := HOW.out.pos (by omega)
            injection hv2 with hA2 _ hc2
            subst hA2 hc2
            have HO2 : Hid (OwnF wr w1.heap.size (.slice (some ⟨g2, 0, none⟩) (lowsR (Conn (sg s)) s.length k) c) (lowsR (Conn (sg s)) s.length k) (prtN s k false)) := Lib.hid (HOW.out.congr (fun j c _ _ => by simp [prtN]))
            have HM2 := Lib.hid HM.out
            have HU2 := Lib.hid HU.out
            have HB2 := Lib.hid HBK.out
            have hws2 := hwr
            go_wp2_with (first
              | (go_at_call 11; refine (Vertex_calls HM2.out k hlt).mono ?_; rintro e w3 ⟨rfl, hm3, hu3, _⟩; have ho3 := HO2.out.upd hu3 (fun j hj e => (by have := HLT.out j e; omega)); have hb3 := HB2.out.upd hu3 (fun e => (by have := HLT.out g e; omega)); have hu3' := HU2.out.trans hu3; have hws3 := hu3'.size; obtain ⟨g3, c3, hv3, _, hg3l, hcs3, hfz3, hbt3⟩ := ho3.pos (by omega); injection hv3 with hv3 _ hc9; subst hc9; injection hv3 with hv3; injection hv3 with hv3 _; subst hv3; have HO3 := Lib.hid ho3; have HM3 := Lib.hid hm3; have HB3 := Lib.hid hb3; have HU3 := Lib.hid hu3'; clear hm3 hu3 ho3 hb3 hu3' hcs3 hfz3 hbt3)
              | (go_at_call 15; refine (Face_calls HM3.out k hlt).mono ?_; rintro e w4 ⟨rfl, hm4, hu4, _⟩; have hws4 := HU3.out.size; have ho4 := HO3.out.upd hu4 (fun j hj e => (by have := HLT.out j e; omega)); have hb4 := HB3.out.upd hu4 (fun e => (by have := HLT.out g e; omega)); have hu4' := HU3.out.trans hu4; have hws5 := hu4'.size; obtain ⟨g3, c3, hv3, _, hg4l, hcs4, hfz4, hbt4⟩ := ho4.pos (by omega); injection hv3 with hv3 _ hc9; subst hc9; injection hv3 with hv3; injection hv3 with hv3 _; subst hv3; have hc2 := (hcs4 (nmR (Conn (sg s)) s.length k) 2 hyn (by omega)).trans (congrArg (fun z : Int => some (Value.int .i64 z)) (show (prtN s k false) (nmR (Conn (sg s)) s.length k) 2 = (a2 : Int) by simp [HA.out.2.1])); have hf2 := hfz4 (nmR (Conn (sg s)) s.length k * 5 + 2); have hc3 := (hcs4 (nmR (Conn (sg s)) s.length k) 3 hyn (by omega)).trans (congrArg (fun z : Int => some (Value.int .i64 z)) (show (prtN s k false) (nmR (Conn (sg s)) s.length k) 3 = (a3 : Int) by simp [HA.out.2.2])); have hf3 := hfz4 (nmR (Conn (sg s)) s.length k * 5 + 3); have HO4 := Lib.hid ho4; have HM4 := Lib.hid hm4; have HB4 := Lib.hid hb4; have HU4 := Lib.hid hu4'; have HT4 := Lib.hid hbt4; clear hm4 hu4 ho4 hb4 hu4' hcs4 hfz4 hbt4))
            go_roundw
            case rel =>
              have ho5 := HO4.out.store (j := nmR (Conn (sg s)) s.length k) (k := 3) (by omega) ((a3 : Int) + 1)
              have ho6 := ho5.store (j := nmR (Conn (sg s)) s.length k) (k := 2) (by omega) ((a2 : Int) + (k : Int) % 2)
              have hu9 : Upd (fun j => j = g2) w4 ((w4.setCell ⟨g2, nmR (Conn (sg s)) s.length k * 5 + 3, none⟩ (.int .i64 ((a3 : Int) + 1))).setCell ⟨g2, nmR (Conn (sg s)) s.length k * 5 + 2, none⟩ (.int .i64 ((a2 : Int) + (k : Int) % 2))) := Upd.setCell (S := fun j => j = g2) (p := ⟨g2, nmR (Conn (sg s)) s.length k * 5 + 2, none⟩) (Upd.setCell (S := fun j => j = g2) (p := ⟨g2, nmR (Conn (sg s)) s.length k * 5 + 3, none⟩) (Upd.refl _ _) (.inl rfl) _) (.inl rfl) _
              have hm9 := HM4.out.upd hu9 (fun j hj e => (by have := HLT.out j hj; omega)) (fun j e => (by obtain ⟨cs, hb⟩ := HT4.out; exact ⟨_, cs, e ▸ hb, by decide⟩))
              have hb9 := HB4.out.upd hu9 (by show ¬ g = g2; omega)
              have hw5 := HU4.out.size
              have hu99 := (HU4.out.setCell (p := ⟨g2, nmR (Conn (sg s)) s.length k * 5 + 3, none⟩) (.inr (by simp; omega)) (.int .i64 ((a3 : Int) + 1))).setCell (p := ⟨g2, nmR (Conn (sg s)) s.length k * 5 + 2, none⟩) (.inr (by simp; omega)) (.int .i64 ((a2 : Int) + (k : Int) % 2))
              have HST := HSTEP.out false false true (by simp [HLL.out]) (by simp [HVV.out]) (by simp [HFF.out])
              have hfin := fun j c (hj : j < (lowsR (Conn (sg s)) s.length k)) (hc : c < 5) => HST (fun j c => if j = nmR (Conn (sg s)) s.length k ∧ c = 2 then (a2 : Int) + ((k % 2 : Nat) : Int) else if true = true ∧ j = nmR (Conn (sg s)) s.length k ∧ c = 3 then (a3 : Int) + 1 else if false = true ∧ j = nmR (Conn (sg s)) s.length k ∧ c = 1 then (a1 : Int) + 1 else prtN s k false j c) (fun j c _ _ => fin_eq (prtN s k false) (nmR (Conn (sg s)) s.length k) a1 a2 a3 ((k % 2 : Nat) : Int) HA.out.1 HA.out.2.1 HA.out.2.2 false true j c) j c (by rw [HNN.out]; exact hj) hc
              exact ⟨k + 1, true, true, by omega, by rw [HV.out], by rw [HF.out]; go_num, by go_num, (by rw [HNN.out]; exact ho6.congr (fun j c hj hc => Eq.trans (by simp) (hfin j c hj hc))), hb9, hm9, hu99, fun _ => ⟨rfl, rfl⟩, fun _ => rfl, fun _ => rfl⟩
            case measure => simp [intOf]; omega
          · skip
            obtain ⟨a1, ha1, hA1⟩ := prtN_bounds (s := s) false (show k ≤ 131072 by omega) (nmR (Conn (sg s)) s.length k) 1 (.inl rfl)
            obtain ⟨a2, ha2, hA2⟩ := prtN_bounds (s := s) false (show k ≤ 131072 by omega) (nmR (Conn (sg s)) s.length k) 2 (.inr (.inl rfl))
            obtain ⟨a3, ha3, hA3⟩ := prtN_bounds (s := s) false (show k ≤ 131072 by omega) (nmR (Conn (sg s)) s.length k) 3 (.inr (.inr rfl))
            have HA := Lib.hid (And.intro hA1 (And.intro hA2 hA3))
            clear hA1 hA2 hA3
            have hyn : nmR (Conn (sg s)) s.length k < lowsR (Conn (sg s)) s.length k := HNOT.out hl
            have ht1 : (((nmR (Conn (sg s)) s.length k : Nat) : Int) == ((lowsR (Conn (sg s)) s.length k : Nat) : Int)) = false := beq_eq_false_iff_ne.2 (by omega)
            have hN := lowsR_succ_not hl
            have HNN := Lib.hid hN
            have ht2 : (((nm (sg s) s.length k : Nat) : Int) == ((lows (sg s) s.length k : Nat) : Int)) = false := beq_eq_false_iff_ne.2 (by have := HSN.out hv; omega)
            have HV := Lib.hid (lows_succ_not hv)
            have ht3 : (((nm (sg (phiL s)) s.length k : Nat) : Int) == ((lows (sg (phiL s)) s.length k : Nat) : Int)) = false := beq_eq_false_iff_ne.2 (by have := HPN.out hf; omega)
            have HF := Lib.hid (lows_succ_not hf)
            have HLL := Lib.hid hl
            have HVV := Lib.hid hv
            have HFF := Lib.hid hf
            clear hN HSL HSN HPL HPN HNOT HLOW hl hv hf
            obtain ⟨g2, c2, hv2, hge2, hlt2, _, _, _⟩ := HOW.out.pos (by omega)
            injection hv2 with hA2 _ hc2
            subst hA2 hc2
            have HO2 : Hid (OwnF wr w1.heap.size (.slice (some ⟨g2, 0, none⟩) (lowsR (Conn (sg s)) s.length k) c) (lowsR (Conn (sg s)) s.length k) (prtN s k false)) := Lib.hid (HOW.out.congr (fun j c _ _ => by simp [prtN]))
            have HM2 := Lib.hid HM.out
            have HU2 := Lib.hid HU.out
            have HB2 := Lib.hid HBK.out
            have hws2 := hwr
            go_wp2_with (first
              | (go_at_call 11; refine (Vertex_calls HM2.out k hlt).mono ?_; rintro e w3 ⟨rfl, hm3, hu3, _⟩; have ho3 := HO2.out.upd hu3 (fun j hj e => (by have := HLT.out j e; omega)); have hb3 := HB2.out.upd hu3 (fun e => (by have := HLT.out g e; omega)); have hu3' := HU2.out.trans hu3; have hws3 := hu3'.size; obtain ⟨g3, c3, hv3, _, hg3l, hcs3, hfz3, hbt3⟩ := ho3.pos (by omega); injection hv3 with hv3 _ hc9; subst hc9; injection hv3 with hv3; injection hv3 with hv3 _; subst hv3; have HO3 := Lib.hid ho3; have HM3 := Lib.hid hm3; have HB3 := Lib.hid hb3; have HU3 := Lib.hid hu3'; clear hm3 hu3 ho3 hb3 hu3' hcs3 hfz3 hbt3)
              | (go_at_call 15; refine (Face_calls HM3.out k hlt).mono ?_; rintro e w4 ⟨rfl, hm4, hu4, _⟩; have hws4 := HU3.out.size; have ho4 := HO3.out.upd hu4 (fun j hj e => (by have := HLT.out j e; omega)); have hb4 := HB3.out.upd hu4 (fun e => (by have := HLT.out g e; omega)); have hu4' := HU3.out.trans hu4; have hws5 := hu4'.size; obtain ⟨g3, c3, hv3, _, hg4l, hcs4, hfz4, hbt4⟩ := ho4.pos (by omega); injection hv3 with hv3 _ hc9; subst hc9; injection hv3 with hv3; injection hv3 with hv3 _; subst hv3; have hc2 := (hcs4 (nmR (Conn (sg s)) s.length k) 2 hyn (by omega)).trans (congrArg (fun z : Int => some (Value.int .i64 z)) (show (prtN s k false) (nmR (Conn (sg s)) s.length k) 2 = (a2 : Int) by simp [HA.out.2.1])); have hf2 := hfz4 (nmR (Conn (sg s)) s.length k * 5 + 2); have HO4 := Lib.hid ho4; have HM4 := Lib.hid hm4; have HB4 := Lib.hid hb4; have HU4 := Lib.hid hu4'; have HT4 := Lib.hid hbt4; clear hm4 hu4 ho4 hb4 hu4' hcs4 hfz4 hbt4))
            go_roundw
            case rel =>
              have ho5 := HO4.out
              have ho6 := ho5.store (j := nmR (Conn (sg s)) s.length k) (k := 2) (by omega) ((a2 : Int) + (k : Int) % 2)
              have hu9 : Upd (fun j => j = g2) w4 (w4.setCell ⟨g2, nmR (Conn (sg s)) s.length k * 5 + 2, none⟩ (.int .i64 ((a2 : Int) + (k : Int) % 2))) := Upd.setCell (S := fun j => j = g2) (p := ⟨g2, nmR (Conn (sg s)) s.length k * 5 + 2, none⟩) (Upd.refl _ _) (.inl rfl) _
              have hm9 := HM4.out.upd hu9 (fun j hj e => (by have := HLT.out j hj; omega)) (fun j e => (by obtain ⟨cs, hb⟩ := HT4.out; exact ⟨_, cs, e ▸ hb, by decide⟩))
              have hb9 := HB4.out.upd hu9 (by show ¬ g = g2; omega)
              have hw5 := HU4.out.size
              have hu99 := HU4.out.setCell (p := ⟨g2, nmR (Conn (sg s)) s.length k * 5 + 2, none⟩) (.inr (by simp; omega)) (.int .i64 ((a2 : Int) + (k : Int) % 2))
              have HST := HSTEP.out false false false (by simp [HLL.out]) (by simp [HVV.out]) (by simp [HFF.out])
              have hfin := fun j c (hj : j < (lowsR (Conn (sg s)) s.length k)) (hc : c < 5) => HST (fun j c => if j = nmR (Conn (sg s)) s.length k ∧ c = 2 then (a2 : Int) + ((k % 2 : Nat) : Int) else if false = true ∧ j = nmR (Conn (sg s)) s.length k ∧ c = 3 then (a3 : Int) + 1 else if false = true ∧ j = nmR (Conn (sg s)) s.length k ∧ c = 1 then (a1 : Int) + 1 else prtN s k false j c) (fun j c _ _ => fin_eq (prtN s k false) (nmR (Conn (sg s)) s.length k) a1 a2 a3 ((k % 2 : Nat) : Int) HA.out.1 HA.out.2.1 HA.out.2.2 false false j c) j c (by rw [HNN.out]; exact hj) hc
              exact ⟨k + 1, true, true, by omega, by rw [HV.out], by rw [HF.out], by go_num, (by rw [HNN.out]; exact ho6.congr (fun j c hj hc => Eq.trans (by simp) (hfin j c hj hc))), hb9, hm9, hu99, fun _ => ⟨rfl, rfl⟩, fun _ => rfl, fun _ => rfl⟩
            case measure => simp [intOf]; omega
    · obtain rfl : k = s.length := by omega
      have hcnt := cntR_le (R := Conn (sg s)) (n := s.length)
      obtain ⟨N, hN⟩ : ∃ N, N = lowsR (Conn (sg s)) s.length s.length := ⟨_, rfl⟩
      have HN := Lib.hid hN
      have HO1 : Hid (OwnF wr w1.heap.size (.slice A (lowsR (Conn (sg s)) s.length s.length) c) (lowsR (Conn (sg s)) s.length s.length) (prtG s 0)) := Lib.hid (HOW.out.congr (fun j c _ _ => by simp [prtG]))
      rw [← hN] at hll hcap HO1
      rw [← hN]
      have hll' : N ≤ 131072 := by omega
      clear hN HBK HOW
      go_wp2
      go_loopw [71] (fun i wr => ∃ j : Nat, j ≤ N ∧ i = .int .i64 j ∧ OwnF wr w1.heap.size (.slice A N c) N (prtG s j) ∧ MapAt wr M s root lone fs' ff' fb ∧ Upd M.set w1 wr) (fun i _ => N - (intOf i).toNat)
      case atStart => exact ⟨0, Nat.zero_le _, rfl, HO1.out, HM.out, HU.out⟩
      case round =>
        obtain ⟨j, hj, rfl, hown, hm, hup⟩ := hrel
        have HO2 := Lib.hid hown
        have HM2 := Lib.hid hm
        have HU2 := Lib.hid hup
        have hwr2 := hup.size
        clear hown hm hup HO1 HM HU
        by_cases hjl : j < N
        · obtain ⟨g2, c2, hv2, hge2, hlt2, hcs, hfz, hbt⟩ := HO2.out.pos (by omega)
          injection hv2 with hv2 _ hc2
          subst hv2 hc2
          have hb1 : prtG s j j 1 = (cvF (sg s) (sg s) s.length s.length j : Nat) := by simp [prtG, prtF]
          have hb2 : prtG s j j 2 = (ceF (sg s) s.length s.length j : Nat) := by simp [prtG, prtF]
          have hb3 : prtG s j j 3 = (cvF (sg s) (sg (phiL s)) s.length s.length j : Nat) := by simp [prtG, prtF]
          have l1 := cvF_le (f := sg s) (g := sg s) (n := s.length) s.length j
          have l2 := ceF_le (f := sg s) (n := s.length) s.length j
          have l3 := cvF_le (f := sg s) (g := sg (phiL s)) (n := s.length) s.length j
          have hc1 : wr.drew.cell? ⟨g2, j * 5 + 1, none⟩ = some (.int .i64 (cvF (sg s) (sg s) s.length s.length j : Nat)) := (hcs j 1 hjl (by omega)).trans (by rw [hb1])
          have hc2 : wr.drew.cell? ⟨g2, j * 5 + 2, none⟩ = some (.int .i64 (ceF (sg s) s.length s.length j : Nat)) := (hcs j 2 hjl (by omega)).trans (by rw [hb2])
          have hc3 : wr.drew.cell? ⟨g2, j * 5 + 3, none⟩ = some (.int .i64 (cvF (sg s) (sg (phiL s)) s.length s.length j : Nat)) := (hcs j 3 hjl (by omega)).trans (by rw [hb3])
          have hc4 : wr.drew.cell? ⟨g2, j * 5 + 4, none⟩ = some (.int .i64 (prtG s j j 4)) := hcs j 4 hjl (by omega)
          have hf4 : wr.drew.frozen? ⟨g2, j * 5 + 4, none⟩ = false := hfz _
          have hgen : genF s j = (2 - (cvF (sg s) (sg s) s.length s.length j : Int) + (ceF (sg s) s.length s.length j : Int) - (cvF (sg s) (sg (phiL s)) s.length s.length j : Int)).tdiv 2 := rfl
          have HG := Lib.hid hgen
          have HT := Lib.hid hbt
          clear hcs hfz hb1 hb2 hb3 hgen hbt
          generalize prtG s j j 4 = z4 at hc4
          generalize cvF (sg s) (sg s) s.length s.length j = a1 at hc1 l1 HG
          generalize ceF (sg s) s.length s.length j = a2 at hc2 l2 HG
          generalize cvF (sg s) (sg (phiL s)) s.length s.length j = a3 at hc3 l3 HG
          go_wp2
          go_region
          go_wp2
          go_roundw
          case rel =>
            have hty : ∀ k, k = g2 → ∃ t cs, Blk wr k t cs ∧ t ≠ 3 := fun k e => (by obtain ⟨cs, hb⟩ := HT.out; exact ⟨_, cs, e ▸ hb, by decide⟩)
            have hu9 : ∀ V, Upd (fun j => j = g2) wr (wr.drew.setCell ⟨g2, j * 5 + 4, none⟩ V) := fun V => Upd.setCell (S := fun j => j = g2) (p := ⟨g2, j * 5 + 4, none⟩) (Upd.refl _ _).drew (.inl rfl) _
            have ho0 : OwnF wr.drew w1.heap.size (.slice (some ⟨g2, 0, none⟩) N c) N (prtG s j) := HO2.out
            rw [← HG.out]
            have hu9 : Upd (fun j => j = g2) wr (wr.setCell ⟨g2, j * 5 + 4, none⟩ (.int .i64 (genF s j))).drew := (Upd.setCell (S := fun j => j = g2) (p := ⟨g2, j * 5 + 4, none⟩) (Upd.refl _ _) (.inl rfl) _).drew
            have ho9 : OwnF (wr.setCell ⟨g2, j * 5 + 4, none⟩ (.int .i64 (genF s j))).drew w1.heap.size (.slice (some ⟨g2, 0, none⟩) N c) N _ := HO2.out.store (j := j) (k := 4) (by omega) (genF s j)
            refine ⟨j + 1, by omega, by go_num, ho9.congr (fun i l hi hl => ?_), HM2.out.upd hu9 (fun k hk e => (by have := HLT.out k hk; omega)) hty, (HU2.out.setCell (p := ⟨g2, j * 5 + 4, none⟩) (.inr (by simp; omega)) _).drew⟩
            by_cases h4 : l = 4
            · subst h4
              by_cases h5 : i = j
              · subst h5; simp [prtG]
              · simp only [h5, false_and, if_false, prtG, true_and]
                by_cases h6 : i < j
                · rw [if_pos h6, if_pos (by omega)]
                · rw [if_neg h6, if_neg (by omega)]
            · simp [prtG, h4]
          case measure => simp [intOf]; omega
        · obtain rfl : N = j := by omega
          go_wp2_with (go_at_call 84; refine (Lone_calls HM2.out).mono ?_; rintro e w5 ⟨rfl, rfl⟩)
          have HO3 : Hid (OwnF wr w1.heap.size (.slice A N c) (N + 0) (prtL s)) := Lib.hid (HO2.out.congr (fun j c hj _ => by rw [prtL, if_pos (by rw [cntR, ← HN.out]; exact hj), cntR, ← HN.out]))
          obtain ⟨wo, rfl⟩ : ∃ wo : World, wo = wr := ⟨_, rfl⟩
          go_loopw [3, 99] (fun v i wr => ∃ j : Nat, j ≤ lone ∧ i = .int .i64 j ∧ OwnF wr w1.heap.size v (N + j) (prtL s) ∧ MapAt wr M s root lone fs' ff' fb ∧ Upd M.set w1 wr) (fun _ i _ => lone - (intOf i).toNat)
          case atStart => exact ⟨0, Nat.zero_le _, rfl, HO3.out, HM2.out, HU2.out⟩
          case round =>
            obtain ⟨j, hj, rfl, hown, hm, hup⟩ := hrel
            have HO4 := Lib.hid hown
            have HM4 := Lib.hid hm
            have HU4 := Lib.hid hup
            have hwr3 := hup.size
            clear hown hm hup HO3 HO2 HM2 HU2
            by_cases hjl : j < lone
            · go_wp2_with (at_builtin; refine app_part rfl (.tmp 101) (.tmp 103) rfl w1.heap.size _ (N + j) (prtL s) (-1) 1 0 1 0 rfl HO4.out rfl (by omega) hwr3 ?_; intro v' w2 hown2 hgr)
              have hu2 := upd_of_grown hgr
              have HO5 := Lib.hid hown2
              have HM5 := Lib.hid (HM4.out.upd hu2 (fun j hj e => (by have := HO4.out.ge j e; have := HLT.out j hj; omega)) (fun j e => (by obtain ⟨cs, hb⟩ := HO4.out.ty e; exact ⟨_, cs, hb, by decide⟩)))
              have HU5 := Lib.hid (HU4.out.grown hgr (fun j hj => .inr (HO4.out.ge j hj)))
              clear hown2 hgr hu2
              go_wp2
              go_roundw
              case rel =>
                refine ⟨j + 1, by omega, by go_num, HO5.out.congr (fun i l hi hl => ?_), HM5.out, HU5.out⟩
                simp only [prtL]
                rw [cntR, ← HN.out]
                by_cases h1 : i = N + j
                · rw [if_pos h1, if_neg (by omega)]
                · rw [if_neg h1]
              case measure => simp [intOf]; omega
            · obtain rfl : j = lone := by omega
              go_wp2
              go_ret
              refine ⟨_, fs', ff', rfl, ?_, HM4.out, ?_, HFL.out.1, HFL.out.2.1, HFL.out.2.2⟩
              · have h9 := HO4.out
                rw [HN.out] at h9
                exact h9.less hws1
              · exact (Upd.of_below HW1.out).trans HU4.out

end Go.Proofs.Ythakkchmegnlhaa
