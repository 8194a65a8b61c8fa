/- Walks over package euler: Genus, Connected, Planar, Loops. -/
import Derived.Test.YthakkchmegnlhaaW10
namespace Go.Proofs.Ythakkchmegnlhaa
open Go.RowKit Pq

/-- What a question to a map may turn: its own names come to be told. -/
def Told (w w' : World) (M : MR) (s : List Nat) (root : Int) (lone : Nat) (fs ff fb : Bool) : Prop :=
  ∃ fs' ff', MapAt w' M s root lone fs' ff' fb ∧ Upd M.set w w' ∧ (0 < s.length → fs' = true ∧ ff' = true) ∧ (fs = true → fs' = true) ∧ (ff = true → ff' = true)

/-- The sum of the first k. -/
def gsum (F : Nat → Int) : Nat → Int
  | 0 => 0
  | k + 1 => gsum F k + F k
noncomputable def genusOf (s : List Nat) (lone : Nat) : Int := gsum (fun j => prtL s j 4) (cntR (Conn (sg s)) s.length + lone)
theorem genF_bound {s : List Nat} (h : s.length ≤ 131072) (j : Nat) : -200000 ≤ genF s j ∧ genF s j ≤ 200000 := by
  have l1 := cvF_le (f := sg s) (g := sg s) (n := s.length) s.length j
  have l2 := ceF_le (f := sg s) (n := s.length) s.length j
  have l3 := cvF_le (f := sg s) (g := sg (phiL s)) (n := s.length) s.length j
  have : genF s j = (2 - (cvF (sg s) (sg s) s.length s.length j : Int) + (ceF (sg s) s.length s.length j : Int) - (cvF (sg s) (sg (phiL s)) s.length s.length j : Int)).tdiv 2 := rfl
  rw [this]
  generalize hx : 2 - (cvF (sg s) (sg s) s.length s.length j : Int) + (ceF (sg s) s.length s.length j : Int) - (cvF (sg s) (sg (phiL s)) s.length s.length j : Int) = x
  rcases Int.le_total 0 x with h0 | h0
  · rw [Int.tdiv_eq_ediv_of_nonneg h0]; omega
  · rw [show x = -(-x) by omega, Int.neg_tdiv, Int.tdiv_eq_ediv_of_nonneg (by omega)]; omega
theorem prtL_bound {s : List Nat} (h : s.length ≤ 131072) (j : Nat) : -200000 ≤ prtL s j 4 ∧ prtL s j 4 ≤ 200000 := by
  unfold prtL
  split
  · unfold prtG
    split
    · exact genF_bound h j
    · simp [prtF]
  · simp
theorem gsum_bound {s : List Nat} (h : s.length ≤ 131072) (k : Nat) : -200000 * (k : Int) ≤ gsum (fun j => prtL s j 4) k ∧ gsum (fun j => prtL s j 4) k ≤ 200000 * (k : Int) := by
  induction k with
  | zero => simp [gsum]
  | succ k ih =>
    have := prtL_bound h k
    simp only [gsum]
    omega

section
variable {w : World} {M : MR} {s : List Nat} {root : Int} {lone : Nat} {fs ff fb : Bool}

theorem Connected_calls (h : MapAt w M s root lone fs ff fb) :
    Calls Try.prog 62 #[.pointer (some ⟨M.b, 0, none⟩)] w fun e w' => e = .returned (.bool (decide (((cntR (Conn (sg s)) s.length + lone : Nat) : Int) = 1))) ∧ Told w w' M s root lone fs ff fb := by
  have H := Lib.hid h
  clear h
  go_enter Try.func62, Try.ntmps62
  go_wp2_with (go_at_call 74; refine (Parts_calls H.out).mono ?_; rintro e w1 ⟨v, fs', ff', rfl, hown, hm, hu, h1, h2, h3⟩; obtain ⟨A, c, rfl, _, _⟩ := hown.form; have HT : Hid (Told w w1 M s root lone fs ff fb) := Lib.hid ⟨fs', ff', hm, hu, h1, h2, h3⟩; obtain ⟨N, hN⟩ : ∃ N, N = cntR (Conn (sg s)) s.length + lone := ⟨_, rfl⟩; rw [← hN]; have HN := Lib.hid hN; clear hown hm hu h1 h2 h3 hN)
  go_ret
  exact ⟨ret_bool (by rw [← HN.out, Bool.eq_iff_iff]; simp), HT.out⟩

set_option maxRecDepth 100000 in
set_option maxHeartbeats 1000000 in
theorem Genus_calls (h : MapAt w M s root lone fs ff fb) :
    Calls Try.prog 75 #[.pointer (some ⟨M.b, 0, none⟩)] w fun e w' => e = .returned (.int .i64 (genusOf s lone)) ∧ Told w w' M s root lone fs ff fb := by
  have hlen := h.ok.len
  have hfew := h.ok.few
  have hcn := cntR_le (R := Conn (sg s)) (n := s.length)
  have HLT := Lib.hid h.lt
  have H := Lib.hid h
  clear h
  go_enter Try.func75, Try.ntmps75
  go_wp2_with (go_at_call 74; refine (Parts_calls H.out).mono ?_; rintro e w1 ⟨v, fs', ff', rfl, hown, hm, hu, h1, h2, h3⟩; obtain ⟨A, c, rfl, _, _⟩ := hown.form; have HM := Lib.hid hm; have HU := Lib.hid hu; have HF := Lib.hid (And.intro h1 (And.intro h2 h3)); obtain ⟨N, hN⟩ : ∃ N, N = cntR (Conn (sg s)) s.length + lone := ⟨_, rfl⟩; rw [← hN] at hown ⊢; have hNl : N ≤ 196608 := (by omega); have HO := Lib.hid hown; have HN := Lib.hid hN; clear hown hm hu h1 h2 h3 hN)
  clear hcn
  go_loopw [3, 9] (fun g i wr => ∃ k : Nat, k ≤ N ∧ i = .int .i64 k ∧ g = .int .i64 (gsum (fun j => prtL s j 4) k) ∧ Below w1.heap.size w1 wr) (fun _ i _ => N - (intOf i).toNat)
  case atStart => exact ⟨0, Nat.zero_le _, rfl, rfl, Below.refl _ _⟩
  case round =>
    obtain ⟨k, hk, rfl, rfl, hbw⟩ := hrel
    have HB := Lib.hid hbw
    have hws := hbw.size
    clear hbw
    by_cases hlt : k < N
    · obtain ⟨g2, c2, hv2, hge2, hlt2, hcs, _, _⟩ := HO.out.pos (by omega)
      injection hv2 with hv2 _ hc9
      subst hv2 hc9
      have hcw : ∀ c, c < 5 → wr.cell? ⟨g2, k * 5 + c, none⟩ = some (.int .i64 (prtL s k c)) := fun c hc => (HB.out.cell (by simp; omega)).trans (hcs k c hlt hc)
      have c0 : wr.cell? ⟨g2, k * 5, none⟩ = some (.int .i64 (prtL s k 0)) := hcw 0 (by omega)
      have c1 := hcw 1 (by omega)
      have c2 := hcw 2 (by omega)
      have c3 := hcw 3 (by omega)
      have c4 := hcw 4 (by omega)
      have hb1 := gsum_bound hlen k
      have hb2 := prtL_bound hlen k
      have hst : gsum (fun j => prtL s j 4) k + prtL s k 4 = gsum (fun j => prtL s j 4) (k + 1) := rfl
      have HS := Lib.hid hst
      clear hcs hcw hst
      generalize prtL s k 0 = p0 at c0
      generalize prtL s k 1 = p1 at c1
      generalize prtL s k 2 = p2 at c2
      generalize prtL s k 3 = p3 at c3
      generalize prtL s k 4 = p4 at c4 hb2 HS
      generalize gsum (fun j => prtL s j 4) k = G at hb1 HS ⊢
      go_wp2
      go_roundw
      case rel => exact ⟨k + 1, by omega, by go_num, by rw [HS.out], HB.out.alloc (by omega) _⟩
      case measure => simp [intOf]; omega
    · obtain rfl : N = k := by omega
      go_wp2
      go_ret
      refine ⟨ret_int (by rw [genusOf, ← HN.out]), fs', ff', HM.out.below HB.out, HU.out.trans (Upd.of_below HB.out), HF.out.1, HF.out.2.1, HF.out.2.2⟩

theorem Planar_calls (h : MapAt w M s root lone fs ff fb) :
    Calls Try.prog 63 #[.pointer (some ⟨M.b, 0, none⟩)] w fun e w' => e = .returned (.bool (decide (genusOf s lone = 0))) ∧ Told w w' M s root lone fs ff fb := by
  have H := Lib.hid h
  clear h
  go_enter Try.func63, Try.ntmps63
  go_wp2_with (go_at_call 75; refine (Genus_calls H.out).mono ?_; rintro e w1 ⟨rfl, hT⟩; have HT := Lib.hid hT; clear hT; obtain ⟨G, hG⟩ : ∃ G, G = genusOf s lone := ⟨_, rfl⟩; rw [← hG]; have HG := Lib.hid hG; clear hG)
  go_ret
  exact ⟨ret_bool (by rw [← HG.out, Bool.eq_iff_iff]; simp), HT.out⟩

/-- How many of the first k edges are loops. -/
noncomputable def loopsN (s : List Nat) (k : Nat) : Nat := ((List.range k).filter fun e => nm (sg s) s.length (2 * e) == nm (sg s) s.length (2 * e + 1)).length
theorem loopsN_succ (s : List Nat) (k : Nat) : loopsN s (k + 1) = loopsN s k + if nm (sg s) s.length (2 * k) = nm (sg s) s.length (2 * k + 1) then 1 else 0 := by
  unfold loopsN
  rw [List.range_succ, List.filter_append, List.length_append]
  congr 1
  by_cases h : nm (sg s) s.length (2 * k) = nm (sg s) s.length (2 * k + 1) <;> simp [h]
theorem loopsN_le (s : List Nat) (k : Nat) : loopsN s k ≤ k := by
  unfold loopsN
  exact Nat.le_trans (List.length_filter_le _ _) (by simp)

set_option maxHeartbeats 1000000 in
theorem Loops_warm (h : MapAt w M s root lone true ff fb) :
    Calls Try.prog 76 #[.pointer (some ⟨M.b, 0, none⟩)] w fun e w' => e = .returned (.int .i64 (loopsN s (s.length / 2))) ∧ w = w' := by
  have hlen := h.ok.len
  have H := Lib.hid h
  clear h
  go_enter Try.func76, Try.ntmps76
  go_wp2_with (go_at_call 85; refine (Edges_calls H.out).mono ?_; rintro e w1 ⟨rfl, rfl⟩; obtain ⟨E, hE⟩ : ∃ E, E = s.length / 2 := ⟨_, rfl⟩; rw [← hE]; have hEl : 2 * E ≤ s.length := (by omega); have HE := Lib.hid hE; clear hE)
  go_loop [3, 7] (fun n i => ∃ k : Nat, k ≤ E ∧ i = .int .i64 k ∧ n = .int .i64 (loopsN s k)) (fun _ i => E - (intOf i).toNat)
  case atStart => exact ⟨0, Nat.zero_le _, rfl, rfl⟩
  case round =>
    obtain ⟨k, hk, rfl, rfl⟩ := hrel
    have hll := loopsN_le s k
    by_cases hlt : k < E
    · have hs := loopsN_succ s k
      have HS := Lib.hid hs
      have c1 := Vertex_warm H.out (2 * k) (by omega)
      have c2 := Vertex_warm H.out (2 * k + 1) (by omega)
      rw [show ((2 * k : Nat) : Int) = 2 * (k : Int) from by omega] at c1
      rw [show ((2 * k + 1 : Nat) : Int) = 2 * (k : Int) + 1 from by omega] at c2
      have C1 := Lib.hid c1
      have C2 := Lib.hid c2
      clear hs c1 c2
      by_cases he : nm (sg s) s.length (2 * k) = nm (sg s) s.length (2 * k + 1)
      · have ht : (((nm (sg s) s.length (2 * k) : Nat) : Int) == ((nm (sg s) s.length (2 * k + 1) : Nat) : Int)) = true := by rw [he]; simp
        have hq : loopsN s (k + 1) = loopsN s k + 1 := by rw [HS.out, if_pos he]
        have HQ := Lib.hid hq
        clear he hq
        go_wp2_with fail
        refine C1.out.mono ?_
        rintro e w1 ⟨rfl, rfl⟩
        go_wp2_with fail
        refine C2.out.mono ?_
        rintro e w1 ⟨rfl, rfl⟩
        go_wp2
        go_round
        case rel => exact ⟨k + 1, by omega, by go_num, by rw [HQ.out]; go_num⟩
        case measure => simp [intOf]; omega
      · have ht : (((nm (sg s) s.length (2 * k) : Nat) : Int) == ((nm (sg s) s.length (2 * k + 1) : Nat) : Int)) = false := beq_eq_false_iff_ne.2 (by omega)
        have hq : loopsN s (k + 1) = loopsN s k := by rw [HS.out, if_neg he]; rfl
        have HQ := Lib.hid hq
        clear he hq
        go_wp2_with fail
        refine C1.out.mono ?_
        rintro e w1 ⟨rfl, rfl⟩
        go_wp2_with fail
        refine C2.out.mono ?_
        rintro e w1 ⟨rfl, rfl⟩
        go_wp2
        go_round
        case rel => exact ⟨k + 1, by omega, by go_num, by rw [HQ.out]⟩
        case measure => simp [intOf]; omega
    · obtain rfl : E = k := by omega
      go_wp2
      go_ret
      exact ⟨ret_int (by rw [HE.out]), rfl⟩
end
end Go.Proofs.Ythakkchmegnlhaa
