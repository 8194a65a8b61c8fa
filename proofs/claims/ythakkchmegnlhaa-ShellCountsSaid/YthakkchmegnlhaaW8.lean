/- Walks over package dart: New. -/
import Derived.Test.YthakkchmegnlhaaW7
namespace Go.Proofs.Ythakkchmegnlhaa
open Go.RowKit Pq

theorem phi_set (s : List Nat) (k : Nat) (hk : k < s.length) :
    (((phiL s).take k).map (fun (x : Nat) => (x : Int)) ++ List.replicate (s.length - k) (0 : Int)).set k (sg s (mate k) : Nat) = ((phiL s).take (k + 1)).map (fun (x : Nat) => (x : Int)) ++ List.replicate (s.length - (k + 1)) (0 : Int) := by
  have hl : ((phiL s).take k).length = k := by rw [List.length_take, phiL_length]; omega
  rw [List.set_append_right _ _ (by rw [List.length_map, hl]; exact Nat.le_refl _), List.length_map, hl, Nat.sub_self]
  rw [show s.length - k = (s.length - (k + 1)) + 1 by omega, List.replicate_succ, List.set_cons_zero]
  have : (phiL s).take (k + 1) = (phiL s).take k ++ [sg s (mate k)] := by
    rw [List.take_add_one]
    congr 1
    rw [List.getElem?_eq_getElem (by rw [phiL_length]; exact hk)]
    simp only [Option.toList_some, List.cons.injEq, and_true]
    have := phiL_sg hk
    rw [sg, List.getD_eq_getElem?_getD, List.getElem?_eq_getElem (by rw [phiL_length]; exact hk)] at this
    exact this
  rw [this, List.map_append, List.append_assoc]
  rfl
def phiAt (s : List Nat) (k : Nat) : List Int := ((phiL s).take k).map (fun (x : Nat) => (x : Int)) ++ List.replicate (s.length - k) (0 : Int)
theorem phiAt_length (s : List Nat) (k : Nat) (hk : k ≤ s.length) : (phiAt s k).length = s.length := by
  simp [phiAt, phiL_length]; omega
theorem phiAt_zero (s : List Nat) : phiAt s 0 = List.replicate s.length 0 := by simp [phiAt]
theorem phiAt_all (s : List Nat) : phiAt s s.length = nl (phiL s) := by
  unfold phiAt nl
  rw [List.take_of_length_le (by rw [phiL_length]; exact Nat.le_refl _)]
  simp

set_option maxRecDepth 100000 in
set_option maxHeartbeats 2000000 in
theorem New_calls (A : Option Addr) (c B : Nat) (s : List Nat) (root : Int) (lone : Nat) (w : World) (hr : Rd w B A (nl s)) (hB : B ≤ w.heap.size) (hok : Okm s lone)
    (h0 : s.length = 0 → root = -1) (h1 : 0 < s.length → 0 ≤ root ∧ root < s.length) :
    Calls Try.prog 25 #[.slice A s.length c, .int .i64 root, .int .i64 lone] w fun e w' =>
      ∃ M : MR, (∀ k, M.set k → w.heap.size ≤ k) ∧ e = .returned (.tuple #[.pointer (some ⟨M.b, 0, none⟩), .int .i64 0]) ∧ MapAt w' M s root lone false false false ∧ Below w.heap.size w w' := by
  have hlen := hok.len
  have hev := hok.even
  have hfew := hok.few
  have HK := Lib.hid hok
  have HR := Lib.hid hr
  have e1 : ((((s.length : Nat) : Int) % 2) == 1) = false := by simp; omega
  have e2 : decide ((lone : Int) < 0) = false := by simp
  have e3 : decide ((65536 : Int) < (s.length : Int) / 2) = false := by simp; omega
  have e4 : decide ((65536 : Int) < (lone : Int)) = false := by simp; omega
  have e5 : decide (65536 < lone) = false := by simp; omega
  have HE := Lib.hid hev
  clear hok hr hev
  have hf : ((((s.length : Nat) : Int) == 0) = true ∧ root = -1 ∧ decide (0 < s.length) = false) ∨
      ((((s.length : Nat) : Int) == 0) = false ∧ decide (0 < s.length) = true ∧ decide (root < 0) = false ∧ decide (((s.length : Nat) : Int) ≤ root) = false) := by
    rcases Nat.eq_zero_or_pos s.length with hz | hz
    · exact .inl ⟨beq_iff_eq.2 (by omega), h0 hz, decide_eq_false (by omega)⟩
    · obtain ⟨hr0, hr1⟩ := h1 hz
      exact .inr ⟨beq_eq_false_iff_ne.2 (by omega), decide_eq_true (by omega), decide_eq_false (by omega), decide_eq_false (by omega)⟩
  rcases hf with ⟨f1, rfl, f2⟩ | ⟨f1, f2, f3, f4⟩
  all_goals
    clear h0 h1
    go_enter Try.func25, Try.ntmps25
    go_wp2_with (first
      | (go_at_call 45; refine (Of_calls A c B s _ HR.out hB HK.out.pm (by omega)).mono ?_; rintro e w1 ⟨p, hp, rfl, hpa, hb1⟩; have HP := Lib.hid hpa; have HB1 := Lib.hid hb1; clear hpa hb1)
      | (at_make; refine make_int rfl (.tmp 62) (.tmp 62) rfl s.length rfl rfl (by omega) ?_; intro w2 hB2 hg2; have HB2 := Lib.hid hB2; have HG2 := Lib.hid hg2; clear hB2 hg2))
    have hsz1 := HB1.out.size
    have hb12 : Below w1.heap.size w1 w2 := (Below.refl _ _).grown HG2.out (Nat.le_refl _) (by simp)
    have hb02 : Below w.heap.size w w2 := HB1.out.trans (hb12.mono hsz1)
    have H02 := Lib.hid hb02
    have H12 := Lib.hid hb12
    clear hb12 hb02 HB1 HG2
    go_loopw [66] (fun i wr => ∃ k : Nat, k ≤ s.length ∧ i = .int .i64 k ∧ Blk wr w1.heap.size 3 (ivs (phiAt s k)) ∧ Below w1.heap.size w2 wr) (fun i _ => s.length - (intOf i).toNat)
    case atStart => exact ⟨0, Nat.zero_le _, rfl, by rw [phiAt_zero]; exact HB2.out, Below.refl _ _⟩
    case round =>
      obtain ⟨k, hk, rfl, hblk, hbw⟩ := hrel
      have HBK := Lib.hid hblk
      have HBW := Lib.hid hbw
      clear hblk hbw HB2
      by_cases hlt : k < s.length
      · obtain ⟨b, off, rfl, hb, hc⟩ := HR.out.nat hlt
        have hml := mate_lt HE.out hlt
        have hx := xor_one k (by omega)
        have hcm : wr.cell? ⟨b, off + mate k, none⟩ = some (.int .i64 (sg s (mate k))) := by rw [HBW.out.cell (by simp; omega), H02.out.cell (by simp; omega)]; exact hc _ hml
        have hcg : wr.cell? ⟨w1.heap.size, k, none⟩ = some (.int .i64 ((phiAt s k).getD k 0)) := by rw [HBK.out.cell, ivs_get _ _ (by rw [phiAt_length _ _ hk]; exact hlt)]
        have hfg : wr.frozen? ⟨w1.heap.size, k, none⟩ = false := HBK.out.frozen _
        have hst := phi_set s k hlt
        have HST := Lib.hid hst
        clear hc hst
        generalize (phiAt s k).getD k 0 = y at hcg
        generalize mate k = m at hml hx hcm HST
        go_wp2
        go_roundw
        case rel =>
          refine ⟨k + 1, by omega, by go_num, ?_, HBW.out.setCell (by simp) _⟩
          have h9 := HBK.out.set_ k (.int .i64 ((sg s m : Nat) : Int))
          rw [ivs_set] at h9
          rw [phiAt, ← HST.out]
          exact h9
        case measure => simp [intOf]; omega
      · obtain rfl : k = s.length := by omega
        have hbk := HBK.out
        rw [phiAt_all] at hbk
        have hg1 := hbk.lt
        have hof := Of_calls (some ⟨w1.heap.size, 0, none⟩) s.length wr.heap.size (phiL s) wr (hbk.rd hg1) (Nat.le_refl _) HK.out.phi (by rw [phiL_length]; omega)
        rw [phiL_length] at hof
        have HOF := Lib.hid hof
        have hws := HBW.out.size
        have h02s := H02.out.size
        clear hof hbk
        go_wp2_with (go_at_call 45; refine HOF.out.mono ?_; rintro e w4 ⟨p2, hp2, rfl, hpa, hb4⟩; have HP4 := Lib.hid hpa; have HB4 := Lib.hid hb4; clear hpa hb4)
        have hb4s := HB4.out.size
        go_ret2
        have hpl := HP.out.lt
        have hb1r : Below w1.heap.size w1 wr := H12.out.trans HBW.out
        have hs1r := hb1r.size
        have hb14 : Below w1.heap.size w1 w4 := hb1r.trans (HB4.out.mono hs1r)
        refine ⟨⟨w4.heap.size, p, p2⟩, ?_, rfl, ⟨HK.out, ?_, 0, .slice none 0 0, .slice none 0 0, 0, .slice none 0 0, .slice none 0 0, Blk.new _ _ _, (HP.out.below hb14).below ((Below.refl _ _).alloc (Nat.le_refl _) _), HP4.out.below ((Below.refl _ _).alloc (Nat.le_refl _) _), ⟨fun _ => ⟨rfl, rfl, rfl⟩, fun e => (by cases e)⟩, ⟨fun _ => ⟨rfl, rfl, rfl⟩, fun e => (by cases e)⟩⟩, ?_⟩
        · rintro k (rfl | rfl | rfl) <;> (try simp only) <;> omega
        · show p ≠ p2
          omega
        · exact ((H02.out.trans (HBW.out.mono (by omega))).trans (HB4.out.mono (by omega))).alloc (by omega) _

end Go.Proofs.Ythakkchmegnlhaa
