/- The library's functions on slices of numbers, in this claim's words: Contains, Index, Min, Equal, Clone, Reverse, Repeat. -/
import Derived.Test.YthakkchmegnlhaaA2
import Derived.Test.YthakkchmegnlhaaShelf
import Derived.Laws.CopyOwn
namespace Go.Proofs.Ythakkchmegnlhaa
open Go.RowKit Go.Lib

theorem Contains_calls (w : World) (B : Nat) (A : Option Addr) (c : Nat) (xs : List Int) (x : Int) (h : Rd w B A xs) (hn : xs.length < 1099511627776) :
    Calls Try.prog 12 #[.slice A xs.length c, .int .i64 x] w fun e w' => e = .returned (.bool (xs.contains x)) ∧ w = w' := by
  rcases h with rfl | ⟨b, off, rfl, _, hc⟩
  · exact (Try.slices_Contains_int_empty A c x w).mono fun e w' ⟨h1, h2⟩ => ⟨h1, h2.symm⟩
  · exact (Try.slices_Contains_int b off xs.length c xs x w (Nat.le_refl _) (by omega) hc).mono fun e w' ⟨h1, h2⟩ => ⟨by rw [h1, List.take_length], h2.symm⟩

theorem Min_calls (w : World) (B : Nat) (A : Option Addr) (c : Nat) (xs : List Int) (h : Rd w B A xs) (h0 : 0 < xs.length) (hn : xs.length < 1099511627776) :
    Calls Try.prog 14 #[.slice A xs.length c] w fun e w' => e = .returned (.int .i64 (Lib.minOf xs)) ∧ w = w' := by
  obtain ⟨b, off, rfl, _, hc⟩ := h.at_ h0
  exact (Try.slices_Min_int b off xs.length c xs w h0 (Nat.le_refl _) (by omega) hc).mono fun e w' ⟨h1, h2⟩ => ⟨by rw [h1, List.take_length], h2.symm⟩

theorem Equal_calls (w : World) (B B' : Nat) (A A' : Option Addr) (c c' : Nat) (xs ys : List Int) (h : Rd w B A xs) (h' : Rd w B' A' ys) (hn : xs.length < 1099511627776) (hn' : ys.length < 1099511627776) :
    Calls Try.prog 21 #[.slice A xs.length c, .slice A' ys.length c'] w fun e w' => e = .returned (.bool (xs == ys)) ∧ ∃ q, w' = w.drewN q := by
  by_cases hl : xs.length = ys.length
  · rcases h with rfl | ⟨b, off, rfl, _, hc⟩
    · obtain rfl : ys = [] := List.eq_nil_of_length_eq_zero hl.symm
      exact (Try.slices_Equal_int_empty A A' c 0 c' w (by omega)).mono fun e w' ⟨h1, h2⟩ => ⟨by rw [h1]; rfl, 0, h2⟩
    · rcases h' with rfl | ⟨b', off', rfl, _, hc'⟩
      · obtain rfl : xs = [] := List.eq_nil_of_length_eq_zero hl
        exact (Try.slices_Equal_int_empty (some ⟨b, off, none⟩) A' c 0 c' w (by omega)).mono fun e w' ⟨h1, h2⟩ => ⟨by rw [h1]; rfl, 0, h2⟩
      · exact (Try.slices_Equal_int b off xs.length c b' off' ys.length c' xs ys w (Nat.le_refl _) (Nat.le_refl _) (by omega) (by omega) hc hc').mono fun e w' ⟨h1, h2⟩ => ⟨by rw [h1, List.take_length, List.take_length], h2⟩
  · refine (Try.slices_Equal_int_lens A A' xs.length c ys.length c' w hl).mono fun e w' ⟨h1, h2⟩ => ⟨?_, 0, h2⟩
    rw [h1, show (xs == ys) = false from beq_eq_false_iff_ne.2 (fun e => hl (by rw [e]))]

theorem Clone_calls (w : World) (B : Nat) (A : Option Addr) (c : Nat) (xs : List Int) (h : Rd w B A xs) (hn : xs.length < 1099511627776) :
    Calls Try.prog 17 #[.slice A xs.length c] w fun e w' => ∃ v, e = .returned v ∧ Own w' w.heap.size 3 v xs ∧ Below w.heap.size w w' := by
  rcases h with rfl | ⟨b, off, rfl, _, hc⟩
  · cases A with
    | none => exact (Try.slices_Clone_int_nil 0 c w).mono fun e w' ⟨h1, h2⟩ => ⟨_, h1, Own.nil _ _ _, by rw [h2]; exact Below.refl _ _⟩
    | some a => exact (Try.slices_Clone_int_zero a c w).mono fun e w' ⟨v, h1, h2, _, h3⟩ => ⟨v, h1, h2, h3⟩
  · exact (Try.slices_Clone_int b off xs.length c xs w (Nat.le_refl _) (by omega) hc).mono fun e w' ⟨v, h1, h2, _, h3⟩ => ⟨v, h1, by rw [List.take_length] at h2; exact h2, h3⟩

/-- What Repeat has filled so far. -/
def fil (n m : Nat) (y : Int) : List Value := List.replicate m (.int .i64 y) ++ List.replicate (n - m) (.int .i64 0)

theorem fil_length (n m : Nat) (y : Int) (h : m ≤ n) : (fil n m y).length = n := by simp [fil]; omega
theorem fil_zero (n : Nat) (y : Int) : (fil n 0 y).toArray = ivs (List.replicate n 0) := by simp [fil, ivs]
theorem fil_all (n : Nat) (y : Int) : (fil n n y).toArray = ivs (List.replicate n y) := by simp [fil, ivs]
theorem fil_step (n m k : Nat) (y : Int) (h : m + k ≤ n) : splice (fil n m y) m (List.replicate k (.int .i64 y)) = fil n (m + k) y := by
  unfold splice fil
  rw [List.take_append_of_le_length (by simp), List.take_of_length_le (by simp), List.length_replicate, List.drop_append, List.drop_eq_nil_of_le (by simp), List.nil_append, List.length_replicate,
    List.drop_replicate, ← List.append_assoc, List.replicate_append_replicate]
  congr 2
  omega
theorem fil_get (n m : Nat) (y : Int) (j : Nat) (h : j < m) : (fil n m y)[j]? = some (.int .i64 y) := by
  rw [fil, List.getElem?_append_left (by simp; exact h)]
  simp [h]

theorem rep_start {w w1 : World} {b off n : Nat} {y : Int} (hB1 : Blk w1 w.heap.size 3 (ivs (List.replicate n 0))) (hg1 : w.grownBy w1 none) (hb : b < w.heap.size) (hx : w.cell? ⟨b, off, none⟩ = some (.int .i64 y)) :
    w1.heap[w.heap.size]? = some (.cells (fil n 0 y).toArray 3 (0, 0)) ∧ Below w.heap.size w w1 ∧ w1.cell? ⟨b, off, none⟩ = some (.int .i64 y) := by
  rw [← fil_zero n y] at hB1
  have hb1 : Below w.heap.size w w1 := (Below.refl _ _).grown hg1 (Nat.le_refl _) (by simp)
  exact ⟨hB1, hb1, by rw [hb1.cell hb]; exact hx⟩

set_option maxRecDepth 100000 in
set_option maxHeartbeats 1000000 in
theorem Repeat_calls (w : World) (b off n : Nat) (y : Int) (hx : w.cell? ⟨b, off, none⟩ = some (.int .i64 y)) (hb : b < w.heap.size) (hn : n < 1099511627776) :
    Calls Try.prog 35 #[.slice (some ⟨b, off, none⟩) 1 1, .int .i64 n] w fun e w' =>
      e = .returned (.slice (some ⟨w.heap.size, 0, none⟩) n n) ∧ Blk w' w.heap.size 3 (ivs (List.replicate n y)) ∧ Below w.heap.size w w' := by
  have hd : decide ((n : Int) < 0) = false := by simp
  have hm : (1 * n / 18446744073709551616 : Nat) = 0 := by rw [Nat.one_mul]; exact Nat.div_eq_of_lt (by omega)
  have hm2 : (1 * n % 18446744073709551616 : Nat) = n := by rw [Nat.one_mul]; exact Nat.mod_eq_of_lt (by omega)
  have hmul : ∀ W : World, Calls Try.prog 57 #[.int .u64 1, .int .u64 n] W fun e w' => e = .returned (.tuple #[.int .u64 0, .int .u64 n]) ∧ W = w' := fun W =>
    (Try.bits_Mul 1 n (by omega) (by omega) W).mono fun e w' ⟨h1, h2⟩ => ⟨by rw [h1, hm, hm2]; rfl, h2.symm⟩
  have HM := Lib.hid hmul
  have hle : decide ((9223372036854775807 : Int) < n) = false := by simp; omega
  clear hm hm2 hmul
  go_enter Try.func35, Try.ntmps35
  go_wp2_with (first
    | (go_at_call 57; refine (HM.out _).mono ?_; rintro e w' ⟨rfl, rfl⟩)
    | (at_make; refine make_int rfl (.tmp 29) (.tmp 29) rfl n rfl rfl hn ?_; intro w1 hB1 hg1; have HR := Lib.hid (rep_start (y := y) hB1 hg1 hb hx); clear hB1 hg1)
    | (with_reducible refine wpList_copy_splice rfl (.tmp 31) (.tmp 32) 24 24 rfl 3 Try.underlying24 (by kernel_rfl) (some ⟨w.heap.size, 0, none⟩) (some ⟨b, off, none⟩) n n 1 1 rfl rfl w.heap.size 0 (fil n 0 y) 3 HR.out.1 (List.replicate (Nat.min 1 n) (.int .i64 y)) ?h1 ?h2 ?h3 ?h4 w.heap.size w HR.out.2.1 (Nat.le_refl _) ?h5))
  case h1 => simp
  case h2 =>
    intro _ j v hj
    rw [List.getElem?_replicate] at hj
    split at hj
    · obtain rfl : j = 0 := by have : Nat.min 1 n ≤ 1 := Nat.min_le_left _ _; omega
      cases hj
      exact HR.out.2.2
    · cases hj
  case h3 =>
    rw [fil_length _ _ _ (Nat.zero_le _)]
    have : Nat.min 1 n ≤ n := Nat.min_le_right _ _
    simp; exact this
  case h4 =>
    intro v hv
    rw [List.mem_replicate] at hv
    rw [hv.2]; rfl
  case h5 =>
    intro w2 hg2 hb2
    rw [fil_step n 0 (Nat.min 1 n) y (by have : Nat.min 1 n ≤ n := Nat.min_le_right _ _; omega)] at hg2
    have hk1 : Nat.min 1 n ≤ n := Nat.min_le_right _ _
    have hk2 : n = 0 ∨ 0 < Nat.min 1 n := by
      rcases Nat.eq_zero_or_pos n with h | h
      · exact .inl h
      · exact .inr (Nat.lt_min.2 ⟨by omega, h⟩)
    try simp only [List.length_replicate]
    rw [Nat.zero_add] at hg2
    generalize Nat.min 1 n = m0 at hg2 hk1 hk2 ⊢
    have HG2 := Lib.hid hg2
    clear hg2 HR
    go_wp2
    go_loopw [8] (fun v wr => ∃ m : Nat, m ≤ n ∧ (n = 0 ∨ 0 < m) ∧ v = .int .i64 m ∧ wr.heap[w.heap.size]? = some (.cells (fil n m y).toArray 3 (0, 0)) ∧ Below w.heap.size w wr) (fun v _ => n - (RowKit.intOf v).toNat)
    case atStart => exact ⟨m0, hk1, hk2, rfl, HG2.out, hb2⟩
    case round =>
      obtain ⟨m, hm, hm0, rfl, hcur, hbw⟩ := hrel
      have HC := Lib.hid hcur
      clear hcur HG2 hb2
      by_cases hlt : m < n
      · obtain ⟨k, hk⟩ : ∃ k, k = Nat.min m (n - m) := ⟨_, rfl⟩
        have hkm : k ≤ m := hk ▸ Nat.min_le_left _ _
        have hkn : k ≤ n - m := hk ▸ Nat.min_le_right _ _
        have hk0 : 0 < k := by rw [hk]; exact Nat.lt_min.2 ⟨by omega, by omega⟩
        have hf1 : (List.replicate k (Value.int .i64 y)).length = Nat.min m (n - m) := by rw [List.length_replicate, hk]
        have hf2 : ∀ (W : World), W.heap[w.heap.size]? = some (.cells (fil n m y).toArray 3 (0, 0)) → 
            ∃ ad, (some (⟨w.heap.size, 0, none⟩ : Addr)) = some ad ∧ ∀ j v, (List.replicate k (Value.int .i64 y))[j]? = some v → W.cell? (ad.add j) = some v := by
          intro W hW
          refine ⟨_, rfl, fun j v hj => ?_⟩
          rw [List.getElem?_replicate] at hj
          split at hj
          · cases hj
            have : (⟨w.heap.size, 0, none⟩ : Addr).add j = ⟨w.heap.size, j, none⟩ := by unfold Addr.add; split <;> simp_all
            rw [this, Blk.cell hW, List.getElem?_toArray, fil_get _ _ _ _ (by omega)]
          · cases hj
        have hf3 : m + (List.replicate k (Value.int .i64 y)).length ≤ (fil n m y).length := by rw [fil_length _ _ _ hm, List.length_replicate]; omega
        have hf4 : ∀ v ∈ List.replicate k (Value.int .i64 y), v.oneCell' = true := fun v hv => by rw [List.mem_replicate] at hv; rw [hv.2]; rfl
        have hf5 := fil_step n m k y (by omega)
        have H1 := Lib.hid hf1
        have H3 := Lib.hid hf3
        have H4 := Lib.hid hf4
        have H5 := Lib.hid hf5
        have hne : ¬ n = m := by omega
        have hwr : IntKind.i64.wrap ((m : Int) + (k : Int)) = (m : Int) + (k : Int) := IntWalk.i64_in _ (by omega)
        have hcd : wr.drew.heap[w.heap.size]? = some (.cells (fil n m y).toArray 3 (0, 0)) := HC.out
        have HCD := Lib.hid hcd
        have H2 := Lib.hid (hf2 wr.drew hcd)
        clear hf1 hf2 hf3 hf4 hf5 hk hcd
        go_wp2
        go_region_law (refine step_copy_splice rfl (.tmp 41) (.tmp 44) 24 24 rfl 3 Try.underlying24 (by kernel_rfl) (some ⟨w.heap.size, m, none⟩) (some ⟨w.heap.size, 0, none⟩) (n - m) (n - m) m n (by simp [Act.eval, Act.put]) (by simp [Act.eval, Act.put]) w.heap.size m (fil n m y) 3 HCD.out (List.replicate k (Value.int .i64 y)) H1.out (fun _ => ⟨rfl, H2.out⟩) H3.out H4.out w.heap.size w hbw.drew (Nat.le_refl _) ?_; intro w5 hg5 hb5; rw [H5.out] at hg5)
        have HG5 := Lib.hid hg5
        clear hg5 HC HCD H1 H2 H3 H4 H5 hwr
        go_wp2
        simp only [Act.put, List.getElem_toArray, List.getElem_cons_succ, List.getElem_cons_zero, List.setIfInBounds_toArray, List.set]
        refine ⟨?_, ?_⟩
        · (repeat apply Exists.intro); exact ⟨⟨m + k, by omega, by omega, by go_num, HG5.out, hb5⟩, rfl⟩
        · simp [RowKit.intOf]; omega
      · obtain rfl : m = n := by omega
        go_wp2
        go_ret
        refine ⟨rfl, ?_, hbw⟩
        rw [← fil_all]
        exact HC.out

end Go.Proofs.Ythakkchmegnlhaa
