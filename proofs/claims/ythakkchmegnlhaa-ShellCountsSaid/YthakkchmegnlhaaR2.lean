/- Walks over the document's answer for layers 5 and 6: Inverse, Phi; a map as a value. -/
import Derived.Test.YthakkchmegnlhaaR1
import Derived.Test.YthakkchmegnlhaaM15
namespace Go.Proofs.Ythakkchmegnlhaa
open Go.RowKit Pq

/-- A map as a value. -/
def rmv (A : Option Addr) (n c : Nat) (root lone : Int) : Value := .agg #[.slice A n c, .int .i64 root, .int .i64 lone]

set_option maxHeartbeats 1000000 in
theorem Inverse5_calls (c B : Nat) (A : Option Addr) (s : List Nat) (w : World) (hr : Rd w B A (nl s)) (hB : B ≤ w.heap.size) (hs : Pm s.length (sg s)) (hn : s.length < 1099511627776) :
    Calls Try.prog 44 #[.slice A s.length c] w fun e w' =>
      e = .returned (.slice (some ⟨w.heap.size, 0, none⟩) s.length s.length) ∧ (∃ t : List Nat, t.length = s.length ∧ (∀ d, d < s.length → sg t (sg s d) = d) ∧ Blk w' w.heap.size 3 (ivs (nl t))) ∧ Below w.heap.size w w' := by
  have HS := Lib.hid hs
  have HR := Lib.hid hr
  clear hs hr
  go_enter Try.func44, Try.ntmps44
  go_wp2_with (at_make; refine make_int rfl (.tmp 7) (.tmp 7) rfl s.length rfl rfl hn ?_; intro w1 hB1 hg1; have HB1 := Lib.hid hB1; have HW1 := Lib.hid ((Below.refl w.heap.size w).grown hg1 (Nat.le_refl _) (fun k e => by cases e)); clear hB1 hg1)
  go_loopw [11] (fun i wr => ∃ k : Nat, ∃ t : List Nat, k ≤ s.length ∧ i = .int .i64 k ∧ t.length = s.length ∧ Hid (∀ d, d < k → sg t (sg s d) = d) ∧ Blk wr w.heap.size 3 (ivs (nl t)) ∧ Below w.heap.size w wr) (fun i _ => s.length - (intOf i).toNat)
  case atStart => exact ⟨0, List.replicate s.length 0, Nat.zero_le _, rfl, by simp, Lib.hid (fun d hd => absurd hd (by omega)), by rw [show nl (List.replicate s.length 0) = List.replicate s.length 0 by simp [nl]]; exact HB1.out, HW1.out⟩
  case round =>
    obtain ⟨k, t, hk, rfl, htl, ht, hblk, hbw⟩ := hrel
    have HK := Lib.hid hblk
    clear hblk HB1 HW1
    by_cases hlt : k < s.length
    · obtain ⟨b, off, rfl, hb, hc⟩ := HR.out.nat hlt
      have hck : wr.cell? ⟨b, off + k, none⟩ = some (.int .i64 ((sg s k : Nat) : Int)) := by rw [hbw.cell (by simp; omega)]; exact hc k hlt
      obtain ⟨x, hx⟩ : ∃ x, x = sg s k := ⟨_, rfl⟩
      rw [← hx] at hck
      have hxl : x < s.length := hx ▸ HS.out.lt k hlt
      obtain ⟨y, hy⟩ : ∃ y, y = (nl t).getD x 0 := ⟨_, rfl⟩
      have hcx : wr.cell? ⟨w.heap.size, x, none⟩ = some (.int .i64 y) := by rw [HK.out.cell, ivs_get _ _ (by rw [nl_length]; omega), hy]
      have hfx : wr.frozen? ⟨w.heap.size, x, none⟩ = false := HK.out.frozen x
      have HX := Lib.hid hx
      clear hc hx hy
      go_wp2
      go_roundw
      case rel =>
        refine ⟨k + 1, t.set x k, by omega, by go_num, by rw [List.length_set, htl], Lib.hid (fun d hd => ?_), ?_, hbw.setCell (by simp) _⟩
        · rw [sg_set (by omega)]
          by_cases e : d = k
          · rw [e, HX.out, if_pos rfl]
          · rw [if_neg, ht.out d (by omega)]
            intro h
            rw [HX.out] at h
            exact e (HS.out.inj _ _ (by omega) hlt h.symm)
        · rw [nl_set, ← ivs_set]
          exact HK.out.set_ _ _
      case measure => simp [intOf]; omega
    · obtain rfl : k = s.length := by omega
      go_wp2
      go_ret
      exact ⟨rfl, ⟨t, htl, ht.out, HK.out⟩, hbw⟩

theorem nl_take_succ (s : List Nat) {k : Nat} (hk : k < s.length) : nl (s.take (k + 1)) = nl (s.take k) ++ [((sg s k : Nat) : Int)] := by
  rw [List.take_add_one, nl_append, List.getElem?_eq_getElem hk]
  simp [nl, sg, List.getD_eq_getElem?_getD, hk]

set_option maxRecDepth 100000 in
set_option maxHeartbeats 2000000 in
theorem Phi6_calls (c B : Nat) (A : Option Addr) (s : List Nat) (root lone : Int) (w : World) (hr : Rd w B A (nl s)) (hB : B ≤ w.heap.size) (he : s.length % 2 = 0) (hn : s.length < 1099511627776) :
    Calls Try.prog 43 #[.agg #[.slice A s.length c, .int .i64 root, .int .i64 lone]] w fun e w' =>
      ∃ v, e = .returned v ∧ Own w' w.heap.size 3 v (nl (phiL s)) ∧ Below w.heap.size w w' := by
  have HR := Lib.hid hr
  obtain ⟨W1, hW1⟩ : ∃ W1, W1 = w.alloc (.cells #[.slice A s.length c, .int .i64 root, .int .i64 lone] 26) := ⟨_, rfl⟩
  have hm0 : W1.cell? ⟨w.heap.size, 0, none⟩ = some (.slice A s.length c) := by rw [hW1]; simp
  have HM0 := Lib.hid hm0
  have HB1 : Hid (Below w.heap.size w W1) := Lib.hid (by rw [hW1]; exact (Below.refl _ _).alloc (Nat.le_refl _) _)
  have hs1 : W1.heap.size = w.heap.size + 1 := by rw [hW1]; simp
  clear hr hm0
  go_enter Try.func43, Try.ntmps43
  go_wp2
  rw [← hW1]
  clear hW1
  go_loopw [3, 8] (fun o i wr => ∃ k : Nat, k ≤ s.length ∧ i = .int .i64 k ∧ Own wr W1.heap.size 3 o (nl ((phiL s).take k)) ∧ Below W1.heap.size W1 wr) (fun _ i _ => s.length - (intOf i).toNat)
  case atStart => exact ⟨0, Nat.zero_le _, rfl, by simpa [nl] using Own.nil _ _ _, Below.refl _ _⟩
  case round =>
    obtain ⟨k, hk, rfl, hown, hbw⟩ := hrel
    have HO := Lib.hid hown
    have HW := Lib.hid hbw
    have hbs := hbw.size
    clear hown hbw
    by_cases hlt : k < s.length
    · have hml : mate k < s.length := mate_lt he hlt
      obtain ⟨b, off, rfl, hb, hc⟩ := HR.out.nat hlt
      obtain ⟨mk, hmk⟩ : ∃ mk, mk = mate k := ⟨_, rfl⟩
      obtain ⟨y, hy⟩ : ∃ y, y = sg s mk := ⟨_, rfl⟩
      have h1 : wr.cell? ⟨w.heap.size, 0, none⟩ = some (.slice (some ⟨b, off, none⟩) s.length c) := (HW.out.cell (by show w.heap.size < W1.heap.size; omega)).trans HM0.out
      have h2 : wr.cell? ⟨b, off + mk, none⟩ = some (.int .i64 (y : Int)) := by
        rw [HW.out.cell (by show b < W1.heap.size; omega), HB1.out.cell (by show b < w.heap.size; omega), hy, hmk]
        exact hc _ hml
      have hmkl : mk < s.length := by omega
      have h1d : wr.drew.cell? ⟨w.heap.size, 0, none⟩ = some (.slice (some ⟨b, off, none⟩) s.length c) := h1
      have h2d : wr.drew.cell? ⟨b, off + mk, none⟩ = some (.int .i64 (y : Int)) := h2
      have h3 : ∀ (o : Obj) (row : Option Nat) (w' : World), (∀ k, row = some k → W1.heap.size ≤ k) → (wr.drew.alloc o).grownBy w' row → w'.cell? ⟨w.heap.size, 0, none⟩ = some (.slice (some ⟨b, off, none⟩) s.length c) ∧ w'.cell? ⟨b, off + mk, none⟩ = some (.int .i64 (y : Int)) := by
        intro o row w' hrow hg
        constructor
        · rw [hg.cell_far ⟨w.heap.size, 0, none⟩ (by simp; omega) (fun e => by have h9 : W1.heap.size ≤ w.heap.size := hrow _ e.symm; omega), World.cell?_alloc_past _ _ _ (by show w.heap.size < wr.heap.size; omega)]
          exact h1d
        · rw [hg.cell_far ⟨b, off + mk, none⟩ (by simp; omega) (fun e => by have h9 : W1.heap.size ≤ b := hrow _ e.symm; omega), World.cell?_alloc_past _ _ _ (by show b < wr.heap.size; omega)]
          exact h2d
      have h0a : ∀ o, (wr.alloc o).drew.cell? ⟨w.heap.size, 0, none⟩ = some (.slice (some ⟨b, off, none⟩) s.length c) ∧ (wr.alloc o).drew.cell? ⟨b, off + mk, none⟩ = some (.int .i64 (y : Int)) := fun o =>
        ⟨(World.cell?_alloc_past _ _ _ (by show w.heap.size < wr.heap.size; omega)).trans h1, (World.cell?_alloc_past _ _ _ (by show b < wr.heap.size; omega)).trans h2⟩
      have H0A := Lib.hid h0a
      have HST := Lib.hid (nl_take_succ (phiL s) (k := k) (by rw [phiL_length]; exact hlt))
      have HPH := Lib.hid (phiL_sg hlt)
      have HMK := Lib.hid hmk
      have HY := Lib.hid hy
      have HM6 := Lib.hid (Mate6_calls k (by omega) wr.drew)
      rw [← hmk] at HM6
      have hlA : (nl ((phiL s).take k)).length < 1099511627776 := by rw [nl_length, List.length_take]; omega
      have hbA : ∀ o, W1.heap.size ≤ (wr.drew.alloc o).heap.size := fun o => by simp; omega
      clear hc hmk hy h1 h2 hml h0a
      go_wp2
      go_region_held3 (fun w' => w'.cell? ⟨w.heap.size, 0, none⟩ = some (.slice (some ⟨b, off, none⟩) s.length c) ∧ w'.cell? ⟨b, off + mk, none⟩ = some (.int .i64 (y : Int)))
        (first
          | exact ⟨h1d, h2d⟩
          | exact H0A.out _
          | exact HS6.out
          | go_keep)
        (first
          | (go_at_call 41; refine HM6.out.mono ?_; rintro e w9 ⟨rfl, rfl⟩)
          | (refine step_app_int (by rfl) _ _ (by rfl) W1.heap.size _ _ (y : Int) (by rfl) (HO.out.drew.alloc _) _ (by rfl) (Blk.new _ _ _) hlA (hbA _) ?_; intro v' w' hown' hg; have HS6 := Lib.hid (h3 _ _ _ HO.out.ge hg); have HO6 := Lib.hid hown'; have HB6 := Lib.hid (((HW.out.drew).alloc hbs _).grown hg (hbA _) HO.out.ge); clear hown' hg))
      go_wp2
      go_roundw
      case rel =>
        refine ⟨k + 1, by omega, by go_num, ?_, HB6.out⟩
        rw [HST.out, HPH.out, ← HMK.out, ← HY.out]
        exact HO6.out
      case measure => simp [intOf]; omega
    · obtain rfl : k = s.length := by omega
      have hall : nl ((phiL s).take s.length) = nl (phiL s) := by rw [List.take_of_length_le (by rw [phiL_length]; exact Nat.le_refl _)]
      have HA := Lib.hid hall
      clear hall
      go_wp2
      go_ret
      refine ⟨_, rfl, ?_, HB1.out.trans (HW.out.mono (by omega))⟩
      rw [← HA.out]
      exact HO.out.less (by omega)
end Go.Proofs.Ythakkchmegnlhaa
