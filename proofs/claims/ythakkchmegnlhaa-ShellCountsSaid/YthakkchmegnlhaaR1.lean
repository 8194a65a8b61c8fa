/- Walks over the document's answer for layers 5 and 6: Orbit, Names, Inverse, Mate, Phi. -/
import Derived.Test.YthakkchmegnlhaaW2
import Derived.Test.YthakkchmegnlhaaA6
import Derived.Deep.RegionHeld3
import Derived.Deep.QuietTactic
import Derived.BigQuiet
namespace Go.Proofs.Ythakkchmegnlhaa
open Go.RowKit Pq

set_option maxHeartbeats 400000 in
theorem Mate6_calls (d : Nat) (hd : d < 1099511627776) (w : World) :
    Calls Try.prog 41 #[.int .i64 d] w fun e w' => e = .returned (.int .i64 ((mate d : Nat) : Int)) ∧ w = w' := by
  obtain ⟨m, hm⟩ : ∃ m, m = mate d := ⟨_, rfl⟩
  rw [← hm]
  rcases Nat.mod_two_eq_zero_or_one d with h | h
  · have e1 : ((d : Int) % 2 == 0) = true := beq_iff_eq.2 (by omega)
    have e2 : (d : Int) + 1 = (m : Int) := by rw [hm, mate, if_pos h]; omega
    have e3 : IntKind.i64.wrap ((d : Int) + 1) = (m : Int) := by rw [IntWalk.i64_in _ (by omega)]; exact e2
    clear hm h e2
    go_enter Try.func41, Try.ntmps41
    go_wp2
    go_ret
    exact ⟨rfl, rfl⟩
  · have e1 : ((d : Int) % 2 == 0) = false := beq_eq_false_iff_ne.2 (by omega)
    have e2 : (d : Int) - 1 = (m : Int) := by rw [hm, mate, if_neg (by omega)]; omega
    have e3 : IntKind.i64.wrap ((d : Int) - 1) = (m : Int) := by rw [IntWalk.i64_in _ (by omega)]; exact e2
    clear hm h e2
    go_enter Try.func41, Try.ntmps41
    go_wp2
    go_ret
    exact ⟨rfl, rfl⟩

set_option maxHeartbeats 1000000 in
theorem Orbit5_calls (c B : Nat) (A : Option Addr) (s : List Nat) (i : Nat) (w : World) (hr : Rd w B A (nl s)) (hB : B ≤ w.heap.size) (hi : i < s.length) (hs : Pm s.length (sg s)) (hn : s.length < 1099511627776) :
    Calls Try.prog 40 #[.slice A s.length c, .int .i64 i] w fun e w' =>
      ∃ v, e = .returned v ∧ Own w' w.heap.size 3 v (nl (orb (sg s) i)) ∧ Below w.heap.size w w' := by
  obtain ⟨b, off, rfl, hb, hr⟩ := hr.nat hi
  have hri := hr i hi
  have HS := Lib.hid hs
  have HR := Lib.hid hr
  have hil := hs.lt i hi
  have hri' : ∀ o, (w.alloc o).cell? ⟨b, off + i, none⟩ = some (.int .i64 (sg s i)) := fun o => by rw [World.cell?_alloc_past _ _ _ (by omega)]; exact hri
  have h0 : Own (w.alloc (.cells #[.int .i64 i] 3)) w.heap.size 3 (.slice (some ⟨w.heap.size, 0, none⟩) 1 1) [(i : Int)] := Own.of_blk (Blk.new _ _ _) (Nat.le_refl _) (by simp [maxLen])
  have H0 := Lib.hid h0
  clear hr hs h0
  go_enter Try.func40, Try.ntmps40
  go_wp2
  go_loopw [5, 6] (fun v x wr => ∃ j : Nat, j + 1 ≤ per (sg s) i ∧ Own wr w.heap.size 3 v (nl (orbPre (sg s) i (j + 1))) ∧ x = .int .i64 ((it (sg s) (j + 1) i : Nat) : Int) ∧ Below w.heap.size w wr)
    (fun v _ _ => per (sg s) i - slen v)
  case atStart => exact ⟨0, (HS.out.per_spec hi).1, H0.out, rfl, (Below.refl _ _).alloc (Nat.le_refl _) _⟩
  case round =>
    obtain ⟨j, hj, hown, rfl, hbw⟩ := hrel
    obtain ⟨x, hx⟩ : ∃ x, x = it (sg s) (j + 1) i := ⟨_, rfl⟩
    have hxl : x < s.length := hx ▸ HS.out.it_lt _ i hi
    have hps := HS.out.per_spec hi
    have hpl := HS.out.per_le hi
    have HX := Lib.hid hx
    rw [← hx]
    have HO := Lib.hid hown
    have HP := Lib.hid hps
    have hbsz := hbw.size
    have hcx : ∀ o, (wr.alloc o).cell? ⟨b, off + x, none⟩ = some (.int .i64 (sg s x)) := fun o => by rw [World.cell?_alloc_past _ _ _ (by omega), hbw.cell (by simp; omega)]; exact HR.out x hxl
    clear hx hown hps hri hri'
    by_cases hxi : x = i
    · have ht : ((x : Int) != (i : Int)) = false := by simp [hxi]
      have he : j + 1 = per (sg s) i := by
        rcases Nat.lt_or_ge (j + 1) (per (sg s) i) with h | h
        · exact absurd (HX.out.symm.trans hxi) (HP.out.2.2 (j + 1) (by omega) h)
        · omega
      have HE := Lib.hid he
      clear he hxi
      go_wp2
      go_ret
      exact ⟨_, rfl, by rw [orb, ← HE.out]; exact HO.out, hbw⟩
    · have ht : ((x : Int) != (i : Int)) = true := by rw [bne_iff_ne]; omega
      have he : j + 1 < per (sg s) i := by
        rcases Nat.lt_or_ge (j + 1) (per (sg s) i) with h | h
        · exact h
        · exact absurd (by rw [HX.out, show j + 1 = per (sg s) i by omega]; exact HP.out.2.1) hxi
      go_wp2_with (at_builtin; refine app_int rfl (.tmp 20) (.tmp 22) rfl w.heap.size _ _ (x : Int) rfl HO.out rfl ?_ ?_ ?_)
      · rw [nl_length, orbPre_length]; omega
      · omega
      · intro v' w' hown' hg
        have hb2 : Below w.heap.size w w' := hbw.grown hg hbsz HO.out.ge
        have hcx2 : w'.cell? ⟨b, off + x, none⟩ = some (.int .i64 (sg s x)) := by rw [hb2.cell (by simp; omega)]; exact HR.out x hxl
        have HO2 := Lib.hid hown'
        have hsl := hown'.slen
        have hsl0 := HO.out.slen
        have HL := Lib.hid hsl
        have HL0 := Lib.hid hsl0
        clear hown' hg hcx hsl hsl0
        go_wp2
        go_roundw
        case rel =>
          refine ⟨j + 1, by omega, ?_, ?_, hb2⟩
          · have h2 := HO2.out
            rw [HX.out] at h2
            rw [orbPre_succ, nl_append]
            exact h2
          · rw [it_succ', ← HX.out]
        case measure =>
          rw [HL.out, HL0.out]
          simp only [nl_length, List.length_append, orbPre_length, List.length_cons, List.length_nil]
          omega

set_option maxHeartbeats 2000000 in
theorem Names5_calls (c B : Nat) (A : Option Addr) (s : List Nat) (w : World) (hr : Rd w B A (nl s)) (hB : B ≤ w.heap.size) (hs : Pm s.length (sg s)) (hn : s.length < 1099511627776) :
    Calls Try.prog 39 #[.slice A s.length c] w fun e w' =>
      e = .returned (.slice (some ⟨w.heap.size, 0, none⟩) s.length s.length) ∧ Blk w' w.heap.size 3 (ivs (namesL (sg s) s.length)) ∧ Below w.heap.size w w' := by
  have HS := Lib.hid hs
  have HR := Lib.hid hr
  clear hs hr
  go_enter Try.func39, Try.ntmps39
  go_wp2_with (at_make; refine make_int rfl (.tmp 10) (.tmp 10) rfl s.length rfl rfl hn ?_; intro w1 hB1 hg1; have HB1 := Lib.hid hB1; have HW1 := Lib.hid ((Below.refl w.heap.size w).grown hg1 (Nat.le_refl _) (fun k e => by cases e)); clear hB1 hg1)
  go_loopw [14] (fun i wr => ∃ k : Nat, k ≤ s.length ∧ i = .int .i64 k ∧ Blk wr w.heap.size 3 (ivs (List.replicate k (-1) ++ List.replicate (s.length - k) 0)) ∧ Below w.heap.size w wr) (fun i _ => s.length - (intOf i).toNat)
  case atStart => exact ⟨0, Nat.zero_le _, rfl, by simpa using HB1.out, HW1.out⟩
  case round =>
    obtain ⟨k, hk, rfl, hblk, hbw⟩ := hrel
    have HK := Lib.hid hblk
    clear hblk HB1 HW1
    by_cases hlt : k < s.length
    · have hck : wr.cell? ⟨w.heap.size, k, none⟩ = some (.int .i64 ((List.replicate k (-1) ++ List.replicate (s.length - k) 0 : List Int).getD k 0)) := by
        rw [HK.out.cell, ivs_get _ _ (by simp; omega)]
      have hfk : wr.frozen? ⟨w.heap.size, k, none⟩ = false := HK.out.frozen k
      have hst : ((List.replicate k (-1) ++ List.replicate (s.length - k) 0 : List Int)).set k (-1) = List.replicate (k + 1) (-1) ++ List.replicate (s.length - (k + 1)) 0 := by
        rw [List.set_append_right _ _ (by simp), List.length_replicate, Nat.sub_self, show s.length - k = (s.length - (k + 1)) + 1 by omega, List.replicate_succ, List.set_cons_zero, List.replicate_succ']
        simp
      have HST := Lib.hid hst
      generalize (List.replicate k (-1) ++ List.replicate (s.length - k) 0 : List Int).getD k 0 = y at hck
      clear hst
      go_wp2
      go_roundw
      case rel => exact ⟨k + 1, by omega, by go_num, by rw [← HST.out, ← ivs_set]; exact HK.out.set_ _ _, hbw.setCell (by simp) _⟩
      case measure => simp [intOf]; omega
    · obtain rfl : k = s.length := by omega
      have hb0 : Blk wr w.heap.size 3 (ivs (namesAt (sg s) s.length 0)) := by
        have := HK.out
        rw [Nat.sub_self] at this
        rw [namesAt_zero]
        simpa using this
      have HB0 := Lib.hid hb0
      clear hb0 HK
      go_wp2
      have hbw0 := hbw
      go_loopw [5, 23] (fun c i wr => ∃ k : Nat, k ≤ s.length ∧ c = .int .i64 ((lows (sg s) s.length k : Nat) : Int) ∧ i = .int .i64 k ∧ Blk wr w.heap.size 3 (ivs (namesAt (sg s) s.length k)) ∧ Below w.heap.size w wr)
        (fun _ i _ => s.length - (intOf i).toNat)
      case atStart => exact ⟨0, Nat.zero_le _, rfl, rfl, HB0.out, hbw0⟩
      case round =>
        clear HB0 hbw0 hbw
        obtain ⟨k, hk, rfl, rfl, hblk, hbw⟩ := hrel
        have HK := Lib.hid hblk
        have hbsz := hbw.size
        have hlk := lows_le (sg s) s.length k
        clear hblk
        by_cases hlt : k < s.length
        · have hck : wr.cell? ⟨w.heap.size, k, none⟩ = some (.int .i64 ((namesAt (sg s) s.length k).getD k 0)) := by
            rw [HK.out.cell, ivs_get _ _ (by rw [namesAt_length]; exact hlt)]
          by_cases hl : isLeast (sg s) s.length k
          · have hneg := namesAt_neg HS.out hlt hl
            rw [hneg] at hck
            have HN := Lib.hid hneg
            clear hneg
            go_wp2_with (go_at_call 40; refine (Orbit5_calls c B A s k _ (HR.out.below (hbw.mono hB)) (by omega) hlt HS.out hn).mono ?_; rintro e w2 ⟨v, rfl, hown, hb2⟩; obtain ⟨A2, c2, rfl, _, _, hr2, hA2⟩ := hown.formN; rw [orb_length_eq]; have HB2 := Lib.hid hb2; have HR2 := Lib.hid hr2; have HA2 := Lib.hid hA2; clear hown hb2 hr2 hA2)
            have hpl := HS.out.per_le hlt
            have hsz2 := HB2.out.size
            have hgl := HK.out.lt
            have hup0 : Upd (fun g => g = w.heap.size) w2 w2 := Upd.refl _ _
            have hbk0 : Blk w2 w.heap.size 3 (ivs (namesMid (sg s) s.length k 0)) := by rw [namesMid_zero]; exact HK.out.below HB2.out hgl
            have hbel0 : Below w.heap.size w w2 := hbw.trans (HB2.out.mono hbsz)
            have H0 := Lib.hid hbk0
            clear hbk0 hck
            obtain ⟨wo, rfl⟩ : ∃ wo : World, wo = wr := ⟨_, rfl⟩
            go_loopw [35] (fun jv wi => ∃ j : Nat, j ≤ per (sg s) k ∧ jv = .int .i64 j ∧ Blk wi w.heap.size 3 (ivs (namesMid (sg s) s.length k j)) ∧ Upd (fun g => g = w.heap.size) w2 wi ∧ Below w.heap.size w wi)
              (fun jv _ => per (sg s) k - (intOf jv).toNat)
            case atStart => exact ⟨0, Nat.zero_le _, rfl, H0.out, hup0, hbel0⟩
            case round =>
              obtain ⟨j, hj, rfl, hblk, hup, hbel⟩ := hrel
              have HJ := Lib.hid hblk
              clear hblk hup0 hbel0 H0
              by_cases hjl : j < per (sg s) k
              · obtain ⟨b2, o2, rfl, hb2l, hc2⟩ := HR2.out.nat (k := j) (by rw [orb_length_eq]; exact hjl)
                have hge := (HA2.out _ rfl).1
                have hx : sg (orb (sg s) k) j = it (sg s) j k := by rw [sg, List.getD_eq_getElem?_getD, orb_get _ _ _ hjl]; rfl
                have hxl := HS.out.it_lt j k hlt
                have hcj : wr.cell? ⟨b2, o2 + j, none⟩ = some (.int .i64 (it (sg s) j k)) := by rw [hup.cell hb2l (by simp at hge ⊢; omega), hc2 j (by rw [orb_length_eq]; exact hjl), hx]
                have hst := namesMid_step HS.out hl hjl
                have HST := Lib.hid hst
                generalize it (sg s) j k = x at hxl hcj HST
                have hcg : wr.cell? ⟨w.heap.size, x, none⟩ = some (.int .i64 ((namesMid (sg s) s.length k j).getD x 0)) := by rw [HJ.out.cell, ivs_get _ _ (by rw [namesMid_length]; exact hxl)]
                have hfg : wr.frozen? ⟨w.heap.size, x, none⟩ = false := HJ.out.frozen x
                clear hc2 hx hst
                go_wp2
                go_roundw
                case rel => exact ⟨j + 1, by omega, by go_num, by rw [← HST.out, ← ivs_set]; exact HJ.out.set_ _ _, hup.setCell (.inl rfl) _, hbel.setCell (by simp) _⟩
                case measure => simp [intOf]; omega
              · obtain rfl : j = per (sg s) k := by omega
                go_wp2
                go_roundw
                case rel => exact ⟨k + 1, by omega, by rw [lows_succ_least hl]; go_num, by go_num, by rw [← namesMid_all HS.out hl]; exact HJ.out, hbel⟩
                case measure => simp [intOf]; omega
          · have hpos := namesAt_nonneg HS.out hlt hl
            generalize (namesAt (sg s) s.length k).getD k 0 = y at hck hpos
            go_wp2
            go_roundw
            case rel => exact ⟨k + 1, by omega, by rw [lows_succ_not hl], by go_num, by rw [namesAt_skip HS.out hl]; exact HK.out, hbw⟩
            case measure => simp [intOf]; omega
        · obtain rfl : k = s.length := by omega
          go_wp2
          go_ret
          exact ⟨rfl, by rw [← namesAt_all HS.out]; exact HK.out, hbw⟩
end Go.Proofs.Ythakkchmegnlhaa
