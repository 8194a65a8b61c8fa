/- Walks over package perm: Names, Of. -/
import Derived.Test.YthakkchmegnlhaaW1
import Derived.Test.YthakkchmegnlhaaA3
namespace Go.Proofs.Ythakkchmegnlhaa
open Go.RowKit Pq

set_option maxRecDepth 100000 in
set_option maxHeartbeats 1000000 in
theorem Names_calls (p cap B : Nat) (A : Option Addr) (s : List Nat) (w : World) (hc : w.cell? ⟨p, 0, none⟩ = some (.slice A s.length cap)) (hp : p < w.heap.size)
    (hr : Rd w B A (nl s)) (hB : B ≤ w.heap.size) (hs : Pm s.length (sg s)) (hn : s.length < 1099511627776) :
    Calls Try.prog 70 #[.pointer (some ⟨p, 0, none⟩)] w fun e w' =>
      ∃ g, w.heap.size ≤ g ∧ e = .returned (.slice (some ⟨g, 0, none⟩) s.length s.length) ∧ Blk w' g 3 (ivs (namesL (sg s) s.length)) ∧ Below w.heap.size w w' := by
  have HS := Lib.hid hs
  have HR := Lib.hid hr
  have HC := Lib.hid hc
  have hx1 : (w.alloc (.cells #[.int .i64 (-1)] 3)).cell? ⟨w.heap.size, 0, none⟩ = some (.int .i64 (-1)) := by simp
  have HX1 := Lib.hid hx1
  have hc1 : ∀ o, (w.alloc o).cell? ⟨p, 0, none⟩ = some (.slice A s.length cap) := fun o => by rw [World.cell?_alloc_past _ _ _ hp]; exact hc
  clear hs hr hx1
  go_enter Try.func70, Try.ntmps70
  go_wp2_with (first
    | (go_at_call 31; refine (Len_calls p _ cap _ _ (hc1 _)).mono ?_; rintro e w' ⟨rfl, rfl⟩)
    | (go_at_call 35; refine (Repeat_calls _ w.heap.size 0 s.length (-1) HX1.out (by simp) hn).mono ?_; rintro e w1 ⟨rfl, hb1, hbel1⟩; have HB1 := Lib.hid hb1; have HBE := Lib.hid hbel1; clear hb1 hbel1))
  go_loopw [4, 14] (fun c i wr => ∃ k : Nat, k ≤ s.length ∧ c = .int .i64 ((lows (sg s) s.length k : Nat) : Int) ∧ i = .int .i64 k ∧ Blk wr (w.heap.size + 1) 3 (ivs (namesAt (sg s) s.length k)) ∧ Below w.heap.size w wr)
    (fun _ i _ => s.length - (intOf i).toNat)
  case atStart => exact ⟨0, Nat.zero_le _, rfl, rfl, by rw [namesAt_zero]; simpa using HB1.out, ((Below.refl _ _).alloc (Nat.le_refl _) _).trans (HBE.out.mono (by simp))⟩
  case round =>
    obtain ⟨k, hk, rfl, rfl, hblk, hbw⟩ := hrel
    have HK := Lib.hid hblk
    have hbsz := hbw.size
    have hlk := lows_le (sg s) s.length k
    have hcp : wr.cell? ⟨p, 0, none⟩ = some (.slice A s.length cap) := by rw [hbw.cell hp]; exact HC.out
    clear hblk HB1 HBE hc1 hc
    by_cases hlt : k < s.length
    · have hck : wr.cell? ⟨w.heap.size + 1, k, none⟩ = some (.int .i64 ((namesAt (sg s) s.length k).getD k 0)) := by
        rw [HK.out.cell, ivs_get _ _ (by rw [namesAt_length]; exact hlt)]
      by_cases hl : isLeast (sg s) s.length k
      · have hneg := namesAt_neg HS.out hlt hl
        rw [hneg] at hck
        have HN := Lib.hid hneg
        clear hneg
        go_wp2_with (go_at_call 34; refine (Orbit_calls p cap B A s k _ hcp (by omega) (HR.out.below (hbw.mono hB)) (by omega) hlt HS.out hn).mono ?_; rintro e w2 ⟨v, rfl, hown, hb2⟩; obtain ⟨A2, c2, rfl, _, _, hr2, ha2⟩ := hown.formN; rw [orb_length_eq]; have HR2 := Lib.hid hr2; have HA2 := Lib.hid ha2; have HB2 := Lib.hid hb2; clear hown hr2 ha2 hb2)
        have hpl := HS.out.per_le hlt
        have hsz2 := HB2.out.size
        have hgl := HK.out.lt
        have hup0 : Upd (fun g => g = w.heap.size + 1) w2 w2 := Upd.refl _ _
        have hbk0 : Blk w2 (w.heap.size + 1) 3 (ivs (namesMid (sg s) s.length k 0)) := by rw [namesMid_zero]; exact HK.out.below HB2.out hgl
        have hbel0 : Below w.heap.size w w2 := hbw.trans (HB2.out.mono hbsz)
        have H0 := Lib.hid hbk0
        clear hbk0 hcp hck
        obtain ⟨wo, rfl⟩ : ∃ wo : World, wo = wr := ⟨_, rfl⟩
        go_loopw [26] (fun jv wi => ∃ j : Nat, j ≤ per (sg s) k ∧ jv = .int .i64 j ∧ Blk wi (w.heap.size + 1) 3 (ivs (namesMid (sg s) s.length k j)) ∧ Upd (fun g => g = w.heap.size + 1) w2 wi ∧ Below w.heap.size w wi)
          (fun jv _ => per (sg s) k - (intOf jv).toNat)
        case atStart => exact ⟨0, Nat.zero_le _, rfl, H0.out, hup0, hbel0⟩
        case round =>
          obtain ⟨j, hj, rfl, hblk, hup, hbel⟩ := hrel
          have HJ := Lib.hid hblk
          clear hblk hup0 hbel0 H0
          by_cases hjl : j < per (sg s) k
          · obtain ⟨b2, o2, rfl, hb2l, hc2⟩ := HR2.out.nat (k := j) (by rw [orb_length_eq]; exact hjl)
            have hge := (HA2.out _ rfl).1
            have hx : sg (orb (sg s) k) j = it (sg s) j k := by rw [sg, List.getD_eq_getElem?_getD, orb_get _ _ _ hjl]; rfl
            have hxl := HS.out.it_lt j k hlt
            have hcj : wr.cell? ⟨b2, o2 + j, none⟩ = some (.int .i64 (it (sg s) j k)) := by rw [hup.cell hb2l (by simp at hge ⊢; omega), hc2 j (by rw [orb_length_eq]; exact hjl), hx]
            have hst := namesMid_step HS.out hl hjl
            have HST := Lib.hid hst
            generalize it (sg s) j k = x at hxl hcj HST
            have hcg : wr.cell? ⟨w.heap.size + 1, x, none⟩ = some (.int .i64 ((namesMid (sg s) s.length k j).getD x 0)) := by rw [HJ.out.cell, ivs_get _ _ (by rw [namesMid_length]; exact hxl)]
            have hfg : wr.frozen? ⟨w.heap.size + 1, x, none⟩ = false := HJ.out.frozen x
            clear hc2 hx hst
            go_wp2
            go_roundw
            case rel => exact ⟨j + 1, by omega, by go_num, by rw [← HST.out, ← ivs_set]; exact HJ.out.set_ _ _, hup.setCell (.inl rfl) _, hbel.setCell (by simp) _⟩
            case measure => simp [intOf]; omega
          · obtain rfl : j = per (sg s) k := by omega
            go_wp2
            go_roundw
            case rel => exact ⟨k + 1, by omega, by rw [lows_succ_least hl]; go_num, by go_num, by rw [← namesMid_all HS.out hl]; exact HJ.out, hbel⟩
            case measure => simp [intOf]; omega
      · have hpos := namesAt_nonneg HS.out hlt hl
        generalize (namesAt (sg s) s.length k).getD k 0 = y at hck hpos
        go_wp2
        go_roundw
        case rel => exact ⟨k + 1, by omega, by rw [lows_succ_not hl], by go_num, by rw [namesAt_skip HS.out hl]; exact HK.out, hbw⟩
        case measure => simp [intOf]; omega
    · obtain rfl : k = s.length := by omega
      go_wp2
      go_ret
      exact ⟨_, by omega, rfl, by rw [← namesAt_all HS.out]; exact HK.out, hbw⟩

/-- A permutation behind a pointer; bk: is it known who goes there? -/
def PermAt (w : World) (p : Nat) (s : List Nat) (bk : Bool) : Prop :=
  ∃ v F d, Blk w p 89 #[v, .int .u32 d, .int .i32 0, .int .u32 0, F] ∧ Own w 0 3 v (nl s) ∧ (bk = false → d = 0 ∧ F = .slice none 0 0) ∧
    (bk = true → d = 1 ∧ ∃ t : List Nat, t.length = s.length ∧ (∀ i, i < s.length → sg t (sg s i) = i) ∧ Own w 0 3 F (nl t))

theorem Own.ty {w w' : World} {S : Nat → Prop} {base : Nat} {e : TypeId} {v : Value} {xs : List Int} (h : Own w base e v xs) (hu : Upd S w w') (hs : ∀ k, S k → ∃ t cs, Blk w k t cs ∧ t ≠ e) : Own w' base e v xs := by
  refine ⟨h.1, ?_⟩
  rcases h.2 with h2 | ⟨g, cap, cur, hv, hg, hh, r⟩
  · exact .inl h2
  · refine .inr ⟨g, cap, cur, hv, hg, (hu.block g (Blk.lt hh) (fun e1 => ?_)).trans hh, r⟩
    obtain ⟨t, cs, hb, hne⟩ := hs g e1
    exact Blk.ne_ (t := t) (t' := e) hb hh hne rfl

theorem PermAt.upd {w w' : World} {S : Nat → Prop} {p : Nat} {s : List Nat} {bk : Bool} (h : PermAt w p s bk) (hu : Upd S w w') (hp : ¬ S p) (hs : ∀ k, S k → ∃ t cs, Blk w k t cs ∧ t ≠ 3) : PermAt w' p s bk := by
  obtain ⟨v, F, d, h1, h2, h3, h4⟩ := h
  refine ⟨v, F, d, h1.upd hu hp, h2.ty hu hs, h3, fun e => ?_⟩
  obtain ⟨hd, t, ht1, ht2, ht3⟩ := h4 e
  exact ⟨hd, t, ht1, ht2, ht3.ty hu hs⟩
theorem PermAt.below {w w' : World} {p : Nat} {s : List Nat} {bk : Bool} (h : PermAt w p s bk) (hb : Below w.heap.size w w') : PermAt w' p s bk :=
  h.upd (S := fun _ => False) (Upd.of_below hb) (fun h => h) (fun _ h => h.elim)
theorem PermAt.lt {w : World} {p : Nat} {s : List Nat} {bk : Bool} (h : PermAt w p s bk) : p < w.heap.size := by
  obtain ⟨v, F, d, h1, _⟩ := h
  exact h1.lt
theorem PermAt.cells {w : World} {p : Nat} {s : List Nat} {bk : Bool} (h : PermAt w p s bk) : ∃ A c, w.cell? ⟨p, 0, none⟩ = some (.slice A s.length c) ∧ Rd w w.heap.size A (nl s) := by
  obtain ⟨v, F, d, h1, h2, _⟩ := h
  obtain ⟨A, c, rfl, _, _, hr, _⟩ := h2.formN
  exact ⟨A, c, by rw [h1.cell]; rfl, hr⟩

/-- What is no permutation: one that there is not, or that has come. -/
theorem seen_set (s : List Nat) (n k : Nat) (hk : k < s.length) :
    ((List.range n).map fun a => decide (a ∈ s.take k)).set (sg s k) true = (List.range n).map fun a => decide (a ∈ s.take (k + 1)) := by
  apply List.ext_getElem (by simp)
  intro a h1 h2
  have ha : a < n := by simpa using h2
  have hs : s.take (k + 1) = s.take k ++ [sg s k] := by rw [List.take_add_one, sg, List.getD_eq_getElem?_getD, List.getElem?_eq_getElem hk]; rfl
  rw [List.getElem_set]
  by_cases e : sg s k = a
  · rw [if_pos e]
    simp [hs, ← e]
  · rw [if_neg e]
    simp [hs, show ¬ a = sg s k from fun h => e h.symm]
theorem seen_not {s : List Nat} {k : Nat} (hs : Pm s.length (sg s)) (hk : k < s.length) : ((List.range s.length).map fun a => decide (a ∈ s.take k)).getD (sg s k) false = false := by
  have hx := hs.lt k hk
  rw [List.getD_eq_getElem?_getD, List.getElem?_map, List.getElem?_range hx]
  simp only [Option.map_some, Option.getD_some, decide_eq_false_iff_not]
  intro hm
  obtain ⟨j, hj, e⟩ := List.getElem_of_mem hm
  rw [List.length_take] at hj
  rw [List.getElem_take] at e
  have := hs.inj j k (by omega) hk (by rw [← e, sg, List.getD_eq_getElem?_getD, List.getElem?_eq_getElem (by omega)]; rfl)
  omega
def seenL (s : List Nat) (k : Nat) : List Bool := (List.range s.length).map fun a => decide (a ∈ s.take k)
theorem seenL_length (s : List Nat) (k : Nat) : (seenL s k).length = s.length := by simp [seenL]
theorem seenL_zero (s : List Nat) : seenL s 0 = List.replicate s.length false := by
  rw [seenL, List.eq_replicate_iff]
  exact ⟨by simp, fun b hb => by simp at hb; exact hb.2⟩

set_option maxRecDepth 100000 in
set_option maxHeartbeats 1000000 in
theorem Of_calls (A : Option Addr) (c B : Nat) (s : List Nat) (w : World) (hr : Rd w B A (nl s)) (hB : B ≤ w.heap.size) (hs : Pm s.length (sg s)) (hn : s.length < 1099511627776) :
    Calls Try.prog 45 #[.slice A s.length c] w fun e w' =>
      ∃ p, w.heap.size ≤ p ∧ e = .returned (.tuple #[.pointer (some ⟨p, 0, none⟩), .int .i64 0]) ∧ PermAt w' p s false ∧ Below w.heap.size w w' := by
  have HS := Lib.hid hs
  have HR := Lib.hid hr
  clear hs hr
  go_enter Try.func45, Try.ntmps45
  go_wp2_with (at_make; refine make_bool rfl (.tmp 8) (.tmp 8) rfl s.length rfl rfl hn ?_; intro w1 hB1 hg1; have HB1 := Lib.hid hB1; have HG1 := Lib.hid hg1; clear hB1 hg1)
  go_loopw [12] (fun i wr => ∃ k : Nat, k ≤ s.length ∧ i = .int .i64 k ∧ Blk wr w.heap.size 4 (bvs (seenL s k)) ∧ Below w.heap.size w wr) (fun i _ => s.length - (intOf i).toNat)
  case atStart => exact ⟨0, Nat.zero_le _, rfl, by rw [seenL_zero]; exact HB1.out, (Below.refl _ _).grown HG1.out (Nat.le_refl _) (by simp)⟩
  case round =>
    obtain ⟨k, hk, rfl, hblk, hbw⟩ := hrel
    have HK := Lib.hid hblk
    have hbsz := hbw.size
    clear hblk HB1 HG1
    by_cases hlt : k < s.length
    · obtain ⟨b, off, rfl, hb, hc⟩ := HR.out.nat hlt
      have hxl := HS.out.lt k hlt
      have hck : wr.cell? ⟨b, off + k, none⟩ = some (.int .i64 (sg s k)) := by rw [hbw.cell (by simp; omega)]; exact hc k hlt
      have hsn : (seenL s k).getD (sg s k) false = false := seen_not HS.out hlt
      have hst : (seenL s k).set (sg s k) true = seenL s (k + 1) := seen_set s s.length k hlt
      have HST := Lib.hid hst
      have hcs : wr.cell? ⟨w.heap.size, sg s k, none⟩ = some (.bool false) := by rw [HK.out.cell, bvs_get _ _ (by rw [seenL_length]; exact hxl), hsn]
      have hfs : wr.frozen? ⟨w.heap.size, sg s k, none⟩ = false := HK.out.frozen _
      have hd1 : decide (((sg s k : Nat) : Int) < 0) = false := by simp
      have hd2 : decide (s.length ≤ sg s k) = false := by simp; omega
      clear hc hsn hst
      generalize sg s k = x at hxl hck HST hcs hfs hd1 hd2
      go_wp2
      go_roundw
      case rel => exact ⟨k + 1, by omega, by go_num, by rw [← HST.out, ← bvs_set]; exact HK.out.set_ _ _, hbw.setCell (by simp) _⟩
      case measure => simp [intOf]; omega
    · obtain rfl : k = s.length := by omega
      have hr2 : Rd wr B A (nl s) := HR.out.below (hbw.mono hB)
      have HR2 := Lib.hid hr2
      clear hr2
      go_wp2_with (go_at_call 17; refine (nl_length s ▸ Clone_calls wr B A c (nl s) HR2.out (by rw [nl_length]; exact hn)).mono ?_; rintro e w2 ⟨v, rfl, hown, hb2⟩; obtain ⟨A2, c2, rfl, _, _, _, _⟩ := hown.formN; have HO := Lib.hid hown; have HB2 := Lib.hid hb2; clear hown hb2)
      have hb2s := HB2.out.size
      go_ret2
      refine ⟨w2.heap.size, by omega, rfl, ⟨_, _, 0, Blk.new _ _ _, ((HO.out.less (Nat.zero_le _)).alloc _), fun _ => ⟨rfl, rfl⟩, fun e => by cases e⟩, ?_⟩
      exact (hbw.trans (HB2.out.mono hbsz)).alloc (by omega) _

end Go.Proofs.Ythakkchmegnlhaa
