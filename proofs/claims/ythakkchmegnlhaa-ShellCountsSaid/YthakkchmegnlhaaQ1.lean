/- ShellCounts: whatever the input, the law answers true, and its arguments read as they did. No condition. -/
import Derived.Test.YthakkchmegnlhaaR5
import Derived.Test.YthakkchmegnlhaaW21
import Derived.Test.YthakkchmegnlhaaM16
import Derived.Test.YthakkchmegnlhaaRows
import Derived.ProofKit
import Derived.SizedLaws
namespace Go.Proofs.Ythakkchmegnlhaa
open Go.RowKit Pq

/-- The triangulation on its way: so many darts. -/
def TriSt (wr : World) (mb N : Nat) : Prop :=
  ∃ A c s v lam, Blk wr mb 26 #[.slice A N c, .int .i64 0, .int .i64 0] ∧ Rd wr wr.heap.size A (nl s) ∧ (∀ a, A = some a → a.block ≠ mb) ∧ TR s.length v (sg s) lam ∧ s.length = N

theorem tri_store {w6 : World} {mb n2 c2 : Nat} {A2 : Option Addr} {s2 : List Nat} {v : Nat} {lam : Nat → Nat} {cs : Value × Value × Value} (hb : Blk w6 mb 26 #[cs.1, cs.2.1, cs.2.2]) (hr : Rd w6 w6.heap.size A2 (nl s2))
    (hA : ∀ a, A2 = some a → a.block ≠ mb) (hl : s2.length = n2) (T : TR n2 v (sg s2) lam) :
    TriSt (((w6.setCell ⟨mb, 0, none⟩ (.slice A2 n2 c2)).setCell ⟨mb, 1, none⟩ (.int .i64 0)).setCell ⟨mb, 2, none⟩ (.int .i64 0)) mb n2 := by
  subst hl
  refine ⟨A2, c2, s2, v, lam, ((hb.set_ 0 _).set_ 1 _).set_ 2 _, ?_, hA, T, rfl⟩
  rw [set_size, set_size, set_size]
  exact ((hr.far (p := ⟨mb, 0, none⟩) hA _).far (p := ⟨mb, 1, none⟩) hA _).far (p := ⟨mb, 2, none⟩) hA _
theorem TriSt.drewN {w : World} {mb N : Nat} (h : TriSt w mb N) (q : Nat) : TriSt (w.drewN q) mb N := by
  obtain ⟨A, c, s, v, lam, h1, h2, h3, h4, h5⟩ := h
  exact ⟨A, c, s, v, lam, h1.drewN q, h2.drewN q, h3, h4, h5⟩
theorem put_TR {s : List Nat} {v d : Nat} {lam : Nat → Nat} (T : TR s.length v (sg s) lam) (hd : d < s.length) :
    ∃ lam', TR (s.length + 6) (v + 1) (sg (pst3 s d (ph (sg s) d) (ph (sg s) (ph (sg s) d)))) lam' := ⟨_, (T.put hd).congr (fun x hx => pst_putF T hd x hx)⟩

section
variable {inner n c z : Nat} {A : Option Addr}
set_option maxRecDepth 100000 in
set_option maxHeartbeats 4000000 in
theorem RefTri_calls (w : World) (B : Nat) (hby : Rby w B A n) (hB : B ≤ w.heap.size) (hin : inner ≤ 17) (hn : n < 9223372036854775808) (hz : z < 256) :
    Calls Try.prog 7 #[.int .i64 inner, .slice A n c, .int .u8 z] w fun e w' =>
      ∃ A' c' s r v lam, e = .returned (.agg #[.slice A' s.length c', .int .i64 ((r : Nat) : Int), .int .i64 0]) ∧ Rd w' w'.heap.size A' (nl s) ∧ TR s.length v (sg s) lam ∧ r < s.length ∧ s.length = 6 + 6 * inner ∧ Below w.heap.size w w' := by
  have HBY := Lib.hid hby
  obtain ⟨W3, hW3⟩ : ∃ W3, W3 = (((w.alloc (.cells #[.slice none 0 0, .int .i64 0, .int .i64 0] 26)).alloc (.cells #[.int .i64 5, .int .i64 2, .int .i64 1, .int .i64 4, .int .i64 3, .int .i64 0] 3)).alloc (.cells #[.slice (some ⟨w.heap.size + 1, 0, none⟩) 6 6, .int .i64 0, .int .i64 0] 26)) := ⟨_, rfl⟩
  clear hby
  go_enter Try.func7, Try.ntmps7
  go_wp2
  obtain ⟨mb, hmb⟩ : ∃ mb, mb = w.heap.size + 1 + 1 := ⟨_, rfl⟩
  rw [← hmb, ← hW3]
  have hs3 : W3.heap.size = w.heap.size + 3 := by rw [hW3]; simp
  have hb3 : Below w.heap.size w W3 := by rw [hW3]; exact ba (ba (ba (Below.refl _ _) _) _) _
  have hz3 : Blk W3 w.heap.size 26 #[.slice none 0 0, .int .i64 0, .int .i64 0] := by rw [hW3]; exact ((Blk.new _ _ _).alloc _).alloc _
  have hst3 : TriSt W3 mb 6 := by
    have h1 : Blk W3 (w.heap.size + 1) 3 (ivs (nl triL)) := by rw [hW3]; exact (Blk.newAt _ _ (by simp)).alloc _
    refine ⟨some ⟨w.heap.size + 1, 0, none⟩, 6, triL, 3, triF, ?_, h1.rd h1.lt, fun a e => by cases e; show w.heap.size + 1 ≠ mb; omega, triL_TR, rfl⟩
    rw [hW3]
    exact Blk.newAt _ _ (by simp; omega)
  have HB3 := Lib.hid hb3
  have HZ3 := Lib.hid hz3
  have HST3 := Lib.hid hst3
  have hmbw : mb = w.heap.size + 2 := by omega
  have HMB := Lib.hid hmbw
  have hmb3 : mb < W3.heap.size := by omega
  have hwmb : w.heap.size < mb := by omega
  clear hW3 hb3 hz3 hst3 hmb hmbw
  go_loopw [8, 9] (fun av i wr => ∃ k a : Nat, k ≤ inner ∧ a ≤ 3 * k ∧ av = .int .i64 (a : Int) ∧ i = .int .i64 (k : Int) ∧ Hid (TriSt wr mb (6 + 6 * k)) ∧ Hid (Upd (· = mb) W3 wr)) (fun _ i _ => inner - (intOf i).toNat)
  case atStart => exact ⟨0, 0, Nat.zero_le _, by omega, rfl, rfl, HST3, Lib.hid (Upd.refl _ _)⟩
  case round =>
    obtain ⟨k, a, hk, ha, rfl, rfl, HST, HU⟩ := hrel
    have hus := HU.out.size
    have HBr : Hid (Below w.heap.size w wr) := Lib.hid (Below.upd_ HB3.out HU.out (by omega) (fun k hk e => by omega))
    have HBYr : Hid (Rby wr B A n) := Lib.hid (HBY.out.below (HBr.out.mono hB))
    have HBYd : Hid (∀ m, Rby (wr.drewN m) B A n) := Lib.hid fun m => HBYr.out.below (below_drewN (Below.refl _ _) m)
    clear HST3
    by_cases hlt : k < inner
    · have t1 : ((k : Int) < (inner : Int)) := by omega
      obtain ⟨A1, c1, s, v, lam, hblk, hrd, hA1, hT, hsl⟩ := HST.out
      obtain ⟨N, hN⟩ : ∃ N, N = 6 + 6 * k := ⟨_, rfl⟩
      rw [← hN] at hblk hsl
      subst hsl
      have hsn : s.length ≤ 1000 := by omega
      have hs0 : 0 < s.length := hT.pos
      have hc0 : ∀ m, (wr.drewN m).cell? ⟨mb, 0, none⟩ = some (.slice A1 s.length c1) := fun m => by show wr.cell? _ = _; rw [hblk.cell]; rfl
      have hc1 : ∀ m, (wr.drewN m).cell? ⟨mb, 1, none⟩ = some (.int .i64 0) := fun m => by show wr.cell? _ = _; rw [hblk.cell]; rfl
      have hc2 : ∀ m, (wr.drewN m).cell? ⟨mb, 2, none⟩ = some (.int .i64 0) := fun m => by show wr.cell? _ = _; rw [hblk.cell]; rfl
      have hb0 : wr.cell? ⟨mb, 0, none⟩ = some (.slice A1 s.length c1) := hc0 0
      have hb1 : wr.cell? ⟨mb, 1, none⟩ = some (.int .i64 0) := hc1 0
      have hb2 : wr.cell? ⟨mb, 2, none⟩ = some (.int .i64 0) := hc2 0
      have hn0 : ¬ ((s.length : Int) = 0) := by omega
      have hn00 : ¬ (s.length = 0) := by omega
      have HBK := Lib.hid hblk
      have HRD := Lib.hid hrd
      have HA1 := Lib.hid hA1
      have HT := Lib.hid hT
      have HN := Lib.hid hN
      have hmw := hblk.lt
      clear hblk hrd hA1 hT hN
      go_wp2
      go_cut [] from 17 to 25 (fun wx => Hid (TriSt wx mb (6 + 6 * (k + 1))) ∧ Hid (Upd (· = mb) wr wx))
      case first =>
        have HP0 := Lib.hid (pick_calls A n c a B wr.drew (HBYd.out 1) (by omega) hn)
        have hd0 : wr.drew.cell? ⟨mb, 0, none⟩ = some (.slice A1 s.length c1) := hb0
        have hd1 : wr.drew.cell? ⟨mb, 1, none⟩ = some (.int .i64 0) := hb1
        have hd2 : wr.drew.cell? ⟨mb, 2, none⟩ = some (.int .i64 0) := hb2
        clear hc0 hc1 hc2 hb0 hb1 hb2
        go_region_with (first
          | (go_at_call 23
             with_reducible refine HP0.out.mono ?_
             rintro e' w5 ⟨y, q, rfl, hy, hq⟩
             obtain ⟨d, hd⟩ : ∃ d, d = y % s.length := ⟨_, rfl⟩
             have hdl : d < s.length := hd ▸ Nat.mod_lt _ hs0
             have hm : (y : Int).tmod (s.length : Int) = (d : Int) := by rw [hd]; exact (Int.ofNat_tmod y s.length).symm
             have h50 : w5.cell? ⟨mb, 0, none⟩ = some (.slice A1 s.length c1) := by rw [hq]; exact hd0
             have h51 : w5.cell? ⟨mb, 1, none⟩ = some (.int .i64 0) := by rw [hq]; exact hd1
             have h52 : w5.cell? ⟨mb, 2, none⟩ = some (.int .i64 0) := by rw [hq]; exact hd2
             have hs5 : w5.heap.size = wr.heap.size := by rw [hq]; rfl
             have HR5 : Hid (Rd w5 w5.heap.size A1 (nl s)) := Lib.hid (by rw [hq]; exact HRD.out.drew.drewN q)
             have HBK5 : Hid (Blk w5 mb 26 #[.slice A1 s.length c1, .int .i64 0, .int .i64 0]) := Lib.hid (by rw [hq]; exact HBK.out.drew.drewN q)
             have HU5 : Hid (Upd (· = mb) wr w5) := Lib.hid (by rw [hq]; exact (Upd.refl _ wr).drew.drewN q)
             have HPUT := Lib.hid (put_calls c1 w5.heap.size A1 0 0 (s := s) (d := d) w5 HR5.out (Nat.le_refl _) HT.out hdl (by omega))
             clear hd hq)
          | (go_at_call 22
             with_reducible refine HPUT.out.mono ?_
             rintro e' w6 ⟨g6, c6, rfl, ho6, hb6⟩
             have HO6 := Lib.hid ho6
             have HB6 := Lib.hid hb6
             have hx0 := (hb6.cell (p := ⟨mb, 0, none⟩) (by show mb < w5.heap.size; omega)).trans h50
             have hx1 := (hb6.cell (p := ⟨mb, 1, none⟩) (by show mb < w5.heap.size; omega)).trans h51
             have hx2 := (hb6.cell (p := ⟨mb, 2, none⟩) (by show mb < w5.heap.size; omega)).trans h52
             have HBK6 : Hid (Blk w6 mb 26 #[.slice A1 s.length c1, .int .i64 0, .int .i64 0]) := Lib.hid (HBK5.out.below hb6 (by omega))
             have hxf : ∀ j, w6.frozen? ⟨mb, j, none⟩ = false := fun j => HBK6.out.frozen j
             clear ho6 hb6 HPUT))
        all_goals
          go_wp2_with fail
          go_meet
          obtain ⟨lam2, hT2⟩ := put_TR HT.out hdl
          have hgm : ∀ a, some (⟨g6, 0, none⟩ : Addr) = some a → a.block ≠ mb := fun a e => by
            cases e
            have := HO6.out.ge g6 rfl
            show g6 ≠ mb
            omega
          have hfin := tri_store (cs := (_, _, _)) (c2 := c6) HBK6.out (own_rd HO6.out) hgm (pst3_length _ _ _ _) hT2
          have hu6 : Upd (· = mb) wr w6 := HU5.out.trans (Upd.of_below HB6.out)
          have hN2 : 6 + 6 * (k + 1) = s.length + 6 := by have := HN.out; omega
          exact ⟨Lib.hid (by rw [hN2]; exact hfin), Lib.hid (((hu6.setCell (.inl rfl) _).setCell (.inl rfl) _).setCell (.inl rfl) _)⟩
      case rest =>
        obtain ⟨HST2, HU2⟩ := hcut
        have HU3 : Hid (Upd (· = mb) W3 wc) := Lib.hid (HU.out.trans (HU2.out.imp (fun _ _ e => e)))
        have hus2 := HU3.out.size
        clear HST HBr HBYr HBYd HBK HRD HA1 HT hc0 hc1 hc2 hb0 hb1 hb2 hn0 hn00 hs0 hsn
        have HBr : Hid (Below w.heap.size w wc) := Lib.hid (Below.upd_ HB3.out HU3.out (by omega) (fun k hk e => by omega))
        have HBYd : Hid (∀ m, Rby (wc.drewN m) B A n) := Lib.hid fun m => (HBY.out.below (HBr.out.mono hB)).below (below_drewN (Below.refl _ _) m)
        obtain ⟨a1, ha1⟩ : ∃ a1, a1 = a + 1 := ⟨_, rfl⟩
        have harg : ((a : Int) + 2 - 1) = (a1 : Int) := by omega
        have HP1 := Lib.hid (pick_calls A n c a1 B wc (HBYd.out 0) (by omega) hn)
        clear ha1
        go_wp2_with (go_at_call 23
                     with_reducible refine HP1.out.mono ?_
                     rintro e' w5 ⟨y, q, rfl, hy, hq⟩
                     obtain ⟨pb, hpb⟩ : ∃ pb, ((y : Int) % 2 == 0) = pb := ⟨_, rfl⟩
                     have HST5 : Hid (TriSt w5 mb (6 + 6 * (k + 1))) := Lib.hid (by rw [hq]; exact HST2.out.drewN q)
                     have HU5 : Hid (Upd (· = mb) W3 w5) := Lib.hid (by rw [hq]; exact HU3.out.drewN q)
                     have hsz5 : w5.heap.size = wc.heap.size := by rw [hq]; rfl
                     have HBY5 : Hid (∀ m, Rby (w5.drewN m) B A n) := Lib.hid fun m => by rw [hq, World.drewN_drewN]; exact HBYd.out _
                     clear hq)
        · obtain rfl : pb = true := by assumption
          obtain ⟨A1, c1, s, v, lam, hblk, hrd, hA1, hT, hsl⟩ := HST5.out
          obtain ⟨N, hN⟩ : ∃ N, N = 6 + 6 * (k + 1) := ⟨_, rfl⟩
          rw [← hN] at hblk hsl
          subst hsl
          have hsn : s.length ≤ 1000 := by omega
          have hs0 : 0 < s.length := hT.pos
          have hc0 : ∀ m, (w5.drewN m).cell? ⟨mb, 0, none⟩ = some (.slice A1 s.length c1) := fun m => by show w5.cell? _ = _; rw [hblk.cell]; rfl
          have hc1 : ∀ m, (w5.drewN m).cell? ⟨mb, 1, none⟩ = some (.int .i64 0) := fun m => by show w5.cell? _ = _; rw [hblk.cell]; rfl
          have hc2 : ∀ m, (w5.drewN m).cell? ⟨mb, 2, none⟩ = some (.int .i64 0) := fun m => by show w5.cell? _ = _; rw [hblk.cell]; rfl
          have hb0 : w5.cell? ⟨mb, 0, none⟩ = some (.slice A1 s.length c1) := hc0 0
          have hb1 : w5.cell? ⟨mb, 1, none⟩ = some (.int .i64 0) := hc1 0
          have hb2 : w5.cell? ⟨mb, 2, none⟩ = some (.int .i64 0) := hc2 0
          have hn0 : ¬ ((s.length : Int) = 0) := by omega
          have hn00 : ¬ (s.length = 0) := by omega
          have HBK := Lib.hid hblk
          have HRD := Lib.hid hrd
          have HA1 := Lib.hid hA1
          have HT := Lib.hid hT
          have HN := Lib.hid hN
          have hmw := hblk.lt
          obtain ⟨a2, ha2⟩ : ∃ a2, a2 = a + 2 := ⟨_, rfl⟩
          have harg2 : ((a : Int) + 2) = (a2 : Int) := by omega
          have ha2k : a2 + 1 ≤ 3 * (k + 1) := by omega
          have HAA := Lib.hid ha2
          rw [harg2]
          clear hblk hrd hA1 hT hN ha2 harg harg2 hpb
          go_cut [] from 34 to 42 (fun wx => Hid (TriSt wx mb (6 + 6 * (k + 1))) ∧ Hid (Upd (· = mb) w5 wx))
          case first =>
            have HP0 := Lib.hid (pick_calls A n c a2 B w5.drew (HBY5.out 1) (by omega) hn)
            have hd0 : w5.drew.cell? ⟨mb, 0, none⟩ = some (.slice A1 s.length c1) := hb0
            have hd1 : w5.drew.cell? ⟨mb, 1, none⟩ = some (.int .i64 0) := hb1
            have hd2 : w5.drew.cell? ⟨mb, 2, none⟩ = some (.int .i64 0) := hb2
            clear hc0 hc1 hc2 hb0 hb1 hb2
            go_region_with (first
              | (go_at_call 23
                 with_reducible refine HP0.out.mono ?_
                 rintro e' w7 ⟨y2, q2, rfl, hy2, hq⟩
                 obtain ⟨d, hd⟩ : ∃ d, d = y2 % s.length := ⟨_, rfl⟩
                 have hdl : d < s.length := hd ▸ Nat.mod_lt _ hs0
                 have hm : (y2 : Int).tmod (s.length : Int) = (d : Int) := by rw [hd]; exact (Int.ofNat_tmod y2 s.length).symm
                 have h50 : w7.cell? ⟨mb, 0, none⟩ = some (.slice A1 s.length c1) := by rw [hq]; exact hd0
                 have h51 : w7.cell? ⟨mb, 1, none⟩ = some (.int .i64 0) := by rw [hq]; exact hd1
                 have h52 : w7.cell? ⟨mb, 2, none⟩ = some (.int .i64 0) := by rw [hq]; exact hd2
                 have hs7 : w7.heap.size = w5.heap.size := by rw [hq]; rfl
                 have HR5 : Hid (Rd w7 w7.heap.size A1 (nl s)) := Lib.hid (by rw [hq]; exact HRD.out.drew.drewN q2)
                 have HBK5 : Hid (Blk w7 mb 26 #[.slice A1 s.length c1, .int .i64 0, .int .i64 0]) := Lib.hid (by rw [hq]; exact HBK.out.drew.drewN q2)
                 have HU5' : Hid (Upd (· = mb) w5 w7) := Lib.hid (by rw [hq]; exact (Upd.refl _ w5).drew.drewN q2)
                 have HPUT := Lib.hid (flip_calls c1 w7.heap.size A1 0 (s := s) (d := d) w7 HR5.out (Nat.le_refl _) HT.out hdl (by omega))
                 clear hd hq)
              | (go_at_call 24
                 with_reducible refine HPUT.out.mono ?_
                 rintro e' w8 ⟨A8, c6, s8, lam8, rfl, hr8, hl8, hT8, hb6, hA8⟩
                 have HR8 := Lib.hid hr8
                 have HL8 := Lib.hid hl8
                 have HT8 := Lib.hid hT8
                 have HA8 := Lib.hid hA8
                 have HB6 := Lib.hid hb6
                 have hx0 := (hb6.cell (p := ⟨mb, 0, none⟩) (by show mb < w7.heap.size; omega)).trans h50
                 have hx1 := (hb6.cell (p := ⟨mb, 1, none⟩) (by show mb < w7.heap.size; omega)).trans h51
                 have hx2 := (hb6.cell (p := ⟨mb, 2, none⟩) (by show mb < w7.heap.size; omega)).trans h52
                 have HBK6 : Hid (Blk w8 mb 26 #[.slice A1 s.length c1, .int .i64 0, .int .i64 0]) := Lib.hid (HBK5.out.below hb6 (by omega))
                 have hxf : ∀ j, w8.frozen? ⟨mb, j, none⟩ = false := fun j => HBK6.out.frozen j
                 clear hr8 hl8 hT8 hA8 hb6 HPUT))
            all_goals
              go_wp2_with fail
              go_meet
              have hgm : ∀ a, A8 = some a → a.block ≠ mb := fun a e => by
                rcases HA8.out with h | h
                · exact HA1.out a (h ▸ e)
                · have := h a e
                  omega
              have hfin := tri_store (cs := (_, _, _)) (c2 := c6) HBK6.out HR8.out hgm HL8.out HT8.out
              have hu6 : Upd (· = mb) w5 w8 := HU5'.out.trans (Upd.of_below HB6.out)
              have hN2 : 6 + 6 * (k + 1) = s.length := by have := HN.out; omega
              exact ⟨Lib.hid (by rw [hN2]; exact hfin), Lib.hid (((hu6.setCell (.inl rfl) _).setCell (.inl rfl) _).setCell (.inl rfl) _)⟩
          case rest =>
            obtain ⟨HST9, HU9⟩ := hcut
            have HU10 : Hid (Upd (· = mb) W3 wc) := Lib.hid (HU5.out.trans (HU9.out.imp (fun _ _ e => e)))
            go_wp2
            go_roundw
            case rel => exact ⟨k + 1, a2 + 1, by omega, by omega, by go_num, by go_num, HST9, HU10⟩
            case measure => simp [intOf]; omega
        · go_roundw
          case rel => exact ⟨k + 1, a + 2, by omega, by omega, by go_num, by go_num, HST5, HU5⟩
          case measure => simp [intOf]; omega
    · obtain rfl : k = inner := by omega
      have t1 : ¬ ((k : Int) < (k : Int)) := by omega
      obtain ⟨A1, c1, s, v, lam, hblk, hrd, hA1, hT, hsl⟩ := HST.out
      obtain ⟨N, hN⟩ : ∃ N, N = 6 + 6 * k := ⟨_, rfl⟩
      rw [← hN] at hblk hsl
      subst hsl
      have hs0 : 0 < s.length := hT.pos
      have hsn : s.length ≤ 1000 := by omega
      have hb0 : wr.cell? ⟨mb, 0, none⟩ = some (.slice A1 s.length c1) := by rw [hblk.cell]; rfl
      have hb1 : wr.cell? ⟨mb, 1, none⟩ = some (.int .i64 0) := by rw [hblk.cell]; rfl
      have hb2 : wr.cell? ⟨mb, 2, none⟩ = some (.int .i64 0) := by rw [hblk.cell]; rfl
      have hbf : wr.frozen? ⟨mb, 1, none⟩ = false := hblk.frozen 1
      obtain ⟨d, hd⟩ : ∃ d, d = z % s.length := ⟨_, rfl⟩
      have hdl : d < s.length := hd ▸ Nat.mod_lt _ hs0
      have hm : (z : Int).tmod (s.length : Int) = (d : Int) := by rw [hd]; exact (Int.ofNat_tmod z s.length).symm
      have hm2 : (z : Int) % (s.length : Int) = (d : Int) := by rw [hd]; rfl
      have hn0 : ¬ ((s.length : Int) = 0) := by omega
      have hn00 : ¬ (s.length = 0) := by omega
      have hzr : Blk wr w.heap.size 26 #[.slice none 0 0, .int .i64 0, .int .i64 0] := HZ3.out.upd HU.out (fun e => absurd (show w.heap.size = mb from e) (by omega))
      have hwne : w.heap.size ≠ mb := by omega
      have hz2 := hzr.far (p := ⟨mb, 1, none⟩) hwne (.int .i64 (d : Int))
      have hz0 : (wr.setCell ⟨mb, 1, none⟩ (.int .i64 (d : Int))).cell? ⟨w.heap.size, 0, none⟩ = some (.slice none 0 0) := by rw [hz2.cell]; rfl
      have hz1 : (wr.setCell ⟨mb, 1, none⟩ (.int .i64 (d : Int))).cell? ⟨w.heap.size, 1, none⟩ = some (.int .i64 0) := by rw [hz2.cell]; rfl
      have hz2' : (wr.setCell ⟨mb, 1, none⟩ (.int .i64 (d : Int))).cell? ⟨w.heap.size, 2, none⟩ = some (.int .i64 0) := by rw [hz2.cell]; rfl
      have hzf0 := hz2.frozen 0
      have hzf1 := hz2.frozen 1
      have hzf2 := hz2.frozen 2
      have HZR := Lib.hid hz2
      have hAw : ∀ a, A1 = some a → a.block ≠ w.heap.size := by
        intro a e hbl
        rcases hrd with h0 | ⟨b9, o9, e9, _, hc9⟩
        · have h9 : (nl s).length = 0 := by rw [h0]; rfl
          rw [nl_length] at h9
          omega
        · rw [e9] at e
          cases e
          have hbl : b9 = w.heap.size := hbl
          have hbig := hT.big
          have h5 := hc9 5 (by rw [nl_length]; omega)
          rw [hbl, hzr.cell, Array.getElem?_eq_none (by simp)] at h5
          cases h5
      have HAW := Lib.hid hAw
      clear hAw
      have HRD := Lib.hid hrd
      have HA1 := Lib.hid hA1
      have HT := Lib.hid hT
      have HN := Lib.hid hN
      clear hblk hrd hA1 hT hN hd hzr hz2
      go_wp2
      have hres : Blk ((((wr.setCell ⟨mb, 1, none⟩ (.int .i64 (d : Int))).setCell ⟨w.heap.size, 0, none⟩ (.slice A1 s.length c1)).setCell ⟨w.heap.size, 1, none⟩ (.int .i64 (d : Int))).setCell ⟨w.heap.size, 2, none⟩ (.int .i64 0)) w.heap.size 26 #[.slice A1 s.length c1, .int .i64 (d : Int), .int .i64 0] :=
        ((HZR.out.set_ 0 _).set_ 1 _).set_ 2 _
      refine bodyPost_ret (results_cell_row rfl _ _ w.heap.size 26 _ (0, 0) _ (by rfl) hres Try.underlying26 rfl (by kernel_rfl)) rfl ?_
      have hrd2 := (((HRD.out.far (p := ⟨mb, 1, none⟩) HA1.out (.int .i64 (d : Int))).far (p := ⟨w.heap.size, 0, none⟩) HAW.out (.slice A1 s.length c1)).far (p := ⟨w.heap.size, 1, none⟩) HAW.out (.int .i64 (d : Int))).far (p := ⟨w.heap.size, 2, none⟩) HAW.out (.int .i64 0)
      have hb9 : Below w.heap.size w ((((wr.setCell ⟨mb, 1, none⟩ (.int .i64 (d : Int))).setCell ⟨w.heap.size, 0, none⟩ (.slice A1 s.length c1)).setCell ⟨w.heap.size, 1, none⟩ (.int .i64 (d : Int))).setCell ⟨w.heap.size, 2, none⟩ (.int .i64 0)) := by
        have h1 : w.heap.size ≤ mb := by omega
        refine Below.setCell (p := ⟨w.heap.size, 2, none⟩) ?_ (Nat.le_refl _) _
        refine Below.setCell (p := ⟨w.heap.size, 1, none⟩) ?_ (Nat.le_refl _) _
        refine Below.setCell (p := ⟨w.heap.size, 0, none⟩) ?_ (Nat.le_refl _) _
        exact Below.setCell (p := ⟨mb, 1, none⟩) HBr.out h1 _
      refine ⟨A1, c1, s, d, rfl, ?_, ⟨_, _, HT.out⟩, hdl, HN.out, hb9⟩
      rw [set_size, set_size, set_size, set_size]
      exact hrd2
end
end Go.Proofs.Ythakkchmegnlhaa

namespace Go.Proofs.Ythakkchmegnlhaa
open Go.RowKit Pq

theorem TR_okm {s : List Nat} {v : Nat} {lam : Nat → Nat} (T : TR s.length v (sg s) lam) (h : s.length ≤ 131072) : Okm s 0 := ⟨T.pm, T.ev, h, by omega⟩
theorem TR_triB {s : List Nat} {v : Nat} {lam : Nat → Nat} (T : TR s.length v (sg s) lam) : triB s 0 = true := (tri_iff T.pm T.ev).2 ⟨rfl, T.trg⟩

section
variable {s : List Nat} {w : World}
set_option maxRecDepth 100000 in
set_option maxHeartbeats 2000000 in
theorem of_calls (A : Option Addr) (c B r : Nat) (hr : Rd w B A (nl s)) (hB : B ≤ w.heap.size) (hok : Okm s 0) (hrt : r < s.length) :
    Calls Try.prog 8 #[.agg #[.slice A s.length c, .int .i64 (r : Int), .int .i64 0]] w fun e w' =>
      ∃ M : MR, (∀ k, M.set k → w.heap.size ≤ k) ∧ e = .returned (.pointer (some ⟨M.b, 0, none⟩)) ∧ MapAt w' M s (r : Int) 0 false false false ∧ Below w.heap.size w w' := by
  obtain ⟨W1, hW1⟩ : ∃ W1, W1 = w.alloc (.cells #[.slice A s.length c, .int .i64 (r : Int), .int .i64 0] 26) := ⟨_, rfl⟩
  have hb1 : Below w.heap.size w W1 := by rw [hW1]; exact ba (Below.refl _ _) _
  have HN := Lib.hid (New_calls A c B s (r : Int) 0 W1 (hr.below (hb1.mono hB)) (Nat.le_trans hB hb1.size) hok (fun h => by omega) (fun _ => ⟨by omega, by omega⟩))
  have HB1 := Lib.hid hb1
  have hs1 := hb1.size
  have HE := Lib.hid hW1
  clear hr hok hb1 hW1
  go_enter Try.func8, Try.ntmps8
  go_wp2_with (go_at_call 25; rw [← HE.out]; refine HN.out.mono ?_; rintro e w2 ⟨M, hM, rfl, hm, hb⟩; have HM := Lib.hid hM; have HMM := Lib.hid hm; have HB2 := Lib.hid (HB1.out.trans (hb.mono hs1)); clear hM hm hb)
  go_ret
  exact ⟨M, fun k hk => Nat.le_trans hs1 (HM.out k hk), rfl, HMM.out, HB2.out⟩
end

theorem rd_upd {S : Nat → Prop} {w w' : World} {B g : Nat} {xs : List Int} (h : Rd w B (some ⟨g, 0, none⟩) xs) (hu : Upd S w w') (hB : B ≤ w.heap.size) (hg : ¬ S g) : Rd w' w'.heap.size (some ⟨g, 0, none⟩) xs := by
  rcases h with h | ⟨b, off, e, hb, hc⟩
  · exact .inl h
  · cases e
    exact .inr ⟨g, 0, rfl, by have := hu.size; omega, fun i hi => (hu.cell (show g < w.heap.size by omega) hg).trans (hc i hi)⟩
theorem tri_shl {G L : List Nat} {r : Nat} (T : Trg 6 (sg triL)) (H : Shl 6 (sg triL) r G L) (hr : r < 6) (h2 : L.length = 2) : G = [nm (sg triL) 6 (ph (sg triL) (ph (sg triL) r))] := by
  have S := H.shd T hr
  have hl := ordL_length T H hr h2
  have hc : cnt (sg triL) 6 = 3 := triL_TR.cnt
  have hgl : G.length = 1 := by rw [hc, ordL] at hl; simp at hl; omega
  obtain ⟨u, hu⟩ := List.length_eq_one_iff.1 hgl
  obtain ⟨q, a, W⟩ := S.went [] u [] (by rw [hu]; rfl)
  rw [hu, (W.2.2.2.2.2.2.1 rfl).1]

set_option maxRecDepth 100000 in
set_option maxHeartbeats 2000000 in
theorem awake_calls (w : World) : Calls Try.prog 6 #[] w fun e w' => e = .returned (.bool true) ∧ Below w.heap.size w w' := by
  obtain ⟨W1, hW1⟩ : ∃ W1, W1 = w.alloc (.cells #[.int .i64 5, .int .i64 2, .int .i64 1, .int .i64 4, .int .i64 3, .int .i64 0] 3) := ⟨_, rfl⟩
  have hb1 : Below w.heap.size w W1 := by rw [hW1]; exact ba (Below.refl _ _) _
  have h1 : Blk W1 w.heap.size 3 (ivs (nl triL)) := by rw [hW1]; exact Blk.newAt _ _ rfl
  have HO := Lib.hid (of_calls (w := W1) (s := triL) (some ⟨w.heap.size, 0, none⟩) 6 W1.heap.size 0 (h1.rd h1.lt) (Nat.le_refl _) (TR_okm triL_TR (by decide)) (by decide))
  have HB1 := Lib.hid hb1
  have hs1 := hb1.size
  have HE := Lib.hid hW1
  clear h1 hb1 hW1
  go_enter Try.func6, Try.ntmps6
  go_wp2_with (first
    | (go_at_call 8
       rw [← HE.out]
       refine HO.out.mono ?_
       rintro e w2 ⟨M, hM, rfl, hm, hb⟩
       have HB2 := Lib.hid (HB1.out.trans (hb.mono hs1))
       have hs2 : w.heap.size ≤ w2.heap.size := HB2.out.size
       have HMW := Lib.hid (fun k (hk : M.set k) => Nat.le_trans hs1 (hM k hk))
       have HML := Lib.hid hm.lt
       have HOR := Lib.hid (Order_calls hm (by decide) (TR_triB triL_TR))
       clear hM hm hb)
    | (go_at_call 9
       refine HOR.out.mono ?_
       rintro e w3 ⟨v, G, L, rfl, ho, hS, hL, hm, hu⟩
       have hG := tri_shl triL_TR.trg hS (by decide) hL
       subst hG
       have ho : Own w3 w2.heap.size 3 v (nl [nm (sg triL) 6 0, nm (sg triL) 6 (ph (sg triL) 0), nm (sg triL) 6 (ph (sg triL) (ph (sg triL) 0))]) := ho
       obtain ⟨g5, k5, hv5, hgB5, hg5, _⟩ := own3 ho
       subst hv5
       have HR3 := Lib.hid (own_rd ho)
       have HB3 := Lib.hid (Below.upd_ HB2.out hu (Nat.le_refl _) (fun k hk e => by have := HMW.out k e; omega))
       have hs3 := HB3.out.size
       have hs23 := hu.size
       have HCO := Lib.hid (Corners_calls hm (by decide) (TR_triB triL_TR))
       clear ho hS hL hm hu)
    | (go_at_call 20
       refine HCO.out.mono ?_
       rintro e w4 ⟨v4, rfl, ho, hm, hu⟩
       have hf := orb_face (s := triL) (r := 0) triL_TR.trg (by decide)
       rw [hf] at ho
       have ho : Own w4 w3.heap.size 3 v4 (nl [nm (sg triL) 6 0, nm (sg triL) 6 (ph (sg triL) 0), nm (sg triL) 6 (ph (sg triL) (ph (sg triL) 0))]) := ho
       obtain ⟨g6, k6, hv6, _, hg6, _⟩ := own3 ho
       subst hv6
       have HR4 := Lib.hid (own_rd ho)
       have HR34 := Lib.hid (rd_upd HR3.out hu (Nat.le_refl _) (fun e => by have := HML.out g5 e; omega))
       have HB4 := Lib.hid (Below.upd_ HB3.out hu (Nat.le_refl _) (fun k hk e => by have := HMW.out k e; omega))
       have HEQ := Lib.hid (Equal_calls w4 w4.heap.size w4.heap.size (some ⟨g5, 0, none⟩) (some ⟨g6, 0, none⟩) k5 k6 _ _ HR34.out HR4.out (by simp [nl]) (by simp [nl]))
       clear ho hm hu)
    | (go_at_call 21
       refine HEQ.out.mono ?_
       rintro e w5 ⟨rfl, q, rfl⟩
       rw [beq_self_eq_true]))
  go_ret
  exact ⟨rfl, below_drewN HB4.out q⟩
end Go.Proofs.Ythakkchmegnlhaa

namespace Go.Proofs.Ythakkchmegnlhaa
open Go.RowKit Pq

set_option maxRecDepth 100000 in
set_option maxHeartbeats 4000000 in
theorem ShellCounts_calls (w : World) (a z n c B : Nat) (A : Option Addr) (hby : Rby w B A n) (hB : B ≤ w.heap.size) (hn : n < 9223372036854775808) (hz : z < 256) :
    Calls Try.prog 3 #[.int .u8 (a : Int), .slice A n c, .int .u8 (z : Int)] w fun e w' => e = .returned (.bool true) ∧ Below w.heap.size w w' := by
  have HBY := Lib.hid hby
  have HAW := Lib.hid (awake_calls w)
  obtain ⟨i, hi⟩ : ∃ i, i = a % 16 := ⟨_, rfl⟩
  have hi17 : i ≤ 17 := by omega
  have e1 : (a : Int).tmod 16 = (i : Int) := by rw [hi]; exact (Int.ofNat_tmod a 16).symm
  have e2 : (a : Int) % 16 = (i : Int) := by omega
  clear hby hi
  go_enter Try.func3, Try.ntmps3
  go_wp2_with (first
    | (go_at_call 6
       refine HAW.out.mono ?_
       rintro e w1 ⟨rfl, hb1⟩
       have HB1 := Lib.hid hb1
       have hs1 := hb1.size
       have HTR := Lib.hid (RefTri_calls (inner := i) (n := n) (c := c) (z := z) (A := A) w1 B (HBY.out.below (hb1.mono hB)) (by omega) hi17 hn hz)
       clear hb1)
    | (go_at_call 7
       with_reducible refine HTR.out.mono ?_
       rintro e w2 ⟨A2, c2, s, r, v, lam, rfl, hrd, hT, hr, hsl, hb2⟩
       have HB2 := Lib.hid (HB1.out.trans (hb2.mono hs1))
       have HRD := Lib.hid hrd
       have HT := Lib.hid hT
       have HSL := Lib.hid hsl
       have hsn : s.length ≤ 131072 := by omega
       have hs2 : w.heap.size ≤ w2.heap.size := HB2.out.size
       clear hrd hT hsl hb2)
    | (go_at_call 8
       refine (of_calls (s := s) A2 c2 w2.heap.size r (HRD.out.alloc (Nat.le_refl _) _) (by simp) (TR_okm HT.out hsn) hr).mono ?_
       rintro e w3 ⟨M, hM, rfl, hm, hb3⟩
       have hwm : w2.heap.size ≤ (w2.alloc (.cells #[.slice A2 s.length c2, .int .i64 (r : Int), .int .i64 0] 26)).heap.size := by simp
       have HB3 := Lib.hid (HB2.out.trans (((ba (Below.refl w2.heap.size w2) _).trans (hb3.mono hwm)).mono hs2))
       have HML := Lib.hid hm.lt
       have HMW := Lib.hid (fun k (hk : M.set k) => Nat.le_trans hs2 (Nat.le_trans hwm (hM k hk)))
       have HOR := Lib.hid (Order_calls hm hr (TR_triB HT.out))
       clear hM hm hb3 hwm)
    | (go_at_call 9
       with_reducible refine HOR.out.mono ?_
       rintro e w4 ⟨v4, G, L, rfl, ho, hS, hL, hm, hu⟩
       have ho : Own w4 w3.heap.size 3 v4 (nl (ordL s.length (sg s) r G)) := ho
       have hol := ordL_length HT.out.trg hS hr hL
       obtain ⟨g5, k5, hv5, hgB5, hg5, hc5, _⟩ := ho.posI (by rw [nl_length, ordL]; simp)
       rw [nl_length, hol] at hv5
       subst hv5
       obtain ⟨V, hV⟩ : ∃ V, V = cnt (sg s) s.length := ⟨_, rfl⟩
       rw [← hV]
       have hVn : V ≤ s.length := by rw [hV]; exact cnt_le _ _
       have hV3 : 3 ≤ V := by
         have h1 := HT.out.cnt
         have h2 := HT.out.big
         have h3 := HT.out.pos
         omega
       have HVV := Lib.hid hV
       have HOL : Hid ((ordL s.length (sg s) r G).length = V) := Lib.hid (by rw [hol, hV])
       have HSH := Lib.hid hS
       have HLL := Lib.hid hL
       have HM4 := Lib.hid hm
       have HB4 := Lib.hid (Below.upd_ HB3.out hu (Nat.le_refl _) (fun k hk e => by have := HMW.out k e; omega))
       have hs4 := HB4.out.size
       have hs34 := HB3.out.size
       have HC5 : Hid (∀ j, j < V → w4.cell? ⟨g5, j, none⟩ = some (.int .i64 ((sg (ordL s.length (sg s) r G) j : Nat) : Int))) := Lib.hid fun j hj => by
         rw [hc5 j (by rw [nl_length, hol, ← hV]; exact hj), nl_getD]
       clear ho hol hc5 hV hS hL hm hu)
    | (at_make
       refine make_int rfl (.tmp 37) (.tmp 37) rfl V rfl rfl (by omega) ?_
       intro w5 hB5 hg5'
       have HP5 := Lib.hid hB5
       have HB45 := Lib.hid ((Below.refl w4.heap.size w4).grown hg5' (Nat.le_refl _) (fun k e => by cases e))
       clear hB5 hg5'))
  go_loopw [41] (fun i wr => ∃ k : Nat, ∃ t : List Nat, k ≤ V ∧ i = .int .i64 (k : Int) ∧ t.length = V ∧ Hid (∀ j, j < k → sg t (sg (ordL s.length (sg s) r G) j) = j) ∧ Hid (Blk wr w4.heap.size 3 (ivs (nl t))) ∧ Hid (Below w4.heap.size w4 wr)) (fun i _ => V - (intOf i).toNat)
  case atStart => exact ⟨0, List.replicate V 0, Nat.zero_le _, rfl, by simp, Lib.hid (fun j hj => absurd hj (by omega)), Lib.hid (by rw [show nl (List.replicate V 0) = List.replicate V 0 by simp [nl]]; exact HP5.out), HB45⟩
  case round =>
    obtain ⟨k, t, hk, rfl, htl, ht, HK, HBr⟩ := hrel
    clear HP5 HB45
    by_cases hlt : k < V
    · obtain ⟨u, hu⟩ : ∃ u, u = sg (ordL s.length (sg s) r G) k := ⟨_, rfl⟩
      have hck : wr.cell? ⟨g5, k, none⟩ = some (.int .i64 (u : Int)) := by rw [hu]; exact (HBr.out.cell hg5).trans (HC5.out k hlt)
      have huV : u < V := by
        rw [HVV.out]
        refine (ordL_mem HT.out.trg HSH.out hr HLL.out u).1 ?_
        rw [hu, sg, List.getD_eq_getElem?_getD, List.getElem?_eq_getElem (by rw [HOL.out]; exact hlt)]
        exact List.getElem_mem _
      obtain ⟨y, hy⟩ : ∃ y, y = (nl t).getD u 0 := ⟨_, rfl⟩
      have hcx : wr.cell? ⟨w4.heap.size, u, none⟩ = some (.int .i64 y) := by rw [HK.out.cell, ivs_get _ _ (by rw [nl_length, htl]; exact huV), hy]
      have hfx : wr.frozen? ⟨w4.heap.size, u, none⟩ = false := HK.out.frozen u
      have HUU := Lib.hid hu
      clear hu hy
      go_wp2
      go_roundw
      case rel =>
        refine ⟨k + 1, t.set u k, by omega, by go_num, by rw [List.length_set, htl], Lib.hid (fun j hj => ?_), Lib.hid ?_, Lib.hid (HBr.out.setCell (by simp) _)⟩
        · rw [sg_set (by omega)]
          by_cases e : j = k
          · rw [e, ← HUU.out, if_pos rfl]
          · rw [if_neg, ht.out j (by omega)]
            intro h
            have h1 := ht.out j (by omega)
            have hnd := ordL_nodup HT.out.trg HSH.out hr
            rw [HUU.out] at h
            have hjl : j < (ordL s.length (sg s) r G).length := by rw [HOL.out]; omega
            have hkl : k < (ordL s.length (sg s) r G).length := by rw [HOL.out]; omega
            rw [sg, sg, List.getD_eq_getElem?_getD, List.getD_eq_getElem?_getD, List.getElem?_eq_getElem hjl, List.getElem?_eq_getElem hkl] at h
            exact e ((List.getElem_inj hnd).1 h.symm)
        · rw [nl_set, ← ivs_set]
          exact HK.out.set_ _ _
      case measure => simp [intOf]; omega
    · obtain rfl : V = k := by omega
      have HPLC : Hid (Plc s.length (sg s) r G t) := Lib.hid (fun j hj => ht.out j (by rw [HOL.out] at hj; exact hj))
      go_wp2_with (at_make; refine make_int rfl (.tmp 52) (.tmp 52) rfl V rfl rfl (by omega) ?_; intro w6 hB6 hg6; have HP6 := Lib.hid hB6; have HB6 := Lib.hid (HBr.out.grown hg6 HBr.out.size (fun k e => by cases e)); have HK6 := Lib.hid (HK.out.grown hg6 (by simp)); clear hB6 hg6)
      have hs4r := HB6.out.size
      have HM6 := Lib.hid (HM4.out.below HB6.out)
      obtain ⟨wo, rfl⟩ : ∃ wo : World, wo = wr := ⟨_, rfl⟩
      have hpV : ∀ z, z < s.length → plD s.length (sg s) t z < V := fun z hz => by
        rw [HVV.out]
        exact HPLC.out.lt HT.out.trg HSH.out hr HLL.out (HT.out.pm.nm_lt hz)
      have HPV := Lib.hid hpV
      have hev := HT.out.ev
      have htl2 : t.length = V := htl
      clear hpV hk ht
      go_loopw [15] (fun dv w7 => ∃ m d : Nat, ∃ ed : List Nat, m ≤ s.length / 2 ∧ Hid (d = 2 * m) ∧ dv = .int .i64 (d : Int) ∧ ed.length = V ∧ Hid (∀ j, j < V → sg ed j = edC (plD s.length (sg s) t) m j) ∧ Hid (Blk w7 wo.heap.size 3 (ivs (nl ed))) ∧ Hid (Upd (· = wo.heap.size) w6 w7)) (fun dv _ => s.length - (intOf dv).toNat)
      case atStart => exact ⟨0, 0, List.replicate V 0, Nat.zero_le _, Lib.hid rfl, rfl, by simp, Lib.hid (fun j hj => by simp [sg, List.getD_eq_getElem?_getD, hj, edC]), Lib.hid (by rw [show nl (List.replicate V 0) = List.replicate V 0 by simp [nl]]; exact HP6.out), Lib.hid (Upd.refl _ _)⟩
      case round =>
        obtain ⟨m, d, ed, hm, HD, rfl, hel, hed, HE, HU⟩ := hrel
        have hwo : w4.heap.size < wo.heap.size := HK.out.lt
        have HBw : Hid (Below w4.heap.size w4 wr) := Lib.hid (Below.upd_ HB6.out HU.out (Nat.le_refl _) (fun k hk e => by omega))
        have HMw := Lib.hid (HM4.out.below HBw.out)
        have HKw : Hid (Blk wr w4.heap.size 3 (ivs (nl t))) := Lib.hid (HK6.out.upd HU.out (by show ¬ w4.heap.size = wo.heap.size; omega))
        clear HP6
        by_cases hlt : d < s.length
        · have t1 : ((d : Int) < (s.length : Int)) := by omega
          have hd2 : m < s.length / 2 := by have := HD.out; omega
          obtain ⟨d1, hd1⟩ : ∃ d1, d1 = d + 1 := ⟨_, rfl⟩
          have hd1l : d1 < s.length := by have := HD.out; omega
          have hd1e : (d : Int) + 1 = (d1 : Int) := by omega
          have hd1w : IntKind.i64.wrap (d1 : Int) = (d1 : Int) := by rw [IntWalk.i64_in _ (by omega)]
          obtain ⟨v0, hv0⟩ : ∃ v0, v0 = nm (sg s) s.length d := ⟨_, rfl⟩
          obtain ⟨v1, hv1⟩ : ∃ v1, v1 = nm (sg s) s.length d1 := ⟨_, rfl⟩
          have hv0V : v0 < V := by rw [hv0, HVV.out]; exact HT.out.pm.nm_lt hlt
          have hv1V : v1 < V := by rw [hv1, HVV.out]; exact HT.out.pm.nm_lt hd1l
          obtain ⟨p0, hp0⟩ : ∃ p0, p0 = sg t v0 := ⟨_, rfl⟩
          obtain ⟨p1, hp1⟩ : ∃ p1, p1 = sg t v1 := ⟨_, rfl⟩
          have hp0V : p0 < V := by rw [hp0, hv0]; exact HPV.out d hlt
          have hp1V : p1 < V := by rw [hp1, hv1]; exact HPV.out d1 hd1l
          obtain ⟨mx, hmx⟩ : ∃ mx, mx = max p0 p1 := ⟨_, rfl⟩
          have hmxV : mx < V := by rw [hmx]; exact Nat.max_lt.2 ⟨hp0V, hp1V⟩
          have hmxe : max (p0 : Int) (p1 : Int) = (mx : Int) := by rw [hmx]; omega
          obtain ⟨x, hx⟩ : ∃ x, x = sg ed mx := ⟨_, rfl⟩
          have hxb : x ≤ s.length := by
            rw [hx, hed.out mx hmxV]
            have := edC_le (plD s.length (sg s) t) m mx
            omega
          have q0 : wr.drew.cell? ⟨w4.heap.size, v0, none⟩ = some (.int .i64 (p0 : Int)) := by show wr.cell? _ = _; rw [HKw.out.cell, ivs_get _ _ (by rw [nl_length, htl]; exact hv0V), nl_getD, hp0]
          have q1 : wr.drew.cell? ⟨w4.heap.size, v1, none⟩ = some (.int .i64 (p1 : Int)) := by show wr.cell? _ = _; rw [HKw.out.cell, ivs_get _ _ (by rw [nl_length, htl]; exact hv1V), nl_getD, hp1]
          have q2 : wr.drew.cell? ⟨wo.heap.size, mx, none⟩ = some (.int .i64 (x : Int)) := by show wr.cell? _ = _; rw [HE.out.cell, ivs_get _ _ (by rw [nl_length, hel]; exact hmxV), nl_getD, hx]
          have q3 : wr.drew.frozen? ⟨wo.heap.size, mx, none⟩ = false := HE.out.frozen mx
          have q0' : wr.cell? ⟨w4.heap.size, v0, none⟩ = some (.int .i64 (p0 : Int)) := q0
          have q1' : wr.cell? ⟨w4.heap.size, v1, none⟩ = some (.int .i64 (p1 : Int)) := q1
          have q2' : wr.cell? ⟨wo.heap.size, mx, none⟩ = some (.int .i64 (x : Int)) := q2
          have q3' : wr.frozen? ⟨wo.heap.size, mx, none⟩ = false := q3
          have HV0 : Hid (Calls Try.prog 11 #[.pointer (some ⟨M.b, 0, none⟩), .int .i64 (d : Int)] wr.drew fun e w' => e = .returned (.int .i64 (v0 : Int)) ∧ wr.drew = w') := Lib.hid (by rw [hv0]; exact Vertex_warm HMw.out.drew d hlt)
          have HV1 : Hid (Calls Try.prog 11 #[.pointer (some ⟨M.b, 0, none⟩), .int .i64 (d1 : Int)] wr.drew fun e w' => e = .returned (.int .i64 (v1 : Int)) ∧ wr.drew = w') := Lib.hid (by rw [hv1]; exact Vertex_warm HMw.out.drew d1 hd1l)
          have HF := Lib.hid (And.intro hd1 (And.intro hv0 (And.intro hv1 (And.intro hp0 (And.intro hp1 (And.intro hmx hx))))))
          clear hd1 hv0 hv1 hp0 hp1 hmx hx
          go_wp2_with (go_at_call 10; refine (Darts_calls HMw.out).mono ?_; rintro e w9 ⟨rfl, rfl⟩)
          go_region_with (first
            | (go_at_call 11; with_reducible refine HV0.out.mono ?_; rintro e w9 ⟨rfl, rfl⟩)
            | (go_at_call 11; with_reducible refine HV1.out.mono ?_; rintro e w9 ⟨rfl, rfl⟩))
          all_goals
            go_wp2
            go_roundw
            case rel =>
              refine ⟨m + 1, d + 2, ed.set mx (x + 1), by omega, Lib.hid (by have := HD.out; omega), by go_num, by rw [List.length_set, hel], Lib.hid (fun j hj => ?_), Lib.hid ?_, Lib.hid (Upd.setCell (S := (· = wo.heap.size)) HU.out.drew (.inl rfl) _)⟩
              · obtain ⟨f1, f2, f3, f4, f5, f6, f7⟩ := HF.out
                rw [sg_set (by omega), edC_succ]
                have e0 : plD s.length (sg s) t (2 * m) = p0 := by rw [plD, ← HD.out, f4, f2]
                have e1 : plD s.length (sg s) t (2 * m + 1) = p1 := by rw [plD, ← HD.out, ← f1, f5, f3]
                rw [e0, e1, ← f6]
                by_cases e : mx = j
                · rw [if_pos e, if_pos e, f7, e, hed.out j hj]
                · rw [if_neg e, if_neg e, hed.out j hj, Nat.add_zero]
              · rw [nl_set, ← ivs_set]
                exact HE.out.drew.set_ _ _
            case measure => simp [intOf]; omega
        · have t1 : ¬ ((d : Int) < (s.length : Int)) := by omega
          have hmn : m = s.length / 2 := by have := HD.out; omega
          obtain ⟨k0, k1, k2, k3, k4⟩ := HPLC.out.counts HT.out.trg HSH.out hr HLL.out
          rw [← hmn] at k0 k1 k2 k3 k4
          rw [← HVV.out] at k3 k4
          obtain ⟨E, hE⟩ : ∃ E, E = edC (plD s.length (sg s) t) m := ⟨_, rfl⟩
          rw [← hE] at k0 k1 k2 k3 k4
          have hEl : ∀ j, E j ≤ 131072 := fun j => by rw [hE]; have := edC_le (plD s.length (sg s) t) m j; omega
          have HEE : Hid (∀ j, j < V → sg ed j = E j) := Lib.hid (by rw [hE]; exact hed.out)
          have hbig := HT.out.big
          have hcv := HT.out.cnt
          have hV6 : m + 6 = 3 * V := by have := HVV.out; omega
          have HK0 := Lib.hid k0
          have HK1 := Lib.hid k1
          have HK2 := Lib.hid k2
          have HK3 := Lib.hid k3
          have HK4 := Lib.hid k4
          have HEL := Lib.hid hEl
          have HMN := Lib.hid hmn
          have hVb : V ≤ 131072 := by omega
          have HBk : Hid (Below w.heap.size w wr) := Lib.hid (HB4.out.trans (HBw.out.mono hs4))
          have HEr := Lib.hid HE.out
          obtain ⟨w7, rfl⟩ : ∃ w7 : World, w7 = wr := ⟨_, rfl⟩
          have HDC := Lib.hid (Darts_calls HMw.out)
          clear k0 k1 k2 k3 k4 hEl hE hmn hbig hcv hed HU HBw HMw HKw HB6 HM6 HK6 HPV HPLC HM4 HC5 HSL HOR
          go_wp2_with (go_at_call 10; refine HDC.out.mono ?_; rintro e w9 ⟨rfl, rfl⟩)
          go_loopw [16, 81] (fun sv iv wz => ∃ k sm : Nat, k ≤ V ∧ sv = .int .i64 (sm : Int) ∧ iv = .int .i64 (k : Int) ∧ sm ≤ 131072 * k ∧ Hid (sm = ((List.range k).map E).sum) ∧ wz = w7) (fun _ iv _ => V - (intOf iv).toNat)
          case atStart => exact ⟨0, 0, Nat.zero_le _, rfl, rfl, by omega, Lib.hid rfl, rfl⟩
          case round =>
            obtain ⟨k, sm, hk, rfl, rfl, hsb, HSM, rfl⟩ := hrel
            by_cases hkV : k < V
            · obtain ⟨x, hx⟩ : ∃ x, x = E k := ⟨_, rfl⟩
              have hxl : x ≤ 131072 := hx ▸ HEL.out k
              have hck : wr.cell? ⟨wo.heap.size, k, none⟩ = some (.int .i64 (x : Int)) := by rw [HEr.out.cell, ivs_get _ _ (by rw [nl_length, hel]; exact hkV), nl_getD, HEE.out k hkV, hx]
              have HX := Lib.hid hx
              have hkk : k = 0 ∨ k = 1 ∨ 1 < k := by omega
              have hx0 : k = 0 → x = 0 := fun e => by rw [hx, e, HK0.out]
              have hx1 : k = 1 → x = 1 := fun e => by rw [hx, e, HK1.out]
              have hx2 : 1 < k → 2 ≤ x := fun e => by rw [hx]; exact HK3.out k e hkV
              clear hx
              have HSX : Hid (sm + x = ((List.range (k + 1)).map E).sum) := Lib.hid (by rw [List.range_succ, List.map_append, List.sum_append, ← HSM.out, List.map_cons, List.map_nil, List.sum_cons, List.sum_nil, ← HX.out, Nat.add_zero])
              clear HSM
              rcases hkk with h | h | h
              · have hx := hx0 h
                have b1 : ((k : Int) == 0) = true := by rw [h]; rfl
                have b2 : ((x : Int) != 0) = false := by rw [hx]; rfl
                have b3 : ((k : Int) == 1) = false := by rw [h]; rfl
                have b5 : ¬ ((1 : Int) < (k : Int)) := by omega
                have b7 : decide ((1 : Int) < (k : Int)) = false := decide_eq_false b5
                clear h hx hx0 hx1 hx2
                go_wp2
                go_roundw
                case rel => exact ⟨k + 1, sm + x, by omega, by go_num, by go_num, by omega, HSX, trivial⟩
                case measure => simp [intOf]; omega
              · have hx := hx1 h
                have b1 : ((k : Int) == 0) = false := by rw [h]; rfl
                have b3 : ((k : Int) == 1) = true := by rw [h]; rfl
                have b4 : ((x : Int) != 1) = false := by rw [hx]; rfl
                have b5 : ¬ ((1 : Int) < (k : Int)) := by omega
                have b7 : decide ((1 : Int) < (k : Int)) = false := decide_eq_false b5
                clear h hx hx0 hx1 hx2
                go_wp2
                go_roundw
                case rel => exact ⟨k + 1, sm + x, by omega, by go_num, by go_num, by omega, HSX, trivial⟩
                case measure => simp [intOf]; omega
              · have hx := hx2 h
                have b1 : ((k : Int) == 0) = false := beq_eq_false_iff_ne.2 (by omega)
                have b3 : ((k : Int) == 1) = false := beq_eq_false_iff_ne.2 (by omega)
                have b5 : ((1 : Int) < (k : Int)) := by omega
                have b6 : ¬ ((x : Int) < 2) := by omega
                have b7 : decide ((1 : Int) < (k : Int)) = true := decide_eq_true b5
                have b8 : decide ((x : Int) < 2) = false := decide_eq_false b6
                clear h hx hx0 hx1 hx2
                go_wp2
                go_roundw
                case rel => exact ⟨k + 1, sm + x, by omega, by go_num, by go_num, by omega, HSX, trivial⟩
                case measure => simp [intOf]; omega
            · obtain rfl : V = k := by omega
              have hsm : sm = m := by rw [HSM.out, HK4.out]
              have h2V : 2 < V := by omega
              have hc2 : wr.cell? ⟨wo.heap.size, 2, none⟩ = some (.int .i64 2) := by
                rw [HEr.out.cell, ivs_get _ _ (by rw [nl_length, hel]; exact h2V), nl_getD, HEE.out 2 h2V, HK2.out]
                rfl
              have b1 : ((sm : Int) == 3 * (V : Int) - 6) = true := beq_iff_eq.2 (by omega)
              clear hsm hV6
              go_wp2
              go_ret
              exact ⟨rfl, HBk.out⟩
end Go.Proofs.Ythakkchmegnlhaa

namespace Go.Proofs.Ythakkchmegnlhaa
open Go.ChangeShapes Go.WideShapes Go.ChangeAt Go.RowKit

theorem Try.own : ownKnob Try.prog.godebug = none := by kernel_rfl
theorem Try.cellsU8 : Try.prog.cellsOf 5 = 1 := by kernel_rfl

theorem u8_nat {m : Int} (h : (Lit.int .u8 m).wf = true) : ∃ k : Nat, k < 256 ∧ m = (k : Int) := by
  have h1 : IntKind.u8.min = 0 := rfl
  have h2 : IntKind.u8.max = 255 := rfl
  simp only [Lit.wf, Bool.and_eq_true, decide_eq_true_eq] at h
  exact ⟨m.toNat, by omega, by omega⟩

/-- A slice of bytes that came in. -/
theorem bytes_in {H : Type} {enc : TypeId × Value → H} {W : World} {base fuel len cap : Nat} {spare : Nat → Bool} {held : Bool} {a0 : Option Addr} {x : DataW H × List MemPlace}
    (hf : DataW.trod enc Try.prog W base spare held fuel 22 (Value.slice a0 len cap).cells.toList = some x) : Rby W W.heap.size a0 len ∧ len ≤ maxLen := by
  rcases open_ints Try.underlying22 Try.underlying5 Try.cellsU8 hf with ⟨hcs, _⟩ | ⟨a, len', cap', zs, hcs, _, hl, hm, hz, _, hcell, hwz⟩
  · simp [Value.cells] at hcs
    obtain ⟨_, h2, _⟩ := hcs
    exact ⟨.inl h2, by rw [h2]; exact Nat.zero_le _⟩
  · simp [Value.cells] at hcs
    obtain ⟨rfl, rfl, rfl⟩ := hcs
    refine ⟨?_, Nat.le_trans hl hm⟩
    have hlz : len ≤ zs.length := by rw [hz]; split <;> omega
    rcases Nat.eq_zero_or_pos len with h0 | h0
    · exact .inl h0
    · obtain ⟨b, off, spot⟩ := a
      have hspot : spot = none := by simpa [Addr.add] using World.cell?_spot (hcell 0 (by omega))
      subst hspot
      refine .inr ⟨b, off, rfl, ?_, fun i hi => ?_⟩
      · have h1 := hcell 0 (by omega)
        rw [add_plain] at h1
        rcases Nat.lt_or_ge b W.heap.size with h | h
        · exact h
        · simp [World.cell?, Array.getElem?_eq_none h] at h1
      · have h1 := hcell i (by omega)
        rw [add_plain] at h1
        obtain ⟨k, hk, e⟩ := u8_nat (hwz (zs.getD i 0) (by rw [List.getD_eq_getElem?_getD, List.getElem?_eq_getElem (by omega)]; exact List.getElem_mem _))
        rw [e] at h1
        exact ⟨k, hk, h1⟩

set_option maxRecDepth 100000 in
theorem shellCounts_lifted (os : Os) (started : os.Started) (H : Type) (enc : TypeId × Value → H) :
    ReturnsInHanded {} Try.checked os 3 .any (Rows.shellCountsSpec.pre6 enc Try.prog Try.f3 Rows.shellCountsRow.domain false) (Rows.shellCountsSpec.post enc Try.prog Try.f3 false true false false) := by
  refine returnsInHanded_of_change_sized (C := Try.checked) Try.own started (by kernel_rfl) Try.func3
    (ChangeSpec.witness6 (enc := enc) (C := Try.checked) false ⟨#[], #[.int .u8 0, .slice none 0 0, .int .u8 0], []⟩ 8 (by kernel_rfl) (by kernel_rfl) (by kernel_rfl) (by kernel_rfl)) ?_
  intro W base args ds gs before hval0 hW _ _ _
  have hval : ∀ (j : Nat) t v, Try.f3.params[j]? = some t → args[j]? = some v → Value.okWide Try.prog W .any base t v := hval0
  have hW' := hW
  obtain ⟨p, q, hA0, hV, rfl, _, _⟩ := hW
  have hA : DataW.TrodAll enc Try.prog W 0 (fun _ => true) true Try.f3.params.toList args.toList ds p := hA0
  rw [Try.params3] at hA hval
  obtain ⟨v0, v1, v2, d0, d1, d2, p0, p1, p2, rfl, rfl, rfl, h0, h1, h2⟩ := trodAll_three hA
  obtain ⟨rfl, rfl⟩ := trodVars_none hV
  obtain ⟨m0, rfl, rfl, rfl, w0⟩ := open_int Try.underlying5 (hval 0 5 v0 rfl rfl) h0
  obtain ⟨m2, rfl, rfl, rfl, w2⟩ := open_int Try.underlying5 (hval 2 5 v2 rfl rfl) h2
  obtain ⟨a0, len, cap, rfl⟩ := okWide_slice Try.underlying22 (hval 1 22 v1 rfl rfl)
  have h1k := h1
  obtain ⟨fuel, hf⟩ := h1
  clear hA0 hval0
  simp only [List.append_nil, List.nil_append] at hW'
  have hlt : ∀ x ∈ p1, x.block < W.heap.size := fun x hx => by simpa using hW'.lt x hx
  have hargs : ∀ (W' : World), Below W.heap.size W W' → DataW.Trod enc Try.prog W' 0 (fun b => decide (b < W.heap.size)) true 22 (.slice a0 len cap) d1 p1 :=
    fun W' hn => Below.trod Try.laidOut (by kernel_rfl) (of_decide_eq_true (by kernel_rfl)) h1k hn hlt
  obtain ⟨hby, hlen⟩ := bytes_in hf
  obtain ⟨k0, _, e0⟩ := u8_nat w0
  obtain ⟨k2, hk2, e2⟩ := u8_nat w2
  have hcall := ShellCounts_calls W k0 k2 len cap W.heap.size a0 hby (Nat.le_refl _) (by unfold maxLen at hlen; omega) hk2
  rw [← e0, ← e2] at hcall
  refine hcall.mono fun e W' ⟨he, hb⟩ => ?_
  subst he
  refine ⟨_, rfl, _, _, _, [], _, [], hW', ?_, trodAll_mk3 (shut_int Try.underlying5 w0) (hargs _ hb) (shut_int Try.underlying5 w2), rfl, hb.frame _, fun h => by cases h⟩
  exact trodAll_mk1 (shut_bool Try.underlying4 _)

theorem shellCounts_holds : Rows.ShellCountsSaid :=
  OpenClaim.holds_of_wide 3 Try.f3 rfl rfl rfl rfl rfl rfl rfl ⟨rfl, rfl, rfl, rfl, rfl⟩ rfl rfl rfl rfl rfl (by kernel_rfl) Try.func3 (by kernel_rfl)
    (of_decide_eq_true (by kernel_rfl)) (by unfold Func.isWrapper; first | (rw [if_pos (by decide +kernel)]; kernel_rfl) | (rw [if_neg (by decide +kernel)]; exact ⟨rfl, rfl⟩))
    (fun os started H enc _ => shellCounts_lifted os started H enc)
end Go.Proofs.Ythakkchmegnlhaa
