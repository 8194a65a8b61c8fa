/- Walks over the document's answer for layer 14: put. -/
import Derived.Test.YthakkchmegnlhaaR3
import Derived.Test.YthakkchmegnlhaaW21
namespace Go.Proofs.Ythakkchmegnlhaa
open Go.RowKit Pq

/-- Three stores into a row of numbers. -/
theorem own_three {W : World} {B g n c i j k : Nat} {t : List Nat} (h : Own W B 3 (.slice (some ⟨g, 0, none⟩) n c) (nl t)) (ht : t.length = n) (hi : i < n) (hj : j < n) (hk : k < n) {a x y : Nat} {a' x' y' : Int} (ha : a' = a) (hx : x' = x) (hy : y' = y) :
    (∃ u1, W.cell? ⟨g, i, none⟩ = some (.int .i64 u1)) ∧ W.frozen? ⟨g, i, none⟩ = false ∧
    (∃ u2, (W.setCell ⟨g, i, none⟩ (.int .i64 a')).cell? ⟨g, j, none⟩ = some (.int .i64 u2)) ∧ (W.setCell ⟨g, i, none⟩ (.int .i64 a')).frozen? ⟨g, j, none⟩ = false ∧
    (∃ u3, ((W.setCell ⟨g, i, none⟩ (.int .i64 a')).setCell ⟨g, j, none⟩ (.int .i64 x')).cell? ⟨g, k, none⟩ = some (.int .i64 u3)) ∧ ((W.setCell ⟨g, i, none⟩ (.int .i64 a')).setCell ⟨g, j, none⟩ (.int .i64 x')).frozen? ⟨g, k, none⟩ = false ∧
    Own (((W.setCell ⟨g, i, none⟩ (.int .i64 a')).setCell ⟨g, j, none⟩ (.int .i64 x')).setCell ⟨g, k, none⟩ (.int .i64 y')) B 3 (.slice (some ⟨g, 0, none⟩) n c) (nl (((t.set i a).set j x).set k y)) := by
  subst ha hx hy
  have key : ∀ {W : World} {t : List Nat}, Own W B 3 (.slice (some ⟨g, 0, none⟩) n c) (nl t) → t.length = n → ∀ i, i < n → (∃ u1, W.cell? ⟨g, i, none⟩ = some (.int .i64 u1)) ∧ W.frozen? ⟨g, i, none⟩ = false := by
    intro W t h ht i hi
    obtain ⟨g', c', e, _, _, hc, hf⟩ := h.posI (by rw [nl_length]; omega)
    injection e with e
    injection e with e
    injection e with e
    subst e
    exact ⟨⟨_, hc i (by rw [nl_length]; omega)⟩, hf i⟩
  have h1 := h.store i (a : Int)
  rw [← nl_set] at h1
  have h2 := h1.store j (x : Int)
  rw [← nl_set] at h2
  have h3 := h2.store k (y : Int)
  rw [← nl_set] at h3
  have k1 := key h ht i hi
  have k2 := key h1 (by rw [List.length_set, ht]) j hj
  have k3 := key h2 (by rw [List.length_set, List.length_set, ht]) k hk
  exact ⟨k1.1, k1.2, k2.1, k2.2, k3.1, k3.2, h3⟩
def pstk (s : List Nat) (d x1 x2 : Nat) : Nat → List Nat
  | 0 => pst0 s
  | 1 => pst1 s d x2
  | 2 => pst2 s d x1 x2
  | _ => pst3 s d x1 x2
theorem pstk_length (s : List Nat) (d x1 x2 k : Nat) : (pstk s d x1 x2 k).length = s.length + 6 := by
  match k with
  | 0 => exact pst0_length s
  | 1 => exact pst1_length s d x2
  | 2 => exact pst2_length s d x1 x2
  | _ + 3 => exact pst3_length s d x1 x2

section
variable {s : List Nat} {v d : Nat} {lam : Nat → Nat}
set_option maxRecDepth 100000 in
set_option maxHeartbeats 4000000 in
theorem put_calls (c B : Nat) (A : Option Addr) (root lone : Int) (w : World) (hr : Rd w B A (nl s)) (hB : B ≤ w.heap.size) (T : TR s.length v (sg s) lam) (hd : d < s.length) (hn : s.length ≤ 100000) :
    Calls Try.prog 22 #[.agg #[.slice A s.length c, .int .i64 root, .int .i64 lone], .int .i64 d] w fun e w' =>
      ∃ g c', e = .returned (.agg #[.slice (some ⟨g, 0, none⟩) (s.length + 6) c', .int .i64 root, .int .i64 0]) ∧
        Own w' w.heap.size 3 (.slice (some ⟨g, 0, none⟩) (s.length + 6) c') (nl (pst3 s d (ph (sg s) d) (ph (sg s) (ph (sg s) d)))) ∧ Below w.heap.size w w' := by
  have HR := Lib.hid hr
  have HT := Lib.hid T
  have hev := T.ev
  have hpos := T.pos
  have hface := orb_face T.trg hd
  have HF := Lib.hid hface
  obtain ⟨x1, hx1⟩ : ∃ x1, x1 = ph (sg s) d := ⟨_, rfl⟩
  obtain ⟨x2, hx2⟩ : ∃ x2, x2 = ph (sg s) x1 := ⟨_, rfl⟩
  have l1 : x1 < s.length := hx1 ▸ T.pl hd
  have l2 : x2 < s.length := hx2 ▸ T.pl l1
  rw [← hx1, ← hx2] at hface ⊢
  have HFA := Lib.hid hface
  obtain ⟨n6, hn6⟩ : ∃ n6, n6 = s.length + 6 := ⟨_, rfl⟩
  rw [← hn6]
  have HN6 := Lib.hid hn6
  have hpp : Pm (phiL s).length (sg (phiL s)) := phiL_pm T.pm hev
  have hpl := phiL_length s
  have HPP := Lib.hid hpp
  have HPL := Lib.hid hpl
  clear hr T hface hx1 hx2 hn6 hpp hpl HF
  go_enter Try.func22, Try.ntmps22
  obtain ⟨W2, hW2⟩ : ∃ W2, W2 = (w.alloc (.cells #[.slice A s.length c, .int .i64 root, .int .i64 lone] 26)).alloc (.cells #[.slice none 0 0, .int .i64 0, .int .i64 0] 26) := ⟨_, rfl⟩
  have hs2 : W2.heap.size = w.heap.size + 2 := by rw [hW2]; simp
  have hb2 : Below w.heap.size w W2 := by rw [hW2]; exact ba (ba (Below.refl _ _) _) _
  have hm : Blk W2 w.heap.size 26 #[.slice A s.length c, .int .i64 root, .int .i64 lone] := by rw [hW2]; exact (Blk.new _ _ _).alloc _
  have hz : Blk W2 (w.heap.size + 1) 26 #[.slice none 0 0, .int .i64 0, .int .i64 0] := by
    rw [hW2]
    have := Blk.new (w.alloc (.cells #[.slice A s.length c, .int .i64 root, .int .i64 lone] 26)) 26 #[.slice none 0 0, .int .i64 0, .int .i64 0]
    rw [show (w.alloc (.cells #[.slice A s.length c, .int .i64 root, .int .i64 lone] 26)).heap.size = w.heap.size + 1 by simp] at this
    exact this
  have HPC : Hid (Calls Try.prog 43 #[.agg #[.slice A s.length c, .int .i64 root, .int .i64 lone]] W2 fun e w' => ∃ v, e = .returned v ∧ Own w' W2.heap.size 3 v (nl (phiL s)) ∧ Below W2.heap.size W2 w') :=
    Lib.hid (Phi6_calls c B A s root lone W2 (HR.out.below (hb2.mono hB)) (by omega) hev (by omega))
  have HB2 := Lib.hid hb2
  have HM := Lib.hid hm
  have HZ := Lib.hid hz
  clear hm hz hb2
  go_wp2_with (first
    | (go_at_call 43; rw [← hW2]; refine HPC.out.mono ?_; rintro e w3 ⟨v3, rfl, ho3, hb3⟩; obtain ⟨A3, c3, rfl, _, _, hr3, _⟩ := ho3.formN; have HB3 := Lib.hid hb3; have HR3 := Lib.hid hr3; have hs3 := hb3.size; clear hr3 ho3 hb3)
    | (go_at_call 40; refine (Orbit5_calls c3 w3.heap.size A3 (phiL s) d w3 HR3.out (Nat.le_refl _) (by rw [HPL.out]; exact hd) HPP.out (by rw [HPL.out]; omega)).mono ?_; rintro e w4 ⟨v4, rfl, ho4, hb4⟩; rw [HFA.out] at ho4; obtain ⟨g4, k4, rfl, hg4, hg4l, h40, h41, h42⟩ := own3 ho4; have hs4 := hb4.size; have HB4 := Lib.hid (HB3.out.trans (hb4.mono hs3)); have hm0 : w4.cell? ⟨w.heap.size, 0, none⟩ = some (.slice A s.length c) := (HB4.out.cell (by show w.heap.size < W2.heap.size; omega)).trans (by rw [HM.out.cell]; rfl); have hm1 : w4.cell? ⟨w.heap.size, 1, none⟩ = some (.int .i64 root) := (HB4.out.cell (by show w.heap.size < W2.heap.size; omega)).trans (by rw [HM.out.cell]; rfl); have hm0a : ∀ o, (w4.alloc o).cell? ⟨w.heap.size, 0, none⟩ = some (.slice A s.length c) := fun o => (World.cell?_alloc_past _ _ _ (by show w.heap.size < w4.heap.size; omega)).trans hm0; clear ho4 hb4)
    | (at_builtin
       obtain ⟨g5, c5, w5, hr5, ho5, hu5⟩ := run_app_list (w := w4.alloc (.cells #[] 3)) (base := w4.heap.size) (v := .slice (some ⟨w4.heap.size, 0, none⟩) 0 0) (xs := []) (ys := nl s) (A := A) (B := B) (c := c)
         (Own.of_blk (xs := []) (Blk.new w4 3 #[]) (Nat.le_refl _) (by simp)) ((HR.out.below (((HB2.out.trans (HB4.out.mono (by omega))).mono hB))).alloc (by omega) _) (by rw [nl_length]; exact hpos) (by rw [nl_length]; simp; omega) (by simp) 24
       rw [nl_length] at hr5
       rw [show ([] : List Int).length + s.length = s.length by simp] at hr5
       rw [nl_length, show ([] : List Int).length + s.length = s.length by simp, List.nil_append] at ho5
       refine Lib.wpList_append_run _ rfl (.tmp 21) (.tmp 23) _ _ rfl _ _ rfl rfl _ _ hr5 ?_
       have HO5 := Lib.hid ho5
       have hb5 : Below w4.heap.size w4 w5 := Below.upd_ (ba (Below.refl w4.heap.size w4) _) hu5 (Nat.le_refl _) (fun k hk e => absurd (show w4.heap.size = k by simpa [Value.ownBlock] using e) (by omega))
       have hs5 := hb5.size
       have HB5 := Lib.hid hb5
       clear ho5 hu5 hr5 hb5)
    | (at_builtin
       obtain ⟨g6, c6, w6, hr6, ho6, hu6⟩ := run_app_zeros HO5.out 6 (by omega) (by rw [nl_length]; omega) hs5 (by rw [nl_length]; exact hpos) 24
       rw [nl_length, ← HN6.out] at hr6 ho6
       refine Lib.wpList_append_run _ rfl (.tmp 24) (.tmp 27) _ _ rfl _ _ rfl rfl _ _ hr6 ?_
       have HO6 : Hid (Own w6 w4.heap.size 3 (.slice (some ⟨g6, 0, none⟩) n6 c6) (nl (pst0 s))) := Lib.hid (by rw [pst0, nl_append, show nl (List.replicate 6 0) = List.replicate 6 0 from rfl]; exact ho6)
       have hb6 : Below w4.heap.size w4 w6 := Below.upd_ HB5.out hu6 (Nat.le_refl _) (fun k hk e => by have := HO5.out.ge k e; omega)
       have HB6 := Lib.hid hb6
       have hs6 := hb6.size
       clear ho6 hu6 hr6 hb6))
  go_loopw [31] (fun i wr => ∃ k, k ≤ 3 ∧ i = .int .i64 ((k : Nat) : Int) ∧ Hid (Own wr w4.heap.size 3 (.slice (some ⟨g6, 0, none⟩) n6 c6) (nl (pstk s d x1 x2 k))) ∧ Hid (Upd (· = g6) w6 wr)) (fun i _ => 3 - (intOf i).toNat)
  case atStart => exact ⟨0, by omega, rfl, HO6, Lib.hid (Upd.refl _ _)⟩
  case round =>
    obtain ⟨k, hk, rfl, HOr, HUr⟩ := hrel
    have hg6 := HO6.out.ge g6 rfl
    have h40r : wr.cell? ⟨g4, 0, none⟩ = some (.int .i64 (d : Int)) := (HUr.out.cell (by show g4 < w6.heap.size; omega) (fun e => absurd (show g4 = g6 from e) (by omega))).trans ((HB6.out.cell hg4l).trans h40)
    have h41r : wr.cell? ⟨g4, 1, none⟩ = some (.int .i64 (x1 : Int)) := (HUr.out.cell (by show g4 < w6.heap.size; omega) (fun e => absurd (show g4 = g6 from e) (by omega))).trans ((HB6.out.cell hg4l).trans h41)
    have h42r : wr.cell? ⟨g4, 2, none⟩ = some (.int .i64 (x2 : Int)) := (HUr.out.cell (by show g4 < w6.heap.size; omega) (fun e => absurd (show g4 = g6 from e) (by omega))).trans ((HB6.out.cell hg4l).trans h42)
    have hkk : k = 0 ∨ k = 1 ∨ k = 2 ∨ k = 3 := by omega
    rcases hkk with rfl | rfl | rfl | rfl
    · obtain ⟨m2, hm2⟩ : ∃ m2, m2 = mate x2 := ⟨_, rfl⟩
      have hm2l : m2 < s.length := by rw [hm2]; exact mate_lt hev l2
      have hnn := HN6.out
      have hi1 : m2 < n6 := by omega
      have hi2 : s.length < n6 := by omega
      have hi3 : s.length + 1 < n6 := by omega
      obtain ⟨⟨u1, f1⟩, g1, ⟨u2, f2⟩, g2, ⟨u3, f3⟩, g3, hfin⟩ := own_three HOr.out (by rw [pstk_length, HN6.out]) hi1 hi2 hi3 (a := s.length) (x := d) (y := s.length + 5) (a' := (s.length : Int)) (x' := (d : Int)) (y' := (s.length : Int) + 5) rfl rfl rfl
      have HFIN := Lib.hid hfin
      have HMT := Lib.hid (Mate6_calls x2 (by omega) wr)
      rw [← hm2] at HMT
      have HM2 := Lib.hid hm2
      clear hfin hm2 hnn
      go_wp2_with (go_at_call 41; refine HMT.out.mono ?_; rintro e w9 ⟨rfl, rfl⟩)
      go_roundw
      case rel =>
        refine ⟨1, by omega, by go_num, Lib.hid ?_, Lib.hid (((HUr.out.setCell (.inl rfl) _).setCell (.inl rfl) _).setCell (.inl rfl) _)⟩
        have h := HFIN.out
        rw [HM2.out] at h ⊢
        exact h
      case measure => simp [intOf]
    · rw [show ((1 : Nat) : Int) = 1 from rfl]
      obtain ⟨m2, hm2⟩ : ∃ m2, m2 = mate d := ⟨_, rfl⟩
      have hm2l : m2 < s.length := by rw [hm2]; exact mate_lt hev hd
      have hnn := HN6.out
      have hi1 : m2 < n6 := by omega
      have hi2 : s.length + 2 < n6 := by omega
      have hi3 : s.length + 3 < n6 := by omega
      obtain ⟨⟨u1, f1⟩, g1, ⟨u2, f2⟩, g2, ⟨u3, f3⟩, g3, hfin⟩ := own_three HOr.out (by rw [pstk_length, HN6.out]) hi1 hi2 hi3 (a := s.length + 2) (x := x1) (y := s.length + 1) (a' := (s.length : Int) + 2) (x' := (x1 : Int)) (y' := (s.length : Int) + 1) rfl rfl rfl
      have HFIN := Lib.hid hfin
      have HMT := Lib.hid (Mate6_calls d (by omega) wr)
      rw [← hm2] at HMT
      have HM2 := Lib.hid hm2
      clear hfin hm2 hnn
      go_wp2_with (go_at_call 41; refine HMT.out.mono ?_; rintro e w9 ⟨rfl, rfl⟩)
      go_roundw
      case rel =>
        refine ⟨2, by omega, by go_num, Lib.hid ?_, Lib.hid (((HUr.out.setCell (.inl rfl) _).setCell (.inl rfl) _).setCell (.inl rfl) _)⟩
        have h := HFIN.out
        rw [HM2.out] at h ⊢
        exact h
      case measure => simp [intOf]
    · rw [show ((2 : Nat) : Int) = 2 from rfl]
      obtain ⟨m2, hm2⟩ : ∃ m2, m2 = mate x1 := ⟨_, rfl⟩
      have hm2l : m2 < s.length := by rw [hm2]; exact mate_lt hev l1
      have hnn := HN6.out
      have hi1 : m2 < n6 := by omega
      have hi2 : s.length + 4 < n6 := by omega
      have hi3 : s.length + 5 < n6 := by omega
      obtain ⟨⟨u1, f1⟩, g1, ⟨u2, f2⟩, g2, ⟨u3, f3⟩, g3, hfin⟩ := own_three HOr.out (by rw [pstk_length, HN6.out]) hi1 hi2 hi3 (a := s.length + 4) (x := x2) (y := s.length + 3) (a' := (s.length : Int) + 4) (x' := (x2 : Int)) (y' := (s.length : Int) + 3) rfl rfl rfl
      have HFIN := Lib.hid hfin
      have HMT := Lib.hid (Mate6_calls x1 (by omega) wr)
      rw [← hm2] at HMT
      have HM2 := Lib.hid hm2
      clear hfin hm2 hnn
      go_wp2_with (go_at_call 41; refine HMT.out.mono ?_; rintro e w9 ⟨rfl, rfl⟩)
      go_roundw
      case rel =>
        refine ⟨3, by omega, by go_num, Lib.hid ?_, Lib.hid (((HUr.out.setCell (.inl rfl) _).setCell (.inl rfl) _).setCell (.inl rfl) _)⟩
        have h := HFIN.out
        rw [HM2.out] at h ⊢
        exact h
      case measure => simp [intOf]
    · have hwm : wr.cell? ⟨w.heap.size, 1, none⟩ = some (.int .i64 root) := (HUr.out.cell (by show w.heap.size < w6.heap.size; omega) (fun e => absurd (show w.heap.size = g6 from e) (by omega))).trans ((HB6.out.cell (by show w.heap.size < w4.heap.size; omega)).trans hm1)
      have hz4 : Blk w4 (w.heap.size + 1) 26 #[.slice none 0 0, .int .i64 0, .int .i64 0] := HZ.out.below HB4.out (by omega)
      have hzr : Blk wr (w.heap.size + 1) 26 #[.slice none 0 0, .int .i64 0, .int .i64 0] := (hz4.below HB6.out (by omega)).upd HUr.out (fun e => absurd (show w.heap.size + 1 = g6 from e) (by omega))
      have hz0 : wr.cell? ⟨w.heap.size + 1, 0, none⟩ = some (.slice none 0 0) := by rw [hzr.cell]; rfl
      have hz1 : wr.cell? ⟨w.heap.size + 1, 1, none⟩ = some (.int .i64 0) := by rw [hzr.cell]; rfl
      have hz2 : wr.cell? ⟨w.heap.size + 1, 2, none⟩ = some (.int .i64 0) := by rw [hzr.cell]; rfl
      have hzf : ∀ j, wr.frozen? ⟨w.heap.size + 1, j, none⟩ = false := fun j => hzr.frozen j
      have HZR := Lib.hid hzr
      clear hz4 hzr
      go_wp2
      have hres : Blk (((wr.setCell ⟨w.heap.size + 1, 0, none⟩ (.slice (some ⟨g6, 0, none⟩) n6 c6)).setCell ⟨w.heap.size + 1, 1, none⟩ (.int .i64 root)).setCell ⟨w.heap.size + 1, 2, none⟩ (.int .i64 0)) (w.heap.size + 1) 26 #[.slice (some ⟨g6, 0, none⟩) n6 c6, .int .i64 root, .int .i64 0] :=
        ((HZR.out.set_ 0 _).set_ 1 _).set_ 2 _

      refine bodyPost_ret (results_cell_row rfl _ _ (w.heap.size + 1) 26 _ (0, 0) _ (by rfl) hres Try.underlying26 rfl (by kernel_rfl)) rfl ?_
      have hne : (Value.slice (some ⟨g6, 0, none⟩) n6 c6).ownBlock ≠ some (w.heap.size + 1) := fun e => by
        have : g6 = w.heap.size + 1 := by simpa [Value.ownBlock] using e
        omega
      refine ⟨g6, c6, rfl, ?_, ?_⟩
      · have := ((HOr.out.far (p := ⟨w.heap.size + 1, 0, none⟩) hne (.slice (some ⟨g6, 0, none⟩) n6 c6)).far (p := ⟨w.heap.size + 1, 1, none⟩) hne (.int .i64 root)).far (p := ⟨w.heap.size + 1, 2, none⟩) hne (.int .i64 0)
        exact this.less (by omega)
      · have h1 : Below w.heap.size w wr := Below.upd_ (HB2.out.trans ((HB4.out.mono (by omega)).trans (HB6.out.mono (by omega)))) HUr.out (by omega) (fun k hk e => by omega)
        exact ((h1.setCell (by simp) _).setCell (by simp) _).setCell (by simp) _
end
end Go.Proofs.Ythakkchmegnlhaa
