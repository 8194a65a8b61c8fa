/- Walks over the document's answer for layer 14: flip. -/
import Derived.Test.YthakkchmegnlhaaR4
namespace Go.Proofs.Ythakkchmegnlhaa
open Go.RowKit Pq

theorem quiet_eq {P : Program} {f : FuncId} {args : Array Value} {w : World} {v : Value}
    (h : Calls P f args w fun e w' => e = .returned v ∧ w = w') : Calls P f args w fun e w'' => e = .returned v ∧ ∃ m, w'' = w.drewN m :=
  h.mono fun _ _ ⟨he, hm⟩ => ⟨he, 0, hm.symm⟩

/-- A row of numbers: its cells; two stores into it. -/
theorem own_at {W : World} {B g n c : Nat} {t : List Nat} (h : Own W B 3 (.slice (some ⟨g, 0, none⟩) n c) (nl t)) (ht : t.length = n) (i : Nat) (hi : i < n) : W.cell? ⟨g, i, none⟩ = some (.int .i64 ((sg t i : Nat) : Int)) ∧ W.frozen? ⟨g, i, none⟩ = false := by
  obtain ⟨g', c', e, _, _, hc, hf⟩ := h.posI (by rw [nl_length]; omega)
  injection e with e
  injection e with e
  injection e with e
  subst e
  exact ⟨by rw [hc i (by rw [nl_length]; omega), nl_getD], hf i⟩
theorem own_two {W : World} {B g n c i j : Nat} {t : List Nat} (h : Own W B 3 (.slice (some ⟨g, 0, none⟩) n c) (nl t)) (ht : t.length = n) (hi : i < n) (hj : j < n) (a x : Nat) :
    (∃ u1, W.cell? ⟨g, i, none⟩ = some (.int .i64 u1)) ∧ W.frozen? ⟨g, i, none⟩ = false ∧
    (∃ u2, (W.setCell ⟨g, i, none⟩ (.int .i64 (a : Int))).cell? ⟨g, j, none⟩ = some (.int .i64 u2)) ∧ (W.setCell ⟨g, i, none⟩ (.int .i64 (a : Int))).frozen? ⟨g, j, none⟩ = false ∧
    Own ((W.setCell ⟨g, i, none⟩ (.int .i64 (a : Int))).setCell ⟨g, j, none⟩ (.int .i64 (x : Int))) B 3 (.slice (some ⟨g, 0, none⟩) n c) (nl ((t.set i a).set j x)) := by
  have h1 := h.store i (a : Int)
  rw [← nl_set] at h1
  have h2 := h1.store j (x : Int)
  rw [← nl_set] at h2
  have k1 := own_at h ht i hi
  have k2 := own_at h1 (by rw [List.length_set, ht]) j hj
  exact ⟨⟨_, k1.1⟩, k1.2, ⟨_, k2.1⟩, k2.2, h2⟩
theorem own_rd {W : World} {B g n c : Nat} {xs : List Int} (h : Own W B 3 (.slice (some ⟨g, 0, none⟩) n c) xs) : Rd W W.heap.size (some ⟨g, 0, none⟩) xs := by
  obtain ⟨A9, c9, e9, _, _, h9, _⟩ := h.form
  injection e9 with e9
  rw [e9]
  exact h9
theorem flip_ne {s : List Nat} {v d : Nat} {lam : Nat → Nat} (T : TR s.length v (sg s) lam) (hd : d < s.length) :
    mate (ph (sg s) (ph (sg s) d)) ≠ d ∧ mate (ph (sg s) (ph (sg s) d)) ≠ mate d ∧ sg s (mate (ph (sg s) (ph (sg s) d))) = d := by
  have lp := T.pl hd
  have la := T.pl lp
  have yp : lam (ph (sg s) d) = lam (mate d) := T.lam_ph hd
  have yp2 : lam (ph (sg s) (ph (sg s) d)) = lam (mate (ph (sg s) d)) := T.lam_ph lp
  have ta := T.tri d hd
  have ya := T.lam_ph la
  rw [ta] at ya
  have n1 := T.nl _ lp
  have n2 := T.nl _ la
  refine ⟨fun e => ?_, fun e => ?_, ta⟩
  · have e2 := mate_eq e
    rw [e2, ← yp] at yp2
    exact n1 yp2.symm
  · have e2 : ph (sg s) (ph (sg s) d) = d := by rw [← mate_mate (ph (sg s) (ph (sg s) d)), e, mate_mate]
    rw [e2] at ya n2
    exact n2 ya.symm

section
variable {s : List Nat} {v d : Nat} {lam : Nat → Nat}
set_option maxRecDepth 100000 in
set_option maxHeartbeats 4000000 in
theorem flip_calls (c B : Nat) (A : Option Addr) (root : Int) (w : World) (hr : Rd w B A (nl s)) (hB : B ≤ w.heap.size) (T : TR s.length v (sg s) lam) (hd : d < s.length) (hn : s.length ≤ 100000) :
    Calls Try.prog 24 #[.agg #[.slice A s.length c, .int .i64 root, .int .i64 0], .int .i64 d] w fun e w' =>
      ∃ A' c' s' lam', e = .returned (.agg #[.slice A' s.length c', .int .i64 root, .int .i64 0]) ∧ Rd w' w'.heap.size A' (nl s') ∧ s'.length = s.length ∧ TR s.length v (sg s') lam' ∧ Below w.heap.size w w' ∧ (A' = A ∨ ∀ a, A' = some a → w.heap.size ≤ a.block) := by
  have HR := Lib.hid hr
  have HT := Lib.hid T
  have hev := T.ev
  have hpos := T.pos
  obtain ⟨e, he⟩ : ∃ e, e = mate d := ⟨_, rfl⟩
  obtain ⟨p, hp⟩ : ∃ p, p = ph (sg s) d := ⟨_, rfl⟩
  obtain ⟨a, ha⟩ : ∃ a, a = ph (sg s) p := ⟨_, rfl⟩
  obtain ⟨q, hq⟩ : ∃ q, q = ph (sg s) e := ⟨_, rfl⟩
  obtain ⟨b, hb⟩ : ∃ b, b = ph (sg s) q := ⟨_, rfl⟩
  have le : e < s.length := he ▸ T.ml hd
  have lp : p < s.length := hp ▸ T.pl hd
  have la : a < s.length := ha ▸ T.pl lp
  have lq : q < s.length := hq ▸ T.pl le
  have lb : b < s.length := hb ▸ T.pl lq
  have hnm : ∀ x y, x < s.length → y < s.length → (nm (sg s) s.length x = nm (sg s) s.length y ↔ lam x = lam y) := fun x y hx hy => T.nm_iff hx hy
  have HNM := Lib.hid hnm
  have HE := Lib.hid he
  have HPh : Hid (sg (phiL s) d = p ∧ sg (phiL s) p = a ∧ sg (phiL s) e = q ∧ sg (phiL s) q = b) := Lib.hid ⟨by rw [phiL_ph hd, hp], by rw [phiL_ph lp, ha], by rw [phiL_ph le, hq], by rw [phiL_ph lq, hb]⟩
  have HPE := Lib.hid (And.intro hp (And.intro ha (And.intro hq hb)))
  obtain ⟨na, hna⟩ : ∃ na, na = nm (sg s) s.length a := ⟨_, rfl⟩
  obtain ⟨nb, hnb⟩ : ∃ nb, nb = nm (sg s) s.length b := ⟨_, rfl⟩
  have HNA := Lib.hid hna
  have HNB := Lib.hid hnb
  have hpl := phiL_length s
  have HPL := Lib.hid hpl
  obtain ⟨W2, hW2⟩ : ∃ W2, W2 = (w.alloc (.cells #[.slice A s.length c, .int .i64 root, .int .i64 0] 26)).alloc (.cells #[.slice none 0 0, .int .i64 0, .int .i64 0] 26) := ⟨_, rfl⟩
  have hs2 : W2.heap.size = w.heap.size + 2 := by rw [hW2]; simp
  have hb2 : Below w.heap.size w W2 := by rw [hW2]; exact ba (ba (Below.refl _ _) _) _
  have hm : Blk W2 w.heap.size 26 #[.slice A s.length c, .int .i64 root, .int .i64 0] := by rw [hW2]; exact (Blk.new _ _ _).alloc _
  have hz : Blk W2 (w.heap.size + 1) 26 #[.slice none 0 0, .int .i64 0, .int .i64 0] := by
    rw [hW2]
    have := Blk.new (w.alloc (.cells #[.slice A s.length c, .int .i64 root, .int .i64 0] 26)) 26 #[.slice none 0 0, .int .i64 0, .int .i64 0]
    rw [show (w.alloc (.cells #[.slice A s.length c, .int .i64 root, .int .i64 0] 26)).heap.size = w.heap.size + 1 by simp] at this
    exact this
  have HPC : Hid (Calls Try.prog 43 #[.agg #[.slice A s.length c, .int .i64 root, .int .i64 0]] W2 fun e w' => ∃ v, e = .returned v ∧ Own w' W2.heap.size 3 v (nl (phiL s)) ∧ Below W2.heap.size W2 w') :=
    Lib.hid (Phi6_calls c B A s root 0 W2 (HR.out.below (hb2.mono hB)) (by omega) hev (by omega))
  have HB2 := Lib.hid hb2
  have HM := Lib.hid hm
  have HZ := Lib.hid hz
  have HMTd : Hid (∀ W, Calls Try.prog 41 #[.int .i64 d] W fun e' w' => e' = .returned (.int .i64 (e : Int)) ∧ W = w') := Lib.hid fun W => by rw [he]; exact Mate6_calls d (by omega) W
  clear hm hz hb2 hr T he hp ha hq hb hnm hna hnb hpl
  go_enter Try.func24, Try.ntmps24
  go_wp2_with (first
    | (go_at_call 43; rw [← hW2]; refine HPC.out.mono ?_; rintro e' w3 ⟨v3, rfl, ho3, hb3⟩; obtain ⟨g3, c3, rfl, hg3, hg3l, hc3, _⟩ := ho3.posI (by rw [nl_length, HPL.out]; exact hpos); rw [nl_length, HPL.out]
       have HB3 := Lib.hid hb3
       have hs3 := hb3.size
       have hpd : w3.cell? ⟨g3, d, none⟩ = some (.int .i64 (p : Int)) := by rw [hc3 d (by rw [nl_length, HPL.out]; exact hd), nl_getD, HPh.out.1]
       have hpp : w3.cell? ⟨g3, p, none⟩ = some (.int .i64 (a : Int)) := by rw [hc3 p (by rw [nl_length, HPL.out]; exact lp), nl_getD, HPh.out.2.1]
       have hpe : w3.cell? ⟨g3, e, none⟩ = some (.int .i64 (q : Int)) := by rw [hc3 e (by rw [nl_length, HPL.out]; exact le), nl_getD, HPh.out.2.2.1]
       have hpq : w3.cell? ⟨g3, q, none⟩ = some (.int .i64 (b : Int)) := by rw [hc3 q (by rw [nl_length, HPL.out]; exact lq), nl_getD, HPh.out.2.2.2]
       clear ho3 hb3 hc3)
    | (go_at_call 41; refine (HMTd.out _).mono ?_; rintro e' w9 ⟨rfl, rfl⟩))
  go_quiet (fail)
  have hb4 : Below W2.heap.size W2 (w3.drewN nq) := below_drewN HB3.out nq
  have hs4 : W2.heap.size ≤ (w3.drewN nq).heap.size := hs3
  have hg4 : g3 < (w3.drewN nq).heap.size := hg3l
  have hpd4 : (w3.drewN nq).cell? ⟨g3, d, none⟩ = some (.int .i64 (p : Int)) := hpd
  have hpe4 : (w3.drewN nq).cell? ⟨g3, e, none⟩ = some (.int .i64 (q : Int)) := hpe
  clear hpd hpp hpe hpq hs3 hg3l HB3 HPC
  generalize w3.drewN nq = W4 at hb4 hs4 hg4 hpd4 hpe4 ⊢
  have HB4 := Lib.hid hb4
  have hm4 : Blk W4 w.heap.size 26 #[.slice A s.length c, .int .i64 root, .int .i64 0] := HM.out.below hb4 (by omega)
  have hz4 : Blk W4 (w.heap.size + 1) 26 #[.slice none 0 0, .int .i64 0, .int .i64 0] := HZ.out.below hb4 (by omega)
  have hm0 : W4.cell? ⟨w.heap.size, 0, none⟩ = some (.slice A s.length c) := by rw [hm4.cell]; rfl
  have HM4 := Lib.hid hm4
  have HZ4 := Lib.hid hz4
  have hrd4 : Rd W4 W4.heap.size A (nl s) := (HR.out.below ((HB2.out.trans (hb4.mono (by omega))).mono hB)).more (by omega)
  have HR4 := Lib.hid hrd4
  have HNC := Lib.hid (Names5_calls c W4.heap.size A s W4 hrd4 (Nat.le_refl _) HT.out.pm (by omega))
  clear hb4 hm4 hz4 hrd4
  go_wp2_with (go_at_call 39
               refine HNC.out.mono ?_
               rintro e' w5 ⟨rfl, hbn, hb5⟩
               have HBN := Lib.hid hbn
               have HB5 := Lib.hid hb5
               have hs5 := hb5.size
               have hna5 : w5.cell? ⟨W4.heap.size, a, none⟩ = some (.int .i64 (na : Int)) := by rw [hbn.cell, ivs_get _ _ (by rw [namesL_length]; exact la), namesL_getD _ _ _ la, HNA.out]
               have hnb5 : w5.cell? ⟨W4.heap.size, b, none⟩ = some (.int .i64 (nb : Int)) := by rw [hbn.cell, ivs_get _ _ (by rw [namesL_length]; exact lb), namesL_getD _ _ _ lb, HNB.out]
               clear hbn hb5)
  have hmw : Blk w5 w.heap.size 26 #[.slice A s.length c, .int .i64 root, .int .i64 0] := HM4.out.below HB5.out (by omega)
  have hzw : Blk w5 (w.heap.size + 1) 26 #[.slice none 0 0, .int .i64 0, .int .i64 0] := HZ4.out.below HB5.out (by omega)
  have HMw := Lib.hid hmw
  have HZw := Lib.hid hzw
  clear hmw hzw
  -- the answer is the map itself
  have hsame : ∀ (W : World), Below w5.heap.size w5 W → ∃ A' c' s' lam', Ending.returned (.agg #[.slice A s.length c, .int .i64 root, .int .i64 0]) = .returned (.agg #[.slice A' s.length c', .int .i64 root, .int .i64 0]) ∧
      Rd (((W.setCell ⟨w.heap.size + 1, 0, none⟩ (.slice A s.length c)).setCell ⟨w.heap.size + 1, 1, none⟩ (.int .i64 root)).setCell ⟨w.heap.size + 1, 2, none⟩ (.int .i64 0)) (((W.setCell ⟨w.heap.size + 1, 0, none⟩ (.slice A s.length c)).setCell ⟨w.heap.size + 1, 1, none⟩ (.int .i64 root)).setCell ⟨w.heap.size + 1, 2, none⟩ (.int .i64 0)).heap.size A' (nl s') ∧ s'.length = s.length ∧ TR s.length v (sg s') lam' ∧
      Below w.heap.size w (((W.setCell ⟨w.heap.size + 1, 0, none⟩ (.slice A s.length c)).setCell ⟨w.heap.size + 1, 1, none⟩ (.int .i64 root)).setCell ⟨w.heap.size + 1, 2, none⟩ (.int .i64 0)) ∧ (A' = A ∨ ∀ a, A' = some a → w.heap.size ≤ a.block) := by
    intro W hW
    have h1 : Below w.heap.size w W := HB2.out.trans ((HB4.out.mono (by omega)).trans ((HB5.out.mono (by omega)).trans (hW.mono (by omega))))
    have h2 : Below w.heap.size w (((W.setCell ⟨w.heap.size + 1, 0, none⟩ (.slice A s.length c)).setCell ⟨w.heap.size + 1, 1, none⟩ (.int .i64 root)).setCell ⟨w.heap.size + 1, 2, none⟩ (.int .i64 0)) := ((h1.setCell (by simp) _).setCell (by simp) _).setCell (by simp) _
    exact ⟨A, c, s, lam, rfl, (HR.out.below (h2.mono hB)).more (by have := h2.size; omega), rfl, HT.out, h2, .inl rfl⟩
  have HSA := Lib.hid hsame
  clear hsame
  by_cases hab : na = nb
  · have t1 : ((na : Int) == (nb : Int)) = true := by simp [hab]
    have hm0 : ∀ m, (w5.drewN m).cell? ⟨w.heap.size, 0, none⟩ = some (.slice A s.length c) := fun m => by show w5.cell? _ = _; rw [HMw.out.cell]; rfl
    have hm1 : ∀ m, (w5.drewN m).cell? ⟨w.heap.size, 1, none⟩ = some (.int .i64 root) := fun m => by show w5.cell? _ = _; rw [HMw.out.cell]; rfl
    have hm2 : ∀ m, (w5.drewN m).cell? ⟨w.heap.size, 2, none⟩ = some (.int .i64 0) := fun m => by show w5.cell? _ = _; rw [HMw.out.cell]; rfl
    have hz0 : ∀ m, (w5.drewN m).cell? ⟨w.heap.size + 1, 0, none⟩ = some (.slice none 0 0) := fun m => by show w5.cell? _ = _; rw [HZw.out.cell]; rfl
    have hz1 : ∀ m, (w5.drewN m).cell? ⟨w.heap.size + 1, 1, none⟩ = some (.int .i64 0) := fun m => by show w5.cell? _ = _; rw [HZw.out.cell]; rfl
    have hz2 : ∀ m, (w5.drewN m).cell? ⟨w.heap.size + 1, 2, none⟩ = some (.int .i64 0) := fun m => by show w5.cell? _ = _; rw [HZw.out.cell]; rfl
    have hzf : ∀ m j, (w5.drewN m).frozen? ⟨w.heap.size + 1, j, none⟩ = false := fun m j => by show w5.frozen? _ = _; exact HZw.out.frozen j
    go_quiet (fail)
    go_wp2
    have HZR := Lib.hid (HZw.out.drewN nq)
    refine bodyPost_ret (results_cell_row rfl _ _ (w.heap.size + 1) 26 _ (0, 0) _ (by rfl) (((HZR.out.set_ 0 (.slice A s.length c)).set_ 1 (.int .i64 root)).set_ 2 (.int .i64 0)) Try.underlying26 rfl (by kernel_rfl)) rfl ?_
    exact HSA.out _ (below_drewN (Below.refl _ _) nq)
  · have t1 : ((na : Int) == (nb : Int)) = false := beq_eq_false_iff_ne.2 (by omega)
    have hm0 : ∀ m, (w5.drewN m).cell? ⟨w.heap.size, 0, none⟩ = some (.slice A s.length c) := fun m => by show w5.cell? _ = _; rw [HMw.out.cell]; rfl
    have HABN := Lib.hid hab
    clear hab
    go_quiet (fail)
    go_wp2
    go_loopw [49] (fun i wr => ∃ k q : Nat, k ≤ s.length ∧ i = .int .i64 k ∧ Hid (wr = w5.drewN q) ∧ Hid (∀ x, x < k → ¬ (nm (sg s) s.length x = na ∧ nm (sg s) s.length (mate x) = nb))) (fun i _ => s.length - (intOf i).toNat)
    case atStart => exact ⟨0, _, Nat.zero_le _, rfl, Lib.hid rfl, Lib.hid (fun x hx => absurd hx (by omega))⟩
    case round =>
      obtain ⟨k, qq, hk, rfl, HQ, HN⟩ := hrel
      clear hm0
      by_cases hlt : k < s.length
      · obtain ⟨mk, hmk⟩ : ∃ mk, mk = mate k := ⟨_, rfl⟩
        have hmkl : mk < s.length := hmk ▸ mate_lt hev hlt
        obtain ⟨nk, hnk⟩ : ∃ nk, nk = nm (sg s) s.length k := ⟨_, rfl⟩
        obtain ⟨nmk, hnmk⟩ : ∃ nmk, nmk = nm (sg s) s.length mk := ⟨_, rfl⟩
        have hk0 : wr.cell? ⟨W4.heap.size, k, none⟩ = some (.int .i64 (nk : Int)) := by rw [HQ.out]; show w5.cell? _ = _; rw [HBN.out.cell, ivs_get _ _ (by rw [namesL_length]; exact hlt), namesL_getD _ _ _ hlt, hnk]
        have hk1 : wr.cell? ⟨W4.heap.size, mk, none⟩ = some (.int .i64 (nmk : Int)) := by rw [HQ.out]; show w5.cell? _ = _; rw [HBN.out.cell, ivs_get _ _ (by rw [namesL_length]; exact hmkl), namesL_getD _ _ _ hmkl, hnmk]
        have hk2 : wr.cell? ⟨W4.heap.size, a, none⟩ = some (.int .i64 (na : Int)) := by rw [HQ.out]; exact hna5
        have hk3 : wr.cell? ⟨W4.heap.size, b, none⟩ = some (.int .i64 (nb : Int)) := by rw [HQ.out]; exact hnb5
        have HMT : Hid (∀ W, Calls Try.prog 41 #[.int .i64 k] W fun e' w' => e' = .returned (.int .i64 (mk : Int)) ∧ W = w') := Lib.hid fun W => by rw [hmk]; exact Mate6_calls k (by omega) W
        have HNK := Lib.hid hnk
        have HNMK := Lib.hid hnmk
        have HMK := Lib.hid hmk
        clear hnk hnmk hmk
        by_cases c1 : nk = na
        · have t2 : ((nk : Int) == (na : Int)) = true := by simp [c1]
          have C1 := Lib.hid c1
          clear c1
          by_cases c2 : nmk = nb
          · have t3 : ((nmk : Int) == (nb : Int)) = true := by simp [c2]
            have hm0 : ∀ m, (wr.drewN m).cell? ⟨w.heap.size, 0, none⟩ = some (.slice A s.length c) := fun m => by rw [HQ.out]; show w5.cell? _ = _; rw [HMw.out.cell]; rfl
            have hm1 : ∀ m, (wr.drewN m).cell? ⟨w.heap.size, 1, none⟩ = some (.int .i64 root) := fun m => by rw [HQ.out]; show w5.cell? _ = _; rw [HMw.out.cell]; rfl
            have hm2 : ∀ m, (wr.drewN m).cell? ⟨w.heap.size, 2, none⟩ = some (.int .i64 0) := fun m => by rw [HQ.out]; show w5.cell? _ = _; rw [HMw.out.cell]; rfl
            have hz0 : ∀ m, (wr.drewN m).cell? ⟨w.heap.size + 1, 0, none⟩ = some (.slice none 0 0) := fun m => by rw [HQ.out]; show w5.cell? _ = _; rw [HZw.out.cell]; rfl
            have hz1 : ∀ m, (wr.drewN m).cell? ⟨w.heap.size + 1, 1, none⟩ = some (.int .i64 0) := fun m => by rw [HQ.out]; show w5.cell? _ = _; rw [HZw.out.cell]; rfl
            have hz2 : ∀ m, (wr.drewN m).cell? ⟨w.heap.size + 1, 2, none⟩ = some (.int .i64 0) := fun m => by rw [HQ.out]; show w5.cell? _ = _; rw [HZw.out.cell]; rfl
            have hzf : ∀ m j, (wr.drewN m).frozen? ⟨w.heap.size + 1, j, none⟩ = false := fun m j => by rw [HQ.out]; show w5.frozen? _ = _; exact HZw.out.frozen j
            clear c2
            go_wp2
            go_quiet (first
              | (go_at_call 41; exact quiet_same (HMT.out _))
              | (go_at_call 41; exact quiet_same (HMT.out _)))
            go_wp2
            have HZR : Hid (Blk (wr.drewN nq) (w.heap.size + 1) 26 #[.slice none 0 0, .int .i64 0, .int .i64 0]) := Lib.hid (by rw [HQ.out]; exact (HZw.out.drewN _).drewN _)
            refine bodyPost_ret (results_cell_row rfl _ _ (w.heap.size + 1) 26 _ (0, 0) _ (by rfl) (((HZR.out.set_ 0 (.slice A s.length c)).set_ 1 (.int .i64 root)).set_ 2 (.int .i64 0)) Try.underlying26 rfl (by kernel_rfl)) rfl ?_
            exact HSA.out _ (by rw [HQ.out]; exact below_drewN (below_drewN (Below.refl _ _) qq) nq)
          · have t3 : ((nmk : Int) == (nb : Int)) = false := beq_eq_false_iff_ne.2 (by omega)
            have HC2 := Lib.hid c2
            clear c2
            go_wp2
            go_quiet (first
              | (go_at_call 41; exact quiet_same (HMT.out _))
              | (go_at_call 41; exact quiet_same (HMT.out _)))
            go_wp2
            go_roundw
            case rel =>
              refine ⟨k + 1, _, by omega, by go_num, Lib.hid (by rw [HQ.out, World.drewN_drewN]), Lib.hid (fun x hx h => ?_)⟩
              rcases Nat.lt_or_ge x k with h1 | h1
              · exact HN.out x h1 h
              · obtain rfl : x = k := by omega
                exact HC2.out (by rw [HNMK.out, HMK.out]; exact h.2)
            case measure => simp [intOf]; omega
        · have t2 : ((nk : Int) == (na : Int)) = false := beq_eq_false_iff_ne.2 (by omega)
          have HC1 := Lib.hid c1
          clear c1
          go_wp2
          go_quiet (first
            | (go_at_call 41; exact quiet_same (HMT.out _))
            | (go_at_call 41; exact quiet_same (HMT.out _)))
          go_wp2
          go_roundw
          case rel =>
            refine ⟨k + 1, _, by omega, by go_num, Lib.hid (by rw [HQ.out, World.drewN_drewN]), Lib.hid (fun x hx h => ?_)⟩
            rcases Nat.lt_or_ge x k with h1 | h1
            · exact HN.out x h1 h
            · obtain rfl : x = k := by omega
              exact HC1.out (by rw [HNK.out]; exact h.1)
          case measure => simp [intOf]; omega
      · obtain rfl : k = s.length := by omega
        have hm0 : wr.cell? ⟨w.heap.size, 0, none⟩ = some (.slice A s.length c) := by rw [HQ.out]; show w5.cell? _ = _; rw [HMw.out.cell]; rfl
        have hm1 : wr.cell? ⟨w.heap.size, 1, none⟩ = some (.int .i64 root) := by rw [HQ.out]; show w5.cell? _ = _; rw [HMw.out.cell]; rfl
        have hab' : lam a ≠ lam b := fun h => HABN.out (by rw [HNA.out, HNB.out]; exact (HNM.out a b la lb).2 h)
        have hno : ∀ x, x < s.length → ¬ (lam x = lam a ∧ lam (mate x) = lam b) := fun x hx h => HN.out x hx ⟨by rw [HNA.out]; exact (HNM.out x a hx la).2 h.1, by rw [HNB.out]; exact (HNM.out _ b (mate_lt hev hx) lb).2 h.2⟩
        obtain ⟨ma, hma⟩ : ∃ ma, ma = mate a := ⟨_, rfl⟩
        obtain ⟨mb, hmb⟩ : ∃ mb, mb = mate b := ⟨_, rfl⟩
        obtain ⟨mp, hmp⟩ : ∃ mp, mp = mate p := ⟨_, rfl⟩
        obtain ⟨mq, hmq⟩ : ∃ mq, mq = mate q := ⟨_, rfl⟩
        have lma : ma < s.length := hma ▸ mate_lt hev la
        have lmb : mb < s.length := hmb ▸ mate_lt hev lb
        have lmp : mp < s.length := hmp ▸ mate_lt hev lp
        have lmq : mq < s.length := hmq ▸ mate_lt hev lq
        obtain ⟨e1, e2, e3, e4⟩ := HPE.out
        have k1 := flip_ne HT.out hd
        rw [← e1, ← e2, ← hma, ← HE.out] at k1
        have k2 := flip_ne HT.out le
        rw [← e3, ← e4, ← hmb, HE.out, mate_mate, ← HE.out] at k2
        have hfl : TR s.length v (sg (flst s d e p q a b ma mb)) (flipL (sg s) lam d) := by
          have h1 := HT.out.flip hd (by rw [← HE.out, ← e3, ← e4, ← e1, ← e2]; exact hab') (by rw [← HE.out, ← e3, ← e4, ← e1, ← e2]; exact hno)
          refine h1.congr (fun x _ => ?_)
          have h2 := flst_flipF HT.out hd (by rw [← HE.out, ← e3, ← e4, ← e1, ← e2]; exact hab') x
          rw [← HE.out, ← e3, ← e4, ← e1, ← e2, ← hma, ← hmb] at h2
          exact h2
        have HFL := Lib.hid hfl
        have HMP : Hid (∀ W, Calls Try.prog 41 #[.int .i64 p] W fun e' w' => e' = .returned (.int .i64 (mp : Int)) ∧ W = w') := Lib.hid fun W => by rw [hmp]; exact Mate6_calls p (by omega) W
        have HMQ : Hid (∀ W, Calls Try.prog 41 #[.int .i64 q] W fun e' w' => e' = .returned (.int .i64 (mq : Int)) ∧ W = w') := Lib.hid fun W => by rw [hmq]; exact Mate6_calls q (by omega) W
        have HMPQ := Lib.hid (And.intro hmp hmq)
        have HK1 := Lib.hid k1
        have HK2 := Lib.hid k2
        have hb5 : Below w.heap.size w w5 := HB2.out.trans ((HB4.out.mono (by omega)).trans (HB5.out.mono (by omega)))
        have hbr : Below w.heap.size w wr := by rw [HQ.out]; exact below_drewN hb5 qq
        have hb4r : Below W4.heap.size W4 wr := by rw [HQ.out]; exact below_drewN HB5.out qq
        have hrs : W4.heap.size ≤ wr.heap.size := hb4r.size
        have HBr := Lib.hid hbr
        have HRr : Hid (Rd wr wr.heap.size A (nl s)) := Lib.hid ((HR4.out.below hb4r).more hrs)
        have hpdr : wr.cell? ⟨g3, d, none⟩ = some (.int .i64 (p : Int)) := (hb4r.cell hg4).trans hpd4
        have hper : wr.cell? ⟨g3, e, none⟩ = some (.int .i64 (q : Int)) := (hb4r.cell hg4).trans hpe4
        have hm0a : ∀ o, (wr.alloc o).cell? ⟨w.heap.size, 0, none⟩ = some (.slice A s.length c) := fun o => (World.cell?_alloc_past _ _ _ (by show w.heap.size < wr.heap.size; omega)).trans hm0
        clear hab' hno hma hmb hmp hmq e1 e2 e3 e4 k1 k2 hfl hb5 hbr hb4r HABN HN HNM hna5 hnb5
        have hm1' := hm1
        clear hm1
        go_wp2_with (at_builtin
                     obtain ⟨g6, c6, w6, hr6, ho6, hu6⟩ := run_app_list (w := wr.alloc (.cells #[] 3)) (base := wr.heap.size) (v := .slice (some ⟨wr.heap.size, 0, none⟩) 0 0) (xs := []) (ys := nl s) (A := A) (B := wr.heap.size) (c := c)
                       (Own.of_blk (xs := []) (Blk.new wr 3 #[]) (Nat.le_refl _) (by simp)) (HRr.out.alloc (Nat.le_refl _) _) (by rw [nl_length]; exact hpos) (by rw [nl_length]; simp; omega) (by simp) 24
                     rw [nl_length] at hr6
                     rw [show ([] : List Int).length + s.length = s.length by simp] at hr6
                     rw [nl_length, show ([] : List Int).length + s.length = s.length by simp, List.nil_append] at ho6
                     refine Lib.wpList_append_run _ rfl (.tmp 75) (.tmp 77) _ _ rfl _ _ rfl rfl _ _ hr6 ?_
                     have HO6 := Lib.hid ho6
                     have hb6 : Below wr.heap.size wr w6 := Below.upd_ (ba (Below.refl wr.heap.size wr) _) hu6 (Nat.le_refl _) (fun k hk e => absurd (show wr.heap.size = k by simpa [Value.ownBlock] using e) (by omega))
                     have hs6 := hb6.size
                     have HB6 := Lib.hid hb6
                     have hm06 : w6.cell? ⟨w.heap.size, 0, none⟩ = some (.slice A s.length c) := (hb6.cell (by show w.heap.size < wr.heap.size; omega)).trans hm0
                     have HIV := Lib.hid (Inverse5_calls c wr.heap.size A s w6 (HRr.out.below hb6) hs6 HT.out.pm (by omega))
                     clear ho6 hu6 hr6 hb6)
        refine HIV.out.mono ?_
        rintro e' w7 ⟨rfl, ⟨t, ht1, ht2, hbt⟩, hb7⟩
        have hs7 := hb7.size
        have HB7 := Lib.hid hb7
        obtain ⟨sd, hsd⟩ : ∃ sd, sd = sg s d := ⟨_, rfl⟩
        obtain ⟨se, hse⟩ : ∃ se, se = sg s e := ⟨_, rfl⟩
        have hO7 : Own w7 wr.heap.size 3 (.slice (some ⟨g6, 0, none⟩) s.length c6) (nl s) := HO6.out.below hb7
        have hg6 := HO6.out.ge g6 rfl
        have hg6l : g6 < w6.heap.size := by
          obtain ⟨g9, c9, e9, _, h9, _⟩ := HO6.out.posI (by rw [nl_length]; exact hpos)
          injection e9 with e9
          injection e9 with e9
          injection e9 with e9
          omega
        have f1 : w7.cell? ⟨w6.heap.size, d, none⟩ = some (.int .i64 (ma : Int)) := by
          have := ht2 ma lma
          rw [HK1.out.2.2] at this
          rw [hbt.cell, ivs_get _ _ (by rw [nl_length, ht1]; exact hd), nl_getD, this]
        have f2 : w7.cell? ⟨w6.heap.size, e, none⟩ = some (.int .i64 (mb : Int)) := by
          have := ht2 mb lmb
          rw [HK2.out.2.2] at this
          rw [hbt.cell, ivs_get _ _ (by rw [nl_length, ht1]; exact le), nl_getD, this]
        have f3 : w7.cell? ⟨g6, d, none⟩ = some (.int .i64 (sd : Int)) := by rw [hsd]; exact (own_at hO7 rfl d hd).1
        have f4 : w7.cell? ⟨g6, e, none⟩ = some (.int .i64 (se : Int)) := by rw [hse]; exact (own_at hO7 rfl e le).1
        obtain ⟨⟨u1, f5⟩, f6, ⟨u2, f7⟩, f8, hO8⟩ := own_two hO7 rfl lma lmb sd se
        have hgi : g6 ≠ w6.heap.size := by omega
        have n1 : ma ≠ d := HK1.out.1
        have n2 : ma ≠ e := HK1.out.2.1
        have n3 : mb ≠ e := HK2.out.1
        have n4 : mb ≠ d := HK2.out.2.1
        have far : ∀ (W : World) (i : Nat) (u : Value), i ≠ d → i ≠ e → (W.cell? ⟨w6.heap.size, d, none⟩ = some (.int .i64 (ma : Int)) ∧ W.cell? ⟨w6.heap.size, e, none⟩ = some (.int .i64 (mb : Int)) ∧ W.cell? ⟨g6, d, none⟩ = some (.int .i64 (sd : Int)) ∧ W.cell? ⟨g6, e, none⟩ = some (.int .i64 (se : Int))) →
            ((W.setCell ⟨g6, i, none⟩ u).cell? ⟨w6.heap.size, d, none⟩ = some (.int .i64 (ma : Int)) ∧ (W.setCell ⟨g6, i, none⟩ u).cell? ⟨w6.heap.size, e, none⟩ = some (.int .i64 (mb : Int)) ∧ (W.setCell ⟨g6, i, none⟩ u).cell? ⟨g6, d, none⟩ = some (.int .i64 (sd : Int)) ∧ (W.setCell ⟨g6, i, none⟩ u).cell? ⟨g6, e, none⟩ = some (.int .i64 (se : Int))) := by
          intro W i u h1 h2 ⟨a1, a2, a3, a4⟩
          refine ⟨?_, ?_, ?_, ?_⟩
          · rw [World.cell?_setCell_other _ _ _ _ (fun e => hgi (by injection e))]; exact a1
          · rw [World.cell?_setCell_other _ _ _ _ (fun e => hgi (by injection e))]; exact a2
          · rw [World.cell?_setCell_other _ _ _ _ (fun e => h1 (by injection e))]; exact a3
          · rw [World.cell?_setCell_other _ _ _ _ (fun e => h2 (by injection e))]; exact a4
        have s0 : w7.drew.cell? ⟨w6.heap.size, d, none⟩ = some (.int .i64 (ma : Int)) ∧ w7.drew.cell? ⟨w6.heap.size, e, none⟩ = some (.int .i64 (mb : Int)) ∧ w7.drew.cell? ⟨g6, d, none⟩ = some (.int .i64 (sd : Int)) ∧ w7.drew.cell? ⟨g6, e, none⟩ = some (.int .i64 (se : Int)) := ⟨f1, f2, f3, f4⟩
        have s1 := far w7 ma (.int .i64 (sd : Int)) n1 n2 ⟨f1, f2, f3, f4⟩
        have s2 := far _ mb (.int .i64 (se : Int)) n4 n3 s1
        have S0 := Lib.hid s0
        have S1 : Hid ((w7.setCell ⟨g6, ma, none⟩ (.int .i64 (sd : Int))).drew.cell? ⟨w6.heap.size, d, none⟩ = some (.int .i64 (ma : Int)) ∧ (w7.setCell ⟨g6, ma, none⟩ (.int .i64 (sd : Int))).drew.cell? ⟨w6.heap.size, e, none⟩ = some (.int .i64 (mb : Int)) ∧ (w7.setCell ⟨g6, ma, none⟩ (.int .i64 (sd : Int))).drew.cell? ⟨g6, d, none⟩ = some (.int .i64 (sd : Int)) ∧ (w7.setCell ⟨g6, ma, none⟩ (.int .i64 (sd : Int))).drew.cell? ⟨g6, e, none⟩ = some (.int .i64 (se : Int))) := Lib.hid s1
        have S2 : Hid (((w7.setCell ⟨g6, ma, none⟩ (.int .i64 (sd : Int))).setCell ⟨g6, mb, none⟩ (.int .i64 (se : Int))).drew.cell? ⟨w6.heap.size, d, none⟩ = some (.int .i64 (ma : Int)) ∧ ((w7.setCell ⟨g6, ma, none⟩ (.int .i64 (sd : Int))).setCell ⟨g6, mb, none⟩ (.int .i64 (se : Int))).drew.cell? ⟨w6.heap.size, e, none⟩ = some (.int .i64 (mb : Int)) ∧ ((w7.setCell ⟨g6, ma, none⟩ (.int .i64 (sd : Int))).setCell ⟨g6, mb, none⟩ (.int .i64 (se : Int))).drew.cell? ⟨g6, d, none⟩ = some (.int .i64 (sd : Int)) ∧ ((w7.setCell ⟨g6, ma, none⟩ (.int .i64 (sd : Int))).setCell ⟨g6, mb, none⟩ (.int .i64 (se : Int))).drew.cell? ⟨g6, e, none⟩ = some (.int .i64 (se : Int))) := Lib.hid s2
        have HO8 := Lib.hid hO8
        have HSD := Lib.hid (And.intro hsd hse)
        have hpd7 : w7.cell? ⟨g3, d, none⟩ = some (.int .i64 (p : Int)) := ((HB6.out.trans (hb7.mono hs6)).cell (by show g3 < wr.heap.size; omega)).trans hpdr
        have hpe7 : w7.cell? ⟨g3, e, none⟩ = some (.int .i64 (q : Int)) := ((HB6.out.trans (hb7.mono hs6)).cell (by show g3 < wr.heap.size; omega)).trans hper
        clear hb7 hO7 hbt ht2 hO8 f1 f2 f3 f4 far s0 s1 s2 hsd hse n1 n2 n3 n4 hgi t1
        have hwg : w.heap.size + 1 < g6 := by omega
        have hg3g : g3 < g6 := by omega
        have hg37 : g3 < w7.heap.size := by omega
        have hwr0 : w.heap.size + 1 < wr.heap.size := by omega
        go_wp2
        go_region_held3 (fun w' => w'.cell? ⟨w6.heap.size, d, none⟩ = some (.int .i64 (ma : Int)) ∧ w'.cell? ⟨w6.heap.size, e, none⟩ = some (.int .i64 (mb : Int)) ∧ w'.cell? ⟨g6, d, none⟩ = some (.int .i64 (sd : Int)) ∧ w'.cell? ⟨g6, e, none⟩ = some (.int .i64 (se : Int)))
          (first
            | exact S0.out
            | exact S1.out
            | exact S2.out
            | go_keep)
          (first
            | (go_at_call 41; refine (HMP.out _).mono ?_; rintro e w9 ⟨rfl, rfl⟩)
            | (go_at_call 41; refine (HMP.out _).mono ?_; rintro e w9 ⟨rfl, rfl⟩))
        have hu8 : Upd (· = g6) w7 (((w7.setCell ⟨g6, ma, none⟩ (.int .i64 (sd : Int))).setCell ⟨g6, mb, none⟩ (.int .i64 (se : Int))).drew) :=
          (Upd.setCell (S := (· = g6)) (Upd.setCell (S := (· = g6)) (Upd.refl _ _) (.inl rfl) _) (.inl rfl) _).drew
        have HO9 : Hid (Own (((w7.setCell ⟨g6, ma, none⟩ (.int .i64 (sd : Int))).setCell ⟨g6, mb, none⟩ (.int .i64 (se : Int))).drew) wr.heap.size 3 (.slice (some ⟨g6, 0, none⟩) s.length c6) (nl ((s.set ma sd).set mb se))) := Lib.hid HO8.out.drew
        clear HO8 S0 S1 S2 f5 f6 f7 f8
        generalize ((w7.setCell ⟨g6, ma, none⟩ (.int .i64 (sd : Int))).setCell ⟨g6, mb, none⟩ (.int .i64 (se : Int))).drew = W8 at hu8 HO9 ⊢
        have hpd8 : ∀ m, (W8.drewN m).cell? ⟨g3, d, none⟩ = some (.int .i64 (p : Int)) := fun m => by
          show W8.cell? _ = _
          rw [hu8.cell hg37 (fun e => Nat.ne_of_lt hg3g e)]
          exact hpd7
        have hpe8 : ∀ m, (W8.drewN m).cell? ⟨g3, e, none⟩ = some (.int .i64 (q : Int)) := fun m => by
          show W8.cell? _ = _
          rw [hu8.cell hg37 (fun e => Nat.ne_of_lt hg3g e)]
          exact hpe7
        have HU8 := Lib.hid hu8
        clear hpd7 hpe7 hu8
        go_wp2
        go_quiet (first
          | (go_at_call 41; with_reducible exact quiet_same (HMP.out _))
          | (go_at_call 41; with_reducible exact quiet_same (HMQ.out _)))
        have HO10 := Lib.hid (HO9.out.drewN nq)
        have HU10 : Hid (Upd (· = g6) w7 (W8.drewN nq)) := Lib.hid (HU8.out.drewN nq)
        clear hpd8 hpe8 HO9 HU8
        generalize W8.drewN nq = W9 at HO10 HU10 ⊢
        have hl8 : ((s.set ma sd).set mb se).length = s.length := by simp
        obtain ⟨⟨u3, i1⟩, i2, ⟨u4, i3⟩, i4, hO11⟩ := own_two HO10.out hl8 lmp hd d a
        have hl9 : ((((s.set ma sd).set mb se).set mp d).set d a).length = s.length := by simp
        obtain ⟨⟨u5, i5⟩, i6, ⟨u6, i7⟩, i8, hO12⟩ := own_two hO11 hl9 lmq le e b
        have HO12 := Lib.hid hO12
        have hW9 : Below wr.heap.size wr W9 := Below.upd_ (HB6.out.trans (HB7.out.mono hs6)) HU10.out (Nat.le_refl _) (fun k hk e => by omega)
        have hmF : ∀ (j1 j2 j3 j4 : Nat) (v1 v2 v3 v4 : Value), ((((W9.setCell ⟨g6, j1, none⟩ v1).setCell ⟨g6, j2, none⟩ v2).setCell ⟨g6, j3, none⟩ v3).setCell ⟨g6, j4, none⟩ v4).cell? ⟨w.heap.size, 1, none⟩ = some (.int .i64 root) := fun j1 j2 j3 j4 v1 v2 v3 v4 => by
          have hne : ∀ j, (⟨g6, j, none⟩ : Addr) ≠ ⟨w.heap.size, 1, none⟩ := fun j e => by injection e with e; omega
          rw [World.cell?_setCell_other _ _ _ _ (hne j4), World.cell?_setCell_other _ _ _ _ (hne j3), World.cell?_setCell_other _ _ _ _ (hne j2), World.cell?_setCell_other _ _ _ _ (hne j1), hW9.cell (by show w.heap.size < wr.heap.size; omega)]
          exact hm1'
        have hzF : ∀ (j1 j2 j3 j4 : Nat) (v1 v2 v3 v4 : Value), Blk ((((W9.setCell ⟨g6, j1, none⟩ v1).setCell ⟨g6, j2, none⟩ v2).setCell ⟨g6, j3, none⟩ v3).setCell ⟨g6, j4, none⟩ v4) (w.heap.size + 1) 26 #[.slice none 0 0, .int .i64 0, .int .i64 0] := fun j1 j2 j3 j4 v1 v2 v3 v4 => by
          have hne : w.heap.size + 1 ≠ g6 := by omega
          have hzr : Blk wr (w.heap.size + 1) 26 #[.slice none 0 0, .int .i64 0, .int .i64 0] := by rw [HQ.out]; exact HZw.out.drewN qq
          exact ((((hzr.below hW9 (by omega)).far (p := ⟨g6, j1, none⟩) hne v1).far (p := ⟨g6, j2, none⟩) hne v2).far (p := ⟨g6, j3, none⟩) hne v3).far (p := ⟨g6, j4, none⟩) hne v4
        have hzF := hzF mp d mq e (.int .i64 (d : Int)) (.int .i64 (a : Int)) (.int .i64 (e : Int)) (.int .i64 (b : Int))
        have hmF := hmF mp d mq e (.int .i64 (d : Int)) (.int .i64 (a : Int)) (.int .i64 (e : Int)) (.int .i64 (b : Int))
        have HZF := Lib.hid hzF
        have z0 := hzF.cell 0
        have z1 := hzF.cell 1
        have z2 := hzF.cell 2
        rw [show (#[.slice none 0 0, .int .i64 0, .int .i64 0] : Array Value)[0]? = some (.slice none 0 0) from rfl] at z0
        rw [show (#[.slice none 0 0, .int .i64 0, .int .i64 0] : Array Value)[1]? = some (.int .i64 0) from rfl] at z1
        rw [show (#[.slice none 0 0, .int .i64 0, .int .i64 0] : Array Value)[2]? = some (.int .i64 0) from rfl] at z2
        have zf0 := hzF.frozen 0
        have zf1 := hzF.frozen 1
        have zf2 := hzF.frozen 2
        have HW9 := Lib.hid hW9
        clear hO11 hO12 hW9 hzF hl8 hl9
        clear HK1 HK2 HMP HMQ HIV HNC HMTd HPh HPE HM HZ HM4 HZ4 HMw HZw HBN HR4 HRr hm0 hm1' hm06 hm0a hpdr hper
        go_wp2
        refine bodyPost_ret (results_cell_row rfl _ _ (w.heap.size + 1) 26 _ (0, 0) _ (by rfl) (((HZF.out.set_ 0 (.slice (some ⟨g6, 0, none⟩) s.length c6)).set_ 1 (.int .i64 root)).set_ 2 (.int .i64 0)) Try.underlying26 rfl (by kernel_rfl)) rfl ?_
        have hne : (Value.slice (some ⟨g6, 0, none⟩) s.length c6).ownBlock ≠ some (w.heap.size + 1) := fun e => by
          have : g6 = w.heap.size + 1 := by simpa [Value.ownBlock] using e
          omega
        have hfin := ((HO12.out.far (p := ⟨w.heap.size + 1, 0, none⟩) hne (.slice (some ⟨g6, 0, none⟩) s.length c6)).far (p := ⟨w.heap.size + 1, 1, none⟩) hne (.int .i64 root)).far (p := ⟨w.heap.size + 1, 2, none⟩) hne (.int .i64 0)
        have hls : (flst s d e p q a b ma mb).length = s.length := flst_length _ _ _ _ _ _ _ _ _
        have hfe : ((((((s.set ma sd).set mb se).set mp d).set d a).set mq e).set e b) = flst s d e p q a b ma mb := by
          rw [flst, ← HMPQ.out.1, ← HMPQ.out.2, ← HSD.out.1, ← HSD.out.2]
        rw [hfe] at hfin
        have hbb : Below w.heap.size w W9 := HBr.out.trans (HW9.out.mono (by omega))
        refine ⟨some ⟨g6, 0, none⟩, c6, flst s d e p q a b ma mb, flipL (sg s) lam d, rfl, ?_, hls, HFL.out, ?_, .inr (fun a e => by cases e; show w.heap.size ≤ g6; omega)⟩
        · exact own_rd hfin
        · exact ((((((hbb.setCell (by show w.heap.size ≤ g6; omega) _).setCell (by show w.heap.size ≤ g6; omega) _).setCell (by show w.heap.size ≤ g6; omega) _).setCell (by show w.heap.size ≤ g6; omega) _).setCell (by simp) _).setCell (by simp) _).setCell (by simp) _
end
end Go.Proofs.Ythakkchmegnlhaa
