/- Walks over package shell: inner. -/
import Derived.Test.YthakkchmegnlhaaW17
import Derived.Test.YthakkchmegnlhaaA6
import Derived.Deep.RegionLaw
import Derived.Deep.RegionHeld3
namespace Go.Proofs.Ythakkchmegnlhaa
open Go.RowKit Pq

/-- The names at the heads of the darts behind q. -/
noncomputable def innL (s : List Nat) (q k : Nat) : List Nat := (List.range k).map fun j => nm (sg s) s.length (mate (it (sg s) (j + 1) q))
theorem innL_length (s : List Nat) (q k : Nat) : (innL s q k).length = k := by simp [innL]
theorem innL_succ (s : List Nat) (q k : Nat) : innL s q (k + 1) = innL s q k ++ [nm (sg s) s.length (mate (it (sg s) (k + 1) q))] := by
  simp [innL, List.range_succ]

section
variable {w : World} {M : MR} {s bs dl : List Nat} {gl : List Bool} {root : Int} {lone x g d c : Nat} {ff fb : Bool} {A : Option Addr}
set_option maxRecDepth 100000 in
set_option maxHeartbeats 4000000 in
theorem inner_calls (h : MapAt w M s root lone true ff fb) (hl : LeftAt w x M bs gl dl g d A c) (i0 i1 i2 : Nat) (h1 : i1 = i0 + 1) (h2 : i2 = i0 + 2) (hi : i2 < bs.length)
    (ha : sg bs i1 < dl.length) (hd : sg dl (sg bs i1) < s.length) (hbn : bs.length ≤ s.length) (q a : Nat) (hq : ∃ j, j < per (sg s) (sg dl (sg bs i1)) ∧ it (sg s) j (sg dl (sg bs i1)) = q)
    (hqn : nm (sg s) s.length (mate q) = sg bs i0) (huq : ∀ z, z < s.length → nm (sg s) s.length z = nm (sg s) s.length q → nm (sg s) s.length (mate z) = sg bs i0 → z = q)
    (ha0 : 0 < a) (han : a < per (sg s) q) (hat : nm (sg s) s.length (mate (it (sg s) a q)) = sg bs i2) (hbe : ∀ j, 0 < j → j < a → nm (sg s) s.length (mate (it (sg s) j q)) ≠ sg bs i2) :
    Calls Try.prog 29 #[.pointer (some ⟨x, 0, none⟩), .int .i64 i1] w fun e w' =>
      ∃ v, e = .returned v ∧ Own w' w.heap.size 3 v (nl (innL s q (a - 1))) ∧ Below w.heap.size w w' := by
  have hlen := h.ok.len
  have hpm := h.ok.pm
  have hev := h.ok.even
  obtain ⟨j0, hj0, ej0⟩ := hq
  have hql : q < s.length := ej0 ▸ hpm.it_lt j0 _ hd
  have hto := to_calls h.drew (hl.below (Below.refl _ _).drew) (sg bs i1) (sg bs i0) ha hd ⟨j0, hj0, by rw [ej0]; exact hqn⟩
  have hto : Calls Try.prog 53 #[.pointer (some ⟨x, 0, none⟩), .int .i64 (sg bs i1 : Nat), .int .i64 (sg bs i0 : Nat)] w.drew fun e w' => e = .returned (.int .i64 (q : Int)) ∧ Below w.drew.heap.size w.drew w' := by
    refine hto.mono ?_
    rintro e w' ⟨j, rfl, hj, ej, hb⟩
    refine ⟨ret_int ?_, hb⟩
    rw [huq _ (hpm.it_lt j _ hd) (by rw [hpm.nm_it hd, ← ej0, hpm.nm_it hd]) ej]
  obtain ⟨p, hp⟩ : ∃ p, p = sg bs i0 := ⟨_, rfl⟩
  obtain ⟨v, hv⟩ : ∃ v, v = sg bs i1 := ⟨_, rfl⟩
  obtain ⟨t, ht⟩ : ∃ t, t = sg bs i2 := ⟨_, rfl⟩
  rw [← hv, ← hp] at hto
  rw [← ht] at hat hbe
  have HTT := Lib.hid ht
  obtain ⟨ab, ao, rfl, hab, hacl⟩ := hl.rd.nat hi
  have hb0 := hacl i0 (by omega)
  have hb1 := hacl i1 (by omega)
  have hb2 := hacl i2 (by omega)
  rw [← hp] at hb0
  rw [← hv] at hb1
  rw [← ht] at hb2
  have hc0 : w.cell? ⟨x, 0, none⟩ = some (.pointer (some ⟨M.b, 0, none⟩)) := by rw [hl.blk.cell]; rfl
  have hc1 : w.cell? ⟨x, 1, none⟩ = some (.slice (some ⟨ab, ao, none⟩) bs.length c) := by rw [hl.blk.cell]; rfl
  have hd0 : w.drew.cell? ⟨x, 0, none⟩ = some (.pointer (some ⟨M.b, 0, none⟩)) := hc0
  have hd1 : w.drew.cell? ⟨x, 1, none⟩ = some (.slice (some ⟨ab, ao, none⟩) bs.length c) := hc1
  have hdb0 : w.drew.cell? ⟨ab, ao + i0, none⟩ = some (.int .i64 (p : Int)) := hb0
  have hdb1 : w.drew.cell? ⟨ab, ao + i1, none⟩ = some (.int .i64 (v : Int)) := hb1
  have hw1 : IntKind.i64.wrap ((i1 : Int) - 1) = (i0 : Int) := by rw [IntWalk.i64_in _ (by omega)]; omega
  have hw2 : IntKind.i64.wrap ((i1 : Int) + 1) = (i2 : Int) := by rw [IntWalk.i64_in _ (by omega)]; omega
  have hi0 : i0 < bs.length := by omega
  have hi1 : i1 < bs.length := by omega
  have hxl := hl.blk.lt
  have H := Lib.hid h
  have HL := Lib.hid hl
  have HP := Lib.hid hpm
  have HTO := Lib.hid hto
  have HAT := Lib.hid hat
  have HBE := Lib.hid hbe
  clear h hl hpm hto hacl hv hp ht hat hbe huq hqn ha hd hj0 ej0 h1 h2
  go_enter Try.func29, Try.ntmps29
  go_upto_region 2 with fail
  go_cut [6] from 7 to 28 (fun s6 wx => s6 = .int .i64 ((sg s q : Nat) : Int) ∧ Below w.heap.size w wx)
  case first =>
    go_region_held3 (fun w' => w'.cell? ⟨x, 0, none⟩ = some (.pointer (some ⟨M.b, 0, none⟩)) ∧ w'.cell? ⟨x, 1, none⟩ = some (.slice (some ⟨ab, ao, none⟩) bs.length c) ∧
        w'.cell? ⟨ab, ao + i0, none⟩ = some (.int .i64 (p : Int)) ∧ w'.cell? ⟨ab, ao + i1, none⟩ = some (.int .i64 (v : Int)))
      (first
        | exact ⟨hd0, hd1, hdb0, hdb1⟩
        | exact HS1.out
        | go_keep)
      (first
        | (go_at_call 53; refine HTO.out.mono ?_; rintro e w1 ⟨rfl, hb⟩; have HB1 := Lib.hid hb; have HM1 := Lib.hid (H.out.drew.below hb); have HS1 := Lib.hid (And.intro ((hb.cell hxl).trans hd0) (And.intro ((hb.cell hxl).trans hd1) (And.intro ((hb.cell hab).trans hdb0) ((hb.cell hab).trans hdb1)))); clear hb)
        | (go_at_call 52; refine (Sigma_calls HM1.out q hql).mono ?_; rintro e w9 ⟨rfl, rfl⟩))
    all_goals
      go_wp2_with fail
      go_meet
      exact ⟨rfl, (Below.refl _ _).drew.trans HB1.out⟩
  case rest =>
    obtain ⟨rfl, hbw⟩ := hcut
    have HMc := Lib.hid (H.out.below hbw)
    have HLc := Lib.hid (HL.out.below hbw)
    have HW := Lib.hid hbw
    have hws := hbw.size
    clear hbw hc0 hc1 hd0 hd1 hdb0 hdb1 hb0 hb1 hb2 hw1
    go_wp2_with fail
    go_loopw [5, 6] (fun o i wr => ∃ k : Nat, k + 1 ≤ a ∧ i = .int .i64 ((it (sg s) (k + 1) q : Nat) : Int) ∧ Own wr wc.heap.size 3 o (nl (innL s q k)) ∧ Below wc.heap.size wc wr) (fun o _ _ => a - slen o)
    case atStart => exact ⟨0, ha0, rfl, by simpa [innL, nl] using Own.nil _ _ _, Below.refl _ _⟩
    case round =>
      obtain ⟨k, hk, rfl, hown, hbw⟩ := hrel
      obtain ⟨z, hz⟩ : ∃ z, z = it (sg s) (k + 1) q := ⟨_, rfl⟩
      rw [← hz]
      have hzl : z < s.length := hz ▸ HP.out.it_lt (k + 1) q hql
      have hml := mate_lt hev hzl
      have HO := Lib.hid hown
      have HWr := Lib.hid hbw
      have HMr := Lib.hid (HMc.out.below hbw)
      have HLr := Lib.hid (HLc.out.below hbw)
      have hrs := hbw.size
      obtain ⟨ab', ao', hA, hab', hacl⟩ := HLr.out.rd.nat hi
      injection hA with hA
      injection hA with hA1 hA2 _
      subst hA1 hA2
      have hb2 : ∀ m, (wr.drewN m).cell? ⟨ab, ao + i2, none⟩ = some (.int .i64 ((sg bs i2 : Nat) : Int)) := fun m => hacl i2 hi
      have hx0 : ∀ m, (wr.drewN m).cell? ⟨x, 0, none⟩ = some (.pointer (some ⟨M.b, 0, none⟩)) := fun m => by
        show wr.cell? _ = _
        rw [HLr.out.blk.cell]; rfl
      have hx0' : wr.cell? ⟨x, 0, none⟩ = some (.pointer (some ⟨M.b, 0, none⟩)) := hx0 0
      have hx1 : ∀ m, (wr.drewN m).cell? ⟨x, 1, none⟩ = some (.slice (some ⟨ab, ao, none⟩) bs.length c) := fun m => by
        show wr.cell? _ = _
        rw [HLr.out.blk.cell]; rfl
      have hx1' : wr.cell? ⟨x, 1, none⟩ = some (.slice (some ⟨ab, ao, none⟩) bs.length c) := hx1 0
      have hb2' : wr.cell? ⟨ab, ao + i2, none⟩ = some (.int .i64 ((sg bs i2 : Nat) : Int)) := hb2 0
      rw [← HTT.out] at hb2 hb2'
      obtain ⟨u, hu⟩ : ∃ u, u = nm (sg s) s.length (mate z) := ⟨_, rfl⟩
      have HV : Hid (∀ m, Calls Try.prog 11 #[.pointer (some ⟨M.b, 0, none⟩), .int .i64 ((mate z : Nat) : Int)] (wr.drewN m) fun e w' => e = .returned (.int .i64 (u : Int)) ∧ (wr.drewN m) = w') :=
        Lib.hid fun m => by rw [hu]; exact Vertex_warm (HMr.out.drewN m) (mate z) hml
      have HZ := Lib.hid hz
      have HU := Lib.hid hu
      have hsl := hown.slen
      rw [nl_length, innL_length] at hsl
      have HSL := Lib.hid hsl
      clear hown hbw hacl hz hu hsl
      by_cases hka : k + 1 = a
      · have hut : u = t := by rw [HU.out, HZ.out, hka]; exact HAT.out
        have t1 : ((u : Int) != (t : Int)) = false := by simp [hut]
        have HKA := Lib.hid hka
        clear hka hut
        go_wp2
        go_quiet (first
          | (go_at_call 54; exact quiet_same (Mate_calls (HMr.out.drewN _) z hzl))
          | (go_at_call 11; exact quiet_same (HV.out _)))
        go_wp2
        go_ret
        refine ⟨_, rfl, ?_, below_drewN ?_ _⟩
        · have h9 := (HO.out.drewN nq).less hws
          rw [← HKA.out, Nat.add_sub_cancel]
          exact h9
        · exact HW.out.trans (HWr.out.mono hws)
      · have hut : u ≠ t := by rw [HU.out, HZ.out]; exact HBE.out (k + 1) (by omega) (by omega)
        have t1 : ((u : Int) != (t : Int)) = true := by rw [bne_iff_ne]; omega
        clear hut
        go_wp2
        go_quiet (first
          | (go_at_call 54; exact quiet_same (Mate_calls (HMr.out.drewN _) z hzl))
          | (go_at_call 11; exact quiet_same (HV.out _)))
        have hx5 := hx0 nq
        have HM5 := Lib.hid (HMr.out.drewN nq)
        have HO5 := Lib.hid (HO.out.drewN nq)
        have HB5 := Lib.hid (below_drewN HWr.out nq)
        have hs5 : (wr.drewN nq).heap.size = wr.heap.size := rfl
        have HS5 := Lib.hid hs5
        clear HMr HO HLr HWr HV hx0 hx0' hx1 hx1' hb2 hb2' hs5
        generalize wr.drewN nq = w5 at hx5 HM5 HO5 HB5 HS5 ⊢
        have HV := Lib.hid (Vertex_warm HM5.out.drew (mate z) hml)
        rw [← HU.out] at HV
        have hx5' : w5.drew.cell? ⟨x, 0, none⟩ = some (.pointer (some ⟨M.b, 0, none⟩)) := hx5
        have hss : wc.heap.size ≤ w5.heap.size := by have := HS5.out; omega
        have hlA : (nl (innL s q k)).length < 1099511627776 := by
          have := HP.out.per_le hql
          rw [nl_length, innL_length]; omega
        have hbA : ∀ o, wc.heap.size ≤ (w5.drew.alloc o).heap.size := fun o => by simp; omega
        have hxs : x < wc.heap.size := by omega
        have hfar : ∀ (o : Obj) (row : Option Nat) (w' : World), (∀ k, row = some k → wc.heap.size ≤ k) → (w5.drew.alloc o).grownBy w' row → w'.cell? ⟨x, 0, none⟩ = some (.pointer (some ⟨M.b, 0, none⟩)) := by
          intro o row w' hrow hg
          rw [hg.cell_far ⟨x, 0, none⟩ (by simp; omega) (fun e => by have := hrow x e.symm; omega), World.cell?_alloc_past _ _ _ (by show x < w5.heap.size; omega)]
          exact hx5'
        go_wp2
        go_region_held3 (fun w' => w'.cell? ⟨x, 0, none⟩ = some (.pointer (some ⟨M.b, 0, none⟩)))
          (first
            | exact hx5'
            | exact hx6
            | go_keep)
          (first
            | (go_at_call 54; refine (Mate_calls HM5.out.drew z hzl).mono ?_; rintro e w9 ⟨rfl, rfl⟩)
            | (go_at_call 11; refine HV.out.mono ?_; rintro e w9 ⟨rfl, rfl⟩)
            | (refine step_app_int (by rfl) _ _ (by rfl) wc.heap.size _ _ (u : Int) (by rfl) (HO5.out.drew.alloc _) _ (by rfl) (Blk.new _ _ _) hlA (hbA _) ?_; intro v' w' hown' hg; have hx6 := hfar _ _ _ HO5.out.ge hg))
        have hb6 : Below wc.heap.size wc w' := ((HB5.out.drew).alloc hss _).grown hg (hbA _) HO5.out.ge
        have HM6 := Lib.hid (HMc.out.below hb6)
        have HB6 := Lib.hid hb6
        have HO6 := Lib.hid hown'
        have hsl6 := hown'.slen
        have hx60 : ∀ m, (w'.drewN m).cell? ⟨x, 0, none⟩ = some (.pointer (some ⟨M.b, 0, none⟩)) := fun _ => hx6
        have HSL6 := Lib.hid hsl6
        clear hown' hg hb6 hfar hbA hsl6
        go_wp2_with (go_at_call 52; refine (Sigma_calls HM6.out z hzl).mono ?_; rintro e w9 ⟨rfl, rfl⟩)
        go_roundw
        case rel =>
          refine ⟨k + 1, by omega, by rw [it_succ', ← HZ.out], ?_, HB6.out⟩
          rw [innL_succ, nl_append, ← HZ.out, ← HU.out]
          exact HO6.out
        case measure =>
          have e1 := HSL6.out
          have e2 := HSL.out
          rw [List.length_append, nl_length, innL_length] at e1
          simp only [List.length_cons, List.length_nil] at e1
          simp only [e1, e2]
          omega
end
end Go.Proofs.Ythakkchmegnlhaa
