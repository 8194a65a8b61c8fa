/- Walks over package shell: what is left; to, free, inner, first. -/
import Derived.Test.YthakkchmegnlhaaW15
import Derived.Deep.RegionWith
import Derived.Deep.CutRange
import Derived.Deep.QuietTactic
import Derived.BigQuiet
namespace Go.Proofs.Ythakkchmegnlhaa
open Go.RowKit Pq

/-- What is left: the border's names, who is gone, a dart of each vertex. -/
structure LeftAt (w : World) (x : Nat) (M : MR) (bs : List Nat) (gl : List Bool) (dl : List Nat) (g d : Nat) (A : Option Addr) (c : Nat) : Prop where
  blk : Blk w x 54 #[.pointer (some ⟨M.b, 0, none⟩), .slice A bs.length c, .slice (some ⟨g, 0, none⟩) gl.length gl.length, .slice (some ⟨d, 0, none⟩) dl.length dl.length]
  rd : Rd w w.heap.size A (nl bs)
  gone : Blk w g 4 (bvs gl)
  dart : Blk w d 3 (ivs (nl dl))
theorem LeftAt.below {w w' : World} {x : Nat} {M : MR} {bs dl : List Nat} {gl : List Bool} {g d c : Nat} {A : Option Addr} (h : LeftAt w x M bs gl dl g d A c) (hb : Below w.heap.size w w') : LeftAt w' x M bs gl dl g d A c :=
  ⟨h.blk.below hb h.blk.lt, (h.rd.below hb).more hb.size, h.gone.below hb h.gone.lt, h.dart.below hb h.dart.lt⟩

theorem quiet_same {P : Program} {f : FuncId} {args : Array Value} {w : World} {n : Nat} {v : Value}
    (h : Calls P f args (w.drewN n) fun e w' => e = .returned v ∧ w.drewN n = w') : Calls P f args (w.drewN n) fun e w'' => e = .returned v ∧ ∃ m, w'' = w.drewN m :=
  h.mono fun _ _ ⟨he, hm⟩ => ⟨he, n, hm.symm⟩

section
variable {w : World} {M : MR} {s bs dl : List Nat} {gl : List Bool} {root : Int} {lone x g d c : Nat} {ff fb : Bool} {A : Option Addr}
set_option maxRecDepth 100000 in
set_option maxHeartbeats 4000000 in
theorem to_calls (h : MapAt w M s root lone true ff fb) (hl : LeftAt w x M bs gl dl g d A c) (a b : Nat) (ha : a < dl.length) (hd : sg dl a < s.length)
    (hex : ∃ j, j < per (sg s) (sg dl a) ∧ nm (sg s) s.length (mate (it (sg s) j (sg dl a))) = b) :
    Calls Try.prog 53 #[.pointer (some ⟨x, 0, none⟩), .int .i64 a, .int .i64 b] w fun e w' =>
      ∃ j, e = .returned (.int .i64 (it (sg s) j (sg dl a))) ∧ j < per (sg s) (sg dl a) ∧ nm (sg s) s.length (mate (it (sg s) j (sg dl a))) = b ∧ Below w.heap.size w w' := by
  have hlen := h.ok.len
  have hpm := h.ok.pm
  have hev := h.ok.even
  obtain ⟨y, hy⟩ : ∃ y, y = sg dl a := ⟨_, rfl⟩
  rw [← hy] at hd hex ⊢
  have hc0 : w.cell? ⟨x, 0, none⟩ = some (.pointer (some ⟨M.b, 0, none⟩)) := by rw [hl.blk.cell]; rfl
  have hc3 : w.cell? ⟨x, 3, none⟩ = some (.slice (some ⟨d, 0, none⟩) dl.length dl.length) := by rw [hl.blk.cell]; rfl
  have hcd : w.cell? ⟨d, a, none⟩ = some (.int .i64 (y : Int)) := by rw [hl.dart.cell, ivs_get _ _ (by rw [nl_length]; exact ha), nl_getD, ← hy]
  have hd0 : w.drew.cell? ⟨x, 0, none⟩ = some (.pointer (some ⟨M.b, 0, none⟩)) := hc0
  have hd3 : w.drew.cell? ⟨x, 3, none⟩ = some (.slice (some ⟨d, 0, none⟩) dl.length dl.length) := hc3
  have hdd : w.drew.cell? ⟨d, a, none⟩ = some (.int .i64 (y : Int)) := hcd
  have hxl := hl.blk.lt
  have H := Lib.hid h
  have HL := Lib.hid hl
  have HX := Lib.hid hex
  have HP := Lib.hid hpm
  have HY := Lib.hid hy
  clear h hl hex hpm hy
  go_enter Try.func53, Try.ntmps53
  go_upto_region 1 with fail
  go_cut [20, 21, 22] from 9 to 22 (fun vs vl vi wx => ∃ A1 c1, vs = .slice A1 (orb (sg s) y).length c1 ∧ vl = .int .i64 (((orb (sg s) y).length : Nat) : Int) ∧ vi = .int .i64 0 ∧ Rd wx wx.heap.size A1 (nl (orb (sg s) y)) ∧ Below w.heap.size w wx)
  case first =>
    go_region_with (go_at_call 59; refine (Around_calls H.out.drew y hd).mono ?_; rintro e w1 ⟨v, rfl, ho, hb⟩; obtain ⟨A1, c1, rfl, hc1, hc2, hrd, _⟩ := ho.formN; have HB1 := Lib.hid hb; have HR1 := Lib.hid hrd; clear ho hb hrd)
    all_goals
      go_wp2_with fail
      go_meet
      exact ⟨_, _, rfl, rfl, rfl, HR1.out, (Below.refl _ _).drew.trans HB1.out⟩
  case rest =>
    obtain ⟨A1, c1, rfl, rfl, rfl, hrd, hbw⟩ := hcut
    have HR1 := Lib.hid hrd
    have HMc := Lib.hid (H.out.below hbw)
    have HW := Lib.hid hbw
    have hob := orb_length_eq (sg s) y
    have hpl := (HP.out.orb_length hd).2
    rw [hob] at hpl ⊢
    obtain ⟨P, hP⟩ : ∃ P, P = per (sg s) y := ⟨_, rfl⟩
    rw [← hP] at hob hpl ⊢
    have HPP := Lib.hid hP
    have HOB := Lib.hid hob
    clear hrd hbw hc0 hc3 hcd hd0 hd3 hdd hP hob
    have hc0 : wc.cell? ⟨x, 0, none⟩ = some (.pointer (some ⟨M.b, 0, none⟩)) := by rw [HW.out.cell hxl, HL.out.blk.cell]; rfl
    go_wp2_with fail
    go_loopw [22] (fun i wr => ∃ k q : Nat, k ≤ P ∧ i = .int .i64 k ∧ wr = wc.drewN q ∧ ∀ j, j < k → nm (sg s) s.length (mate (it (sg s) j y)) ≠ b) (fun i _ => P - (intOf i).toNat)
    case atStart => exact ⟨0, 0, Nat.zero_le _, rfl, rfl, fun j hj => absurd hj (by omega)⟩
    case round =>
      obtain ⟨k, q, hk, rfl, hq, hall⟩ := hrel
      have HA := Lib.hid hall
      have HQ := Lib.hid hq
      clear hall hq
      have hkP : k < P := by
        rcases Nat.lt_or_ge k P with h1 | h1
        · exact h1
        · obtain ⟨j, j1, j2⟩ := HX.out
          rw [← HPP.out] at j1
          exact absurd j2 (HA.out j (by omega))
      obtain ⟨z, hz⟩ : ∃ z, z = it (sg s) k y := ⟨_, rfl⟩
      have hzl : z < s.length := hz ▸ HP.out.it_lt k y hd
      have hml := mate_lt hev hzl
      obtain ⟨bb, off, rfl, hbb, hcl⟩ := HR1.out.nat (k := k) (by rw [HOB.out]; exact hkP)
      have hck : wr.cell? ⟨bb, off + k, none⟩ = some (.int .i64 (z : Int)) := by
        rw [HQ.out]
        have := hcl k (by rw [HOB.out]; exact hkP)
        rw [sg, List.getD_eq_getElem?_getD, orb_get _ _ _ (by rw [← HPP.out]; exact hkP), ← hz] at this
        exact this
      have hx0 : wr.cell? ⟨x, 0, none⟩ = some (.pointer (some ⟨M.b, 0, none⟩)) := by rw [HQ.out]; exact hc0
      have HMr : Hid (MapAt wr M s root lone true ff fb) := Lib.hid (by rw [HQ.out]; exact HMc.out.drewN q)
      have HZ := Lib.hid hz
      obtain ⟨u, hu⟩ : ∃ u, u = nm (sg s) s.length (mate z) := ⟨_, rfl⟩
      have HV : Hid (∀ m, Calls Try.prog 11 #[.pointer (some ⟨M.b, 0, none⟩), .int .i64 ((mate z : Nat) : Int)] (wr.drewN m) fun e w' => e = .returned (.int .i64 (u : Int)) ∧ (wr.drewN m) = w') :=
        Lib.hid fun m => by rw [hu]; exact Vertex_warm (HMr.out.drewN m) (mate z) hml
      have HU := Lib.hid hu
      clear hcl hz hu
      by_cases hub : u = b
      · have t1 : ((u : Int) == (b : Int)) = true := by simp [hub]
        go_wp2
        go_quiet (first
          | (go_at_call 54; exact quiet_same (Mate_calls (HMr.out.drewN _) z hzl))
          | (go_at_call 11; exact quiet_same (HV.out _)))
        go_wp2
        go_ret
        exact ⟨k, ret_int (by rw [HZ.out]), by rw [← HPP.out]; exact hkP, by rw [← HZ.out, ← HU.out, hub], by rw [HQ.out]; exact below_drewN (below_drewN HW.out _) _⟩
      · have t1 : ((u : Int) == (b : Int)) = false := beq_eq_false_iff_ne.2 (by omega)
        have HA2 : Hid (∀ j, j < k + 1 → nm (sg s) s.length (mate (it (sg s) j y)) ≠ b) := Lib.hid fun j hj => by
          rcases Nat.lt_or_ge j k with h1 | h1
          · exact HA.out j h1
          · obtain rfl : j = k := by omega
            rw [← HZ.out, ← HU.out]
            exact hub
        clear hub
        go_wp2
        go_quiet (first
          | (go_at_call 54; exact quiet_same (Mate_calls (HMr.out.drewN _) z hzl))
          | (go_at_call 11; exact quiet_same (HV.out _)))
        go_wp2
        go_roundw
        case rel => exact ⟨k + 1, _, by omega, by go_num, by rw [HQ.out, World.drewN_drewN], HA2.out⟩
        case measure => simp [intOf]; omega
end
end Go.Proofs.Ythakkchmegnlhaa
