/- Walks over package shell: free. -/
import Derived.Test.YthakkchmegnlhaaW16
namespace Go.Proofs.Ythakkchmegnlhaa
open Go.RowKit Pq

/-- Does the j-th dart around y lead to one of the border that is not gone? -/
noncomputable def frB (s : List Nat) (gl : List Bool) (bs : List Nat) (y j : Nat) : Bool :=
  !(gl.getD (nm (sg s) s.length (mate (it (sg s) j y))) false) && (nl bs).contains ((nm (sg s) s.length (mate (it (sg s) j y)) : Nat) : Int)
noncomputable def frN (s : List Nat) (gl : List Bool) (bs : List Nat) (y k : Nat) : Nat := (List.range k).countP (frB s gl bs y)
theorem frN_succ (s : List Nat) (gl : List Bool) (bs : List Nat) (y k : Nat) : frN s gl bs y (k + 1) = frN s gl bs y k + if frB s gl bs y k then 1 else 0 := by
  unfold frN
  rw [List.range_succ, List.countP_append, List.countP_cons, List.countP_nil, Nat.zero_add]
theorem frN_le (s : List Nat) (gl : List Bool) (bs : List Nat) (y k : Nat) : frN s gl bs y k ≤ k := by
  unfold frN
  exact Nat.le_trans List.countP_le_length (by simp)

section
variable {w : World} {M : MR} {s bs dl : List Nat} {gl : List Bool} {root : Int} {lone x g d c : Nat} {ff fb : Bool} {A : Option Addr}
set_option maxRecDepth 100000 in
set_option maxHeartbeats 4000000 in
theorem free_calls (h : MapAt w M s root lone true ff fb) (hl : LeftAt w x M bs gl dl g d A c) (i : Nat) (hi : i < bs.length) (ha : sg bs i < dl.length) (hd : sg dl (sg bs i) < s.length)
    (hgl : ∀ z, z < s.length → nm (sg s) s.length z < gl.length) (hbn : bs.length ≤ s.length) :
    Calls Try.prog 47 #[.pointer (some ⟨x, 0, none⟩), .int .i64 i] w fun e w' =>
      e = .returned (.bool (decide (frN s gl bs (sg dl (sg bs i)) (per (sg s) (sg dl (sg bs i))) = 2))) ∧ Below w.heap.size w w' := by
  have hlen := h.ok.len
  have hpm := h.ok.pm
  have hev := h.ok.even
  obtain ⟨v, hv⟩ : ∃ v, v = sg bs i := ⟨_, rfl⟩
  rw [← hv] at ha hd ⊢
  obtain ⟨y, hy⟩ : ∃ y, y = sg dl v := ⟨_, rfl⟩
  rw [← hy] at hd ⊢
  obtain ⟨ab, ao, rfl, hab, hacl⟩ := hl.rd.nat hi
  have hai := hacl i hi
  rw [← hv] at hai
  have hc0 : w.cell? ⟨x, 0, none⟩ = some (.pointer (some ⟨M.b, 0, none⟩)) := by rw [hl.blk.cell]; rfl
  have hc1 : w.cell? ⟨x, 1, none⟩ = some (.slice (some ⟨ab, ao, none⟩) bs.length c) := by rw [hl.blk.cell]; rfl
  have hc3 : w.cell? ⟨x, 3, none⟩ = some (.slice (some ⟨d, 0, none⟩) dl.length dl.length) := by rw [hl.blk.cell]; rfl
  have hcd : w.cell? ⟨d, v, none⟩ = some (.int .i64 (y : Int)) := by rw [hl.dart.cell, ivs_get _ _ (by rw [nl_length]; exact ha), nl_getD, ← hy]
  have hd0 : w.drew.cell? ⟨x, 0, none⟩ = some (.pointer (some ⟨M.b, 0, none⟩)) := hc0
  have hd3 : w.drew.cell? ⟨x, 3, none⟩ = some (.slice (some ⟨d, 0, none⟩) dl.length dl.length) := hc3
  have hdd : w.drew.cell? ⟨d, v, none⟩ = some (.int .i64 (y : Int)) := hcd
  have hxl := hl.blk.lt
  have H := Lib.hid h
  have HL := Lib.hid hl
  have HP := Lib.hid hpm
  have HY := Lib.hid hy
  have HG := Lib.hid hgl
  clear h hl hpm hy hacl hv hgl
  go_enter Try.func47, Try.ntmps47
  go_upto_region 3 with fail
  go_cut [28, 29, 30] from 17 to 30 (fun vs vl vi wx => ∃ A1 c1, vs = .slice A1 (orb (sg s) y).length c1 ∧ vl = .int .i64 (((orb (sg s) y).length : Nat) : Int) ∧ vi = .int .i64 0 ∧ Rd wx wx.heap.size A1 (nl (orb (sg s) y)) ∧ Below w.heap.size w wx)
  case first =>
    go_region_with (go_at_call 59; refine (Around_calls H.out.drew y hd).mono ?_; rintro e w1 ⟨v, rfl, ho, hb⟩; obtain ⟨A1, c1, rfl, hc1, hc2, hrd, _⟩ := ho.formN; have HB1 := Lib.hid hb; have HR1 := Lib.hid hrd; clear ho hb hrd)
    all_goals
      go_wp2_with fail
      go_meet
      exact ⟨_, _, rfl, rfl, rfl, HR1.out, (Below.refl _ _).drew.trans HB1.out⟩
  case rest =>
    obtain ⟨A1, c1, rfl, rfl, rfl, hrd, hbw⟩ := hcut
    have HR1 := Lib.hid hrd
    have HMc := Lib.hid (H.out.below hbw)
    have HLc := Lib.hid (HL.out.below hbw)
    have HW := Lib.hid hbw
    have hob := orb_length_eq (sg s) y
    have hpl := (HP.out.orb_length hd).2
    rw [hob] at hpl ⊢
    obtain ⟨P, hP⟩ : ∃ P, P = per (sg s) y := ⟨_, rfl⟩
    rw [← hP] at hob hpl ⊢
    have HPP := Lib.hid hP
    have HOB := Lib.hid hob
    clear hrd hbw hc0 hc1 hc3 hcd hd0 hd3 hdd hai hP hob
    go_wp2_with fail
    go_loopw [6, 30] (fun cn i wr => ∃ k q : Nat, k ≤ P ∧ i = .int .i64 k ∧ cn = .int .i64 ((frN s gl bs y k : Nat) : Int) ∧ wr = wc.drewN q) (fun _ i _ => P - (intOf i).toNat)
    case atStart => exact ⟨0, 0, Nat.zero_le _, rfl, rfl, rfl⟩
    case round =>
      obtain ⟨k, q, hk, rfl, rfl, hq⟩ := hrel
      have HQ := Lib.hid hq
      clear hq
      obtain ⟨N, hN⟩ : ∃ N, N = frN s gl bs y k := ⟨_, rfl⟩
      rw [← hN]
      have hNk : N ≤ k := hN ▸ frN_le s gl bs y k
      by_cases hkP : k < P
      · obtain ⟨z, hz⟩ : ∃ z, z = it (sg s) k y := ⟨_, rfl⟩
        have hzl : z < s.length := hz ▸ HP.out.it_lt k y hd
        have hml := mate_lt hev hzl
        obtain ⟨bb, off, rfl, hbb, hcl⟩ := HR1.out.nat (k := k) (by rw [HOB.out]; exact hkP)
        have hck : wr.cell? ⟨bb, off + k, none⟩ = some (.int .i64 (z : Int)) := by
          rw [HQ.out]
          have := hcl k (by rw [HOB.out]; exact hkP)
          rw [sg, List.getD_eq_getElem?_getD, orb_get _ _ _ (by rw [← HPP.out]; exact hkP), ← hz] at this
          exact this
        have HMr : Hid (MapAt wr M s root lone true ff fb) := Lib.hid (by rw [HQ.out]; exact HMc.out.drewN q)
        have HLr : Hid (LeftAt wr x M bs gl dl g d (some ⟨ab, ao, none⟩) c) := Lib.hid (by rw [HQ.out]; exact HLc.out.below (below_drewN (Below.refl _ _) q))
        have hx0 : wr.cell? ⟨x, 0, none⟩ = some (.pointer (some ⟨M.b, 0, none⟩)) := by rw [HLr.out.blk.cell]; rfl
        have hx1 : ∀ m, (wr.drewN m).cell? ⟨x, 1, none⟩ = some (.slice (some ⟨ab, ao, none⟩) bs.length c) := fun m => by
          show wr.cell? _ = _
          rw [HLr.out.blk.cell]; rfl
        have hx2 : ∀ m, (wr.drewN m).cell? ⟨x, 2, none⟩ = some (.slice (some ⟨g, 0, none⟩) gl.length gl.length) := fun m => by
          show wr.cell? _ = _
          rw [HLr.out.blk.cell]; rfl
        have HZ := Lib.hid hz
        obtain ⟨u, hu⟩ : ∃ u, u = nm (sg s) s.length (mate z) := ⟨_, rfl⟩
        have hug : u < gl.length := hu ▸ HG.out _ hml
        obtain ⟨gb, hgb⟩ : ∃ gb, gb = gl.getD u false := ⟨_, rfl⟩
        have hxg : ∀ m, (wr.drewN m).cell? ⟨g, u, none⟩ = some (.bool gb) := fun m => by
          show wr.cell? _ = _
          rw [HLr.out.gone.cell, bvs_get _ _ hug, hgb]
        obtain ⟨cb, hcb⟩ : ∃ cb, cb = (nl bs).contains ((u : Nat) : Int) := ⟨_, rfl⟩
        have HC : Hid (∀ m, Calls Try.prog 12 #[.slice (some ⟨ab, ao, none⟩) bs.length c, .int .i64 (u : Int)] (wr.drewN m) fun e w' => e = .returned (.bool cb) ∧ (wr.drewN m) = w') :=
          Lib.hid fun m => by
            have := Contains_calls (wr.drewN m) wr.heap.size (some ⟨ab, ao, none⟩) c (nl bs) (u : Int) HLr.out.rd (by rw [nl_length]; omega)
            rw [nl_length, ← hcb] at this
            exact this
        have HV : Hid (∀ m, Calls Try.prog 11 #[.pointer (some ⟨M.b, 0, none⟩), .int .i64 ((mate z : Nat) : Int)] (wr.drewN m) fun e w' => e = .returned (.int .i64 (u : Int)) ∧ (wr.drewN m) = w') :=
          Lib.hid fun m => by rw [hu]; exact Vertex_warm (HMr.out.drewN m) (mate z) hml
        have hstep : frN s gl bs y (k + 1) = N + if (!gb && cb) then 1 else 0 := by
          rw [frN_succ, ← hN, frB, ← hz, ← hu, ← hgb, ← hcb]
        have HS := Lib.hid hstep
        have hnot : ∀ (x : Bool) (w : World), (Op.unary .not (.bool x)).run Try.prog w = .ok (.bool (!x)) w := fun _ _ => rfl
        clear hcl hz hu hgb hcb hN hstep
        cases gb
        · cases cb
          · have HS : Hid (frN s gl bs y (k + 1) = N) := HS
            go_wp2
            go_quiet (first
              | (go_at_call 54; exact quiet_same (Mate_calls (HMr.out.drewN _) z hzl))
              | (go_at_call 11; exact quiet_same (HV.out _)))
            go_wp2_with (go_at_call 12; refine (HC.out _).mono ?_; rintro e w9 ⟨rfl, rfl⟩)
            go_roundw
            case rel => exact ⟨k + 1, _, by omega, by go_num, by rw [HS.out], by rw [HQ.out, World.drewN_drewN]⟩
            case measure => simp [intOf]; omega
          · have HS : Hid (frN s gl bs y (k + 1) = N + 1) := HS
            go_wp2
            go_quiet (first
              | (go_at_call 54; exact quiet_same (Mate_calls (HMr.out.drewN _) z hzl))
              | (go_at_call 11; exact quiet_same (HV.out _)))
            go_wp2_with (go_at_call 12; refine (HC.out _).mono ?_; rintro e w9 ⟨rfl, rfl⟩)
            go_roundw
            case rel => exact ⟨k + 1, _, by omega, by go_num, by rw [HS.out]; go_num, by rw [HQ.out, World.drewN_drewN]⟩
            case measure => simp [intOf]; omega
        · have HS : Hid (frN s gl bs y (k + 1) = N) := HS
          go_wp2
          go_quiet (first
            | (go_at_call 54; exact quiet_same (Mate_calls (HMr.out.drewN _) z hzl))
            | (go_at_call 11; exact quiet_same (HV.out _)))
          go_wp2_with (go_at_call 12; refine (HC.out _).mono ?_; rintro e w9 ⟨rfl, rfl⟩)
          go_roundw
          case rel => exact ⟨k + 1, _, by omega, by go_num, by rw [HS.out], by rw [HQ.out, World.drewN_drewN]⟩
          case measure => simp [intOf]; omega
      · obtain rfl : P = k := by omega
        have HN := Lib.hid hN
        clear hN
        by_cases h2 : N = 2
        · have t2 : ((N : Int) == 2) = true := by rw [h2]; rfl
          have hres : decide (frN s gl bs y P = 2) = true := by rw [← HN.out, h2]; rfl
          have HRS := Lib.hid hres
          clear hres h2
          go_wp2
          go_ret
          exact ⟨ret_bool (by rw [← HPP.out, HRS.out]), by rw [HQ.out]; exact below_drewN HW.out _⟩
        · have t2 : ((N : Int) == 2) = false := beq_eq_false_iff_ne.2 (by omega)
          have hres : decide (frN s gl bs y P = 2) = false := by rw [← HN.out]; simp [h2]
          have HRS := Lib.hid hres
          clear hres h2
          go_wp2
          go_ret
          exact ⟨ret_bool (by rw [← HPP.out, HRS.out]), by rw [HQ.out]; exact below_drewN HW.out _⟩
end
end Go.Proofs.Ythakkchmegnlhaa
