/- Walks over package euler: last, Names. -/
import Derived.Test.YthakkchmegnlhaaW8
import Derived.Test.YthakkchmegnlhaaA3
import Derived.Test.YthakkchmegnlhaaM5
import Derived.WalkSmall
import Derived.Deep.QuietTactic
import Derived.BigQuiet
import Derived.Deep.LoopGhost
namespace Go.Proofs.Ythakkchmegnlhaa
open Go.RowKit Pq

theorem Own.pop {w : World} {base g c : Nat} {e : TypeId} {s : List Nat} {y : Nat} (h : Own w base e (.slice (some ⟨g, 0, none⟩) (s.length + 1) c) (nl (s ++ [y]))) :
    Own w base e (.slice (some ⟨g, 0, none⟩) s.length c) (nl s) := by
  refine ⟨by simp, ?_⟩
  rcases h.2 with ⟨h, _⟩ | ⟨g', cap, cur, hv, hg, hh, hnc, hcm, hcs, hcur⟩
  · cases h
  · refine .inr ⟨g', cap, cur, ?_, hg, hh, ?_, hcm, hcs, ?_⟩
    · rw [nl_length]
      injection hv with h1 h2 h3
      rw [h1, h3]
    · rw [nl_length] at hnc ⊢
      simp at hnc
      omega
    · have h9 : (cur.toList.take ((nl (s ++ [y])).length * 1)).take s.length = ((nl (s ++ [y])).map (Value.int .i64)).take s.length := by rw [hcur]
      rw [List.take_take, nl_length, nl_append, List.map_append, List.take_append_of_le_length (by rw [List.length_map, nl_length]; exact Nat.le_refl _)] at h9
      rw [List.take_of_length_le (l := (nl s).map (Value.int .i64)) (by rw [List.length_map, nl_length]; exact Nat.le_refl _)] at h9
      rw [nl_length, ← h9]
      congr 1
      simp

set_option maxHeartbeats 1000000 in
theorem last_calls (g c n : Nat) (y : Int) (w : World) (hc : w.cell? ⟨g, n, none⟩ = some (.int .i64 y)) (hn : n < 1099511627776) (hcap : n + 1 ≤ c) :
    Calls Try.prog 90 #[.slice (some ⟨g, 0, none⟩) (n + 1) c] w fun e w' => e = .returned (.tuple #[.int .i64 y, .slice (some ⟨g, 0, none⟩) n c]) ∧ ∃ q, w' = w.drewN q := by
  have e1 : IntKind.i64.wrap ((n : Int) + 1 - 1) = (n : Int) := by rw [IntWalk.i64_in _ (by omega)]; omega
  have e2 : (0 : Int) ≤ (n : Int) := by omega
  go_enter Try.func90, Try.ntmps90
  go_wp2
  go_quiet (fail)
  go_wp2
  go_ret2
  exact ⟨rfl, _, rfl⟩

def st3 (p : List Nat × List Nat) (a b : Nat) : Nat → List Nat × List Nat
  | 0 => p
  | 1 => visit p a
  | _ => visit (visit p a) b
theorem visit_snd_len (p : List Nat × List Nat) (y : Nat) : (visit p y).2.length ≤ p.2.length + 1 := by
  unfold visit
  split
  · omega
  · simp
theorem visit_ge (p : List Nat × List Nat) (y : Nat) : p.1.length ≤ (visit p y).1.length := by
  unfold visit
  split
  · exact Nat.le_refl _
  · simp
theorem rep_set (n j : Nat) (hj : j < n) : (List.replicate j (-1 : Int) ++ List.replicate (n - j) 0).set j (-1) = List.replicate (j + 1) (-1) ++ List.replicate (n - (j + 1)) 0 := by
  rw [List.set_append_right _ _ (by simp), List.length_replicate, Nat.sub_self, show n - j = (n - (j + 1)) + 1 by omega, List.replicate_succ, List.set_cons_zero,
    show j + 1 = j + 1 from rfl, List.replicate_succ', List.append_assoc]
  rfl
def repAt (n j : Nat) : List Int := List.replicate j (-1 : Int) ++ List.replicate (n - j) 0
theorem repAt_length (n j : Nat) (h : j ≤ n) : (repAt n j).length = n := by simp [repAt]; omega

set_option maxRecDepth 100000 in
set_option maxHeartbeats 2000000 in
theorem eNames_calls {w : World} {M : MR} {s : List Nat} {root : Int} {lone : Nat} {fs ff fb : Bool} (h : MapAt w M s root lone fs ff fb) :
    Calls Try.prog 83 #[.pointer (some ⟨M.b, 0, none⟩)] w fun e w' =>
      ∃ g, w.heap.size ≤ g ∧ e = .returned (.slice (some ⟨g, 0, none⟩) s.length s.length) ∧ Blk w' g 3 (ivs (nmL (Conn (sg s)) s.length)) ∧ Below w.heap.size w w' := by
  have hlen := h.ok.len
  have HC := Lib.hid (conn_cls h.ok.pm h.ok.even)
  have HO := Lib.hid h.ok
  have H := Lib.hid h
  clear h
  go_enter Try.func83, Try.ntmps83
  go_wp2_with (first
    | (go_at_call 10; refine (Darts_calls H.out).mono ?_; rintro e w1 ⟨rfl, rfl⟩)
    | (at_make; refine make_int rfl (.tmp 13) (.tmp 13) rfl s.length rfl rfl (by omega) ?_; intro w1 hB1 hg1; have HB1 := Lib.hid hB1; have HG1 := Lib.hid hg1; clear hB1 hg1))
  go_loopw [17] (fun i wr => ∃ j : Nat, j ≤ s.length ∧ i = .int .i64 j ∧ Blk wr w.heap.size 3 (ivs (repAt s.length j)) ∧ Below w.heap.size w wr) (fun i _ => s.length - (intOf i).toNat)
  case atStart => exact ⟨0, Nat.zero_le _, rfl, by simpa [repAt] using HB1.out, (Below.refl _ _).grown HG1.out (Nat.le_refl _) (by simp)⟩
  case round =>
    obtain ⟨j, hj, rfl, hblk, hbw⟩ := hrel
    have HB := Lib.hid hblk
    have HW := Lib.hid hbw
    clear hblk hbw HB1 HG1
    by_cases hlt : j < s.length
    · have hcg : wr.cell? ⟨w.heap.size, j, none⟩ = some (.int .i64 ((repAt s.length j).getD j 0)) := by rw [HB.out.cell, ivs_get _ _ (by rw [repAt_length _ _ hj]; exact hlt)]
      have hfg : wr.frozen? ⟨w.heap.size, j, none⟩ = false := HB.out.frozen _
      generalize (repAt s.length j).getD j 0 = y at hcg
      go_wp2
      go_roundw
      case rel =>
        have h9 := HB.out.set_ j (.int .i64 (-1))
        rw [ivs_set, repAt, rep_set _ _ hlt] at h9
        exact ⟨j + 1, by omega, by go_num, h9, HW.out.setCell (by simp) _⟩
      case measure => simp [intOf]; omega
    · obtain rfl : j = s.length := by omega
      go_wp2
      have h0 : Blk wr w.heap.size 3 (ivs (nmAt (Conn (sg s)) s.length 0 [])) := by
        have h9 := HB.out
        rw [repAt, Nat.sub_self, List.replicate_zero, List.append_nil] at h9
        rw [nmAt_zero]; exact h9
      have H0 := Lib.hid h0
      clear h0 HB
      go_loopw [5, 26] (fun c i wr => ∃ k : Nat, k ≤ s.length ∧ c = .int .i64 ((lowsR (Conn (sg s)) s.length k : Nat) : Int) ∧ i = .int .i64 k ∧ Blk wr w.heap.size 3 (ivs (nmAt (Conn (sg s)) s.length k [])) ∧ Below w.heap.size w wr)
        (fun _ i _ => s.length - (intOf i).toNat)
      case atStart => exact ⟨0, Nat.zero_le _, rfl, rfl, H0.out, HW.out⟩
      case round =>
        obtain ⟨k, hk, rfl, rfl, hblk, hbw⟩ := hrel
        have HB := Lib.hid hblk
        have HK := Lib.hid hbw
        have hll := lowsR_le (R := Conn (sg s)) (n := s.length) k
        have hbl := hblk.lt
        clear hblk hbw H0 HW
        by_cases hlt : k < s.length
        · have hck : wr.cell? ⟨w.heap.size, k, none⟩ = some (.int .i64 ((nmAt (Conn (sg s)) s.length k []).getD k 0)) := by rw [HB.out.cell, ivs_get _ _ (by rw [nmAt_length]; exact hlt)]
          have hfk : wr.frozen? ⟨w.heap.size, k, none⟩ = false := HB.out.frozen _
          by_cases hl : isLow (Conn (sg s)) s.length k
          · rw [nmAt_neg HC.out hlt hl] at hck
            have hck' : ∀ o, (wr.alloc o).cell? ⟨w.heap.size, k, none⟩ = some (.int .i64 (-1)) := fun o => by rw [World.cell?_alloc_past _ _ _ hbl]; exact hck
            have hfk' : ∀ o, (wr.alloc o).frozen? ⟨w.heap.size, k, none⟩ = false := fun o => by rw [World.frozen?_alloc_past _ _ _ hbl]; exact hfk
            go_wp2
            have hkl := HK.out.size
            have hd0 := Dfs.start (sg s) s.length k
            have hb0 : Blk ((wr.setCell ⟨w.heap.size, k, none⟩ (.int .i64 ((lowsR (Conn (sg s)) s.length k : Nat) : Int))).alloc (.cells #[.int .i64 k] 3)) w.heap.size 3 (ivs (nmAt (Conn (sg s)) s.length k [k])) := by
              have h9 := HB.out.set_ k (.int .i64 ((lowsR (Conn (sg s)) s.length k : Nat) : Int))
              rw [ivs_set, nmAt_set HC.out [] hl (.refl k)] at h9
              exact h9.alloc _
            have ho0 : Own ((wr.setCell ⟨w.heap.size, k, none⟩ (.int .i64 ((lowsR (Conn (sg s)) s.length k : Nat) : Int))).alloc (.cells #[.int .i64 k] 3)) (w.heap.size + 1) 3 (.slice (some ⟨wr.heap.size, 0, none⟩) 1 1) (nl [k]) := by
              have hs : (wr.setCell ⟨w.heap.size, k, none⟩ (.int .i64 ((lowsR (Conn (sg s)) s.length k : Nat) : Int))).heap.size = wr.heap.size := by simp [World.setCell]
              have hn := Blk.new (wr.setCell ⟨w.heap.size, k, none⟩ (.int .i64 ((lowsR (Conn (sg s)) s.length k : Nat) : Int))) 3 #[.int .i64 k]
              rw [hs] at hn
              exact Own.of_blk (xs := [(k : Int)]) hn (by omega) (by simp [maxLen])
            have hw0 : Below w.heap.size w ((wr.setCell ⟨w.heap.size, k, none⟩ (.int .i64 ((lowsR (Conn (sg s)) s.length k : Nat) : Int))).alloc (.cells #[.int .i64 k] 3)) := (HK.out.setCell (by simp) _).alloc (by simp [World.setCell]; omega) _
            have D0 := Lib.hid hd0
            have B0 := Lib.hid hb0
            have O0 := Lib.hid ho0
            have W0 := Lib.hid hw0
            clear hd0 hb0 ho0 hw0 hck' hfk' hck hfk
            obtain ⟨wo, rfl⟩ : ∃ wo : World, wo = wr := ⟨_, rfl⟩
            go_loopg [7] (3 * (s.length - 1) + 1) (fun gn v w3 => ∃ T W : List Nat, Dfs (sg s) s.length k T W ∧ gn = 3 * (s.length - T.length) + W.length ∧ Blk w3 w.heap.size 3 (ivs (nmAt (Conn (sg s)) s.length k T)) ∧ Own w3 (w.heap.size + 1) 3 v (nl W) ∧ Below w.heap.size w w3)
            case atStart => exact ⟨[k], [k], D0.out, rfl, B0.out, O0.out, W0.out⟩
            case round =>
              obtain ⟨T, W, hd, rfl, hblk, hown, hbw⟩ := hrel
              obtain ⟨hTl, hWl⟩ := hd.len HO.out.pm HO.out.even hlt
              rcases List.eq_nil_or_concat W with rfl | ⟨W', x, rfl⟩
              · obtain ⟨A, c, rfl, _, _, _, _⟩ := hown.formN
                have hfin := nmAt_done HC.out T hl (fun a _ => hd.done a)
                have HF := Lib.hid hfin
                have HB3 := Lib.hid hblk
                have HW3 := Lib.hid hbw
                clear hd hblk hown hbw hfin D0 B0 O0 W0
                go_wp2
                go_roundw
                case rel => exact ⟨k + 1, by omega, by rw [lowsR_succ_low hl]; go_num, by go_num, by rw [← HF.out]; exact HB3.out, HW3.out⟩
                case measure => simp [intOf]; omega
              · have hx : x ∈ T := hd.sub x (by simp)
                have hxc := hd.mem x hx
                have hxl := hxc.lt HO.out.pm HO.out.even hlt
                obtain ⟨g2, c, rfl, hge, hgl, hcs, hfz⟩ := hown.pos (by simp)
                have hcap : W'.length + 1 ≤ c := by
                  obtain ⟨A, c', h1, h2, _⟩ := hown.formN
                  injection h1 with _ _ h1
                  rw [h1]; simpa using h2
                have hlast := hcs W'.length (by simp)
                have hsx : sg (W' ++ [x]) W'.length = x := by rw [sg, List.getD_eq_getElem?_getD]; simp
                rw [show sg (W'.concat x) W'.length = x by rw [List.concat_eq_append]; exact hsx] at hlast
                rw [List.concat_eq_append, List.length_append, List.length_singleton] at hown
                rw [List.concat_eq_append] at hd hWl
                rw [List.length_append, List.length_singleton] at hWl
                have HOW := Lib.hid hown.pop
                have HD := Lib.hid hd
                have HB3 := Lib.hid hblk
                have HW3 := Lib.hid hbw
                have HM := Lib.hid (H.out.below hbw)
                have HX := Lib.hid hxc
                have hws := hbw.size
                rw [List.length_concat]
                have i0 : ∀ (a b : Int) (W : World), (Instr.index 122 (.agg #[.int .i64 a, .int .i64 b]) (.int .i64 0)).run Try.prog W = .ok (.int .i64 a) W := fun _ _ _ => by kernel_rfl
                have i1 : ∀ (a b : Int) (W : World), (Instr.index 122 (.agg #[.int .i64 a, .int .i64 b]) (.int .i64 1)).run Try.prog W = .ok (.int .i64 b) W := fun _ _ _ => by kernel_rfl
                clear hsx hown hd hblk hbw hcs hfz hxc hx D0 B0 O0 W0
                go_wp2_with (first
                  | (go_at_call 90; refine (last_calls g2 c W'.length x _ hlast (by omega) hcap).mono ?_; rintro e w4 ⟨rfl, q, rfl⟩)
                  | (go_at_call 52; refine (Sigma_calls (HM.out.drewN _) x hxl).mono ?_; rintro e w5 ⟨rfl, rfl⟩)
                  | (go_at_call 54; refine (Mate_calls (HM.out.drewN _) x hxl).mono ?_; rintro e w5 ⟨rfl, rfl⟩))
                have hst0 : st3 (T, W') (sg s x) (mate x) 0 = (T, W') := rfl
                obtain ⟨wt, rfl⟩ : ∃ wt : World, wt = wr := ⟨_, rfl⟩
                have HB4 : Hid (Blk (wt.drewN q) w.heap.size 3 (ivs (nmAt (Conn (sg s)) s.length k T))) := Lib.hid (HB3.out.drewN q)
                have HO4 : Hid (Own (wt.drewN q) (w.heap.size + 1) 3 (.slice (some ⟨g2, 0, none⟩) W'.length c) (nl W')) := Lib.hid (HOW.out.drewN q)
                have HW4 : Hid (Below w.heap.size w (wt.drewN q)) := Lib.hid (below_drewN HW3.out q)
                clear hlast hst0
                go_loopw [56, 7] (fun i v w4 => ∃ j : Nat, j ≤ 2 ∧ i = .int .i64 j ∧ Blk w4 w.heap.size 3 (ivs (nmAt (Conn (sg s)) s.length k (st3 (T, W') (sg s x) (mate x) j).1)) ∧
                    Own w4 (w.heap.size + 1) 3 v (nl (st3 (T, W') (sg s x) (mate x) j).2) ∧ Below w.heap.size w w4) (fun i _ _ => 2 - (intOf i).toNat)
                case atStart => exact ⟨0, by omega, rfl, HB4.out, HO4.out, HW4.out⟩
                case round =>
                  obtain ⟨j, hj, rfl, hblk, hown, hbw⟩ := hrel
                  obtain ⟨A, c4, rfl, _, _, _, _⟩ := hown.formN
                  have HB5 := Lib.hid hblk
                  have HO5 := Lib.hid hown
                  have HW5 := Lib.hid hbw
                  clear hblk hown hbw HB4 HO4 HW4
                  by_cases hj2 : j < 2
                  · obtain rfl | rfl : j = 0 ∨ j = 1 := by omega
                    · skip
                      have hy : Conn (sg s) k (sg s x) := .sig _ _ HX.out
                      have hyl := hy.lt HO.out.pm HO.out.even hlt
                      have hcy : wr.cell? ⟨w.heap.size, (sg s x), none⟩ = some (.int .i64 ((nmAt (Conn (sg s)) s.length k (st3 (T, W') (sg s x) (mate x) 0).1).getD (sg s x) 0)) := by rw [HB5.out.cell, ivs_get _ _ (by rw [nmAt_length]; exact hyl)]
                      have hfy : wr.frozen? ⟨w.heap.size, (sg s x), none⟩ = false := HB5.out.frozen _
                      rw [nmAt_in HC.out _ hl hy] at hcy
                      have hnx : st3 (T, W') (sg s x) (mate x) 1 = visit (st3 (T, W') (sg s x) (mate x) 0) (sg s x) := rfl
                      have HNX := Lib.hid hnx
                      have hpl : (st3 (T, W') (sg s x) (mate x) 0).2.length ≤ W'.length + 0 := Nat.le_refl _
                      have HY := Lib.hid hy
                      clear hnx hy
                      generalize st3 (T, W') (sg s x) (mate x) 0 = p at HNX HB5 HO5 hcy hpl ⊢
                      by_cases hc : p.1.contains (sg s x) = true
                      · rw [if_pos hc] at hcy
                        have hv : visit p (sg s x) = p := by unfold visit; rw [if_pos hc]
                        have HV := Lib.hid hv
                        have ht : decide (((lowsR (Conn (sg s)) s.length k : Nat) : Int) < 0) = false := by simp
                        clear hc hv
                        go_wp2
                        go_roundw
                        case rel => exact ⟨1, by omega, by go_num, by rw [HNX.out, HV.out]; exact HB5.out, by rw [HNX.out, HV.out]; exact HO5.out, HW5.out⟩
                        case measure => simp [intOf]
                      · rw [if_neg hc] at hcy
                        have hv : visit p (sg s x) = ((sg s x) :: p.1, p.2 ++ [(sg s x)]) := by unfold visit; rw [if_neg hc]
                        have HV := Lib.hid hv
                        have hset := nmAt_set HC.out p.1 hl HY.out
                        have HST := Lib.hid hset
                        have hb6 := HB5.out.set_ (sg s x) (.int .i64 ((lowsR (Conn (sg s)) s.length k : Nat) : Int))
                        rw [ivs_set, hset] at hb6
                        have hws5 := HW5.out.size
                        have ho6 := ownsRow_setCell_below (a := ⟨w.heap.size, (sg s x), none⟩) HO5.out (by simp) (.int .i64 ((lowsR (Conn (sg s)) s.length k : Nat) : Int))
                        have hss : (wr.setCell ⟨w.heap.size, (sg s x), none⟩ (.int .i64 ((lowsR (Conn (sg s)) s.length k : Nat) : Int))).heap.size = wr.heap.size := by simp [World.setCell]
                        have hw6 : Below w.heap.size w (wr.setCell ⟨w.heap.size, (sg s x), none⟩ (.int .i64 ((lowsR (Conn (sg s)) s.length k : Nat) : Int))) := HW5.out.setCell (by simp) _
                        have hgl5 := HB5.out.lt
                        have HB6 := Lib.hid hb6
                        have HO6 := Lib.hid ho6
                        have HW6 := Lib.hid hw6
                        have HSS := Lib.hid hss
                        clear hc hv hset hb6 ho6 hw6 hss
                        go_wp2_with (at_builtin; refine app_int rfl (.tmp 68) (.tmp 70) rfl (w.heap.size + 1) _ _ ((sg s x) : Int) rfl HO6.out (by rw [HSS.out]; rfl) ?_ ?_ ?_)
                        · rw [nl_length]; omega
                        · rw [HSS.out]; omega
                        · intro v' w' hown' hg'
                          have hb7 := HB6.out.grown hg' (fun e => by have := Own.ge HO6.out _ e.symm; omega)
                          have hw7 := HW6.out.grown hg' (by rw [HSS.out]; omega) (fun k hk => by have := Own.ge HO6.out _ hk; omega)
                          have hv7 : Own w' (w.heap.size + 1) 3 v' (nl (p.2 ++ [(sg s x)])) := by rw [nl_append]; exact hown'
                          have HB7 := Lib.hid hb7
                          have HW7 := Lib.hid hw7
                          have HV7 := Lib.hid hv7
                          clear hown' hg' hb7 hw7 hv7
                          go_wp2
                          go_roundw
                          case rel => exact ⟨1, by omega, by go_num, by rw [HNX.out, HV.out]; exact HB7.out, by rw [HNX.out, HV.out]; exact HV7.out, HW7.out⟩
                          case measure => simp [intOf]
                    · skip
                      have hy : Conn (sg s) k (mate x) := .mat _ _ HX.out
                      have hyl := hy.lt HO.out.pm HO.out.even hlt
                      have hcy : wr.cell? ⟨w.heap.size, (mate x), none⟩ = some (.int .i64 ((nmAt (Conn (sg s)) s.length k (st3 (T, W') (sg s x) (mate x) 1).1).getD (mate x) 0)) := by rw [HB5.out.cell, ivs_get _ _ (by rw [nmAt_length]; exact hyl)]
                      have hfy : wr.frozen? ⟨w.heap.size, (mate x), none⟩ = false := HB5.out.frozen _
                      rw [nmAt_in HC.out _ hl hy] at hcy
                      have hnx : st3 (T, W') (sg s x) (mate x) 2 = visit (st3 (T, W') (sg s x) (mate x) 1) (mate x) := rfl
                      have HNX := Lib.hid hnx
                      have hpl : (st3 (T, W') (sg s x) (mate x) 1).2.length ≤ W'.length + 1 := visit_snd_len (T, W') (sg s x)
                      have HY := Lib.hid hy
                      clear hnx hy
                      generalize st3 (T, W') (sg s x) (mate x) 1 = p at HNX HB5 HO5 hcy hpl ⊢
                      by_cases hc : p.1.contains (mate x) = true
                      · rw [if_pos hc] at hcy
                        have hv : visit p (mate x) = p := by unfold visit; rw [if_pos hc]
                        have HV := Lib.hid hv
                        have ht : decide (((lowsR (Conn (sg s)) s.length k : Nat) : Int) < 0) = false := by simp
                        clear hc hv
                        go_wp2
                        go_roundw
                        case rel => exact ⟨2, by omega, by go_num, by rw [HNX.out, HV.out]; exact HB5.out, by rw [HNX.out, HV.out]; exact HO5.out, HW5.out⟩
                        case measure => simp [intOf]
                      · rw [if_neg hc] at hcy
                        have hv : visit p (mate x) = ((mate x) :: p.1, p.2 ++ [(mate x)]) := by unfold visit; rw [if_neg hc]
                        have HV := Lib.hid hv
                        have hset := nmAt_set HC.out p.1 hl HY.out
                        have HST := Lib.hid hset
                        have hb6 := HB5.out.set_ (mate x) (.int .i64 ((lowsR (Conn (sg s)) s.length k : Nat) : Int))
                        rw [ivs_set, hset] at hb6
                        have hws5 := HW5.out.size
                        have ho6 := ownsRow_setCell_below (a := ⟨w.heap.size, (mate x), none⟩) HO5.out (by simp) (.int .i64 ((lowsR (Conn (sg s)) s.length k : Nat) : Int))
                        have hss : (wr.setCell ⟨w.heap.size, (mate x), none⟩ (.int .i64 ((lowsR (Conn (sg s)) s.length k : Nat) : Int))).heap.size = wr.heap.size := by simp [World.setCell]
                        have hw6 : Below w.heap.size w (wr.setCell ⟨w.heap.size, (mate x), none⟩ (.int .i64 ((lowsR (Conn (sg s)) s.length k : Nat) : Int))) := HW5.out.setCell (by simp) _
                        have hgl5 := HB5.out.lt
                        have HB6 := Lib.hid hb6
                        have HO6 := Lib.hid ho6
                        have HW6 := Lib.hid hw6
                        have HSS := Lib.hid hss
                        clear hc hv hset hb6 ho6 hw6 hss
                        go_wp2_with (at_builtin; refine app_int rfl (.tmp 68) (.tmp 70) rfl (w.heap.size + 1) _ _ ((mate x) : Int) rfl HO6.out (by rw [HSS.out]; rfl) ?_ ?_ ?_)
                        · rw [nl_length]; omega
                        · rw [HSS.out]; omega
                        · intro v' w' hown' hg'
                          have hb7 := HB6.out.grown hg' (fun e => by have := Own.ge HO6.out _ e.symm; omega)
                          have hw7 := HW6.out.grown hg' (by rw [HSS.out]; omega) (fun k hk => by have := Own.ge HO6.out _ hk; omega)
                          have hv7 : Own w' (w.heap.size + 1) 3 v' (nl (p.2 ++ [(mate x)])) := by rw [nl_append]; exact hown'
                          have HB7 := Lib.hid hb7
                          have HW7 := Lib.hid hw7
                          have HV7 := Lib.hid hv7
                          clear hown' hg' hb7 hw7 hv7
                          go_wp2
                          go_roundw
                          case rel => exact ⟨2, by omega, by go_num, by rw [HNX.out, HV.out]; exact HB7.out, by rw [HNX.out, HV.out]; exact HV7.out, HW7.out⟩
                          case measure => simp [intOf]
                  · obtain rfl : j = 2 := by omega
                    have hstep := HD.out.step
                    have HS := Lib.hid hstep
                    clear hstep
                    go_wp2
                    have hT2 := (HS.out.len HO.out.pm HO.out.even hlt).1
                    have hv1 := visit_len (T, W') (sg s x)
                    have hv2 := visit_len (visit (T, W') (sg s x)) (mate x)
                    go_roundg (3 * (s.length - (visit (visit (T, W') (sg s x)) (mate x)).1.length) + (visit (visit (T, W') (sg s x)) (mate x)).2.length)
                    case measure =>
                      rw [List.length_concat]
                      have hg1 := visit_ge (T, W') (sg s x)
                      have hg2 := visit_ge (visit (T, W') (sg s x)) (mate x)
                      simp only at hv1 hg1
                      omega
                    case rel => exact ⟨_, _, HS.out, rfl, HB5.out, HO5.out, HW5.out⟩
          · have hpos := nmAt_nonneg HC.out hlt hl
            generalize (nmAt (Conn (sg s)) s.length k []).getD k 0 = y at hck hpos
            go_wp2
            go_roundw
            case rel => exact ⟨k + 1, by omega, by rw [lowsR_succ_not hl], by go_num, by rw [nmAt_skip HC.out hl]; exact HB.out, HK.out⟩
            case measure => simp [intOf]; omega
        · obtain rfl : k = s.length := by omega
          go_wp2
          go_ret
          exact ⟨_, Nat.le_refl _, rfl, by rw [← nmAt_all HC.out]; exact HB.out, HK.out⟩

end Go.Proofs.Ythakkchmegnlhaa
