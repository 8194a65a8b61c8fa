/- Walks over package shell: Corners. -/
import Derived.Test.YthakkchmegnlhaaW14
namespace Go.Proofs.Ythakkchmegnlhaa
open Go.RowKit Pq

/-- The names of some darts. -/
noncomputable def nms (s bl : List Nat) : List Nat := bl.map (nm (sg s) s.length)
theorem nms_length (s bl : List Nat) : (nms s bl).length = bl.length := by simp [nms]
theorem nms_take_succ (s bl : List Nat) {k : Nat} (hk : k < bl.length) : nms s (bl.take (k + 1)) = nms s (bl.take k) ++ [nm (sg s) s.length (sg bl k)] := by
  rw [nms, nms, List.take_add_one, List.map_append, sg, List.getD_eq_getElem?_getD]
  rw [List.getElem?_eq_getElem hk]
  rfl

section
variable {w : World} {M : MR} {s : List Nat} {root : Int} {lone r : Nat} {fs ff fb : Bool}
set_option maxRecDepth 100000 in
set_option maxHeartbeats 2000000 in
theorem Corners_calls (h : MapAt w M s (r : Int) lone fs ff fb) (hr : r < s.length) (ht : triB s lone = true) :
    Calls Try.prog 20 #[.pointer (some ⟨M.b, 0, none⟩)] w fun e w' =>
      ∃ v, e = .returned (.tuple #[v, .int .i64 0]) ∧ Own w' w.heap.size 3 v (nl (nms s (orb (sg (phiL s)) r))) ∧ MapAt w' M s (r : Int) lone true true fb ∧ Upd M.set w w' := by
  have hlen := h.ok.len
  have hpl := h.ok.phi
  rw [phiL_length] at hpl
  have hbl : ∀ k, k < (orb (sg (phiL s)) r).length → sg (orb (sg (phiL s)) r) k < s.length := fun k hk => by
    rw [orb_length_eq] at hk
    rw [sg, List.getD_eq_getElem?_getD, orb_get _ _ _ hk]
    exact hpl.it_lt k r hr
  have hbn : (orb (sg (phiL s)) r).length ≤ s.length := (hpl.orb_length hr).2
  have HT := Lib.hid (Tri_calls h)
  rw [ht] at HT
  obtain ⟨bl, hble⟩ : ∃ bl, bl = orb (sg (phiL s)) r := ⟨_, rfl⟩
  rw [← hble] at hbl hbn ⊢
  have HBL := Lib.hid hbl
  have HE := Lib.hid hble
  have H := Lib.hid h
  have hnot : ∀ (x : Bool) (w : World), (Op.unary .not (.bool x)).run Try.prog w = .ok (.bool (!x)) w := fun _ _ => rfl
  clear h hpl hbl hble
  go_enter Try.func20, Try.ntmps20
  go_wp2_with (first
    | (go_at_call 42; refine HT.out.mono ?_; rintro e w1 ⟨rfl, hp⟩; obtain ⟨fs1, ff1, a1, a2, a3, a4, a5⟩ := hp; obtain ⟨rfl, rfl⟩ := a3 rfl; have HM1 := Lib.hid a1; have HU1 := Lib.hid a2; clear a1 a2 a3 a4 a5)
    | (go_at_call 16; refine (Root_calls HM1.out).mono ?_; rintro e w9 ⟨rfl, rfl⟩)
    | (go_at_call 13; refine (Border_calls HM1.out r hr).mono ?_; rintro e w2 ⟨v, rfl, ho, hb⟩; rw [← HE.out] at ho; obtain ⟨A, c, rfl, hc1, hc2, hrd, _⟩ := ho.formN; have HB2 := Lib.hid hb; have HM2 := Lib.hid (HM1.out.below hb); have HR2 := Lib.hid hrd; clear ho hb hrd))
  go_loopw [4, 19] (fun o i wr => ∃ k : Nat, k ≤ bl.length ∧ i = .int .i64 k ∧ Own wr w2.heap.size 3 o (nl (nms s (bl.take k))) ∧ Below w2.heap.size w2 wr) (fun _ i _ => bl.length - (intOf i).toNat)
  case atStart => exact ⟨0, Nat.zero_le _, rfl, by simpa [nms, nl] using Own.nil _ _ _, Below.refl _ _⟩
  case round =>
    obtain ⟨k, hk, rfl, hown, hbw⟩ := hrel
    have HO := Lib.hid hown
    have HW := Lib.hid hbw
    have HMr := Lib.hid (HM2.out.below hbw)
    have hs1 := HU1.out.size
    have hs2 := HB2.out.size
    have hs3 := hbw.size
    clear hown hbw
    by_cases hlt : k < bl.length
    · obtain ⟨b, off, rfl, hb, hcl⟩ := HR2.out.nat hlt
      have hbk := HBL.out k hlt
      have hck : wr.cell? ⟨b, off + k, none⟩ = some (.int .i64 ((sg bl k : Nat) : Int)) := by rw [HW.out.cell hb]; exact hcl k hlt
      have HS := Lib.hid (nms_take_succ s bl hlt)
      have HV := Lib.hid (Vertex_warm HMr.out (sg bl k) hbk)
      clear hcl
      generalize hy : nm (sg s) s.length (sg bl k) = y at HS HV
      have HY := Lib.hid hy
      clear hy
      go_wp2_with (first
        | (go_at_call 11; refine HV.out.mono ?_; rintro e w9 ⟨rfl, rfl⟩)
        | (at_builtin; refine app_int rfl (.tmp 23) (.tmp 27) rfl w2.heap.size _ _ (y : Int) rfl HO.out rfl ?_ ?_ ?_))
      · rw [nl_length, nms_length, List.length_take]; omega
      · omega
      · intro v' w' h1 h2
        go_wp2
        go_roundw
        case rel =>
          refine ⟨k + 1, by omega, by go_num, ?_, ?_⟩
          · rw [HS.out, nl_append]; exact h1
          · exact HW.out.grown h2 (by omega) (fun k e => HO.out.ge k e)
        case measure => simp [intOf]; omega
    · obtain rfl : k = bl.length := by omega
      go_wp2
      go_ret2
      refine ⟨_, rfl, ?_, HMr.out, ?_⟩
      · have := HO.out
        rw [List.take_length] at this
        exact this.less (by omega)
      · exact (HU1.out.trans (Upd.of_below HB2.out)).trans (Upd.of_below HW.out)
end
end Go.Proofs.Ythakkchmegnlhaa
