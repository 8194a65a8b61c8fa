/- Walks over package shell: first. -/
import Derived.Test.YthakkchmegnlhaaW18
import Derived.Test.YthakkchmegnlhaaM12
namespace Go.Proofs.Ythakkchmegnlhaa
open Go.RowKit Pq

/-- May the i-th go, by the program's count? -/
noncomputable def frI (s : List Nat) (gl : List Bool) (bs dl : List Nat) (i : Nat) : Bool := decide (frN s gl bs (sg dl (sg bs i)) (per (sg s) (sg dl (sg bs i))) = 2)

section
variable {w : World} {M : MR} {s bs dl : List Nat} {gl : List Bool} {root : Int} {lone x g d c : Nat} {ff fb : Bool} {A : Option Addr}
set_option maxRecDepth 100000 in
set_option maxHeartbeats 2000000 in
theorem first_calls (h : MapAt w M s root lone true ff fb) (hl : LeftAt w x M bs gl dl g d A c) (q : Nat) (hq0 : 0 < q) (hq : q < bs.length)
    (hall : ∀ i, i < bs.length → sg bs i < dl.length ∧ sg dl (sg bs i) < s.length) (hgl : ∀ z, z < s.length → nm (sg s) s.length z < gl.length) (hbn : bs.length ≤ s.length)
    (hq2 : frI s gl bs dl q = true) (hmin : ∀ i, 0 < i → i < q → frI s gl bs dl i = false) :
    Calls Try.prog 27 #[.pointer (some ⟨x, 0, none⟩)] w fun e w' => e = .returned (.int .i64 (q : Int)) ∧ Below w.heap.size w w' := by
  have hlen := h.ok.len
  have H := Lib.hid h
  have HL := Lib.hid hl
  have HA := Lib.hid hall
  have HG := Lib.hid hgl
  have HQ := Lib.hid hq2
  have HM := Lib.hid hmin
  clear h hl hall hgl hq2 hmin
  go_enter Try.func27, Try.ntmps27
  go_wp2
  go_loopw [3] (fun i wr => ∃ k : Nat, 0 < k ∧ k ≤ q ∧ i = .int .i64 k ∧ Below w.heap.size w wr) (fun i _ => q - (intOf i).toNat)
  case atStart => exact ⟨1, by omega, by omega, rfl, Below.refl _ _⟩
  case round =>
    obtain ⟨k, hk0, hk, rfl, hbw⟩ := hrel
    have hkb : k < bs.length := by omega
    have HF := Lib.hid (free_calls (H.out.below hbw) (HL.out.below hbw) k hkb (HA.out k hkb).1 (HA.out k hkb).2 HG.out hbn)
    have hs := hbw.size
    have HB := Lib.hid hbw
    obtain ⟨b, hb⟩ : ∃ b, b = frI s gl bs dl k := ⟨_, rfl⟩
    have HF : Hid (Calls Try.prog 47 #[.pointer (some ⟨x, 0, none⟩), .int .i64 k] wr fun e w' => e = .returned (.bool b) ∧ Below wr.heap.size wr w') := by
      rw [hb]; exact HF
    have HBB := Lib.hid hb
    clear hbw hb
    cases b
    · have hlt : k < q := by
        rcases Nat.lt_or_ge k q with h1 | h1
        · exact h1
        · obtain rfl : k = q := by omega
          have := HBB.out.trans HQ.out
          cases this
      go_wp2_with (go_at_call 47; refine HF.out.mono ?_; rintro e w9 ⟨rfl, hb9⟩; have HB9 := Lib.hid (HB.out.trans (hb9.mono hs)); clear hb9)
      go_roundw
      case rel => exact ⟨k + 1, by omega, by omega, by go_num, HB9.out⟩
      case measure => simp [intOf]; omega
    · have hkq : k = q := by
        rcases Nat.lt_or_ge k q with h1 | h1
        · have := HBB.out.trans (HM.out k hk0 h1)
          cases this
        · omega
      subst hkq
      go_wp2_with (go_at_call 47; refine HF.out.mono ?_; rintro e w9 ⟨rfl, hb9⟩; have HB9 := Lib.hid (HB.out.trans (hb9.mono hs)); clear hb9)
      go_ret
      exact ⟨rfl, HB9.out⟩
end
end Go.Proofs.Ythakkchmegnlhaa
