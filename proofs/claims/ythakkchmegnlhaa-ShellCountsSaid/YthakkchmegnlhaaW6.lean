/- Walks over package dart: what a map tells. -/
import Derived.Test.YthakkchmegnlhaaW5
namespace Go.Proofs.Ythakkchmegnlhaa
open Go.RowKit Pq

/-- Where a map lies: its own block, that of its turns, that of its faces' turns. -/
structure MR where
  b : Nat
  p : Nat
  q : Nat
def MR.set (M : MR) (k : Nat) : Prop := k = M.b ∨ k = M.p ∨ k = M.q

structure Okm (s : List Nat) (lone : Nat) : Prop where
  pm : Pm s.length (sg s)
  even : s.length % 2 = 0
  len : s.length ≤ 131072
  few : lone ≤ 65536
theorem Okm.phi {s : List Nat} {lone : Nat} (h : Okm s lone) : Pm (phiL s).length (sg (phiL s)) := phiL_pm h.pm h.even

def mcells (M : MR) (d1 : Int) (o1 z1 : Value) (d2 : Int) (o2 z2 : Value) (root : Int) (lone : Nat) : Array Value :=
  #[.pointer (some ⟨M.p, 0, none⟩), .int .u32 d1, .int .i32 0, .int .u32 0, o1, z1, .pointer (some ⟨M.q, 0, none⟩), .int .u32 d2, .int .i32 0, .int .u32 0, o2, z2, .int .i64 root, .int .i64 lone]

/-- A map behind a pointer. fs, ff, fb: are its vertices' names, its faces' names, and its turns back told? -/
def MapAt (w : World) (M : MR) (s : List Nat) (root : Int) (lone : Nat) (fs ff fb : Bool) : Prop :=
  Okm s lone ∧ M.p ≠ M.q ∧ ∃ d1 o1 z1 d2 o2 z2, Blk w M.b 73 (mcells M d1 o1 z1 d2 o2 z2 root lone) ∧ PermAt w M.p s fb ∧ PermAt w M.q (phiL s) false ∧ Cach w s d1 o1 z1 fs ∧ Cach w (phiL s) d2 o2 z2 ff

section
variable {w w' : World} {M : MR} {s : List Nat} {root : Int} {lone : Nat} {fs ff fb : Bool}
theorem MapAt.types (h : MapAt w M s root lone fs ff fb) : ∀ k, M.set k → ∃ t cs, Blk w k t cs ∧ t ≠ 3 := by
  obtain ⟨_, _, d1, o1, z1, d2, o2, z2, hb, ⟨v, F, d, hp, _⟩, ⟨v', F', d', hq, _⟩, _⟩ := h
  rintro k (rfl | rfl | rfl)
  · exact ⟨_, _, hb, by decide⟩
  · exact ⟨_, _, hp, by decide⟩
  · exact ⟨_, _, hq, by decide⟩
theorem MapAt.lt (h : MapAt w M s root lone fs ff fb) : ∀ k, M.set k → k < w.heap.size := fun k hk => by
  obtain ⟨t, cs, hb, _⟩ := h.types k hk
  exact hb.lt
theorem MapAt.ne (h : MapAt w M s root lone fs ff fb) : M.b ≠ M.p ∧ M.b ≠ M.q ∧ M.p ≠ M.q := by
  obtain ⟨_, hne, d1, o1, z1, d2, o2, z2, hb, ⟨v, F, d, hp, _⟩, ⟨v', F', d', hq, _⟩, _⟩ := h
  exact ⟨hb.ne_ hp (by decide), hb.ne_ hq (by decide), hne⟩
theorem MapAt.upd {S : Nat → Prop} (h : MapAt w M s root lone fs ff fb) (hu : Upd S w w') (hd : ∀ k, M.set k → ¬ S k) (hs : ∀ k, S k → ∃ t cs, Blk w k t cs ∧ t ≠ 3) : MapAt w' M s root lone fs ff fb := by
  obtain ⟨ho, hne, d1, o1, z1, d2, o2, z2, hb, hp, hq, hc, hc'⟩ := h
  exact ⟨ho, hne, d1, o1, z1, d2, o2, z2, hb.upd hu (hd _ (.inl rfl)), hp.upd hu (hd _ (.inr (.inl rfl))) hs, hq.upd hu (hd _ (.inr (.inr rfl))) hs, hc.upd hu hs, hc'.upd hu hs⟩
theorem MapAt.below (h : MapAt w M s root lone fs ff fb) (hb : Below w.heap.size w w') : MapAt w' M s root lone fs ff fb :=
  h.upd (S := fun _ => False) (Upd.of_below hb) (fun _ _ h => h) (fun _ h => h.elim)
theorem MapAt.drew (h : MapAt w M s root lone fs ff fb) : MapAt w.drew M s root lone fs ff fb := h.below (Below.refl _ _).drew
theorem MapAt.drewN (h : MapAt w M s root lone fs ff fb) (n : Nat) : MapAt (w.drewN n) M s root lone fs ff fb := h.below (below_drewN (Below.refl _ _) n)
theorem MapAt.ok (h : MapAt w M s root lone fs ff fb) : Okm s lone := h.1
theorem MapAt.cs (h : MapAt w M s root lone fs ff fb) : ∃ A c, w.cell? ⟨M.b, 0, none⟩ = some (.pointer (some ⟨M.p, 0, none⟩)) ∧ w.cell? ⟨M.p, 0, none⟩ = some (.slice A s.length c) ∧ Rd w w.heap.size A (nl s) ∧ M.p < w.heap.size := by
  obtain ⟨ho, hne, d1, o1, z1, d2, o2, z2, hb, hp, hq, hc, hc'⟩ := h
  obtain ⟨A, c, h1, h2⟩ := hp.cells
  exact ⟨A, c, by rw [hb.cell]; rfl, h1, h2, hp.lt⟩
theorem MapAt.cf (h : MapAt w M s root lone fs ff fb) : ∃ A c, w.cell? ⟨M.b, 6, none⟩ = some (.pointer (some ⟨M.q, 0, none⟩)) ∧ w.cell? ⟨M.q, 0, none⟩ = some (.slice A (phiL s).length c) ∧ Rd w w.heap.size A (nl (phiL s)) ∧ M.q < w.heap.size := by
  obtain ⟨ho, hne, d1, o1, z1, d2, o2, z2, hb, hp, hq, hc, hc'⟩ := h
  obtain ⟨A, c, h1, h2⟩ := hq.cells
  exact ⟨A, c, by rw [hb.cell]; rfl, h1, h2, hq.lt⟩
theorem MapAt.cr (h : MapAt w M s root lone fs ff fb) : w.cell? ⟨M.b, 12, none⟩ = some (.int .i64 root) ∧ w.cell? ⟨M.b, 13, none⟩ = some (.int .i64 lone) := by
  obtain ⟨ho, hne, d1, o1, z1, d2, o2, z2, hb, hp, hq, hc, hc'⟩ := h
  exact ⟨by rw [hb.cell]; rfl, by rw [hb.cell]; rfl⟩

theorem Darts_calls (h : MapAt w M s root lone fs ff fb) :
    Calls Try.prog 10 #[.pointer (some ⟨M.b, 0, none⟩)] w fun e w' => e = .returned (.int .i64 s.length) ∧ w = w' := by
  obtain ⟨A, c, h0, hc, _, _⟩ := h.cs
  clear h
  go_enter Try.func10, Try.ntmps10
  go_wp2_with (go_at_call 31; refine (Len_calls M.p _ c _ _ hc).mono ?_; rintro e w' ⟨rfl, rfl⟩)
  go_ret
  exact ⟨rfl, rfl⟩

theorem Edges_calls (h : MapAt w M s root lone fs ff fb) :
    Calls Try.prog 85 #[.pointer (some ⟨M.b, 0, none⟩)] w fun e w' => e = .returned (.int .i64 ((s.length / 2 : Nat) : Int)) ∧ w = w' := by
  have hl := h.ok.len
  have H := Lib.hid h
  clear h
  go_enter Try.func85, Try.ntmps85
  go_wp2_with (go_at_call 10; refine (Darts_calls H.out).mono ?_; rintro e w' ⟨rfl, rfl⟩)
  go_ret
  exact ⟨ret_int (by omega), rfl⟩

theorem Root_calls (h : MapAt w M s root lone fs ff fb) :
    Calls Try.prog 16 #[.pointer (some ⟨M.b, 0, none⟩)] w fun e w' => e = .returned (.int .i64 root) ∧ w = w' := by
  obtain ⟨h0, _⟩ := h.cr
  clear h
  go_enter Try.func16, Try.ntmps16
  go_wp2
  go_ret
  exact ⟨rfl, rfl⟩

theorem Lone_calls (h : MapAt w M s root lone fs ff fb) :
    Calls Try.prog 84 #[.pointer (some ⟨M.b, 0, none⟩)] w fun e w' => e = .returned (.int .i64 lone) ∧ w = w' := by
  obtain ⟨_, h0⟩ := h.cr
  clear h
  go_enter Try.func84, Try.ntmps84
  go_wp2
  go_ret
  exact ⟨rfl, rfl⟩

theorem Sigma_calls (h : MapAt w M s root lone fs ff fb) (d : Nat) (hd : d < s.length) :
    Calls Try.prog 52 #[.pointer (some ⟨M.b, 0, none⟩), .int .i64 d] w fun e w' => e = .returned (.int .i64 (sg s d)) ∧ w = w' := by
  obtain ⟨A, c, h0, hc, hr, _⟩ := h.cs
  have HR := Lib.hid hr
  clear h hr
  go_enter Try.func52, Try.ntmps52
  go_wp2_with (go_at_call 67; refine (At_calls M.p c _ A s d _ hc HR.out hd).mono ?_; rintro e w' ⟨rfl, rfl⟩)
  go_ret
  exact ⟨rfl, rfl⟩

theorem Phi_calls (h : MapAt w M s root lone fs ff fb) (d : Nat) (hd : d < s.length) :
    Calls Try.prog 65 #[.pointer (some ⟨M.b, 0, none⟩), .int .i64 d] w fun e w' => e = .returned (.int .i64 (sg (phiL s) d)) ∧ w = w' := by
  obtain ⟨A, c, h0, hc, hr, _⟩ := h.cf
  have HR := Lib.hid hr
  have hd' : d < (phiL s).length := by rw [phiL_length]; exact hd
  clear h hr
  go_enter Try.func65, Try.ntmps65
  go_wp2_with (go_at_call 67; refine (At_calls M.q c _ A (phiL s) d _ hc HR.out hd').mono ?_; rintro e w' ⟨rfl, rfl⟩)
  go_ret
  exact ⟨rfl, rfl⟩

theorem Around_calls (h : MapAt w M s root lone fs ff fb) (d : Nat) (hd : d < s.length) :
    Calls Try.prog 59 #[.pointer (some ⟨M.b, 0, none⟩), .int .i64 d] w fun e w' =>
      ∃ v, e = .returned v ∧ Own w' w.heap.size 3 v (nl (orb (sg s) d)) ∧ Below w.heap.size w w' := by
  obtain ⟨A, c, h0, hc, hr, hp⟩ := h.cs
  have HR := Lib.hid hr
  have HO := Lib.hid h.ok
  clear h hr
  go_enter Try.func59, Try.ntmps59
  go_wp2_with (go_at_call 34; refine (Orbit_calls M.p c _ A s d _ hc hp HR.out (Nat.le_refl _) hd HO.out.pm (by have := HO.out.len; omega)).mono ?_; rintro e w' ⟨v, rfl, h1, h2⟩; have H1 := Lib.hid h1; have H2 := Lib.hid h2; clear h1 h2)
  go_ret
  exact ⟨_, rfl, H1.out, H2.out⟩

theorem Border_calls (h : MapAt w M s root lone fs ff fb) (d : Nat) (hd : d < s.length) :
    Calls Try.prog 13 #[.pointer (some ⟨M.b, 0, none⟩), .int .i64 d] w fun e w' =>
      ∃ v, e = .returned v ∧ Own w' w.heap.size 3 v (nl (orb (sg (phiL s)) d)) ∧ Below w.heap.size w w' := by
  obtain ⟨A, c, h0, hc, hr, hp⟩ := h.cf
  have HR := Lib.hid hr
  have HO := Lib.hid h.ok
  have hd' : d < (phiL s).length := by rw [phiL_length]; exact hd
  clear h hr
  go_enter Try.func13, Try.ntmps13
  go_wp2_with (go_at_call 34; refine (Orbit_calls M.q c _ A (phiL s) d _ hc hp HR.out (Nat.le_refl _) hd' HO.out.phi (by rw [phiL_length]; have := HO.out.len; omega)).mono ?_; rintro e w' ⟨v, rfl, h1, h2⟩; have H1 := Lib.hid h1; have H2 := Lib.hid h2; clear h1 h2)
  go_ret
  exact ⟨_, rfl, H1.out, H2.out⟩

theorem xor_one (d : Nat) (hd : d < 9223372036854775808) : bits .xor .i64 (d : Int) 1 = ((mate d : Nat) : Int) := by
  have hx : d ^^^ 1 = mate d := by
    have h2 : (d ^^^ 1) / 2 = d / 2 := by rw [Nat.xor_div_two]; simp
    have h3 : (d ^^^ 1) % 2 = (d + 1) % 2 := by
      have h := Nat.xor_mod_two_pow (a := d) (b := 1) (n := 1)
      rw [Nat.pow_one] at h
      rw [h]
      rcases Nat.mod_two_eq_zero_or_one d with e | e <;> rw [e] <;> simp <;> omega
    have h4 := mate_half d
    unfold mate at h4 ⊢
    split <;> omega
  have hm : mate d < 9223372036854775808 := by unfold mate; split <;> omega
  show IntKind.i64.wrap ((BitVec.ofInt 64 (d : Int) ^^^ BitVec.ofInt 64 ((1 : Nat) : Int)).toNat : Int) = _
  rw [BitVec.toNat_xor, ofInt_u64 d (by omega), ofInt_u64 1 (by omega), hx, IntKind.wrap_i64]
  omega

theorem Mate_calls (h : MapAt w M s root lone fs ff fb) (d : Nat) (hd : d < s.length) :
    Calls Try.prog 54 #[.pointer (some ⟨M.b, 0, none⟩), .int .i64 d] w fun e w' => e = .returned (.int .i64 (mate d)) ∧ w = w' := by
  have hl := h.ok.len
  have H := Lib.hid h
  have hd1 : decide ((d : Int) < 0) = false := by simp
  clear h
  go_enter Try.func54, Try.ntmps54
  go_wp2_with (go_at_call 10; refine (Darts_calls H.out).mono ?_; rintro e w' ⟨rfl, rfl⟩)
  go_ret
  exact ⟨ret_int (xor_one d (by omega)), rfl⟩

end
end Go.Proofs.Ythakkchmegnlhaa
