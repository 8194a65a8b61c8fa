/- Walks over the document's answer for layer 14: pick, put. -/
import Derived.Test.YthakkchmegnlhaaR2
import Derived.Test.YthakkchmegnlhaaA12
import Derived.Test.YthakkchmegnlhaaW20
import Derived.Test.YthakkchmegnlhaaM15
namespace Go.Proofs.Ythakkchmegnlhaa
open Go.RowKit Pq

/-- A slice of bytes that reads. -/
def Rby (w : World) (B : Nat) (A : Option Addr) (n : Nat) : Prop := n = 0 ∨ ∃ b off, A = some ⟨b, off, none⟩ ∧ b < B ∧ ∀ i, i < n → ∃ z : Nat, z < 256 ∧ w.cell? ⟨b, off + i, none⟩ = some (.int .u8 (z : Int))
theorem Rby.below {w w' : World} {B : Nat} {A : Option Addr} {n : Nat} (h : Rby w B A n) (hb : Below B w w') : Rby w' B A n := by
  rcases h with h | ⟨b, off, rfl, hB, hc⟩
  · exact .inl h
  · exact .inr ⟨b, off, rfl, hB, fun i hi => by
      obtain ⟨z, hz, h⟩ := hc i hi
      exact ⟨z, hz, by rw [hb.cell hB]; exact h⟩⟩

set_option maxHeartbeats 1000000 in
theorem pick_calls (A : Option Addr) (n c a B : Nat) (w : World) (h : Rby w B A n) (ha : a < 1099511627776) (hn : n < 9223372036854775808) :
    Calls Try.prog 23 #[.slice A n c, .int .i64 a] w fun e w' => ∃ y q : Nat, e = .returned (.int .i64 (y : Int)) ∧ y < 2199023255552 ∧ w' = w.drewN q := by
  rcases Nat.eq_zero_or_pos n with h0 | h0
  · subst h0
    clear h
    go_enter Try.func23, Try.ntmps23
    go_wp2
    go_ret
    exact ⟨0, 0, rfl, by omega, rfl⟩
  · rcases h with h | ⟨b, off, rfl, hB, hc⟩
    · omega
    · obtain ⟨z, hz, hcz⟩ := hc (a % n) (Nat.mod_lt _ h0)
      have e0 : ((n : Int) == 0) = false := beq_eq_false_iff_ne.2 (by omega)
      obtain ⟨k, hk⟩ : ∃ k, k = a % n := ⟨_, rfl⟩
      rw [← hk] at hcz
      have hkn : k < n := hk ▸ Nat.mod_lt _ h0
      obtain ⟨d, hd⟩ : ∃ d, d = a / n := ⟨_, rfl⟩
      have hda : d ≤ a := hd ▸ Nat.div_le_self _ _
      have hn0 : ¬ ((n : Int) = 0) := by omega
      have hn00 : ¬ (n = 0) := by omega
      have hm : ((a : Int) % (n : Int)) = (k : Int) := by rw [hk]; rfl
      have hdv : ((a : Int) / (n : Int)) = (d : Int) := by rw [hd]; rfl
      clear hc hk hd
      go_enter Try.func23, Try.ntmps23
      go_wp2
      go_quiet (fail)
      go_wp2
      go_ret
      exact ⟨z + d, _, rfl, by omega, rfl⟩
end Go.Proofs.Ythakkchmegnlhaa
