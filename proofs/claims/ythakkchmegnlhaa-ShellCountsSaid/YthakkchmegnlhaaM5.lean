/- Plain mathematics: going from dart to dart with a stack. -/
import Derived.Test.YthakkchmegnlhaaM4
namespace Go.Proofs.Ythakkchmegnlhaa.Pq

/-- On the way: T was met, W waits. -/
structure Dfs (f : Nat → Nat) (n k : Nat) (T W : List Nat) : Prop where
  nodup : T.Nodup
  wnodup : W.Nodup
  mem : ∀ x ∈ T, Conn f k x
  sub : ∀ x ∈ W, x ∈ T
  cl : ∀ x ∈ T, x ∉ W → f x ∈ T ∧ mate x ∈ T
  root : k ∈ T

def visit (p : List Nat × List Nat) (y : Nat) : List Nat × List Nat := if p.1.contains y then p else (y :: p.1, p.2 ++ [y])

theorem Dfs.start (f : Nat → Nat) (n k : Nat) : Dfs f n k [k] [k] :=
  ⟨by simp, by simp, fun x hx => by simp at hx; subst hx; exact .refl _, fun x hx => hx, fun x hx h => absurd hx h, by simp⟩

theorem visit_fst (p : List Nat × List Nat) (y x : Nat) : x ∈ (visit p y).1 ↔ x ∈ p.1 ∨ x = y := by
  unfold visit
  by_cases h : p.1.contains y = true
  · rw [if_pos h]
    constructor
    · exact fun h => .inl h
    · rintro (h1 | rfl)
      · exact h1
      · simpa using h
  · rw [if_neg h]
    simp only [List.mem_cons]
    constructor
    · rintro (h | h)
      · exact .inr h
      · exact .inl h
    · rintro (h | h)
      · exact .inr h
      · exact .inl h
theorem visit_snd (p : List Nat × List Nat) (y x : Nat) : x ∈ (visit p y).2 ↔ x ∈ p.2 ∨ (x = y ∧ y ∉ p.1) := by
  unfold visit
  by_cases h : p.1.contains y = true
  · rw [if_pos h]
    have h' : y ∈ p.1 := by simpa using h
    constructor
    · exact fun h => .inl h
    · rintro (h1 | ⟨_, h2⟩)
      · exact h1
      · exact absurd h' h2
  · rw [if_neg h]
    have h' : y ∉ p.1 := by simpa using h
    simp [h']
theorem visit_len (p : List Nat × List Nat) (y : Nat) : (visit p y).2.length + p.1.length = p.2.length + (visit p y).1.length := by
  unfold visit
  split
  · omega
  · simp; omega

theorem Dfs.step {f : Nat → Nat} {n k : Nat} {T W : List Nat} {x : Nat} (h : Dfs f n k T (W ++ [x])) :
    Dfs f n k (visit (visit (T, W) (f x)) (mate x)).1 (visit (visit (T, W) (f x)) (mate x)).2 := by
  have hx : x ∈ T := h.sub x (by simp)
  have hxW : x ∉ W := by
    have := h.wnodup
    rw [List.nodup_append] at this
    intro hm
    exact this.2.2 x hm x (by simp) rfl
  have hW : W.Nodup := by
    have := h.wnodup
    rw [List.nodup_append] at this
    exact this.1
  have hsub : ∀ y ∈ W, y ∈ T := fun y hy => h.sub y (by simp [hy])
  -- one visit keeps lists without doubles, and what waits among what was met
  have one : ∀ (p : List Nat × List Nat) (y : Nat), p.1.Nodup → p.2.Nodup → (∀ z ∈ p.2, z ∈ p.1) → (visit p y).1.Nodup ∧ (visit p y).2.Nodup ∧ ∀ z ∈ (visit p y).2, z ∈ (visit p y).1 := by
    intro p y h1 h2 h3
    refine ⟨?_, ?_, fun z hz => ?_⟩
    · unfold visit
      by_cases hc : p.1.contains y = true
      · rw [if_pos hc]; exact h1
      · rw [if_neg hc]
        exact List.nodup_cons.2 ⟨by simpa using hc, h1⟩
    · unfold visit
      by_cases hc : p.1.contains y = true
      · rw [if_pos hc]; exact h2
      · rw [if_neg hc]
        refine List.nodup_append.2 ⟨h2, by simp, fun a ha b hb e => ?_⟩
        simp at hb
        subst hb; subst e
        exact absurd (h3 _ ha) (by simpa using hc)
    · rw [visit_snd] at hz
      rw [visit_fst]
      rcases hz with hz | ⟨hz, _⟩
      · exact .inl (h3 z hz)
      · exact .inr hz
  have a1 := one (T, W) (f x) h.nodup hW hsub
  have a2 := one (visit (T, W) (f x)) (mate x) a1.1 a1.2.1 a1.2.2
  refine ⟨a2.1, a2.2.1, ?_, a2.2.2, ?_, ?_⟩
  · intro z hz
    rw [visit_fst, visit_fst] at hz
    rcases hz with (hz | rfl) | rfl
    · exact h.mem z hz
    · exact .sig _ _ (h.mem x hx)
    · exact .mat _ _ (h.mem x hx)
  · intro z hz hzW
    rw [visit_snd, visit_snd] at hzW
    rw [visit_fst, visit_fst, visit_fst, visit_fst]
    rw [visit_fst, visit_fst] at hz
    by_cases e : z = x
    · subst e
      exact ⟨.inl (.inr rfl), .inr rfl⟩
    · rcases hz with (hz | rfl) | rfl
      · have := h.cl z hz (by simp [e]; intro hm; exact hzW (.inl (.inl hm)))
        exact ⟨.inl (.inl this.1), .inl (.inl this.2)⟩
      · by_cases hm : f x ∈ T
        · have := h.cl _ hm (by simp [e]; intro hm; exact hzW (.inl (.inl hm)))
          exact ⟨.inl (.inl this.1), .inl (.inl this.2)⟩
        · exact absurd (.inl (.inr ⟨rfl, hm⟩)) hzW
      · by_cases hm : mate x ∈ T
        · have := h.cl _ hm (by simp [e]; intro hm; exact hzW (.inl (.inl hm)))
          exact ⟨.inl (.inl this.1), .inl (.inl this.2)⟩
        · by_cases hm2 : mate x = f x
          · rw [hm2] at hm
            rw [hm2] at hzW
            exact absurd (.inl (.inr ⟨rfl, hm⟩)) hzW
          · refine absurd (.inr ⟨rfl, ?_⟩) hzW
            rw [visit_fst]
            rintro (h1 | h1)
            · exact hm h1
            · exact hm2 h1
  · rw [visit_fst, visit_fst]
    exact .inl (.inl h.root)

theorem Dfs.done {f : Nat → Nat} {n k : Nat} {T : List Nat} (h : Dfs f n k T []) (a : Nat) : a ∈ T ↔ Conn f k a := by
  refine ⟨h.mem a, fun hc => ?_⟩
  induction hc with
  | refl => exact h.root
  | sig b _ ih => exact (h.cl b (ih) (by simp)).1
  | mat b _ ih => exact (h.cl b (ih) (by simp)).2

theorem Dfs.len {f : Nat → Nat} {n k : Nat} {T W : List Nat} (h : Dfs f n k T W) (hf : Pm n f) (he : n % 2 = 0) (hk : k < n) : T.length ≤ n ∧ W.length ≤ n := by
  have h1 : T ⊆ List.range n := fun x hx => by rw [List.mem_range]; exact (h.mem x hx).lt hf he hk
  have h2 : W ⊆ List.range n := fun x hx => h1 (h.sub x hx)
  exact ⟨by simpa using h.nodup.length_le_of_subset h1, by simpa using h.wnodup.length_le_of_subset h2⟩

end Go.Proofs.Ythakkchmegnlhaa.Pq
