/- Plain mathematics: a triangulation is taken apart, vertex by vertex. -/
import Derived.Test.YthakkchmegnlhaaM10
namespace Go.Proofs.Ythakkchmegnlhaa.Pq

section
variable {n : Nat} {f : Nat → Nat} {r : Nat} {g : Nat → Prop} {L : List Nat}
theorem Bd.congr {g' : Nat → Prop} (B : Bd n f r g L) (h : ∀ u, g u ↔ g' u) : Bd n f r g' L := by
  have : g = g' := by funext u; exact propext (h u)
  rw [← this]
  exact B
/-- All is there. -/
theorem Nx.start (T : Trg n f) (hg : ∀ u, ¬ g u) {x y : Nat} (hx : x < n) (hy : y < n) (e : f (mate y) = x) : Nx n f g x y := by
  have s := T.pm.per_spec hx
  refine ⟨per f x - 1, by omega, ?_, fun j _ _ => hg _, fun j j1 j2 => by omega⟩
  refine T.pm.inj _ _ (T.pm.it_lt _ x hx) (T.ml hy) ?_
  rw [← it_succ' f (per f x - 1) x, show per f x - 1 + 1 = per f x by omega, s.2.1, e]
theorem Bd.start (T : Trg n f) (hr : r < n) (hg : ∀ u, ¬ g u) : Bd n f r g [r, ph f (ph f r), ph f r] := by
  have h1 := T.pl hr
  have h2 := T.pl h1
  have e1 : nm f n (ph f r) ≠ nm f n r := by rw [T.nm_ph hr]; exact T.nl r hr
  have e2 : nm f n (ph f (ph f r)) ≠ nm f n (ph f r) := by rw [T.nm_ph h1]; exact T.nl _ h1
  have e3 : nm f n r ≠ nm f n (ph f (ph f r)) := by
    have := T.nm_ph h2
    rw [T.tri r hr] at this
    rw [this]
    exact T.nl _ h2
  refine ⟨?_, rfl, ?_, fun _ _ => hg _, ⟨?_, ?_, ?_, trivial⟩, fun _ _ h => absurd h (hg _)⟩
  · intro d hd
    simp only [List.mem_cons, List.not_mem_nil, or_false] at hd
    rcases hd with rfl | rfl | rfl
    · exact hr
    · exact h2
    · exact h1
  · simp only [List.map_cons, List.map_nil, List.nodup_cons, List.mem_cons, List.not_mem_nil, or_false, not_or, not_false_eq_true, List.nodup_nil, and_true]
    exact ⟨⟨e3, e1.symm⟩, e2⟩
  · exact Nx.start T hg hr h2 (T.tri r hr)
  · exact Nx.start T hg h2 h1 rfl
  · exact Nx.start T hg h1 hr rfl
/-- Two are left: all others are gone. -/
theorem Bd.last (T : Trg n f) {x y : Nat} (B : Bd n f r g [x, y]) {d : Nat} (hd : d < n) : g (nm f n d) ∨ nm f n d = nm f n x ∨ nm f n d = nm f n y := by
  have hpm := T.pm
  have hx : x < n := B.lt x (by simp)
  have hy : y < n := B.lt y (by simp)
  have hxr : x = r := B.head
  obtain ⟨c1, c2, _⟩ := B.chain
  have c1 : Nx n f g x y := c1
  have c2 : Nx n f g y x := by have : Nx n f g y r := c2
                               rw [hxr]; exact this
  have n1 := c1.name T hx
  have n2 := c2.name T hy
  have hxy : x = mate y := T.nd x (mate y) hx (T.ml hy) n1.symm (by rw [n2, mate_mate])
  obtain ⟨a, a1, a2, a3, a4⟩ := c1
  obtain ⟨b, b1, b2, b3, b4⟩ := c2
  rw [← hxy] at a2
  have hyx : mate x = y := by rw [hxy, mate_mate]
  rw [hyx] at b2
  have ha : a = 0 := by
    rcases Nat.eq_zero_or_pos a with e | e
    · exact e
    · exact absurd a2 ((hpm.per_spec hx).2.2 a e a1)
  have hb : b = 0 := by
    rcases Nat.eq_zero_or_pos b with e | e
    · exact e
    · exact absurd b2 ((hpm.per_spec hy).2.2 b e b1)
  subst ha hb
  have := T.conn x d hx hd
  induction this with
  | refl => exact .inr (.inl rfl)
  | sig c o ih =>
    have hc := o.lt hpm T.ev hx
    rw [hpm.nm_step hc]
    exact ih hc
  | mat c o ih =>
    have hc := o.lt hpm T.ev hx
    rcases ih hc with h | h | h
    · rcases B.cl c hc h with k | k
      · exact .inl k
      · simp only [List.map_cons, List.map_nil, List.mem_cons, List.not_mem_nil, or_false] at k
        exact .inr k
    · obtain ⟨j, hj, rfl⟩ := hpm.exists_it hx hc h
      rcases Nat.eq_zero_or_pos j with e | e
      · subst e
        exact .inr (.inr (by rw [show it f 0 x = x from rfl, hyx]))
      · exact .inl (a4 j e hj)
    · obtain ⟨j, hj, rfl⟩ := hpm.exists_it hy hc h
      rcases Nat.eq_zero_or_pos j with e | e
      · subst e
        exact .inr (.inl (by rw [show it f 0 y = y from rfl, ← hxy]))
      · exact .inl (b4 j e hj)
theorem Bd.pos (T : Trg n f) (B : Bd n f r g L) {X Y : List Nat} {p q t a : Nat} (hL : L = X ++ p :: q :: t :: Y) (hr : it f a q = mate t) : 0 < a := by
  have hpL : p ∈ L := by rw [hL]; simp
  have htL : t ∈ L := by rw [hL]; simp
  have hnd := B.nodupL
  have hch := B.chain
  rw [hL, chn_append] at hch
  have npq := Nx.name T (B.lt p hpL) hch.2.1
  rw [hL, List.nodup_append] at hnd
  simp only [List.nodup_cons, List.mem_cons, not_or] at hnd
  rcases Nat.eq_zero_or_pos a with e | e
  · exfalso
    subst e
    have hr : q = mate t := hr
    have npq : nm f n (mate q) = nm f n p := npq
    rw [hr, mate_mate] at npq
    exact hnd.2.1.1.2.1 (B.inj htL hpL npq).symm
  · exact e

/-- How it is taken apart: who is gone, in this order; the border. -/
inductive Shl (n : Nat) (f : Nat → Nat) (r : Nat) : List Nat → List Nat → Prop
  | start : Shl n f r [] [r, ph f (ph f r), ph f r]
  | step (G L : List Nat) (q a : Nat) : Shl n f r G L → 0 < q → q + 1 < L.length → Fre n f (· ∈ G) L (L.getD q 0) (L.getD (q + 1) 0) a →
      (∀ i, 0 < i → i < q → ∀ b, ¬ Fre n f (· ∈ G) L (L.getD i 0) (L.getD (i + 1) 0) b) →
      Shl n f r (G ++ [nm f n (L.getD q 0)]) (L.take q ++ ((List.range a).map (fun j => ph f (it f (j + 1) (L.getD q 0))) ++ L.drop (q + 2)))

/-- How one went: who was ahead of it, in a row; who was gone, in a row. -/
def Went (n : Nat) (f : Nat → Nat) (r : Nat) (A : List Nat) (u q a : Nat) : Prop :=
  q < n ∧ nm f n q = u ∧ 0 < a ∧ a < per f q ∧ (∀ j, j ≤ a → nm f n (mate (it f j q)) ∉ A) ∧ (∀ j, a < j → j < per f q → nm f n (mate (it f j q)) ∈ A) ∧
    (A = [] → u = nm f n (ph f (ph f r)) ∧ a + 1 = per f q) ∧ (A ≠ [] → a + 1 < per f q)

structure Shd (n : Nat) (f : Nat → Nat) (r : Nat) (G L : List Nat) : Prop where
  bd : Bd n f r (· ∈ G) L
  two : 2 ≤ L.length
  nodup : G.Nodup
  names : ∀ u ∈ G, u < cnt f n
  three : G = [] → L = [r, ph f (ph f r), ph f r]
  near : G ≠ [] → ∀ x ∈ L, ∃ d, d < n ∧ nm f n d = nm f n x ∧ nm f n (mate d) ∈ G
  went : ∀ A u C, G = A ++ u :: C → ∃ q a, Went n f r A u q a
  least : L.length = 2 → ∀ A u, G = A ++ [u] → ∃ q, Went n f r A u q 1

theorem Shl.shd (T : Trg n f) (hr : r < n) {G : List Nat} (h : Shl n f r G L) : Shd n f r G L := by
  have hpm := T.pm
  induction h with
  | start =>
    exact ⟨Bd.start T hr (fun u => List.not_mem_nil), by simp, by simp, fun u hu => absurd hu List.not_mem_nil, fun _ => rfl, fun h => absurd rfl h,
      fun A u C e => absurd e (by simp), fun h => absurd h (by simp)⟩
  | step G L q a hs hq0 hq1 hF hmin ih =>
    have B := ih.bd
    obtain ⟨X, Y, hL, hXl⟩ := split_at hq0 hq1
    obtain ⟨p, hp⟩ : ∃ p, p = L.getD (q - 1) 0 := ⟨_, rfl⟩
    obtain ⟨x, hx⟩ : ∃ x, x = L.getD q 0 := ⟨_, rfl⟩
    obtain ⟨t, ht⟩ : ∃ t, t = L.getD (q + 1) 0 := ⟨_, rfl⟩
    rw [← hp, ← hx, ← ht] at hL
    rw [← hx, ← ht] at hF
    rw [← hx]
    obtain ⟨f1, f2, f3, f4, f5⟩ := hF
    have htake : L.take q = X ++ [p] := by
      rw [hL, show X ++ p :: x :: t :: Y = (X ++ [p]) ++ (x :: t :: Y) by simp, List.take_left' (by simp; omega)]
    have hdrop : L.drop (q + 2) = Y := by
      rw [hL, show X ++ p :: x :: t :: Y = (X ++ [p, x, t]) ++ Y by simp, List.drop_left' (by simp; omega)]
    have ha0 := B.pos T hL f2
    have hxL : x ∈ L := by rw [hL]; simp
    have hpL : p ∈ L := by rw [hL]; simp
    have htL : t ∈ L := by rw [hL]; simp
    have hxn := B.lt x hxL
    have hpn := B.lt p hpL
    have htn := B.lt t htL
    have hch := B.chain
    rw [hL, chn_append] at hch
    have npx : nm f n (mate x) = nm f n p := Nx.name T hpn hch.2.1
    have nxt : nm f n (mate t) = nm f n x := Nx.name T hxn hch.2.2.1
    rw [htake, hdrop, show (X ++ [p]) ++ ((List.range a).map (fun j => ph f (it f (j + 1) x)) ++ Y) = X ++ p :: ((List.range a).map (fun j => ph f (it f (j + 1) x)) ++ Y) by simp]
    have B' := (B.take T hL f1 f2 f3 f4 f5).congr (g' := (· ∈ G ++ [nm f n x])) (fun u => by simp)
    have hout : G ≠ [] → a + 1 < per f x := by
      intro hG
      obtain ⟨d, hd, e, hg⟩ := ih.near hG x hxL
      obtain ⟨j, hj, rfl⟩ := hpm.exists_it hxn hd e
      rcases Nat.lt_or_ge a j with h1 | h1
      · omega
      · exfalso
        rcases Nat.eq_zero_or_pos j with e0 | e0
        · subst e0
          have hg : nm f n (mate x) ∈ G := hg
          rw [npx] at hg
          exact B.alive p hpL hg
        · rcases Nat.lt_or_ge j a with h2 | h2
          · exact f3 j e0 h2 hg
          · obtain rfl : j = a := by omega
            rw [f2, mate_mate] at hg
            exact B.alive t htL hg
    have hall : ∀ j, j ≤ a → nm f n (mate (it f j x)) ∉ G := by
      intro j h1
      rcases Nat.eq_zero_or_pos j with e0 | e0
      · subst e0
        rw [show it f 0 x = x from rfl, npx]
        exact B.alive p hpL
      · rcases Nat.lt_or_ge j a with h2 | h2
        · exact f3 j e0 h2
        · obtain rfl : j = a := by omega
          rw [f2, mate_mate]
          exact B.alive t htL
    have hwent : Went n f r G (nm f n x) x a := by
      refine ⟨hxn, rfl, ha0, f1, hall, f4, fun hG => ?_, hout⟩
      have h3 := ih.three hG
      have e1 : x = ph f (ph f r) := by
        rw [h3] at hq1 hx
        have : q = 1 := by simp at hq1; omega
        subst this
        exact hx
      refine ⟨by rw [e1], ?_⟩
      rcases Nat.lt_or_ge (a + 1) (per f x) with h4 | h4
      · have := f4 (a + 1) (by omega) h4
        rw [hG] at this
        exact absurd this List.not_mem_nil
      · omega
    refine ⟨B', ?_, ?_, ?_, ?_, ?_, ?_, ?_⟩
    · simp; omega
    · rw [List.nodup_append]
      refine ⟨ih.nodup, by simp, fun u hu v hv => ?_⟩
      rw [List.mem_singleton] at hv
      subst hv
      rintro rfl
      exact B.alive x hxL hu
    · intro u hu
      rw [List.mem_append, List.mem_singleton] at hu
      rcases hu with hu | rfl
      · exact ih.names u hu
      · exact hpm.nm_lt hxn
    · intro e; simp at e
    · intro _ y hy
      simp only [List.mem_append, List.mem_cons] at hy
      have hold : ∀ y ∈ L, G ≠ [] → ∃ d, d < n ∧ nm f n d = nm f n y ∧ nm f n (mate d) ∈ G ++ [nm f n x] := fun y hy hG => by
        obtain ⟨d, hd, e, hg⟩ := ih.near hG y hy
        exact ⟨d, hd, e, by simp [hg]⟩
      have hthr : G = [] → X = [] ∧ Y = [] := by
        intro hG
        have h3 := ih.three hG
        have h4 : L.length = 3 := by rw [h3]; rfl
        rw [hL] at h4
        simp at h4
        exact ⟨List.length_eq_zero_iff.1 (by omega), List.length_eq_zero_iff.1 (by omega)⟩
      have hXY : ∀ y, y ∈ X ∨ y ∈ Y → ∃ d, d < n ∧ nm f n d = nm f n y ∧ nm f n (mate d) ∈ G ++ [nm f n x] := by
        intro y hy
        by_cases hG : G = []
        · have := hthr hG
          rw [this.1, this.2] at hy
          simp at hy
        · refine hold y ?_ hG
          rw [hL]
          rcases hy with hy | hy <;> simp [hy]
      rcases hy with hy | rfl | hy | hy
      · exact hXY y (.inl hy)
      · exact ⟨mate x, T.ml hxn, npx, by rw [mate_mate]; simp⟩
      · rw [List.mem_map] at hy
        obtain ⟨j, hj, rfl⟩ := hy
        have hd := hpm.it_lt (j + 1) x hxn
        exact ⟨mate (it f (j + 1) x), T.ml hd, (T.nm_ph hd).symm, by rw [mate_mate, hpm.nm_it hxn]; simp⟩
      · exact hXY y (.inr hy)
    · intro A u C e
      rcases List.eq_nil_or_concat C with hC | ⟨C0, c, hC⟩
      · subst hC
        obtain ⟨rfl, e2⟩ := List.append_inj' e (by simp)
        cases e2
        exact ⟨x, a, hwent⟩
      · subst hC
        rw [show A ++ u :: C0.concat c = (A ++ u :: C0) ++ [c] by simp] at e
        obtain ⟨e1, _⟩ := List.append_inj' e (by simp)
        exact ih.went A u C0 e1
    · intro h2 A u e
      obtain ⟨rfl, e2⟩ := List.append_inj' e (by simp)
      cases e2
      simp at h2
      obtain rfl : a = 1 := by omega
      exact ⟨x, hwent⟩

theorem Shd.next (T : Trg n f) {G : List Nat} (S : Shd n f r G L) (h3 : 3 ≤ L.length) : ∃ q a, 0 < q ∧ q + 1 < L.length ∧ Fre n f (· ∈ G) L (L.getD q 0) (L.getD (q + 1) 0) a ∧
    ∀ i, 0 < i → i < q → ∀ b, ¬ Fre n f (· ∈ G) L (L.getD i 0) (L.getD (i + 1) 0) b := by
  obtain ⟨q, a, q0, q1, hF⟩ := S.bd.free T h3
  induction q using Nat.strongRecOn generalizing a with
  | _ q ih =>
    by_cases hm : ∀ i, 0 < i → i < q → ∀ b, ¬ Fre n f (· ∈ G) L (L.getD i 0) (L.getD (i + 1) 0) b
    · exact ⟨q, a, q0, q1, hF, hm⟩
    · simp only [Classical.not_forall, Classical.not_not] at hm
      obtain ⟨i, i0, i1, b, hb⟩ := hm
      exact ih i i1 b i0 (by omega) hb
theorem Shd.all (T : Trg n f) {G : List Nat} (S : Shd n f r G L) (h2 : L.length = 2) {d : Nat} (hd : d < n) : nm f n d ∈ G ∨ nm f n d = nm f n r ∨ nm f n d = nm f n (ph f r) := by
  have B := S.bd
  rcases L with _ | ⟨x, _ | ⟨y, _ | ⟨z, L⟩⟩⟩
  · simp at h2
  · simp at h2
  · have := B.last T hd
    have hx : x = r := B.head
    have hxn : r < n := hx ▸ B.lt x (by simp)
    have h1 : nm f n (mate r) = nm f n y := Nx.name T (B.lt y (by simp)) B.chain.2.1
    rw [hx, ← h1, ← T.nm_ph hxn] at this
    exact this
  · simp at h2
theorem Shd.gone_le {G : List Nat} (S : Shd n f r G L) : G.length ≤ cnt f n := by
  have := S.nodup.length_le_of_subset (l₂ := List.range (cnt f n)) (fun u hu => by rw [List.mem_range]; exact S.names u hu)
  simpa using this
/-- The first two are never gone. -/
theorem Shd.ends (T : Trg n f) {G : List Nat} (S : Shd n f r G L) (hr : r < n) : nm f n r ∉ G ∧ nm f n (ph f r) ∉ G := by
  have B := S.bd
  have h2 := S.two
  constructor
  · have hh := B.head
    cases L with
    | nil => simp at h2
    | cons x L => have hh : x = r := hh
                  exact hh ▸ B.alive x (by simp)
  · rcases List.eq_nil_or_concat L with e | ⟨L0, y, e⟩
    · rw [e] at h2; simp at h2
    · rw [List.concat_eq_append] at e
      have hch := B.chain
      rw [e, chn_append] at hch
      have hy : y ∈ L := by rw [e]; simp
      have h1 : nm f n (mate r) = nm f n y := Nx.name T (B.lt y hy) hch.2.1
      rw [T.nm_ph hr, h1]
      exact B.alive y hy
end
end Go.Proofs.Ythakkchmegnlhaa.Pq
