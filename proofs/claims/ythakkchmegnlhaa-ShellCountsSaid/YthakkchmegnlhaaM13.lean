/- Plain mathematics: triangulations whose vertices bear labels; a vertex is put into a face; an edge is flipped. -/
import Derived.Test.YthakkchmegnlhaaM12
namespace Go.Proofs.Ythakkchmegnlhaa.Pq

theorem inj_le {a b : Nat} (g : Nat → Nat) (h : ∀ i, i < a → g i < b) (k : ∀ i j, i < a → j < a → g i = g j → i = j) : a ≤ b := by
  have hnd : ((List.range a).map g).Nodup := by
    rw [List.Nodup, List.pairwise_map]
    refine List.Pairwise.imp_of_mem ?_ List.pairwise_lt_range
    intro x y hx hy hxy e
    rw [List.mem_range] at hx hy
    have := k x y hx hy e
    omega
  have := hnd.length_le_of_subset (l₂ := List.range b) (fun u hu => by
    rw [List.mem_map] at hu
    obtain ⟨i, hi, rfl⟩ := hu
    rw [List.mem_range] at hi ⊢
    exact h i hi)
  simpa using this

theorem Pm.of_left {n : Nat} {f : Nat → Nat} (g : Nat → Nat) (h : ∀ x, x < n → f x < n) (k : ∀ x, x < n → g (f x) = x) : Pm n f :=
  ⟨h, fun x y hx hy e => by rw [← k x hx, ← k y hy, e]⟩
theorem Pm.exists_back {n : Nat} {f : Nat → Nat} (h : Pm n f) : ∃ b : Nat → Nat, ∀ x, x < n → b (f x) = x := by
  have : ∀ y, ∃ x, ∀ z, z < n → f z = y → z = x := by
    intro y
    by_cases e : ∃ x, x < n ∧ f x = y
    · obtain ⟨x, hx, e⟩ := e
      exact ⟨x, fun z hz ez => h.inj z x hz hx (ez.trans e.symm)⟩
    · exact ⟨0, fun z hz ez => absurd ⟨z, hz, ez⟩ e⟩
  obtain ⟨b, hb⟩ := Classical.axiomOfChoice this
  exact ⟨b, fun x hx => (hb (f x) x hx rfl).symm⟩

/-- Labels of darts, alike just along orbits; all below v, each in use: then there are v orbits. -/
theorem cnt_of_lab {n v : Nat} {f lam : Nat → Nat} (h : Pm n f) (hlt : ∀ d, d < n → lam d < v) (hs : ∀ d, d < n → lam (f d) = lam d)
    (ho : ∀ d d', d < n → d' < n → lam d = lam d' → Orb f d d') (hu : ∀ u, u < v → ∃ d, d < n ∧ lam d = u) : cnt f n = v := by
  have h1 : ∀ m, ∃ d, m < cnt f n → d < n ∧ nm f n d = m := fun m => by
    by_cases hm : m < cnt f n
    · obtain ⟨d, hl, e⟩ := h.exists_nm hm
      exact ⟨d, fun _ => ⟨hl.1, e⟩⟩
    · exact ⟨0, fun k => absurd k hm⟩
  have h2 : ∀ u, ∃ d, u < v → d < n ∧ lam d = u := fun u => by
    by_cases hm : u < v
    · obtain ⟨d, hl⟩ := hu u hm
      exact ⟨d, fun _ => hl⟩
    · exact ⟨0, fun k => absurd k hm⟩
  obtain ⟨D, hD⟩ := Classical.axiomOfChoice h1
  obtain ⟨E, hE⟩ := Classical.axiomOfChoice h2
  have a := inj_le (a := cnt f n) (b := v) (fun m => lam (D m)) (fun i hi => hlt _ (hD i hi).1) (fun i j hi hj e => by
    rw [← (hD i hi).2, ← (hD j hj).2]
    exact (h.nm_eq (hD i hi).1 (hD j hj).1).2 (ho _ _ (hD i hi).1 (hD j hj).1 e))
  have b := inj_le (a := v) (b := cnt f n) (fun u => nm f n (E u)) (fun i hi => h.nm_lt (hE i hi).1) (fun i j hi hj e => by
    rw [← (hE i hi).2, ← (hE j hj).2]
    exact (Orb.keep h lam hs (hE i hi).1 ((h.nm_eq (hE i hi).1 (hE j hj).1).1 e)).symm)
  omega

/-- All orbits have three. -/
theorem cnt_three {n : Nat} {f : Nat → Nat} (h : Pm n f) (h3 : ∀ d, d < n → f (f (f d)) = d) (h1 : ∀ d, d < n → f d ≠ d) : 3 * cnt f n = n := by
  have h2 : ∀ d, d < n → f (f d) ≠ d := fun d hd e => by
    have := h3 d hd
    rw [e] at this
    exact h1 d hd this
  have hp : ∀ d, d < n → per f d = 3 := fun d hd => h.per_eq hd (by omega) (h3 d hd) (fun k k1 k2 => by
    have : k = 1 ∨ k = 2 := by omega
    rcases this with rfl | rfl
    · exact h1 d hd
    · exact h2 d hd)
  have e1 : ∀ m, ∃ d, m < cnt f n → d < n ∧ nm f n d = m := fun m => by
    by_cases hm : m < cnt f n
    · obtain ⟨d, hl, e⟩ := h.exists_nm hm
      exact ⟨d, fun _ => ⟨hl.1, e⟩⟩
    · exact ⟨0, fun k => absurd k hm⟩
  obtain ⟨D, hD⟩ := Classical.axiomOfChoice e1
  have a := inj_le (a := 3 * cnt f n) (b := n) (fun i => it f (i % 3) (D (i / 3))) (fun i hi => h.it_lt _ _ (hD (i / 3) (by omega)).1) (fun i j hi hj e => by
    have di := hD (i / 3) (by omega)
    have dj := hD (j / 3) (by omega)
    have e2 : nm f n (it f (i % 3) (D (i / 3))) = nm f n (it f (j % 3) (D (j / 3))) := by rw [show it f (i % 3) (D (i / 3)) = it f (j % 3) (D (j / 3)) from e]
    rw [h.nm_it di.1, h.nm_it dj.1, di.2, dj.2] at e2
    have e : it f (i % 3) (D (i / 3)) = it f (j % 3) (D (j / 3)) := e
    rw [e2] at e
    rcases Nat.lt_trichotomy (i % 3) (j % 3) with l | l | l
    · exact absurd e (h.it_ne dj.1 l (by rw [hp _ dj.1]; omega))
    · omega
    · exact absurd e.symm (h.it_ne dj.1 l (by rw [hp _ dj.1]; omega)))
  have e2 : ∀ d, ∃ k, d < n → k < 3 ∧ it f k (D (nm f n d)) = d := fun d => by
    by_cases hd : d < n
    · have hm := hD (nm f n d) (h.nm_lt hd)
      obtain ⟨k, hk, e⟩ := h.exists_it hm.1 hd hm.2.symm
      rw [hp _ hm.1] at hk
      exact ⟨k, fun _ => ⟨hk, e⟩⟩
    · exact ⟨0, fun k => absurd k hd⟩
  obtain ⟨K, hK⟩ := Classical.axiomOfChoice e2
  have b := inj_le (a := n) (b := 3 * cnt f n) (fun d => 3 * nm f n d + K d) (fun d hd => by
    have := h.nm_lt hd
    have := (hK d hd).1
    show 3 * nm f n d + K d < _
    omega) (fun i j hi hj e => by
    have e : 3 * nm f n i + K i = 3 * nm f n j + K j := e
    have ki := hK i hi
    have kj := hK j hj
    have e3 : nm f n i = nm f n j := by omega
    have e4 : K i = K j := by omega
    rw [← ki.2, ← kj.2, e3, e4])
  omega

/-- A triangulation of v vertices with labels. -/
structure TR (n v : Nat) (f lam : Nat → Nat) : Prop where
  pm : Pm n f
  big : n + 12 = 6 * v
  pos : 0 < n
  lt : ∀ d, d < n → lam d < v
  step : ∀ d, d < n → lam (f d) = lam d
  orb : ∀ d d', d < n → d' < n → lam d = lam d' → Orb f d d'
  all : ∀ u, u < v → ∃ d, d < n ∧ lam d = u
  conn : ∀ d, d < n → Conn f 0 d
  tri : ∀ d, d < n → ph f (ph f (ph f d)) = d
  nl : ∀ d, d < n → lam (mate d) ≠ lam d
  nd : ∀ d d', d < n → d' < n → lam d = lam d' → lam (mate d) = lam (mate d') → d = d'

section
variable {n v : Nat} {f lam : Nat → Nat}
theorem TR.ev (T : TR n v f lam) : n % 2 = 0 := by have := T.big; omega
theorem TR.ml (T : TR n v f lam) {d : Nat} (hd : d < n) : mate d < n := mate_lt T.ev hd
theorem TR.pl (T : TR n v f lam) {d : Nat} (hd : d < n) : ph f d < n := T.pm.lt _ (T.ml hd)
theorem TR.lam_ph (T : TR n v f lam) {d : Nat} (hd : d < n) : lam (ph f d) = lam (mate d) := T.step _ (T.ml hd)
theorem TR.nm_iff (T : TR n v f lam) {a b : Nat} (ha : a < n) (hb : b < n) : nm f n a = nm f n b ↔ lam a = lam b := by
  rw [T.pm.nm_eq ha hb]
  exact ⟨fun o => (Orb.keep T.pm lam T.step ha o).symm, T.orb a b ha hb⟩
theorem TR.cnt (T : TR n v f lam) : Pq.cnt f n = v := cnt_of_lab T.pm T.lt T.step T.orb T.all
theorem TR.ph_ne (T : TR n v f lam) {d : Nat} (hd : d < n) : ph f d ≠ d := fun e => by
  have := T.lam_ph hd
  rw [e] at this
  exact T.nl d hd this.symm
theorem TR.trg (T : TR n v f lam) : Trg n f := by
  have h3 := cnt_three (ph_pm T.pm T.ev) T.tri (fun d hd => T.ph_ne hd)
  have hc := T.cnt
  have hb := T.big
  refine ⟨T.pm, T.ev, T.pos, fun a b ha hb => ((T.conn a ha).symm T.pm T.ev T.pos).trans (T.conn b hb), by omega, T.tri, ?_, ?_⟩
  · intro d hd e
    exact T.nl d hd ((T.nm_iff (T.ml hd) hd).1 e)
  · intro d d' hd hd' e1 e2
    exact T.nd d d' hd hd' ((T.nm_iff hd hd').1 e1) ((T.nm_iff (T.ml hd) (T.ml hd')).1 e2)

/-- A vertex is put into the face of d. -/
def putF (n : Nat) (f : Nat → Nat) (d x : Nat) : Nat :=
  if x = n then d else if x = n + 1 then n + 5 else if x = n + 2 then ph f d else if x = n + 3 then n + 1 else if x = n + 4 then ph f (ph f d) else if x = n + 5 then n + 3
  else if x = mate (ph f (ph f d)) then n else if x = mate d then n + 2 else if x = mate (ph f d) then n + 4 else f x
def putL (n v : Nat) (f lam : Nat → Nat) (d x : Nat) : Nat :=
  if x = n then lam d else if x = n + 2 then lam (ph f d) else if x = n + 4 then lam (ph f (ph f d)) else if x = n + 1 ∨ x = n + 3 ∨ x = n + 5 then v else lam x

set_option maxHeartbeats 4000000 in
theorem TR.put (T : TR n v f lam) {d : Nat} (hd : d < n) : TR (n + 6) (v + 1) (putF n f d) (putL n v f lam d) := by
  have hev := T.ev
  obtain ⟨x1, h1⟩ : ∃ x1, x1 = ph f d := ⟨_, rfl⟩
  obtain ⟨x2, h2⟩ : ∃ x2, x2 = ph f x1 := ⟨_, rfl⟩
  have l1 : x1 < n := h1 ▸ T.pl hd
  have l2 : x2 < n := h2 ▸ T.pl l1
  have t2 : ph f x2 = d := by rw [h2, h1]; exact T.tri d hd
  have m0 := T.ml hd
  have m1 := T.ml l1
  have m2 := T.ml l2
  have a1 : lam x1 = lam (mate d) := h1 ▸ T.lam_ph hd
  have a2 : lam x2 = lam (mate x1) := h2 ▸ T.lam_ph l1
  have a0 : lam d = lam (mate x2) := by rw [← T.lam_ph l2, t2]
  have n0 := T.nl d hd
  have n1 := T.nl x1 l1
  have n2 := T.nl x2 l2
  have b0 := T.lt d hd
  have b1 := T.lt x1 l1
  have b2 := T.lt x2 l2
  have d01 : d ≠ x1 := fun e => by rw [e] at a1 n0; exact n1 a1.symm
  have d12 : x1 ≠ x2 := fun e => by rw [← e] at a2; exact n1 a2.symm
  have d02 : d ≠ x2 := fun e => by rw [← e] at a0; exact n0 a0.symm
  have mi : ∀ {a b : Nat}, mate a = mate b → a = b := fun {a b} e => by rw [← mate_mate a, e, mate_mate]
  have q0 : mate n = n + 1 := by unfold mate; rw [if_pos hev]
  have q1 : mate (n + 1) = n := by rw [← q0, mate_mate]
  have q2 : mate (n + 2) = n + 3 := by unfold mate; rw [if_pos (by omega)]
  have q3 : mate (n + 3) = n + 2 := by rw [← q2, mate_mate]
  have q4 : mate (n + 4) = n + 5 := by unfold mate; rw [if_pos (by omega)]
  have q5 : mate (n + 5) = n + 4 := by rw [← q4, mate_mate]
  obtain ⟨F, hF⟩ : ∃ F, F = putF n f d := ⟨_, rfl⟩
  obtain ⟨K, hK⟩ : ∃ K, K = putL n v f lam d := ⟨_, rfl⟩
  have p0 : F n = d := by rw [hF]; simp [putF]
  have p1 : F (n + 1) = n + 5 := by rw [hF]; simp [putF]
  have p2 : F (n + 2) = x1 := by rw [hF]; simp [putF, h1]
  have p3 : F (n + 3) = n + 1 := by rw [hF]; simp [putF]
  have p4 : F (n + 4) = x2 := by rw [hF]; simp [putF, h2, h1]
  have p5 : F (n + 5) = n + 3 := by rw [hF]; simp [putF]
  have hlow : ∀ {x}, x < n → F x = if x = mate x2 then n else if x = mate d then n + 2 else if x = mate x1 then n + 4 else f x := fun {x} hx => by
    rw [hF, putF, if_neg (by omega), if_neg (by omega), if_neg (by omega), if_neg (by omega), if_neg (by omega), if_neg (by omega), ← h1, ← h2]
  have pm2 : F (mate x2) = n := by rw [hlow m2, if_pos rfl]
  have pm0 : F (mate d) = n + 2 := by rw [hlow m0, if_neg (fun e => d02 (mi e)), if_pos rfl]
  have pm1 : F (mate x1) = n + 4 := by rw [hlow m1, if_neg (fun e => d12 (mi e)), if_neg (fun e => d01 (mi e).symm), if_pos rfl]
  have po : ∀ {x}, x < n → x ≠ mate d → x ≠ mate x1 → x ≠ mate x2 → F x = f x := fun {x} hx e0 e1 e2 => by rw [hlow hx, if_neg e2, if_neg e0, if_neg e1]
  have k0 : K n = lam d := by rw [hK]; simp [putL]
  have k1 : K (n + 1) = v := by rw [hK]; simp [putL]
  have k2 : K (n + 2) = lam x1 := by rw [hK]; simp [putL, h1]
  have k3 : K (n + 3) = v := by rw [hK]; simp [putL]
  have k4 : K (n + 4) = lam x2 := by rw [hK]; simp [putL, h2, h1]
  have k5 : K (n + 5) = v := by rw [hK]; simp [putL]
  have ko : ∀ {x}, x < n → K x = lam x := fun {x} hx => by rw [hK, putL, if_neg (by omega), if_neg (by omega), if_neg (by omega), if_neg (by omega)]
  have f0 : f (mate d) = x1 := h1.symm
  have f1 : f (mate x1) = x2 := h2.symm
  have f2 : f (mate x2) = d := t2
  rw [← hF, ← hK]
  have split : ∀ {x}, x < n + 6 → x = n ∨ x = n + 1 ∨ x = n + 2 ∨ x = n + 3 ∨ x = n + 4 ∨ x = n + 5 ∨ (x = mate d) ∨ (x = mate x1) ∨ (x = mate x2) ∨ (x < n ∧ x ≠ mate d ∧ x ≠ mate x1 ∧ x ≠ mate x2) := fun {x} hx => by
    by_cases e0 : x = mate d
    · simp [e0]
    · by_cases e1 : x = mate x1
      · simp [e1]
      · by_cases e2 : x = mate x2
        · simp [e2]
        · simp only [e0, e1, e2, false_or, ne_eq, not_false_eq_true, and_true]
          omega
  have hpm : Pm (n + 6) F := by
    obtain ⟨bk, hbk⟩ := T.pm.exists_back
    refine Pm.of_left (fun y => if y = n then mate x2 else if y = n + 2 then mate d else if y = n + 4 then mate x1 else if y = d then n else if y = x1 then n + 2 else if y = x2 then n + 4
      else if y = n + 5 then n + 1 else if y = n + 1 then n + 3 else if y = n + 3 then n + 5 else bk y) ?_ ?_
    · intro x hx
      rcases split hx with rfl | rfl | rfl | rfl | rfl | rfl | rfl | rfl | rfl | ⟨e, e0, e1, e2⟩
      · rw [p0]; omega
      · rw [p1]; omega
      · rw [p2]; omega
      · rw [p3]; omega
      · rw [p4]; omega
      · rw [p5]; omega
      · rw [pm0]; omega
      · rw [pm1]; omega
      · rw [pm2]; omega
      · rw [po e e0 e1 e2]
        have := T.pm.lt x e
        omega
    · intro x hx
      rcases split hx with rfl | rfl | rfl | rfl | rfl | rfl | rfl | rfl | rfl | ⟨e, e0, e1, e2⟩
      · show (if F x = x then _ else _) = _
        rw [p0, if_neg (by omega), if_neg (by omega), if_neg (by omega), if_pos rfl]
      · show (if F (n + 1) = n then _ else _) = _
        rw [p1, if_neg (by omega), if_neg (by omega), if_neg (by omega), if_neg (by omega), if_neg (by omega), if_neg (by omega), if_pos rfl]
      · show (if F (n + 2) = n then _ else _) = _
        rw [p2, if_neg (by omega), if_neg (by omega), if_neg (by omega), if_neg (Ne.symm d01), if_pos rfl]
      · show (if F (n + 3) = n then _ else _) = _
        rw [p3, if_neg (by omega), if_neg (by omega), if_neg (by omega), if_neg (by omega), if_neg (by omega), if_neg (by omega), if_neg (by omega), if_pos rfl]
      · show (if F (n + 4) = n then _ else _) = _
        rw [p4, if_neg (by omega), if_neg (by omega), if_neg (by omega), if_neg (Ne.symm d02), if_neg (Ne.symm d12), if_pos rfl]
      · show (if F (n + 5) = n then _ else _) = _
        rw [p5, if_neg (by omega), if_neg (by omega), if_neg (by omega), if_neg (by omega), if_neg (by omega), if_neg (by omega), if_neg (by omega), if_neg (by omega), if_pos rfl]
      · show (if F (mate d) = n then _ else _) = _
        rw [pm0, if_neg (by omega), if_pos rfl]
      · show (if F (mate x1) = n then _ else _) = _
        rw [pm1, if_neg (by omega), if_neg (by omega), if_pos rfl]
      · show (if F (mate x2) = n then _ else _) = _
        rw [pm2, if_pos rfl]
      · show (if F x = n then _ else _) = _
        have := T.pm.lt x e
        rw [po e e0 e1 e2, if_neg (by omega), if_neg (by omega), if_neg (by omega), if_neg, if_neg, if_neg, if_neg (by omega), if_neg (by omega), if_neg (by omega), hbk x e]
        · exact fun h => e1 (T.pm.inj _ _ e m1 (h.trans f1.symm))
        · exact fun h => e0 (T.pm.inj _ _ e m0 (h.trans f0.symm))
        · exact fun h => e2 (T.pm.inj _ _ e m2 (h.trans f2.symm))
  have he6 : (n + 6) % 2 = 0 := by omega
  -- one step of old is one or two of new
  have hstep : ∀ z, z < n → Orb F z (f z) := fun z hz => by
    by_cases e0 : z = mate d
    · exact ⟨2, by rw [e0, it_succ, it_succ, pm0, p2, f0]; rfl⟩
    · by_cases e1 : z = mate x1
      · exact ⟨2, by rw [e1, it_succ, it_succ, pm1, p4, f1]; rfl⟩
      · by_cases e2 : z = mate x2
        · exact ⟨2, by rw [e2, it_succ, it_succ, pm2, p0, f2]; rfl⟩
        · exact ⟨1, by rw [it_succ, po hz e0 e1 e2]; rfl⟩
  have horb : ∀ z z', z < n → Orb f z z' → Orb F z z' := by
    rintro z z' hz ⟨k, rfl⟩
    induction k with
    | zero => exact Orb.refl _ _
    | succ k ih => rw [it_succ']; exact ih.trans (hstep _ (T.pm.it_lt k z hz))
  have hrep : ∀ x, x < n + 6 → K x = v ∧ (x = n + 1 ∨ x = n + 3 ∨ x = n + 5) ∨ ∃ z, z < n ∧ Orb F x z ∧ lam z = K x := fun x hx => by
    rcases Nat.lt_or_ge x n with e | e
    · exact .inr ⟨x, e, Orb.refl _ _, (ko e).symm⟩
    · have : x = n ∨ x = n + 1 ∨ x = n + 2 ∨ x = n + 3 ∨ x = n + 4 ∨ x = n + 5 := by omega
      rcases this with rfl | rfl | rfl | rfl | rfl | rfl
      · exact .inr ⟨d, hd, ⟨1, p0⟩, k0.symm⟩
      · exact .inl ⟨k1, by omega⟩
      · exact .inr ⟨x1, l1, ⟨1, p2⟩, k2.symm⟩
      · exact .inl ⟨k3, by omega⟩
      · exact .inr ⟨x2, l2, ⟨1, p4⟩, k4.symm⟩
      · exact .inl ⟨k5, by omega⟩
  have hnew : ∀ x, (x = n + 1 ∨ x = n + 3 ∨ x = n + 5) → Orb F (n + 1) x := by
    rintro x (rfl | rfl | rfl)
    · exact Orb.refl _ _
    · exact ⟨2, by rw [it_succ, it_succ, p1, p5]; rfl⟩
    · exact ⟨1, p1⟩
  have hklt : ∀ x, x < n + 6 → K x < v + 1 := fun x hx => by
    rcases hrep x hx with ⟨e, _⟩ | ⟨z, hz, _, e⟩
    · omega
    · have := T.lt z hz; omega
  refine ⟨hpm, by have := T.big; omega, by omega, hklt, ?_, ?_, ?_, ?_, ?_, ?_, ?_⟩
  · intro x hx
    rcases split hx with rfl | rfl | rfl | rfl | rfl | rfl | rfl | rfl | rfl | ⟨e, e0, e1, e2⟩
    · rw [p0, k0, ko hd]
    · rw [p1, k1, k5]
    · rw [p2, k2, ko l1]
    · rw [p3, k1, k3]
    · rw [p4, k4, ko l2]
    · rw [p5, k3, k5]
    · rw [pm0, k2, ko m0, a1]
    · rw [pm1, k4, ko m1, a2]
    · rw [pm2, k0, ko m2, a0]
    · rw [po e e0 e1 e2, ko e, ko (T.pm.lt x e), T.step x e]
  · intro c c' hc hc' e
    rcases hrep c hc with ⟨h3, h4⟩ | ⟨z, z1, z2, z3⟩ <;> rcases hrep c' hc' with ⟨h5, h6⟩ | ⟨y, y1, y2, y3⟩
    · exact (hpm.orb_symm (by omega) (hnew c h4)).trans (hnew c' h6)
    · have := T.lt y y1; omega
    · have := T.lt z z1; omega
    · exact z2.trans ((horb _ _ z1 (T.orb z y z1 y1 (by omega))).trans (hpm.orb_symm hc' y2))
  · intro u hu
    rcases Nat.lt_or_ge u v with e | e
    · obtain ⟨c, hc, e⟩ := T.all u e
      exact ⟨c, by omega, by rw [ko hc, e]⟩
    · exact ⟨n + 1, by omega, by rw [k1]; omega⟩
  · have hco : ∀ c, c < n → Conn F 0 c := by
      have key : ∀ c, Conn f 0 c → Conn F 0 c := by
        intro c h
        induction h with
        | refl => exact .refl _
        | sig b hb ih => exact ih.trans (Conn.of_orb (hstep b (hb.lt T.pm hev T.pos)))
        | mat b hb ih => exact ih.mat _ _
      exact fun c hc => key c (T.conn c hc)
    have hn : Conn F 0 n := by
      have := (hco (mate x2) m2).sig
      rw [pm2] at this
      exact this
    intro c hc
    rcases hrep c hc with ⟨_, e⟩ | ⟨z, z1, z2, _⟩
    · have h1 : Conn F 0 (n + 1) := by
        have := hn.mat
        rw [q0] at this
        exact this
      exact h1.trans (Conn.of_orb (hnew c e))
    · exact (hco z z1).trans (Conn.of_orb (hpm.orb_symm hc z2))
  · have r0 : ph F d = n + 2 := pm0
    have r1 : ph F x1 = n + 4 := pm1
    have r2 : ph F x2 = n := pm2
    have s0 : ph F n = n + 5 := by rw [ph, q0, p1]
    have s1 : ph F (n + 1) = d := by rw [ph, q1, p0]
    have s2 : ph F (n + 2) = n + 1 := by rw [ph, q2, p3]
    have s3 : ph F (n + 3) = x1 := by rw [ph, q3, p2]
    have s4 : ph F (n + 4) = n + 3 := by rw [ph, q4, p5]
    have s5 : ph F (n + 5) = x2 := by rw [ph, q5, p4]
    have so : ∀ x, x < n → x ≠ d → x ≠ x1 → x ≠ x2 → ph F x = ph f x ∧ ph f x < n ∧ ph f x ≠ d ∧ ph f x ≠ x1 ∧ ph f x ≠ x2 := fun x hx e0 e1 e2 => by
      have inj := (ph_pm T.pm hev).inj
      refine ⟨po (T.ml hx) (fun e => e0 (mi e)) (fun e => e1 (mi e)) (fun e => e2 (mi e)), T.pl hx, fun e => e2 ?_, fun e => e0 ?_, fun e => e1 ?_⟩
      · exact inj _ _ hx l2 (e.trans t2.symm)
      · exact inj _ _ hx hd (e.trans h1)
      · exact inj _ _ hx l1 (e.trans h2)
    intro x hx
    by_cases e0 : x = d
    · rw [e0, r0, s2, s1]
    · by_cases e1 : x = x1
      · rw [e1, r1, s4, s3]
      · by_cases e2 : x = x2
        · rw [e2, r2, s0, s5]
        · rcases Nat.lt_or_ge x n with e | e
          · obtain ⟨u1, u2, u3, u4, u5⟩ := so x e e0 e1 e2
            obtain ⟨w1, w2, w3, w4, w5⟩ := so _ u2 u3 u4 u5
            rw [u1, w1, (so _ w2 w3 w4 w5).1, T.tri x e]
          · have : x = n ∨ x = n + 1 ∨ x = n + 2 ∨ x = n + 3 ∨ x = n + 4 ∨ x = n + 5 := by omega
            rcases this with rfl | rfl | rfl | rfl | rfl | rfl
            · rw [s0, s5, r2]
            · rw [s1, r0, s2]
            · rw [s2, s1, r0]
            · rw [s3, r1, s4]
            · rw [s4, s3, r1]
            · rw [s5, r2, s0]
  · intro x hx
    rcases Nat.lt_or_ge x n with e | e
    · rw [ko e, ko (T.ml e)]; exact T.nl x e
    · have : x = n ∨ x = n + 1 ∨ x = n + 2 ∨ x = n + 3 ∨ x = n + 4 ∨ x = n + 5 := by omega
      rcases this with rfl | rfl | rfl | rfl | rfl | rfl
      · rw [q0, k0, k1]; omega
      · rw [q1, k0, k1]; omega
      · rw [q2, k2, k3]; omega
      · rw [q3, k2, k3]; omega
      · rw [q4, k4, k5]; omega
      · rw [q5, k4, k5]; omega
  · have hcl : ∀ c, c < n + 6 → (c < n ∧ K c < v ∧ K (mate c) < v) ∨ (c = n ∧ K c = lam d ∧ K (mate c) = v) ∨ (c = n + 2 ∧ K c = lam x1 ∧ K (mate c) = v) ∨ (c = n + 4 ∧ K c = lam x2 ∧ K (mate c) = v) ∨
        (c = n + 1 ∧ K c = v ∧ K (mate c) = lam d) ∨ (c = n + 3 ∧ K c = v ∧ K (mate c) = lam x1) ∨ (c = n + 5 ∧ K c = v ∧ K (mate c) = lam x2) := fun x hx => by
      rcases Nat.lt_or_ge x n with e | e
      · refine .inl ⟨e, ?_, ?_⟩
        · rw [ko e]; exact T.lt x e
        · rw [ko (T.ml e)]; exact T.lt _ (T.ml e)
      · have : x = n ∨ x = n + 1 ∨ x = n + 2 ∨ x = n + 3 ∨ x = n + 4 ∨ x = n + 5 := by omega
        rcases this with rfl | rfl | rfl | rfl | rfl | rfl
        · rw [q0, k0, k1]; omega
        · rw [q1, k0, k1]; omega
        · rw [q2, k2, k3]; omega
        · rw [q3, k2, k3]; omega
        · rw [q4, k4, k5]; omega
        · rw [q5, k4, k5]; omega
    intro c c' hc hc' e1 e2
    have hh : c < n ∧ c' < n ∨ c = c' := by
      have u := hcl c hc
      have w := hcl c' hc'
      have n0' : lam x1 ≠ lam d := by omega
      have n1' : lam x2 ≠ lam x1 := by omega
      have n2' : lam x2 ≠ lam d := by omega
      clear hcl p0 p1 p2 p3 p4 p5 k0 k1 k2 k3 k4 k5 q0 q1 q2 q3 q4 q5 pm0 pm1 pm2 f0 f1 f2 t2 h1 h2 a0 a1 a2 d01 d12 d02 n0 n1 n2
      generalize K c = kc at *
      generalize K c' = kc' at *
      generalize K (mate c) = km at *
      generalize K (mate c') = km' at *
      generalize lam d = la at *
      generalize lam x1 = lb at *
      generalize lam x2 = lc at *
      subst e1 e2
      rcases u with u | u | u | u | u | u | u <;> rcases w with w | w | w | w | w | w | w <;> omega
    rcases hh with ⟨u, w⟩ | h
    · rw [ko u, ko w] at e1
      rw [ko (T.ml u), ko (T.ml w)] at e2
      exact T.nd c c' u w e1 e2
    · exact h
end
end Go.Proofs.Ythakkchmegnlhaa.Pq
