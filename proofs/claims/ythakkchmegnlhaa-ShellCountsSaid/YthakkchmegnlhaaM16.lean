/- Plain mathematics: in an order, how many edges each vertex brings. -/
import Derived.Test.YthakkchmegnlhaaM15
namespace Go.Proofs.Ythakkchmegnlhaa.Pq

/-- How many of the first m edges have the place i as their higher one. -/
def edC (p : Nat → Nat) (m i : Nat) : Nat := (List.range m).countP fun e => max (p (2 * e)) (p (2 * e + 1)) == i
theorem edC_succ (p : Nat → Nat) (m i : Nat) : edC p (m + 1) i = edC p m i + if max (p (2 * m)) (p (2 * m + 1)) = i then 1 else 0 := by
  unfold edC
  rw [List.range_succ, List.countP_append, List.countP_cons, List.countP_nil, Nat.zero_add]
  simp only [beq_iff_eq]
theorem edC_le (p : Nat → Nat) (m i : Nat) : edC p m i ≤ m := by
  unfold edC
  exact Nat.le_trans List.countP_le_length (by simp)
/-- How many darts lead from the place i to a lower one. -/
def drC (p : Nat → Nat) (n i : Nat) : Nat := (List.range n).countP fun z => decide (p z = i) && decide (p (mate z) < i)
theorem edC_drC {p : Nat → Nat} (i : Nat) (m : Nat) (h : ∀ e, e < m → p (2 * e) ≠ p (2 * e + 1)) : edC p m i = drC p (2 * m) i := by
  induction m with
  | zero => rfl
  | succ m ih =>
    have m1 : mate (2 * m) = 2 * m + 1 := by unfold mate; rw [if_pos (by omega)]
    have m2 : mate (2 * m + 1) = 2 * m := by unfold mate; rw [if_neg (by omega)]; rfl
    have h0 := h m (by omega)
    rw [edC_succ, ih (fun e he => h e (by omega)), drC, drC, show 2 * (m + 1) = 2 * m + 1 + 1 by omega, List.range_succ, List.range_succ, List.countP_append, List.countP_append]
    simp only [List.countP_cons, List.countP_nil, m1, m2, Nat.zero_add]
    by_cases c1 : p (2 * m) = i <;> by_cases c2 : p (2 * m + 1) = i <;> by_cases c3 : p (2 * m) < i <;> by_cases c4 : p (2 * m + 1) < i <;> simp [c1, c2, c3, c4] <;> omega
theorem edC_sum (p : Nat → Nat) (V m : Nat) (h : ∀ e, e < m → max (p (2 * e)) (p (2 * e + 1)) < V) : ((List.range V).map (edC p m)).sum = m := by
  induction m with
  | zero =>
    have : (List.range V).map (edC p 0) = List.replicate V 0 := by
      rw [List.eq_replicate_iff]
      exact ⟨by simp, fun b hb => by rw [List.mem_map] at hb; obtain ⟨a, _, rfl⟩ := hb; rfl⟩
    rw [this]
    simp
  | succ m ih =>
    have ih := ih (fun e he => h e (by omega))
    have key : ∀ k, k ≤ V → ((List.range k).map (edC p (m + 1))).sum = ((List.range k).map (edC p m)).sum + if max (p (2 * m)) (p (2 * m + 1)) < k then 1 else 0 := by
      intro k hk
      induction k with
      | zero => simp
      | succ k ihk =>
        have ihk := ihk (by omega)
        rw [List.range_succ, List.map_append, List.sum_append, List.map_append, List.sum_append, ihk, List.map_cons, List.map_nil, List.map_cons, List.map_nil, List.sum_cons, List.sum_nil, List.sum_cons, List.sum_nil, edC_succ]
        by_cases c1 : max (p (2 * m)) (p (2 * m + 1)) < k
        · rw [if_pos c1, if_neg (by omega), if_pos (by omega)]; omega
        · rw [if_neg c1]
          by_cases c2 : max (p (2 * m)) (p (2 * m + 1)) = k
          · rw [if_pos c2, if_pos (by omega)]; omega
          · rw [if_neg c2, if_neg (by omega)]; omega
    rw [key V (Nat.le_refl _), ih, if_pos (h m (by omega))]

/-- Darts of one vertex are counted around it. -/
theorem Pm.count_orb {n : Nat} {f : Nat → Nat} (h : Pm n f) {q : Nat} (hq : q < n) (Q : Nat → Bool) :
    (List.range n).countP (fun z => decide (nm f n z = nm f n q) && Q z) = (List.range (per f q)).countP fun j => Q (it f j q) := by
  rw [orb_countP, show (fun z => decide (nm f n z = nm f n q) && Q z) = fun z => Q z && decide (nm f n z = nm f n q) from by funext z; exact Bool.and_comm _ _, ← List.countP_filter]
  refine List.Perm.countP_eq _ ?_
  rw [List.perm_ext_iff_of_nodup (List.nodup_range.filter _) (h.orb_nodup hq)]
  intro a
  rw [List.mem_filter, List.mem_range, decide_eq_true_eq, h.mem_orb hq]
  constructor
  · rintro ⟨ha, e⟩
    exact (h.nm_eq hq ha).1 e.symm
  · intro o
    have ha := h.orb_lt hq o
    exact ⟨ha, ((h.nm_eq hq ha).2 o).symm⟩
theorem countP_le_prefix {n a : Nat} (ha : a < n) (Q : Nat → Bool) (h1 : ∀ j, j ≤ a → Q j = true) (h2 : ∀ j, a < j → j < n → Q j = false) : (List.range n).countP Q = a + 1 := by
  have e1 : ∀ k, k ≤ a + 1 → (List.range k).countP Q = k := by
    intro k
    induction k with
    | zero => intro _; rfl
    | succ k ih => intro hk; rw [List.range_succ, List.countP_append, ih (by omega), List.countP_cons, List.countP_nil, h1 k (by omega)]; simp
  have e2 : ∀ k, a + 1 + k ≤ n → (List.range (a + 1 + k)).countP Q = a + 1 := by
    intro k
    induction k with
    | zero => intro _; exact e1 _ (Nat.le_refl _)
    | succ k ih => intro hk; rw [show a + 1 + (k + 1) = (a + 1 + k) + 1 by omega, List.range_succ, List.countP_append, ih (by omega), List.countP_cons, List.countP_nil, h2 _ (by omega) (by omega)]; simp
  have := e2 (n - (a + 1)) (by omega)
  rw [show a + 1 + (n - (a + 1)) = n by omega] at this
  exact this

section
variable {n : Nat} {f : Nat → Nat} {r : Nat} {G L : List Nat}
/-- The order. -/
noncomputable def ordL (n : Nat) (f : Nat → Nat) (r : Nat) (G : List Nat) : List Nat := nm f n r :: nm f n (ph f r) :: G.reverse
theorem ordL_nodup (T : Trg n f) (H : Shl n f r G L) (hr : r < n) : (ordL n f r G).Nodup := by
  have S := H.shd T hr
  have E := S.ends T hr
  have hne : nm f n r ≠ nm f n (ph f r) := fun e => by rw [T.nm_ph hr] at e; exact T.nl r hr e.symm
  rw [ordL, List.nodup_cons, List.nodup_cons]
  refine ⟨fun h => ?_, fun h => E.2 (List.mem_reverse.1 h), (List.Perm.nodup_iff (List.reverse_perm G)).2 S.nodup⟩
  rcases List.mem_cons.1 h with h | h
  · exact hne h
  · exact E.1 (List.mem_reverse.1 h)
theorem ordL_mem (T : Trg n f) (H : Shl n f r G L) (hr : r < n) (h2 : L.length = 2) (u : Nat) : u ∈ ordL n f r G ↔ u < cnt f n := by
  have S := H.shd T hr
  rw [ordL, List.mem_cons, List.mem_cons, List.mem_reverse]
  constructor
  · rintro (rfl | rfl | h)
    · exact T.pm.nm_lt hr
    · exact T.pm.nm_lt (T.pl hr)
    · exact S.names u h
  · intro hu
    obtain ⟨d, hd, rfl⟩ := T.pm.exists_nm hu
    rcases S.all T h2 hd.1 with h | h | h
    · exact .inr (.inr h)
    · exact .inl h
    · exact .inr (.inl h)
theorem ordL_length (T : Trg n f) (H : Shl n f r G L) (hr : r < n) (h2 : L.length = 2) : (ordL n f r G).length = cnt f n := by
  have h1 := (ordL_nodup T H hr).length_le_of_subset (l₂ := List.range (cnt f n)) (fun u hu => by rw [List.mem_range]; exact (ordL_mem T H hr h2 u).1 hu)
  have h3 := (List.nodup_range (n := cnt f n)).length_le_of_subset (l₂ := ordL n f r G) (fun u hu => by rw [List.mem_range] at hu; exact (ordL_mem T H hr h2 u).2 hu)
  rw [List.length_range] at h1 h3
  omega

/-- The places: of each name where it stands in the order. -/
def Plc (n : Nat) (f : Nat → Nat) (r : Nat) (G t : List Nat) : Prop := ∀ j, j < (ordL n f r G).length → sg t (sg (ordL n f r G) j) = j
theorem ordL_at (T : Trg n f) (H : Shl n f r G L) (hr : r < n) (h2 : L.length = 2) {u : Nat} (hu : u < cnt f n) : ∃ j, j < (ordL n f r G).length ∧ sg (ordL n f r G) j = u := by
  obtain ⟨j, hj, e⟩ := List.mem_iff_getElem.1 ((ordL_mem T H hr h2 u).2 hu)
  exact ⟨j, hj, by rw [sg, List.getD_eq_getElem?_getD, List.getElem?_eq_getElem hj]; exact e⟩
theorem Plc.lt {t : List Nat} (P : Plc n f r G t) (T : Trg n f) (H : Shl n f r G L) (hr : r < n) (h2 : L.length = 2) {u : Nat} (hu : u < cnt f n) : sg t u < cnt f n := by
  obtain ⟨j, hj, rfl⟩ := ordL_at T H hr h2 hu
  rw [P j hj]
  rw [ordL_length T H hr h2] at hj
  exact hj
theorem Plc.inj {t : List Nat} (P : Plc n f r G t) (T : Trg n f) (H : Shl n f r G L) (hr : r < n) (h2 : L.length = 2) {u v : Nat} (hu : u < cnt f n) (hv : v < cnt f n) (e : sg t u = sg t v) : u = v := by
  obtain ⟨j, hj, rfl⟩ := ordL_at T H hr h2 hu
  obtain ⟨k, hk, rfl⟩ := ordL_at T H hr h2 hv
  rw [P j hj, P k hk] at e
  rw [e]

/-- The place of a dart's vertex. -/
noncomputable def plD (n : Nat) (f : Nat → Nat) (t : List Nat) (z : Nat) : Nat := sg t (nm f n z)

theorem sg_app_right (A B : List Nat) (j : Nat) : sg (A ++ B) (A.length + j) = sg B j := by
  rw [sg, sg, List.getD_eq_getElem?_getD, List.getD_eq_getElem?_getD, List.getElem?_append_right (by omega)]
  congr 2
  omega
/-- Who came before a vertex that is gone, and who behind. -/
theorem Plc.side {t : List Nat} (P : Plc n f r G t) (T : Trg n f) (H : Shl n f r G L) (hr : r < n) (h2 : L.length = 2) {A C : List Nat} {u : Nat} (hG : G = A ++ u :: C) :
    sg t u = 2 + C.length ∧ ∀ v, v < cnt f n → v ≠ u → (sg t v < 2 + C.length ↔ v ∉ A) := by
  have hl : ordL n f r G = (nm f n r :: nm f n (ph f r) :: C.reverse) ++ (u :: A.reverse) := by rw [ordL, hG]; simp
  have hlen : (nm f n r :: nm f n (ph f r) :: C.reverse).length = 2 + C.length := by simp; omega
  have hll : (ordL n f r G).length = 2 + C.length + (1 + A.length) := by rw [hl, List.length_append, hlen]; simp; omega
  have hu : sg t u = 2 + C.length := by
    have := P (2 + C.length) (by omega)
    rw [hl, ← hlen, show (nm f n r :: nm f n (ph f r) :: C.reverse).length = (nm f n r :: nm f n (ph f r) :: C.reverse).length + 0 from rfl, sg_app_right] at this
    rw [← hlen]
    exact this
  refine ⟨hu, fun v hv hvu => ?_⟩
  obtain ⟨j, hj, e⟩ := ordL_at T H hr h2 hv
  have hpj := P j hj
  rw [e] at hpj
  have hnd := ordL_nodup T H hr
  constructor
  · intro hlt hvA
    -- v stands behind u as well
    obtain ⟨k, hk, e2⟩ := List.mem_iff_getElem.1 (List.mem_reverse.2 hvA)
    have h3 := P (2 + C.length + (1 + k)) (by rw [List.length_reverse] at hk; omega)
    rw [hl, ← hlen, sg_app_right] at h3
    have h4 : sg (u :: A.reverse) (1 + k) = v := by
      rw [sg, List.getD_eq_getElem?_getD, show 1 + k = k + 1 by omega, List.getElem?_cons_succ, List.getElem?_eq_getElem hk]
      exact e2
    rw [h4] at h3
    rw [hlen] at h3
    omega
  · intro hvA
    rcases Nat.lt_or_ge (sg t v) (2 + C.length) with h | h
    · exact h
    · exfalso
      rw [hpj] at h
      obtain ⟨k, rfl⟩ : ∃ k, j = 2 + C.length + k := ⟨j - (2 + C.length), by omega⟩
      rw [hl, ← hlen, sg_app_right] at e
      rcases k with _ | k
      · exact hvu e.symm
      · apply hvA
        have hk : k < A.reverse.length := by rw [List.length_reverse]; omega
        have : sg (u :: A.reverse) (k + 1) = A.reverse[k] := by rw [sg, List.getD_eq_getElem?_getD, List.getElem?_cons_succ, List.getElem?_eq_getElem hk]; rfl
        rw [this] at e
        exact List.mem_reverse.1 (e ▸ List.getElem_mem hk)

/-- How one that went brings its edges. -/
theorem Plc.went {t : List Nat} (P : Plc n f r G t) (T : Trg n f) (H : Shl n f r G L) (hr : r < n) (h2 : L.length = 2) {A C : List Nat} {u q a : Nat} (hG : G = A ++ u :: C) (W : Went n f r A u q a) :
    drC (plD n f t) n (2 + C.length) = a + 1 := by
  obtain ⟨hu, hs⟩ := P.side T H hr h2 hG
  obtain ⟨hq, hqu, ha0, ha, hin, hout, _⟩ := W
  have hpm := T.pm
  have hun : u < cnt f n := hqu ▸ hpm.nm_lt hq
  have e1 : drC (plD n f t) n (2 + C.length) = (List.range n).countP (fun z => decide (nm f n z = nm f n q) && decide (plD n f t (mate z) < 2 + C.length)) := by
    unfold drC
    refine List.countP_congr fun z hz => ?_
    rw [List.mem_range] at hz
    have : (plD n f t z = 2 + C.length) ↔ nm f n z = nm f n q := by
      rw [plD, ← hu, hqu]
      exact ⟨fun e => P.inj T H hr h2 (hpm.nm_lt hz) hun e, fun e => by rw [e]⟩
    simp only [this]
  rw [e1, hpm.count_orb hq]
  have hne : ∀ j, nm f n (mate (it f j q)) ≠ u := fun j e => by
    have hd := hpm.it_lt j q hq
    refine T.nl _ hd ?_
    rw [e, hpm.nm_it hq, hqu]
  refine countP_le_prefix ha _ (fun j hj => ?_) (fun j j1 j2 => ?_)
  · rw [decide_eq_true_eq, plD]
    exact (hs _ (hpm.nm_lt (T.ml (hpm.it_lt j q hq))) (hne j)).2 (hin j hj)
  · rw [decide_eq_false_iff_not, plD]
    exact fun h => (hs _ (hpm.nm_lt (T.ml (hpm.it_lt j q hq))) (hne j)).1 h (hout j j1 j2)

theorem drC_zero (p : Nat → Nat) (n : Nat) : drC p n 0 = 0 := by
  unfold drC
  rw [List.countP_eq_zero]
  intro z _
  simp
/-- The counts that the law asks for. -/
theorem Plc.counts {t : List Nat} (P : Plc n f r G t) (T : Trg n f) (H : Shl n f r G L) (hr : r < n) (h2 : L.length = 2) :
    edC (plD n f t) (n / 2) 0 = 0 ∧ edC (plD n f t) (n / 2) 1 = 1 ∧ edC (plD n f t) (n / 2) 2 = 2 ∧ (∀ i, 1 < i → i < cnt f n → 2 ≤ edC (plD n f t) (n / 2) i) ∧ ((List.range (cnt f n)).map (edC (plD n f t) (n / 2))).sum = n / 2 := by
  have hpm := T.pm
  have S := H.shd T hr
  have hev := T.ev
  have hml : ∀ e, mate (2 * e) = 2 * e + 1 := fun e => by unfold mate; rw [if_pos (by omega)]
  have hne : ∀ e, e < n / 2 → plD n f t (2 * e) ≠ plD n f t (2 * e + 1) := fun e he h => by
    have hd : 2 * e < n := by omega
    have hd1 : 2 * e + 1 < n := by omega
    have := P.inj T H hr h2 (hpm.nm_lt hd) (hpm.nm_lt hd1) h
    rw [← hml] at this
    exact T.nl _ hd this.symm
  have hE : ∀ i, edC (plD n f t) (n / 2) i = drC (plD n f t) n i := fun i => by
    rw [edC_drC i (n / 2) hne, show 2 * (n / 2) = n by omega]
  have hgone : ∀ i, 1 < i → i < cnt f n → ∃ A u C, G = A ++ u :: C ∧ i = 2 + C.length := fun i i1 i2 => by
    have hl := ordL_length T H hr h2
    have hgl : G.length + 2 = cnt f n := by rw [← hl, ordL]; simp
    obtain ⟨k, rfl⟩ : ∃ k, i = 2 + k := ⟨i - 2, by omega⟩
    have hk : G.length - 1 - k < G.length := by omega
    refine ⟨G.take (G.length - 1 - k), G[G.length - 1 - k], G.drop (G.length - 1 - k + 1), ?_, ?_⟩
    · rw [← List.drop_eq_getElem_cons hk, List.take_append_drop]
    · rw [List.length_drop]; omega
  have hGne : G ≠ [] := fun e => by
    have := S.three e
    rw [this] at h2
    simp at h2
  refine ⟨by rw [hE, drC_zero], ?_, ?_, ?_, edC_sum _ _ _ (fun e he => ?_)⟩
  · rw [hE]
    have p0 : sg t (nm f n r) = 0 := P 0 (by simp [ordL])
    have p1 : sg t (nm f n (ph f r)) = 1 := P 1 (by simp [ordL])
    have hm := T.ml hr
    have e1 : drC (plD n f t) n 1 = (List.range n).countP (fun z => z == mate r) := by
      unfold drC
      refine List.countP_congr fun z hz => ?_
      rw [List.mem_range] at hz
      rw [Bool.and_eq_true, decide_eq_true_eq, decide_eq_true_eq, beq_iff_eq]
      constructor
      · rintro ⟨k1, k2⟩
        have k3 : sg t (nm f n (mate z)) = 0 := by have : sg t (nm f n (mate z)) < 1 := k2; omega
        have k4 := P.inj T H hr h2 (hpm.nm_lt hz) (hpm.nm_lt (T.pl hr)) (k1.trans p1.symm)
        have k5 := P.inj T H hr h2 (hpm.nm_lt (T.ml hz)) (hpm.nm_lt hr) (k3.trans p0.symm)
        exact T.nd z (mate r) hz hm (by rw [k4, T.nm_ph hr]) (by rw [k5, mate_mate])
      · rintro rfl
        refine ⟨?_, ?_⟩
        · rw [plD, ← T.nm_ph hr, p1]
        · rw [plD, mate_mate, p0]; omega
    rw [e1]
    have : (List.range n).countP (fun z => z == mate r) = (List.range n).count (mate r) := rfl
    rw [this, List.nodup_range.count, if_pos (List.mem_range.2 hm)]
  · obtain ⟨A, u, hG⟩ : ∃ A u, G = A ++ [u] := by
      rcases List.eq_nil_or_concat G with h | ⟨A, u, h⟩
      · exact absurd h hGne
      · exact ⟨A, u, by rw [h, List.concat_eq_append]⟩
    obtain ⟨q, W⟩ := S.least h2 A u hG
    have := P.went T H hr h2 (C := []) hG W
    rw [hE]
    exact this
  · intro i i1 i2
    obtain ⟨A, u, C, hG, rfl⟩ := hgone i i1 i2
    obtain ⟨q, a, W⟩ := S.went A u C hG
    rw [hE, P.went T H hr h2 hG W]
    have := W.2.2.1
    omega
  · have a1 := P.lt T H hr h2 (hpm.nm_lt (show 2 * e < n by omega))
    have a2 := P.lt T H hr h2 (hpm.nm_lt (show 2 * e + 1 < n by omega))
    exact Nat.max_lt.2 ⟨a1, a2⟩
end
end Go.Proofs.Ythakkchmegnlhaa.Pq
