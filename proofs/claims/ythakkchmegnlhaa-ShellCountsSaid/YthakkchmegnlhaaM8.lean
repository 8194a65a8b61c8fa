/- Plain mathematics: triangulations; the border of what is left; a vertex is taken away. -/
import Derived.Test.YthakkchmegnlhaaM7
namespace Go.Proofs.Ythakkchmegnlhaa.Pq

theorem Pm.per_step {n : Nat} {f : Nat → Nat} (h : Pm n f) {x : Nat} (hx : x < n) : per f (f x) = per f x := by
  have s := h.per_spec hx
  refine h.per_eq (h.lt x hx) s.1 ?_ (fun k h1 h2 e => s.2.2 k h1 h2 ?_)
  · rw [← it_succ, it_succ', s.2.1]
  · rw [← it_succ, it_succ'] at e
    exact h.inj _ _ (h.it_lt k x hx) hx e
theorem Pm.nm_it {n : Nat} {f : Nat → Nat} (h : Pm n f) {x : Nat} (hx : x < n) (k : Nat) : nm f n (it f k x) = nm f n x :=
  ((h.nm_eq hx (h.it_lt k x hx)).2 ⟨k, rfl⟩).symm
/-- Who has the same name is met within the period. -/
theorem Pm.exists_it {n : Nat} {f : Nat → Nat} (h : Pm n f) {x y : Nat} (hx : x < n) (hy : y < n) (e : nm f n y = nm f n x) : ∃ k, k < per f x ∧ it f k x = y := by
  obtain ⟨k, rfl⟩ := (h.nm_eq hx hy).1 e.symm
  have s := h.per_spec hx
  exact ⟨k % per f x, Nat.mod_lt _ s.1, (it_mod s.2.1 k).symm⟩

/-- Triangulations: plane, in one part, triangles, no loops, no two edges with the same ends. -/
structure Trg (n : Nat) (f : Nat → Nat) : Prop where
  pm : Pm n f
  ev : n % 2 = 0
  pos : 0 < n
  conn : ∀ a b, a < n → b < n → Conn f a b
  eul : n / 2 + 2 = cnt f n + cnt (ph f) n
  tri : ∀ d, d < n → ph f (ph f (ph f d)) = d
  nl : ∀ d, d < n → nm f n (mate d) ≠ nm f n d
  nd : ∀ d d', d < n → d' < n → nm f n d = nm f n d' → nm f n (mate d) = nm f n (mate d') → d = d'

theorem mate_eq {a b : Nat} (h : mate a = b) : a = mate b := by rw [← h, mate_mate]

section
variable {n : Nat} {f : Nat → Nat}
theorem Trg.ml (T : Trg n f) {d : Nat} (hd : d < n) : mate d < n := mate_lt T.ev hd
theorem Trg.pl (T : Trg n f) {d : Nat} (hd : d < n) : ph f d < n := T.pm.lt _ (T.ml hd)
theorem Trg.nm_ph (T : Trg n f) {d : Nat} (hd : d < n) : nm f n (ph f d) = nm f n (mate d) := T.pm.nm_step (T.ml hd)
/-- The third side. -/
theorem Trg.third (T : Trg n f) {d : Nat} (hd : d < n) : f (mate (ph f (f d))) = mate d := by
  have := T.tri (mate d) (T.ml hd)
  rw [ph, ph, ph, mate_mate] at this
  exact this

/-- From x to y: x is the border's dart to the one ahead, y's mate the one to the next; those between lead to who is left, those behind to who is gone. -/
def Nx (n : Nat) (f : Nat → Nat) (g : Nat → Prop) (x y : Nat) : Prop :=
  ∃ a, a < per f x ∧ it f a x = mate y ∧ (∀ j, 0 < j → j < a → ¬ g (nm f n (mate (it f j x)))) ∧ ∀ j, a < j → j < per f x → g (nm f n (mate (it f j x)))

/-- Each one and the next; behind the last comes e. -/
def Chn (R : Nat → Nat → Prop) : List Nat → Nat → Prop
  | [], _ => True
  | x :: T, e => R x (T.headD e) ∧ Chn R T e
theorem headD_append (A B : List Nat) (e : Nat) : (A ++ B).headD e = A.headD (B.headD e) := by
  cases A <;> rfl
theorem chn_append {R : Nat → Nat → Prop} {A B : List Nat} {e : Nat} : Chn R (A ++ B) e ↔ Chn R A (B.headD e) ∧ Chn R B e := by
  induction A with
  | nil => simp [Chn]
  | cons x A ih =>
    simp only [List.cons_append, Chn, headD_append, ih, and_assoc]
theorem chn_imp {R S : Nat → Nat → Prop} {A : List Nat} {e : Nat} (h : Chn R A e) (k : ∀ x ∈ A, ∀ y, R x y → S x y) : Chn S A e := by
  induction A with
  | nil => trivial
  | cons x A ih => exact ⟨k x (by simp) _ h.1, ih h.2 (fun y hy => k y (by simp [hy]))⟩

/-- The border of what is left: of each vertex the dart to the one ahead. -/
structure Bd (n : Nat) (f : Nat → Nat) (r : Nat) (g : Nat → Prop) (L : List Nat) : Prop where
  lt : ∀ d ∈ L, d < n
  head : L.headD (n + 1) = r
  nodup : (L.map (nm f n)).Nodup
  alive : ∀ d ∈ L, ¬ g (nm f n d)
  chain : Chn (Nx n f g) L r
  cl : ∀ d, d < n → g (nm f n d) → g (nm f n (mate d)) ∨ nm f n (mate d) ∈ L.map (nm f n)

variable {r : Nat} {g : Nat → Prop} {L : List Nat}
theorem Bd.inj (B : Bd n f r g L) {x y : Nat} (hx : x ∈ L) (hy : y ∈ L) (e : nm f n x = nm f n y) : x = y := by
  have := B.nodup
  clear B
  induction L with
  | nil => simp at hx
  | cons a L ih =>
    rw [List.map_cons, List.nodup_cons] at this
    rw [List.mem_cons] at hx hy
    rcases hx with rfl | hx <;> rcases hy with rfl | hy
    · rfl
    · exact absurd (List.mem_map.2 ⟨y, hy, e.symm⟩) this.1
    · exact absurd (List.mem_map.2 ⟨x, hx, e⟩) this.1
    · exact ih hx hy this.2
theorem Bd.nodupL (B : Bd n f r g L) : L.Nodup := by
  have := B.nodup
  clear B
  induction L with
  | nil => simp
  | cons a L ih =>
    rw [List.map_cons, List.nodup_cons] at this
    rw [List.nodup_cons]
    exact ⟨fun h => this.1 (List.mem_map.2 ⟨a, h, rfl⟩), ih this.2⟩
theorem Nx.name (T : Trg n f) {x y : Nat} (hx : x < n) (h : Nx n f g x y) : nm f n (mate y) = nm f n x := by
  obtain ⟨a, _, e, _⟩ := h
  rw [← e, T.pm.nm_it hx]

/-- A vertex of the border is taken away: its triangles' third sides come in its place. -/
theorem Bd.take (T : Trg n f) (B : Bd n f r g L) {X Y : List Nat} {p q t a : Nat} (hL : L = X ++ p :: q :: t :: Y) (ha : a < per f q) (hr : it f a q = mate t)
    (hin : ∀ j, 0 < j → j < a → ¬ g (nm f n (mate (it f j q)))) (hout : ∀ j, a < j → j < per f q → g (nm f n (mate (it f j q))))
    (hfree : ∀ j, 0 < j → j < a → nm f n (mate (it f j q)) ∉ L.map (nm f n)) :
    Bd n f r (fun u => g u ∨ u = nm f n q) (X ++ p :: ((List.range a).map (fun j => ph f (it f (j + 1) q)) ++ Y)) := by
  have hpm := T.pm
  have hpL : p ∈ L := by rw [hL]; simp
  have hqL : q ∈ L := by rw [hL]; simp
  have htL : t ∈ L := by rw [hL]; simp
  have hXL : ∀ x, x ∈ X → x ∈ L := fun x hx => by rw [hL]; simp [hx]
  have hYL : ∀ x, x ∈ Y → x ∈ L := fun x hx => by rw [hL]; simp [hx]
  have hp := B.lt p hpL
  have hq := B.lt q hqL
  have ht := B.lt t htL
  have hnd := B.nodupL
  rw [hL, List.nodup_append] at hnd
  simp only [List.nodup_cons, List.mem_cons, not_or] at hnd
  obtain ⟨hndX, ⟨⟨hpq, hpt, hpY⟩, ⟨hqt, hqY⟩, htY, hndY⟩, hXd⟩ := hnd
  have hXp : ∀ x, x ∈ X → x ≠ p := fun x hx => hXd x hx p (.inl rfl)
  have hXq : ∀ x, x ∈ X → x ≠ q := fun x hx => hXd x hx q (.inr (.inl rfl))
  have hXt : ∀ x, x ∈ X → x ≠ t := fun x hx => hXd x hx t (.inr (.inr (.inl rfl)))
  have hXY : ∀ x, x ∈ X → ∀ y, y ∈ Y → x ≠ y := fun x hx y hy => hXd x hx y (.inr (.inr (.inr hy)))
  have hch := B.chain
  rw [hL, chn_append] at hch
  obtain ⟨chX, chp, chq, cht, chY⟩ := hch
  have chp : Nx n f g p q := chp
  have chq : Nx n f g q t := chq
  have cht : Nx n f g t (Y.headD r) := cht
  have npq : nm f n (mate q) = nm f n p := chp.name T hp
  have nqt : nm f n (mate t) = nm f n q := chq.name T hq
  -- the one ahead of p, and the one behind t
  have hprev : ∃ x, x ∈ L ∧ x ≠ q ∧ nm f n (mate p) = nm f n x := by
    rcases List.eq_nil_or_concat X with e | ⟨X0, x, e⟩
    · rcases List.eq_nil_or_concat (t :: Y) with e2 | ⟨Y0, y, e2⟩
      · cases e2
      · have hc := B.chain
        have hh := B.head
        rw [hL, e] at hh
        have hh : p = r := hh
        rw [hL, e, List.nil_append, e2, show p :: q :: (Y0.concat y) = (p :: q :: Y0) ++ [y] by simp, chn_append] at hc
        have hyL : y ∈ t :: Y := by rw [e2]; simp
        have hyl : y ∈ L := by rw [hL]; simp only [List.mem_append, List.mem_cons] at hyL ⊢; exact .inr (.inr (.inr hyL))
        refine ⟨y, hyl, ?_, ?_⟩
        · rintro rfl
          rw [List.mem_cons] at hyL
          rcases hyL with e | e
          · exact hqt e
          · exact hqY e
        · have := Nx.name T (B.lt y hyl) hc.2.1
          rw [hh]
          exact this
    · subst e
      rw [List.concat_eq_append, chn_append] at chX
      have hx : x ∈ X0.concat x := by simp
      have := chX.2.1
      have := Nx.name T (B.lt x (hXL x hx)) this
      exact ⟨x, hXL x hx, hXq x hx, this⟩
  have hnext : Y.headD r ∈ L ∧ Y.headD r ≠ q := by
    cases Y with
    | cons y Y =>
      refine ⟨hYL y (by simp), fun e => hqY ?_⟩
      rw [List.mem_cons]
      exact .inl e.symm
    | nil =>
      have hh := B.head
      rw [hL] at hh
      cases X with
      | nil => have hh : p = r := hh
               show r ∈ L ∧ r ≠ q
               rw [← hh]
               exact ⟨hpL, hpq⟩
      | cons x X => have hh : x = r := hh
                    show r ∈ L ∧ r ≠ q
                    rw [← hh]
                    exact ⟨hXL x (by simp), hXq x (by simp)⟩
  obtain ⟨ap, hap, erp, inp, outp⟩ := chp
  obtain ⟨at', hat, ert, int, outt⟩ := cht
  have hap0 : 0 < ap := by
    rcases Nat.eq_zero_or_pos ap with e | e
    · exfalso
      subst e
      obtain ⟨x, hx, hxq, e⟩ := hprev
      have erp : p = mate q := erp
      rw [erp, mate_mate] at e
      exact hxq (B.inj hqL hx e).symm
    · exact e
  have hat0 : 0 < at' := by
    rcases Nat.eq_zero_or_pos at' with e | e
    · exfalso
      subst e
      have ert : t = mate (Y.headD r) := ert
      rw [ert, mate_mate] at nqt
      exact hnext.2 (B.inj hnext.1 hqL nqt)
    · exact e
  have ha0 : 0 < a := by
    rcases Nat.eq_zero_or_pos a with e | e
    · exfalso
      subst e
      have hr : q = mate t := hr
      rw [hr, mate_mate] at npq
      exact hpt (B.inj htL hpL npq).symm
    · exact e
  -- the names of those that come in
  have hdl : ∀ j, it f j q < n := fun j => hpm.it_lt j q hq
  have hnu : ∀ j, nm f n (ph f (it f (j + 1) q)) = nm f n (mate (it f (j + 1) q)) := fun j => T.nm_ph (hdl _)
  have hnl : nm f n (ph f (it f a q)) = nm f n t := by rw [T.nm_ph (hdl a), hr, mate_mate]
  have hal : ∀ j, 0 < j → j ≤ a → ¬ g (nm f n (mate (it f j q))) := fun j h1 h2 => by
    rcases Nat.lt_or_ge j a with h3 | h3
    · exact hin j h1 h3
    · obtain rfl : j = a := by omega
      rw [hr, mate_mate]
      exact B.alive t htL
  have hnq : ∀ j, nm f n (mate (it f j q)) ≠ nm f n q := fun j e => T.nl _ (hdl j) (by rw [e, hpm.nm_it hq])
  have hperq := hpm.per_spec hq
  have hnamD : ∀ z, z ∈ (List.range a).map (fun j => ph f (it f (j + 1) q)) → z < n ∧ ∃ j, 0 < j ∧ j ≤ a ∧ z = ph f (it f j q) := by
    intro z hz
    rw [List.mem_map] at hz
    obtain ⟨j, hj, rfl⟩ := hz
    rw [List.mem_range] at hj
    exact ⟨T.pl (hdl _), j + 1, by omega, by omega, rfl⟩
  have hnotin : ∀ j, 0 < j → j ≤ a → ∀ x, x ∈ L → x ≠ t → nm f n (ph f (it f j q)) ≠ nm f n x := by
    intro j h1 h2 x hx hxt e
    rcases Nat.lt_or_ge j a with h3 | h3
    · rw [T.nm_ph (hdl j)] at e
      exact hfree j h1 h3 (List.mem_map.2 ⟨x, hx, e.symm⟩)
    · obtain rfl : j = a := by omega
      rw [hnl] at e
      exact hxt (B.inj htL hx e).symm
  have hmem : ∀ u, u ∈ L.map (nm f n) → u ≠ nm f n q → u ∈ (X ++ p :: ((List.range a).map (fun j => ph f (it f (j + 1) q)) ++ Y)).map (nm f n) := by
    intro u hu hne
    rw [List.mem_map] at hu
    obtain ⟨x, hx, rfl⟩ := hu
    rw [hL] at hx
    simp only [List.mem_append, List.mem_cons] at hx
    rw [List.mem_map]
    rcases hx with hx | rfl | rfl | rfl | hx
    · exact ⟨x, by simp [hx], rfl⟩
    · exact ⟨x, by simp, rfl⟩
    · exact absurd rfl hne
    · refine ⟨ph f (it f a q), ?_, hnl⟩
      simp only [List.mem_append, List.mem_cons, List.mem_map, List.mem_range]
      exact .inr (.inr (.inl ⟨a - 1, by omega, by rw [show a - 1 + 1 = a by omega]⟩))
    · exact ⟨x, by simp [hx], rfl⟩
  have huniq : ∀ x y, x < n → y < n → nm f n x = nm f n y → nm f n (mate x) = nm f n q → nm f n (mate y) = nm f n q → x = y :=
    fun x y hx hy e1 e2 e3 => T.nd x y hx hy e1 (by rw [e2, e3])
  -- who else is on the border has no dart to q
  have hfar : ∀ x ∈ L, x ≠ p → x ≠ t → ∀ y, Nx n f g x y → Nx n f (fun u => g u ∨ u = nm f n q) x y := by
    intro x hx hxp hxt y h
    obtain ⟨b, hb, e, h1, h2⟩ := h
    have hxl := B.lt x hx
    refine ⟨b, hb, e, fun j j1 j2 => ?_, fun j j1 j2 => .inl (h2 j j1 j2)⟩
    rintro (k | k)
    · exact h1 j j1 j2 k
    · have hd := hpm.it_lt j x hxl
      obtain ⟨i, hi, ei⟩ := hpm.exists_it hq (T.ml hd) k
      have hhd : nm f n (mate (it f i q)) = nm f n x := by rw [ei, mate_mate, hpm.nm_it hxl]
      rcases Nat.eq_zero_or_pos i with e0 | e0
      · subst e0
        have hhd : nm f n (mate q) = nm f n x := hhd
        rw [npq] at hhd
        exact hxp (B.inj hpL hx hhd).symm
      · rcases Nat.lt_trichotomy i a with h3 | h3 | h3
        · exact hfree i e0 h3 (List.mem_map.2 ⟨x, hx, hhd.symm⟩)
        · subst h3
          rw [hr, mate_mate] at hhd
          exact hxt (B.inj htL hx hhd).symm
        · have := hout i h3 hi
          rw [hhd] at this
          exact B.alive x hx this
  refine ⟨?_, ?_, ?_, ?_, ?_, ?_⟩
  · intro d hd
    simp only [List.mem_append, List.mem_cons] at hd
    rcases hd with hd | rfl | hd | hd
    · exact B.lt d (hXL d hd)
    · exact hp
    · exact (hnamD d hd).1
    · exact B.lt d (hYL d hd)
  · have hh := B.head
    rw [hL] at hh
    cases X with
    | nil => exact hh
    | cons x X => exact hh
  · have hnm := B.nodup
    rw [hL] at hnm
    simp only [List.map_append, List.map_cons, List.nodup_append, List.nodup_cons, List.mem_cons, List.mem_append, not_or] at hnm ⊢
    obtain ⟨n1, ⟨⟨n2, n3, n4⟩, ⟨n5, n6⟩, n7, n8⟩, n9⟩ := hnm
    refine ⟨n1, ⟨⟨?_, n4⟩, ?_, n8, ?_⟩, ?_⟩
    · intro hm
      rw [List.mem_map] at hm
      obtain ⟨z, hz, e⟩ := hm
      obtain ⟨_, j, j1, j2, rfl⟩ := hnamD z hz
      exact hnotin j j1 j2 p hpL hpt e
    · rw [List.map_map, List.Nodup, List.pairwise_map]
      refine List.Pairwise.imp_of_mem ?_ List.pairwise_lt_range
      intro i j hi hj hij e
      rw [List.mem_range] at hi hj
      have e : nm f n (ph f (it f (i + 1) q)) = nm f n (ph f (it f (j + 1) q)) := e
      rw [hnu, hnu] at e
      have := T.nd _ _ (hdl (i + 1)) (hdl (j + 1)) (by rw [hpm.nm_it hq, hpm.nm_it hq]) e
      exact hpm.it_ne hq (show i + 1 < j + 1 by omega) (by omega) this
    · intro u hu v hv e
      rw [List.mem_map] at hu hv
      obtain ⟨z, hz, rfl⟩ := hu
      obtain ⟨y, hy, rfl⟩ := hv
      obtain ⟨_, j, j1, j2, rfl⟩ := hnamD z hz
      exact hnotin j j1 j2 y (hYL y hy) (fun e => htY (e ▸ hy)) e
    · intro u hu v hv
      rcases hv with rfl | hv | hv
      · exact n9 u hu _ (.inl rfl)
      · rintro rfl
        rw [List.mem_map] at hu hv
        obtain ⟨y, hy, e⟩ := hu
        obtain ⟨z, hz, rfl⟩ := hv
        obtain ⟨_, j, j1, j2, rfl⟩ := hnamD z hz
        exact hnotin j j1 j2 y (hXL y hy) (hXt y hy) e.symm
      · exact n9 u hu v (.inr (.inr (.inr hv)))
  · intro d hd
    have hold : ∀ x, x ∈ L → x ≠ q → ¬ (g (nm f n x) ∨ nm f n x = nm f n q) := by
      rintro x hx hxq (k | k)
      · exact B.alive x hx k
      · exact hxq (B.inj hx hqL k)
    simp only [List.mem_append, List.mem_cons] at hd
    rcases hd with hd | rfl | hd | hd
    · exact hold d (hXL d hd) (hXq d hd)
    · exact hold d hpL hpq
    · obtain ⟨_, j, j1, j2, rfl⟩ := hnamD d hd
      rw [T.nm_ph (hdl j)]
      rintro (k | k)
      · exact hal j j1 j2 k
      · exact hnq j k
    · exact hold d (hYL d hd) (fun e => hqY (e ▸ hd))
  · rw [chn_append]
    refine ⟨?_, ?_, ?_⟩
    · exact chn_imp chX (fun x hx y => hfar x (hXL x hx) (hXp x hx) (hXt x hx) y)
    · -- p
      rw [headD_append]
      rw [show ((List.range a).map (fun j => ph f (it f (j + 1) q))).headD (Y.headD r) = ph f (f q) by
        obtain ⟨b, rfl⟩ : ∃ b, a = b + 1 := ⟨a - 1, by omega⟩
        rw [List.range_succ_eq_map]; rfl]
      refine ⟨ap - 1, by omega, ?_, fun j j1 j2 => ?_, fun j j1 j2 => ?_⟩
      · have h3 := T.third hq
        rw [← erp, show ap = (ap - 1) + 1 by omega, it_succ'] at h3
        exact (hpm.inj _ _ (T.ml (T.pl (hpm.lt q hq))) (hpm.it_lt _ p hp) h3).symm
      · rintro (k | k)
        · exact inp j j1 (by omega) k
        · have h1 := hpm.it_lt j p hp
          have := huniq (it f j p) (it f ap p) h1 (hpm.it_lt ap p hp) (by rw [hpm.nm_it hp, hpm.nm_it hp]) k (by rw [erp, mate_mate])
          exact hpm.it_ne hp (show j < ap by omega) hap this
      · rcases Nat.lt_or_ge ap j with h1 | h1
        · exact .inl (outp j h1 j2)
        · obtain rfl : j = ap := by omega
          rw [erp, mate_mate]
          exact .inr rfl
    · rw [chn_append]
      refine ⟨?_, chn_imp chY (fun x hx y => hfar x (hYL x hx) (fun e => hpY (e ▸ hx)) (fun e => htY (e ▸ hx)) y)⟩
      -- those that come in, one by one
      have hone : ∀ j, j + 1 < a → Nx n f (fun u => g u ∨ u = nm f n q) (ph f (it f (j + 1) q)) (ph f (it f (j + 2) q)) := by
        intro j hj
        have hd := hdl (j + 1)
        generalize hdd : it f (j + 1) q = d at hd
        have hd2 : it f (j + 2) q = f d := by rw [it_succ', hdd]
        rw [hd2]
        have hx := T.pl hd
        have s := hpm.per_spec hx
        have e1 := T.third hd
        have e2 : it f 2 (mate (ph f (f d))) = ph f d := by
          show f (f (mate (ph f (f d)))) = ph f d
          rw [e1]
          rfl
        have hb := T.ml (T.pl (hpm.lt d hd))
        obtain ⟨b, hb1, hb2⟩ := hpm.exists_it hx hb (by
          have := hpm.nm_it hb 2
          rw [e2] at this
          exact this.symm)
        have hm : it f (b + 1) (ph f d) = mate d := by rw [it_succ', hb2, e1]
        have hbb : it f (b + 2) (ph f d) = ph f d := by rw [it_add, hb2, e2]
        have hu : nm f n (mate d) ∉ L.map (nm f n) := by rw [← hdd]; exact hfree (j + 1) (by omega) hj
        have hua : ¬ g (nm f n (mate d)) := by rw [← hdd]; exact hin (j + 1) (by omega) hj
        have hperb : per f (ph f d) = b + 2 := by
          rcases Nat.lt_trichotomy (per f (ph f d)) (b + 2) with h1 | h1 | h1
          · exfalso
            have h2 : per f (ph f d) = b + 1 := by omega
            have h3 := s.2.1
            rw [h2, hm] at h3
            -- the vertex has one dart alone
            have h4 : nm f n (mate (ph f d)) = nm f n (mate (it f j q)) := by
              have e5 : f (mate (ph f d)) = mate (it f j q) := by
                have := T.third (hdl j)
                rw [← it_succ' f j q, hdd] at this
                exact this
              rw [← hpm.nm_step (T.ml hx), e5]
            rw [← h3, mate_mate] at h4
            rw [← hdd, hpm.nm_it hq] at h4
            exact hnq j h4.symm
          · exact h1
          · exact absurd hbb (s.2.2 _ (by omega) h1)
        refine ⟨b, by omega, hb2, fun i i1 i2 => ?_, fun i i1 i2 => ?_⟩
        · have hi := hpm.it_lt i (ph f d) hx
          rintro (k | k)
          · have := B.cl (mate (it f i (ph f d))) (T.ml hi) k
            rw [mate_mate, hpm.nm_it hx, T.nm_ph hd] at this
            rcases this with k | k
            · exact hua k
            · exact hu k
          · have := huniq (it f i (ph f d)) (mate d) hi (T.ml hd) (by rw [hpm.nm_it hx, T.nm_ph hd]) k (by rw [mate_mate, ← hdd, hpm.nm_it hq])
            rw [← hm] at this
            exact hpm.it_ne hx (show i < b + 1 by omega) (by omega) this
        · obtain rfl : i = b + 1 := by omega
          rw [hm, mate_mate, ← hdd, hpm.nm_it hq]
          exact .inr rfl
      have hlast : Nx n f (fun u => g u ∨ u = nm f n q) (ph f (it f a q)) (Y.headD r) := by
        have e : ph f (it f a q) = f t := by rw [hr, ph, mate_mate]
        rw [e]
        refine ⟨at' - 1, by rw [hpm.per_step ht]; omega, ?_, fun j j1 j2 => ?_, fun j j1 j2 => ?_⟩
        · rw [← it_succ, show at' - 1 + 1 = at' by omega]; exact ert
        · rw [← it_succ]
          rintro (k | k)
          · exact int (j + 1) (by omega) (by omega) k
          · have := huniq (it f (j + 1) t) t (hpm.it_lt _ t ht) ht (hpm.nm_it ht _) k nqt
            exact (hpm.per_spec ht).2.2 (j + 1) (by omega) (by omega) this
        · rw [hpm.per_step ht] at j2
          rw [← it_succ]
          rcases Nat.lt_or_ge (j + 1) (per f t) with h1 | h1
          · exact .inl (outt (j + 1) (by omega) h1)
          · rw [show j + 1 = per f t by omega, (hpm.per_spec ht).2.1]
            exact .inr nqt
      have hgo : ∀ k i, i + k = a → 0 < k → Chn (Nx n f (fun u => g u ∨ u = nm f n q)) ((List.range' i k).map (fun j => ph f (it f (j + 1) q))) (Y.headD r) := by
        intro k
        induction k with
        | zero => intro i _ h; omega
        | succ k ih =>
          intro i hi _
          rw [List.range'_succ, List.map_cons]
          cases k with
          | zero =>
            obtain rfl : a = i + 1 := by omega
            exact ⟨hlast, trivial⟩
          | succ k =>
            refine ⟨?_, ih (i + 1) (by omega) (by omega)⟩
            rw [List.range'_succ, List.map_cons]
            exact hone i (by omega)
      have := hgo a 0 (by omega) ha0
      rwa [← List.range_eq_range'] at this
  · rintro d hd (k | k)
    · rcases B.cl d hd k with h1 | h1
      · exact .inl (.inl h1)
      · by_cases e : nm f n (mate d) = nm f n q
        · exact .inl (.inr e)
        · exact .inr (hmem _ h1 e)
    · obtain ⟨i, hi, rfl⟩ := hpm.exists_it hq hd k
      rcases Nat.eq_zero_or_pos i with e0 | e0
      · subst e0
        refine .inr (hmem _ ?_ (hnq 0))
        rw [show it f 0 q = q from rfl, npq]
        exact List.mem_map.2 ⟨p, hpL, rfl⟩
      · rcases Nat.lt_trichotomy i a with h3 | h3 | h3
        · right
          rw [List.mem_map]
          refine ⟨ph f (it f i q), ?_, T.nm_ph (hdl i)⟩
          simp only [List.mem_append, List.mem_cons, List.mem_map, List.mem_range]
          exact .inr (.inr (.inl ⟨i - 1, by omega, by rw [show i - 1 + 1 = i by omega]⟩))
        · subst h3
          refine .inr (hmem _ ?_ (hnq i))
          rw [hr, mate_mate]
          exact List.mem_map.2 ⟨t, htL, rfl⟩
        · exact .inl (.inl (hout i h3 hi))
end
end Go.Proofs.Ythakkchmegnlhaa.Pq
