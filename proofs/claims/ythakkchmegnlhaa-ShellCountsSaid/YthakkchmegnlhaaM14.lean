/- Plain mathematics: an edge of a triangulation is flipped; the triangle. -/
import Derived.Test.YthakkchmegnlhaaM13
namespace Go.Proofs.Ythakkchmegnlhaa.Pq

/-- The edge of d joins the other two of its two triangles. -/
def flipF (f : Nat → Nat) (d x : Nat) : Nat :=
  if x = mate (ph f (ph f d)) then f d else if x = mate (ph f (ph f (mate d))) then f (mate d)
  else if x = mate (ph f d) then d else if x = d then ph f (ph f d) else if x = mate (ph f (mate d)) then mate d else if x = mate d then ph f (ph f (mate d)) else f x
def flipL (f lam : Nat → Nat) (d x : Nat) : Nat :=
  if x = d then lam (ph f (ph f d)) else if x = mate d then lam (ph f (ph f (mate d))) else lam x

section
variable {n v : Nat} {f lam : Nat → Nat}
set_option maxHeartbeats 4000000 in
theorem TR.flip (T : TR n v f lam) {d : Nat} (hd : d < n) (hab : lam (ph f (ph f d)) ≠ lam (ph f (ph f (mate d))))
    (hno : ∀ x, x < n → ¬ (lam x = lam (ph f (ph f d)) ∧ lam (mate x) = lam (ph f (ph f (mate d))))) : TR n v (flipF f d) (flipL f lam d) := by
  have hev := T.ev
  obtain ⟨e, he⟩ : ∃ e, e = mate d := ⟨_, rfl⟩
  obtain ⟨p, hp⟩ : ∃ p, p = ph f d := ⟨_, rfl⟩
  obtain ⟨a, ha⟩ : ∃ a, a = ph f p := ⟨_, rfl⟩
  obtain ⟨q, hq⟩ : ∃ q, q = ph f e := ⟨_, rfl⟩
  obtain ⟨b, hb⟩ : ∃ b, b = ph f q := ⟨_, rfl⟩
  have me : mate e = d := by rw [he, mate_mate]
  have le : e < n := he ▸ T.ml hd
  have lp : p < n := hp ▸ T.pl hd
  have la : a < n := ha ▸ T.pl lp
  have lq : q < n := hq ▸ T.pl le
  have lb : b < n := hb ▸ T.pl lq
  have ta : ph f a = d := by rw [ha, hp]; exact T.tri d hd
  have tb : ph f b = e := by rw [hb, hq]; exact T.tri e le
  have ma := T.ml la
  have mp := T.ml lp
  have mq := T.ml lq
  have mb := T.ml lb
  obtain ⟨F, hF⟩ : ∃ F, F = flipF f d := ⟨_, rfl⟩
  obtain ⟨K, hK⟩ : ∃ K, K = flipL f lam d := ⟨_, rfl⟩
  have hFx : ∀ x, F x = if x = mate a then f d else if x = mate b then f e else if x = mate p then d else if x = d then a else if x = mate q then e else if x = e then b else f x := fun x => by
    rw [hF, flipF, ← he, ← hp, ← hq, ← ha, ← hb]
  have hKx : ∀ x, K x = if x = d then lam a else if x = e then lam b else lam x := fun x => by
    rw [hK, flipL, ← he, ← hp, ← hq, ← ha, ← hb]
  rw [← he, ← hp, ← hq, ← ha, ← hb] at hab hno
  rw [← hF, ← hK]
  have hfd : f d = q := by rw [hq, ph, me]
  have hfe : f e = p := by rw [hp, ph, he]
  have hfp : f (mate p) = a := ha.symm
  have hfa : f (mate a) = d := ta
  have hfq : f (mate q) = b := hb.symm
  have hfb : f (mate b) = e := tb
  rw [hfd, hfe] at hFx
  -- labels
  have yp : lam p = lam e := by rw [← hfe]; exact T.step e le
  have yp2 : lam (mate p) = lam a := by rw [← hfp]; exact (T.step _ mp).symm
  have ya2 : lam (mate a) = lam d := by rw [← hfa]; exact (T.step _ ma).symm
  have yq : lam q = lam d := by rw [← hfd]; exact T.step d hd
  have yq2 : lam (mate q) = lam b := by rw [← hfq]; exact (T.step _ mq).symm
  have yb2 : lam (mate b) = lam e := by rw [← hfb]; exact (T.step _ mb).symm
  have z1 : lam e ≠ lam d := by have := T.nl d hd; rw [← he] at this; exact this
  have z2 : lam a ≠ lam e := by have := T.nl p lp; rw [yp, yp2] at this; exact this
  have z3 : lam d ≠ lam a := by have := T.nl a la; rw [ya2] at this; exact this
  have z4 : lam b ≠ lam d := by have := T.nl q lq; rw [yq, yq2] at this; exact this
  have z5 : lam e ≠ lam b := by have := T.nl b lb; rw [yb2] at this; exact this
  have mi : ∀ {a b : Nat}, mate a = mate b → a = b := fun {a b} e => by rw [← mate_mate a, e, mate_mate]
  have nel : ∀ {x y : Nat}, lam x ≠ lam y → x ≠ y := fun {x y} h e => h (by rw [e])
  have nelA : ∀ {x y A B : Nat}, lam x = A → lam y = B → A ≠ B → x ≠ y := fun {x y A B} h1 h2 h e => h (by rw [← h1, ← h2, e])
  have nem : ∀ {x y : Nat}, lam (mate x) ≠ lam (mate y) → x ≠ y := fun {x y} h e => h (by rw [e])
  have c1 : mate a ≠ mate b := fun h => hab (by rw [mi h])
  have c2 : mate a ≠ mate p := nelA ya2 yp2 z3
  have c3 : mate a ≠ d := nem (by rw [mate_mate, ← he]; exact z2)
  have c4 : mate a ≠ mate q := nelA ya2 yq2 z4.symm
  have c5 : mate a ≠ e := nelA ya2 rfl z1.symm
  have c6 : mate b ≠ mate p := nelA yb2 yp2 z2.symm
  have c7 : mate b ≠ d := nelA yb2 rfl z1
  have c8 : mate b ≠ mate q := nelA yb2 yq2 z5
  have c9 : mate b ≠ e := nem (by rw [mate_mate, me]; exact z4)
  have c10 : mate p ≠ d := nelA yp2 rfl z3.symm
  have c11 : mate p ≠ mate q := nelA yp2 yq2 hab
  have c12 : mate p ≠ e := nelA yp2 rfl z2
  have c13 : d ≠ mate q := nelA rfl yq2 z4.symm
  have c14 : d ≠ e := nelA rfl rfl z1.symm
  have c15 : mate q ≠ e := nelA yq2 rfl z5.symm
  have f1 : F (mate a) = q := by rw [hFx, if_pos rfl]
  have f2 : F (mate b) = p := by rw [hFx, if_neg c1.symm, if_pos rfl]
  have f3 : F (mate p) = d := by rw [hFx, if_neg c2.symm, if_neg c6.symm, if_pos rfl]
  have f4 : F d = a := by rw [hFx, if_neg c3.symm, if_neg c7.symm, if_neg c10.symm, if_pos rfl]
  have f5 : F (mate q) = e := by rw [hFx, if_neg c4.symm, if_neg c8.symm, if_neg c11.symm, if_neg c13.symm, if_pos rfl]
  have f6 : F e = b := by rw [hFx, if_neg c5.symm, if_neg c9.symm, if_neg c12.symm, if_neg c14.symm, if_neg c15.symm, if_pos rfl]
  have fo : ∀ {x}, x ≠ mate a → x ≠ mate b → x ≠ mate p → x ≠ d → x ≠ mate q → x ≠ e → F x = f x := fun {x} e1 e2 e3 e4 e5 e6 => by
    rw [hFx, if_neg e1, if_neg e2, if_neg e3, if_neg e4, if_neg e5, if_neg e6]
  have kd : K d = lam a := by rw [hKx, if_pos rfl]
  have ke : K e = lam b := by rw [hKx, if_neg c14.symm, if_pos rfl]
  have ko : ∀ {x}, x ≠ d → x ≠ e → K x = lam x := fun {x} e1 e2 => by rw [hKx, if_neg e1, if_neg e2]
  -- who is d or e
  have np : p ≠ d := nelA yp rfl z1
  have np' : p ≠ e := nem (by rw [me, yp2]; exact z3.symm)
  have na : a ≠ d := nelA rfl rfl z3.symm
  have na' : a ≠ e := nelA rfl rfl z2
  have nq : q ≠ d := nem (by rw [← he, yq2]; exact z5.symm)
  have nq' : q ≠ e := nelA yq rfl z1.symm
  have nb : b ≠ d := nelA rfl rfl z4
  have nb' : b ≠ e := nelA rfl rfl z5.symm
  have split : ∀ x, x = mate a ∨ x = mate b ∨ x = mate p ∨ x = d ∨ x = mate q ∨ x = e ∨ (x ≠ mate a ∧ x ≠ mate b ∧ x ≠ mate p ∧ x ≠ d ∧ x ≠ mate q ∧ x ≠ e) := fun x => by
    by_cases e1 : x = mate a
    · simp [e1]
    by_cases e2 : x = mate b
    · simp [e2]
    by_cases e3 : x = mate p
    · simp [e3]
    by_cases e4 : x = d
    · simp [e4]
    by_cases e5 : x = mate q
    · simp [e5]
    by_cases e6 : x = e
    · simp [e6]
    simp [e1, e2, e3, e4, e5, e6]
  have fne : ∀ {x}, x < n → x ≠ mate a → x ≠ mate b → x ≠ mate p → x ≠ d → x ≠ mate q → x ≠ e → f x ≠ d ∧ f x ≠ e ∧ f x ≠ a ∧ f x ≠ q ∧ f x ≠ b ∧ f x ≠ p := fun {x} hx e1 e2 e3 e4 e5 e6 => by
    have inj := T.pm.inj
    exact ⟨fun h => e1 (inj _ _ hx ma (h.trans hfa.symm)), fun h => e2 (inj _ _ hx mb (h.trans hfb.symm)), fun h => e3 (inj _ _ hx mp (h.trans hfp.symm)),
      fun h => e4 (inj _ _ hx hd (h.trans hfd.symm)), fun h => e5 (inj _ _ hx mq (h.trans hfq.symm)), fun h => e6 (inj _ _ hx le (h.trans hfe.symm))⟩
  have hpm : Pm n F := by
    obtain ⟨bk, hbk⟩ := T.pm.exists_back
    refine Pm.of_left (fun y => if y = q then mate a else if y = p then mate b else if y = d then mate p else if y = a then d else if y = e then mate q else if y = b then e else bk y) ?_ ?_
    · intro x hx
      rcases split x with rfl | rfl | rfl | rfl | rfl | rfl | ⟨e1, e2, e3, e4, e5, e6⟩
      · rw [f1]; exact lq
      · rw [f2]; exact lp
      · rw [f3]; exact hd
      · rw [f4]; exact la
      · rw [f5]; exact le
      · rw [f6]; exact lb
      · rw [fo e1 e2 e3 e4 e5 e6]; exact T.pm.lt x hx
    · have u1 : p ≠ q := nelA yp yq z1
      have u2 : a ≠ q := nelA rfl yq z3.symm
      have u3 : a ≠ p := nelA rfl yp z2
      have u4 : b ≠ q := nelA rfl yq z4
      have u5 : b ≠ p := nelA rfl yp z5.symm
      have u6 : b ≠ a := nelA rfl rfl hab.symm
      intro x hx
      rcases split x with h | h | h | h | h | h | ⟨e1, e2, e3, e4, e5, e6⟩
      · show (if F x = q then _ else _) = _
        rw [h, f1, if_pos rfl]
      · show (if F x = q then _ else _) = _
        rw [h, f2, if_neg u1, if_pos rfl]
      · show (if F x = q then _ else _) = _
        rw [h, f3, if_neg nq.symm, if_neg np.symm, if_pos rfl]
      · show (if F x = q then _ else _) = _
        rw [h, f4, if_neg u2, if_neg u3, if_neg na, if_pos rfl]
      · show (if F x = q then _ else _) = _
        rw [h, f5, if_neg nq'.symm, if_neg np'.symm, if_neg c14.symm, if_neg na'.symm, if_pos rfl]
      · show (if F x = q then _ else _) = _
        rw [h, f6, if_neg u4, if_neg u5, if_neg nb, if_neg u6, if_neg nb', if_pos rfl]
      · show (if F x = q then _ else _) = _
        obtain ⟨g1, g2, g3, g4, g5, g6⟩ := fne hx e1 e2 e3 e4 e5 e6
        rw [fo e1 e2 e3 e4 e5 e6, if_neg g4, if_neg g6, if_neg g1, if_neg g3, if_neg g2, if_neg g5, hbk x hx]
  -- who stands for d and e at their old vertices
  obtain ⟨r, hr⟩ : ∃ r : Nat → Nat, r = fun z => if z = d then mate a else if z = e then mate b else z := ⟨_, rfl⟩
  have rd : r d = mate a := by rw [hr]; simp
  have re : r e = mate b := by rw [hr]; simp [c14.symm]
  have ro : ∀ {z}, z ≠ d → z ≠ e → r z = z := fun {z} h1 h2 => by rw [hr]; simp [h1, h2]
  have hstep : ∀ z, z < n → Orb F (r z) (r (f z)) := fun z hz => by
    rcases split z with h | h | h | h | h | h | ⟨e1, e2, e3, e4, e5, e6⟩
    · rw [h, hfa, rd, ro c3 c5]; exact Orb.refl _ _
    · rw [h, hfb, re, ro c7 c9]; exact Orb.refl _ _
    · rw [h, hfp, ro na na', ro c10 c12]; exact ⟨2, by rw [it_succ, it_succ, f3, f4]; rfl⟩
    · rw [h, hfd, rd, ro nq nq']; exact ⟨1, f1⟩
    · rw [h, hfq, ro nb nb', ro c13.symm c15]; exact ⟨2, by rw [it_succ, it_succ, f5, f6]; rfl⟩
    · rw [h, hfe, re, ro np np']; exact ⟨1, f2⟩
    · obtain ⟨g1, g2, _⟩ := fne hz e1 e2 e3 e4 e5 e6
      rw [ro e4 e6, ro g1 g2]
      exact ⟨1, fo e1 e2 e3 e4 e5 e6⟩
  have horb : ∀ z z', z < n → Orb f z z' → Orb F (r z) (r z') := by
    rintro z z' hz ⟨k, rfl⟩
    induction k with
    | zero => exact Orb.refl _ _
    | succ k ih => rw [it_succ']; exact ih.trans (hstep _ (T.pm.it_lt k z hz))
  have hrep : ∀ c, c < n → ∃ z, z < n ∧ z ≠ d ∧ z ≠ e ∧ Orb F c z ∧ lam z = K c := fun c hc => by
    by_cases e1 : c = d
    · exact ⟨a, la, na, na', ⟨1, by rw [e1]; exact f4⟩, by rw [e1, kd]⟩
    · by_cases e2 : c = e
      · exact ⟨b, lb, nb, nb', ⟨1, by rw [e2]; exact f6⟩, by rw [e2, ke]⟩
      · exact ⟨c, hc, e1, e2, Orb.refl _ _, (ko e1 e2).symm⟩
  refine ⟨hpm, T.big, T.pos, ?_, ?_, ?_, ?_, ?_, ?_, ?_, ?_⟩
  · intro x hx
    obtain ⟨z, hz, _, _, _, ez⟩ := hrep x hx
    rw [← ez]
    exact T.lt z hz
  · intro x hx
    rcases split x with h | h | h | h | h | h | ⟨e1, e2, e3, e4, e5, e6⟩
    · rw [h, f1, ko nq nq', ko c3 c5, yq, ya2]
    · rw [h, f2, ko np np', ko c7 c9, yp, yb2]
    · rw [h, f3, kd, ko c10 c12, yp2]
    · rw [h, f4, kd, ko na na']
    · rw [h, f5, ke, ko c13.symm c15, yq2]
    · rw [h, f6, ke, ko nb nb']
    · obtain ⟨g1, g2, _⟩ := fne hx e1 e2 e3 e4 e5 e6
      rw [fo e1 e2 e3 e4 e5 e6, ko e4 e6, ko g1 g2, T.step x hx]
  · intro c c' hc hc' h
    obtain ⟨z, z1, z2, z3, z4, z5⟩ := hrep c hc
    obtain ⟨y, y1, y2, y3, y4, y5⟩ := hrep c' hc'
    have := horb z y z1 (T.orb z y z1 y1 (z5.trans (h.trans y5.symm)))
    rw [ro z2 z3, ro y2 y3] at this
    exact z4.trans (this.trans (hpm.orb_symm hc' y4))
  · intro u hu
    obtain ⟨c, hc, h⟩ := T.all u hu
    by_cases e1 : c = d
    · exact ⟨mate a, ma, by rw [ko c3 c5, ya2, ← e1, h]⟩
    · by_cases e2 : c = e
      · exact ⟨mate b, mb, by rw [ko c7 c9, yb2, ← e2, h]⟩
      · exact ⟨c, hc, by rw [ko e1 e2, h]⟩
  · have cad : Conn F d (mate a) := by
      have := (Conn.sig d d (.refl d) : Conn F d (F d))
      rw [f4] at this
      exact this.mat _ _
    have cbe : Conn F e (mate b) := by
      have := (Conn.sig e e (.refl e) : Conn F e (F e))
      rw [f6] at this
      exact this.mat _ _
    have cr : ∀ z, z < n → Conn F z (r z) ∧ Conn F (r z) z := fun z hz => by
      by_cases e1 : z = d
      · rw [e1, rd]; exact ⟨cad, cad.symm hpm hev hd⟩
      · by_cases e2 : z = e
        · rw [e2, re]; exact ⟨cbe, cbe.symm hpm hev le⟩
        · rw [ro e1 e2]; exact ⟨.refl _, .refl _⟩
    have cs : ∀ z, z < n → Conn F z (f z) := fun z hz => (cr z hz).1.trans ((Conn.of_orb (hstep z hz)).trans (cr _ (T.pm.lt z hz)).2)
    have key : ∀ c, Conn f 0 c → Conn F 0 c := by
      intro c h
      induction h with
      | refl => exact .refl _
      | sig b hb ih => exact ih.trans (cs b (hb.lt T.pm hev T.pos))
      | mat b hb ih => exact ih.mat _ _
    exact fun c hc => key c (T.conn c hc)
  · have g1 : ph F a = q := f1
    have g2 : ph F b = p := f2
    have g3 : ph F p = d := f3
    have g4 : ph F e = a := by rw [ph, me]; exact f4
    have g5 : ph F q = e := f5
    have g6 : ph F d = b := by rw [ph, ← he]; exact f6
    have so : ∀ x, x < n → x ≠ a → x ≠ b → x ≠ p → x ≠ e → x ≠ q → x ≠ d → ph F x = ph f x ∧ ph f x < n ∧ ph f x ≠ a ∧ ph f x ≠ b ∧ ph f x ≠ p ∧ ph f x ≠ e ∧ ph f x ≠ q ∧ ph f x ≠ d := fun x hx e1 e2 e3 e4 e5 e6 => by
      have u1 : mate x ≠ mate a := fun h => e1 (mi h)
      have u2 : mate x ≠ mate b := fun h => e2 (mi h)
      have u3 : mate x ≠ mate p := fun h => e3 (mi h)
      have u4 : mate x ≠ d := fun h => e4 (by rw [he, ← h, mate_mate])
      have u5 : mate x ≠ mate q := fun h => e5 (mi h)
      have u6 : mate x ≠ e := fun h => e6 (by rw [← me, ← h, mate_mate])
      obtain ⟨g1, g2, g3, g4, g5, g6⟩ := fne (T.ml hx) u1 u2 u3 u4 u5 u6
      exact ⟨fo u1 u2 u3 u4 u5 u6, T.pl hx, g3, g5, g6, g2, g4, g1⟩
    intro x hx
    by_cases e1 : x = a
    · rw [e1, g1, g5, g4]
    by_cases e2 : x = b
    · rw [e2, g2, g3, g6]
    by_cases e3 : x = p
    · rw [e3, g3, g6, g2]
    by_cases e4 : x = e
    · rw [e4, g4, g1, g5]
    by_cases e5 : x = q
    · rw [e5, g5, g4, g1]
    by_cases e6 : x = d
    · rw [e6, g6, g2, g3]
    obtain ⟨u0, u1, u2, u3, u4, u5, u6, u7⟩ := so x hx e1 e2 e3 e4 e5 e6
    obtain ⟨w0, w1, w2, w3, w4, w5, w6, w7⟩ := so _ u1 u2 u3 u4 u5 u6 u7
    rw [u0, w0, (so _ w1 w2 w3 w4 w5 w6 w7).1, T.tri x hx]
  · intro x hx
    by_cases e1 : x = d
    · rw [e1, ← he, kd, ke]; exact hab.symm
    by_cases e2 : x = e
    · rw [e2, me, kd, ke]; exact hab
    rw [ko e1 e2, ko (fun h => e2 (by rw [he, ← h, mate_mate])) (fun h => e1 (by rw [← me, ← h, mate_mate]))]
    exact T.nl x hx
  · have old : ∀ c, c ≠ d → c ≠ e → K c = lam c ∧ K (mate c) = lam (mate c) := fun c e1 e2 =>
      ⟨ko e1 e2, ko (fun h => e2 (by rw [he, ← h, mate_mate])) (fun h => e1 (by rw [← me, ← h, mate_mate]))⟩
    have no1 : ∀ c, c < n → c ≠ d → c ≠ e → ¬ (K c = lam a ∧ K (mate c) = lam b) := fun c hc e1 e2 h => by
      rw [(old c e1 e2).1, (old c e1 e2).2] at h
      exact hno c hc h
    have no2 : ∀ c, c < n → c ≠ d → c ≠ e → ¬ (K c = lam b ∧ K (mate c) = lam a) := fun c hc e1 e2 h => by
      rw [(old c e1 e2).1, (old c e1 e2).2] at h
      exact hno (mate c) (T.ml hc) (by rw [mate_mate]; exact ⟨h.2, h.1⟩)
    have kmd : K (mate d) = lam b := by rw [← he]; exact ke
    have kme : K (mate e) = lam a := by rw [me]; exact kd
    intro c c' hc hc' h1 h2
    by_cases e1 : c = d
    · by_cases e2 : c' = d
      · rw [e1, e2]
      · by_cases e3 : c' = e
        · rw [e1, e3, kd, ke] at h1; exact absurd h1 hab
        · rw [e1] at h1 h2
          exact absurd ⟨h1.symm.trans kd, h2.symm.trans kmd⟩ (no1 c' hc' e2 e3)
    · by_cases e1' : c = e
      · by_cases e2 : c' = d
        · rw [e1', e2, kd, ke] at h1; exact absurd h1.symm hab
        · by_cases e3 : c' = e
          · rw [e1', e3]
          · rw [e1'] at h1 h2
            exact absurd ⟨h1.symm.trans ke, h2.symm.trans kme⟩ (no2 c' hc' e2 e3)
      · by_cases e2 : c' = d
        · rw [e2] at h1 h2
          exact absurd ⟨h1.trans kd, h2.trans kmd⟩ (no1 c hc e1 e1')
        · by_cases e3 : c' = e
          · rw [e3] at h1 h2
            exact absurd ⟨h1.trans ke, h2.trans kme⟩ (no2 c hc e1 e1')
          · rw [(old c e1 e1').1, (old c' e2 e3).1] at h1
            rw [(old c e1 e1').2, (old c' e2 e3).2] at h2
            exact T.nd c c' hc hc' h1 h2
end

/-- The triangle. -/
def triL : List Nat := [5, 2, 1, 4, 3, 0]
def triF (d : Nat) : Nat := match d with | 0 => 0 | 1 => 1 | 2 => 1 | 3 => 2 | 4 => 2 | _ => 0
theorem triL_TR : TR 6 3 (sg triL) triF := by
  have s0 : sg triL 0 = 5 := rfl
  have s1 : sg triL 1 = 2 := rfl
  have s2 : sg triL 2 = 1 := rfl
  have s3 : sg triL 3 = 4 := rfl
  have s4 : sg triL 4 = 3 := rfl
  have s5 : sg triL 5 = 0 := rfl
  have m0 : mate 0 = 1 := rfl
  have m1 : mate 1 = 0 := rfl
  have m2 : mate 2 = 3 := rfl
  have m3 : mate 3 = 2 := rfl
  have m4 : mate 4 = 5 := rfl
  have m5 : mate 5 = 4 := rfl
  have six : ∀ {d}, d < 6 → d = 0 ∨ d = 1 ∨ d = 2 ∨ d = 3 ∨ d = 4 ∨ d = 5 := fun {d} h => by omega
  have c01 : Conn (sg triL) 0 1 := by have := (Conn.refl (f := sg triL) 0).mat; rw [m0] at this; exact this
  have c05 : Conn (sg triL) 0 5 := by have := (Conn.refl (f := sg triL) 0).sig; rw [s0] at this; exact this
  have c04 : Conn (sg triL) 0 4 := by have := c05.mat; rw [m5] at this; exact this
  have c02 : Conn (sg triL) 0 2 := by have := c01.sig; rw [s1] at this; exact this
  have c03 : Conn (sg triL) 0 3 := by have := c02.mat; rw [m2] at this; exact this
  have i0 : ∀ a, Orb (sg triL) a a := Orb.refl _
  have i1 : ∀ a, Orb (sg triL) a (sg triL a) := Orb.step _
  refine ⟨⟨?_, ?_⟩, rfl, by omega, ?_, ?_, ?_, ?_, ?_, ?_, ?_, ?_⟩
  · intro d hd
    rcases six hd with rfl | rfl | rfl | rfl | rfl | rfl <;> simp only [s0, s1, s2, s3, s4, s5] <;> omega
  · intro d d' hd hd' h
    rcases six hd with rfl | rfl | rfl | rfl | rfl | rfl <;> rcases six hd' with rfl | rfl | rfl | rfl | rfl | rfl <;> simp only [s0, s1, s2, s3, s4, s5] at h <;> omega
  · intro d hd
    rcases six hd with rfl | rfl | rfl | rfl | rfl | rfl <;> simp only [triF] <;> omega
  · intro d hd
    rcases six hd with rfl | rfl | rfl | rfl | rfl | rfl <;> simp only [s0, s1, s2, s3, s4, s5, triF]
  · intro d d' hd hd' h
    rcases six hd with rfl | rfl | rfl | rfl | rfl | rfl <;> rcases six hd' with rfl | rfl | rfl | rfl | rfl | rfl <;> simp only [triF] at h <;>
      first | exact i0 _ | (exfalso; omega) | (have := i1 0; rw [s0] at this; exact this) | (have := i1 1; rw [s1] at this; exact this) | (have := i1 2; rw [s2] at this; exact this) |
        (have := i1 3; rw [s3] at this; exact this) | (have := i1 4; rw [s4] at this; exact this) | (have := i1 5; rw [s5] at this; exact this)
  · intro u hu
    have : u = 0 ∨ u = 1 ∨ u = 2 := by omega
    rcases this with rfl | rfl | rfl
    · exact ⟨0, by omega, rfl⟩
    · exact ⟨1, by omega, rfl⟩
    · exact ⟨3, by omega, rfl⟩
  · intro d hd
    rcases six hd with rfl | rfl | rfl | rfl | rfl | rfl
    · exact .refl _
    · exact c01
    · exact c02
    · exact c03
    · exact c04
    · exact c05
  · intro d hd
    rcases six hd with rfl | rfl | rfl | rfl | rfl | rfl <;> simp only [ph, s0, s1, s2, s3, s4, s5, m0, m1, m2, m3, m4, m5]
  · intro d hd
    rcases six hd with rfl | rfl | rfl | rfl | rfl | rfl <;> simp only [m0, m1, m2, m3, m4, m5, triF] <;> omega
  · intro d d' hd hd' h h'
    rcases six hd with rfl | rfl | rfl | rfl | rfl | rfl <;> rcases six hd' with rfl | rfl | rfl | rfl | rfl | rfl <;> simp only [triF, m0, m1, m2, m3, m4, m5] at h h' <;> omega
end Go.Proofs.Ythakkchmegnlhaa.Pq
