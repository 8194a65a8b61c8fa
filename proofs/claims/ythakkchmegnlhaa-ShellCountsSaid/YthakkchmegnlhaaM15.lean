/- Plain mathematics: a vertex put into a face, an edge flipped, on lists. -/
import Derived.Test.YthakkchmegnlhaaM14
namespace Go.Proofs.Ythakkchmegnlhaa.Pq

theorem sg_set {t : List Nat} {i j y : Nat} (hi : i < t.length) : sg (t.set i y) j = if i = j then y else sg t j := by
  rw [sg, sg, List.getD_eq_getElem?_getD, List.getElem?_set]
  by_cases h : i = j
  · subst h
    rw [if_pos rfl, if_pos hi, if_pos rfl]; rfl
  · rw [if_neg h, if_neg h, ← List.getD_eq_getElem?_getD]
/-- The list when so many of the face's corners have their edge. -/
def pst0 (s : List Nat) : List Nat := s ++ List.replicate 6 0
def pst1 (s : List Nat) (d x2 : Nat) : List Nat := (((pst0 s).set (mate x2) s.length).set s.length d).set (s.length + 1) (s.length + 5)
def pst2 (s : List Nat) (d x1 x2 : Nat) : List Nat := (((pst1 s d x2).set (mate d) (s.length + 2)).set (s.length + 2) x1).set (s.length + 3) (s.length + 1)
def pst3 (s : List Nat) (d x1 x2 : Nat) : List Nat := (((pst2 s d x1 x2).set (mate x1) (s.length + 4)).set (s.length + 4) x2).set (s.length + 5) (s.length + 3)
theorem pst0_length (s : List Nat) : (pst0 s).length = s.length + 6 := by simp [pst0]
theorem pst1_length (s : List Nat) (d x2 : Nat) : (pst1 s d x2).length = s.length + 6 := by simp [pst1, pst0_length]
theorem pst2_length (s : List Nat) (d x1 x2 : Nat) : (pst2 s d x1 x2).length = s.length + 6 := by simp [pst2, pst1_length]
theorem pst3_length (s : List Nat) (d x1 x2 : Nat) : (pst3 s d x1 x2).length = s.length + 6 := by simp [pst3, pst2_length]

section
variable {s : List Nat} {v d : Nat} {lam : Nat → Nat}
set_option maxHeartbeats 4000000 in
theorem pst_putF (T : TR s.length v (sg s) lam) (hd : d < s.length) (x : Nat) (hx : x < s.length + 6) :
    sg (pst3 s d (ph (sg s) d) (ph (sg s) (ph (sg s) d))) x = putF s.length (sg s) d x := by
  have h1 := T.pl hd
  have h2 := T.pl h1
  have m0 := T.ml hd
  have m1 := T.ml h1
  have m2 := T.ml h2
  have d1 := T.lam_ph hd
  have d2 := T.lam_ph h1
  have d0 := T.lam_ph h2
  rw [T.tri d hd] at d0
  have n0 := T.nl d hd
  have n1 := T.nl _ h1
  have n2 := T.nl _ h2
  have mi : ∀ {a b : Nat}, mate a = mate b → a = b := fun {a b} e => by rw [← mate_mate a, e, mate_mate]
  have a01 : mate d ≠ mate (ph (sg s) d) := fun e => by
    rw [← mi e] at d1; exact n0 d1.symm
  have a12 : mate (ph (sg s) d) ≠ mate (ph (sg s) (ph (sg s) d)) := fun e => by
    rw [← mi e] at d2; exact n1 d2.symm
  have a02 : mate d ≠ mate (ph (sg s) (ph (sg s) d)) := fun e => by
    rw [← mi e] at d0; exact n0 d0.symm
  have hz : sg (pst0 s) x = if x < s.length then sg s x else 0 := by
    simp only [pst0, sg, List.getD_eq_getElem?_getD]
    by_cases e : x < s.length
    · rw [if_pos e, List.getElem?_append_left e]
    · rw [if_neg e, List.getElem?_append_right (by omega), List.getElem?_replicate, if_pos (by omega)]; rfl
  rw [pst3, sg_set (by rw [List.length_set, List.length_set, pst2_length]; omega), sg_set (by rw [List.length_set, pst2_length]; omega), sg_set (by rw [pst2_length]; omega),
    pst2, sg_set (by rw [List.length_set, List.length_set, pst1_length]; omega), sg_set (by rw [List.length_set, pst1_length]; omega), sg_set (by rw [pst1_length]; omega),
    pst1, sg_set (by rw [List.length_set, List.length_set, pst0_length]; omega), sg_set (by rw [List.length_set, pst0_length]; omega), sg_set (by rw [pst0_length]; omega), hz]
  unfold putF
  clear hz d0 d1 d2 n0 n1 n2
  generalize ph (sg s) (ph (sg s) d) = x2 at *
  generalize ph (sg s) d = x1 at *
  generalize mate x2 = mm2 at *
  generalize mate x1 = mm1 at *
  generalize mate d = mm0 at *
  generalize sg s x = sx at *
  generalize s.length = n at *
  clear T mi
  repeat' (first | omega | split)
end

/-- The list with the edge of d flipped: ma, mb: who went to d, and to its mate. -/
def flst (s : List Nat) (d e p q a b ma mb : Nat) : List Nat := (((((s.set ma (sg s d)).set mb (sg s e)).set (mate p) d).set d a).set (mate q) e).set e b
theorem flst_length (s : List Nat) (d e p q a b ma mb : Nat) : (flst s d e p q a b ma mb).length = s.length := by simp [flst]
section
variable {s : List Nat} {v d : Nat} {lam : Nat → Nat}
theorem flst_flipF (T : TR s.length v (sg s) lam) (hd : d < s.length) (hab : lam (ph (sg s) (ph (sg s) d)) ≠ lam (ph (sg s) (ph (sg s) (mate d)))) (x : Nat) :
    sg (flst s d (mate d) (ph (sg s) d) (ph (sg s) (mate d)) (ph (sg s) (ph (sg s) d)) (ph (sg s) (ph (sg s) (mate d))) (mate (ph (sg s) (ph (sg s) d))) (mate (ph (sg s) (ph (sg s) (mate d))))) x = flipF (sg s) d x := by
  obtain ⟨e, he⟩ : ∃ e, e = mate d := ⟨_, rfl⟩
  obtain ⟨p, hp⟩ : ∃ p, p = ph (sg s) d := ⟨_, rfl⟩
  obtain ⟨a, ha⟩ : ∃ a, a = ph (sg s) p := ⟨_, rfl⟩
  obtain ⟨q, hq⟩ : ∃ q, q = ph (sg s) e := ⟨_, rfl⟩
  obtain ⟨b, hb⟩ : ∃ b, b = ph (sg s) q := ⟨_, rfl⟩
  have me : mate e = d := by rw [he, mate_mate]
  have le : e < s.length := he ▸ T.ml hd
  have lp : p < s.length := hp ▸ T.pl hd
  have la : a < s.length := ha ▸ T.pl lp
  have lq : q < s.length := hq ▸ T.pl le
  have lb : b < s.length := hb ▸ T.pl lq
  have ta : ph (sg s) a = d := by rw [ha, hp]; exact T.tri d hd
  have tb : ph (sg s) b = e := by rw [hb, hq]; exact T.tri e le
  have ma := T.ml la
  have mp := T.ml lp
  have mq := T.ml lq
  have mb := T.ml lb
  rw [← he, ← hp, ← hq, ← ha, ← hb] at hab ⊢
  have hfd : sg s d = q := by rw [hq, ph, me]
  have hfe : sg s e = p := by rw [hp, ph, he]
  have hfp : sg s (mate p) = a := ha.symm
  have hfa : sg s (mate a) = d := ta
  have hfq : sg s (mate q) = b := hb.symm
  have hfb : sg s (mate b) = e := tb
  have yp2 : lam (mate p) = lam a := by rw [← hfp]; exact (T.step _ mp).symm
  have yp : lam p = lam e := by rw [← hfe]; exact T.step e le
  have ya2 : lam (mate a) = lam d := by rw [← hfa]; exact (T.step _ ma).symm
  have yq : lam q = lam d := by rw [← hfd]; exact T.step d hd
  have yq2 : lam (mate q) = lam b := by rw [← hfq]; exact (T.step _ mq).symm
  have yb2 : lam (mate b) = lam e := by rw [← hfb]; exact (T.step _ mb).symm
  have z1 : lam e ≠ lam d := by have := T.nl d hd; rw [← he] at this; exact this
  have z2 : lam a ≠ lam e := by have := T.nl p lp; rw [yp, yp2] at this; exact this
  have z3 : lam d ≠ lam a := by have := T.nl a la; rw [ya2] at this; exact this
  have z4 : lam b ≠ lam d := by have := T.nl q lq; rw [yq, yq2] at this; exact this
  have z5 : lam e ≠ lam b := by have := T.nl b lb; rw [yb2] at this; exact this
  have mi : ∀ {a b : Nat}, mate a = mate b → a = b := fun {a b} e => by rw [← mate_mate a, e, mate_mate]
  have nelA : ∀ {x y A B : Nat}, lam x = A → lam y = B → A ≠ B → x ≠ y := fun {x y A B} h1 h2 h e => h (by rw [← h1, ← h2, e])
  have nem : ∀ {x y : Nat}, lam (mate x) ≠ lam (mate y) → x ≠ y := fun {x y} h e => h (by rw [e])
  have c1 : mate a ≠ mate b := fun h => hab (by rw [mi h])
  have c2 : mate a ≠ mate p := nelA ya2 yp2 z3
  have c3 : mate a ≠ d := nem (by rw [mate_mate, ← he]; exact z2)
  have c4 : mate a ≠ mate q := nelA ya2 yq2 z4.symm
  have c5 : mate a ≠ e := nelA ya2 rfl z1.symm
  have c6 : mate b ≠ mate p := nelA yb2 yp2 z2.symm
  have c7 : mate b ≠ d := nelA yb2 rfl z1
  have c8 : mate b ≠ mate q := nelA yb2 yq2 z5
  have c9 : mate b ≠ e := nem (by rw [mate_mate, me]; exact z4)
  have c10 : mate p ≠ d := nelA yp2 rfl z3.symm
  have c11 : mate p ≠ mate q := nelA yp2 yq2 hab
  have c12 : mate p ≠ e := nelA yp2 rfl z2
  have c13 : d ≠ mate q := nelA rfl yq2 z4.symm
  have c14 : d ≠ e := nelA rfl rfl z1.symm
  have c15 : mate q ≠ e := nelA yq2 rfl z5.symm
  have hR : flipF (sg s) d x = if x = mate a then sg s d else if x = mate b then sg s e else if x = mate p then d else if x = d then a else if x = mate q then e else if x = e then b else sg s x := by
    rw [flipF, ← he, ← hp, ← hq, ← ha, ← hb]
  rw [hR, flst, sg_set (by simp; exact le), sg_set (by simp; exact mq), sg_set (by simp; exact hd), sg_set (by simp; exact mp), sg_set (by simp; exact mb), sg_set ma]
  clear hR hfd hfe hfp hfa hfq hfb yp2 yp ya2 yq yq2 yb2 z1 z2 z3 z4 z5 mi nelA nem he hp ha hq hb ta tb T hab
  by_cases h1 : x = mate a
  · rw [h1, if_neg c5.symm, if_neg c4.symm, if_neg c3.symm, if_neg c2.symm, if_neg c1.symm, if_pos rfl, if_pos rfl]
  by_cases h2 : x = mate b
  · rw [h2, if_neg c9.symm, if_neg c8.symm, if_neg c7.symm, if_neg c6.symm, if_pos rfl, if_neg c1.symm, if_pos rfl]
  by_cases h3 : x = mate p
  · rw [h3, if_neg c12.symm, if_neg c11.symm, if_neg c10.symm, if_pos rfl, if_neg c2.symm, if_neg c6.symm, if_pos rfl]
  by_cases h4 : x = d
  · rw [h4, if_neg c14.symm, if_neg c13.symm, if_pos rfl, if_neg c3.symm, if_neg c7.symm, if_neg c10.symm, if_pos rfl]
  by_cases h5 : x = mate q
  · rw [h5, if_neg c15.symm, if_pos rfl, if_neg c4.symm, if_neg c8.symm, if_neg c11.symm, if_neg c13.symm, if_pos rfl]
  by_cases h6 : x = e
  · rw [h6, if_pos rfl, if_neg c5.symm, if_neg c9.symm, if_neg c12.symm, if_neg c14.symm, if_neg c15.symm, if_pos rfl]
  rw [if_neg (Ne.symm h6), if_neg (Ne.symm h5), if_neg (Ne.symm h4), if_neg (Ne.symm h3), if_neg (Ne.symm h2), if_neg (Ne.symm h1), if_neg h1, if_neg h2, if_neg h3, if_neg h4, if_neg h5, if_neg h6]
end

/-- What is alike at all darts is a triangulation as well. -/
theorem TR.congr {n v : Nat} {f g lam : Nat → Nat} (T : TR n v f lam) (h : ∀ x, x < n → g x = f x) : TR n v g lam := by
  have hp : Pm n g := pm_congr T.pm (fun x hx => (h x hx).symm)
  have hph : ∀ x, x < n → ph g x = ph f x := fun x hx => h _ (T.ml hx)
  refine ⟨hp, T.big, T.pos, T.lt, fun d hd => by rw [h d hd]; exact T.step d hd, fun a b ha hb e => orb_congr T.pm (fun x hx => (h x hx).symm) ha (T.orb a b ha hb e), T.all, ?_, ?_, T.nl, T.nd⟩
  · have key : ∀ c, Conn f 0 c → Conn g 0 c := by
      intro c hc
      induction hc with
      | refl => exact .refl _
      | sig b hb ih =>
        have := ih.sig
        rw [h b (hb.lt T.pm T.ev T.pos)] at this
        exact this
      | mat b hb ih => exact ih.mat _ _
    exact fun d hd => key d (T.conn d hd)
  · intro d hd
    rw [hph d hd, hph _ (T.pl hd), hph _ (T.pl (T.pl hd)), T.tri d hd]
end Go.Proofs.Ythakkchmegnlhaa.Pq
