/- What package shell's Order keeps: the border's names, who is gone, as the plain taking apart has them. -/
import Derived.Test.YthakkchmegnlhaaW19
import Derived.Test.YthakkchmegnlhaaA10
namespace Go.Proofs.Ythakkchmegnlhaa
open Go.RowKit Pq

theorem sg_map (L : List Nat) (f : Nat → Nat) {i : Nat} (hi : i < L.length) : sg (L.map f) i = f (L.getD i 0) := by
  simp [sg, List.getD_eq_getElem?_getD, hi]
/-- Who is gone, in flags. -/
def gls (V : Nat) (G : List Nat) : List Bool := (List.range V).map fun u => decide (u ∈ G)
theorem gls_length (V : Nat) (G : List Nat) : (gls V G).length = V := by simp [gls]
theorem gls_nil (V : Nat) : gls V [] = List.replicate V false := by
  rw [gls, List.eq_replicate_iff]
  exact ⟨by simp, fun b hb => by rw [List.mem_map] at hb; obtain ⟨a, _, rfl⟩ := hb; simp⟩
theorem gls_getD {V u : Nat} (G : List Nat) (hu : u < V) : (gls V G).getD u false = decide (u ∈ G) := by
  simp [gls, List.getD_eq_getElem?_getD, hu]
theorem gls_set (V u : Nat) (G : List Nat) : (gls V G).set u true = gls V (G ++ [u]) := by
  apply List.ext_getElem (by simp [gls])
  intro i h1 h2
  have hi : i < V := by simpa [gls] using h2
  rw [List.getElem_set]
  simp only [gls, List.getElem_map, List.getElem_range, List.mem_append, List.mem_singleton]
  by_cases e : u = i
  · simp [e]
  · rw [if_neg e]
    simp [Ne.symm e]

section
variable {s L G dl : List Nat} {r : Nat}
/-- Of each vertex a dart. -/
def Drt (s dl : List Nat) : Prop := dl.length = cnt (sg s) s.length ∧ ∀ u, u < cnt (sg s) s.length → sg dl u < s.length ∧ nm (sg s) s.length (sg dl u) = u

theorem frI_iff (T : Trg s.length (sg s)) (S : Shd s.length (sg s) r G L) (D : Drt s dl) {q : Nat} (h0 : 0 < q) (h1 : q + 1 < L.length) :
    frI s (gls (cnt (sg s) s.length) G) (L.map (nm (sg s) s.length)) dl q = true ↔ ∃ a, Fre s.length (sg s) (· ∈ G) L (L.getD q 0) (L.getD (q + 1) 0) a := by
  obtain ⟨X, Y, hL, _⟩ := split_at h0 h1
  have B := S.bd
  have hq : L.getD q 0 < s.length := B.lt _ (getD_mem (by omega))
  have hb : sg (L.map (nm (sg s) s.length)) q = nm (sg s) s.length (L.getD q 0) := sg_map L _ (by omega)
  obtain ⟨d1, d2⟩ := D.2 _ (T.pm.nm_lt hq)
  rw [frI, decide_eq_true_eq, hb, frN]
  refine B.fre_iff T hL (fun z => !((gls (cnt (sg s) s.length) G).getD (nm (sg s) s.length (mate z)) false) && (nl (L.map (nm (sg s) s.length))).contains ((nm (sg s) s.length (mate z) : Nat) : Int)) ?_ d1 d2
  intro z hz
  have hm := T.pm.nm_lt (T.ml hz)
  show (!((gls (cnt (sg s) s.length) G).getD (nm (sg s) s.length (mate z)) false) && (nl (L.map (nm (sg s) s.length))).contains ((nm (sg s) s.length (mate z) : Nat) : Int)) = true ↔ _
  rw [gls_getD G hm, Bool.and_eq_true, Bool.not_eq_true', decide_eq_false_iff_not, List.contains_iff_mem, nl, List.mem_map]
  constructor
  · rintro ⟨h1, y, h2, h3⟩
    obtain rfl : y = nm (sg s) s.length (mate z) := Int.ofNat.inj h3
    exact ⟨h1, h2⟩
  · rintro ⟨h1, h2⟩
    exact ⟨h1, _, h2, rfl⟩

/-- One step of the taking apart: what the program finds, and what it makes of the border. -/
theorem ord_step (T : Trg s.length (sg s)) (H : Shl s.length (sg s) r G L) (hr : r < s.length) (D : Drt s dl) (h3 : 2 < L.length) :
    ∃ q a x, 0 < q ∧ q + 1 < L.length ∧ x < s.length ∧ sg (L.map (nm (sg s) s.length)) q = nm (sg s) s.length x ∧ frI s (gls (cnt (sg s) s.length) G) (L.map (nm (sg s) s.length)) dl q = true ∧
      (∀ i, 0 < i → i < q → frI s (gls (cnt (sg s) s.length) G) (L.map (nm (sg s) s.length)) dl i = false) ∧
      nm (sg s) s.length (mate x) = sg (L.map (nm (sg s) s.length)) (q - 1) ∧ 0 < a ∧ a < per (sg s) x ∧ nm (sg s) s.length (mate (it (sg s) a x)) = sg (L.map (nm (sg s) s.length)) (q + 1) ∧
      (∀ j, 0 < j → j < a → nm (sg s) s.length (mate (it (sg s) j x)) ≠ sg (L.map (nm (sg s) s.length)) (q + 1)) ∧
      ∃ L', Shl s.length (sg s) r (G ++ [nm (sg s) s.length x]) L' ∧
        L'.map (nm (sg s) s.length) = (L.map (nm (sg s) s.length)).take q ++ innL s x (a - 1) ++ (L.map (nm (sg s) s.length)).drop (q + 1) := by
  have S := H.shd T hr
  have B := S.bd
  obtain ⟨q, a, q0, q1, hF, hmin⟩ := S.next T h3
  obtain ⟨X, Y, hL, hXl⟩ := split_at q0 q1
  have hx : L.getD q 0 < s.length := B.lt _ (getD_mem (by omega))
  have hp : L.getD (q - 1) 0 < s.length := B.lt _ (getD_mem (by omega))
  have ha0 : 0 < a := B.pos T hL hF.2.1
  have hch := B.chain
  rw [hL, chn_append] at hch
  have npx : nm (sg s) s.length (mate (L.getD q 0)) = nm (sg s) s.length (L.getD (q - 1) 0) := Nx.name T hp hch.2.1
  have hat : nm (sg s) s.length (mate (it (sg s) a (L.getD q 0))) = nm (sg s) s.length (L.getD (q + 1) 0) := by rw [hF.2.1, mate_mate]
  have b0 := sg_map L (nm (sg s) s.length) (show q - 1 < L.length by omega)
  have b1 := sg_map L (nm (sg s) s.length) (show q < L.length by omega)
  have b2 := sg_map L (nm (sg s) s.length) q1
  refine ⟨q, a, L.getD q 0, q0, q1, hx, b1, (frI_iff T S D q0 q1).2 ⟨a, hF⟩, ?_, by rw [b0, npx], ha0, hF.1, by rw [b2, hat], ?_, _, Shl.step G L q a H q0 q1 hF hmin, ?_⟩
  · intro i i0 i1
    cases h : frI s (gls (cnt (sg s) s.length) G) (L.map (nm (sg s) s.length)) dl i
    · rfl
    · obtain ⟨b, hb⟩ := (frI_iff T S D i0 (by omega)).1 h
      exact absurd hb (hmin i i0 i1 b)
  · intro j j0 j1 e
    rw [b2] at e
    exact hF.2.2.2.2 j j0 j1 (by rw [e]; exact List.mem_map.2 ⟨_, getD_mem q1, rfl⟩)
  · obtain ⟨k, rfl⟩ : ∃ k, a = k + 1 := ⟨a - 1, by omega⟩
    have hd : (L.map (nm (sg s) s.length)).drop (q + 1) = nm (sg s) s.length (L.getD (q + 1) 0) :: (L.map (nm (sg s) s.length)).drop (q + 2) := by
      rw [List.drop_eq_getElem_cons (by simpa using q1)]
      simp [List.getD_eq_getElem?_getD, q1]
    rw [hd, List.map_append, List.map_append, List.map_take, List.map_drop, List.map_map, List.range_succ, List.map_append, Nat.add_sub_cancel, innL]
    have e : (nm (sg s) s.length ∘ fun j => ph (sg s) (it (sg s) (j + 1) (L.getD q 0))) = fun j => nm (sg s) s.length (mate (it (sg s) (j + 1) (L.getD q 0))) := by
      funext j
      exact T.nm_ph (T.pm.it_lt _ _ hx)
    rw [e]
    simp only [List.map_cons, List.map_nil, List.append_assoc, List.cons_append, List.nil_append]
    rw [hat]

theorem shl_len_le (T : Trg s.length (sg s)) (H : Shl s.length (sg s) r G L) (hr : r < s.length) : L.length ≤ s.length := by
  have S := H.shd T hr
  have := S.bd.nodup.length_le_of_subset (l₂ := List.range (cnt (sg s) s.length)) (fun u hu => by
    rw [List.mem_map] at hu
    obtain ⟨d, hd, rfl⟩ := hu
    rw [List.mem_range]
    exact T.pm.nm_lt (S.bd.lt d hd))
  have h2 := cnt_le (sg s) s.length
  simp at this
  omega

/-- What first and inner answer, in whatever world. -/
theorem ord_round {root : Int} {lone x : Nat} {M : MR} (T : Trg s.length (sg s)) (H : Shl s.length (sg s) r G L) (hr : r < s.length) (D : Drt s dl) (h3 : 2 < L.length) :
    ∃ q u ys L', 0 < q ∧ q + 1 < L.length ∧ u < cnt (sg s) s.length ∧ sg (L.map (nm (sg s) s.length)) q = u ∧ ys.length ≤ s.length ∧ Shl s.length (sg s) r (G ++ [u]) L' ∧
      L'.map (nm (sg s) s.length) = (L.map (nm (sg s) s.length)).take q ++ ys ++ (L.map (nm (sg s) s.length)).drop (q + 1) ∧
      (∀ (w : World) (ff fb : Bool) (g d c : Nat) (A : Option Addr), MapAt w M s root lone true ff fb → LeftAt w x M (L.map (nm (sg s) s.length)) (gls (cnt (sg s) s.length) G) dl g d A c →
        Calls Try.prog 27 #[.pointer (some ⟨x, 0, none⟩)] w fun e w' => e = .returned (.int .i64 (q : Int)) ∧ Below w.heap.size w w') ∧
      (∀ (w : World) (ff fb : Bool) (g d c : Nat) (A : Option Addr), MapAt w M s root lone true ff fb → LeftAt w x M (L.map (nm (sg s) s.length)) (gls (cnt (sg s) s.length) G) dl g d A c →
        Calls Try.prog 29 #[.pointer (some ⟨x, 0, none⟩), .int .i64 q] w fun e w' => ∃ v, e = .returned v ∧ Own w' w.heap.size 3 v (nl ys) ∧ Below w.heap.size w w') := by
  have S := H.shd T hr
  obtain ⟨q, a, z, q0, q1, hz, hzn, hq2, hmin, hzp, ha0, ha1, hat, hbe, L', hL', hmap⟩ := ord_step T H hr D h3
  have hpm := T.pm
  have hbs : ∀ i, i < (L.map (nm (sg s) s.length)).length → sg (L.map (nm (sg s) s.length)) i < dl.length ∧ sg dl (sg (L.map (nm (sg s) s.length)) i) < s.length := fun i hi => by
    rw [List.length_map] at hi
    have hd := S.bd.lt _ (getD_mem hi)
    rw [sg_map L _ hi, D.1]
    exact ⟨hpm.nm_lt hd, (D.2 _ (hpm.nm_lt hd)).1⟩
  have hll := shl_len_le T H hr
  have hbn : (L.map (nm (sg s) s.length)).length ≤ s.length := by rw [List.length_map]; exact hll
  have hgl : ∀ z, z < s.length → nm (sg s) s.length z < (gls (cnt (sg s) s.length) G).length := fun z hz => by rw [gls_length]; exact hpm.nm_lt hz
  have hpl := hpm.per_le hz
  refine ⟨q, nm (sg s) s.length z, innL s z (a - 1), L', q0, q1, hpm.nm_lt hz, hzn, by rw [innL_length]; omega, hL', hmap, ?_, ?_⟩
  · intro w ff fb g d c A hm hl
    exact first_calls hm hl q q0 (by rw [List.length_map]; omega) hbs hgl hbn hq2 hmin
  · intro w ff fb g d c A hm hl
    have hb := hbs q (by rw [List.length_map]; omega)
    refine inner_calls hm hl (q - 1) q (q + 1) (by omega) (by omega) (by rw [List.length_map]; exact q1) hb.1 hb.2 hbn z a ?_ hzp ?_ ha0 ha1 hat hbe
    · have := (D.2 (nm (sg s) s.length z) (hpm.nm_lt hz)).2
      obtain ⟨j, hj, e⟩ := hpm.exists_it hb.2 hz (by rw [hzn, this])
      exact ⟨j, hj, e⟩
    · intro y hy e1 e2
      exact T.nd y z hy hz e1 (by rw [e2, hzp])

/-- What is left, the border as a row of its own, the row of who is gone. -/
structure OrdAt (w : World) (B x : Nat) (M : MR) (bs : List Nat) (gl : List Bool) (dl : List Nat) (out : Value) (G : List Nat) : Prop where
  ex : ∃ g d b c, LeftAt w x M bs gl dl g d (some ⟨b, 0, none⟩) c ∧ Own w B 3 (.slice (some ⟨b, 0, none⟩) bs.length c) (nl bs) ∧ Own w B 3 out (nl G) ∧ B ≤ g ∧ B ≤ d ∧ B ≤ x ∧ b ≠ d ∧
    out.ownBlock ≠ some b ∧ out.ownBlock ≠ some d

theorem LeftAt.upd {S : Nat → Prop} {w w' : World} {x : Nat} {M : MR} {bs dl : List Nat} {gl : List Bool} {g d c b : Nat} (h : LeftAt w x M bs gl dl g d (some ⟨b, 0, none⟩) c) (hu : Upd S w w') (hx : ¬ S x) (hg : ¬ S g) (hd : ¬ S d) (hb : ¬ S b) :
    LeftAt w' x M bs gl dl g d (some ⟨b, 0, none⟩) c := by
  refine ⟨h.blk.upd hu hx, ?_, h.gone.upd hu hg, h.dart.upd hu hd⟩
  rcases h.rd with e | ⟨b', off, e, hb', hc⟩
  · exact .inl e
  · cases e
    exact .inr ⟨b, 0, rfl, Nat.lt_of_lt_of_le hb' hu.size, fun i hi => (hu.cell hb' hb).trans (hc i hi)⟩
theorem Own.updv {S : Nat → Prop} {w w' : World} {base : Nat} {e : TypeId} {v : Value} {xs : List Int} (h : Own w base e v xs) (hu : Upd S w w') (hs : ∀ k, v.ownBlock = some k → ¬ S k) : Own w' base e v xs := by
  refine ⟨h.1, ?_⟩
  rcases h.2 with h2 | ⟨g, cap, cur, hv, hg, hh, r⟩
  · exact .inl h2
  · exact .inr ⟨g, cap, cur, hv, hg, (hu.block g (Blk.lt hh) (hs g (by rw [hv]; rfl))).trans hh, r⟩

/-- The root's face. -/
theorem orb_face (T : Trg s.length (sg s)) (hr : r < s.length) : orb (sg (phiL s)) r = [r, ph (sg s) r, ph (sg s) (ph (sg s) r)] := by
  have e0 : sg (phiL s) r = ph (sg s) r := phiL_ph hr
  have e1 : sg (phiL s) (ph (sg s) r) = ph (sg s) (ph (sg s) r) := phiL_ph (T.pl hr)
  have e2 : sg (phiL s) (ph (sg s) (ph (sg s) r)) = r := by rw [phiL_ph (T.pl (T.pl hr)), T.tri r hr]
  have hpm := phiL_pm T.pm T.ev
  have hne : ph (sg s) r ≠ r := fun e => by
    have := T.nm_ph hr
    rw [e] at this
    exact T.nl r hr this.symm
  have hp : per (sg (phiL s)) r = 3 := by
    refine hpm.per_eq (by rw [phiL_length]; exact hr) (by omega) ?_ (fun k k1 k2 => ?_)
    · rw [it_succ, it_succ, it_succ, e0, e1, e2]; rfl
    · have : k = 1 ∨ k = 2 := by omega
      rcases this with rfl | rfl
      · rw [it_succ, e0]; exact hne
      · rw [it_succ, it_succ, e0, e1]
        intro e
        have h2 : ph (sg s) (ph (sg s) r) = r := e
        have h3 := T.tri r hr
        rw [h2] at h3
        exact hne h3
  rw [orb, hp]
  show [it (sg (phiL s)) 0 r, it (sg (phiL s)) 1 r, it (sg (phiL s)) 2 r] = _
  rw [it_succ _ 1, it_succ, it_succ, e0, e1]
  rfl
end
end Go.Proofs.Ythakkchmegnlhaa
