/- Walks over package dart: the names of orbits, told once. -/
import Derived.Test.YthakkchmegnlhaaW2
import Derived.Test.YthakkchmegnlhaaW4
namespace Go.Proofs.Ythakkchmegnlhaa
open Go.RowKit Pq

theorem set_get_ne {cs : Array Value} {i j : Nat} (h : i ≠ j) (u : Value) : (cs.setIfInBounds i u)[j]? = cs[j]? := Array.getElem?_setIfInBounds_ne h
theorem set_get_self {cs : Array Value} {i : Nat} {u : Value} (h : cs[i]? = some u) : cs.setIfInBounds i u = cs := by
  apply Array.ext_getElem?
  intro j
  by_cases e : i = j
  · subst e
    have : i < cs.size := by
      rcases Nat.lt_or_ge i cs.size with hl | hl
      · exact hl
      · rw [Array.getElem?_eq_none hl] at h; cases h
    rw [Array.getElem?_setIfInBounds_self, if_pos this, h]
  · rw [Array.getElem?_setIfInBounds_ne e]
theorem set_set_eq {cs : Array Value} {i : Nat} {u v : Value} : (cs.setIfInBounds i u).setIfInBounds i v = cs.setIfInBounds i v := by
  apply Array.ext_getElem?
  intro j
  by_cases e : i = j
  · subst e
    rw [Array.getElem?_setIfInBounds_self, Array.getElem?_setIfInBounds_self, Array.size_setIfInBounds]
  · rw [Array.getElem?_setIfInBounds_ne e, Array.getElem?_setIfInBounds_ne e, Array.getElem?_setIfInBounds_ne e]
theorem set_get_eq {cs : Array Value} {i : Nat} (h : i < cs.size) (u : Value) : (cs.setIfInBounds i u)[i]? = some u := by
  rw [Array.getElem?_setIfInBounds_self, if_pos h]

set_option maxRecDepth 100000 in
set_option maxHeartbeats 1600000 in
theorem tell_calls (b o p : Nat) (cs : Array Value) (s : List Nat) (bk : Bool) (w : World) (hb : Blk w b 73 cs) (hsz : cs.size = 14) (ho : o + 6 ≤ 14)
    (hcp : cs[o]? = some (.pointer (some ⟨p, 0, none⟩))) (h5 : cs[o + 5]? = some (.slice none 0 0)) (hp : PermAt w p s bk) (hs : Pm s.length (sg s)) (hn : s.length < 1099511627776) :
    Calls Try.prog 56 #[.pointer (some ⟨b, o, none⟩)] w fun e w' => e = .returned (.tuple #[]) ∧
      ∃ ofv szv, Blk w' b 73 ((cs.setIfInBounds (o + 4) ofv).setIfInBounds (o + 5) szv) ∧ Own w' w.heap.size 3 ofv (namesL (sg s) s.length) ∧
        Own w' w.heap.size 3 szv (nl (sizesL (sg s) s.length)) ∧ Upd (fun k => k = b) w w' := by
  obtain ⟨A, c, hc, hr⟩ := hp.cells
  have hpl := hp.lt
  have hc0 : w.cell? ⟨b, o, none⟩ = some (.pointer (some ⟨p, 0, none⟩)) := by rw [hb.cell]; exact hcp
  have HS := Lib.hid hs
  have HB := Lib.hid hb
  have HR := Lib.hid hr
  have HC := Lib.hid hc
  have H5 := Lib.hid h5
  have hbl := hb.lt
  clear hs hb hr hc hcp hp h5
  go_enter Try.func56, Try.ntmps56
  go_wp2_with (go_at_call 70; refine (Names_calls p c w.heap.size A s _ HC.out hpl HR.out (Nat.le_refl _) HS.out hn).mono ?_; rintro e w1 ⟨g, hg, rfl, hb1, hbel1⟩; have HB1 := Lib.hid hb1; have HBE := Lib.hid hbel1; have hc4 : w1.cell? ⟨b, o + 4, none⟩ = some cs[o + 4] := (by rw [hbel1.cell hbl, HB.out.cell]; exact Array.getElem?_eq_getElem (by omega)); have hf4 : w1.frozen? ⟨b, o + 4, none⟩ = false := (by rw [hbel1.frozen hbl]; exact HB.out.frozen _); clear hb1 hbel1)
  have h0 : Blk (w1.setCell ⟨b, o + 4, none⟩ (.slice (some ⟨g, 0, none⟩) s.length s.length)) b 73 ((cs.setIfInBounds (o + 4) (.slice (some ⟨g, 0, none⟩) s.length s.length)).setIfInBounds (o + 5) (.slice none 0 0)) := by
    rw [set_get_self (i := o + 5) (by rw [set_get_ne (by omega)]; exact H5.out)]
    exact (HB.out.below HBE.out hbl).set_ _ _
  have hbg : Blk (w1.setCell ⟨b, o + 4, none⟩ (.slice (some ⟨g, 0, none⟩) s.length s.length)) g 3 (ivs (namesL (sg s) s.length)) := HB1.out.far (p := ⟨b, o + 4, none⟩) (by simp; omega) _
  have hu0 : Upd (fun k => k = b) w (w1.setCell ⟨b, o + 4, none⟩ (.slice (some ⟨g, 0, none⟩) s.length s.length)) := Upd.setCell (S := fun k => k = b) (p := ⟨b, o + 4, none⟩) (Upd.of_below HBE.out) (.inl rfl) _
  have H0 := Lib.hid h0
  have HG := Lib.hid hbg
  have HU := Lib.hid hu0
  have hgl := HB1.out.lt
  have hws := HBE.out.size
  clear h0 hbg hu0 hc4 hf4
  go_loopw [17] (fun i wr => ∃ (k : Nat) (szv : Value), k ≤ s.length ∧ i = .int .i64 k ∧ Blk wr b 73 ((cs.setIfInBounds (o + 4) (.slice (some ⟨g, 0, none⟩) s.length s.length)).setIfInBounds (o + 5) szv) ∧
      Own wr w1.heap.size 3 szv (nl (sizesAt (sg s) s.length k)) ∧ Blk wr g 3 (ivs (namesL (sg s) s.length)) ∧ Upd (fun k => k = b) w wr ∧ w1.heap.size ≤ wr.heap.size)
    (fun i _ => s.length - (intOf i).toNat)
  case atStart => exact ⟨0, .slice none 0 0, Nat.zero_le _, rfl, H0.out, by rw [sizesAt_zero]; exact Own.nil _ _ _, HG.out, HU.out, by simp [World.setCell]⟩
  case round =>
    obtain ⟨k, szv, hk, rfl, hblk, hown, hbg, hup, hwr⟩ := hrel
    obtain ⟨A2, c2, rfl, hcap, _, _, _⟩ := hown.formN
    rw [sizesAt_length] at hblk hown
    have HK := Lib.hid hblk
    have HO := Lib.hid hown
    have HN := Lib.hid hbg
    have HP := Lib.hid hup
    have hll := lows_le (sg s) s.length k
    have hc5 : wr.cell? ⟨b, o + 5, none⟩ = some (.slice A2 (lows (sg s) s.length k) c2) := by rw [HK.out.cell, set_get_eq (by simp; omega)]
    have hf5 : wr.frozen? ⟨b, o + 5, none⟩ = false := HK.out.frozen _
    clear hblk hown hbg hup H0 HG HU
    by_cases hlt : k < s.length
    · have hck : wr.cell? ⟨g, k, none⟩ = some (.int .i64 (nm (sg s) s.length k)) := by
        rw [HN.out.cell, ivs_get _ _ (by rw [namesL_length]; exact hlt), namesL_getD _ _ _ hlt]
      by_cases hl : isLeast (sg s) s.length k
      · have he := nm_least HS.out hl
        have ht : (((nm (sg s) s.length k : Nat) : Int) == ((lows (sg s) s.length k : Nat) : Int)) = true := by rw [he]; simp
        have HE := Lib.hid he
        clear he
        generalize nm (sg s) s.length k = m at hck ht HE
        go_wp2_with (at_builtin; refine app_int rfl (.tmp 32) (.tmp 33) rfl w1.heap.size _ _ 0 rfl HO.out rfl ?h1 ?h2 ?h3)
        case h1 => rw [nl_length, sizesAt_length]; omega
        case h2 => exact hwr
        case h3 =>
          intro v' w' hown' hg'
          have hown2 : Own w' w1.heap.size 3 v' (nl (sizesAt (sg s) s.length k ++ [0])) := by rw [nl_append]; exact hown'
          obtain ⟨g2, c3, rfl, hge2, hlt2, hcs2, hfz2⟩ := hown2.pos (by simp)
          rw [List.length_append, sizesAt_length, List.length_singleton] at hown2 ⊢
          have hkb : Blk w' b 73 _ := HK.out.grown hg' (own_blk_ne HO.out HK.out (by decide)).symm
          have hkn : Blk w' g 3 _ := HN.out.grown hg' (fun e => by have := HO.out.ge g e.symm; omega)
          have hup2 : Upd (fun k => k = b) w w' := HP.out.grown hg' (fun k hk => .inr (by have := HO.out.ge k hk; omega))
          have hsz2 : w1.heap.size ≤ w'.heap.size := Nat.le_trans hwr hg'.size
          have hc6 : w'.cell? ⟨b, o + 5, none⟩ = some (.slice A2 (lows (sg s) s.length k) c2) := by rw [hkb.cell, set_get_eq (by simp; omega)]
          have hf6 : w'.frozen? ⟨b, o + 5, none⟩ = false := hkb.frozen _
          have hbne : b ≠ g2 := by omega
          have hce : ∀ V, (w'.setCell ⟨b, o + 5, none⟩ V).cell? ⟨g2, m, none⟩ = some (.int .i64 0) := fun V => by
            rw [World.cell?_setCell_other _ _ _ _ (fun e => hbne (congrArg Addr.block e)), hcs2 m (by rw [List.length_append, sizesAt_length, List.length_singleton]; exact Nat.lt_succ_of_le (Nat.le_of_eq HE.out))]
            have : sg (sizesAt (sg s) s.length k ++ [0]) m = 0 := by rw [HE.out, sg, List.getD_eq_getElem?_getD, List.getElem?_append_right (by rw [sizesAt_length]; exact Nat.le_refl _), sizesAt_length]; simp
            rw [this]; rfl
          have hfe : ∀ V, (w'.setCell ⟨b, o + 5, none⟩ V).frozen? ⟨g2, m, none⟩ = false := fun V => by rw [World.frozen?_setCell]; exact hfz2 m
          have hml : m < lows (sg s) s.length k + 1 := Nat.lt_succ_of_le (Nat.le_of_eq HE.out)
          have HO2 := Lib.hid hown2
          have HKB := Lib.hid hkb
          have HKN := Lib.hid hkn
          have HU2 := Lib.hid hup2
          clear hown' hg' hown2 hcs2 hfz2 hkb hkn hup2 hc5 hf5 hck
          go_wp2
          go_roundw
          case rel =>
            have hfin := sizesAt_least HS.out hlt hl
            rw [nm_least HS.out hl] at hfin
            refine ⟨k + 1, .slice (some ⟨g2, 0, none⟩) (lows (sg s) s.length k + 1) c3, by omega, by go_num, ?_, ?_, (HKN.out.far (p := ⟨b, o + 5, none⟩) (by simp; omega) _).far (p := ⟨g2, m, none⟩) (by simp; omega) _,
              (HU2.out.setCell (p := ⟨b, o + 5, none⟩) (.inl rfl) _).setCell (p := ⟨g2, m, none⟩) (.inr (by simp; omega)) _, by simp [World.setCell]; omega⟩
            · have h1 := HKB.out.set_ (o + 5) (.slice (some ⟨g2, 0, none⟩) (lows (sg s) s.length k + 1) c3)
              rw [set_set_eq] at h1
              exact h1.far (p := ⟨g2, m, none⟩) hbne _
            · rw [← hfin, nl_set]
              have e9 := HE.out
              subst e9
              exact Own.store (ownsRow_setCell_below (a := ⟨b, o + 5, none⟩) HO2.out (Nat.lt_of_lt_of_le hbl hws) _) _ 1
          case measure => simp [intOf]; omega
      · have he := nm_lt_lows HS.out hlt hl
        have ht : (((nm (sg s) s.length k : Nat) : Int) == ((lows (sg s) s.length k : Nat) : Int)) = false := by simp; omega
        obtain ⟨g2, c3, hv, hge2, hlt2, hcs2, hfz2⟩ := HO.out.pos (by rw [sizesAt_length]; omega)
        injection hv with hA
        subst hA
        have hfin := sizesAt_more HS.out hlt hl
        have hcnt := cntNm_le (f := sg s) (n := s.length) k (nm (sg s) s.length k)
        have hsg : sg (sizesAt (sg s) s.length k) (nm (sg s) s.length k) = cntNm (sg s) s.length k (nm (sg s) s.length k) := sizesAt_get k _ he
        have hce := hcs2 _ (by rw [sizesAt_length]; exact he)
        rw [hsg] at hce
        have hfe := hfz2 (nm (sg s) s.length k)
        have HF := Lib.hid hfin
        have hbne : b ≠ g2 := by omega
        clear hfin hsg hcs2 hfz2
        generalize cntNm (sg s) s.length k (nm (sg s) s.length k) = q at hcnt hce HF
        generalize nm (sg s) s.length k = m at hck ht he hce hfe HF
        go_wp2
        go_roundw
        case rel =>
          refine ⟨k + 1, _, by omega, by go_num, HK.out.far (p := ⟨g2, m, none⟩) hbne _, ?_, HN.out.far (p := ⟨g2, m, none⟩) (by simp; omega) _, HP.out.setCell (p := ⟨g2, m, none⟩) (.inr (by simp; omega)) _, by simp [World.setCell]; omega⟩
          rw [← HF.out, nl_set]
          exact Own.store HO.out m _
        case measure => simp [intOf]; omega
    · obtain rfl : k = s.length := by omega
      go_wp2
      go_end0
      have hof : Own wr w.heap.size 3 _ _ := Own.of_blk HN.out hg (by rw [namesL_length]; unfold maxLen; omega)
      rw [namesL_length] at hof
      exact ⟨rfl, _, _, HK.out, hof, HO.out.less hws, HP.out⟩

theorem run_enter {P : Program} {f : FuncId} {fn : Func} (hf : P.funcs[f]? = some fn) (hname : (fn.name == "runtime.NumGoroutine") = false) (hb : fn.body.isNone = false) (args : Array Value) (w : World) :
    (callFunc f args).run P w = .ok (.enter f args) w := by
  have h1 : fn.name ≠ "runtime.NumGoroutine" := by simpa using hname
  have h2 : ¬ fn.body = none := fun e => by rw [e] at hb; cases hb
  simp [callFunc, hf, h1, h2]

/-- The names of a permutation's orbits, in block b from place o on; fl: are they told? -/
def Cach (w : World) (s : List Nat) (d : Int) (ofv szv : Value) (fl : Bool) : Prop :=
  (fl = false → d = 0 ∧ ofv = .slice none 0 0 ∧ szv = .slice none 0 0) ∧ (fl = true → d = 1 ∧ Own w 0 3 ofv (namesL (sg s) s.length) ∧ Own w 0 3 szv (nl (sizesL (sg s) s.length)))
theorem Cach.upd {w w' : World} {S : Nat → Prop} {s : List Nat} {d : Int} {o z : Value} {fl : Bool} (h : Cach w s d o z fl) (hu : Upd S w w') (hs : ∀ k, S k → ∃ t cs, Blk w k t cs ∧ t ≠ 3) : Cach w' s d o z fl :=
  ⟨h.1, fun e => ⟨(h.2 e).1, (h.2 e).2.1.ty hu hs, (h.2 e).2.2.ty hu hs⟩⟩

/-- The part of a map's block from place o on: a permutation's names. -/
structure NamesIn (cs : Array Value) (o p : Nat) (d : Int) (ofv szv : Value) : Prop where
  c0 : cs[o]? = some (.pointer (some ⟨p, 0, none⟩))
  c1 : cs[o + 1]? = some (.int .u32 d)
  c2 : cs[o + 2]? = some (.int .i32 0)
  c4 : cs[o + 4]? = some ofv
  c5 : cs[o + 5]? = some szv

/-- The Once of a map's names, done now. -/
theorem once_tell (b o p : Nat) (cs : Array Value) (s : List Nat) (bk : Bool) (w : World) (hb : Blk w b 73 cs) (hsz : cs.size = 14) (ho : o + 6 ≤ 14)
    (hN : NamesIn cs o p 0 (.slice none 0 0) (.slice none 0 0)) (hp : PermAt w p s bk) (hs : Pm s.length (sg s)) (hn : s.length < 1099511627776) :
    Calls Try.prog 55 #[.pointer (some ⟨b, o + 1, none⟩), .func (.func 56) #[.pointer (some ⟨b, o, none⟩)] #[]] w fun e w' => e = .returned (.tuple #[]) ∧
      ∃ ofv szv, Blk w' b 73 (((cs.setIfInBounds (o + 1) (.int .u32 1)).setIfInBounds (o + 4) ofv).setIfInBounds (o + 5) szv) ∧
        Own w' 0 3 ofv (namesL (sg s) s.length) ∧ Own w' 0 3 szv (nl (sizesL (sg s) s.length)) ∧ Upd (fun k => k = b) w w' := by
  have hbl := hb.lt
  have hb1 := hb.set_ (o + 2) (.int .i32 1)
  have hu1 : Upd (fun k => k = b) w (w.setCell ⟨b, o + 2, none⟩ (.int .i32 1)) := Upd.setCell (S := fun k => k = b) (p := ⟨b, o + 2, none⟩) (Upd.refl _ _) (.inl rfl) _
  have hpb : p ≠ b := by
    obtain ⟨v, F, d, h1, _⟩ := hp
    exact h1.ne_ hb (by decide)
  have hty : ∀ k, k = b → ∃ t cs, Blk w k t cs ∧ t ≠ 3 := fun k e => ⟨73, cs, by rw [e]; exact hb, by decide⟩
  have hp1 := hp.upd hu1 hpb hty
  have ht := tell_calls b o p _ s bk _ hb1 (by rw [Array.size_setIfInBounds]; exact hsz) ho (by rw [set_get_ne (by omega)]; exact hN.c0) (by rw [set_get_ne (by omega)]; exact hN.c5) hp1 hs hn
  have hD := Do_first b (o + 1) 56 (.pointer (some ⟨b, o, none⟩)) w
    (fun w' => ∃ ofv szv, Blk w' b 73 (((cs.setIfInBounds (o + 2) (.int .i32 1)).setIfInBounds (o + 4) ofv).setIfInBounds (o + 5) szv) ∧ Own w' 0 3 ofv (namesL (sg s) s.length) ∧
        Own w' 0 3 szv (nl (sizesL (sg s) s.length)) ∧ Upd (fun k => k = b) w w') (by rw [hb.cell]; exact hN.c1) (by rw [hb.cell]; exact hN.c2) (hb.frozen _)
    (fun W => run_enter Try.func56 (by kernel_rfl) (by kernel_rfl) _ W) ?_
  · refine hD.mono ?_
    rintro e w' ⟨rfl, w1, ⟨ofv, szv, h1, h2, h3, h4⟩, rfl⟩
    have hc2 : o + 2 < cs.size := by omega
    have hty1 : ∀ k, k = b → ∃ t cs, Blk w1 k t cs ∧ t ≠ 3 := fun k e => ⟨73, _, e ▸ h1, by decide⟩
    have hu2 : Upd (fun k => k = b) w1 ((w1.drew.setCell ⟨b, o + 1, none⟩ (.int .u32 1)).setCell ⟨b, o + 1 + 1, none⟩ (.int .i32 0)) :=
      Upd.setCell (S := fun k => k = b) (p := ⟨b, o + 1 + 1, none⟩) (Upd.setCell (S := fun k => k = b) (p := ⟨b, o + 1, none⟩) (Upd.refl _ _).drew (.inl rfl) _) (.inl rfl) _
    refine ⟨rfl, ofv, szv, ?_, h2.ty hu2 hty1, h3.ty hu2 hty1, h4.trans hu2⟩
    have h5 := ((h1.drew.set_ (o + 1) (.int .u32 1)).set_ (o + 2) (.int .i32 0))
    rw [show ((((cs.setIfInBounds (o + 2) (.int .i32 1)).setIfInBounds (o + 4) ofv).setIfInBounds (o + 5) szv).setIfInBounds (o + 1) (.int .u32 1)).setIfInBounds (o + 2) (.int .i32 0) =
      ((cs.setIfInBounds (o + 1) (.int .u32 1)).setIfInBounds (o + 4) ofv).setIfInBounds (o + 5) szv from ?_] at h5
    · exact h5
    · apply Array.ext_getElem?
      intro j
      simp only [Array.getElem?_setIfInBounds, Array.size_setIfInBounds]
      by_cases e2 : o + 2 = j
      · subst e2
        rw [if_pos rfl, if_pos hc2, if_neg (by omega), if_neg (by omega), if_neg (by omega)]
        exact hN.c2.symm
      · rw [if_neg e2]
        by_cases e1 : o + 1 = j
        · rw [if_pos e1, if_neg (show ¬ o + 5 = j by omega), if_neg (show ¬ o + 4 = j by omega), if_pos e1]
        · rw [if_neg e1]
          by_cases e5 : o + 5 = j
          · rw [if_pos e5, if_pos e5]
          · rw [if_neg e5, if_neg e5]
            by_cases e4 : o + 4 = j
            · rw [if_pos e4, if_pos e4]
            · rw [if_neg e4, if_neg e4, if_neg e2, if_neg e1]
  · refine Lib.hid (ht.mono ?_)
    rintro e w' ⟨rfl, ofv, szv, h1, h2, h3, h4⟩
    refine ⟨rfl, ⟨ofv, szv, h1, h2.less (Nat.zero_le _), h3.less (Nat.zero_le _), hu1.trans h4⟩, ?_, ?_, ?_, ?_⟩
    · rw [h1.cell, set_get_ne (by omega), set_get_ne (by omega), set_get_ne (by omega)]; exact hN.c1
    · rw [h1.cell, set_get_ne (by omega), set_get_ne (by omega), set_get_eq (by omega)]
    · exact h1.frozen _
    · exact h1.frozen _

end Go.Proofs.Ythakkchmegnlhaa
