/- Walks over package shell: Order. -/
import Derived.Test.YthakkchmegnlhaaW20
import Derived.Test.YthakkchmegnlhaaA11
namespace Go.Proofs.Ythakkchmegnlhaa
open Go.RowKit Pq

/-- What is left, and the border as a row of its own. -/
structure LeftOwn (w : World) (B x : Nat) (M : MR) (bs : List Nat) (gl : List Bool) (dl : List Nat) : Prop where
  ex : ∃ g d A c, LeftAt w x M bs gl dl g d A c ∧ Own w B 3 (.slice A bs.length c) (nl bs) ∧ B ≤ g ∧ B ≤ d ∧ B ≤ x ∧ (∀ a, A = some a → a.block ≠ d)

theorem own3 {w : World} {B : Nat} {v : Value} {a b c : Nat} (h : Own w B 3 v (nl [a, b, c])) : ∃ g k, v = .slice (some ⟨g, 0, none⟩) 3 k ∧ B ≤ g ∧ g < w.heap.size ∧ w.cell? ⟨g, 0, none⟩ = some (.int .i64 (a : Int)) ∧
    w.cell? ⟨g, 1, none⟩ = some (.int .i64 (b : Int)) ∧ w.cell? ⟨g, 2, none⟩ = some (.int .i64 (c : Int)) := by
  obtain ⟨g, k, hv, hB, hg, hc, _⟩ := h.posI (by simp [nl])
  exact ⟨g, k, hv, hB, hg, hc 0 (by simp [nl]), hc 1 (by simp [nl]), hc 2 (by simp [nl])⟩

theorem ba {a w : World} (h : Below a.heap.size a w) (o : Obj) : Below a.heap.size a (w.alloc o) := h.alloc h.size o

theorem Blk.newAt {w : World} {k : Nat} (t : TypeId) (cs : Array Value) (h : k = w.heap.size) : Blk (w.alloc (.cells cs t)) k t cs := by
  subst h
  exact Blk.new w t cs
theorem left_new {wx : World} {B x g d b c0 c2 c1 V : Nat} {M : MR} (hx : Blk wx x 54 #[.pointer (some ⟨M.b, 0, none⟩), .slice (some ⟨b, 0, none⟩) 3 3, .slice (some ⟨g, 0, none⟩) V V, .slice (some ⟨d, 0, none⟩) V V])
    (hb : Blk wx b 3 #[.int .i64 (c0 : Int), .int .i64 (c2 : Int), .int .i64 (c1 : Int)]) (hg : Blk wx g 4 (bvs (List.replicate V false))) (hd : Blk wx d 3 (ivs (List.replicate V 0)))
    (h1 : B ≤ b) (h2 : B ≤ g) (h3 : B ≤ d) (h4 : B ≤ x) (h5 : b ≠ d) : LeftOwn wx B x M [c0, c2, c1] (List.replicate V false) (List.replicate V 0) := by
  have hb' : Blk wx b 3 (ivs (nl [c0, c2, c1])) := hb
  refine ⟨g, d, some ⟨b, 0, none⟩, 3, ⟨?_, hb'.rd hb.lt, hg, ?_⟩, ?_, h2, h3, h4, fun a e => by cases e; exact h5⟩
  · rw [List.length_replicate, List.length_replicate]; exact hx
  · rw [show nl (List.replicate V 0) = List.replicate V 0 by simp [nl]]; exact hd
  · exact Own.of_blk hb' h1 (by simp [nl, maxLen])

theorem Own.far {w : World} {base : Nat} {e : TypeId} {v : Value} {xs : List Int} (h : Own w base e v xs) {p : Addr} (hp : v.ownBlock ≠ some p.block) (u : Value) : Own (w.setCell p u) base e v xs := by
  refine ⟨h.1, ?_⟩
  rcases h.2 with h2 | ⟨g, cap, cur, hv, hg, hh, r⟩
  · exact .inl h2
  · refine .inr ⟨g, cap, cur, hv, hg, (Below.heap_setCell w p u g (fun e => hp ?_)).trans hh, r⟩
    rw [hv, ← e]; rfl
theorem Rd.far {w : World} {B : Nat} {A : Option Addr} {xs : List Int} (h : Rd w B A xs) {p : Addr} (hp : ∀ a, A = some a → a.block ≠ p.block) (u : Value) : Rd (w.setCell p u) B A xs := by
  rcases h with rfl | ⟨b, off, rfl, hb, hc⟩
  · exact .inl rfl
  · refine .inr ⟨b, off, rfl, hb, fun i hi => ?_⟩
    rw [World.cell?_setCell_other w p _ u (fun e => hp _ rfl (by rw [e]))]
    exact hc i hi
theorem set_size (w : World) (p : Addr) (u : Value) : (w.setCell p u).heap.size = w.heap.size := by simp [World.setCell]
theorem LeftAt.setDart {w : World} {x : Nat} {M : MR} {bs dl : List Nat} {gl : List Bool} {g d c : Nat} {A : Option Addr} (h : LeftAt w x M bs gl dl g d A c) (hA : ∀ a, A = some a → a.block ≠ d) (u k : Nat) :
    LeftAt (w.setCell ⟨d, u, none⟩ (.int .i64 (k : Int))) x M bs gl (dl.set u k) g d A c := by
  have hxd := h.blk.ne_ h.dart (by decide)
  have hgd := h.gone.ne_ h.dart (by decide)
  refine ⟨?_, ?_, h.gone.far hgd _, ?_⟩
  · rw [List.length_set]; exact h.blk.far hxd _
  · rw [set_size]; exact h.rd.far hA _
  · rw [nl_set, ← ivs_set]; exact h.dart.set_ u _
theorem LeftAt.newBorder {w w' : World} {B x : Nat} {M : MR} {bs bs' dl : List Nat} {gl : List Bool} {g d c b b' n' c' : Nat} {A : Option Addr} (h : LeftAt w x M bs gl dl g d A c) (hu : Upd (· = b) w w') (hx : x ≠ b) (hg : g ≠ b) (hd : d ≠ b)
    (ho : Own w' B 3 (.slice (some ⟨b', 0, none⟩) n' c') (nl bs')) (hn : n' = bs'.length) (hn0 : 0 < n') : LeftAt (w'.setCell ⟨x, 1, none⟩ (.slice (some ⟨b', 0, none⟩) n' c')) x M bs' gl dl g d (some ⟨b', 0, none⟩) c' ∧ b' ≠ x := by
  have hbx : Blk w' x 54 _ := h.blk.upd hu hx
  have hbg : Blk w' g 4 _ := h.gone.upd hu hg
  have hbd : Blk w' d 3 _ := h.dart.upd hu hd
  have hxg := hbg.ne_ hbx (by decide)
  have hxd := hbd.ne_ hbx (by decide)
  obtain ⟨b2, c2, e, _, hlt, hcl, _⟩ := ho.posI (by rw [nl_length]; omega)
  have e1 : b' = b2 := by injection e with e; injection e with e; injection e with e
  have hbx' : b' ≠ x := by
    rcases ho.2 with ⟨e2, _⟩ | ⟨g9, c9, cs9, e2, _, hh9, _⟩
    · cases e2
    · have e3 : b' = g9 := by injection e2 with e2; injection e2 with e2; injection e2 with e2
      rw [e3]
      exact Blk.ne_ (t := 3) hh9 hbx (by decide)
  subst e1
  refine ⟨⟨?_, ?_, hbg.far hxg _, hbd.far hxd _⟩, hbx'⟩
  · have := hbx.set_ 1 (.slice (some ⟨b', 0, none⟩) n' c')
    rw [hn] at this ⊢
    exact this
  · rw [set_size]
    refine Rd.far (.inr ⟨b', 0, rfl, hlt, fun i hi => ?_⟩) (fun a e => by cases e; exact hbx') _
    rw [Nat.zero_add]
    exact hcl i hi
theorem LeftAt.setGone {w : World} {x : Nat} {M : MR} {bs dl : List Nat} {gl : List Bool} {g d c : Nat} {A : Option Addr} (h : LeftAt w x M bs gl dl g d A c) (hA : ∀ a, A = some a → a.block ≠ g) (u : Nat) (b : Bool) :
    LeftAt (w.setCell ⟨g, u, none⟩ (.bool b)) x M bs (gl.set u b) dl g d A c := by
  have hxd := h.blk.ne_ h.gone (by decide)
  have hgd := h.dart.ne_ h.gone (by decide)
  refine ⟨?_, ?_, ?_, h.dart.far hgd _⟩
  · rw [List.length_set]; exact h.blk.far hxd _
  · rw [set_size]; exact h.rd.far hA _
  · rw [← bvs_set]; exact h.gone.set_ u _

section
variable {w : World} {M : MR} {s : List Nat} {lone r : Nat} {fs ff fb : Bool}
set_option maxRecDepth 100000 in
set_option maxHeartbeats 8000000 in
theorem Order_calls (h : MapAt w M s (r : Int) lone fs ff fb) (hr : r < s.length) (ht : triB s lone = true) :
    Calls Try.prog 9 #[.pointer (some ⟨M.b, 0, none⟩)] w fun e w' =>
      ∃ v G L, e = .returned (.tuple #[v, .int .i64 0]) ∧ Own w' w.heap.size 3 v (nl (nm (sg s) s.length r :: nm (sg s) s.length (ph (sg s) r) :: G.reverse)) ∧ Shl s.length (sg s) r G L ∧ L.length = 2 ∧
        MapAt w' M s (r : Int) lone true true fb ∧ Upd M.set w w' := by
  have hlen := h.ok.len
  obtain ⟨hl0, T⟩ := (tri_iff h.ok.pm h.ok.even).1 ht
  have HC := Lib.hid (Corners_calls h hr ht)
  rw [orb_face T hr] at HC
  obtain ⟨V, hV⟩ : ∃ V, V = cnt (sg s) s.length := ⟨_, rfl⟩
  have hVn : V ≤ 131072 := by have := cnt_le (sg s) s.length; omega
  obtain ⟨c0, hc0⟩ : ∃ c0, c0 = nm (sg s) s.length r := ⟨_, rfl⟩
  obtain ⟨c1, hc1⟩ : ∃ c1, c1 = nm (sg s) s.length (ph (sg s) r) := ⟨_, rfl⟩
  obtain ⟨c2, hc2⟩ : ∃ c2, c2 = nm (sg s) s.length (ph (sg s) (ph (sg s) r)) := ⟨_, rfl⟩
  have hnm : nms s [r, ph (sg s) r, ph (sg s) (ph (sg s) r)] = [c0, c1, c2] := by rw [hc0, hc1, hc2]; rfl
  rw [hnm] at HC
  have HT := Lib.hid T
  have HV := Lib.hid hV
  have H0 := Lib.hid hc0
  have H1 := Lib.hid hc1
  have H2 := Lib.hid hc2
  have hmi := run_make_int V (by omega)
  have hmb := run_make_bool V (by omega)
  clear h T hV hc0 hc1 hc2 hnm
  go_enter Try.func9, Try.ntmps9
  go_wp2_with (go_at_call 20; refine HC.out.mono ?_; rintro e w1 ⟨v, rfl, ho, hm, hu⟩; obtain ⟨g0, k0, rfl, hBg, hg0, h00, h01, h02⟩ := own3 ho; have HM1 := Lib.hid hm; have HU1 := Lib.hid hu; clear ho hm hu)
  have HM1d : Hid (∀ n, MapAt (w1.drewN n) M s (r : Int) lone true true fb) := Lib.hid fun n => HM1.out.drewN n
  have hd00 : w1.drew.cell? ⟨g0, 0, none⟩ = some (.int .i64 (c0 : Int)) := h00
  have hd01 : w1.drew.cell? ⟨g0, 1, none⟩ = some (.int .i64 (c1 : Int)) := h01
  have hd02 : w1.drew.cell? ⟨g0, 2, none⟩ = some (.int .i64 (c2 : Int)) := h02
  go_cut [6] from 18 to 36 (fun s6 wx => ∃ x, s6 = .pointer (some ⟨x, 0, none⟩) ∧ Hid (LeftOwn wx w1.heap.size x M [c0, c2, c1] (List.replicate V false) (List.replicate V 0)) ∧ Hid (Below w1.heap.size w1 wx))
  case first =>
    go_region_held3 (fun w' => w'.cell? ⟨g0, 0, none⟩ = some (.int .i64 (c0 : Int)) ∧ w'.cell? ⟨g0, 1, none⟩ = some (.int .i64 (c1 : Int)) ∧ w'.cell? ⟨g0, 2, none⟩ = some (.int .i64 (c2 : Int)))
      (first
        | exact ⟨hd00, hd01, hd02⟩
        | go_keep)
      (first
        | (go_at_call 26; refine (Vertices_warm (HM1.out.below (by repeat (first | exact Below.refl _ _ | apply ba | apply below_drewN | apply Below.drew)))).mono ?_; rintro e w9 ⟨he, n, rfl⟩; rw [← HV.out, hl0, Nat.add_zero] at he; subst he)
        | (go_at_call 16; refine (Root_calls HM1.out).mono ?_; rintro e w9 ⟨rfl, rfl⟩))
    all_goals (go_wp2_with fail; go_meet)
    all_goals (clear HC HT HV H0 H1 H2 hmi hmb HM1d)
    all_goals
      refine ⟨_, rfl, Lib.hid (left_new (Blk.newAt _ _ (by simp)) ?bb ?gg ?dd (by omega) (by omega) (by omega) (by omega) (by omega)), Lib.hid ?zz⟩
      case bb => repeat (first | exact Blk.newAt _ _ (by simp; done) | apply Blk.alloc | apply Blk.drewN | apply Blk.drew)
      case gg => repeat (first | exact Blk.newAt _ _ (by simp; done) | apply Blk.alloc | apply Blk.drewN | apply Blk.drew)
      case dd => repeat (first | exact Blk.newAt _ _ (by simp; done) | apply Blk.alloc | apply Blk.drewN | apply Blk.drew)
      case zz => repeat (first | exact Below.refl _ _ | apply ba | apply below_drewN | apply Below.drew)
  case rest =>
    obtain ⟨x, rfl, hL, hB⟩ := hcut
    clear hd00 hd01 hd02 hmi hmb
    have HMc := Lib.hid (HM1.out.below hB.out)
    have hcs := hB.out.size
    go_wp2_with (go_at_call 10; refine (Darts_calls HMc.out).mono ?_; rintro e w9 ⟨rfl, rfl⟩)
    go_loopw [39] (fun i wr => ∃ k dl, k ≤ s.length ∧ i = .int .i64 ((k : Nat) : Int) ∧ Hid (LeftOwn wr w1.heap.size x M [c0, c2, c1] (List.replicate V false) dl) ∧ Hid (Below w1.heap.size w1 wr) ∧
      Hid (dl.length = V ∧ ∀ j, j < k → sg dl (nm (sg s) s.length j) < s.length ∧ nm (sg s) s.length (sg dl (nm (sg s) s.length j)) = nm (sg s) s.length j)) (fun i _ => s.length - (intOf i).toNat)
    case atStart => exact ⟨0, List.replicate V 0, Nat.zero_le _, rfl, hL, hB, Lib.hid ⟨by simp, fun j hj => absurd hj (by omega)⟩⟩
    case round =>
      obtain ⟨k, dl, hk, rfl, HLr, HBr, HD⟩ := hrel
      have HMr := Lib.hid (HM1.out.below HBr.out)
      by_cases hlt : k < s.length
      · obtain ⟨g, d, A, c, hla, how, hg, hd, hx, hA⟩ := HLr.out.ex
        obtain ⟨u, hu⟩ : ∃ u, u = nm (sg s) s.length k := ⟨_, rfl⟩
        have huV : u < V := by rw [hu, HV.out]; exact HT.out.pm.nm_lt hlt
        have hdlen := HD.out.1
        have hx3 : wr.cell? ⟨x, 3, none⟩ = some (.slice (some ⟨d, 0, none⟩) V V) := by rw [hla.blk.cell, ← hdlen]; rfl
        have hx3' : wr.drew.cell? ⟨x, 3, none⟩ = some (.slice (some ⟨d, 0, none⟩) V V) := hx3
        have hdu : wr.cell? ⟨d, u, none⟩ = some (.int .i64 ((sg dl u : Nat) : Int)) := by rw [hla.dart.cell, ivs_get _ _ (by rw [nl_length]; omega), nl_getD]
        have hdu' : wr.drew.cell? ⟨d, u, none⟩ = some (.int .i64 ((sg dl u : Nat) : Int)) := hdu
        have hdf : wr.frozen? ⟨d, u, none⟩ = false := hla.dart.frozen _
        have hxd : x ≠ d := hla.blk.ne_ hla.dart (by decide)
        have hx3s : (wr.setCell ⟨d, u, none⟩ (.int .i64 ((k : Nat) : Int))).drew.cell? ⟨x, 3, none⟩ = some (.slice (some ⟨d, 0, none⟩) V V) := by
          show (wr.setCell ⟨d, u, none⟩ (.int .i64 ((k : Nat) : Int))).cell? ⟨x, 3, none⟩ = _
          rw [World.cell?_setCell_other _ _ _ _ (fun e => hxd (by injection e with e; exact e.symm))]
          exact hx3
        have HVx : Hid (Calls Try.prog 11 #[.pointer (some ⟨M.b, 0, none⟩), .int .i64 ((k : Nat) : Int)] wr.drew fun e w' => e = .returned (.int .i64 (u : Int)) ∧ wr.drew = w') := Lib.hid (by
          rw [hu]; exact Vertex_warm HMr.out.drew k hlt)
        have HLA := Lib.hid hla
        have HOW := Lib.hid how
        have HA := Lib.hid hA
        have HU := Lib.hid hu
        clear hla how hA hu
        go_wp2
        go_region_held3 (fun w' => w'.cell? ⟨x, 3, none⟩ = some (.slice (some ⟨d, 0, none⟩) V V))
          (first
            | exact hx3'
            | exact hx3s
            | go_keep)
          (first
            | (go_at_call 11; refine HVx.out.mono ?_; rintro e w9 ⟨rfl, rfl⟩)
            | (go_at_call 16; refine HVx.out.mono ?_; rintro e w9 ⟨rfl, rfl⟩))
        go_wp2
        go_roundw
        case rel =>
          have hS : ∀ t : Nat → Prop, (t d) → Upd t wr ((wr.setCell ⟨d, u, none⟩ (.int .i64 ((k : Nat) : Int))).drew) := fun t ht => ((Upd.refl t wr).setCell (.inl ht) _).drew
          refine ⟨k + 1, dl.set u k, by omega, by go_num, Lib.hid ⟨g, d, A, c, (HLA.out.setDart HA.out u k).below (Below.refl _ _).drew, ?_, hg, hd, hx, HA.out⟩, Lib.hid ?_, Lib.hid ⟨by rw [List.length_set]; exact hdlen, fun j hj => ?_⟩⟩
          · refine Own.drew (HOW.out.far (p := ⟨d, u, none⟩) ?_ _)
            cases A with
            | none => simp [Value.ownBlock]
            | some a => simpa [Value.ownBlock] using HA.out a rfl
          · exact Below.upd_ (S := (· = d)) HBr.out (hS _ rfl) (Nat.le_refl _) (fun k hk => by omega)
          · by_cases e : nm (sg s) s.length j = u
            · rw [e, sg, List.getD_eq_getElem?_getD, List.getElem?_set, if_pos rfl, if_pos (by omega)]
              exact ⟨hlt, HU.out.symm⟩
            · have hjk : j < k := by
                rcases Nat.lt_or_ge j k with h | h
                · exact h
                · obtain rfl : j = k := by omega
                  exact absurd HU.out.symm e
              have := HD.out.2 j hjk
              rw [show sg (dl.set u k) (nm (sg s) s.length j) = sg dl (nm (sg s) s.length j) by
                rw [sg, List.getD_eq_getElem?_getD, List.getElem?_set, if_neg (Ne.symm e), ← List.getD_eq_getElem?_getD]; rfl]
              exact this
        case measure => simp [intOf]; omega
      · obtain rfl : k = s.length := by omega
        have HDr : Hid (Drt s dl) := Lib.hid ⟨by rw [HD.out.1, HV.out], fun u hu => by
          obtain ⟨j, hj, e⟩ := HT.out.pm.exists_nm hu
          have := HD.out.2 j hj.1
          rw [e] at this
          exact this⟩
        clear HD
        have HO0 : Hid (OrdAt wr w1.heap.size x M ([r, ph (sg s) (ph (sg s) r), ph (sg s) r].map (nm (sg s) s.length)) (gls V []) dl (.slice none 0 0) []) := Lib.hid (by
          obtain ⟨g, d, A, c, hla, how, hg, hd, hx, hA⟩ := HLr.out.ex
          have hbs : [r, ph (sg s) (ph (sg s) r), ph (sg s) r].map (nm (sg s) s.length) = [c0, c2, c1] := by
            rw [H0.out, H1.out, H2.out]; rfl
          rw [hbs, gls_nil]
          obtain ⟨b, cc, e, _⟩ := own3 how
          injection e with e1 _ e3
          subst e1 e3
          exact ⟨g, d, b, c, hla, how, Own.nil _ _ _, hg, hd, hx, hA _ rfl, by simp [Value.ownBlock], by simp [Value.ownBlock]⟩)
        have HSh : Hid (Shl s.length (sg s) r [] [r, ph (sg s) (ph (sg s) r), ph (sg s) r]) := Lib.hid .start
        clear HLr HMr HMc hL hB
        go_wp2
        go_loopw [8] (fun o wr => ∃ G L vo, vo = o ∧ Hid (Shl s.length (sg s) r G L) ∧ Hid (OrdAt wr w1.heap.size x M (L.map (nm (sg s) s.length)) (gls V G) dl vo G) ∧ Hid (Below w1.heap.size w1 wr)) (fun o _ => V - slen o)
        case atStart => exact ⟨[], _, _, rfl, HSh, HO0, HBr⟩
        case round =>
          clear HBr HO0 HSh
          obtain ⟨G, L, vo, rfl, HS, HO, HBr⟩ := hrel
          have HMr := Lib.hid (HM1.out.below HBr.out)
          obtain ⟨g, d, b, c, hla, how, hout, hg, hd, hx, hbd, hob, hod⟩ := HO.out.ex
          obtain ⟨n, hn⟩ : ∃ n, n = L.length := ⟨_, rfl⟩
          have hbl : (L.map (nm (sg s) s.length)).length = n := by rw [List.length_map, hn]
          have hx1 : wr.cell? ⟨x, 1, none⟩ = some (.slice (some ⟨b, 0, none⟩) n c) := by rw [hla.blk.cell, ← hbl]; rfl
          by_cases h2 : 2 < n
          · have t2 : ((2 : Int) < (n : Int)) := by omega
            obtain ⟨q, u, ys, L', q0, q1l, huV, hqu, hyl, hS', hmap, hF, hI⟩ := ord_round (root := (r : Int)) (lone := lone) (x := x) (M := M) HT.out HS.out hr HDr.out (by omega : 2 < L.length)
            rw [← HV.out] at hF hI huV
            obtain ⟨q1, hq1⟩ : ∃ q1, q1 = q + 1 := ⟨_, rfl⟩
            obtain ⟨m, hm⟩ : ∃ m, m = G.length + 1 := ⟨_, rfl⟩
            obtain ⟨n', hn'⟩ : ∃ n', n' = L'.length := ⟨_, rfl⟩
            have hnn : n ≤ s.length := by rw [hn]; exact shl_len_le HT.out HS.out hr
            have hGV : m ≤ V := by
              have := (hS'.shd HT.out hr).gone_le
              rw [HV.out, hm]
              simpa using this
            have hqn : q < n := by omega
            have hq1n : q1 < n := by omega
            have hw1 : IntKind.i64.wrap ((q : Int) + 1) = (q1 : Int) := by rw [IntWalk.i64_in _ (by omega)]; omega
            have hw2 : IntKind.i64.wrap ((m : Int) - 1) = ((G.length : Nat) : Int) := by rw [IntWalk.i64_in _ (by omega)]; omega
            have hGm : G.length < m := by omega
            have HF := Lib.hid (hF wr true fb g d c _ HMr.out hla)
            have HI := Lib.hid hI
            have hrep : ∀ (W : World) (v4 : Value) (B4 : Nat), Own W w1.heap.size 3 (.slice (some ⟨b, 0, none⟩) n c) (nl (L.map (nm (sg s) s.length))) → Own W B4 3 v4 (nl ys) → b < B4 →
                Calls Try.prog 28 #[.slice (some ⟨b, 0, none⟩) n c, .int .i64 q, .int .i64 q1, v4] W fun e w' => ∃ b' c', e = .returned (.slice (some ⟨b', 0, none⟩) n' c') ∧
                  Own w' w1.heap.size 3 (.slice (some ⟨b', 0, none⟩) n' c') (nl (L'.map (nm (sg s) s.length))) ∧ Upd (· = b) W w' ∧ (b' = b ∨ b' = W.heap.size) := fun W v4 B4 h1 h2 h3 => by
              have hne : ∀ k, (Value.slice (some ⟨b, 0, none⟩) n c).ownBlock = some k → v4.ownBlock ≠ some k := fun k e1 e2 => by
                have e3 : b = k := by simpa [Value.ownBlock] using e1
                have := h2.ge k e2
                omega
              have hln : (nl (L.map (nm (sg s) s.length))).length = n := by rw [nl_length, hbl]
              refine (Replace_calls h1 h2 hne hq1 (by rw [hln]; exact hq1n) (by rw [hln, nl_length]; omega)).mono ?_
              rintro e w' ⟨v', rfl, ho', hu', hb'⟩
              have hz : (nl (L.map (nm (sg s) s.length))).take q ++ nl ys ++ (nl (L.map (nm (sg s) s.length))).drop q1 = nl (L'.map (nm (sg s) s.length)) := by
                rw [hmap, nl_append, nl_append, hq1]
                simp [nl, List.map_take, List.map_drop]
              rw [hz] at ho'
              have hl' : (nl (L'.map (nm (sg s) s.length))).length = n' := by rw [nl_length, List.length_map, hn']
              obtain ⟨b', c', rfl, _⟩ := ho'.posI (by have := (hS'.shd HT.out hr).two; omega)
              rw [hl'] at ho' ⊢
              refine ⟨b', c', rfl, ho', hu'.imp (fun k _ e => by simpa [Value.ownBlock] using e.symm), ?_⟩
              rcases hb' with e | e
              · left; simpa [Value.ownBlock] using e
              · right; simpa [Value.ownBlock] using e
            have HREP := Lib.hid hrep
            have HQU := Lib.hid hqu
            have HS2 := Lib.hid hS'
            have HMAP := Lib.hid hmap
            have HLA := Lib.hid hla
            have HOW := Lib.hid how
            have HOU := Lib.hid hout
            have hlen2 : G.length < 1099511627776 := by omega
            have HBL := Lib.hid hbl
            have hbs : b < wr.heap.size := by
              obtain ⟨g9, c9, e9, _, h9, _⟩ := how.posI (by rw [nl_length, hbl]; omega)
              injection e9 with e9
              injection e9 with e9
              injection e9 with e9
              omega
            have HGM := Lib.hid hm
            have HN := Lib.hid hn
            have HN' := Lib.hid hn'
            clear hla how hout hF hI hrep hqu hS' hmap hbl hq1 hm hn hn'
            go_wp2_with (first
              | (go_at_call 27
                 refine HF.out.mono ?_
                 rintro e w2 ⟨rfl, hb2⟩
                 have HB2 := Lib.hid hb2
                 have hs2 := hb2.size
                 have HL2 := Lib.hid (HLA.out.below hb2)
                 have HW2 := Lib.hid (HOW.out.below hb2)
                 have HO2 := Lib.hid (HOU.out.below hb2)
                 have hx12 : w2.cell? ⟨x, 1, none⟩ = some (.slice (some ⟨b, 0, none⟩) n c) := by rw [HL2.out.blk.cell, ← HBL.out]; rfl
                 have hbq : w2.cell? ⟨b, q, none⟩ = some (.int .i64 (u : Int)) := by
                   obtain ⟨bb, off, e1, _, e2⟩ := HL2.out.rd.nat (k := q) (by rw [HBL.out]; exact hqn)
                   injection e1 with e1
                   injection e1 with e1 e3
                   subst e1 e3
                   have := e2 q (by rw [HBL.out]; exact hqn)
                   rw [HQU.out, Nat.zero_add] at this
                   exact this
                 clear hb2)
              | (at_builtin; refine app_lies rfl (.tmp 60) (.tmp 68) rfl w1.heap.size _ (nl G) G.length m (nl_length G) HGM.out (u : Int) rfl HO2.out rfl hlen2 ?_ ?_))
            · have := HBr.out.size
              omega
            · intro g' c' w3 ho3 hg3 hb3
              have hu3 : Upd (fun k => vo.ownBlock = some k) w2 w3 := (Upd.refl _ w2).grown hg3 (fun k e => .inl e)
              have hbw2 : b < w2.heap.size := by omega
              have hdw2 := HL2.out.dart.lt
              have hxw2 := HL2.out.blk.lt
              have hty : ∀ k, vo.ownBlock = some k → k ≠ x ∧ k ≠ g := fun k e => by
                rcases HO2.out.2 with ⟨e2, _⟩ | ⟨g9, c9, cs9, e2, _, hh9, _⟩
                · rw [e2] at e; cases e
                · have e3 : g9 = k := by rw [e2] at e; simpa [Value.ownBlock] using e
                  subst e3
                  exact ⟨Blk.ne_ (t := 3) hh9 HL2.out.blk (by decide), Blk.ne_ (t := 3) hh9 HL2.out.gone (by decide)⟩
              have HW2 : Hid (Own w2 w1.heap.size 3 (.slice (some ⟨b, 0, none⟩) n c) (nl (L.map (nm (sg s) s.length)))) := Lib.hid (by have := HW2.out; rw [HBL.out] at this; exact this)
              have hL3 : LeftAt w3 x M (L.map (nm (sg s) s.length)) (gls V G) dl g d (some ⟨b, 0, none⟩) c := HL2.out.upd hu3 (fun e => (hty x e).1 rfl) (fun e => (hty g e).2 rfl) hod hob
              have hW3 : Own w3 w1.heap.size 3 (.slice (some ⟨b, 0, none⟩) n c) (nl (L.map (nm (sg s) s.length))) := HW2.out.updv hu3 (fun k e => by
                have e1 : b = k := by simpa [Value.ownBlock] using e
                rw [← e1]; exact hob)
              have hgb : g' ≠ b := fun e => by
                rcases hb3 with h | h
                · rw [e] at h; exact hob h
                · omega
              have hgd : g' ≠ d := fun e => by
                rcases hb3 with h | h
                · rw [e] at h; exact hod h
                · omega
              have hB3 : Below w1.heap.size w1 w3 := Below.upd_ (HBr.out.trans (HB2.out.mono HBr.out.size)) hu3 (Nat.le_refl _) (fun k hk e => by have := HO2.out.ge k e; omega)
              have hs3 := hu3.size
              have HL3 := Lib.hid hL3
              have HW3 := Lib.hid hW3
              have HO3 : Hid (Own w3 w1.heap.size 3 (.slice (some ⟨g', 0, none⟩) m c') (nl (G ++ [u]))) := Lib.hid (by rw [nl_append]; exact ho3)
              have HB3 := Lib.hid hB3
              have HM3 := Lib.hid (HM1.out.below hB3)
              clear hu3 hty hL3 hW3 hB3 ho3 hg3 hb3 hx12 hbq hx1 HL2 HW2 HO2 HMr HF
              have hx13 : w3.cell? ⟨x, 1, none⟩ = some (.slice (some ⟨b, 0, none⟩) n c) := by rw [HL3.out.blk.cell, ← HBL.out]; rfl
              have hbw3 : b < w3.heap.size := by omega
              have hdw3 := HL3.out.dart.lt
              have hxw3 := HL3.out.blk.lt
              have hgw3 := HL3.out.gone.lt
              obtain ⟨hxb, hgb2⟩ : x ≠ b ∧ g ≠ b := by
                rcases HW3.out.2 with ⟨e2, _⟩ | ⟨g9, c9, cs9, e2, _, hh9, _⟩
                · cases e2
                · have e3 : b = g9 := by injection e2 with e2; injection e2 with e2; injection e2 with e2
                  rw [e3]
                  exact ⟨(Blk.ne_ (t := 3) hh9 HL3.out.blk (by decide)).symm, (Blk.ne_ (t := 3) hh9 HL3.out.gone (by decide)).symm⟩
              obtain ⟨hgx, hgw3'⟩ : g' ≠ x ∧ g' < w3.heap.size := by
                rcases HO3.out.2 with ⟨e2, _⟩ | ⟨g9, c9, cs9, e2, _, hh9, _⟩
                · cases e2
                · have e3 : g' = g9 := by injection e2 with e2; injection e2 with e2; injection e2 with e2
                  rw [e3]
                  exact ⟨Blk.ne_ (t := 3) hh9 HL3.out.blk (by decide), Blk.lt (t := 3) hh9⟩
              have hdb : d ≠ b := hbd.symm
              have hn'0 : 0 < n' := by rw [HN'.out]; have := (HS2.out.shd HT.out hr).two; omega
              have hbB : w1.heap.size ≤ b := HW3.out.ge b rfl
              go_wp2
              go_cut [] from 70 to 83 (fun wx => Hid (OrdAt wx w1.heap.size x M (L'.map (nm (sg s) s.length)) (gls V G) dl (.slice (some ⟨g', 0, none⟩) m c') (G ++ [u])) ∧ Hid (Below w1.heap.size w1 wx))
              case first =>
                have hx13d : w3.drew.cell? ⟨x, 1, none⟩ = some (.slice (some ⟨b, 0, none⟩) n c) := hx13
                have HId := Lib.hid (HI.out w3.drew true fb g d c _ HM3.out.drew (HL3.out.below (Below.refl _ _).drew))
                go_region_with (first
                  | (go_at_call 29
                     refine HId.out.mono ?_
                     rintro e w4 ⟨v4, rfl, ho4, hb4⟩
                     have HO4 := Lib.hid ho4
                     have HB4 := Lib.hid hb4
                     have hx14 := (hb4.cell (p := ⟨x, 1, none⟩) hxw3).trans hx13d
                     have hs4 := hb4.size
                     clear ho4 hb4)
                  | (go_at_call 28
                     refine (HREP.out _ _ _ (HW3.out.drew.below HB4.out) HO4.out hbw3).mono ?_
                     rintro e w5 ⟨b5, c5, rfl, ho5, hu5, hb5⟩
                     have HO5 := Lib.hid ho5
                     have HU5 := Lib.hid hu5
                     have HB5 := Lib.hid hb5
                     have HL5 := Lib.hid ((HL3.out.below ((Below.refl _ _).drew.trans HB4.out)).newBorder hu5 hxb hgb2 hdb ho5 (by rw [List.length_map]; exact HN'.out) hn'0)
                     have hx15 := (hu5.cell (p := ⟨x, 1, none⟩) (Nat.lt_of_lt_of_le hxw3 hs4) hxb).trans hx14
                     have hf15 : w5.frozen? ⟨x, 1, none⟩ = false := ((HL3.out.below ((Below.refl _ _).drew.trans HB4.out)).blk.upd hu5 hxb).frozen _
                     clear ho5 hu5 hb5))
                all_goals
                  go_wp2_with fail
                  go_meet
                  have hlx := HL5.out.1
                  have hbx5 := HL5.out.2
                  have hW5 : Own _ w1.heap.size 3 _ _ := HO5.out.far (p := ⟨x, 1, none⟩) (by simpa [Value.ownBlock] using hbx5) (.slice (some ⟨b5, 0, none⟩) n' c5)
                  have hO5 : Own w5 w1.heap.size 3 (.slice (some ⟨g', 0, none⟩) m c') (nl (G ++ [u])) := (HO3.out.drew.below HB4.out).updv HU5.out (fun k e => by
                    have e1 : g' = k := by simpa [Value.ownBlock] using e
                    rw [← e1]; exact hgb)
                  have hO6 : Own _ w1.heap.size 3 _ _ := hO5.far (p := ⟨x, 1, none⟩) (by simpa [Value.ownBlock] using hgx) (.slice (some ⟨b5, 0, none⟩) n' c5)
                  have hu6 : Upd (fun k => k = b ∨ k = x) w3 (w5.setCell ⟨x, 1, none⟩ (.slice (some ⟨b5, 0, none⟩) n' c5)) := (((Upd.of_below (S := fun k => k = b ∨ k = x) ((Below.refl _ w3).drew.trans HB4.out))).trans (HU5.out.imp (fun _ _ e => .inl e))).setCell (.inl (.inr rfl)) _
                  refine ⟨Lib.hid ⟨g, d, b5, c5, hlx, ?_, hO6, hg, hd, hx, ?_, ?_, ?_⟩, Lib.hid (Below.upd_ HB3.out hu6 (Nat.le_refl _) (fun k hk e => by omega))⟩
                  · rw [List.length_map, ← HN'.out]; exact hW5
                  · rcases HB5.out with e | e
                    · rw [e]; exact hbd
                    · have hs5 : w3.heap.size ≤ w4.heap.size := hs4
                      omega
                  · intro e
                    have e1 : g' = b5 := by simpa [Value.ownBlock] using e
                    have hs5 : w3.heap.size ≤ w4.heap.size := hs4
                    rcases HB5.out with e | e
                    · exact hgb (e1.trans e)
                    · omega
                  · intro e
                    have e1 : g' = d := by simpa [Value.ownBlock] using e
                    exact hgd e1
              case rest =>
                obtain ⟨HO6, HB6⟩ := hcut
                clear HL3 HW3 HO3 HM3 hx13 HREP HI HLA HOW
                obtain ⟨g6, d6, b6, c6, hla6, how6, hout6, hg6, hd6, hx6, hbd6, hob6, hod6⟩ := HO6.out.ex
                have hblk := hla6.blk
                rw [gls_length] at hblk
                have hx2 : wc.cell? ⟨x, 2, none⟩ = some (.slice (some ⟨g6, 0, none⟩) V V) := by rw [hblk.cell]; rfl
                obtain ⟨ub, hub⟩ : ∃ ub, ub = (gls V G).getD u false := ⟨_, rfl⟩
                have hgu : wc.cell? ⟨g6, u, none⟩ = some (.bool ub) := by rw [hla6.gone.cell, bvs_get _ _ (by rw [gls_length]; exact huV), hub]
                have hgf : wc.frozen? ⟨g6, u, none⟩ = false := hla6.gone.frozen _
                have hou : wc.cell? ⟨g', G.length, none⟩ = some (.int .i64 (u : Int)) := by
                  obtain ⟨g9, c9, e9, _, _, h9, _⟩ := hout6.posI (by simp [nl])
                  injection e9 with e9
                  injection e9 with e9
                  injection e9 with e9
                  subst e9
                  rw [h9 G.length (by simp [nl]), nl_getD]
                  simp [sg]
                have hbg6 : b6 ≠ g6 := by
                  rcases how6.2 with ⟨e2, _⟩ | ⟨g9, c9, cs9, e2, _, hh9, _⟩
                  · cases e2
                  · have e3 : b6 = g9 := by injection e2 with e2; injection e2 with e2; injection e2 with e2
                    rw [e3]
                    exact Blk.ne_ (t := 3) hh9 hla6.gone (by decide)
                have hog6 : g' ≠ g6 := by
                  rcases hout6.2 with ⟨e2, _⟩ | ⟨g9, c9, cs9, e2, _, hh9, _⟩
                  · cases e2
                  · have e3 : g' = g9 := by injection e2 with e2; injection e2 with e2; injection e2 with e2
                    rw [e3]
                    exact Blk.ne_ (t := 3) hh9 hla6.gone (by decide)
                have HL6 := Lib.hid hla6
                have HW6 := Lib.hid how6
                have HT6 := Lib.hid hout6
                have hgV : u < V := huV
                clear hla6 how6 hout6 hblk hub HO6
                go_wp2
                go_region
                go_wp2
                go_roundw
                case rel =>
                  have hfin : OrdAt (wc.drew.setCell ⟨g6, u, none⟩ (.bool true)) w1.heap.size x M (L'.map (nm (sg s) s.length)) (gls V (G ++ [u])) dl (.slice (some ⟨g', 0, none⟩) m c') (G ++ [u]) := by
                    have h1 := (HL6.out.below ((Below.refl _ _).drew)).setGone (fun a e => by cases e; exact hbg6) u true
                    rw [gls_set] at h1
                    exact ⟨g6, d6, b6, c6, h1, HW6.out.drew.far (by simpa [Value.ownBlock] using hbg6) _, HT6.out.drew.far (by simpa [Value.ownBlock] using hog6) _, hg6, hd6, hx6, hbd6, hob6, hod6⟩
                  have hbel : Below w1.heap.size w1 (wc.drew.setCell ⟨g6, u, none⟩ (.bool true)) := Below.upd_ (S := (· = g6)) HB6.out.drew (Upd.setCell (S := (· = g6)) (Upd.refl _ _) (.inl rfl) _) (Nat.le_refl _) (fun k hk e => by omega)
                  exact ⟨G ++ [u], L', _, rfl, HS2, Lib.hid hfin, Lib.hid hbel⟩
                case measure =>
                  have e1 := HOU.out.slen
                  rw [nl_length] at e1
                  have e2 := HGM.out
                  have e3 : slen (.slice (some ⟨g', 0, none⟩) m c') = m := rfl
                  rw [e3, e1]
                  omega
          · have t2 : ¬ ((2 : Int) < (n : Int)) := by omega
            have hn2 : n = 2 := by
              have := (HS.out.shd HT.out hr).two
              omega
            have hL2 : L.length = 2 := by omega
            have hGV : G.length ≤ V := by
              have := (HS.out.shd HT.out hr).gone_le
              rw [HV.out]
              exact this
            have h00r : wr.cell? ⟨g0, 0, none⟩ = some (.int .i64 (c0 : Int)) := (HBr.out.cell hg0).trans h00
            have h01r : wr.cell? ⟨g0, 1, none⟩ = some (.int .i64 (c1 : Int)) := (HBr.out.cell hg0).trans h01
            have h00d : wr.drew.cell? ⟨g0, 0, none⟩ = some (.int .i64 (c0 : Int)) := h00r
            have h01d : wr.drew.cell? ⟨g0, 1, none⟩ = some (.int .i64 (c1 : Int)) := h01r
            have HOU := Lib.hid hout
            have HL2 := Lib.hid hL2
            have hbs := HBr.out.size
            have hgr : g0 < wr.heap.size := by omega
            have hu1s := HU1.out.size
            have h0a : ∀ o, (wr.alloc o).drew.cell? ⟨g0, 0, none⟩ = some (.int .i64 (c0 : Int)) ∧ (wr.alloc o).drew.cell? ⟨g0, 1, none⟩ = some (.int .i64 (c1 : Int)) := fun o =>
              ⟨(World.cell?_alloc_past _ _ _ hgr).trans h00r, (World.cell?_alloc_past _ _ _ hgr).trans h01r⟩
            have H0A := Lib.hid h0a
            clear hla how hout hL2 hn2 HO HDr hn h00r h01r h0a
            go_wp2
            go_region_held3 (fun w' => w'.cell? ⟨g0, 0, none⟩ = some (.int .i64 (c0 : Int)) ∧ w'.cell? ⟨g0, 1, none⟩ = some (.int .i64 (c1 : Int)))
              (first
                | exact ⟨h00d, h01d⟩
                | exact H0A.out _
                | exact HS9.out
                | go_keep)
              (first
                | (refine step_app_ints (by rfl) (.tmp 95) (.tmp 102) (by rfl) w1.heap.size _ (nl G) [(c1 : Int), (c0 : Int)] (by rfl) (HOU.out.alloc _).drew wr.heap.size 2 (by rfl) (by omega) (by rfl) (Blk.new wr _ _).drew (by rw [nl_length]; simp; omega) (by simp; omega) ?_
                   intro v9 w9 ho9 hg9
                   have HS9 := Lib.hid (And.intro ((hg9.cell_far ⟨g0, 0, none⟩ (by simp; omega) (fun e => by have := HOU.out.ge g0 e.symm; omega)).trans (H0A.out _).1) ((hg9.cell_far ⟨g0, 1, none⟩ (by simp; omega) (fun e => by have := HOU.out.ge g0 e.symm; omega)).trans (H0A.out _).2))
                   have HO9 := Lib.hid ho9
                   have HG9 := Lib.hid hg9
                   clear ho9 hg9)
                | (go_at_call 16; refine (Root_calls HM1.out).mono ?_; rintro e w9 ⟨rfl, rfl⟩))
            have hb9 : Below w1.heap.size w1 w9 := ((HBr.out.alloc hbs _).drew).grown HG9.out (by simp; omega) HOU.out.ge
            have HB9 := Lib.hid hb9
            have hln : (nl G ++ [(c1 : Int), (c0 : Int)]).length < 1099511627776 := by rw [List.length_append, nl_length]; simp; omega
            have HRV := Lib.hid (Reverse_calls HO9.out hln)
            clear hb9
            go_wp2_with (go_at_call 30; refine HRV.out.mono ?_; rintro e w10 ⟨rfl, ho10, hu10⟩; have HO10 := Lib.hid ho10; have HU10 := Lib.hid hu10; clear ho10 hu10)
            go_ret2
            have hb10 : Below w1.heap.size w1 w10 := Below.upd_ HB9.out HU10.out (Nat.le_refl _) (fun k hk e => by have := HO9.out.ge k e; omega)
            refine ⟨v9, G, L, rfl, ?_, HS.out, HL2.out, HM1.out.below hb10, HU1.out.trans (Upd.of_below hb10)⟩
            have e : (nl G ++ [(c1 : Int), (c0 : Int)]).reverse = nl (nm (sg s) s.length r :: nm (sg s) s.length (ph (sg s) r) :: G.reverse) := by
              rw [← H0.out, ← H1.out]
              simp [nl, List.map_reverse]
            rw [← e]
            exact HO10.out.less hu1s
end
end Go.Proofs.Ythakkchmegnlhaa
