/- Walks over package perm: Len, At, Orbit. -/
import Derived.Test.YthakkchmegnlhaaA2
import Derived.Test.YthakkchmegnlhaaM3
namespace Go.Proofs.Ythakkchmegnlhaa
open Go.RowKit Pq

def nl (s : List Nat) : List Int := s.map fun (k : Nat) => (k : Int)
def slen : Value → Nat | .slice _ n _ => n | _ => 0
theorem nl_length (s : List Nat) : (nl s).length = s.length := by simp [nl]
theorem nl_getD (s : List Nat) (i : Nat) : (nl s).getD i 0 = ((sg s i : Nat) : Int) := by
  simp only [nl, sg, List.getD_eq_getElem?_getD, List.getElem?_map]
  cases s[i]? <;> rfl
theorem nl_append (s t : List Nat) : nl (s ++ t) = nl s ++ nl t := by simp [nl]
theorem Own.slen {w : World} {base : Nat} {e : TypeId} {v : Value} {xs : List Int} (h : Own w base e v xs) : slen v = xs.length := by
  obtain ⟨A, c, rfl, _⟩ := h.form
  rfl
theorem Own.ge {w : World} {base : Nat} {e : TypeId} {v : Value} {xs : List Int} (h : Own w base e v xs) : ∀ k, v.ownBlock = some k → base ≤ k := by
  obtain ⟨A, c, rfl, _, _, _, ha, _⟩ := h.form
  intro k hk
  cases A with
  | none => cases hk
  | some a => injection hk with hk; rw [← hk]; exact (ha a rfl).1
theorem Own.formN {w : World} {base : Nat} {e : TypeId} {v : Value} {s : List Nat} (h : Own w base e v (nl s)) :
    ∃ A c, v = .slice A s.length c ∧ s.length ≤ c ∧ c ≤ maxLen ∧ Rd w w.heap.size A (nl s) ∧ ∀ a, A = some a → base ≤ a.block ∧ a.block < w.heap.size ∧ a.off = 0 ∧ a.spot = none := by
  obtain ⟨A, c, h1, h2, h3, h4, h5, _⟩ := h.form
  rw [nl_length] at h1 h2
  exact ⟨A, c, h1, h2, h3, h4, h5⟩
theorem Own.pos {w : World} {base : Nat} {e : TypeId} {v : Value} {s : List Nat} (h : Own w base e v (nl s)) (hp : 0 < s.length) :
    ∃ g c, v = .slice (some ⟨g, 0, none⟩) s.length c ∧ base ≤ g ∧ g < w.heap.size ∧ (∀ i, i < s.length → w.cell? ⟨g, i, none⟩ = some (.int .i64 ((sg s i : Nat) : Int))) ∧ ∀ i, w.frozen? ⟨g, i, none⟩ = false := by
  have h' := h
  rcases h.2 with ⟨_, hn⟩ | ⟨g, cap, cur, rfl, hg, hh, hnc, hcm, hcs, hcur⟩
  · rw [nl_length] at hn; omega
  · obtain ⟨A, c, h1, _, _, hr, _⟩ := h'.formN
    injection h1 with h1
    subst h1
    rw [nl_length]
    refine ⟨g, cap, rfl, hg, Blk.lt hh, fun i hi => ?_, fun i => Blk.frozen hh i⟩
    rcases hr with h0 | ⟨b, off, hA, _, hc⟩
    · rw [← nl_length, h0] at hp; simp at hp
    · injection hA with hA
      injection hA with hb ho
      subst hb; subst ho
      have := hc i (by rw [nl_length]; exact hi)
      rw [Nat.zero_add, nl_getD] at this
      exact this
theorem Own.store {w : World} {base g n c : Nat} {e : TypeId} {xs : List Int} (h : Own w base e (.slice (some ⟨g, 0, none⟩) n c) xs) (j : Nat) (y : Int) :
    Own (w.setCell ⟨g, j, none⟩ (.int .i64 y)) base e (.slice (some ⟨g, 0, none⟩) n c) (xs.set j y) := by
  obtain ⟨A, c', h1, _⟩ := h.form
  injection h1 with _ hn _
  have h2 := World.ownsRow.stored (n := xs.length) (by rw [Own] at h; rw [← hn]; rw [← hn] at h; exact h) j (.int .i64 y)
  unfold Own
  rw [List.length_set, List.map_set, hn]
  exact h2.1
theorem nl_set (s : List Nat) (i y : Nat) : nl (s.set i y) = (nl s).set i (y : Int) := by simp [nl, List.map_set]
theorem Rd.nat {w : World} {B : Nat} {A : Option Addr} {s : List Nat} (h : Rd w B A (nl s)) {k : Nat} (hk : k < s.length) :
    ∃ b off, A = some ⟨b, off, none⟩ ∧ b < B ∧ ∀ i, i < s.length → w.cell? ⟨b, off + i, none⟩ = some (.int .i64 ((sg s i : Nat) : Int)) := by
  obtain ⟨b, off, hA, hb, hc⟩ := h.at_ (k := k) (by rw [nl_length]; exact hk)
  exact ⟨b, off, hA, hb, fun i hi => by rw [hc i (by rw [nl_length]; exact hi), nl_getD]⟩

def orbPre (f : Nat → Nat) (x j : Nat) : List Nat := (List.range j).map fun k => it f k x
theorem orbPre_succ (f : Nat → Nat) (x j : Nat) : orbPre f x (j + 1) = orbPre f x j ++ [it f j x] := by simp [orbPre, List.range_succ]
theorem orbPre_length (f : Nat → Nat) (x j : Nat) : (orbPre f x j).length = j := by simp [orbPre]

set_option maxHeartbeats 400000 in
theorem Len_calls (p n cap : Nat) (A : Option Addr) (w : World) (hc : w.cell? ⟨p, 0, none⟩ = some (.slice A n cap)) :
    Calls Try.prog 31 #[.pointer (some ⟨p, 0, none⟩)] w fun e w' => e = .returned (.int .i64 n) ∧ w = w' := by
  go_enter Try.func31, Try.ntmps31
  go_wp2
  go_ret
  exact ⟨rfl, rfl⟩

set_option maxHeartbeats 400000 in
theorem At_calls (p cap B : Nat) (A : Option Addr) (s : List Nat) (i : Nat) (w : World) (hc : w.cell? ⟨p, 0, none⟩ = some (.slice A s.length cap))
    (hr : Rd w B A (nl s)) (hi : i < s.length) :
    Calls Try.prog 67 #[.pointer (some ⟨p, 0, none⟩), .int .i64 i] w fun e w' => e = .returned (.int .i64 (sg s i)) ∧ w = w' := by
  obtain ⟨b, off, rfl, _, hr⟩ := hr.nat hi
  have hri := hr i hi
  clear hr
  go_enter Try.func67, Try.ntmps67
  go_wp2_with (go_at_call 31; refine (Len_calls p _ cap _ _ hc).mono ?_; rintro e w' ⟨rfl, rfl⟩)
  go_ret
  exact ⟨rfl, rfl⟩

set_option maxHeartbeats 1000000 in
theorem Orbit_calls (p cap B : Nat) (A : Option Addr) (s : List Nat) (i : Nat) (w : World) (hc : w.cell? ⟨p, 0, none⟩ = some (.slice A s.length cap)) (hp : p < w.heap.size)
    (hr : Rd w B A (nl s)) (hB : B ≤ w.heap.size) (hi : i < s.length) (hs : Pm s.length (sg s)) (hn : s.length < 1099511627776) :
    Calls Try.prog 34 #[.pointer (some ⟨p, 0, none⟩), .int .i64 i] w fun e w' =>
      ∃ v, e = .returned v ∧ Own w' w.heap.size 3 v (nl (orb (sg s) i)) ∧ Below w.heap.size w w' := by
  obtain ⟨b, off, rfl, hb, hr⟩ := hr.nat hi
  have hri := hr i hi
  have HS := Lib.hid hs
  have HR := Lib.hid hr
  have hil := hs.lt i hi
  have hri' : ∀ o, (w.alloc o).cell? ⟨b, off + i, none⟩ = some (.int .i64 (sg s i)) := fun o => by rw [World.cell?_alloc_past _ _ _ (by omega)]; exact hri
  have hc' : ∀ o, (w.alloc o).cell? ⟨p, 0, none⟩ = some (.slice (some ⟨b, off, none⟩) s.length cap) := fun o => by rw [World.cell?_alloc_past _ _ _ hp]; exact hc
  have h0 : Own (w.alloc (.cells #[.int .i64 i] 3)) w.heap.size 3 (.slice (some ⟨w.heap.size, 0, none⟩) 1 1) [(i : Int)] := Own.of_blk (Blk.new _ _ _) (Nat.le_refl _) (by simp [maxLen])
  have H0 := Lib.hid h0
  have hd1 : decide ((i : Int) < 0) = false := by simp
  have hd2 : decide (s.length ≤ i) = false := by simp; omega
  clear hr hs h0
  go_enter Try.func34, Try.ntmps34
  go_wp2_with (go_at_call 31; refine (Len_calls p _ cap _ _ hc).mono ?_; rintro e w' ⟨rfl, rfl⟩)
  go_loopw [5, 6] (fun v x wr => ∃ j : Nat, j + 1 ≤ per (sg s) i ∧ Own wr w.heap.size 3 v (nl (orbPre (sg s) i (j + 1))) ∧ x = .int .i64 ((it (sg s) (j + 1) i : Nat) : Int) ∧ Below w.heap.size w wr)
    (fun v _ _ => per (sg s) i - slen v)
  case atStart => exact ⟨0, (HS.out.per_spec hi).1, H0.out, rfl, (Below.refl _ _).alloc (Nat.le_refl _) _⟩
  case round =>
    obtain ⟨j, hj, hown, rfl, hbw⟩ := hrel
    obtain ⟨x, hx⟩ : ∃ x, x = it (sg s) (j + 1) i := ⟨_, rfl⟩
    have hxl : x < s.length := hx ▸ HS.out.it_lt _ i hi
    have hps := HS.out.per_spec hi
    have hpl := HS.out.per_le hi
    have HX := Lib.hid hx
    rw [← hx]
    have HO := Lib.hid hown
    have HP := Lib.hid hps
    have hbsz := hbw.size
    have hcx : ∀ o, (wr.alloc o).cell? ⟨b, off + x, none⟩ = some (.int .i64 (sg s x)) := fun o => by rw [World.cell?_alloc_past _ _ _ (by omega), hbw.cell (by simp; omega)]; exact HR.out x hxl
    have hcp : ∀ o, (wr.alloc o).cell? ⟨p, 0, none⟩ = some (.slice (some ⟨b, off, none⟩) s.length cap) := fun o => by rw [World.cell?_alloc_past _ _ _ (by omega), hbw.cell hp]; exact hc
    clear hx hown hps hri hri' hc'
    have HC := Lib.hid hc
    clear hc
    by_cases hxi : x = i
    · have ht : ((x : Int) != (i : Int)) = false := by simp [hxi]
      have he : j + 1 = per (sg s) i := by
        rcases Nat.lt_or_ge (j + 1) (per (sg s) i) with h | h
        · exact absurd (HX.out.symm.trans hxi) (HP.out.2.2 (j + 1) (by omega) h)
        · omega
      have HE := Lib.hid he
      clear he hxi
      go_wp2
      go_ret
      exact ⟨_, rfl, by rw [orb, ← HE.out]; exact HO.out, hbw⟩
    · have ht : ((x : Int) != (i : Int)) = true := by rw [bne_iff_ne]; omega
      have he : j + 1 < per (sg s) i := by
        rcases Nat.lt_or_ge (j + 1) (per (sg s) i) with h | h
        · exact h
        · exact absurd (by rw [HX.out, show j + 1 = per (sg s) i by omega]; exact HP.out.2.1) hxi
      go_wp2_with (at_builtin; refine app_int rfl (.tmp 34) (.tmp 36) rfl w.heap.size _ _ (x : Int) rfl HO.out rfl ?_ ?_ ?_)
      · rw [nl_length, orbPre_length]; omega
      · omega
      · intro v' w' hown' hg
        have hb2 : Below w.heap.size w w' := hbw.grown hg hbsz HO.out.ge
        have hcx2 : w'.cell? ⟨b, off + x, none⟩ = some (.int .i64 (sg s x)) := by rw [hb2.cell (by simp; omega)]; exact HR.out x hxl
        have hcp2 : w'.cell? ⟨p, 0, none⟩ = some (.slice (some ⟨b, off, none⟩) s.length cap) := by rw [hb2.cell hp]; exact HC.out
        have HO2 := Lib.hid hown'
        have hsl := hown'.slen
        have hsl0 := HO.out.slen
        have HL := Lib.hid hsl
        have HL0 := Lib.hid hsl0
        clear hown' hg hcx hcp hsl hsl0
        go_wp2
        go_roundw
        case rel =>
          refine ⟨j + 1, by omega, ?_, ?_, hb2⟩
          · have h2 := HO2.out
            rw [HX.out] at h2
            rw [orbPre_succ, nl_append]
            exact h2
          · rw [it_succ', ← HX.out]
        case measure =>
          rw [HL.out, HL0.out]
          simp only [nl_length, List.length_append, orbPre_length, List.length_cons, List.length_nil]
          omega

end Go.Proofs.Ythakkchmegnlhaa
