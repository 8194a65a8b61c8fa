/- Walks over package euler: Triangulation. -/
import Derived.Test.YthakkchmegnlhaaW12
namespace Go.Proofs.Ythakkchmegnlhaa
open Go.RowKit Pq

open Classical in
/-- Each border has three darts. -/
noncomputable def threeB (s : List Nat) : Bool := decide (∀ d, d < s.length → sg (phiL s) (sg (phiL s) (sg (phiL s) d)) = d ∧ sg (phiL s) d ≠ d)
noncomputable def triB (s : List Nat) (lone : Nat) : Bool :=
  decide (3 ≤ cnt (sg s) s.length + lone) && decide (((cntR (Conn (sg s)) s.length + lone : Nat) : Int) = 1) && decide (genusOf s lone = 0) && simpleB s && threeB s

theorem cntR_zero {R : Nat → Nat → Prop} : cntR R 0 = 0 := rfl
theorem cnt_zero {f : Nat → Nat} : cnt f 0 = 0 := rfl

/-- What Triangulation leaves told. -/
def TriPost (b : Bool) (w w' : World) (M : MR) (s : List Nat) (root : Int) (lone : Nat) (fs ff fb : Bool) : Prop :=
  ∃ fs' ff', MapAt w' M s root lone fs' ff' fb ∧ Upd M.set w w' ∧ (b = true → fs' = true ∧ ff' = true) ∧ (fs = true → fs' = true) ∧ (ff = true → ff' = true)

section
variable {w : World} {M : MR} {s : List Nat} {root : Int} {lone : Nat} {fs ff fb : Bool}
set_option maxRecDepth 100000 in
set_option maxHeartbeats 4000000 in
theorem Tri_calls (h : MapAt w M s root lone fs ff fb) :
    Calls Try.prog 42 #[.pointer (some ⟨M.b, 0, none⟩)] w fun e w' => e = .returned (.bool (triB s lone)) ∧
      TriPost (triB s lone) w w' M s root lone fs ff fb := by
  have HOK := Lib.hid h.ok
  have hlen := h.ok.len
  have H := Lib.hid h
  clear h
  have hnot : ∀ (x : Bool) (w : World), (Op.unary .not (.bool x)).run Try.prog w = .ok (.bool (!x)) w := fun _ _ => rfl
  obtain ⟨V, hV⟩ : ∃ V, V = cnt (sg s) s.length + lone := ⟨_, rfl⟩
  obtain ⟨cb, hcb⟩ : ∃ cb, cb = decide (((cntR (Conn (sg s)) s.length + lone : Nat) : Int) = 1) := ⟨_, rfl⟩
  obtain ⟨gb, hgb⟩ : ∃ gb, gb = decide (genusOf s lone = 0) := ⟨_, rfl⟩
  obtain ⟨sb, hsb⟩ : ∃ sb, sb = simpleB s := ⟨_, rfl⟩
  obtain ⟨tb, htb⟩ : ∃ tb, tb = threeB s := ⟨_, rfl⟩
  obtain ⟨rb, hrb⟩ : ∃ rb, rb = triB s lone := ⟨_, rfl⟩
  have hr : rb = (decide (3 ≤ V) && cb && gb && sb && tb) := by rw [hrb, triB, hV, hcb, hgb, hsb, htb]
  have hn0 : 3 ≤ V → cb = true → 0 < s.length := by
    intro h1 h2
    rcases Nat.eq_zero_or_pos s.length with h | h
    · rw [hcb, h, cntR_zero, decide_eq_true_eq] at h2
      rw [hV, h, cnt_zero] at h1
      omega
    · exact h
  have HV := Lib.hid (Vertices_calls H.out)
  rw [← hV] at HV
  have HC : Hid (∀ (w : World) (fs ff : Bool), MapAt w M s root lone fs ff fb → Calls Try.prog 62 #[.pointer (some ⟨M.b, 0, none⟩)] w fun e w' => e = .returned (.bool cb) ∧ Told w w' M s root lone fs ff fb) :=
    Lib.hid (fun w fs ff h => by rw [hcb]; exact Connected_calls h)
  have HP : Hid (∀ (w : World) (fs ff : Bool), MapAt w M s root lone fs ff fb → Calls Try.prog 63 #[.pointer (some ⟨M.b, 0, none⟩)] w fun e w' => e = .returned (.bool gb) ∧ Told w w' M s root lone fs ff fb) :=
    Lib.hid (fun w fs ff h => by rw [hgb]; exact Planar_calls h)
  have HS : Hid (∀ (w : World) (ff : Bool), MapAt w M s root lone true ff fb → Calls Try.prog 64 #[.pointer (some ⟨M.b, 0, none⟩)] w fun e w' => e = .returned (.bool sb) ∧ Below w.heap.size w w') :=
    Lib.hid (fun w ff h => by rw [hsb]; exact Simple_warm h)
  rw [← hrb]
  have HR := Lib.hid hr
  have HN0 := Lib.hid hn0
  have HTB := Lib.hid htb
  clear hV hcb hgb hsb htb hrb hr hn0
  by_cases h3 : 3 ≤ V
  · have hv3 : decide ((V : Int) < 3) = false := by simp; omega
    cases cb
    · have hrv : rb = false := by rw [HR.out]; simp
      subst hrv
      go_enter Try.func42, Try.ntmps42
      go_wp2_with (first
        | (go_at_call 26; refine HV.out.mono ?_; rintro e w1 ⟨rfl, hm1, hu1, _⟩; have HM1 := Lib.hid hm1; have HU1 := Lib.hid hu1; clear hm1 hu1)
        | (go_at_call 62; refine (HC.out _ _ _ HM1.out).mono ?_; rintro e w2 ⟨rfl, hT⟩; have HT := Lib.hid hT; clear hT))
      go_ret
      obtain ⟨fs', ff', a1, a2, a3, a4, a5⟩ := HT.out
      exact ⟨rfl, fs', ff', a1, HU1.out.trans a2, fun e => (by cases e), fun _ => a4 rfl, a5⟩
    · have hnp := HN0.out h3 rfl
      cases gb
      · have hrv : rb = false := by rw [HR.out]; simp
        subst hrv
        go_enter Try.func42, Try.ntmps42
        go_wp2_with (first
          | (go_at_call 26; refine HV.out.mono ?_; rintro e w1 ⟨rfl, hm1, hu1, _⟩; have HM1 := Lib.hid hm1; have HU1 := Lib.hid hu1; clear hm1 hu1)
          | (go_at_call 62; refine (HC.out _ _ _ HM1.out).mono ?_; rintro e w2 ⟨rfl, hT⟩; obtain ⟨fs2, ff2, a1, a2, a3, a4, a5⟩ := hT; have HM2 := Lib.hid a1; have HU2 := Lib.hid a2; have HF2 := Lib.hid (And.intro (a3 hnp) a5); clear a1 a2 a3 a4 a5)
          | (go_at_call 63; refine (HP.out _ _ _ HM2.out).mono ?_; rintro e w3 ⟨rfl, hT⟩; have HT := Lib.hid hT; clear hT))
        go_ret
        obtain ⟨fs', ff', a1, a2, a3, a4, a5⟩ := HT.out
        exact ⟨rfl, fs', ff', a1, (HU1.out.trans HU2.out).trans a2, fun e => (by cases e), fun _ => (a3 hnp).1, fun _ => (a3 hnp).2⟩
      · cases sb
        · have hrv : rb = false := by rw [HR.out]; simp
          subst hrv
          go_enter Try.func42, Try.ntmps42
          go_wp2_with (first
            | (go_at_call 26; refine HV.out.mono ?_; rintro e w1 ⟨rfl, hm1, hu1, _⟩; have HM1 := Lib.hid hm1; have HU1 := Lib.hid hu1; clear hm1 hu1)
            | (go_at_call 62; refine (HC.out _ _ _ HM1.out).mono ?_; rintro e w2 ⟨rfl, hT⟩; obtain ⟨fs2, ff2, a1, a2, a3, a4, a5⟩ := hT; have HM2 := Lib.hid a1; have HU2 := Lib.hid a2; clear a1 a2 a3 a4 a5)
            | (go_at_call 63; refine (HP.out _ _ _ HM2.out).mono ?_; rintro e w3 ⟨rfl, hT⟩; obtain ⟨fs3, ff3, a1, a2, a3, a4, a5⟩ := hT; obtain ⟨rfl, rfl⟩ := a3 hnp; have HM3 := Lib.hid a1; have HU3 := Lib.hid a2; clear a1 a2 a3 a4 a5)
            | (go_at_call 64; refine (HS.out _ _ HM3.out).mono ?_; rintro e w4 ⟨rfl, hb4⟩; have HB4 := Lib.hid hb4; clear hb4))
          go_ret
          exact ⟨rfl, true, true, HM3.out.below HB4.out, ((HU1.out.trans HU2.out).trans HU3.out).trans (Upd.of_below HB4.out), fun e => (by cases e), fun _ => rfl, fun _ => rfl⟩
        · have hrv : rb = tb := by rw [HR.out]; simp [h3]
          subst hrv
          go_enter Try.func42, Try.ntmps42
          go_wp2_with (first
            | (go_at_call 26; refine HV.out.mono ?_; rintro e w1 ⟨rfl, hm1, hu1, _⟩; have HM1 := Lib.hid hm1; have HU1 := Lib.hid hu1; clear hm1 hu1)
            | (go_at_call 62; refine (HC.out _ _ _ HM1.out).mono ?_; rintro e w2 ⟨rfl, hT⟩; obtain ⟨fs2, ff2, a1, a2, a3, a4, a5⟩ := hT; have HM2 := Lib.hid a1; have HU2 := Lib.hid a2; clear a1 a2 a3 a4 a5)
            | (go_at_call 63; refine (HP.out _ _ _ HM2.out).mono ?_; rintro e w3 ⟨rfl, hT⟩; obtain ⟨fs3, ff3, a1, a2, a3, a4, a5⟩ := hT; obtain ⟨rfl, rfl⟩ := a3 hnp; have HM3 := Lib.hid a1; have HU3 := Lib.hid a2; clear a1 a2 a3 a4 a5)
            | (go_at_call 64; refine (HS.out _ _ HM3.out).mono ?_; rintro e w4 ⟨rfl, hb4⟩; have HM4 := Lib.hid (HM3.out.below hb4); have HU4 := Lib.hid (((HU1.out.trans HU2.out).trans HU3.out).trans (Upd.of_below hb4)); clear hb4)
            | (go_at_call 10; refine (Darts_calls HM4.out).mono ?_; rintro e w5 ⟨rfl, rfl⟩))
          go_loop [25] (fun i => ∃ k : Nat, k ≤ s.length ∧ i = .int .i64 k ∧ ∀ d, d < k → sg (phiL s) (sg (phiL s) (sg (phiL s) d)) = d ∧ sg (phiL s) d ≠ d) (fun i => s.length - (intOf i).toNat)
          case atStart => exact ⟨0, Nat.zero_le _, rfl, fun d hd => absurd hd (by omega)⟩
          case round =>
            obtain ⟨k, hk, rfl, hall⟩ := hrel
            have HA := Lib.hid hall
            clear hall
            have hpl := HOK.out.phi
            rw [phiL_length] at hpl
            by_cases hlt : k < s.length
            · have h1l := hpl.lt k hlt
              have h2l := hpl.lt _ h1l
              have C1 := Lib.hid (Phi_calls HM4.out k hlt)
              have C2 := Lib.hid (Phi_calls HM4.out _ h1l)
              have C3 := Lib.hid (Phi_calls HM4.out _ h2l)
              have HK : Hid ((∀ d, d < k + 1 → sg (phiL s) (sg (phiL s) (sg (phiL s) d)) = d ∧ sg (phiL s) d ≠ d) ↔ (sg (phiL s) (sg (phiL s) (sg (phiL s) k)) = k ∧ sg (phiL s) k ≠ k)) := Lib.hid ⟨fun h => h k (by omega), fun h d hd => by
                rcases Nat.lt_or_ge d k with h1 | h1
                · exact HA.out d h1
                · obtain rfl : d = k := by omega
                  exact h⟩
              have HB : Hid (threeB s = true → sg (phiL s) (sg (phiL s) (sg (phiL s) k)) = k ∧ sg (phiL s) k ≠ k) := Lib.hid (fun h => by rw [threeB, decide_eq_true_eq] at h; exact h k hlt)
              clear hpl
              generalize sg (phiL s) (sg (phiL s) (sg (phiL s) k)) = x3 at C3 HK HB
              generalize sg (phiL s) (sg (phiL s) k) = x2 at C2 C3 h2l
              generalize sg (phiL s) k = x1 at C1 C2 HK HB h1l
              by_cases e3 : x3 = k
              · have t3 : ((x3 : Int) != (k : Int)) = false := by simp [e3]
                by_cases e1 : x1 = k
                · have t1 : ((x1 : Int) == (k : Int)) = true := by simp [e1]
                  have hf : rb = false := by
                    rw [HTB.out]
                    cases ht : threeB s
                    · rfl
                    · exact absurd e1 (HB.out ht).2
                  subst hf
                  clear e3 e1
                  go_wp2_with fail
                  refine C1.out.mono ?_; rintro e w9 ⟨rfl, rfl⟩
                  go_wp2_with fail
                  refine C2.out.mono ?_; rintro e w9 ⟨rfl, rfl⟩
                  go_wp2_with fail
                  refine C3.out.mono ?_; rintro e w9 ⟨rfl, rfl⟩
                  go_wp2_with fail
                  refine C1.out.mono ?_; rintro e w9 ⟨rfl, rfl⟩
                  go_wp2
                  go_ret
                  exact ⟨rfl, true, true, HM4.out, HU4.out, fun e => (by cases e), fun _ => rfl, fun _ => rfl⟩
                · have t1 : ((x1 : Int) == (k : Int)) = false := beq_eq_false_iff_ne.2 (by omega)
                  have hall := HK.out.2 ⟨e3, e1⟩
                  have HAL := Lib.hid hall
                  clear e3 e1 hall
                  go_wp2_with fail
                  refine C1.out.mono ?_; rintro e w9 ⟨rfl, rfl⟩
                  go_wp2_with fail
                  refine C2.out.mono ?_; rintro e w9 ⟨rfl, rfl⟩
                  go_wp2_with fail
                  refine C3.out.mono ?_; rintro e w9 ⟨rfl, rfl⟩
                  go_wp2_with fail
                  refine C1.out.mono ?_; rintro e w9 ⟨rfl, rfl⟩
                  go_wp2
                  go_round
                  case rel => exact ⟨k + 1, by omega, by go_num, HAL.out⟩
                  case measure => simp [intOf]; omega
              · have t3 : ((x3 : Int) != (k : Int)) = true := by rw [bne_iff_ne]; omega
                have hf : rb = false := by
                  rw [HTB.out]
                  cases ht : threeB s
                  · rfl
                  · exact absurd (HB.out ht).1 e3
                subst hf
                clear e3
                go_wp2_with fail
                refine C1.out.mono ?_; rintro e w9 ⟨rfl, rfl⟩
                go_wp2_with fail
                refine C2.out.mono ?_; rintro e w9 ⟨rfl, rfl⟩
                go_wp2_with fail
                refine C3.out.mono ?_; rintro e w9 ⟨rfl, rfl⟩
                go_wp2
                go_ret
                exact ⟨rfl, true, true, HM4.out, HU4.out, fun e => (by cases e), fun _ => rfl, fun _ => rfl⟩
            · obtain rfl : k = s.length := by omega
              have hf : rb = true := by
                rw [HTB.out, threeB, decide_eq_true_eq]
                exact HA.out
              subst hf
              go_wp2
              go_ret
              exact ⟨rfl, true, true, HM4.out, HU4.out, fun _ => ⟨rfl, rfl⟩, fun _ => rfl, fun _ => rfl⟩
  · have hv3 : decide ((V : Int) < 3) = true := by simp; omega
    have hrv : rb = false := by rw [HR.out]; simp [h3]
    subst hrv
    go_enter Try.func42, Try.ntmps42
    go_wp2_with (go_at_call 26; refine HV.out.mono ?_; rintro e w1 ⟨rfl, hm1, hu1, _⟩; have HM1 := Lib.hid hm1; have HU1 := Lib.hid hu1; clear hm1 hu1)
    go_ret
    exact ⟨rfl, true, ff, HM1.out, HU1.out, fun e => (by cases e), fun _ => rfl, fun h => h⟩
end
end Go.Proofs.Ythakkchmegnlhaa
