/- Walks over package dart: names of vertices and faces, how many there are. -/
import Derived.Test.YthakkchmegnlhaaW6
namespace Go.Proofs.Ythakkchmegnlhaa
open Go.RowKit Pq

theorem Own.posI {w : World} {base : Nat} {e : TypeId} {v : Value} {xs : List Int} (h : Own w base e v xs) (hp : 0 < xs.length) :
    ∃ g c, v = .slice (some ⟨g, 0, none⟩) xs.length c ∧ base ≤ g ∧ g < w.heap.size ∧ (∀ i, i < xs.length → w.cell? ⟨g, i, none⟩ = some (.int .i64 (xs.getD i 0))) ∧ ∀ i, w.frozen? ⟨g, i, none⟩ = false := by
  have h' := h
  rcases h.2 with ⟨_, hn⟩ | ⟨g, cap, cur, rfl, hg, hh, hnc, hcm, hcs, hcur⟩
  · omega
  · obtain ⟨A, c, h1, _, _, hr, _⟩ := h'.form
    injection h1 with h1
    subst h1
    refine ⟨g, cap, rfl, hg, Blk.lt hh, fun i hi => ?_, fun i => Blk.frozen hh i⟩
    rcases hr with h0 | ⟨b, off, hA, _, hc⟩
    · rw [h0] at hp; simp at hp
    · injection hA with hA
      injection hA with hb ho
      subst hb; subst ho
      have := hc i hi
      rw [Nat.zero_add] at this
      exact this

section
variable {w w' : World} {M : MR} {s : List Nat} {root : Int} {lone : Nat} {fs ff fb : Bool}

theorem Cach.tell {w : World} {s : List Nat} {d : Int} {o z : Value} (h : Cach w s d o z true) : d = 1 ∧ Own w 0 3 o (namesL (sg s) s.length) ∧ Own w 0 3 z (nl (sizesL (sg s) s.length)) := h.2 rfl

theorem once_sigma (h : MapAt w M s root lone fs ff fb) :
    Calls Try.prog 55 #[.pointer (some ⟨M.b, 1, none⟩), .func (.func 56) #[.pointer (some ⟨M.b, 0, none⟩)] #[]] w fun e w' => e = .returned (.tuple #[]) ∧
      MapAt w' M s root lone true ff fb ∧ Upd M.set w w' ∧ (fs = true → w = w') := by
  have hne := h.ne
  have hty := h.types
  have h0 := h
  obtain ⟨ho, hpq, d1, o1, z1, d2, o2, z2, hb, hp, hq, hc, hc'⟩ := h
  cases fs
  · obtain ⟨rfl, rfl, rfl⟩ := hc.1 rfl
    refine (once_tell M.b 0 M.p _ s fb w hb (by rfl) (by omega) ⟨rfl, rfl, rfl, rfl, rfl⟩ hp ho.pm (by have := ho.len; omega)).mono ?_
    rintro e w' ⟨rfl, ofv, szv, h1, h2, h3, h4⟩
    have hu : Upd M.set w w' := h4.imp fun k _ e => .inl e
    refine ⟨rfl, ⟨ho, hpq, 1, ofv, szv, d2, o2, z2, h1, hp.upd h4 (fun e => hne.1 e.symm) ?_, hq.upd h4 (fun e => hne.2.1 e.symm) ?_, ⟨fun e => (by cases e), fun _ => ⟨rfl, h2, h3⟩⟩, hc'.upd h4 ?_⟩, hu, fun e => (by cases e)⟩
    all_goals exact fun k e => hty k (.inl e)
  · obtain ⟨rfl, h2, h3⟩ := hc.tell
    refine (Do_done ⟨M.b, 1, none⟩ _ w (by rw [hb.cell]; rfl)).mono ?_
    rintro e w' ⟨rfl, rfl⟩
    exact ⟨rfl, h0, Upd.refl _ _, fun _ => rfl⟩

theorem once_phi (h : MapAt w M s root lone fs ff fb) :
    Calls Try.prog 55 #[.pointer (some ⟨M.b, 7, none⟩), .func (.func 56) #[.pointer (some ⟨M.b, 6, none⟩)] #[]] w fun e w' => e = .returned (.tuple #[]) ∧
      MapAt w' M s root lone fs true fb ∧ Upd M.set w w' ∧ (ff = true → w = w') := by
  have hne := h.ne
  have hty := h.types
  have h0 := h
  obtain ⟨ho, hpq, d1, o1, z1, d2, o2, z2, hb, hp, hq, hc, hc'⟩ := h
  cases ff
  · obtain ⟨rfl, rfl, rfl⟩ := hc'.1 rfl
    refine (once_tell M.b 6 M.q _ (phiL s) false w hb (by rfl) (by omega) ⟨rfl, rfl, rfl, rfl, rfl⟩ hq ho.phi (by rw [phiL_length]; have := ho.len; omega)).mono ?_
    rintro e w' ⟨rfl, ofv, szv, h1, h2, h3, h4⟩
    have hu : Upd M.set w w' := h4.imp fun k _ e => .inl e
    refine ⟨rfl, ⟨ho, hpq, d1, o1, z1, 1, ofv, szv, h1, hp.upd h4 (fun e => hne.1 e.symm) ?_, hq.upd h4 (fun e => hne.2.1 e.symm) ?_, hc.upd h4 ?_, ⟨fun e => (by cases e), fun _ => ⟨rfl, h2, h3⟩⟩⟩, hu, fun e => (by cases e)⟩
    all_goals exact fun k e => hty k (.inl e)
  · obtain ⟨rfl, h2, h3⟩ := hc'.tell
    refine (Do_done ⟨M.b, 7, none⟩ _ w (by rw [hb.cell]; rfl)).mono ?_
    rintro e w' ⟨rfl, rfl⟩
    exact ⟨rfl, h0, Upd.refl _ _, fun _ => rfl⟩

theorem MapAt.nameS (h : MapAt w M s root lone true ff fb) {d : Nat} (hd : d < s.length) :
    ∃ g c, w.cell? ⟨M.b, 4, none⟩ = some (.slice (some ⟨g, 0, none⟩) s.length c) ∧ w.cell? ⟨g, d, none⟩ = some (.int .i64 (nm (sg s) s.length d)) := by
  obtain ⟨ho, hpq, d1, o1, z1, d2, o2, z2, hb, hp, hq, hc, hc'⟩ := h
  obtain ⟨_, h2, _⟩ := hc.tell
  obtain ⟨g, c, rfl, _, _, h3, _⟩ := h2.posI (by rw [namesL_length]; omega)
  refine ⟨g, c, ?_, ?_⟩
  · rw [hb.cell]; simp [mcells, namesL_length]
  · rw [h3 d (by rw [namesL_length]; exact hd), namesL_getD _ _ _ hd]
theorem MapAt.nameF (h : MapAt w M s root lone fs true fb) {d : Nat} (hd : d < s.length) :
    ∃ g c, w.cell? ⟨M.b, 10, none⟩ = some (.slice (some ⟨g, 0, none⟩) s.length c) ∧ w.cell? ⟨g, d, none⟩ = some (.int .i64 (nm (sg (phiL s)) s.length d)) := by
  obtain ⟨ho, hpq, d1, o1, z1, d2, o2, z2, hb, hp, hq, hc, hc'⟩ := h
  obtain ⟨_, h2, _⟩ := hc'.tell
  rw [phiL_length] at h2
  obtain ⟨g, c, rfl, _, _, h3, _⟩ := h2.posI (by rw [namesL_length]; omega)
  refine ⟨g, c, ?_, ?_⟩
  · rw [hb.cell]; simp [mcells, namesL_length]
  · rw [h3 d (by rw [namesL_length]; exact hd), namesL_getD _ _ _ hd]
theorem MapAt.sizeS (h : MapAt w M s root lone true ff fb) : ∃ A c, w.cell? ⟨M.b, 5, none⟩ = some (.slice A (cnt (sg s) s.length) c) ∧ Rd w w.heap.size A (nl (sizesL (sg s) s.length)) := by
  obtain ⟨ho, hpq, d1, o1, z1, d2, o2, z2, hb, hp, hq, hc, hc'⟩ := h
  obtain ⟨_, _, h2⟩ := hc.tell
  obtain ⟨A, c, rfl, _, _, hr, _⟩ := h2.formN
  exact ⟨A, c, by rw [hb.cell]; simp [mcells, sizesL], hr⟩
theorem MapAt.sizeF (h : MapAt w M s root lone fs true fb) : ∃ A c, w.cell? ⟨M.b, 11, none⟩ = some (.slice A (cnt (sg (phiL s)) s.length) c) := by
  obtain ⟨ho, hpq, d1, o1, z1, d2, o2, z2, hb, hp, hq, hc, hc'⟩ := h
  obtain ⟨_, _, h2⟩ := hc'.tell
  rw [phiL_length] at h2
  obtain ⟨A, c, rfl, _, _, hr, _⟩ := h2.formN
  exact ⟨A, c, by rw [hb.cell]; simp [mcells, sizesL]⟩

theorem nameS_calls (h : MapAt w M s root lone fs ff fb) (d : Nat) (hd : d < s.length) :
    Calls Try.prog 32 #[.pointer (some ⟨M.b, 0, none⟩), .int .i64 d] w fun e w' => e = .returned (.int .i64 (nm (sg s) s.length d)) ∧
      MapAt w' M s root lone true ff fb ∧ Upd M.set w w' ∧ (fs = true → w = w') := by
  have hd1 : decide ((d : Int) < 0) = false := by simp
  have H := Lib.hid h
  clear h
  go_enter Try.func32, Try.ntmps32
  go_wp2_with (go_at_call 55; refine (once_sigma H.out).mono ?_; rintro e w1 ⟨rfl, h1, hR⟩; obtain ⟨g, c, hc4, hce⟩ := h1.nameS hd; have HR := Lib.hid hR; have H1 := Lib.hid h1; clear h1 hR)
  go_ret
  exact ⟨rfl, H1.out, HR.out⟩
theorem nameF_calls (h : MapAt w M s root lone fs ff fb) (d : Nat) (hd : d < s.length) :
    Calls Try.prog 32 #[.pointer (some ⟨M.b, 6, none⟩), .int .i64 d] w fun e w' => e = .returned (.int .i64 (nm (sg (phiL s)) s.length d)) ∧
      MapAt w' M s root lone fs true fb ∧ Upd M.set w w' ∧ (ff = true → w = w') := by
  have hd1 : decide ((d : Int) < 0) = false := by simp
  have H := Lib.hid h
  clear h
  go_enter Try.func32, Try.ntmps32
  go_wp2_with (go_at_call 55; refine (once_phi H.out).mono ?_; rintro e w1 ⟨rfl, h1, hR⟩; obtain ⟨g, c, hc4, hce⟩ := h1.nameF hd; have HR := Lib.hid hR; have H1 := Lib.hid h1; clear h1 hR)
  go_ret
  exact ⟨rfl, H1.out, HR.out⟩

theorem Vertex_calls (h : MapAt w M s root lone fs ff fb) (d : Nat) (hd : d < s.length) :
    Calls Try.prog 11 #[.pointer (some ⟨M.b, 0, none⟩), .int .i64 d] w fun e w' => e = .returned (.int .i64 (nm (sg s) s.length d)) ∧
      MapAt w' M s root lone true ff fb ∧ Upd M.set w w' ∧ (fs = true → w = w') := by
  have H := Lib.hid h
  clear h
  go_enter Try.func11, Try.ntmps11
  go_wp2_with (go_at_call 32; refine (nameS_calls H.out d hd).mono ?_; rintro e w1 ⟨rfl, hR⟩; have HR := Lib.hid hR; clear hR)
  go_ret
  exact ⟨rfl, HR.out⟩
theorem Vertex_warm (h : MapAt w M s root lone true ff fb) (d : Nat) (hd : d < s.length) :
    Calls Try.prog 11 #[.pointer (some ⟨M.b, 0, none⟩), .int .i64 d] w fun e w' => e = .returned (.int .i64 (nm (sg s) s.length d)) ∧ w = w' :=
  (Vertex_calls h d hd).mono fun _ _ ⟨h1, _, _, h2⟩ => ⟨h1, h2 rfl⟩

theorem Face_calls (h : MapAt w M s root lone fs ff fb) (d : Nat) (hd : d < s.length) :
    Calls Try.prog 15 #[.pointer (some ⟨M.b, 0, none⟩), .int .i64 d] w fun e w' => e = .returned (.int .i64 (nm (sg (phiL s)) s.length d)) ∧
      MapAt w' M s root lone fs true fb ∧ Upd M.set w w' ∧ (ff = true → w = w') := by
  have H := Lib.hid h
  clear h
  go_enter Try.func15, Try.ntmps15
  go_wp2_with (go_at_call 32; refine (nameF_calls H.out d hd).mono ?_; rintro e w1 ⟨rfl, hR⟩; have HR := Lib.hid hR; clear hR)
  go_ret
  exact ⟨rfl, HR.out⟩
theorem Face_warm (h : MapAt w M s root lone fs true fb) (d : Nat) (hd : d < s.length) :
    Calls Try.prog 15 #[.pointer (some ⟨M.b, 0, none⟩), .int .i64 d] w fun e w' => e = .returned (.int .i64 (nm (sg (phiL s)) s.length d)) ∧ w = w' :=
  (Face_calls h d hd).mono fun _ _ ⟨h1, _, _, h2⟩ => ⟨h1, h2 rfl⟩

theorem countS_calls (h : MapAt w M s root lone fs ff fb) :
    Calls Try.prog 46 #[.pointer (some ⟨M.b, 0, none⟩)] w fun e w' => e = .returned (.int .i64 (cnt (sg s) s.length)) ∧
      MapAt w' M s root lone true ff fb ∧ Upd M.set w w' ∧ (fs = true → w = w') := by
  have H := Lib.hid h
  clear h
  go_enter Try.func46, Try.ntmps46
  go_wp2_with (go_at_call 55; refine (once_sigma H.out).mono ?_; rintro e w1 ⟨rfl, h1, hR⟩; obtain ⟨A, c, hc5, _⟩ := h1.sizeS; have HR := Lib.hid hR; have H1 := Lib.hid h1; clear h1 hR)
  go_ret
  exact ⟨rfl, H1.out, HR.out⟩
theorem Vertices_calls (h : MapAt w M s root lone fs ff fb) :
    Calls Try.prog 26 #[.pointer (some ⟨M.b, 0, none⟩)] w fun e w' => e = .returned (.int .i64 ((cnt (sg s) s.length + lone : Nat) : Int)) ∧
      MapAt w' M s root lone true ff fb ∧ Upd M.set w w' ∧ (fs = true → ∃ n, w' = w.drewN n) := by
  have hc := cnt_le (sg s) s.length
  have hl := h.ok.len
  have hf := h.ok.few
  have H := Lib.hid h
  clear h
  obtain ⟨_, hc13⟩ := H.out.cr
  have hd13 : w.drew.cell? ⟨M.b, 13, none⟩ = some (.int .i64 lone) := hc13
  go_enter Try.func26, Try.ntmps26
  go_wp2
  go_region_with (go_at_call 46; refine (countS_calls H.out.drew).mono ?_; rintro e w1 ⟨rfl, h1, hR⟩; obtain ⟨_, hc13'⟩ := h1.cr; have HR := Lib.hid hR; have H1 := Lib.hid h1; clear h1 hR)
  all_goals
    go_wp2
    go_ret
    exact ⟨ret_int (by rw [IntWalk.i64_in _ (by omega)]; omega), H1.out, (Upd.refl _ _).drew.trans HR.out.1, fun e => ⟨1, (HR.out.2 e).symm⟩⟩
theorem Vertices_warm (h : MapAt w M s root lone true ff fb) :
    Calls Try.prog 26 #[.pointer (some ⟨M.b, 0, none⟩)] w fun e w' => e = .returned (.int .i64 ((cnt (sg s) s.length + lone : Nat) : Int)) ∧ ∃ n, w' = w.drewN n :=
  (Vertices_calls h).mono fun _ _ ⟨h1, _, _, h2⟩ => ⟨h1, h2 rfl⟩
end
end Go.Proofs.Ythakkchmegnlhaa
