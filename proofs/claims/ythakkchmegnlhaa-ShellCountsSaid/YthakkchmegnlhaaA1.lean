/- Words for memory: a slice that reads as a list of numbers, blocks that are known whole, worlds that differ in named blocks alone. -/
import Derived.WalkKit
import Derived.WalkSpells
import Derived.WalkLawsBesides
import Derived.Deep.Draws
import Derived.Lib.Hide
namespace Go.Proofs.Ythakkchmegnlhaa
open Go.RowKit

/-- Of the blocks that there were only those of S may have turned. -/
structure Upd (S : Nat → Prop) (w w' : World) : Prop where
  os : w'.os = w.os
  tape : w'.tape = w.tape
  output : w'.output = w.output
  size : w.heap.size ≤ w'.heap.size
  block : ∀ k, k < w.heap.size → ¬ S k → w'.heap[k]? = w.heap[k]?

theorem Upd.refl (S : Nat → Prop) (w : World) : Upd S w w := ⟨rfl, rfl, rfl, Nat.le_refl _, fun _ _ _ => rfl⟩
theorem Upd.trans {S : Nat → Prop} {a b c : World} (h : Upd S a b) (k : Upd S b c) : Upd S a c :=
  ⟨k.os.trans h.os, k.tape.trans h.tape, k.output.trans h.output, Nat.le_trans h.size k.size, fun i hi hs => (k.block i (Nat.lt_of_lt_of_le hi h.size) hs).trans (h.block i hi hs)⟩
theorem Upd.imp {S S' : Nat → Prop} {a b : World} (h : Upd S a b) (hs : ∀ k, k < a.heap.size → S k → S' k) : Upd S' a b :=
  ⟨h.os, h.tape, h.output, h.size, fun k hk hn => h.block k hk (fun e => hn (hs k hk e))⟩
theorem Upd.of_below {S : Nat → Prop} {a b : World} (h : Below a.heap.size a b) : Upd S a b := ⟨h.os, h.tape, h.output, h.size, fun k hk _ => h.block k hk⟩
theorem Upd.below {S : Nat → Prop} {a b : World} {B : Nat} (h : Upd S a b) (hB : B ≤ a.heap.size) (hs : ∀ k, k < B → ¬ S k) : Below B a b :=
  ⟨h.os, h.tape, h.output, h.size, fun k hk => h.block k (by omega) (hs k hk)⟩
theorem Below.upd_ {S : Nat → Prop} {a b c : World} {B : Nat} (h : Below B a b) (k : Upd S b c) (hB : B ≤ a.heap.size) (hs : ∀ k, k < B → ¬ S k) : Below B a c :=
  h.trans (k.below (Nat.le_trans hB h.size) hs)
theorem Upd.drew {S : Nat → Prop} {a w : World} (h : Upd S a w) : Upd S a w.drew := ⟨h.os, h.tape, h.output, h.size, h.block⟩
theorem Upd.drewN {S : Nat → Prop} {a w : World} (h : Upd S a w) (n : Nat) : Upd S a (w.drewN n) := ⟨h.os, h.tape, h.output, h.size, h.block⟩
theorem Upd.alloc {S : Nat → Prop} {a w : World} (h : Upd S a w) (o : Obj) : Upd S a (w.alloc o) :=
  h.trans ⟨rfl, rfl, rfl, by simp, fun k hk _ => Below.heap_alloc _ _ _ hk⟩
theorem Upd.setCell {S : Nat → Prop} {a w : World} (h : Upd S a w) {p : Addr} (hp : S p.block ∨ a.heap.size ≤ p.block) (u : Value) : Upd S a (w.setCell p u) :=
  ⟨h.os, h.tape, h.output, by simpa [World.setCell] using h.size, fun k hk hs => (Below.heap_setCell _ _ _ _ (by
    rintro rfl
    rcases hp with hp | hp
    · exact hs hp
    · omega)).trans (h.block k hk hs)⟩
theorem Upd.grown {S : Nat → Prop} {a w w' : World} {row : Option Nat} (h : Upd S a w) (hg : w.grownBy w' row) (hr : ∀ k, row = some k → S k ∨ a.heap.size ≤ k) : Upd S a w' :=
  ⟨hg.os.trans h.os, hg.tape.trans h.tape, hg.output.trans h.output, Nat.le_trans h.size hg.size, fun k hk hs =>
    (hg.block k (Nat.lt_of_lt_of_le hk h.size) (fun e => by
      rcases hr k e.symm with hp | hp
      · exact hs hp
      · omega)).trans (h.block k hk hs)⟩
theorem Upd.cell {S : Nat → Prop} {w w' : World} (h : Upd S w w') {p : Addr} (hp : p.block < w.heap.size) (hs : ¬ S p.block) : w'.cell? p = w.cell? p := World.cell?_of_block (w := w) (h.block p.block hp hs)
theorem Upd.frozen {S : Nat → Prop} {w w' : World} (h : Upd S w w') {p : Addr} (hp : p.block < w.heap.size) (hs : ¬ S p.block) : w'.frozen? p = w.frozen? p := World.frozen?_of_block (w := w) (h.block p.block hp hs)
theorem below_drewN {B : Nat} {a w : World} (h : Below B a w) (n : Nat) : Below B a (w.drewN n) := ⟨h.os, h.tape, h.output, h.size, h.block⟩

/-- Block g is just the cells cs of element type t; none is frozen. -/
def Blk (w : World) (g : Nat) (t : TypeId) (cs : Array Value) : Prop := w.heap[g]? = some (.cells cs t (0, 0))

section
variable {w w' : World} {g : Nat} {t : TypeId} {cs : Array Value}
theorem Blk.lt (h : Blk w g t cs) : g < w.heap.size := by
  rcases Nat.lt_or_ge g w.heap.size with hlt | hge
  · exact hlt
  · unfold Blk at h; rw [Array.getElem?_eq_none hge] at h; cases h
theorem Blk.cell (h : Blk w g t cs) (i : Nat) : w.cell? ⟨g, i, none⟩ = cs[i]? := cell_of_row w g i cs t (0, 0) h
theorem Blk.frozen (h : Blk w g t cs) (i : Nat) : w.frozen? ⟨g, i, none⟩ = false := by
  unfold Blk at h
  simp [World.frozen?, h]
theorem Blk.new (w : World) (t : TypeId) (cs : Array Value) : Blk (w.alloc (.cells cs t)) w.heap.size t cs := heap_alloc_new w _
theorem Blk.drew (h : Blk w g t cs) : Blk w.drew g t cs := h
theorem Blk.drewN (h : Blk w g t cs) (n : Nat) : Blk (w.drewN n) g t cs := h
theorem Blk.alloc (h : Blk w g t cs) (o : Obj) : Blk (w.alloc o) g t cs := (Below.heap_alloc w o g h.lt).trans h
theorem Blk.set_ (h : Blk w g t cs) (i : Nat) (u : Value) : Blk (w.setCell ⟨g, i, none⟩ u) g t (cs.setIfInBounds i u) := by
  unfold Blk at h ⊢
  simp [World.setCell, Array.getElem?_modify, h]
theorem Blk.far (h : Blk w g t cs) {p : Addr} (hp : g ≠ p.block) (u : Value) : Blk (w.setCell p u) g t cs := (Below.heap_setCell w p u g hp).trans h
theorem Blk.below {B : Nat} (h : Blk w g t cs) (hb : Below B w w') (hg : g < B) : Blk w' g t cs := (hb.block g hg).trans h
theorem Blk.upd {S : Nat → Prop} (h : Blk w g t cs) (hb : Upd S w w') (hg : ¬ S g) : Blk w' g t cs := (hb.block g h.lt hg).trans h
theorem Blk.grown {row : Option Nat} (h : Blk w g t cs) (hb : w.grownBy w' row) (hg : some g ≠ row) : Blk w' g t cs := (hb.block g h.lt hg).trans h
theorem Blk.ne_ {g' : Nat} {t' : TypeId} {cs' : Array Value} (h : Blk w g t cs) (h' : Blk w g' t' cs') (hne : t ≠ t') : g ≠ g' := by
  rintro rfl
  unfold Blk at h h'
  rw [h] at h'
  injection h' with h'
  injection h' with _ ht
  exact hne ht
theorem own_blk_ne {base : Nat} {e : TypeId} {size n : Nat} {v : Value} {xs : List Value} (h : w.ownsRow base e size v n xs) (hg : Blk w g t cs) (hne : e ≠ t) : v.ownBlock ≠ some g := by
  rcases h.2 with ⟨rfl, _⟩ | ⟨g', cap, cur, rfl, _, hh, _⟩
  · simp [Value.ownBlock]
  · intro he
    have : g' = g := by simpa [Value.ownBlock] using he
    subst this
    exact Blk.ne_ (t := e) hh hg hne rfl
end

/-- The slice '.slice A xs.length _' reads as the numbers xs; it lies below block B. -/
def Rd (w : World) (B : Nat) (A : Option Addr) (xs : List Int) : Prop :=
  xs = [] ∨ ∃ b off, A = some ⟨b, off, none⟩ ∧ b < B ∧ ∀ i, i < xs.length → w.cell? ⟨b, off + i, none⟩ = some (.int .i64 (xs.getD i 0))

section
variable {w w' : World} {B B' : Nat} {A : Option Addr} {xs : List Int}
theorem Rd.nil (w : World) (B : Nat) (A : Option Addr) : Rd w B A [] := .inl rfl
theorem Rd.at_ {k : Nat} (h : Rd w B A xs) (hk : k < xs.length) : ∃ b off, A = some ⟨b, off, none⟩ ∧ b < B ∧ ∀ i, i < xs.length → w.cell? ⟨b, off + i, none⟩ = some (.int .i64 (xs.getD i 0)) := by
  rcases h with rfl | h
  · simp at hk
  · exact h
theorem Rd.keep (h : Rd w B A xs) (hk : ∀ p : Addr, p.block < B → w'.cell? p = w.cell? p) : Rd w' B A xs := by
  rcases h with rfl | ⟨b, off, rfl, hb, hc⟩
  · exact .inl rfl
  · exact .inr ⟨b, off, rfl, hb, fun i hi => (hk _ hb).trans (hc i hi)⟩
theorem Rd.more (h : Rd w B A xs) (hB : B ≤ B') : Rd w B' A xs := by
  rcases h with rfl | ⟨b, off, rfl, hb, hc⟩
  · exact .inl rfl
  · exact .inr ⟨b, off, rfl, by omega, hc⟩
theorem Rd.below (h : Rd w B A xs) (hb : Below B w w') : Rd w' B A xs := h.keep fun _ hp => hb.cell hp
theorem Rd.upd {S : Nat → Prop} (h : Rd w B A xs) (hb : Upd S w w') (hB : B ≤ w.heap.size) (hs : ∀ k, k < B → ¬ S k) : Rd w' B A xs := h.keep fun p hp => hb.cell (by omega) (hs _ hp)
/-- A slice of numbers lies in a block of numbers: what turns blocks of other types alone leaves it. -/
theorem Rd.drew (h : Rd w B A xs) : Rd w.drew B A xs := h
theorem Rd.drewN (h : Rd w B A xs) (k : Nat) : Rd (w.drewN k) B A xs := h
theorem Rd.alloc (h : Rd w B A xs) (hB : B ≤ w.heap.size) (o : Obj) : Rd (w.alloc o) B A xs := h.keep fun p hp => World.cell?_alloc_lt w o p (by omega)
theorem Rd.setCell (h : Rd w B A xs) {p : Addr} (hB : B ≤ p.block) (u : Value) : Rd (w.setCell p u) B A xs :=
  h.keep fun q hq => World.cell?_setCell_other w p q u (fun e => by subst e; omega)
theorem Rd.take (h : Rd w B A xs) (k : Nat) : Rd w B A (xs.take k) := by
  rcases h with rfl | ⟨b, off, rfl, hb, hc⟩
  · simp; exact .inl rfl
  · refine .inr ⟨b, off, rfl, hb, fun i hi => ?_⟩
    rw [List.length_take] at hi
    rw [hc i (by omega)]
    simp [List.getD_eq_getElem?_getD, show i < k by omega]
end

/-- The numbers xs as cells. -/
def ivs (xs : List Int) : Array Value := (xs.map (Value.int .i64)).toArray
def bvs (xs : List Bool) : Array Value := (xs.map Value.bool).toArray
theorem ivs_get (xs : List Int) (i : Nat) (h : i < xs.length) : (ivs xs)[i]? = some (.int .i64 (xs.getD i 0)) := by
  simp [ivs, List.getD_eq_getElem?_getD, h]
theorem ivs_set (xs : List Int) (i : Nat) (y : Int) : (ivs xs).setIfInBounds i (.int .i64 y) = ivs (xs.set i y) := by
  simp [ivs, List.map_set]
theorem bvs_get (xs : List Bool) (i : Nat) (h : i < xs.length) : (bvs xs)[i]? = some (.bool (xs.getD i false)) := by
  simp [bvs, List.getD_eq_getElem?_getD, h]
theorem bvs_set (xs : List Bool) (i : Nat) (y : Bool) : (bvs xs).setIfInBounds i (.bool y) = bvs (xs.set i y) := by
  simp [bvs, List.map_set]
theorem ivs_rep (n : Nat) (y : Int) : ivs (List.replicate n y) = Array.replicate n (.int .i64 y) := by simp [ivs]
theorem bvs_rep (n : Nat) (y : Bool) : bvs (List.replicate n y) = Array.replicate n (.bool y) := by simp [bvs]

theorem Blk.rd {w : World} {g : Nat} {t : TypeId} {xs : List Int} (h : Blk w g t (ivs xs)) {B : Nat} (hB : g < B) : Rd w B (some ⟨g, 0, none⟩) xs :=
  .inr ⟨g, 0, rfl, hB, fun i hi => by rw [Nat.zero_add, h.cell, ivs_get xs i hi]⟩

/-- A row of numbers of the call's own. -/
def Own (w : World) (base : Nat) (e : TypeId) (v : Value) (xs : List Int) : Prop := w.ownsRow base e 1 v xs.length (xs.map (Value.int .i64))

section
variable {w w' : World} {base : Nat} {e : TypeId} {v : Value} {xs : List Int}
theorem Own.form (h : Own w base e v xs) : ∃ A c, v = .slice A xs.length c ∧ xs.length ≤ c ∧ c ≤ maxLen ∧ Rd w w.heap.size A xs ∧ (∀ a, A = some a → base ≤ a.block ∧ a.block < w.heap.size ∧ a.off = 0 ∧ a.spot = none) ∧ (A = none → xs = [] ∧ c = 0) := by
  rcases h.2 with ⟨rfl, hn⟩ | ⟨g, cap, cur, rfl, hg, hh, hnc, hcm, hcs, hcur⟩
  · obtain rfl : xs = [] := List.eq_nil_of_length_eq_zero hn
    exact ⟨none, 0, rfl, Nat.le_refl _, Nat.zero_le _, .inl rfl, (fun _ e => by cases e), fun _ => ⟨rfl, rfl⟩⟩
  · refine ⟨_, cap, rfl, hnc, hcm, ?_, ?_, (fun e => by cases e)⟩
    · refine .inr ⟨g, 0, rfl, Blk.lt hh, fun i hi => ?_⟩
      rw [Nat.zero_add, Blk.cell hh]
      have h2 : (cur.toList.take (xs.length * 1))[i]? = (xs.map (Value.int .i64))[i]? := by rw [hcur]
      rw [List.getElem?_take, if_pos (by omega), List.getElem?_map] at h2
      rw [← Array.getElem?_toList, h2]
      simp [List.getD_eq_getElem?_getD, hi]
    · rintro a e
      cases e
      exact ⟨hg, Blk.lt hh, rfl, rfl⟩
theorem Own.upd {S : Nat → Prop} (h : Own w base e v xs) (hu : Upd S w w') (hs : ∀ k, base ≤ k → ¬ S k) : Own w' base e v xs := by
  refine ⟨h.1, ?_⟩
  rcases h.2 with h2 | ⟨g, cap, cur, hv, hg, hh, r⟩
  · exact .inl h2
  · exact .inr ⟨g, cap, cur, hv, hg, (hu.block g (Blk.lt hh) (hs g hg)).trans hh, r⟩
theorem Own.below (h : Own w base e v xs) (hu : Below w.heap.size w w') : Own w' base e v xs := h.upd (S := fun _ => False) (Upd.of_below hu) (fun _ _ h => h)
theorem Own.drew (h : Own w base e v xs) : Own w.drew base e v xs := h
theorem Own.drewN (h : Own w base e v xs) (n : Nat) : Own (w.drewN n) base e v xs := h
theorem Own.alloc (h : Own w base e v xs) (o : Obj) : Own (w.alloc o) base e v xs := h.below ((Below.refl _ _).alloc (Nat.le_refl _) o)
theorem Own.less {base' : Nat} (h : Own w base e v xs) (hb : base' ≤ base) : Own w base' e v xs := by
  refine ⟨h.1, ?_⟩
  rcases h.2 with h2 | ⟨g, cap, cur, hv, hg, r⟩
  · exact .inl h2
  · exact .inr ⟨g, cap, cur, hv, by omega, r⟩
theorem Own.nil (w : World) (base : Nat) (e : TypeId) : Own w base e (.slice none 0 0) [] := ⟨rfl, .inl ⟨rfl, rfl⟩⟩
theorem Own.of_blk {g : Nat} (h : Blk w g e (ivs xs)) (hg : base ≤ g) (hm : xs.length ≤ maxLen) : Own w base e (.slice (some ⟨g, 0, none⟩) xs.length xs.length) xs :=
  ⟨by simp, .inr ⟨g, xs.length, ivs xs, rfl, hg, h, Nat.le_refl _, hm, by simp [ivs], by
    simp only [ivs, Nat.mul_one]
    exact List.take_of_length_le (by simp)⟩⟩
end

theorem ret_int {k : IntKind} {a b : Int} (h : a = b) : Ending.returned (.int k a) = .returned (.int k b) := by rw [h]
theorem ret_bool {a b : Bool} (h : a = b) : Ending.returned (.bool a) = .returned (.bool b) := by rw [h]

end Go.Proofs.Ythakkchmegnlhaa
