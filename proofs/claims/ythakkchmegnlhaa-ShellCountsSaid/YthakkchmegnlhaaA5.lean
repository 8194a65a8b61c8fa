/- Maps to numbers, by what they answer: look up, store, add to an entry. -/
import Derived.Test.YthakkchmegnlhaaA2
import Derived.Maps.Keyed
import Derived.WideKeyEntry
import Derived.DeepKeys4
namespace Go.Proofs.Ythakkchmegnlhaa
open Go.RowKit
open Go.ChangeMaps (setBlock)

/-- Block b is a map of n entries with keys of type kt that answers f. -/
def IMap (P : Program) (w : World) (b : Nat) (kt : TypeId) (n : Nat) (f : Value → Option Int) : Prop :=
  ∃ es clock, w.heap[b]? = some (.map es clock) ∧ es.size = n ∧ (∀ e ∈ es.toList, ∃ v, e.val = .int .i64 v ∧ f e.key = some v) ∧
    (∀ key, (∀ e ∈ es.toList, e.key ≠ key) → f key = none) ∧ (∀ e ∈ es.toList, ∃ l, keyOf P kt e.key = some l) ∧ (es.toList.map (·.key)).Nodup ∧
    (∀ e ∈ es.toList, e.born < clock) ∧ (es.toList.map (·.born)).Nodup

open Classical in
noncomputable def put (f : Value → Option Int) (k : Value) (y : Int) (x : Value) : Option Int := if x = k then some y else f x
theorem put_same (f : Value → Option Int) (k : Value) (y : Int) : put f k y k = some y := by simp [put]
theorem put_other (f : Value → Option Int) {k x : Value} (y : Int) (h : x ≠ k) : put f k y x = f x := by simp [put, h]

section
variable {P : Program} {w : World} {b n : Nat} {mt kt et : TypeId} {f : Value → Option Int}
theorem IMap.new (P : Program) (w : World) (kt : TypeId) : IMap P (w.alloc (.map #[] 0)) w.heap.size kt 0 (fun _ => none) :=
  ⟨#[], 0, heap_alloc_new w _, rfl, by simp, fun _ _ => rfl, by simp, by simp, by simp, by simp⟩
theorem IMap.lt (h : IMap P w b kt n f) : b < w.heap.size := by
  obtain ⟨es, clock, hb, _⟩ := h
  rcases Nat.lt_or_ge b w.heap.size with hlt | hge
  · exact hlt
  · rw [Array.getElem?_eq_none hge] at hb; cases hb
theorem IMap.upd {w' : World} {S : Nat → Prop} (h : IMap P w b kt n f) (hu : Upd S w w') (hs : ¬ S b) : IMap P w' b kt n f := by
  have hl := h.lt
  obtain ⟨es, clock, hb, r⟩ := h
  exact ⟨es, clock, (hu.block b hl hs).trans hb, r⟩
theorem IMap.below {w' : World} (h : IMap P w b kt n f) (hu : Below w.heap.size w w') : IMap P w' b kt n f := h.upd (S := fun _ => False) (Upd.of_below hu) (fun h => h)

theorem upd_setBlock (w : World) (b : Nat) (o : Obj) : Upd (fun k => k = b) w (setBlock w b o) :=
  ⟨rfl, rfl, rfl, by simp [setBlock], fun k _ hk => by simp [setBlock, show ¬ b = k from fun e => hk e.symm]⟩
theorem setBlock_at {w : World} {b : Nat} {o o' : Obj} (hb : w.heap[b]? = some o) : (setBlock w b o').heap[b]? = some o' := by
  have hl : b < w.heap.size := by
    rcases Nat.lt_or_ge b w.heap.size with hlt | hge
    · exact hlt
    · rw [Array.getElem?_eq_none hge] at hb; cases hb
  simp [setBlock, hl]

theorem IMap.lookup (K : Maps.Keyed P kt) (ht : P.underlying mt = some (.map kt et)) (hz : ∀ u : World, (zeroValue et).run P u = .ok (.int .i64 0) u) (h : IMap P w b kt n f) {key : Value} {kl : Lit} (hk : keyOf P kt key = some kl) :
    (Instr.lookup mt (.map (some b)) key false).run P w = .ok (.int .i64 ((f key).getD 0)) w ∧
      (Instr.lookup mt (.map (some b)) key true).run P w = .ok (.tuple #[.int .i64 ((f key).getD 0), .bool (f key).isSome]) w := by
  obtain ⟨es, clock, hb, hn, hv, hno, hks, hd, hbl, hbd⟩ := h
  rcases K.find w hk es.toList hks with ⟨h1, h2⟩ | ⟨j, e0, h1, h2, h3⟩
  · rw [hno key h2]
    constructor <;> simp [Instr.lookup, run_underlying ht, MapKept.run_getObj_map hb, K.check w _ hk, h1, hz, Result.andThen]
  · obtain ⟨v, hv1, hv2⟩ := hv e0 (List.mem_of_getElem? h2)
    rw [← h3, hv2]
    rw [h3]
    constructor <;> simp [Instr.lookup, run_underlying ht, MapKept.run_getObj_map hb, K.check w _ hk, h1, hv1, Result.andThen]

theorem nodup_push {α β : Type} {l : List α} {g : α → β} {a : α} (h : (l.map g).Nodup) (hn : ∀ x ∈ l, g x ≠ g a) : ((l ++ [a]).map g).Nodup := by
  rw [List.map_append]
  refine List.nodup_append.2 ⟨h, by simp, fun x hx y hy e => ?_⟩
  simp only [List.map_cons, List.map_nil, List.mem_singleton] at hy
  obtain ⟨z, hz, rfl⟩ := List.mem_map.1 hx
  exact hn z hz (e.trans hy)

/-- What stands behind a store under a key that was not there. -/
theorem IMap.pushed {w' : World} {es : Array MapEntry} {clock : Nat} {key : Value} {kl : Lit} {y : Int} (hw : w'.heap[b]? = some (.map (es.push ⟨key, .int .i64 y, clock⟩) (clock + 1))) (hn : es.size = n)
    (hv : ∀ e ∈ es.toList, ∃ v, e.val = .int .i64 v ∧ f e.key = some v) (hno : ∀ key, (∀ e ∈ es.toList, e.key ≠ key) → f key = none) (hks : ∀ e ∈ es.toList, ∃ l, keyOf P kt e.key = some l)
    (hd : (es.toList.map (·.key)).Nodup) (hbl : ∀ e ∈ es.toList, e.born < clock) (hbd : (es.toList.map (·.born)).Nodup) (hk : keyOf P kt key = some kl) (h2 : ∀ e ∈ es.toList, e.key ≠ key) :
    IMap P w' b kt (n + 1) (put f key y) := by
  refine ⟨_, _, hw, by simp [hn], ?_, ?_, ?_, ?_, ?_, ?_⟩
  · intro e he
    simp only [Array.toList_push, List.mem_append, List.mem_singleton] at he
    rcases he with he | rfl
    · obtain ⟨v, h1, h3⟩ := hv e he
      exact ⟨v, h1, by rw [put_other _ _ (h2 e he)]; exact h3⟩
    · exact ⟨y, rfl, put_same _ _ _⟩
  · intro k hk'
    have hne : k ≠ key := fun e => hk' ⟨key, .int .i64 y, clock⟩ (by simp) e.symm
    rw [put_other _ _ hne]
    exact hno k fun e he => hk' e (by simp [he])
  · intro e he
    simp only [Array.toList_push, List.mem_append, List.mem_singleton] at he
    rcases he with he | rfl
    · exact hks e he
    · exact ⟨kl, hk⟩
  · rw [Array.toList_push]
    exact nodup_push hd fun x hx => h2 x hx
  · intro e he
    simp only [Array.toList_push, List.mem_append, List.mem_singleton] at he
    rcases he with he | rfl
    · have := hbl e he; omega
    · simp
  · rw [Array.toList_push]
    exact nodup_push hbd fun x hx => by have := hbl x hx; simp only; omega

/-- What stands behind a store under a key that was there. -/
theorem IMap.turned {w' : World} {es : Array MapEntry} {clock j : Nat} {e0 : MapEntry} {y : Int} (hw : w'.heap[b]? = some (.map (es.modify j fun e => { e with val := .int .i64 y }) clock)) (hn : es.size = n)
    (hv : ∀ e ∈ es.toList, ∃ v, e.val = .int .i64 v ∧ f e.key = some v) (hno : ∀ key, (∀ e ∈ es.toList, e.key ≠ key) → f key = none) (hks : ∀ e ∈ es.toList, ∃ l, keyOf P kt e.key = some l)
    (hd : (es.toList.map (·.key)).Nodup) (hbl : ∀ e ∈ es.toList, e.born < clock) (hbd : (es.toList.map (·.born)).Nodup) (h2 : es.toList[j]? = some e0) :
    IMap P w' b kt n (put f e0.key y) := by
  have hml : (es.modify j fun e => { e with val := .int .i64 y }).toList = es.toList.set j { e0 with val := .int .i64 y } := by
    rw [Array.toList_modify, ChangeMaps.modify_eq_set _ _ _ _ h2]
  have hkeys : (es.toList.set j { e0 with val := .int .i64 y }).map (·.key) = es.toList.map (·.key) := by
    rw [List.map_set]
    exact WideElems.set_self _ _ _ (by rw [List.getElem?_map, h2]; rfl)
  have hborn : (es.toList.set j { e0 with val := .int .i64 y }).map (·.born) = es.toList.map (·.born) := by
    rw [List.map_set]
    exact WideElems.set_self _ _ _ (by rw [List.getElem?_map, h2]; rfl)
  have hmem : ∀ e ∈ es.toList.set j { e0 with val := .int .i64 y }, e = { e0 with val := .int .i64 y } ∨ (e ∈ es.toList ∧ e.key ≠ e0.key) := by
    intro e he
    obtain ⟨i, hi, rfl⟩ := List.getElem_of_mem he
    rw [List.getElem_set]
    by_cases hij : j = i
    · exact .inl (by rw [if_pos hij])
    · rw [if_neg hij]
      have hi' : i < es.toList.length := by simpa using hi
      refine .inr ⟨List.getElem_mem hi', fun e1 => hij ?_⟩
      have hjl : j < es.toList.length := by
        rcases Nat.lt_or_ge j es.toList.length with h | h
        · exact h
        · rw [List.getElem?_eq_none h] at h2; cases h2
      have he0 : es.toList[j] = e0 := by rw [List.getElem?_eq_getElem hjl] at h2; injection h2
      have := (List.getElem_inj (i := j) (j := i) (h₀ := by simpa using hjl) (h₁ := by simpa using hi') hd).1 (by simp only [List.getElem_map]; rw [he0, e1])
      exact this
  refine ⟨_, _, hw, by simp [hn], ?_, ?_, ?_, ?_, ?_, ?_⟩ <;> rw [hml]
  · intro e he
    rcases hmem e he with rfl | ⟨h3, h4⟩
    · exact ⟨y, rfl, put_same _ _ _⟩
    · obtain ⟨v, h5, h6⟩ := hv e h3
      exact ⟨v, h5, by rw [put_other _ _ h4]; exact h6⟩
  · intro k hk'
    have hin : ∀ k', (∃ e ∈ es.toList.set j { e0 with val := .int .i64 y }, e.key = k') ↔ ∃ e ∈ es.toList, e.key = k' := fun k' => by
      rw [← List.mem_map (f := fun e : MapEntry => e.key), ← List.mem_map (f := fun e : MapEntry => e.key), hkeys]
    have h3 : ∀ e ∈ es.toList, e.key ≠ k := fun e he e1 => by
      obtain ⟨e', he', e2⟩ := (hin k).2 ⟨e, he, e1⟩
      exact hk' e' he' e2
    rw [put_other _ _ (fun e => h3 e0 (List.mem_of_getElem? h2) e.symm)]
    exact hno k h3
  · intro e he
    rcases hmem e he with rfl | ⟨h3, _⟩
    · exact hks e0 (List.mem_of_getElem? h2)
    · exact hks e h3
  · rw [hkeys]; exact hd
  · intro e he
    rcases hmem e he with rfl | ⟨h3, _⟩
    · exact hbl e0 (List.mem_of_getElem? h2)
    · exact hbl e h3
  · rw [hborn]; exact hbd

/-- 'm[k] = y'. -/
theorem IMap.store (K : Maps.Keyed P kt) (ht : P.underlying mt = some (.map kt et)) (h : IMap P w b kt n f) {key : Value} {kl : Lit} (hk : keyOf P kt key = some kl) (y : Int) :
    ∃ w', (Instr.mapUpdate mt (.map (some b)) key (.int .i64 y)).run P w = .ok () w' ∧ IMap P w' b kt (if (f key).isSome then n else n + 1) (put f key y) ∧ Upd (fun k => k = b) w w' := by
  obtain ⟨es, clock, hb, hn, hv, hno, hks, hd, hbl, hbd⟩ := h
  rcases K.find w hk es.toList hks with ⟨h1, h2⟩ | ⟨j, e0, h1, h2, h3⟩
  · refine ⟨setBlock w b (.map (es.push ⟨key, .int .i64 y, clock⟩) (clock + 1)), ?_, ?_, upd_setBlock _ _ _⟩
    · simp [Instr.mapUpdate, run_underlying ht, MapKept.run_getObj_map hb, K.check w false hk, h1, MapKept.run_setObj_map _ hb, Result.andThen, setBlock]
    · rw [hno key h2]
      exact IMap.pushed (setBlock_at hb) hn hv hno hks hd hbl hbd hk h2
  · have hj : es[j]? = some e0 := by simpa using h2
    obtain ⟨v, hv1, hv2⟩ := hv e0 (List.mem_of_getElem? h2)
    subst h3
    refine ⟨setBlock w b (.map (es.modify j fun e => { e with val := .int .i64 y }) clock), ?_, ?_, upd_setBlock _ _ _⟩
    · have hsame : (es.modify j fun e => { e with key := e0.key, val := .int .i64 y }) = es.modify j fun e => { e with val := .int .i64 y } := by
        apply Array.ext'
        rw [Array.toList_modify, Array.toList_modify, ChangeMaps.modify_eq_set _ _ _ _ h2, ChangeMaps.modify_eq_set _ _ _ _ h2]
      simp [Instr.mapUpdate, run_underlying ht, MapKept.run_getObj_map hb, K.check w false hk, h1, hj, K.stays w hk, hsame, MapKept.run_setObj_map _ hb, Result.andThen, setBlock]
    · rw [hv2]
      exact IMap.turned (setBlock_at hb) hn hv hno hks hd hbl hbd h2

theorem run_entryStore {W : World} {es : Array MapEntry} {clock st j : Nat} (hb : W.heap[b]? = some (.map es clock)) (hidx : es.findIdx? (fun e => ((e.born : Nat) : Int) == ((st : Nat) : Int)) = some j) (y : Value) :
    (Instr.entryStore mt (.map (some b)) (.int .i64 st) y).run P W = .ok () (setBlock W b (.map (es.modify j fun e => { e with val := y }) clock)) := by
  simp [Instr.entryStore, MapKept.run_getObj_map hb, asInt, asIntOf, hidx, MapKept.run_setObj_map _ hb, Result.andThen, setBlock]

/-- 'm[k] op= ..': the entry is looked for, then its value stored. -/
theorem IMap.entry (K : Maps.Keyed P kt) (ht : P.underlying mt = some (.map kt et)) (hz : ∀ u : World, (zeroValue et).run P u = .ok (.int .i64 0) u) (h : IMap P w b kt n f) {key : Value} {kl : Lit} (hk : keyOf P kt key = some kl) :
    ∃ (st : Nat) (w1 : World), (Instr.mapEntry mt (.map (some b)) key).run P w = .ok (.tuple #[.int .i64 ((f key).getD 0), .int .i64 st]) w1 ∧
      (Instr.lookup mt (.map (some b)) key false).run P w1 = .ok (.int .i64 ((f key).getD 0)) w1 ∧ Upd (fun k => k = b) w w1 ∧
      ∀ y : Int, ∃ w2, (Instr.entryStore mt (.map (some b)) (.int .i64 st) (.int .i64 y)).run P w1 = .ok () w2 ∧ IMap P w2 b kt (if (f key).isSome then n else n + 1) (put f key y) ∧ Upd (fun k => k = b) w w2 := by
  have h0 := h
  obtain ⟨es, clock, hb, hn, hv, hno, hks, hd, hbl, hbd⟩ := h
  rcases K.find w hk es.toList hks with ⟨h1, h2⟩ | ⟨j, e0, h1, h2, h3⟩
  · have hb1 : (setBlock w b (.map (es.push ⟨key, .int .i64 0, clock⟩) (clock + 1))).heap[b]? = some (.map (es.push ⟨key, .int .i64 0, clock⟩) (clock + 1)) := setBlock_at hb
    have hm1 := IMap.pushed (P := P) (kt := kt) (y := 0) hb1 hn hv hno hks hd hbl hbd hk h2
    refine ⟨clock, _, ?_, ?_, upd_setBlock w b (.map (es.push ⟨key, .int .i64 0, clock⟩) (clock + 1)), fun y => ?_⟩
    · rw [hno key h2]
      simp [Instr.mapEntry, run_underlying ht, MapKept.run_getObj_map hb, K.check w false hk, h1, hz, MapKept.run_setObj_map _ hb, Result.andThen, setBlock, goInt]
    · rw [(hm1.lookup K ht hz hk).1, put_same, hno key h2]
      rfl
    · have hidx : (es.push ⟨key, .int .i64 0, clock⟩).findIdx? (fun e => ((e.born : Nat) : Int) == ((clock : Nat) : Int)) = some es.size := by
        rw [WideElems.findIdx_arr]
        have := WideElems.findIdx_born (l := (es.push ⟨key, .int .i64 0, clock⟩).toList) (j := es.size) (e0 := ⟨key, .int .i64 0, clock⟩) (by
          rw [Array.toList_push]
          exact nodup_push hbd fun x hx => by have := hbl x hx; simp only; omega) (by simp)
        exact this
      have hmod : (es.push ⟨key, .int .i64 0, clock⟩).modify es.size (fun e => { e with val := .int .i64 y }) = es.push ⟨key, .int .i64 y, clock⟩ := by
        apply Array.ext'
        rw [Array.toList_modify, Array.toList_push, Array.toList_push, ← Array.length_toList, WideElems.modify_last]
      refine ⟨setBlock (setBlock w b (.map (es.push ⟨key, .int .i64 0, clock⟩) (clock + 1))) b (.map (es.push ⟨key, .int .i64 y, clock⟩) (clock + 1)), ?_, ?_, (upd_setBlock _ _ _).trans (upd_setBlock _ _ _)⟩
      · rw [run_entryStore hb1 hidx, hmod]
      · rw [hno key h2]
        exact IMap.pushed (setBlock_at hb1) hn hv hno hks hd hbl hbd hk h2
  · have hj : es[j]? = some e0 := by simpa using h2
    obtain ⟨v, hv1, hv2⟩ := hv e0 (List.mem_of_getElem? h2)
    subst h3
    have hsame : es.modify j (fun e => { e with key := e0.key }) = es := by
      apply Array.ext'
      rw [Array.toList_modify, ChangeMaps.modify_eq_set _ _ _ _ h2]
      exact WideElems.set_self _ _ _ h2
    have hb1 : (setBlock w b (.map es clock)).heap[b]? = some (.map es clock) := setBlock_at hb
    have hm1 : IMap P (setBlock w b (.map es clock)) b kt n f := ⟨es, clock, hb1, hn, hv, hno, hks, hd, hbl, hbd⟩
    refine ⟨e0.born, setBlock w b (.map es clock), ?_, (hm1.lookup K ht hz hk).1, upd_setBlock _ _ _, fun y => ?_⟩
    · rw [hv2]
      simp [Instr.mapEntry, run_underlying ht, MapKept.run_getObj_map hb, K.check w false hk, h1, hj, hv1, K.stays w hk, hsame, MapKept.run_setObj_map _ hb, Result.andThen, setBlock, goInt]
    · have hidx : es.findIdx? (fun e => ((e.born : Nat) : Int) == ((e0.born : Nat) : Int)) = some j := by
        rw [WideElems.findIdx_arr]
        exact WideElems.findIdx_born hbd h2
      refine ⟨setBlock (setBlock w b (.map es clock)) b (.map (es.modify j fun e => { e with val := .int .i64 y }) clock), ?_, ?_, (upd_setBlock _ _ _).trans (upd_setBlock _ _ _)⟩
      · rw [run_entryStore hb1 hidx]
      · rw [hv2]
        exact IMap.turned (setBlock_at hb1) hn hv hno hks hd hbl hbd h2
end
end Go.Proofs.Ythakkchmegnlhaa
