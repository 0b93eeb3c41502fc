/- New blocks, stores, names given up: what abstract memory stands for behind them. -/
import Derived.Test.YtonbocppkanogaaA2
set_option linter.all false
namespace Go.Proofs.Abs
open Go Go.RowKit

section
variable {L L' : Nat} {w w' : World} {cx cx' : Cx} {m : Mem}

theorem BlkRep.ext (h : Ext L w cx w' cx') (hL : L ≤ L') {k : Nat} {B : Blk} (hk : cx'.μ k = cx.μ k) (hb : ∀ b o c, cx.μ k = some (.at b o c) → w'.heap[b]? = w.heap[b]?)
    (r : BlkRep w cx L k B) : BlkRep w' cx' L' k B := by
  cases B with
  | cells cs =>
    obtain ⟨b, o, c, arr, t, e1, e2, e3⟩ := r
    refine ⟨b, o, c, arr, t, hk.trans e1, (hb b o c e1).trans e2, fun j x hx => ?_⟩
    obtain ⟨y, g1, g2⟩ := e3 j x hx
    exact ⟨y, g1, g2.ext h hL⟩
  | arr s n f =>
    obtain ⟨hn, r⟩ := r
    refine ⟨hn, ?_⟩
    rcases r with ⟨r, rn⟩ | ⟨b, o, c, arr, t, e1, e2, e3, e5, e6⟩
    · exact .inl ⟨hk.trans r, rn⟩
    · refine .inr ⟨b, o, c, arr, t, hk.trans e1, (hb b o c e1).trans e2, e3, e5, fun i j x hi hx => ?_⟩
      obtain ⟨y, g1, g2⟩ := e6 i j x hi hx
      exact ⟨y, g1, g2.ext h⟩

def Cx.put (cx : Cx) (k : Nat) (pl : Option Place) : Cx := { cx with μ := fun q => if q = k then pl else cx.μ q }
theorem Cx.put_same (cx : Cx) (k : Nat) (pl : Option Place) : (cx.put k pl).μ k = pl := by simp [Cx.put]
theorem Cx.put_other (cx : Cx) {k q : Nat} (pl : Option Place) (h : q ≠ k) : (cx.put k pl).μ q = cx.μ q := by simp [Cx.put, h]

theorem MemRep.none_from (hm : MemRep w cx m) {k : Nat} (hk : m.length ≤ k) : cx.μ k = none := by
  cases h : cx.μ k with
  | none => rfl
  | some pl => have := hm.lt h; omega

/-- A new block gets the next name. -/
theorem MemRep.ext_push (hm : MemRep w cx m) (ob : Obj) (c : Nat) :
    Ext m.length w cx (w.alloc ob) (cx.put m.length (some (.at w.heap.size 0 c))) := by
  have hnone := hm.none_from (Nat.le_refl _)
  refine ⟨rfl, rfl, rfl, by simp, rfl, fun b hb _ => Below.heap_alloc _ _ _ hb, ?_, ?_, ?_⟩
  · intro k b o c' e
    by_cases hk : k = m.length
    · subst hk
      rw [Cx.put_same] at e
      injection e with e
      injection e with e
      exact .inr (by omega)
    · rw [Cx.put_other _ _ hk] at e
      exact .inl ⟨k, o, c', e⟩
  · intro k pl _ e
    by_cases hk : k = m.length
    · subst hk; rw [hnone] at e; cases e
    · rw [Cx.put_other _ _ hk]; exact .inl e
  · intro k hk e
    rw [Cx.put_other _ _ (by omega)]; exact e

theorem MemRep.push (hm : MemRep w cx m) {ob : Obj} {c : Nat} {B : Blk}
    (hB : BlkRep (w.alloc ob) (cx.put m.length (some (.at w.heap.size 0 c))) (m.length + 1) m.length B) :
    MemRep (w.alloc ob) (cx.put m.length (some (.at w.heap.size 0 c))) (m ++ [some B]) := by
  have hE := hm.ext_push ob c
  have hold : ∀ k b o c', cx.μ k = some (.at b o c') → b < w.heap.size := by
    intro k b o c' e
    obtain ⟨B, hB⟩ := hm.live k _ e
    have h := hm.blk k B hB
    cases B with
    | cells cs =>
      obtain ⟨b', o', c'', arr, t, e1, e2, _⟩ := h
      rw [e] at e1; injection e1 with e1; injection e1 with e1 _ _; subst e1
      exact (Array.getElem?_eq_some_iff.1 e2).1
    | arr s n f =>
      rcases h.2 with ⟨h, _⟩ | ⟨b', o', c'', arr, t, e1, e2, _⟩
      · rw [e] at h; cases h
      · rw [e] at e1; injection e1 with e1; injection e1 with e1 _ _; subst e1
        exact (Array.getElem?_eq_some_iff.1 e2).1
  refine ⟨?_, ?_, ?_, ?_, ?_⟩
  · intro k B' hk
    rw [List.length_append, List.length_singleton]
    rcases Nat.lt_or_ge k m.length with hlt | hge
    · rw [List.getElem?_append_left hlt] at hk
      exact (hm.blk k B' hk).ext hE (Nat.le_succ _) (Cx.put_other _ _ (by omega)) fun b o c' e => Below.heap_alloc _ _ _ (hold k b o c' e)
    · rw [List.getElem?_append_right hge] at hk
      have : k = m.length := by
        have := (List.getElem?_eq_some_iff.1 hk).1
        simp at this
        omega
      subst this
      simp at hk
      subst hk
      exact hB
  · intro k pl e
    by_cases hk : k = m.length
    · subst hk; exact ⟨B, by simp⟩
    · rw [Cx.put_other _ _ hk] at e
      obtain ⟨B', hB'⟩ := hm.live k pl e
      exact ⟨B', by rw [List.getElem?_append_left (List.getElem?_eq_some_iff.1 hB').1]; exact hB'⟩
  · intro k k' b o c1 o' c2 e e'
    by_cases hk : k = m.length <;> by_cases hk' : k' = m.length
    · omega
    · subst hk
      rw [Cx.put_same] at e
      rw [Cx.put_other _ _ hk'] at e'
      injection e with e; injection e with e _ _
      have := hold k' b o' c2 e'
      omega
    · subst hk'
      rw [Cx.put_same] at e'
      rw [Cx.put_other _ _ hk] at e
      injection e' with e'; injection e' with e' _ _
      have := hold k b o c1 e
      omega
    · rw [Cx.put_other _ _ hk] at e
      rw [Cx.put_other _ _ hk'] at e'
      exact hm.inj k k' b o c1 o' c2 e e'
  · intro k b o c1 e hv
    by_cases hk : k = m.length
    · subst hk
      rw [Cx.put_same] at e
      injection e with e; injection e with e _ _
      have := hm.there b hv
      omega
    · rw [Cx.put_other _ _ hk] at e
      exact hm.apart k b o c1 e hv
  · intro b hv
    have := hm.there b hv
    simp; omega

theorem BlkRep.lt {k : Nat} {B : Blk} (h : BlkRep w cx L k B) {b o c : Nat} (e : cx.μ k = some (.at b o c)) : b < w.heap.size := by
  cases B with
  | cells cs =>
    obtain ⟨b', o', c'', arr, t, e1, e2, _⟩ := h
    rw [e] at e1; injection e1 with e1; injection e1 with e1 _ _; subst e1
    exact (Array.getElem?_eq_some_iff.1 e2).1
  | arr s n f =>
    rcases h.2 with ⟨h, _⟩ | ⟨b', o', c'', arr, t, e1, e2, _⟩
    · rw [e] at h; cases h
    · rw [e] at e1; injection e1 with e1; injection e1 with e1 _ _; subst e1
      exact (Array.getElem?_eq_some_iff.1 e2).1

/-- A store into a block of one's own. -/
theorem MemRep.ext_poke (_hm : MemRep w cx m) {k b o c : Nat} (e : cx.μ k = some (.at b o c)) (arr : Array Value) : Ext m.length w cx (w.setRow b arr) cx :=
  ⟨rfl, rfl, rfl, by simp, rfl, fun b' _ hn => setRow_other _ _ _ _ (fun h => by subst h; exact hn k o c e), fun k b o c h => .inl ⟨k, o, c, h⟩, fun _ _ _ h => .inl h, fun _ _ h => h⟩

theorem MemRep.upd (hm : MemRep w cx m) (hE : Ext m.length w cx w' cx) {k : Nat} (hk : k < m.length) {B : Blk} (ho : ∀ q b o c, q ≠ k → cx.μ q = some (.at b o c) → w'.heap[b]? = w.heap[b]?) (hB : BlkRep w' cx m.length k B) :
    MemRep w' cx (m.set k (some B)) := by
  refine ⟨?_, ?_, hm.inj, hm.apart, fun b hv => Nat.lt_of_lt_of_le (hm.there b hv) hE.size⟩
  · intro q B' hq
    rw [List.length_set]
    by_cases hqk : q = k
    · subst hqk
      rw [List.getElem?_set_self hk] at hq
      injection hq with hq
      injection hq with hq
      subst hq
      exact hB
    · rw [List.getElem?_set_ne (Ne.symm hqk)] at hq
      exact (hm.blk q B' hq).ext hE (Nat.le_refl _) rfl fun b' o' c' e' => ho q b' o' c' hqk e'
  · intro q pl e'
    obtain ⟨B', hB'⟩ := hm.live q pl e'
    by_cases hqk : q = k
    · subst hqk
      exact ⟨B, List.getElem?_set_self hk⟩
    · exact ⟨B', by rw [List.getElem?_set_ne (Ne.symm hqk)]; exact hB'⟩

theorem MemRep.poke (hm : MemRep w cx m) {k b o c : Nat} (e : cx.μ k = some (.at b o c)) {arr : Array Value} {B : Blk} (hB : BlkRep (w.setRow b arr) cx m.length k B) :
    MemRep (w.setRow b arr) cx (m.set k (some B)) :=
  hm.upd (hm.ext_poke e arr) (hm.lt e) (fun q b' o' c' hq e' => setRow_other _ _ _ _ fun h => by subst h; exact hq (hm.inj q k _ o' c' o c e' e)) hB

theorem MemRep.reset (hm : MemRep w cx m) {k : Nat} (hk : k < m.length) {B : Blk} (hB : BlkRep w cx m.length k B) : MemRep w cx (m.set k (some B)) :=
  hm.upd (Ext.refl _ _ _) hk (fun _ _ _ _ _ _ => rfl) hB

/-- A draw turns nothing. -/
theorem MemRep.drew (hm : MemRep w cx m) : MemRep w.drew cx m := hm.grown ⟨rfl, rfl, rfl, Nat.le_refl _, fun _ _ => rfl⟩

/-- A name is given up: what it named turns no more. -/
theorem MemRep.ext_drop (_hm : MemRep w cx m) (k : Nat) : Ext m.length w cx w (cx.put k none) := by
  refine ⟨rfl, rfl, rfl, Nat.le_refl _, rfl, fun _ _ _ => rfl, ?_, ?_, ?_⟩
  · intro q b o c e
    by_cases hq : q = k
    · subst hq; rw [Cx.put_same] at e; cases e
    · rw [Cx.put_other _ _ hq] at e; exact .inl ⟨q, o, c, e⟩
  · intro q pl _ e
    by_cases hq : q = k
    · subst hq; rw [Cx.put_same]; exact .inr rfl
    · rw [Cx.put_other _ _ hq]; exact .inl e
  · intro q _ e
    by_cases hq : q = k
    · subst hq; exact Cx.put_same _ _ _
    · rw [Cx.put_other _ _ hq]; exact e

theorem MemRep.drop (hm : MemRep w cx m) (k : Nat) : MemRep w (cx.put k none) (m.set k none) := by
  have hE := hm.ext_drop k
  refine ⟨?_, ?_, ?_, ?_, hm.there⟩
  · intro q B hq
    rw [List.length_set]
    by_cases hqk : q = k
    · subst hqk
      have hlt : q < m.length := by
        have := (List.getElem?_eq_some_iff.1 hq).1
        simpa using this
      rw [List.getElem?_set_self hlt] at hq
      injection hq with hq
      cases hq
    · rw [List.getElem?_set_ne (Ne.symm hqk)] at hq
      exact (hm.blk q B hq).ext hE (Nat.le_refl _) (Cx.put_other _ _ hqk) fun _ _ _ _ => rfl
  · intro q pl e
    by_cases hqk : q = k
    · subst hqk; rw [Cx.put_same] at e; cases e
    · rw [Cx.put_other _ _ hqk] at e
      obtain ⟨B, hB⟩ := hm.live q pl e
      exact ⟨B, by rw [List.getElem?_set_ne (Ne.symm hqk)]; exact hB⟩
  · intro q q' b o c o' c' e e'
    by_cases hq : q = k
    · subst hq; rw [Cx.put_same] at e; cases e
    by_cases hq' : q' = k
    · subst hq'; rw [Cx.put_same] at e'; cases e'
    rw [Cx.put_other _ _ hq] at e
    rw [Cx.put_other _ _ hq'] at e'
    exact hm.inj q q' b o c o' c' e e'
  · intro q b o c e
    by_cases hq : q = k
    · subst hq; rw [Cx.put_same] at e; cases e
    rw [Cx.put_other _ _ hq] at e
    exact hm.apart q b o c e

/-- A block gets another name. -/
theorem MemRep.ext_move (hm : MemRep w cx m) {k : Nat} {pl pl' : Place} (e : cx.μ k = some pl) (hp : ∀ b o c, pl' = .at b o c → ∃ o' c', pl = .at b o' c') :
    Ext m.length w cx w ((cx.put k none).put m.length (some pl')) := by
  have hk := hm.lt e
  refine ⟨rfl, rfl, rfl, Nat.le_refl _, rfl, fun _ _ _ => rfl, ?_, ?_, ?_⟩
  · intro q b o c h
    by_cases hq : q = m.length
    · subst hq
      rw [Cx.put_same] at h
      injection h with h
      obtain ⟨o', c', h'⟩ := hp b o c h
      exact .inl ⟨k, o', c', by rw [e, h']⟩
    · rw [Cx.put_other _ _ hq] at h
      by_cases hqk : q = k
      · subst hqk; rw [Cx.put_same] at h; cases h
      · rw [Cx.put_other _ _ hqk] at h; exact .inl ⟨q, o, c, h⟩
  · intro q p _ h
    have hq : q ≠ m.length := by have := hm.lt h; omega
    rw [Cx.put_other _ _ hq]
    by_cases hqk : q = k
    · subst hqk; rw [Cx.put_same]; exact .inr rfl
    · rw [Cx.put_other _ _ hqk]; exact .inl h
  · intro q hq h
    rw [Cx.put_other _ _ (by omega)]
    by_cases hqk : q = k
    · subst hqk; exact Cx.put_same _ _ _
    · rw [Cx.put_other _ _ hqk]; exact h

theorem MemRep.move (hm : MemRep w cx m) {k : Nat} {pl pl' : Place} (e : cx.μ k = some pl) (hp : ∀ b o c, pl' = .at b o c → ∃ o' c', pl = .at b o' c') {B : Blk}
    (hB : BlkRep w ((cx.put k none).put m.length (some pl')) (m.length + 1) m.length B) :
    MemRep w ((cx.put k none).put m.length (some pl')) (m.set k none ++ [some B]) := by
  have hE := hm.ext_move e hp
  have hk := hm.lt e
  have named : ∀ q b o c, ((cx.put k none).put m.length (some pl')).μ q = some (.at b o c) → (q = m.length ∧ pl' = .at b o c) ∨ (q ≠ m.length ∧ q ≠ k ∧ cx.μ q = some (.at b o c)) := by
    intro q b o c h
    by_cases hq : q = m.length
    · subst hq
      rw [Cx.put_same] at h
      injection h with h
      exact .inl ⟨rfl, h⟩
    · rw [Cx.put_other _ _ hq] at h
      by_cases hqk : q = k
      · subst hqk; rw [Cx.put_same] at h; cases h
      · rw [Cx.put_other _ _ hqk] at h
        exact .inr ⟨hq, hqk, h⟩
  refine ⟨?_, ?_, ?_, ?_, hm.there⟩
  · intro q B' hq
    rw [List.length_append, List.length_set, List.length_singleton]
    rcases Nat.lt_or_ge q m.length with hlt | hge
    · rw [List.getElem?_append_left (by simpa using hlt)] at hq
      by_cases hqk : q = k
      · subst hqk
        rw [List.getElem?_set_self hk] at hq
        injection hq with hq
        cases hq
      · rw [List.getElem?_set_ne (Ne.symm hqk)] at hq
        exact (hm.blk q B' hq).ext hE (Nat.le_succ _) (by rw [Cx.put_other _ _ (by omega), Cx.put_other _ _ hqk]) fun _ _ _ _ => rfl
    · rw [List.getElem?_append_right (by simpa using hge)] at hq
      have : q = m.length := by
        have := (List.getElem?_eq_some_iff.1 hq).1
        simp at this
        omega
      subst this
      simp at hq
      subst hq
      exact hB
  · intro q p h
    by_cases hq : q = m.length
    · subst hq; exact ⟨B, by simp⟩
    · rw [Cx.put_other _ _ hq] at h
      by_cases hqk : q = k
      · subst hqk; rw [Cx.put_same] at h; cases h
      · rw [Cx.put_other _ _ hqk] at h
        obtain ⟨B', hB'⟩ := hm.live q p h
        exact ⟨B', by rw [List.getElem?_append_left (by simpa using (List.getElem?_eq_some_iff.1 hB').1), List.getElem?_set_ne (Ne.symm hqk)]; exact hB'⟩
  · intro q q' b o c o' c' h h'
    rcases named q b o c h with ⟨rfl, h1⟩ | ⟨h1, h2, h3⟩ <;> rcases named q' b o' c' h' with ⟨rfl, g1⟩ | ⟨g1, g2, g3⟩
    · rfl
    · obtain ⟨o'', c'', h''⟩ := hp b o c h1
      exact absurd (hm.inj q' k b o' c' o'' c'' g3 (by rw [e, h''])) g2
    · obtain ⟨o'', c'', h''⟩ := hp b o' c' g1
      exact absurd (hm.inj q k b o c o'' c'' h3 (by rw [e, h''])) h2
    · exact hm.inj q q' b o c o' c' h3 g3
  · intro q b o c h
    rcases named q b o c h with ⟨rfl, h1⟩ | ⟨h1, h2, h3⟩
    · obtain ⟨o'', c'', h''⟩ := hp b o c h1
      exact hm.apart k b o'' c'' (by rw [e, h''])
    · exact hm.apart q b o c h3

theorem heap_alloc_at (w : World) (o : Obj) : (w.alloc o).heap[w.heap.size]? = some o := by
  show (w.heap.push o)[w.heap.size]? = some o
  simp

/-- New cells. -/
theorem MemRep.push_cells (hm : MemRep w cx m) {cs : List AV} {vs : Array Value} {t : TypeId} (hr : ∀ (j : Nat) (x : AV), cs[j]? = some x → ∃ y, vs[j]? = some y ∧ Rep w cx m.length x y) :
    MemRep (w.alloc (.cells vs t)) (cx.put m.length (some (.at w.heap.size 0 0))) (m ++ [some (.cells cs)]) := by
  refine hm.push ⟨w.heap.size, 0, 0, vs, t, Cx.put_same _ _ _, heap_alloc_at _ _, fun j x hx => ?_⟩
  obtain ⟨y, h1, h2⟩ := hr j x hx
  exact ⟨y, by simpa using h1, h2.ext (hm.ext_push _ _) (Nat.le_succ _)⟩

theorem MemRep.push_arr (hm : MemRep w cx m) {s n c : Nat} {f : Nat → List D} {vs : Array Value} {t : TypeId} (hn : n ≤ c) (hb : n ≤ big) (hz : c * s ≤ vs.size)
    (hr : ∀ i j x, i < n → (f i)[j]? = some x → ∃ y, vs[i * s + j]? = some y ∧ DRep w cx.U x y) :
    MemRep (w.alloc (.cells vs t)) (cx.put m.length (some (.at w.heap.size 0 c))) (m ++ [some (.arr s n f)]) := by
  refine hm.push ⟨hb, .inr ⟨w.heap.size, 0, c, vs, t, Cx.put_same _ _ _, heap_alloc_at _ _, hn, by omega, fun i j x hi hx => ?_⟩⟩
  obtain ⟨y, h1, h2⟩ := hr i j x hi hx
  exact ⟨y, by simpa using h1, h2.ext (hm.ext_push _ _)⟩

/-- The pointer to what is new. -/
theorem rep_own_new (w : World) (cx : Cx) (m : Mem) (ob : Obj) (c : Nat) : Rep (w.alloc ob) (cx.put m.length (some (.at w.heap.size 0 c))) (m.length + 1) (.own m.length 0) (.pointer (some ⟨w.heap.size, 0, none⟩)) := by
  refine .own _ _ _ (Nat.lt_succ_self _) rfl fun b o c' e => ?_
  rw [Cx.put_same] at e
  injection e with e
  injection e with e1 e2 _
  subst e1; subst e2
  rfl

theorem rep_row_new (w : World) (cx : Cx) (m : Mem) (ob : Obj) (c s len : Nat) (hl : len ≤ c) : Rep (w.alloc ob) (cx.put m.length (some (.at w.heap.size 0 c))) (m.length + 1) (.row m.length s 0 len) (.slice (some ⟨w.heap.size, 0, none⟩) len c) := by
  refine .row _ _ _ _ _ (Nat.lt_succ_self _) rfl (fun b o c' e => ?_) fun e => ?_
  · rw [Cx.put_same] at e
    injection e with e
    injection e with e1 e2 e3
    subst e1; subst e2; subst e3
    exact ⟨by simp, by omega⟩
  · rw [Cx.put_same] at e; cases e
end
end Go.Proofs.Abs
