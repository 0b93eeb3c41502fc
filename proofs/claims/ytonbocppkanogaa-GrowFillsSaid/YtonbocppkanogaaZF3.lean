/- Plain facts: a node that is laid. -/
import Derived.Test.YtonbocppkanogaaZF2
set_option linter.all false
namespace Go.Proofs.Abs

theorem countP_map' {α β : Type} (f : α → β) (p : β → Bool) (l : List α) : (l.map f).countP p = l.countP fun x => p (f x) := by
  rw [List.countP_map]; rfl
theorem free_congr {c c' : List Cell} (hl : c'.length = c.length) (h : ∀ i, i < c.length → isFree (nth c' i) = isFree (nth c i)) : free c' = free c := by
  have e : c'.map isFree = c.map isFree := by
    refine List.ext_getElem (by simp [hl]) fun i h1 h2 => ?_
    simp only [List.length_map] at h1 h2
    have := h i h2
    rw [nth_eq h1, nth_eq h2] at this
    simpa using this
  unfold free
  have h1 := countP_map' isFree id c
  have h2 := countP_map' isFree id c'
  simp only [id] at h1 h2
  rw [← h1, ← h2, e]

/-- By how much a cell's Ref grows where a node is laid. -/
def addRef (held : List Int) (it : List Item) (q : Int) : Nat := if inB held q then 0 else vc it q
theorem addRef_nil (held : List Int) (q : Int) : addRef held [] q = 0 := by unfold addRef vc; split <;> simp
theorem addRef_cons (held : List Int) (x : Item) (it : List Item) (q : Int) : addRef held (x :: it) q = addRef held it q + if inB held q then 0 else if x.v = q then 1 else 0 := by
  unfold addRef vc
  split
  · rfl
  · rw [List.countP_cons]
    congr 1
    by_cases e : x.v = q <;> simp [e]

theorem more_nth {c : List Cell} {p : Int} (h0 : 0 ≤ p) (h1 : p < c.length) (i : Nat) : nth (more c p) i = ⟨(nth c i).ref + (if p = (i : Int) then 1 else 0), (nth c i).pin, (nth c i).n⟩ := by
  unfold more
  rw [nth_set _ _ _ _ (by omega)]
  split
  · rename_i e; subst e; rw [if_pos (by omega)]
  · rw [if_neg (by omega)]; simp

theorem fold_nth (held : List Int) : ∀ (it : List Item) (c : List Cell), (∀ x ∈ it, 0 ≤ x.v ∧ x.v < c.length) → ∀ i, nth (it.foldl (heldMore held) c) i = ⟨(nth c i).ref + addRef held it (i : Int), (nth c i).pin, (nth c i).n⟩
  | [], c, _, i => by simp [addRef_nil]
  | x :: it, c, h, i => by
    have hx := h x List.mem_cons_self
    rw [List.foldl_cons, fold_nth held it (heldMore held c x) (fun y hy => by rw [heldMore_length]; exact h y (List.mem_cons_of_mem _ hy)) i, addRef_cons]
    unfold heldMore
    by_cases hb : inB held x.v = true
    · rw [if_pos hb]
      have : (if inB held (i : Int) then 0 else if x.v = (i : Int) then 1 else 0 : Nat) = 0 := by
        split
        · rfl
        · rw [if_neg]
          rintro e
          rw [e] at hb
          exact absurd hb (by assumption)
      rw [this, Nat.add_zero]
    · rw [if_neg hb, more_nth hx.1 hx.2]
      have : (if inB held (i : Int) then 0 else if x.v = (i : Int) then 1 else 0 : Nat) = if x.v = (i : Int) then 1 else 0 := by
        by_cases e : x.v = (i : Int)
        · rw [← e, if_neg hb]
        · rw [if_neg e]; split <;> rfl
      rw [this]
      simp only [Cell.mk.injEq, and_true]
      split <;> simp <;> omega

/-- What a heap is once a node is laid. -/
structure Laid (c c' : List Cell) (p : Nat) (leaf : Bool) (it : List Item) (R : List Int) : Prop where
  ok : HeapOK c'
  cnt : Cnt c' ((p : Int) :: R)
  len : c'.length = c.length
  lt : p < c.length
  new : used c (p : Int) = false
  node : nodeOf c' (p : Int) = ⟨leaf, it⟩
  is : used c' (p : Int) = true
  old : ∀ q, used c q = true → used c' q = true ∧ nodeOf c' q = nodeOf c q
  back : ∀ q, used c' q = true → q = (p : Int) ∨ used c q = true
  free : free c' + 1 = free c

theorem alloc_laid {c : List Cell} {leaf : Bool} {it : List Item} {held A R : List Int} (h : HeapOK c) (hc : Cnt c (A ++ R)) (hA : ∀ q, rc A q = if leaf = true then 0 else if inB held q then vc it q else 0) (hr : rightNode it = true)
    (hl : leads c leaf it = true) (hf : 0 < free c) : (alloc c leaf it held).2.2 = 0 ∧ Laid c (alloc c leaf it held).1 (alloc c leaf it held).2.1 leaf it R := by
  have hlow := firstLow_lt hf h.nn
  have hal : alloc c leaf it held = ((layIn c leaf it held).set (firstLow c) ⟨1, false, ⟨leaf, it⟩⟩, firstLow c, 0) := by
    unfold alloc; rw [hr, hl]; simp [hlow]
  rw [hal]
  refine ⟨rfl, ?_⟩
  simp only
  have hft := (firstLow_at hlow).1
  generalize hp : firstLow c = p at *
  simp only [takenCell, Bool.or_eq_false_iff, decide_eq_false_iff_not] at hft
  have hp0 : (nth c p).ref = 0 := by have := h.nn p; omega
  have hpf : isFree (nth c p) = true := by simp [isFree, hp0, hft.2]
  have hus : leaf = false → ∀ x ∈ it, used c x.v = true := leads_used hl
  -- the cells behind what is held once more
  have hlay : ∀ i : Nat, nth (layIn c leaf it held) i = ⟨(nth c i).ref + (if leaf = true then 0 else addRef held it (i : Int)), (nth c i).pin, (nth c i).n⟩ := by
    intro i
    unfold layIn
    cases hlf : leaf with
    | true => simp
    | false =>
      rw [if_neg (by decide), fold_nth held it c (fun x hx => by have := used_iff.1 (hus hlf x hx); exact ⟨this.1, this.2.1⟩) i]
      simp
  have hllen := layIn_length c leaf it held
  have hadd : ∀ i : Nat, 0 < (if leaf = true then 0 else addRef held it (i : Int)) → 0 < (nth c i).ref := by
    intro i hi
    split at hi
    · omega
    · rename_i hlf
      unfold addRef at hi
      split at hi
      · omega
      · obtain ⟨x, hx, e⟩ := vc_mem hi
        have := used_iff.1 (hus (by simpa using hlf) x hx)
        rw [e] at this
        simpa using this.2.2
  have hpa : (if leaf = true then 0 else addRef held it (p : Int)) = 0 := by
    have := hadd p
    omega
  have hg : ∀ i : Nat, nth ((layIn c leaf it held).set p ⟨1, false, ⟨leaf, it⟩⟩) i = if i = p then ⟨1, false, ⟨leaf, it⟩⟩ else ⟨(nth c i).ref + (if leaf = true then 0 else addRef held it (i : Int)), (nth c i).pin, (nth c i).n⟩ := by
    intro i
    rw [nth_set _ _ _ _ (by omega), hlay]
  have hlen : ((layIn c leaf it held).set p ⟨1, false, ⟨leaf, it⟩⟩).length = c.length := by simp [hllen]
  generalize (layIn c leaf it held).set p ⟨1, false, ⟨leaf, it⟩⟩ = c' at hg hlen
  have hne : ∀ x ∈ it, leaf = false → x.v ≠ (p : Int) := by
    intro x hx hlf e
    have := used_iff.1 (hus hlf x hx)
    rw [e] at this
    have := this.2.2
    simp at this
    omega
  have hup : ∀ q : Int, used c q = true → q.toNat ≠ p := by
    intro q hq e
    have := used_iff.1 hq
    rw [e] at this; omega
  have hold : ∀ q, used c q = true → used c' q = true ∧ nodeOf c' q = nodeOf c q := by
    intro q hq
    have hq' := used_iff.1 hq
    have hn := hup q hq
    refine ⟨used_iff.2 ⟨hq'.1, by rw [hlen]; exact hq'.2.1, ?_⟩, ?_⟩
    · rw [hg, if_neg hn]; simp only; omega
    · unfold nodeOf; rw [hg, if_neg hn]
  have hback : ∀ q, used c' q = true → q = (p : Int) ∨ used c q = true := by
    intro q hq
    have hq' := used_iff.1 hq
    rw [hlen, hg] at hq'
    by_cases e : q.toNat = p
    · exact .inl (by omega)
    · rw [if_neg e] at hq'
      refine .inr (used_iff.2 ⟨hq'.1, hq'.2.1, ?_⟩)
      have h1 := hadd q.toNat
      have h2 := h.nn q.toNat
      have h3 := hq'.2.2
      simp only at h3
      omega
  have hle : ∀ i : Nat, (nth c i).ref = 0 → (if leaf = true then 0 else addRef held it (i : Int)) = 0 := fun i hi => by have := hadd i; omega
  refine ⟨⟨fun i => ?_, fun i => ?_, fun i => ?_, fun i => ?_, fun i => ?_⟩, ?_, hlen, hlow, ?_, ?_, ?_, hold, hback, ?_⟩
  · rw [hg]; split
    · simp
    · have := h.nn i; simp only; omega
  · rw [hg]; split
    · simp
    · simp only; intro hi
      refine h.pin i ?_
      have := hadd i; have := h.nn i; omega
  · rw [hg]; split
    · intro _; exact hr
    · simp only; intro hi
      refine h.node i ?_
      have := hadd i; have := h.nn i; omega
  · rw [hlen, hg]
    split
    · intro _ _ hlf x hx
      have := used_iff.1 (hus hlf x hx)
      exact ⟨this.1, this.2.1⟩
    · simp only; intro hi1 hi
      refine h.told i hi1 ?_
      have := hadd i; have := h.nn i; omega
  · rw [hg]; split
    · simp
    · simp only; intro hi
      refine h.void i ?_
      have := h.nn i; omega
  · -- all adds up
    intro q hq
    rw [hlen] at hq
    have hq' := hc q hq
    have hturn := sumTo_turn (g := fun i => tellsOf (nth c i) q) (g' := fun i => tellsOf (nth c' i) q) (p := p) (n := c.length) hlow fun i _ hne => by
      rw [hg i, if_neg hne]
      have h1 := hadd i
      have h2 := h.nn i
      have h3 := hle i
      unfold tellsOf
      simp only
      by_cases e : 0 < (nth c i).ref
      · have : 0 < (nth c i).ref + ((if leaf = true then 0 else addRef held it (i : Int) : Nat) : Int) := by omega
        simp [e, this]
      · have : ¬ 0 < (nth c i).ref + ((if leaf = true then 0 else addRef held it (i : Int) : Nat) : Int) := by
          rw [h3 (by omega)]; simp; omega
        simp [e, this]
    have ht1 : tellsOf (nth c p) q = 0 := if_neg (by omega)
    have ht2 : tellsOf (nth c' p) q = if leaf = true then 0 else vc it q := by
      rw [hg, if_pos rfl]
      unfold tellsOf
      cases leaf <;> simp
    simp only [ht1, ht2] at hturn
    have hAq := hA q
    unfold refOf at hq' ⊢
    rw [rc_append] at hq'
    rw [hlen, rc_cons, hg q]
    by_cases e : q = p
    · subst e
      rw [if_pos rfl, if_pos rfl]
      have hv : (if leaf = true then 0 else vc it (q : Int)) = 0 := by
        split
        · rfl
        · rename_i hlf
          refine Nat.eq_zero_of_not_pos fun hpos => ?_
          obtain ⟨x, hx, e⟩ := vc_mem hpos
          exact hne x hx (by simpa using hlf) e
      simp only
      omega
    · rw [if_neg e, if_neg (show ¬ (p : Int) = (q : Int) by omega)]
      have hadq : (if leaf = true then 0 else addRef held it (q : Int)) + (if leaf = true then 0 else if inB held (q : Int) then vc it q else 0) = if leaf = true then 0 else vc it q := by
        unfold addRef
        split
        · rfl
        · split <;> omega
      simp only
      omega
  · cases hu : used c (p : Int) with
    | false => rfl
    | true => exact absurd rfl (hup _ hu)
  · unfold nodeOf; rw [Int.toNat_natCast, hg, if_pos rfl]
  · exact used_iff.2 ⟨by omega, by rw [hlen]; omega, by rw [Int.toNat_natCast, hg, if_pos rfl]; simp⟩
  · -- free cells
    have h1 : free (c'.set p (nth c p)) = free c := by
      refine free_congr (by simp [hlen]) fun i hi => ?_
      rw [nth_set _ _ _ _ (by omega)]
      split
      · rename_i e; rw [e]
      · rename_i e
        rw [hg, if_neg e]
        unfold isFree
        simp only
        have h2 := hle i
        have h3 := h.nn i
        by_cases e0 : (nth c i).ref = 0
        · rw [h2 e0]; simp [e0]
        · have e1 : ((nth c i).ref == 0) = false := by rw [beq_eq_false_iff_ne]; exact e0
          have e2 : ((nth c i).ref + ((if leaf = true then 0 else addRef held it (i : Int) : Nat) : Int) == 0) = false := by rw [beq_eq_false_iff_ne]; omega
          rw [e1, e2]
    have h2 := countP_set isFree c' p (nth c p) (by omega)
    rw [hpf, hg, if_pos rfl] at h2
    unfold free at h1 ⊢
    rw [if_pos rfl, if_neg (show ¬ isFree ⟨1, false, ⟨leaf, it⟩⟩ = true by simp [isFree])] at h2
    omega
end Go.Proofs.Abs
