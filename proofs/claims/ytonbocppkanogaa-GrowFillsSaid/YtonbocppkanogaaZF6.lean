/- Plain facts: what the references' Right and Fine say. -/
import Derived.Test.YtonbocppkanogaaZF5
set_option linter.all false
namespace Go.Proofs.Abs

/-- The last key. -/
def lastK (l : List Item) : Int := (nth l (l.length - 1)).k
theorem lastK_mem {l : List Item} (h : l ≠ []) : ∃ z ∈ l, lastK l = z.k := ⟨_, mem_nth (by have := List.length_pos_iff.2 h; omega), rfl⟩
theorem le_lastK {l : List Item} (h : Srt l) : ∀ z ∈ l, z.k ≤ lastK l := by
  intro z hz
  obtain ⟨i, hi, rfl⟩ := nth_of_mem hz
  unfold lastK
  by_cases e : i = l.length - 1
  · rw [e]; exact Int.le_refl _
  · exact Int.le_of_lt (rise_of_srt h i (l.length - 1) (by omega) (by omega))
theorem lastK_append {a b : List Item} (h : b ≠ []) : lastK (a ++ b) = lastK b := by
  have := List.length_pos_iff.2 h
  unfold lastK
  rw [List.length_append, nth_append, if_neg (by omega)]
  congr 2
  omega
theorem hd_append {a b : List Item} (h : a ≠ []) : hd (a ++ b) = hd a := by
  cases a with
  | nil => exact absurd rfl h
  | cons x r => rfl
theorem hd_nth {l : List Item} (h : l ≠ []) : hd l = (nth l 0).k := by
  cases l with
  | nil => exact absurd rfl h
  | cons x r => rfl

theorem srt_flat {f : Item → List Item} : ∀ {l : List Item}, (∀ x ∈ l, Srt (f x) ∧ f x ≠ []) → (∀ k, k + 1 < l.length → lastK (f (nth l k)) < hd (f (nth l (k + 1)))) → Srt (l.flatMap f)
  | [], _, _ => List.Pairwise.nil
  | [x], h, _ => by simpa using (h x List.mem_cons_self).1
  | x :: y :: r, h, hk => by
    have ih := srt_flat (l := y :: r) (fun z hz => h z (List.mem_cons_of_mem _ hz)) fun k hlt => hk (k + 1) (by simpa using hlt)
    have h0 := hk 0 (by simp)
    rw [List.flatMap_cons, srt_append]
    refine ⟨(h x List.mem_cons_self).1, ih, fun a ha b hb => ?_⟩
    have h1 := le_lastK (h x List.mem_cons_self).1 a ha
    have h2 := hd_le ih b hb
    rw [List.flatMap_cons, hd_append (h y (by simp)).2] at h2
    have h3 : lastK (f x) < hd (f y) := h0
    omega
theorem flat_srt {f : Item → List Item} {l : List Item} (hn : ∀ x ∈ l, f x ≠ []) (hs : Srt (l.flatMap f)) {k : Nat} (hk : k + 1 < l.length) : lastK (f (nth l k)) < hd (f (nth l (k + 1))) := by
  have e : l = l.take (k + 1) ++ nth l (k + 1) :: l.drop (k + 2) := part hk
  rw [e, List.flatMap_append, List.flatMap_cons] at hs
  have h1 := (srt_append.1 hs).2.2
  obtain ⟨a, ha, e1⟩ := lastK_mem (hn _ (mem_nth (show k < l.length by omega)))
  obtain ⟨b, hb, e2⟩ := hd_mem (hn _ (mem_nth hk))
  rw [e1, e2]
  refine h1 a (List.mem_flatMap.2 ⟨nth l k, ?_, ha⟩) b (List.mem_append_left _ hb)
  rw [take_succ (by omega)]
  simp

theorem flat_ends {f : Item → List Item} {l : List Item} (hl : 0 < l.length) (hn : ∀ x ∈ l, f x ≠ []) : hd (l.flatMap f) = hd (f (nth l 0)) ∧ lastK (l.flatMap f) = lastK (f (nth l (l.length - 1))) := by
  constructor
  · cases l with
    | nil => simp at hl
    | cons x r => rw [List.flatMap_cons, hd_append (hn x List.mem_cons_self)]; rfl
  · have e : l = l.take (l.length - 1) ++ [nth l (l.length - 1)] := by
      have := take_succ (l := l) (k := l.length - 1) (by omega)
      rw [show l.length - 1 + 1 = l.length by omega, List.take_length] at this
      exact this
    conv => lhs; rw [e]
    rw [List.flatMap_append]
    simp only [List.flatMap_cons, List.flatMap_nil, List.append_nil]
    exact lastK_append (hn _ (mem_nth (by omega)))

/-! ### Below -/
def outAt (it : List Item) (f : Int → Got) (k : Nat) : Got := if k = 0 then noGot else ⟨(f (nth it 0).v).lo, (f (nth it (k - 1)).v).hi, (f (nth it 0).v).high + 1, false⟩
theorem nxt_outAt (it : List Item) (f : Int → Got) (k : Nat) : nxt (f (nth it k).v) (outAt it f k) k = outAt it f (k + 1) := by
  unfold nxt outAt
  by_cases e : k = 0
  · subst e; simp [noGot]
  · simp [e]
theorem rounds_of {it : List Item} {f : Int → Got} : ∀ {n : Nat}, (∀ k, k < n → bad it (f (nth it k).v) (outAt it f k) k = false) → rounds it f n = some (outAt it f n)
  | 0, _ => rfl
  | n + 1, h => by
    rw [rounds, rounds_of fun k hk => h k (by omega)]
    show round it f (outAt it f n) n = _
    unfold round
    rw [if_neg (by rw [h n (by omega)]; decide), nxt_outAt]
theorem rounds_to {it : List Item} {f : Int → Got} : ∀ {n : Nat} {out : Got}, rounds it f n = some out → out = outAt it f n ∧ ∀ k, k < n → bad it (f (nth it k).v) (outAt it f k) k = false
  | 0, out, h => by injection h with h; exact ⟨h.symm, fun k hk => by omega⟩
  | n + 1, out, h => by
    rw [rounds] at h
    cases hr : rounds it f n with
    | none => rw [hr] at h; cases h
    | some o =>
      obtain ⟨rfl, h2⟩ := rounds_to hr
      rw [hr] at h
      replace h : round it f (outAt it f n) n = some out := h
      unfold round at h
      split at h
      · cases h
      · rename_i hb
        injection h with h
        rw [nxt_outAt] at h
        refine ⟨h.symm, fun k hk => ?_⟩
        by_cases e : k = n
        · subst e; simpa using hb
        · exact h2 k (by omega)
theorem bad_iff {it : List Item} {x out : Got} {i : Nat} : bad it x out i = false ↔ x.is = true ∧ x.lo = (nth it i).k ∧ (0 < i → out.hi < x.lo ∧ out.high = x.high + 1) := by
  unfold bad
  simp only [Bool.or_eq_false_iff, Bool.and_eq_false_iff, Bool.not_eq_false', bne_eq_false_iff_eq, decide_eq_false_iff_not]
  constructor
  · rintro ⟨⟨h1, h2⟩, h3⟩
    refine ⟨h1, h2, fun hi => ?_⟩
    rcases h3 with h3 | h3
    · omega
    · omega
  · rintro ⟨h1, h2, h3⟩
    refine ⟨⟨h1, h2⟩, ?_⟩
    by_cases hi : 0 < i
    · have := h3 hi
      exact .inr ⟨by omega, this.2⟩
    · exact .inl hi

theorem below_RT {c : List Cell} : ∀ {h m : Nat} {p : Int}, RT c h p → h ≤ m → belowOf c m p = ⟨hd (listOf c h p), lastK (listOf c h p), h, true⟩ := by
  intro h
  induction h with
  | zero => exact fun h => h.elim
  | succ h ih =>
    rintro m p hrt hm
    have hne := hrt.ne
    obtain ⟨hu, hrn, hs⟩ := hrt
    have hu' := used_iff.1 hu
    have hl := rightNode_len hrn
    have hr : ¬ (nth c p.toNat).ref < 1 := by omega
    rcases hs with ⟨hlf, h0⟩ | ⟨hlf, hk, hsf⟩
    · subst h0
      rw [listOf_leaf hlf] at hne ⊢
      rw [belowOf_leaf hr hlf, hd_nth hne]
      simp only [Got.mk.injEq, decide_eq_true_eq]
      exact ⟨rfl, rfl, rfl, by omega⟩
    · have hpos := (hk _ (mem_nth (show 0 < (nodeOf c p).it.length by omega))).1.pos
      rw [belowOf_inner hr hlf (by omega)]
      have hf : ∀ k, k < (nodeOf c p).it.length → belowOf c (m - 1) (nth (nodeOf c p).it k).v = ⟨hd (listOf c h (nth (nodeOf c p).it k).v), lastK (listOf c h (nth (nodeOf c p).it k).v), h, true⟩ := fun k hlt => ih (hk _ (mem_nth hlt)).1 (by omega)
      have hro : rounds (nth c p.toNat).n.it (belowOf c (m - 1)) (nth c p.toNat).n.it.length = some (outAt (nth c p.toNat).n.it (belowOf c (m - 1)) (nth c p.toNat).n.it.length) := by
        refine rounds_of fun k hlt => bad_iff.2 ?_
        have e1 := hf k hlt
        unfold nodeOf at e1
        rw [e1]
        refine ⟨rfl, (hk _ (mem_nth hlt)).2, fun hi => ?_⟩
        unfold outAt
        rw [if_neg (by omega)]
        have e2 := hf (k - 1) (by unfold nodeOf; omega)
        have e3 := hf 0 (by omega)
        unfold nodeOf at e2 e3
        rw [e2, e3]
        refine ⟨?_, rfl⟩
        have := flat_srt (f := fun x => listOf c h x.v) (fun x hx => (hk x hx).1.ne) hsf (k := k - 1) (by unfold nodeOf; omega)
        rw [show k - 1 + 1 = k by omega] at this
        exact this
      rw [hro]
      have he := flat_ends (f := fun x => listOf c h x.v) (l := (nodeOf c p).it) (by omega) fun x hx => (hk x hx).1.ne
      rw [listOf_inner hlf, he.1, he.2]
      simp only
      unfold outAt
      have e2 := hf ((nodeOf c p).it.length - 1) (by omega)
      have e3 := hf 0 (by omega)
      unfold nodeOf at e2 e3 hl ⊢
      rw [if_neg (by omega), e2, e3]
      simp

theorem RT_below {c : List Cell} (hok : HeapOK c) : ∀ (m : Nat) (p : Int), used c p = true → (belowOf c m p).is = true → ∃ h, h ≤ m ∧ RT c h p := by
  intro m
  induction m with
  | zero =>
    intro p hu hb
    have hu' := used_iff.1 hu
    have hr : ¬ (nth c p.toNat).ref < 1 := by omega
    cases hl : (nth c p.toNat).n.leaf with
    | true => rw [belowOf_leaf hr hl] at hb; simp at hb
    | false => rw [belowOf_low hr hl (by omega)] at hb; cases hb
  | succ m ih =>
    intro p hu hb
    have hu' := used_iff.1 hu
    have hr : ¬ (nth c p.toNat).ref < 1 := by omega
    have hrn := hok.node p.toNat hu'.2.2
    have hln := rightNode_len hrn
    cases hl : (nth c p.toNat).n.leaf with
    | true => exact ⟨1, by omega, hu, hrn, .inl ⟨hl, rfl⟩⟩
    | false =>
      by_cases hm : m + 1 ≤ 1
      · rw [belowOf_low hr hl hm] at hb; cases hb
      · rw [belowOf_inner hr hl hm] at hb
        simp only [Nat.add_sub_cancel] at hb
        split at hb
        · rename_i out ho
          obtain ⟨_, hgood⟩ := rounds_to ho
          have hg := fun k hk => bad_iff.1 (hgood k hk)
          have hus : ∀ x ∈ (nth c p.toNat).n.it, (belowOf c m x.v).is = true → used c x.v = true := by
            intro x hx hb
            obtain ⟨h0, h1⟩ := hok.told p.toNat (by omega) hu'.2.2 hl x hx
            refine used_iff.2 ⟨h0, h1, ?_⟩
            refine Decidable.byContradiction fun hn => ?_
            rw [belowOf_none (by omega)] at hb
            cases hb
          have hch : ∀ k, k < (nth c p.toNat).n.it.length → ∃ h, h ≤ m ∧ RT c h (nth (nth c p.toNat).n.it k).v := fun k hk => ih _ (hus _ (mem_nth hk) (hg k hk).1) (hg k hk).1
          obtain ⟨h, hhm, h0⟩ := hch 0 (by omega)
          have hb0 := below_RT h0 hhm
          have hall : ∀ k, k < (nth c p.toNat).n.it.length → RT c h (nth (nth c p.toNat).n.it k).v := by
            intro k hk
            by_cases e : k = 0
            · subst e; exact h0
            · obtain ⟨h', hh', hk'⟩ := hch k hk
              have hbk := below_RT hk' hh'
              have h3 := (hg k hk).2.2 (by omega)
              unfold outAt at h3
              rw [if_neg e, hb0, hbk] at h3
              simp only at h3
              have : h' = h := by omega
              rw [← this]; exact hk'
          refine ⟨h + 1, by omega, hu, hrn, .inr ⟨hl, fun x hx => ?_, ?_⟩⟩
          · obtain ⟨k, hk, rfl⟩ := nth_of_mem hx
            refine ⟨hall k hk, ?_⟩
            have h2 := (hg k hk).2.1
            rw [below_RT (hall k hk) hhm] at h2
            exact h2
          · refine srt_flat (fun x hx => ?_) fun k hk => ?_
            · obtain ⟨k, hk, rfl⟩ := nth_of_mem hx
              exact ⟨(hall k hk).srt, (hall k hk).ne⟩
            · have hk' : k + 1 < (nth c p.toNat).n.it.length := hk
              have h3 := (hg (k + 1) hk').2.2 (by omega)
              unfold outAt at h3
              rw [if_neg (by omega), Nat.add_sub_cancel, below_RT (hall k (by omega)) hhm, below_RT (hall (k + 1) hk') hhm] at h3
              exact h3.1
        · cases hb

/-- A tree that is so high, or none. -/
def Tr (c : List Cell) (h : Nat) (root : Int) : Prop := (root = -1 ∧ h = 0) ∨ (RT c h root ∧ h ≤ 20)
theorem Tr.tree {c : List Cell} {h : Nat} {root : Int} (t : Tr c h root) : tree c h root := t.imp (fun ⟨h1, h2⟩ => ⟨by omega, h2⟩) fun ⟨h1, h2⟩ => ⟨h1.shape, h2⟩
theorem rightTree_iff {c : List Cell} (hok : HeapOK c) {root : Int} : rightTree c root = true ↔ ∃ h, Tr c h root := by
  unfold rightTree
  simp only [Bool.or_eq_true, decide_eq_true_eq, Bool.and_eq_true]
  constructor
  · rintro (h | ⟨h1, h2⟩)
    · exact ⟨0, .inl ⟨h, rfl⟩⟩
    · obtain ⟨h, hh, ht⟩ := RT_below hok 20 root h1 h2
      exact ⟨h, .inr ⟨ht, hh⟩⟩
  · rintro ⟨h, ⟨h1, _⟩ | ⟨h1, h2⟩⟩
    · exact .inl h1
    · exact .inr ⟨h1.used, by rw [below_RT h1 h2]⟩

theorem rightHeap_iff {c : List Cell} {keep : Int} : rightHeap c keep = true ↔ (1 ≤ c.length ∧ c.length ≤ 2000 ∧ 0 ≤ keep ∧ keep ≤ c.length) ∧ ∀ i, i < c.length → cellOK c.length (nth c i) = true := by
  unfold rightHeap
  rw [Bool.and_eq_true, decide_eq_true_eq, allTo_iff]
theorem heapOK_of {c : List Cell} {keep : Int} (h : rightHeap c keep = true) : HeapOK c := by
  have h' := (rightHeap_iff.1 h).2
  have hz : ∀ i, (nth c i).ref = 0 → (nth c i).n = ⟨false, []⟩ := by
    intro i hi
    by_cases hlt : i < c.length
    · have := h' i hlt
      unfold cellOK at this
      rw [if_pos hi] at this
      simp only [Bool.and_eq_true, Bool.not_eq_true', decide_eq_true_eq] at this
      cases hn : (nth c i).n with
      | mk leaf it =>
        rw [hn] at this
        obtain ⟨h1, h2⟩ := this
        simp only at h1 h2
        rw [h1, List.eq_nil_of_length_eq_zero h2]
    · rw [nth_out (by omega)]; rfl
  refine ⟨fun i => ?_, fun i hi => ?_, fun i hi => ?_, fun i hlt hi hl x hx => ?_, hz⟩
  · by_cases hlt : i < c.length
    · have := h' i hlt
      unfold cellOK at this
      split at this
      · omega
      · simp only [Bool.and_eq_true, decide_eq_true_eq] at this
        omega
    · rw [nth_out (by omega)]; decide
  · by_cases hlt : i < c.length
    · exact (right_cell h hlt hi).2.1
    · rw [nth_out (by omega)] at hi; exact absurd hi (by decide)
  · by_cases hlt : i < c.length
    · exact (right_cell h hlt hi).2.2.1
    · rw [nth_out (by omega)] at hi; exact absurd hi (by decide)
  · have := (right_cell h hlt hi).2.2.2
    rw [hl] at this
    obtain ⟨k, hk, rfl⟩ := nth_of_mem hx
    exact places_at this hk
theorem rightHeap_of {c : List Cell} {keep : Int} (h : HeapOK c) (hl : 1 ≤ c.length ∧ c.length ≤ 2000 ∧ 0 ≤ keep ∧ keep ≤ c.length) (hr : ∀ i, (nth c i).ref ≤ 2147483647) : rightHeap c keep = true := by
  refine rightHeap_iff.2 ⟨hl, fun i hi => ?_⟩
  unfold cellOK
  split
  · rename_i e; rw [h.void i e]; rfl
  · have hp : 0 < (nth c i).ref := by have := h.nn i; omega
    simp only [Bool.and_eq_true, decide_eq_true_eq, Bool.not_eq_true']
    refine ⟨⟨⟨⟨hp, hr i⟩, h.pin i hp⟩, h.node i hp⟩, ?_⟩
    unfold places
    cases hlf : (nth c i).n.leaf with
    | true => rfl
    | false =>
      rw [Bool.false_or]
      refine allTo_iff.2 fun k hk => ?_
      have := h.told i hi hp hlf _ (mem_nth hk)
      simpa [placed] using this
end Go.Proofs.Abs
