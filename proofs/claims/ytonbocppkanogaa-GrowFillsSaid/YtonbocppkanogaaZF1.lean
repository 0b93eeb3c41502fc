/- Plain facts: sums, rows of items by their keys. No program in sight. -/
import Derived.Test.YtonbocppkanogaaZE7
set_option linter.all false
namespace Go.Proofs.Abs

theorem sumTo_congr {g g' : Nat → Nat} : ∀ {n : Nat}, (∀ i, i < n → g i = g' i) → sumTo n g = sumTo n g'
  | 0, _ => rfl
  | n + 1, h => by rw [sumTo, sumTo, sumTo_congr fun i hi => h i (by omega), h n (by omega)]
theorem sumTo_ge {g : Nat → Nat} {i : Nat} : ∀ {n : Nat}, i < n → g i ≤ sumTo n g
  | n + 1, h => by
    rw [sumTo]
    by_cases e : i = n
    · subst e; omega
    · have := sumTo_ge (g := g) (i := i) (n := n) (by omega); omega
theorem sumTo_turn {g g' : Nat → Nat} {p : Nat} : ∀ {n : Nat}, p < n → (∀ i, i < n → i ≠ p → g' i = g i) → sumTo n g' + g p = sumTo n g + g' p
  | n + 1, hp, h => by
    rw [sumTo, sumTo]
    by_cases e : p = n
    · subst e
      rw [sumTo_congr fun i hi => h i (by omega) (by omega)]
      omega
    · have := sumTo_turn (g := g) (g' := g') (p := p) (n := n) (by omega) fun i hi => h i (by omega)
      rw [h n (by omega) (by omega)]
      omega
theorem sumTo_zero {g : Nat → Nat} : ∀ {n : Nat}, sumTo n g = 0 → ∀ i, i < n → g i = 0
  | n + 1, h, i, hi => by
    rw [sumTo] at h
    by_cases e : i = n
    · subst e; omega
    · exact sumTo_zero (n := n) (by omega) i (by omega)
theorem sumTo_pos {g : Nat → Nat} : ∀ {n : Nat}, 0 < sumTo n g → ∃ i, i < n ∧ 0 < g i
  | n + 1, h => by
    rw [sumTo] at h
    by_cases e : 0 < g n
    · exact ⟨n, by omega, e⟩
    · obtain ⟨i, h1, h2⟩ := sumTo_pos (g := g) (n := n) (by omega)
      exact ⟨i, by omega, h2⟩

/-- Rising keys. -/
def Srt (l : List Item) : Prop := l.Pairwise fun a b => a.k < b.k
/-- The first key. -/
def hd : List Item → Int
  | [] => 0
  | x :: _ => x.k

theorem mem_nth {α : Type} [Inhabited α] {l : List α} {i : Nat} (h : i < l.length) : nth l i ∈ l := by rw [nth_eq h]; exact List.getElem_mem h
theorem nth_of_mem {α : Type} [Inhabited α] {l : List α} {x : α} (h : x ∈ l) : ∃ i, i < l.length ∧ nth l i = x := by
  obtain ⟨i, hi, rfl⟩ := List.getElem_of_mem h
  exact ⟨i, hi, nth_eq hi⟩
theorem srt_of_rise {l : List Item} (h : ∀ i j, i < j → j < l.length → (nth l i).k < (nth l j).k) : Srt l := by
  unfold Srt
  rw [List.pairwise_iff_getElem]
  intro i j hi hj hij
  have := h i j hij hj
  rwa [nth_eq hi, nth_eq hj] at this
theorem rise_of_srt {l : List Item} (h : Srt l) : ∀ i j, i < j → j < l.length → (nth l i).k < (nth l j).k := by
  intro i j hij hj
  unfold Srt at h
  rw [List.pairwise_iff_getElem] at h
  have := h i j (by omega) hj hij
  rwa [nth_eq (by omega), nth_eq hj]
theorem srt_right {it : List Item} (h : rightNode it = true) : Srt it := srt_of_rise (rise h)
theorem itemOK_right {it : List Item} (h : rightNode it = true) : ∀ x ∈ it, itemOK x = true := by
  intro x hx
  obtain ⟨i, hi, rfl⟩ := nth_of_mem hx
  simp only [rightNode, Bool.and_eq_true] at h
  have := allTo_iff.1 h.2 i hi
  simp only [itemAt, Bool.and_eq_true] at this
  exact this.1
theorem right_of {it : List Item} (h1 : 1 ≤ it.length) (h4 : it.length ≤ 4) (hs : Srt it) (hi : ∀ x ∈ it, itemOK x = true) : rightNode it = true := by
  simp only [rightNode, Bool.and_eq_true, decide_eq_true_eq]
  refine ⟨⟨h1, h4⟩, allTo_iff.2 fun i hlt => ?_⟩
  simp only [itemAt, Bool.and_eq_true, Bool.or_eq_true, decide_eq_true_eq]
  refine ⟨hi _ (mem_nth hlt), ?_⟩
  by_cases e : i = 0
  · exact .inl e
  · exact .inr (rise_of_srt hs (i - 1) i (by omega) hlt)

/-! ### An item put into a row, or taken out -/
def ins (x : Item) (l : List Item) : List Item := l.filter (fun y => decide (y.k < x.k)) ++ x :: l.filter fun y => decide (x.k < y.k)

theorem filter_all {α : Type} {p : α → Bool} {l : List α} (h : ∀ x ∈ l, p x = true) : l.filter p = l := List.filter_eq_self.2 h
theorem filter_none {α : Type} {p : α → Bool} {l : List α} (h : ∀ x ∈ l, p x = false) : l.filter p = [] := List.filter_eq_nil_iff.2 fun x hx => by rw [h x hx]; decide

theorem ins_mid {x : Item} {A B C : List Item} (hA : ∀ y ∈ A, y.k < x.k) (hC : ∀ y ∈ C, x.k < y.k) : ins x (A ++ B ++ C) = A ++ ins x B ++ C := by
  unfold ins
  simp only [List.filter_append]
  rw [filter_all (l := A) (p := fun y => decide (y.k < x.k)) fun y hy => decide_eq_true (hA y hy), filter_none (l := C) (p := fun y => decide (y.k < x.k)) fun y hy => decide_eq_false (by have := hC y hy; omega),
    filter_none (l := A) (p := fun y => decide (x.k < y.k)) fun y hy => decide_eq_false (by have := hA y hy; omega), filter_all (l := C) (p := fun y => decide (x.k < y.k)) fun y hy => decide_eq_true (hC y hy)]
  simp
theorem without_mid {key : Int} {A B C : List Item} (hA : ∀ y ∈ A, y.k < key) (hC : ∀ y ∈ C, key < y.k) : without (A ++ B ++ C) key = A ++ without B key ++ C := by
  unfold without
  simp only [List.filter_append]
  rw [filter_all (l := A) (p := fun y => y.k != key) fun y hy => by have := hA y hy; simp; omega, filter_all (l := C) (p := fun y => y.k != key) fun y hy => by have := hC y hy; simp; omega]
theorem without_none {key : Int} {l : List Item} (h : ∀ y ∈ l, y.k ≠ key) : without l key = l := filter_all fun y hy => by simpa using h y hy

theorem srt_append {A B : List Item} : Srt (A ++ B) ↔ Srt A ∧ Srt B ∧ ∀ a ∈ A, ∀ b ∈ B, a.k < b.k := List.pairwise_append
theorem srt_filter {l : List Item} (p : Item → Bool) (h : Srt l) : Srt (l.filter p) := List.Pairwise.filter p h
theorem srt_ins {x : Item} {l : List Item} (h : Srt l) : Srt (ins x l) := by
  unfold ins
  rw [srt_append]
  refine ⟨srt_filter _ h, ?_, ?_⟩
  · refine List.Pairwise.cons (fun y hy => ?_) (srt_filter _ h)
    exact of_decide_eq_true (List.mem_filter.1 hy).2
  · intro a ha b hb
    have ha := of_decide_eq_true (List.mem_filter.1 ha).2
    rcases List.mem_cons.1 hb with rfl | hb
    · exact ha
    · have hb := of_decide_eq_true (List.mem_filter.1 hb).2
      omega
theorem mem_ins {x y : Item} {l : List Item} : y ∈ ins x l → y = x ∨ y ∈ l := by
  unfold ins
  simp only [List.mem_append, List.mem_cons, List.mem_filter]
  rintro (⟨h, _⟩ | h | ⟨h, _⟩)
  · exact .inr h
  · exact .inl h
  · exact .inr h
theorem ins_ne (x : Item) (l : List Item) : ins x l ≠ [] := by simp [ins]

theorem without_not {key : Int} {l : List Item} : ∀ y ∈ without l key, y.k ≠ key := by
  intro y hy
  simpa using (List.mem_filter.1 hy).2

/-- A row parted at a place. -/
theorem part {l : List Item} {i : Nat} (h : i < l.length) : l = l.take i ++ nth l i :: l.drop (i + 1) := by
  rw [← drop_cons h]; exact (List.take_append_drop i l).symm
theorem srt_part {l : List Item} (hs : Srt l) {i : Nat} (h : i < l.length) : (∀ y ∈ l.take i, y.k < (nth l i).k) ∧ ∀ y ∈ l.drop (i + 1), (nth l i).k < y.k := by
  rw [part h] at hs
  obtain ⟨_, h2, h3⟩ := srt_append.1 hs
  exact ⟨fun y hy => h3 y hy _ List.mem_cons_self, fun y hy => (List.pairwise_cons.1 h2).1 y hy⟩

theorem take_below {it : List Item} (h : rightNode it = true) {key : Int} : (∀ y ∈ it.take (below it key), y.k < key) ∧ ∀ y ∈ it.drop (below it key), key ≤ y.k := by
  have hb := below_le it key
  constructor
  · intro y hy
    obtain ⟨i, hi, rfl⟩ := nth_of_mem hy
    simp only [List.length_take] at hi
    rw [nth_take _ _ _ (by omega)]
    exact (below_at h (by omega)).1 (by omega)
  · intro y hy
    obtain ⟨i, hi, rfl⟩ := nth_of_mem hy
    simp only [List.length_drop] at hi
    rw [nth_drop]
    have := below_at h (key := key) (i := below it key + i) (by omega)
    omega

/-- In a leaf: With is ins. -/
theorem with_leaf {it : List Item} (h : rightNode it = true) (x : Item) : withOf it (atOf true it x.k).1 (if (atOf true it x.k).2 then 1 else 0) [x] = ins x it := by
  obtain ⟨h1, h2⟩ := take_below h (key := x.k)
  rw [atOf_sorted true h]
  have hs := srt_right h
  by_cases hc : below it x.k < it.length ∧ (nth it (below it x.k)).k = x.k
  · rw [if_pos hc]
    simp only [if_true]
    have hp := srt_part hs hc.1
    unfold withOf
    conv => rhs; rw [part hc.1]
    rw [show it.take (below it x.k) ++ nth it (below it x.k) :: it.drop (below it x.k + 1) = it.take (below it x.k) ++ [nth it (below it x.k)] ++ it.drop (below it x.k + 1) by simp]
    rw [ins_mid h1 fun y hy => by rw [← hc.2]; exact hp.2 y hy]
    congr 2
    simp [ins, hc.2]
  · rw [if_neg hc, if_pos rfl]
    simp only [Bool.false_eq_true, if_false, Nat.add_zero]
    unfold withOf
    conv => rhs; rw [show it = it.take (below it x.k) ++ [] ++ it.drop (below it x.k) by simp]
    rw [ins_mid h1 fun y hy => ?_]
    · simp [ins]
    · have h3 := h2 y hy
      obtain ⟨i, hi, rfl⟩ := nth_of_mem hy
      simp only [List.length_drop] at hi
      rw [nth_drop] at h3 ⊢
      by_cases e : (nth it (below it x.k + i)).k = x.k
      · exfalso
        apply hc
        by_cases e0 : i = 0
        · subst e0; exact ⟨by omega, e⟩
        · have h4 := rise h (below it x.k) (below it x.k + i) (by omega) (by omega)
          have h5 := (below_at h (key := x.k) (i := below it x.k) (by omega))
          omega
      · omega

/-- In an inner node: the place that a key leads to. -/
theorem at_inner {it : List Item} (h : rightNode it = true) (key : Int) : (atOf false it key).1 < it.length ∧ (∀ j, j < (atOf false it key).1 → (nth it (j + 1)).k ≤ key) ∧ ∀ j, (atOf false it key).1 < j → j < it.length → key < (nth it j).k := by
  have hl := rightNode_len h
  have hb := below_le it key
  have hr := rise h
  have ha := fun i (hi : i < it.length) => below_at h (key := key) hi
  refine ⟨atOf_inner hl.1, ?_⟩
  rw [atOf_sorted false h]
  by_cases hc : below it key < it.length ∧ (nth it (below it key)).k = key
  · rw [if_pos hc]
    refine ⟨fun j hj => ?_, fun j hj hlt => ?_⟩
    · simp only at hj
      by_cases e : j + 1 = below it key
      · rw [e]; omega
      · have := hr (j + 1) (below it key) (by omega) hc.1; omega
    · have := hr (below it key) j hj hlt; omega
  · rw [if_neg hc]
    simp only [Bool.false_eq_true, if_false]
    refine ⟨fun j hj => ?_, fun j hj hlt => ?_⟩
    · have := (ha (j + 1) (by omega)).1 (by omega); omega
    · by_cases e : j = below it key
      · subst e
        have h1 := ha _ hlt
        have : ¬ (nth it (below it key)).k = key := fun e => hc ⟨hlt, e⟩
        omega
      · have h1 := ha _ (show below it key < it.length by omega)
        have h2 := hr (below it key) j (by omega) hlt
        omega
end Go.Proofs.Abs
