/- Plain facts: items in rising order, what is put twice, what is found. -/
import Derived.Test.YtonbocppkanogaaZF7
set_option linter.all false
namespace Go.Proofs.Abs

theorem srt_ext : ∀ {A B : List Item}, Srt A → Srt B → (∀ z, z ∈ A ↔ z ∈ B) → A = B
  | [], [], _, _, _ => rfl
  | [], b :: B, _, _, h => absurd ((h b).2 List.mem_cons_self) (by simp)
  | a :: A, [], _, _, h => absurd ((h a).1 List.mem_cons_self) (by simp)
  | a :: A, b :: B, hA, hB, h => by
    have hA := List.pairwise_cons.1 hA
    have hB := List.pairwise_cons.1 hB
    have e : a = b := by
      have h1 := (h a).1 List.mem_cons_self
      have h2 := (h b).2 List.mem_cons_self
      rcases List.mem_cons.1 h1 with e | h1
      · exact e
      · rcases List.mem_cons.1 h2 with e | h2
        · exact e.symm
        · have := hA.1 b h2; have := hB.1 a h1; omega
    subst e
    rw [srt_ext hA.2 hB.2 fun z => ⟨fun hz => ?_, fun hz => ?_⟩]
    · rcases List.mem_cons.1 ((h z).1 (List.mem_cons_of_mem _ hz)) with e | h1
      · subst e; have := hA.1 z hz; omega
      · exact h1
    · rcases List.mem_cons.1 ((h z).2 (List.mem_cons_of_mem _ hz)) with e | h1
      · subst e; have := hB.1 z hz; omega
      · exact h1

theorem mem_ins_iff {x z : Item} {l : List Item} : z ∈ ins x l ↔ z = x ∨ (z ∈ l ∧ z.k ≠ x.k) := by
  unfold ins
  rw [List.mem_append, List.mem_cons, List.mem_filter, List.mem_filter, decide_eq_true_eq, decide_eq_true_eq]
  constructor
  · rintro (⟨h1, h2⟩ | h | ⟨h1, h2⟩)
    · exact .inr ⟨h1, by omega⟩
    · exact .inl h
    · exact .inr ⟨h1, by omega⟩
  · rintro (h | ⟨h1, h2⟩)
    · exact .inr (.inl h)
    · by_cases h3 : z.k < x.k
      · exact .inl ⟨h1, h3⟩
      · exact .inr (.inr ⟨h1, by omega⟩)

theorem ins_comm {x y : Item} {l : List Item} (h : x.k ≠ y.k) (hs : Srt l) : ins y (ins x l) = ins x (ins y l) := by
  refine srt_ext (srt_ins (srt_ins hs)) (srt_ins (srt_ins hs)) fun z => ?_
  simp only [mem_ins_iff]
  constructor
  · rintro (rfl | ⟨rfl | ⟨h1, h2⟩, h3⟩)
    · exact .inr ⟨.inl rfl, fun e => h e.symm⟩
    · exact .inl rfl
    · exact .inr ⟨.inr ⟨h1, h3⟩, h2⟩
  · rintro (rfl | ⟨rfl | ⟨h1, h2⟩, h3⟩)
    · exact .inr ⟨.inl rfl, h⟩
    · exact .inl rfl
    · exact .inr ⟨.inr ⟨h1, h3⟩, h2⟩
theorem ins_twice {x y : Item} {l : List Item} (h : x.k = y.k) (hs : Srt l) : ins y (ins x l) = ins y l := by
  refine srt_ext (srt_ins (srt_ins hs)) (srt_ins hs) fun z => ?_
  simp only [mem_ins_iff]
  constructor
  · rintro (rfl | ⟨rfl | ⟨h1, h2⟩, h3⟩)
    · exact .inl rfl
    · exact absurd h h3
    · exact .inr ⟨h1, h3⟩
  · rintro (rfl | ⟨h1, h3⟩)
    · exact .inl rfl
    · exact .inr ⟨.inr ⟨h1, by omega⟩, h3⟩
theorem ins_len {x y : Item} (l : List Item) (h : x.k = y.k) : (ins x l).length = (ins y l).length := by
  unfold ins
  rw [h]
  simp only [List.length_append, List.length_cons]

theorem srt_unique {l : List Item} (hs : Srt l) {x y : Item} (hx : x ∈ l) (hy : y ∈ l) (h : x.k = y.k) : x = y := by
  obtain ⟨i, hi, rfl⟩ := nth_of_mem hx
  obtain ⟨j, hj, rfl⟩ := nth_of_mem hy
  have hr := rise_of_srt hs
  by_cases h1 : i < j
  · have := hr i j h1 hj; omega
  · by_cases h2 : j < i
    · have := hr j i h2 hi; omega
    · rw [show i = j by omega]
theorem getIn_mem {l : List Item} (hs : Srt l) {x : Item} (hx : x ∈ l) : getIn l x.k = (x.v, 0) := by
  have h1 : whereIs l x.k < l.length := by
    unfold whereIs
    rw [List.findIdx_lt_length]
    exact ⟨x, hx, by simp⟩
  have h2 : (nth l (whereIs l x.k)).k = x.k := by
    rw [nth_eq h1]
    have := List.findIdx_getElem (p := fun y : Item => y.k == x.k) (xs := l) (w := h1)
    exact beq_iff_eq.1 this
  unfold getIn
  rw [if_pos h1, srt_unique hs (mem_nth h1) hx h2]
theorem getIn_none {l : List Item} {key : Int} (h : ∀ x ∈ l, x.k ≠ key) : getIn l key = (0, 4) := by
  have h1 : ¬ whereIs l key < l.length := by
    unfold whereIs
    rw [List.findIdx_lt_length]
    rintro ⟨x, hx, e⟩
    exact h x hx (by simpa using e)
  unfold getIn
  rw [if_neg h1]
end Go.Proofs.Abs
