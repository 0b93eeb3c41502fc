/- Plain facts: items that are put one by one. -/
import Derived.Test.YtonbocppkanogaaZF8
set_option linter.all false
namespace Go.Proofs.Abs

def insAll (l : List Item) (L : List Item) : List Item := l.foldl (fun acc x => ins x acc) L
theorem srt_insAll : ∀ {l L : List Item}, Srt L → Srt (insAll l L)
  | [], _, h => h
  | x :: l, _, h => srt_insAll (l := l) (srt_ins h)
theorem insAll_len : ∀ {l L : List Item}, Srt L → (insAll l L).length ≤ L.length + l.length
  | [], _, _ => Nat.le_refl _
  | x :: l, L, h => by
    have h1 := insAll_len (l := l) (srt_ins (x := x) h)
    have h2 := ins_length (x := x) h
    show (insAll l (ins x L)).length ≤ _
    rw [List.length_cons]
    omega
theorem insAll_ne : ∀ {l L : List Item}, l ≠ [] ∨ L ≠ [] → insAll l L ≠ []
  | [], _, h => by
    rcases h with h | h
    · exact absurd rfl h
    · exact h
  | x :: l, _, _ => insAll_ne (l := l) (.inr (ins_ne x _))
theorem insAll_snoc (l : List Item) (x : Item) (L : List Item) : insAll (l ++ [x]) L = ins x (insAll l L) := by
  unfold insAll
  rw [List.foldl_append]; rfl

/-- The value that was put last of a key, among the first so many. -/
def lastTo (l : List Item) (key : Int) : Nat → Int
  | 0 => 0
  | j + 1 => if (nth l j).k = key then (nth l j).v else lastTo l key j
theorem take_snoc {l : List Item} {j : Nat} (h : j < l.length) : l.take (j + 1) = l.take j ++ [nth l j] := by
  rw [nth_eq h, List.take_succ_eq_append_getElem h]
theorem last_mem {l : List Item} {key : Int} : ∀ j, j ≤ l.length → (∃ i, i < j ∧ (nth l i).k = key) → (⟨key, lastTo l key j⟩ : Item) ∈ insAll (l.take j) []
  | 0, _, h => by obtain ⟨i, hi, _⟩ := h; omega
  | j + 1, hj, h => by
    rw [take_snoc (by omega), insAll_snoc, mem_ins_iff]
    unfold lastTo
    by_cases e : (nth l j).k = key
    · rw [if_pos e]
      left
      subst e; rfl
    · rw [if_neg e]
      right
      obtain ⟨i, hi, h⟩ := h
      refine ⟨last_mem j (by omega) ⟨i, ?_, h⟩, fun e2 => e e2.symm⟩
      refine Decidable.byContradiction fun hn => ?_
      obtain rfl : i = j := by omega
      exact e h

theorem fill_append {keep : Int} : ∀ {l l2 : List Item} {c : List Cell} {r : Int}, (fill keep (l ++ l2) c r).2.2 = 0 →
    (fill keep l c r).2.2 = 0 ∧ fill keep l2 (fill keep l c r).1 (fill keep l c r).2.1 = fill keep (l ++ l2) c r
  | [], _, _, _, _ => ⟨rfl, rfl⟩
  | x :: l, l2, c, r, h => by
    rw [List.cons_append, fill] at h ⊢
    rw [fill]
    split at h
    · rename_i e
      rw [if_pos e, if_pos e]
      exact fill_append h
    · rename_i e; exact absurd h e
end Go.Proofs.Abs
