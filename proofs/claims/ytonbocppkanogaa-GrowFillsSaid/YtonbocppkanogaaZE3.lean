/- Nodes as the program has them: At, With, Split. -/
import Derived.Test.YtonbocppkanogaaZE2
set_option linter.all false
namespace Go.Proofs.Abs
open Go Go.RowKit Go.Proofs
attribute [local irreducible] cwp seqQ blockQ endQ DEqv LEqv AWP drawOK

def nbox (leaf : Bool) (it : List Item) : Blk := .cells [.d (dbool leaf), .d (dItems it)]
def kbox (key : Int) : Blk := .cells [.d (dint key)]

theorem ac_AtIn (leaf : Bool) (it : List Item) (key : Int) (i : Nat) (hi : i < it.length) : AC Try.prog 93 [aint .i64 i, .own 0 0, .own 1 0] [some (nbox leaf it), some (kbox key)] (abool (decide (key ≤ (nth it i).k))) [some (nbox leaf it), some (kbox key)] := by
  refine AC_of tab_ok mixed (Try.func93) rfl (by kernel_rfl) (Nat.le_of_ble_eq_true rfl) ?_ (Nat.le_of_ble_eq_true rfl)
  (refine (cwp_seq (cwp_region (sl rfl (seqQ_normal (cwp_seq (cwp_draw (sl rfl (sl rfl (sl rfl (Exists.intro (i) (an (an (by with_reducible rfl) (an (by assumption) (show 2 = 2 from (by with_reducible rfl)))) (sl rfl (sl rfl (sl rfl (sl rfl (an (by with_reducible rfl) (sl rfl (sl rfl (an (by kernel_rfl) (seqQ_normal (cwp_ret (endQ_ret (Exists.intro [0, 1] (an (an rfl (an rfl (an rfl (Nat.le_of_ble_eq_true rfl)))) (an (an (DEqv.refl _) True.intro) (an (an (DEqv.refl _) (an (DEqv.refl _) True.intro)) (an (an (DEqv.refl _) True.intro) True.intro))))))))))))))))))))))))))))

theorem mid_a (i j : Nat) (h : i + j < 1000000) : IntKind.u64.wrap ((i : Int) + (j : Int)) = ((i + j : Nat) : Int) := by
  rw [show IntKind.u64.wrap ((i : Int) + (j : Int)) = ((i : Int) + (j : Int)) % 18446744073709551616 from rfl]
  omega
theorem mid_b (n : Nat) : ((n : Int)).fdiv (2 ^ (min (1 : Int).toNat IntKind.u64.bits)) = ((n / 2 : Nat) : Int) := by
  rw [show (min (1 : Int).toNat IntKind.u64.bits) = 1 from rfl]
  rw [Int.fdiv_eq_ediv_of_nonneg _ (by decide)]
  omega

/-- The keys of a right node rise. -/
theorem rise {it : List Item} (h : rightNode it = true) : ∀ i j, i < j → j < it.length → (nth it i).k < (nth it j).k := by
  simp only [rightNode, Bool.and_eq_true] at h
  have h := allTo_iff.1 h.2
  intro i j hij hj
  induction j with
  | zero => omega
  | succ j ih =>
    have hs := h (j + 1) hj
    simp only [itemAt, Bool.and_eq_true, Bool.or_eq_true, decide_eq_true_eq, Nat.add_sub_cancel] at hs
    have hs : (nth it j).k < (nth it (j + 1)).k := by omega
    by_cases e : i = j
    · subst e; exact hs
    · have := ih (by omega) (by omega); omega
theorem below_cut {it : List Item} {key : Int} : ∀ (n : Nat), n ≤ it.length → (∀ i, i < n → (nth it i).k < key) → (∀ i, n ≤ i → i < it.length → key ≤ (nth it i).k) → below it key = n := by
  intro n hn h1 h2
  have a : ∀ k, k ≤ n → below (it.take k) key = k := by
    intro k hk
    induction k with
    | zero => rfl
    | succ k ih => rw [below_succ (by omega), ih (by omega), if_pos (h1 k (by omega))]
  have b : ∀ k, n ≤ k → k ≤ it.length → below (it.take k) key = n := by
    intro k hk hk2
    induction k with
    | zero => rw [show n = 0 by omega]; rfl
    | succ k ih =>
      by_cases e : n = k + 1
      · rw [e]; exact a _ (by omega)
      · rw [below_succ (by omega), ih (by omega) (by omega), if_neg (by have := h2 k (by omega) (by omega); omega), Nat.add_zero]
  have := b it.length hn (Nat.le_refl _)
  rwa [List.take_length] at this
theorem below_at {it : List Item} (h : rightNode it = true) {key : Int} {i : Nat} (hi : i < it.length) : (i < below it key ↔ (nth it i).k < key) := by
  have hr := rise h
  -- the least place whose key isn't below
  have hex : ∃ n, n ≤ it.length ∧ (∀ i, i < n → (nth it i).k < key) ∧ (∀ i, n ≤ i → i < it.length → key ≤ (nth it i).k) := by
    have : ∀ m, m ≤ it.length → (∀ i, i < m → (nth it i).k < key) ∨ ∃ n, n < m ∧ (∀ i, i < n → (nth it i).k < key) ∧ key ≤ (nth it n).k := by
      intro m hm
      induction m with
      | zero => exact .inl fun i hi => by omega
      | succ m ih =>
        rcases ih (by omega) with h1 | ⟨n, h1, h2, h3⟩
        · by_cases hk : (nth it m).k < key
          · exact .inl fun i hi => by
              by_cases e : i = m
              · subst e; exact hk
              · exact h1 i (by omega)
          · exact .inr ⟨m, by omega, h1, by omega⟩
        · exact .inr ⟨n, by omega, h2, h3⟩
    rcases this it.length (Nat.le_refl _) with h1 | ⟨n, h1, h2, h3⟩
    · exact ⟨it.length, Nat.le_refl _, h1, fun i _ _ => by omega⟩
    · refine ⟨n, by omega, h2, fun i h4 h5 => ?_⟩
      by_cases e : i = n
      · subst e; exact h3
      · have := hr n i (by omega) h5; omega
  obtain ⟨n, h1, h2, h3⟩ := hex
  rw [below_cut n h1 h2 h3]
  constructor
  · exact h2 i
  · intro hk
    rcases Nat.lt_or_ge i n with h4 | h4
    · exact h4
    · have := h3 i h4 hi; omega

theorem ac_Search (leaf : Bool) (it : List Item) (key : Int) (h : rightNode it = true) : AC Try.prog 92 [aint .i64 it.length, .fn (.func 93) [] [.own 0 0, .own 1 0]] [some (nbox leaf it), some (kbox key)] (aint .i64 (below it key)) [some (nbox leaf it), some (kbox key)] := by
  have hl := rightNode_len h
  have hb := fun i (hi : i < it.length) => below_at h (key := key) hi
  have hble := below_le it key
  refine AC_of tab_ok mixed (Try.func92) rfl (by kernel_rfl) (Nat.le_of_ble_eq_true rfl) ?_ (Nat.le_of_ble_eq_true rfl)
  (refine (cwp_seq (cwp_region (sl rfl (seqQ_normal (cwp_seq (cwp_region (sl rfl (sl rfl (sl rfl (seqQ_normal (cwp_seq (cwp_block (cwp_loop ?_))))))))))))))
  refine AWP_for tab_ok mixed (α := Nat × Nat) (fun k => k.2 - k.1) (fun k => k.1 ≤ below it key ∧ below it key ≤ k.2 ∧ k.2 ≤ it.length)
    (fun k => [(1, .fn (.func 93) [] [.own 0 0, .own 1 0]), (5, aint .i64 (k.1 : Nat)), (6, aint .i64 (k.2 : Nat))])
    (fun _ => [some (nbox leaf it), some (kbox key)]) (0, it.length) [0, 1] ?_ ⟨Nat.zero_le _, hble, Nat.le_refl _⟩ ?_
  · (refine (an (an rfl (an rfl (an rfl (Nat.le_of_ble_eq_true rfl)))) (an (an (an (by with_reducible rfl) (an True.intro (an (an (an rfl (by with_reducible rfl)) (Nat.le_of_ble_eq_true rfl)) (an (an (an rfl (by with_reducible rfl)) (Nat.le_of_ble_eq_true rfl)) True.intro)))) (an (DEqv.refl _) (an (DEqv.refl _) True.intro))) (an (an (DEqv.refl _) (an (DEqv.refl _) True.intro)) (an (an (DEqv.refl _) True.intro) True.intro)))))
  · rintro ⟨i, j⟩ ⟨h1, h2, h3⟩
    simp only at h1 h2 h3 ⊢
    by_cases hlt : i < j
    · have hm := hb ((i + j) / 2) (by omega)
      have g := ac_AtIn leaf it key ((i + j) / 2) (by omega)
      (focus (refine (cwp_seq (cwp_seq (cwp_region (sl rfl (sl rfl (an (by with_reducible rfl) (sl rfl (seqQ_normal (cwp_cond (an (fun (hb1 : decide ((↑i : Int) < (↑j : Int)) = true) => ?_) (fun (hb4 : decide ((↑i : Int) < (↑j : Int)) = false) => ?_))))))))))); rotate_right; (have hf4 := hb4; simp only [decide_eq_false_iff_not, Int.not_lt] at hf4; exfalso; omega); rotate_right; (have hf1 := hb1; simp only [decide_eq_true_eq] at hf1; focus (refine (cwp_skip (seqQ_normal (cwp_block (cwp_seq (cwp_region (sl rfl (sl rfl (an (by with_reducible rfl) (ez (wrap64 (by omega)) (sl rfl (ez (mid_a i j (by omega)) (sl rfl (an (by omega) (ez (mid_b (i + j)) (sl rfl (ez (wrap64 (by omega)) (sl rfl (sl rfl (seqQ_normal (cwp_seq (cwp_region (sl rfl (sl rfl (Framed.on (g.under [0, 1]) rfl (an (an rfl (an rfl (an rfl (Nat.le_of_ble_eq_true rfl)))) (an (an (DEqv.refl _) (an (an (an rfl (by with_reducible rfl)) (Nat.le_of_ble_eq_true rfl)) (an (an (an rfl (by with_reducible rfl)) (Nat.le_of_ble_eq_true rfl)) True.intro))) (an (an (DEqv.refl _) (an (DEqv.refl _) True.intro)) (an (an (DEqv.refl _) True.intro) True.intro)))) (sl rfl (sl rfl (seqQ_normal (cwp_cond (an (fun (hb2 : (!decide (key ≤ (nth it ((i + j) / 2)).k)) = true) => ?_) (fun (hb3 : (!decide (key ≤ (nth it ((i + j) / 2)).k)) = false) => ?_)))))))))))))))))))))))))))))); rotate_right; (have hf3 := hb3; simp only [decide_eq_true_eq, Bool.not_eq_false'] at hf3; refine (cwp_region (sl rfl (sl rfl (blockQ_normal (seqQ_normal (show Exists _ from ?_))))))); rotate_right; (have hf2 := hb2; simp only [decide_eq_false_iff_not, Bool.not_eq_true', Int.not_le] at hf2; refine (cwp_region (sl rfl (an (by with_reducible rfl) (ez (wrap64 (by omega)) (sl rfl (sl rfl (blockQ_normal (seqQ_normal (show Exists _ from ?_))))))))))))))
      · refine ⟨((i + j) / 2 + 1, j), [0, 1], ⟨by simp only; omega, by simp only; omega⟩, ?_⟩
        (refine (an (an rfl (an rfl (an rfl (Nat.le_of_ble_eq_true rfl)))) (an (an (an (by with_reducible rfl) (an True.intro (an (an (an rfl (by with_reducible rfl)) (Nat.le_of_ble_eq_true rfl)) (an (an (an rfl (by with_reducible rfl)) (Nat.le_of_ble_eq_true rfl)) True.intro)))) (an (DEqv.refl _) (an (DEqv.refl _) True.intro))) (an (an (DEqv.refl _) (an (DEqv.refl _) True.intro)) (an (an (DEqv.refl _) True.intro) True.intro)))))
      · refine ⟨(i, (i + j) / 2), [0, 1], ⟨by simp only; omega, by simp only; omega⟩, ?_⟩
        (refine (an (an rfl (an rfl (an rfl (Nat.le_of_ble_eq_true rfl)))) (an (an (an (by with_reducible rfl) (an True.intro (an (an (an rfl (by with_reducible rfl)) (Nat.le_of_ble_eq_true rfl)) (an (an (an rfl (by with_reducible rfl)) (Nat.le_of_ble_eq_true rfl)) True.intro)))) (an (DEqv.refl _) (an (DEqv.refl _) True.intro))) (an (an (DEqv.refl _) (an (DEqv.refl _) True.intro)) (an (an (DEqv.refl _) True.intro) True.intro)))))
    · (focus (refine (cwp_seq (cwp_seq (cwp_region (sl rfl (sl rfl (an (by with_reducible rfl) (sl rfl (seqQ_normal (cwp_cond (an (fun (hb1 : decide ((↑i : Int) < (↑j : Int)) = true) => ?_) (fun (hb2 : decide ((↑i : Int) < (↑j : Int)) = false) => ?_))))))))))); rotate_right; (have hf2 := hb2; simp only [decide_eq_false_iff_not, Int.not_lt] at hf2; refine (cwp_exit (seqQ_exit (seqQ_exit (blockQ_here rfl (seqQ_normal (cwp_seq (cwp_region (sl rfl (sl rfl (seqQ_normal (cwp_ret (endQ_ret (Exists.intro [0, 1] (an (an rfl (an rfl (an rfl (Nat.le_of_ble_eq_true rfl)))) (an (an (DEqv.int (by omega)) True.intro) (an (an (DEqv.refl _) (an (DEqv.refl _) True.intro)) (an (an (DEqv.refl _) True.intro) True.intro)))))))))))))))))); rotate_right; (have hf1 := hb1; simp only [decide_eq_true_eq] at hf1; exfalso; omega)))

theorem atOf_sorted (leaf : Bool) {it : List Item} {key : Int} (h : rightNode it = true) :
    atOf leaf it key = if below it key < it.length ∧ (nth it (below it key)).k = key then (below it key, true) else if leaf then (below it key, false) else (below it key - 1, false) := by
  have hr := rise h
  have hb := fun i (hi : i < it.length) => below_at h (key := key) hi
  have hble := below_le it key
  unfold atOf
  by_cases hc : below it key < it.length ∧ (nth it (below it key)).k = key
  · have hw : whereIs it key = below it key := by
      refine whereIs_eq hc.1 (allTo_iff.2 fun i hi => ?_) hc.2
      have := (hb i (by omega)).1 hi
      simp; omega
    rw [hw, if_pos hc.1, if_pos hc]
  · have hw : ¬ whereIs it key < it.length := by
      refine whereIs_none (Nat.le_refl _) (allTo_iff.2 fun i hi => ?_)
      simp only [bne_iff_ne, ne_eq]
      intro e
      apply hc
      have h1 : ¬ i < below it key := fun hlt => by have := (hb i hi).1 hlt; omega
      by_cases h2 : below it key = i
      · rw [h2]; exact ⟨hi, e⟩
      · exfalso
        have h3 : below it key < i := by omega
        have h4 := hr _ _ h3 hi
        have := (hb (below it key) (by omega)).2 (by omega)
        omega
    rw [if_neg hw, if_neg hc]

theorem pc_At (leaf : Bool) (it : List Item) (key : Int) (h : rightNode it = true) : PC Try.prog 58 [aNode leaf it, aint .i64 key] (.tup [aint .i64 (atOf leaf it key).1, abool (atOf leaf it key).2]) := by
  have hl := rightNode_len h
  have hble := below_le it key
  have g := ac_Search leaf it key h
  rw [atOf_sorted leaf h]
  refine PC_of tab_ok mixed (Try.func58) rfl (by kernel_rfl) (Nat.le_of_ble_eq_true rfl) rfl ?_
  (focus (refine (cwp_seq (cwp_region (sl rfl (sl rfl (sl rfl (sl rfl (seqQ_normal (cwp_seq (cwp_region (sl rfl (sl rfl (sl rfl (sl rfl (Framed.on (g.under [0, 1]) rfl (an (an rfl (an rfl (an rfl (Nat.le_of_ble_eq_true rfl)))) (an (an (DEqv.refl _) (an (an (by with_reducible rfl) (an True.intro (an (an (an rfl (by with_reducible rfl)) (Nat.le_of_ble_eq_true rfl)) (an (an (an rfl (by with_reducible rfl)) (Nat.le_of_ble_eq_true rfl)) True.intro)))) True.intro)) (an (an (DEqv.refl _) (an (DEqv.refl _) True.intro)) (an (an (DEqv.refl _) True.intro) True.intro)))) (sl rfl (sl rfl (seqQ_normal (cwp_seq (cwp_draw (sl rfl (sl rfl (sl rfl (sl rfl (an (by with_reducible rfl) (sl rfl (sl rfl (sl rfl (an (fun (hb1 : decide ((↑(below it key) : Int) < (↑it.length : Int)) = true) => ?_) (fun (hb6 : decide ((↑(below it key) : Int) < (↑it.length : Int)) = false) => ?_))))))))))))))))))))))))))))); rotate_right; (have hf6 := hb6; simp only [decide_eq_false_iff_not, Int.not_lt] at hf6; focus (refine (sl rfl (sl rfl (oF hb6 (sl rfl (sl rfl (oF hb6 (sl rfl (sl rfl (oF hb6 (sl rfl (sl rfl (oF hb6 (sl rfl (sl rfl (oF hb6 (sl rfl (sl rfl (oF hb6 (sl rfl (sl rfl (oF hb6 (sl rfl (oF hb6 (sl rfl (sl rfl (an (by kernel_rfl) (seqQ_normal (cwp_seq (cwp_seq (cwp_region (sl rfl (sl rfl (sl rfl (sl rfl (sl rfl (an (fun (hb7 : (!leaf) = true) => ?_) (fun (hb8 : (!leaf) = false) => ?_))))))))))))))))))))))))))))))))))))); rotate_right; (have hf8 := hb8; simp only [Bool.not_eq_false'] at hf8; refine (sl rfl (sl rfl (oF (congrArg Bool.not hf8) (sl rfl (oF (congrArg Bool.not hf8) (sl rfl (seqQ_normal (cwp_cond (oF rfl (cwp_skip (seqQ_normal (cwp_seq (cwp_region (sl rfl (sl rfl (sl rfl (sl rfl (seqQ_normal (cwp_ret (endQ_ret (an (DEqv.int (show (↑(below it key) : Int) = (↑(if below it key < it.length ∧ (nth it (below it key)).k = key then (below it key, true) else if leaf = true then (below it key, false) else (below it key - 1, false)).fst : Int) from ?_)) (an (DEqv.bool (show false = (if below it key < it.length ∧ (nth it (below it key)).k = key then (below it key, true) else if leaf = true then (below it key, false) else (below it key - 1, false)).snd from ?_)) True.intro))))))))))))))))))))))); rotate_right; (have hf7 := hb7; simp only [Bool.not_eq_true'] at hf7; refine (sl rfl (sl rfl (oT (congrArg Bool.not hf7) (sl rfl (oT (congrArg Bool.not hf7) (sl rfl (seqQ_normal (cwp_cond (oT rfl (cwp_region (sl rfl (an (by with_reducible rfl) (ez (wrap64 (by omega)) (sl rfl (sl rfl (sl rfl (seqQ_normal (cwp_seq (cwp_region (sl rfl (sl rfl (sl rfl (sl rfl (seqQ_normal (cwp_ret (endQ_ret (an (DEqv.int (show (if 0 > (↑(below it key) : Int) - 1 then 0 else (↑(below it key) : Int) - 1) = (↑(if below it key < it.length ∧ (nth it (below it key)).k = key then (below it key, true) else if leaf = true then (below it key, false) else (below it key - 1, false)).fst : Int) from ?_)) (an (DEqv.bool (show false = (if below it key < it.length ∧ (nth it (below it key)).k = key then (below it key, true) else if leaf = true then (below it key, false) else (below it key - 1, false)).snd from ?_)) True.intro))))))))))))))))))))))))))))))); rotate_right; (have hf1 := hb1; simp only [decide_eq_true_eq] at hf1; focus (refine (sl rfl (sl rfl (oT hb1 (sl rfl (sl rfl (oT hb1 (sl rfl (sl rfl (oT hb1 (Exists.intro (below it key) (an (an (by with_reducible rfl) (an (by omega) (show 2 = 2 from (by with_reducible rfl)))) (sl rfl (sl rfl (oT hb1 (sl rfl (sl rfl (oT hb1 (sl rfl (sl rfl (oT hb1 (sl rfl (sl rfl (oT hb1 (an (by with_reducible rfl) (sl rfl (oT hb1 (sl rfl (sl rfl (an (by kernel_rfl) (seqQ_normal (cwp_seq (cwp_seq (cwp_region (sl rfl (sl rfl (sl rfl (sl rfl (sl rfl (an (fun (hb2 : (!leaf) = true) => ?_) (fun (hb5 : (!leaf) = false) => ?_)))))))))))))))))))))))))))))))))))))))); rotate_right; (have hf5 := hb5; simp only [Bool.not_eq_false'] at hf5; refine (sl rfl (sl rfl (oF (congrArg Bool.not hf5) (sl rfl (oF (congrArg Bool.not hf5) (sl rfl (seqQ_normal (cwp_cond (oF rfl (cwp_skip (seqQ_normal (cwp_seq (cwp_region (sl rfl (sl rfl (sl rfl (sl rfl (seqQ_normal (cwp_ret (endQ_ret (an (DEqv.int (show (↑(below it key) : Int) = (↑(if below it key < it.length ∧ (nth it (below it key)).k = key then (below it key, true) else if leaf = true then (below it key, false) else (below it key - 1, false)).fst : Int) from ?_)) (an (DEqv.bool (show ((nth it (below it key)).k == key) = (if below it key < it.length ∧ (nth it (below it key)).k = key then (below it key, true) else if leaf = true then (below it key, false) else (below it key - 1, false)).snd from ?_)) True.intro))))))))))))))))))))))); rotate_right; (have hf2 := hb2; simp only [Bool.not_eq_true'] at hf2; focus (refine (sl rfl (sl rfl (oT (congrArg Bool.not hf2) (sl rfl (oT (congrArg Bool.not hf2) (sl rfl (seqQ_normal (cwp_cond (an (fun (hb3 : (!(nth it (below it key)).k == key) = true) => ?_) (fun (hb4 : (!(nth it (below it key)).k == key) = false) => ?_)))))))))); rotate_right; (have hf4 := hb4; simp only [Bool.not_eq_false', beq_iff_eq] at hf4; refine (cwp_skip (seqQ_normal (cwp_seq (cwp_region (sl rfl (sl rfl (sl rfl (sl rfl (seqQ_normal (cwp_ret (endQ_ret (an (DEqv.int (show (↑(below it key) : Int) = (↑(if below it key < it.length ∧ (nth it (below it key)).k = key then (below it key, true) else if leaf = true then (below it key, false) else (below it key - 1, false)).fst : Int) from ?_)) (an (DEqv.bool (show ((nth it (below it key)).k == key) = (if below it key < it.length ∧ (nth it (below it key)).k = key then (below it key, true) else if leaf = true then (below it key, false) else (below it key - 1, false)).snd from ?_)) True.intro)))))))))))))); rotate_right; (have hf3 := hb3; simp only [Bool.not_eq_true', ne_eq, beq_eq_false_iff_ne] at hf3; refine (cwp_region (sl rfl (an (by with_reducible rfl) (ez (wrap64 (by omega)) (sl rfl (sl rfl (sl rfl (seqQ_normal (cwp_seq (cwp_region (sl rfl (sl rfl (sl rfl (sl rfl (seqQ_normal (cwp_ret (endQ_ret (an (DEqv.int (show (if 0 > (↑(below it key) : Int) - 1 then 0 else (↑(below it key) : Int) - 1) = (↑(if below it key < it.length ∧ (nth it (below it key)).k = key then (below it key, true) else if leaf = true then (below it key, false) else (below it key - 1, false)).fst : Int) from ?_)) (an (DEqv.bool (show ((nth it (below it key)).k == key) = (if below it key < it.length ∧ (nth it (below it key)).k = key then (below it key, true) else if leaf = true then (below it key, false) else (below it key - 1, false)).snd from ?_)) True.intro))))))))))))))))))))))))))
  all_goals (repeat' split)
  all_goals first | omega | (simp_all; done) | (simp_all; omega)

/-- Rows as they are laid behind each other. -/
theorem pc_GrowP0 : PC Try.prog 110 [.d (.sl true 0 0 fun _ => []), aint .i64 0] (.d (.sl true 0 0 fun _ => [])) := by
  refine PC_of tab_ok mixed (Try.func110) rfl (by kernel_rfl) (Nat.le_of_ble_eq_true rfl) rfl ?_
  (refine (cwp_seq (cwp_region (sl rfl (seqQ_normal (cwp_seq (cwp_seq (cwp_region (sl rfl (an (by with_reducible rfl) (sl rfl (seqQ_normal (cwp_cond (oF rfl (cwp_skip (seqQ_normal (cwp_seq (cwp_seq (cwp_region (sl rfl (sl rfl (an (by with_reducible rfl) (sl rfl (sl rfl (sl rfl (an (by with_reducible rfl) (ez (wrap64 (by omega)) (sl rfl (an (by with_reducible rfl) (ez (wrap64 (by omega)) (sl rfl (sl rfl (seqQ_normal (cwp_seq (cwp_region (sl rfl (an (by with_reducible rfl) (sl rfl (seqQ_normal (cwp_cond (oF rfl (cwp_skip (seqQ_normal (cwp_seq (cwp_region (sl rfl (sl rfl (seqQ_normal (cwp_ret (endQ_ret (DEqv.refl _)))))))))))))))))))))))))))))))))))))))))))))))))))
theorem ac_GrowP (n : Nat) (h0 : 0 < n) (hn : n ≤ 1000) : AC Try.prog 110 [.d (.sl true 0 0 fun _ => []), aint .i64 n] [] (.row 0 2 0 0) [some (.arr 2 n fun _ => [dint 0, dint 0])] := by
  refine AC_of tab_ok mixed (Try.func110) rfl (by kernel_rfl) (Nat.le_of_ble_eq_true rfl) ?_ (Nat.le_of_ble_eq_true rfl)
  (focus (refine (cwp_seq (cwp_region (sl rfl (seqQ_normal (cwp_seq (cwp_seq (cwp_region (sl rfl (an (by with_reducible rfl) (sl rfl (seqQ_normal (cwp_cond (an (fun (hb1 : decide ((↑n : Int) < 0) = true) => ?_) (fun (hb2 : decide ((↑n : Int) < 0) = false) => ?_)))))))))))))); rotate_right; (have hf2 := hb2; simp only [decide_eq_false_iff_not, Int.not_lt] at hf2; focus (refine (cwp_skip (seqQ_normal (cwp_seq (cwp_seq (cwp_region (sl rfl (sl rfl (an (by with_reducible rfl) (sl rfl (sl rfl (sl rfl (an (by with_reducible rfl) (ez (wrap64 (by omega)) (sl rfl (an (by with_reducible rfl) (ez (wrap64 (by omega)) (sl rfl (sl rfl (seqQ_normal (cwp_seq (cwp_region (sl rfl (an (by with_reducible rfl) (sl rfl (seqQ_normal (cwp_cond (an (fun hb3 => ?_) (fun hb4 => ?_)))))))))))))))))))))))))))); rotate_right; (have hf4 := hb4; simp only [decide_eq_false_iff_not, Int.not_lt] at hf4; exfalso; omega); rotate_right; (have hf3 := hb3; simp only [decide_eq_true_eq, gt_iff_lt] at hf3; refine (cwp_region (sl rfl (sl rfl (an (by with_reducible rfl) (sl rfl (Exists.intro (0) (an (by with_reducible rfl) (an (an (sl rfl (Nat.le_of_ble_eq_true rfl)) (Or.inl (by with_reducible rfl))) (sl rfl (sl rfl (Exists.intro (n - (0 - 0)) (an (an (by omega) (an rfl (an (by with_reducible rfl) (an (by assumption) (an (show (n - (0 - 0)) * 16 ≤ big from (by unfold big; omega)) (an (by unfold big; omega) (show 0 < 2 from (Nat.le_of_ble_eq_true rfl)))))))) (sl rfl (sl rfl (sl rfl (Exists.intro (0) (an (by with_reducible rfl) (an (sl rfl (an (show 2 = 2 from (by with_reducible rfl)) (show 2 = 2 from (by with_reducible rfl)))) (sl rfl (sl rfl (seqQ_normal (cwp_seq (cwp_region (sl rfl (sl rfl (seqQ_normal (cwp_ret (endQ_ret (show Exists _ from ?_)))))))))))))))))))))))))))))))); rotate_right; (have hf1 := hb1; simp only [decide_eq_true_eq] at hf1; exfalso; omega)))
  refine ⟨[0], ?_⟩
  (refine (an (an rfl (an rfl (an rfl (Nat.le_of_ble_eq_true rfl)))) (an (an (an (an rfl (an (show 2 = 2 from (by with_reducible rfl)) (an (by with_reducible rfl) (by with_reducible rfl)))) (Nat.le_of_ble_eq_true rfl)) True.intro) (an (an (an (show 2 = 2 from (by with_reducible rfl)) (by omega)) (fun i => (fun hi => (LEqv.refl _)))) True.intro))))

theorem flat_take (rows : List (List Item)) {k : Nat} (h : k < rows.length) : (rows.take (k + 1)).flatten = (rows.take k).flatten ++ nth rows k := by
  rw [take_succ h]; simp
theorem flat_le (rows : List (List Item)) (k : Nat) : (rows.take k).flatten.length ≤ rows.flatten.length := by
  conv => rhs; rw [← List.take_append_drop k rows]
  rw [List.flatten_append, List.length_append]
  omega
theorem row_le (rows : List (List Item)) {k : Nat} (h : k < rows.length) : (nth rows k).length ≤ rows.flatten.length := by
  have h1 := flat_le rows (k + 1)
  rw [flat_take rows h, List.length_append] at h1
  omega

def catF (rows : List (List Item)) (k i : Nat) : List D := if i < (rows.take k).flatten.length then dItem (nth rows.flatten i) else [dint 0, dint 0]
theorem catF_len (rows : List (List Item)) (k i : Nat) : (catF rows k i).length = 2 := by unfold catF; split <;> rfl

theorem pc_Concat (rows : List (List Item)) (hl : rows.length ≤ 1000) (hf : rows.flatten.length ≤ 1000) : PC Try.prog 94 [aRows rows] (aItems rows.flatten) := by
  refine PC_of tab_ok mixed (Try.func94) rfl (by kernel_rfl) (Nat.le_of_ble_eq_true rfl) rfl ?_
  (refine (cwp_seq (cwp_region (sl rfl (seqQ_normal (cwp_seq (cwp_region (sl rfl (seqQ_normal (cwp_seq (cwp_seq (cwp_region (sl rfl (sl rfl (sl rfl (seqQ_normal (cwp_block (cwp_loop ?_))))))))))))))))))
  refine AWP_for tab_ok mixed (fun k => rows.length - k) (fun k => k ≤ rows.length) (fun k => [(0, aRows rows), (3, aint .i64 ((rows.take k).flatten.length : Nat)), (9, aRows rows), (10, aint .i64 rows.length), (11, aint .i64 (k : Nat))])
    (fun _ => []) 0 [] ?_ (Nat.zero_le _) ?_
  · (refine (an (an (by omega) (an rfl (an rfl (Nat.le_of_ble_eq_true rfl)))) (an (an (DEqv.refl _) (an (DEqv.refl _) (an (DEqv.refl _) (an (DEqv.refl _) (an (DEqv.refl _) True.intro))))) True.intro)))
  · intro k hk
    have h1 := flat_le rows k
    by_cases hlt : k < rows.length
    · have h2 := row_le rows hlt
      have h3 := flat_take rows hlt
      (focus (refine (cwp_seq (cwp_region (an (by with_reducible rfl) (sl rfl (seqQ_normal (cwp_seq (cwp_cond (an (fun (hb1 : decide ((↑k : Int) < (↑rows.length : Int)) = true) => ?_) (fun (hb4 : decide ((↑k : Int) < (↑rows.length : Int)) = false) => ?_))))))))); rotate_right; (have hf4 := hb4; simp only [decide_eq_false_iff_not, Int.not_lt] at hf4; exfalso; omega); rotate_right; (have hf1 := hb1; simp only [decide_eq_true_eq] at hf1; focus (refine (cwp_skip (seqQ_normal (cwp_seq (cwp_block (cwp_seq (cwp_region (Exists.intro (k) (an (an (by with_reducible rfl) (an (by assumption) (show 1 = 1 from (by with_reducible rfl)))) (sl rfl (sl rfl (sl rfl (seqQ_normal (cwp_seq (cwp_region (sl rfl (sl rfl (sl rfl (an (by with_reducible rfl) (ez (wrap64 (by omega)) (sl rfl (sl rfl (seqQ_normal (cwp_seq (cwp_region (sl rfl (an (by with_reducible rfl) (sl rfl (seqQ_normal (cwp_cond (an (fun (hb2 : decide ((↑(List.take k rows).flatten.length : Int) + (↑(nth rows k).length : Int) < 0) = true) => ?_) (fun (hb3 : decide ((↑(List.take k rows).flatten.length : Int) + (↑(nth rows k).length : Int) < 0) = false) => ?_))))))))))))))))))))))))))))))); rotate_right; (have hf3 := hb3; simp only [decide_eq_false_iff_not, Int.not_lt] at hf3; refine (cwp_skip (blockQ_normal (seqQ_normal (cwp_region (an (by with_reducible rfl) (ez (wrap64 (by omega)) (sl rfl (sl rfl (seqQ_normal (show Exists _ from ?_))))))))))); rotate_right; (have hf2 := hb2; simp only [decide_eq_true_eq] at hf2; exfalso; omega)))))
      refine ⟨k + 1, [], ⟨by omega, by omega⟩, ?_⟩
      (refine (an (an (by omega) (an rfl (an rfl (Nat.le_of_ble_eq_true rfl)))) (an (an (DEqv.refl _) (an (DEqv.int (show (↑(List.take k rows).flatten.length : Int) + (↑(nth rows k).length : Int) = (↑(List.take (k + 1) rows).flatten.length : Int) from ?_)) (an (DEqv.refl _) (an (DEqv.refl _) (an (DEqv.refl _) True.intro))))) True.intro)))
      rw [h3, List.length_append]; omega
    · have e : rows.take k = rows := by rw [show k = rows.length by omega]; exact List.take_length
      rw [e]
      by_cases hz : rows.flatten.length = 0
      · rw [hz]
        (focus (refine (cwp_seq (cwp_region (an (by with_reducible rfl) (sl rfl (seqQ_normal (cwp_seq (cwp_cond (an (fun (hb1 : decide ((↑k : Int) < (↑rows.length : Int)) = true) => ?_) (fun (hb2 : decide ((↑k : Int) < (↑rows.length : Int)) = false) => ?_))))))))); rotate_right; (have hf2 := hb2; simp only [decide_eq_false_iff_not, Int.not_lt] at hf2; refine (cwp_exit (seqQ_exit (seqQ_exit (blockQ_here rfl (seqQ_normal (cwp_seq (cwp_region (sl rfl (Or.inl (PC.on (pc_GrowP0) (sl rfl (sl rfl (seqQ_normal (cwp_seq (cwp_seq (cwp_region (sl rfl (sl rfl (sl rfl (seqQ_normal (cwp_block (cwp_loop ?_))))))))))))))))))))))); rotate_right; (have hf1 := hb1; simp only [decide_eq_true_eq] at hf1; exfalso; omega)))
        refine AWP.ghost 6 2 (g := fun _ => [dint 0, dint 0]) rfl ?_
        refine AWP_for tab_ok mixed (fun j => rows.length - j) (fun j => j ≤ rows.length) (fun j => [(6, .row 0 2 0 0), (25, aRows rows), (26, aint .i64 rows.length), (27, aint .i64 (j : Nat))])
          (fun _ => [some (.arr 2 0 fun _ => [dint 0, dint 0])]) 0 [0] ?_ (Nat.zero_le _) ?_
        · (refine (an (an rfl (an rfl (an rfl (Nat.le_of_ble_eq_true rfl)))) (an (an (an (an rfl (an (by with_reducible rfl) (an (by with_reducible rfl) (by with_reducible rfl)))) (Nat.le_of_ble_eq_true rfl)) (an (DEqv.refl _) (an (DEqv.refl _) (an (DEqv.refl _) True.intro)))) (an (an (an (by with_reducible rfl) (by with_reducible rfl)) forall_lt_zero) True.intro))))
        · intro j hj
          by_cases hlt2 : j < rows.length
          · have g2 := row_le rows hlt2
            (focus (refine (cwp_seq (cwp_region (an (by with_reducible rfl) (sl rfl (seqQ_normal (cwp_seq (cwp_cond (an (fun (hb1 : decide ((↑j : Int) < (↑rows.length : Int)) = true) => ?_) (fun (hb2 : decide ((↑j : Int) < (↑rows.length : Int)) = false) => ?_))))))))); rotate_right; (have hf2 := hb2; simp only [decide_eq_false_iff_not, Int.not_lt] at hf2; exfalso; omega); rotate_right; (have hf1 := hb1; simp only [decide_eq_true_eq] at hf1; refine (cwp_skip (seqQ_normal (cwp_seq (cwp_block (cwp_seq (cwp_region (Exists.intro (j) (an (an (by with_reducible rfl) (an (by assumption) (show 1 = 1 from (by with_reducible rfl)))) (sl rfl (sl rfl (sl rfl (seqQ_normal (cwp_region (sl rfl (sl rfl (an (an (Or.inl (by omega)) (fun i => (fun hi => (show ((fun i => dItem (nth (nth rows j) i)) i).length = 2 from (by omega))))) (an (an (show 2 = 2 from (by with_reducible rfl)) (an (show 2 = 2 from (by with_reducible rfl)) forall_lt_zero)) (Or.inr (an (an (by with_reducible rfl) (an (show (0 + (nth rows j).length) * 16 ≤ big from (by omega)) (by omega))) (sl rfl (sl rfl (blockQ_normal (seqQ_normal (cwp_region (an (by with_reducible rfl) (ez (wrap64 (by omega)) (sl rfl (sl rfl (seqQ_normal (show Exists _ from ?_)))))))))))))))))))))))))))))))))
            refine ⟨j + 1, [1], ⟨by omega, by omega⟩, ?_⟩
            (refine (an (an rfl (an rfl (an rfl (Nat.le_of_ble_eq_true rfl)))) (an (an (an (an rfl (an (show 2 = 2 from (by with_reducible rfl)) (an (by with_reducible rfl) (by omega)))) (Nat.le_of_ble_eq_true rfl)) (an (DEqv.refl _) (an (DEqv.refl _) (an (DEqv.refl _) True.intro)))) (an (an (an (show 2 = 2 from (by with_reducible rfl)) (by omega)) (fun i => (fun hi => (by omega)))) True.intro))))
          · (focus (refine (cwp_seq (cwp_region (an (by with_reducible rfl) (sl rfl (seqQ_normal (cwp_seq (cwp_cond (an (fun (hb1 : decide ((↑j : Int) < (↑rows.length : Int)) = true) => ?_) (fun (hb2 : decide ((↑j : Int) < (↑rows.length : Int)) = false) => ?_))))))))); rotate_right; (have hf2 := hb2; simp only [decide_eq_false_iff_not, Int.not_lt] at hf2; refine (cwp_exit (seqQ_exit (seqQ_exit (blockQ_here rfl (seqQ_normal (cwp_seq (cwp_region (sl rfl (sl rfl (seqQ_normal (cwp_ret (endQ_ret (an (by with_reducible rfl) (an (an (by with_reducible rfl) (sl rfl (an (by omega) (Or.inl (by assumption))))) (fun i => (fun hi => (by omega)))))))))))))))))); rotate_right; (have hf1 := hb1; simp only [decide_eq_true_eq] at hf1; exfalso; omega)))
      · have g := ac_GrowP rows.flatten.length (by omega) hf
        (focus (refine (cwp_seq (cwp_region (an (by with_reducible rfl) (sl rfl (seqQ_normal (cwp_seq (cwp_cond (an (fun (hb1 : decide ((↑k : Int) < (↑rows.length : Int)) = true) => ?_) (fun (hb2 : decide ((↑k : Int) < (↑rows.length : Int)) = false) => ?_))))))))); rotate_right; (have hf2 := hb2; simp only [decide_eq_false_iff_not, Int.not_lt] at hf2; refine (cwp_exit (seqQ_exit (seqQ_exit (blockQ_here rfl (seqQ_normal (cwp_seq (cwp_region (sl rfl (Or.inr (Framed.on (g.under []) rfl (an (an (by omega) (an rfl (an rfl (Nat.le_of_ble_eq_true rfl)))) (an (an (DEqv.refl _) (an (DEqv.refl _) True.intro)) True.intro)) (sl rfl (sl rfl (seqQ_normal (cwp_seq (cwp_seq (cwp_region (sl rfl (sl rfl (sl rfl (seqQ_normal (cwp_block (cwp_loop ?_))))))))))))))))))))))); rotate_right; (have hf1 := hb1; simp only [decide_eq_true_eq] at hf1; exfalso; omega)))
        refine AWP_for tab_ok mixed (fun j => rows.length - j) (fun j => j ≤ rows.length) (fun j => [(6, .row 0 2 0 (rows.take j).flatten.length), (25, aRows rows), (26, aint .i64 rows.length), (27, aint .i64 (j : Nat))])
          (fun j => [some (.arr 2 rows.flatten.length (catF rows j))]) 0 [0] ?_ (Nat.zero_le _) ?_
        · (refine (an (an rfl (an rfl (an rfl (Nat.le_of_ble_eq_true rfl)))) (an (an (an (an rfl (an (by with_reducible rfl) (an (by with_reducible rfl) rfl))) (Nat.le_of_ble_eq_true rfl)) (an (DEqv.refl _) (an (DEqv.refl _) (an (DEqv.refl _) True.intro)))) (an (an (an (by with_reducible rfl) (by with_reducible rfl)) (fun i => (fun hi => (LEqv.refl _)))) True.intro))))
        · intro j hj
          have g1 := flat_le rows j
          by_cases hlt2 : j < rows.length
          · have g2 := row_le rows hlt2
            have g3 := flat_take rows hlt2
            have g4 := flat_le rows (j + 1)
            rw [g3, List.length_append] at g4
            (focus (refine (cwp_seq (cwp_region (an (by with_reducible rfl) (sl rfl (seqQ_normal (cwp_seq (cwp_cond (an (fun (hb1 : decide ((↑j : Int) < (↑rows.length : Int)) = true) => ?_) (fun (hb2 : decide ((↑j : Int) < (↑rows.length : Int)) = false) => ?_))))))))); rotate_right; (have hf2 := hb2; simp only [decide_eq_false_iff_not, Int.not_lt] at hf2; exfalso; omega); rotate_right; (have hf1 := hb1; simp only [decide_eq_true_eq] at hf1; refine (cwp_skip (seqQ_normal (cwp_seq (cwp_block (cwp_seq (cwp_region (Exists.intro (j) (an (an (by with_reducible rfl) (an (by assumption) (show 1 = 1 from (by with_reducible rfl)))) (sl rfl (sl rfl (sl rfl (seqQ_normal (cwp_region (sl rfl (sl rfl (an (an (Or.inr (show 2 = 2 from (by with_reducible rfl))) (fun i => (fun hi => (show ((fun i => dItem (nth (nth rows j) i)) i).length = 2 from rfl)))) (an (an (show 2 = 2 from (by with_reducible rfl)) (an (show 2 = 2 from (by with_reducible rfl)) (fun i => (fun hi => (show (catF rows j i).length = 2 from ?_))))) (Or.inl (an (by omega) (sl rfl (sl rfl (blockQ_normal (seqQ_normal (cwp_region (an (by with_reducible rfl) (ez (wrap64 (by omega)) (sl rfl (sl rfl (seqQ_normal (show Exists _ from ?_)))))))))))))))))))))))))))))))))
            · exact catF_len rows j i
            · refine ⟨j + 1, [0], ⟨by omega, by omega⟩, ?_⟩
              (refine (an (an rfl (an rfl (an rfl (Nat.le_of_ble_eq_true rfl)))) (an (an (an (an rfl (an (show 2 = 2 from (by with_reducible rfl)) (an (by with_reducible rfl) (show (List.take j rows).flatten.length + (nth rows j).length = (List.take (j + 1) rows).flatten.length from ?_)))) (Nat.le_of_ble_eq_true rfl)) (an (DEqv.refl _) (an (DEqv.refl _) (an (DEqv.refl _) True.intro)))) (an (an (an (show 2 = 2 from (by with_reducible rfl)) (by with_reducible rfl)) (fun i => (fun hi => (show LEqv (putF (0 + (List.take j rows).flatten.length) (nth rows j).length (catF rows j) (fun i => dItem (nth (nth rows j) i)) i) (catF rows (j + 1) i) from ?_)))) True.intro))))
              · rw [g3, List.length_append]
              · rw [Nat.zero_add]
                refine LEqv.of_eq ?_
                have e : ∀ q, q < (nth rows j).length → nth (nth rows j) q = nth rows.flatten ((rows.take j).flatten.length + q) := by
                  intro q hq
                  have h5 : rows.flatten = (rows.take j).flatten ++ (nth rows j ++ (rows.drop (j + 1)).flatten) := by
                    conv => lhs; rw [← List.take_append_drop (j + 1) rows]
                    rw [List.flatten_append, g3, List.append_assoc]
                  rw [h5, nth_append, if_neg (by omega), nth_append, show (rows.take j).flatten.length + q - (rows.take j).flatten.length = q by omega, if_pos hq]
                unfold putF catF
                rw [g3, List.length_append]
                by_cases h1 : i < (rows.take j).flatten.length
                · rw [if_neg (by omega), if_pos h1, if_pos (by omega)]
                · by_cases h2 : i < (rows.take j).flatten.length + (nth rows j).length
                  · rw [if_pos (by omega), if_pos h2]
                    show dItem (nth (nth rows j) (i - (rows.take j).flatten.length)) = _
                    rw [e _ (by omega), show (rows.take j).flatten.length + (i - (rows.take j).flatten.length) = i by omega]
                  · rw [if_neg (by omega), if_neg h1, if_neg h2]
          · have e2 : rows.take j = rows := by rw [show j = rows.length by omega]; exact List.take_length
            (focus (refine (cwp_seq (cwp_region (an (by with_reducible rfl) (sl rfl (seqQ_normal (cwp_seq (cwp_cond (an (fun (hb1 : decide ((↑j : Int) < (↑rows.length : Int)) = true) => ?_) (fun (hb2 : decide ((↑j : Int) < (↑rows.length : Int)) = false) => ?_))))))))); rotate_right; (have hf2 := hb2; simp only [decide_eq_false_iff_not, Int.not_lt] at hf2; refine (cwp_exit (seqQ_exit (seqQ_exit (blockQ_here rfl (seqQ_normal (cwp_seq (cwp_region (sl rfl (sl rfl (seqQ_normal (cwp_ret (endQ_ret (an (by with_reducible rfl) (an (an (by with_reducible rfl) (an (by omega) (an (show (List.take j rows).flatten.length = rows.flatten.length from ?_) (Or.inr (by with_reducible rfl))))) (fun i => (fun hi => (show LEqv (catF rows j (0 + i)) (dItem (nth rows.flatten i)) from ?_)))))))))))))))))); rotate_right; (have hf1 := hb1; simp only [decide_eq_true_eq] at hf1; exfalso; omega)))
            · rw [e2]
            · rw [Nat.zero_add]
              unfold catF
              rw [e2, if_pos hi]
              exact LEqv.refl _

theorem pc_WithP (l more : List Item) (at' gone : Nat) (hl : l.length ≤ 100) (hm : more.length ≤ 100) (h : at' + gone ≤ l.length) :
    PC Try.prog 59 [aItems l, aint .i64 at', aint .i64 gone, aItems more] (aItems (withOf l at' gone more)) := by
  have e : withOf l at' gone more = [l.take at', more, l.drop (at' + gone)].flatten := by simp [withOf]
  have g := pc_Concat [l.take at', more, l.drop (at' + gone)] (by simp) (by simp; omega)
  rw [e]
  refine PC_of tab_ok mixed (Try.func59) rfl (by kernel_rfl) (Nat.le_of_ble_eq_true rfl) rfl ?_
  (refine (cwp_seq (cwp_region (sl rfl (seqQ_normal (cwp_seq (cwp_draw (sl rfl (sl rfl (sl rfl (Exists.intro (at') (an (by with_reducible rfl) (Exists.intro (at') (an (by with_reducible rfl) (an (an (sl rfl (an (by omega) (an (by with_reducible rfl) rfl))) (Or.inr (show 2 = 2 from (by with_reducible rfl)))) (sl rfl (sl rfl (sl rfl (sl rfl (sl rfl (an (by with_reducible rfl) (ez (wrap64 (by omega)) (sl rfl (Exists.intro (at' + gone) (an (by omega) (an (an (an (by assumption) (by omega)) (Or.inr (show 2 = 2 from (by with_reducible rfl)))) (sl rfl (an (an (show 3 * 1 ≤ 16777216 from (Nat.le_of_ble_eq_true rfl)) (Nat.le_of_ble_eq_true rfl)) (an (show [AV.d (D.sl true 2 (at' - 0) fun i => (fun i => dItem (nth l i)) (0 + i))].length = 1 from rfl) (an (show [AV.d (dItems more)].length = 1 from rfl) (an (show [AV.d (D.sl (false && (none.isNone || zB l.length)) 2 (l.length - (at' + gone)) fun i => (fun i => dItem (nth l i)) (at' + gone + i))].length = 1 from rfl) (sl rfl (Or.inl (PC.at (g) (an ?_ True.intro) (sl rfl (sl rfl (an (by kernel_rfl) (seqQ_normal (cwp_ret (endQ_ret (DEqv.refl _)))))))))))))))))))))))))))))))))))))))))
  refine DEqv.sl rfl (fun e => by cases e) (.inr rfl) fun i hi => ?_
  match i, hi with
  | 0, _ =>
    have e0 : at' - 0 = (l.take at').length := by rw [Nat.sub_zero, List.length_take]; omega
    refine LEqv_items e0 fun j hj => LEqv.of_eq ?_
    show dItem (nth l (0 + j)) = dItem (nth (l.take at') j)
    rw [nth_take _ _ _ (by omega), Nat.zero_add]
  | 1, _ => exact LEqv.refl _
  | 2, _ => exact LEqv_items (by show l.length - (at' + gone) = (l.drop (at' + gone)).length; rw [List.length_drop]) fun j hj => LEqv.of_eq (by show dItem (nth l (at' + gone + j)) = dItem (nth (l.drop (at' + gone)) j); rw [nth_drop])

theorem pc_SplitP : ∀ (n : Nat) (l : List Item), l.length ≤ n → l.length ≤ 1000 → PC Try.prog 70 [aItems l] (aRows (rowsOf l)) := by
  intro n
  induction n with
  | zero =>
    intro l hn _
    obtain rfl : l = [] := List.eq_nil_of_length_eq_zero (by omega)
    refine PC_of tab_ok mixed (Try.func70) rfl (by kernel_rfl) (Nat.le_of_ble_eq_true rfl) rfl ?_
    (refine (cwp_seq (cwp_region (sl rfl (seqQ_normal (cwp_seq (cwp_block (cwp_seq (cwp_region (sl rfl (sl rfl (an (by with_reducible rfl) (sl rfl (sl rfl (seqQ_normal (cwp_cond (oT rfl (cwp_seq (cwp_region (sl rfl (seqQ_normal (cwp_ret (blockQ_ret (seqQ_ret (endQ_ret DEqv.nil)))))))))))))))))))))))))
  | succ n ih =>
    intro l hn hl
    have hr := rowsOf_len (l.drop 3)
    simp only [List.length_drop] at hr
    have g := ih (l.drop 3) (by simp; omega) (by simp; omega)
    refine PC_of tab_ok mixed (Try.func70) rfl (by kernel_rfl) (Nat.le_of_ble_eq_true rfl) rfl ?_
    (focus (refine (cwp_seq (cwp_region (sl rfl (seqQ_normal (cwp_seq (cwp_block (cwp_seq (cwp_region (sl rfl (sl rfl (an (by with_reducible rfl) (sl rfl (sl rfl (seqQ_normal (cwp_cond (an (fun (hb1 : ((↑l.length : Int) == 0) = true) => ?_) (fun (hb2 : ((↑l.length : Int) == 0) = false) => ?_))))))))))))))))); rotate_right; (have hf2 := hb2; simp only [ne_eq, beq_eq_false_iff_ne] at hf2; focus (refine (cwp_seq (cwp_region (sl rfl (sl rfl (an (by with_reducible rfl) (sl rfl (sl rfl (seqQ_normal (cwp_cond (an (fun (hb3 : decide ((↑l.length : Int) ≤ 4) = true) => ?_) (fun (hb4 : decide ((↑l.length : Int) ≤ 4) = false) => ?_))))))))))); rotate_right; (have hf4 := hb4; simp only [decide_eq_false_iff_not, Int.not_le] at hf4; refine (cwp_skip (blockQ_normal (seqQ_normal (cwp_seq (cwp_draw (sl rfl (Exists.intro (3) (an (by omega) (Exists.intro (3) (an (by omega) (an (an (sl rfl (an (by omega) (an (by with_reducible rfl) rfl))) (Or.inr (show 2 = 2 from (by with_reducible rfl)))) (sl rfl (an (an (show 1 * 1 ≤ 16777216 from (Nat.le_of_ble_eq_true rfl)) (Nat.le_of_ble_eq_true rfl)) (an (show [AV.d (D.sl true 2 (3 - 0) fun i => (fun i => dItem (nth l i)) (0 + i))].length = 1 from rfl) (sl rfl (sl rfl (Exists.intro (3) (an (by omega) (an (an (an (by omega) (by omega)) (Or.inr (show 2 = 2 from (by with_reducible rfl)))) (sl rfl (Or.inl (PC.at (g) (an ?_ True.intro) (sl rfl (an (an (Or.inr (show 1 = 1 from (by with_reducible rfl))) (fun i => (fun hi => (show ((fun i => [dItems (nth (rowsOf (List.drop 3 l)) i)]) i).length = 1 from rfl)))) (an (an (an (by with_reducible rfl) ?_) (an (Or.inr (show 1 = 1 from (by with_reducible rfl))) (an (forall_lt_one (show ((fun q => List.take 1 (List.drop (q * 1) [D.sl true 2 (3 - 0) fun i => (fun i => dItem (nth l i)) (0 + i)])) 0).length = 1 from rfl)) (an (show (1 + (rowsOf (List.drop 3 l)).length) * 24 ≤ big from (by unfold big; omega)) (by unfold big; omega))))) (sl rfl (sl rfl (an (by kernel_rfl) (seqQ_normal (cwp_ret (endQ_ret (an (by with_reducible rfl) (an (an (show 1 = 1 from (by with_reducible rfl)) (an (by omega) (an (show 1 + (rowsOf (List.drop 3 l)).length = (rowsOf l).length from ?_) (Or.inr (show 1 = 1 from (by with_reducible rfl)))))) (fun i => (fun hi => (show LEqv (appF 1 (fun q => List.take ti27.size (List.drop (q * ti27.size) [D.sl true 2 (3 - 0) fun i => dItem (nth l (0 + i))])) (fun i => [dItems (nth (rowsOf (List.drop 3 l)) i)]) (0 + i)) [dItems (nth (rowsOf l) i)] from ?_))))))))))))))))))))))))))))))))))))); rotate_right; (have hf3 := hb3; simp only [decide_eq_true_eq] at hf3; refine (cwp_seq (cwp_region (sl rfl (an (an (show 1 * 1 ≤ 16777216 from (Nat.le_of_ble_eq_true rfl)) (Nat.le_of_ble_eq_true rfl)) (an (show [AV.d (dItems l)].length = 1 from rfl) (sl rfl (sl rfl (seqQ_normal (cwp_ret (blockQ_ret (seqQ_ret (endQ_ret (show DEqv (D.sl true ti27.size 1 fun q => List.take ti27.size (List.drop (q * ti27.size) [dItems l])) (D.sl false 1 (rowsOf l).length fun i => [dItems (nth (rowsOf l) i)]) from ?_)))))))))))))))); rotate_right; (have hf1 := hb1; simp only [beq_iff_eq] at hf1; refine (cwp_seq (cwp_region (sl rfl (seqQ_normal (cwp_ret (blockQ_ret (seqQ_ret (endQ_ret (show DEqv (D.sl true 0 0 fun x => []) (D.sl false 1 (rowsOf l).length fun i => [dItems (nth (rowsOf l) i)]) from ?_))))))))))))
    · obtain rfl : l = [] := List.eq_nil_of_length_eq_zero (by omega)
      exact DEqv.sl rfl (fun _ => rfl) (.inl rfl) fun i hi => absurd hi (Nat.not_lt_zero i)
    · rw [rowsOf_small (by omega) (by omega)]
      refine DEqv.sl rfl (fun _ => rfl) (.inr rfl) fun i hi => ?_
      obtain rfl : i = 0 := by omega
      exact LEqv.refl _
    · exact DEqv.sl (by simp) (fun e => by cases e) (.inr rfl) fun i hi => LEqv.of_eq (by rw [nth_drop])
    · exact .inr (hr.2 (by intro e; have := congrArg List.length e; simp at this; omega))
    · rw [rowsOf_big (l := l) (by omega)]; simp; omega
    · rw [rowsOf_big (l := l) (by omega)] at hi ⊢
      rw [Nat.zero_add]
      refine LEqv_app (k := 1) (n := (rowsOf (l.drop 3)).length) (h := fun i => [dItems (nth (l.take 3 :: rowsOf (l.drop 3)) i)]) (by simp at hi; omega) (fun h1 => ?_) fun j hj => ?_
      · obtain rfl : i = 0 := by omega
        refine LEqv_items (by show 3 - 0 = (l.take 3).length; simp; omega) fun j hj => LEqv.of_eq ?_
        show dItem (nth l (0 + j)) = dItem (nth (l.take 3) j)
        rw [nth_take _ _ _ (by omega), Nat.zero_add]
      · refine LEqv.of_eq ?_
        rw [show nth (l.take 3 :: rowsOf (l.drop 3)) (1 + j) = nth (rowsOf (l.drop 3)) j by rw [Nat.add_comm]; rfl]
end Go.Proofs.Abs
