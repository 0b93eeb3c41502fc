/- What is held, and what is sound, by the reference. -/
import Derived.Test.YtonbocppkanogaaZE6
set_option linter.all false
namespace Go.Proofs.Abs
open Go Go.RowKit Go.Proofs
attribute [local irreducible] cwp seqQ blockQ endQ DEqv LEqv AWP drawOK

theorem anyTo_iff {n : Nat} {g : Nat → Bool} : anyTo n g = true ↔ ∃ i, i < n ∧ g i = true := by
  induction n with
  | zero => simp [anyTo]
  | succ n ih =>
    simp only [anyTo, Bool.or_eq_true, ih]
    constructor
    · rintro (⟨i, h1, h2⟩ | h)
      · exact ⟨i, by omega, h2⟩
      · exact ⟨n, by omega, h⟩
    · rintro ⟨i, h1, h2⟩
      by_cases e : i = n
      · subst e; exact .inr h2
      · exact .inl ⟨i, by omega, h2⟩
theorem heldStep_nth {c : List Cell} {b : List Bool} {q : Nat} (h : q < c.length) : nth (heldStep c b) q = (nth b q || anyTo c.length fun p => nth b p && decide (0 < tellsOf (nth c p) (q : Int))) := by
  unfold heldStep
  rw [nth_map _ (by simpa using h), nth_range h]

/-- What is held once the first p cells' words are followed, and of the next one those to the first q cells. -/
def heldPart (c : List Cell) (b : List Bool) (p q : Nat) (i : Nat) : Bool :=
  nth b i || (anyTo p fun p => nth b p && decide (0 < tellsOf (nth c p) (i : Int))) || (decide (i < q) && nth b p && decide (0 < tellsOf (nth c p) (i : Int)))

theorem heldPart_yes {c : List Cell} {b : List Bool} {p q i : Nat} (h : nth b p = true) (ht : 0 < tellsOf (nth c p) (q : Int)) : heldPart c b p (q + 1) i = if i = q then true else heldPart c b p q i := by
  unfold heldPart
  by_cases e : i = q
  · subst e; simp [h, ht]
  · rw [if_neg e]
    congr 3
    rw [decide_eq_decide]; omega
theorem heldPart_no {c : List Cell} {b : List Bool} {p q i : Nat} (ht : ¬ 0 < tellsOf (nth c p) (q : Int)) : heldPart c b p (q + 1) i = heldPart c b p q i := by
  unfold heldPart
  by_cases e : i = q
  · subst e; simp [ht]
  · congr 3
    rw [decide_eq_decide]; omega
theorem heldPart_end {c : List Cell} {b : List Bool} {p q i : Nat} (h : i < q) : heldPart c b (p + 1) 0 i = heldPart c b p q i := by
  unfold heldPart
  simp [anyTo, h, Bool.or_assoc]
theorem heldPart_skip {c : List Cell} {b : List Bool} {p q i : Nat} (h : nth b p = false) : heldPart c b (p + 1) 0 i = heldPart c b p q i := by
  unfold heldPart
  simp [anyTo, h]
theorem heldPart_0 {c : List Cell} {b : List Bool} {i : Nat} : heldPart c b 0 0 i = nth b i := by simp [heldPart, anyTo]
theorem heldPart_done {c : List Cell} {b : List Bool} {i : Nat} (h : i < c.length) : heldPart c b c.length 0 i = nth (heldStep c b) i := by
  rw [heldStep_nth h]
  simp [heldPart]

theorem LEqv_bool {a b : Bool} (h : a = b) : LEqv [dbool a] [dbool b] := h ▸ LEqv.refl _

theorem pc_Held (c : List Cell) (keep : Int) (roots : List Int) (hc : c.length ≤ 2000) (hi : ∀ i, (nth c i).n.it.length ≤ 1000) (hr : roots.length ≤ 1000) : PC Try.prog 91 [aHeap c keep, aInts roots, aNone] (aBools (heldOf c roots 25)) := by
  refine PC_of tab_ok mixed (Try.func91) rfl (by kernel_rfl) (Nat.le_of_ble_eq_true rfl) rfl ?_
  (refine (cwp_seq (cwp_region (sl rfl (sl rfl (seqQ_normal (cwp_seq (cwp_region (sl rfl (sl rfl (sl rfl (Exists.intro (c.length) (Exists.intro (c.length) (an (an (by with_reducible rfl) (an (by with_reducible rfl) (an (by omega) (an (show c.length * 1 ≤ big from (by unfold big; omega)) (an (by unfold big; omega) (show 0 < 1 from (Nat.le_of_ble_eq_true rfl))))))) (sl rfl (sl rfl (seqQ_normal (cwp_seq (cwp_seq (cwp_region (sl rfl (seqQ_normal (cwp_block (cwp_loop ?_))))))))))))))))))))))))
  refine AWP_for tab_ok mixed (fun k => c.length - k) (fun k => k ≤ c.length) (fun k => [(1, aInts roots), (2, aNone), (3, .own 0 0), (7, .row 1 1 0 c.length), (8, aint .i64 (k : Nat))])
    (fun k => [some (hbox c keep), some (.arr 1 c.length fun i => [dbool (decide (i < k ∧ 0 < rc roots (i : Int)))])]) 0 [0, 1] ?_ (Nat.zero_le _) ?_
  · (refine (an (an rfl (an rfl (an rfl (Nat.le_of_ble_eq_true rfl)))) (an (an (DEqv.refl _) (an (DEqv.refl _) (an (an (an rfl (by with_reducible rfl)) (Nat.le_of_ble_eq_true rfl)) (an (an (an rfl (an (show 1 = 1 from (by with_reducible rfl)) (an (by with_reducible rfl) (by with_reducible rfl)))) (Nat.le_of_ble_eq_true rfl)) (an (DEqv.refl _) True.intro))))) (an (an (DEqv.refl _) (an (DEqv.refl _) True.intro)) (an (an (an (show 1 = 1 from (by with_reducible rfl)) (by with_reducible rfl)) (fun i => (fun hi => (LEqv.refl _)))) True.intro)))))
  · intro k hk
    by_cases hlt : k < c.length
    · have g := pc_outside roots k hr
      (focus (refine (cwp_seq (cwp_seq (cwp_region (sl rfl (sl rfl (sl rfl (sl rfl (an (by with_reducible rfl) (sl rfl (seqQ_normal (cwp_cond (an (fun (hb1 : decide ((↑k : Int) < (↑c.length : Int)) = true) => ?_) (fun (hb2 : decide ((↑k : Int) < (↑c.length : Int)) = false) => ?_))))))))))))); rotate_right; (have hf2 := hb2; simp only [decide_eq_false_iff_not, Int.not_lt] at hf2; exfalso; omega); rotate_right; (have hf1 := hb1; simp only [decide_eq_true_eq] at hf1; refine (cwp_skip (seqQ_normal (cwp_seq (cwp_block (cwp_region (sl rfl (sl rfl (sl rfl (sl rfl (sl rfl (Or.inl (PC.on (g) (sl rfl (an (by with_reducible rfl) (sl rfl (Exists.intro (k) (an (an (by with_reducible rfl) (an (by assumption) (an (by omega) (an (show 1 = 1 from (by with_reducible rfl)) (by with_reducible rfl))))) (sl rfl (an (show [AV.d (D.v (Value.bool (decide ((↑(rc roots (↑k : Int)) : Int) > 0))))].length = 1 from rfl) (an (an (an (by with_reducible rfl) (by assumption)) (fun i => (fun hi => (Nat.le_of_ble_eq_true rfl)))) (blockQ_normal (seqQ_normal (cwp_region (sl rfl (an (by with_reducible rfl) (ez (wrap64 (by omega)) (sl rfl (sl rfl (seqQ_normal (show Exists _ from ?_)))))))))))))))))))))))))))))))))
      refine ⟨k + 1, [0, 1], ⟨by omega, by omega⟩, ?_⟩
      (refine (an (an rfl (an rfl (an rfl (Nat.le_of_ble_eq_true rfl)))) (an (an (DEqv.refl _) (an (DEqv.refl _) (an (an (an rfl (by with_reducible rfl)) (Nat.le_of_ble_eq_true rfl)) (an (an (an rfl (an (by with_reducible rfl) (an (by with_reducible rfl) (by with_reducible rfl)))) (Nat.le_of_ble_eq_true rfl)) (an (DEqv.refl _) True.intro))))) (an (an (DEqv.refl _) (an (DEqv.refl _) True.intro)) (an (an (an (by with_reducible rfl) (by with_reducible rfl)) (fun i => (fun hi => (show LEqv (setF (fun i => [dbool (decide (i < k ∧ 0 < rc roots (↑i : Int)))]) k [D.v (Value.bool (decide ((↑(rc roots (↑k : Int)) : Int) > 0)))] i) [dbool (decide (i < k + 1 ∧ 0 < rc roots (↑i : Int)))] from ?_)))) True.intro)))))
      simp only [setF]
      by_cases e : i = k
      · subst e
        rw [if_pos rfl]
        exact LEqv_bool (by rw [decide_eq_decide]; omega)
      · rw [if_neg e]
        exact LEqv_bool (by rw [decide_eq_decide]; omega)
    · (focus (refine (cwp_seq (cwp_seq (cwp_region (sl rfl (sl rfl (sl rfl (sl rfl (an (by with_reducible rfl) (sl rfl (seqQ_normal (cwp_cond (an (fun (hb1 : decide ((↑k : Int) < (↑c.length : Int)) = true) => ?_) (fun (hb2 : decide ((↑k : Int) < (↑c.length : Int)) = false) => ?_))))))))))))); rotate_right; (have hf2 := hb2; simp only [decide_eq_false_iff_not, Int.not_lt] at hf2; refine (cwp_exit (seqQ_exit (seqQ_exit (blockQ_here rfl (seqQ_normal (cwp_seq (cwp_seq (cwp_region (sl rfl (seqQ_normal (cwp_block (cwp_loop ?_))))))))))))); rotate_right; (have hf1 := hb1; simp only [decide_eq_true_eq] at hf1; exfalso; omega)))
      refine AWP_for tab_ok mixed (fun j => 25 - j) (fun j => j ≤ 25) (fun j => [(1, aInts roots), (2, aNone), (3, .own 0 0), (7, .row 1 1 0 c.length), (9, aint .i64 (j : Nat))])
        (fun j => [some (hbox c keep), some (.arr 1 c.length fun i => [dbool (nth (heldOf c roots j) i)])]) 0 [0, 1] ?_ (Nat.zero_le _) ?_
      · (refine (an (an rfl (an rfl (an rfl (Nat.le_of_ble_eq_true rfl)))) (an (an (DEqv.refl _) (an (DEqv.refl _) (an (an (an rfl (by with_reducible rfl)) (Nat.le_of_ble_eq_true rfl)) (an (an (an rfl (an (by with_reducible rfl) (an (by with_reducible rfl) (by with_reducible rfl)))) (Nat.le_of_ble_eq_true rfl)) (an (DEqv.refl _) True.intro))))) (an (an (DEqv.refl _) (an (DEqv.refl _) True.intro)) (an (an (an (by with_reducible rfl) (by with_reducible rfl)) (fun i => (fun hi => (show LEqv [dbool (decide (i < k ∧ 0 < rc roots (↑i : Int)))] [dbool (nth (heldOf c roots 0) i)] from ?_)))) True.intro)))))
        refine LEqv_bool ?_
        rw [heldOf, nth_map _ (by simp; omega), nth_range (by omega)]
        rw [decide_eq_decide]; omega
      · intro j hj
        by_cases hj2 : j < 25
        · (focus (refine (cwp_seq (cwp_seq (cwp_region (sl rfl (an (by with_reducible rfl) (sl rfl (seqQ_normal (cwp_cond (an (fun (hb1 : decide ((↑j : Int) < 25) = true) => ?_) (fun (hb2 : decide ((↑j : Int) < 25) = false) => ?_)))))))))); rotate_right; (have hf2 := hb2; simp only [decide_eq_false_iff_not, Int.not_lt] at hf2; exfalso; omega); rotate_right; (have hf1 := hb1; simp only [decide_eq_true_eq] at hf1; refine (cwp_skip (seqQ_normal (cwp_seq (cwp_block (cwp_seq (cwp_region (an (an (show 0 * 1 ≤ 16777216 from (Nat.le_of_ble_eq_true rfl)) (Nat.le_of_ble_eq_true rfl)) (sl rfl (sl rfl (an (an (by with_reducible rfl) (by omega)) (an (an (Or.inr (show 1 = 1 from (by with_reducible rfl))) (fun i => (fun hi => (show ((fun i => (fun i => [dbool (nth (heldOf c roots j) i)]) (0 + i)) i).length = 1 from rfl)))) (an (an (an (by with_reducible rfl) (Or.inl (by with_reducible rfl))) (an (Or.inl (by with_reducible rfl)) (an forall_lt_zero (an (show (0 + c.length) * 1 ≤ big from (by unfold big; omega)) (by unfold big; omega))))) (sl rfl (sl rfl (seqQ_normal (cwp_seq (cwp_seq (cwp_region (sl rfl (seqQ_normal (cwp_block (cwp_loop ?_)))))))))))))))))))))))))
          refine AWP_for tab_ok mixed (fun p => c.length - p) (fun p => p ≤ c.length) (fun p => [(1, aInts roots), (2, aNone), (3, .own 0 0), (7, .row 1 1 0 c.length), (9, aint .i64 (j : Nat)), (10, .row 2 1 0 c.length), (11, aint .i64 (p : Nat))])
            (fun p => [some (hbox c keep), some (.arr 1 c.length fun i => [dbool (nth (heldOf c roots j) i)]), some (.arr 1 c.length fun i => [dbool (heldPart c (heldOf c roots j) p 0 i)])]) 0 [0, 1, 2] ?_ (Nat.zero_le _) ?_
          · (refine (an (an rfl (an rfl (an rfl (Nat.le_of_ble_eq_true rfl)))) (an (an (DEqv.refl _) (an (DEqv.refl _) (an (an (an rfl (by with_reducible rfl)) (Nat.le_of_ble_eq_true rfl)) (an (an (an rfl (an (by with_reducible rfl) (an (by with_reducible rfl) (by with_reducible rfl)))) (Nat.le_of_ble_eq_true rfl)) (an (DEqv.refl _) (an (an (an rfl (an (show 1 = 1 from (by with_reducible rfl)) (an (by with_reducible rfl) (by omega)))) (Nat.le_of_ble_eq_true rfl)) (an (DEqv.refl _) True.intro))))))) (an (an (DEqv.refl _) (an (DEqv.refl _) True.intro)) (an (an (an (by with_reducible rfl) (by with_reducible rfl)) (fun i => (fun hi => (LEqv.refl _)))) (an (an (an (show 1 = 1 from (by with_reducible rfl)) (by omega)) (fun i => (fun hi => (show LEqv (appF 0 (fun q => List.take ti4.size (List.drop (q * ti4.size) [])) (fun i => [dbool (nth (heldOf c roots j) (0 + i))]) i) [dbool (heldPart c (heldOf c roots j) 0 0 i)] from ?_)))) True.intro))))))
            refine LEqv_bool ?_
            rw [heldPart_0, Nat.zero_add, Nat.sub_zero]
          · intro p hp
            by_cases hp2 : p < c.length
            · (focus (refine (cwp_seq (cwp_seq (cwp_region (sl rfl (sl rfl (sl rfl (sl rfl (an (by with_reducible rfl) (sl rfl (seqQ_normal (cwp_cond (an (fun (hb1 : decide ((↑p : Int) < (↑c.length : Int)) = true) => ?_) (fun (hb2 : decide ((↑p : Int) < (↑c.length : Int)) = false) => ?_))))))))))))); rotate_right; (have hf2 := hb2; simp only [decide_eq_false_iff_not, Int.not_lt] at hf2; exfalso; omega); rotate_right; (have hf1 := hb1; simp only [decide_eq_true_eq] at hf1; refine (cwp_skip (seqQ_normal (cwp_seq (cwp_block (cwp_seq (cwp_region (sl rfl (seqQ_normal (cwp_block (cwp_loop ?_)))))))))))))
              refine AWP_for tab_ok mixed (fun q => c.length - q) (fun q => q ≤ c.length ∧ (q = 0 ∨ nth (heldOf c roots j) p = true)) (fun q => [(1, aInts roots), (2, aNone), (3, .own 0 0), (7, .row 1 1 0 c.length), (9, aint .i64 (j : Nat)), (10, .row 2 1 0 c.length), (11, aint .i64 (p : Nat)), (12, aint .i64 (q : Nat))])
                (fun q => [some (hbox c keep), some (.arr 1 c.length fun i => [dbool (nth (heldOf c roots j) i)]), some (.arr 1 c.length fun i => [dbool (heldPart c (heldOf c roots j) p q i)])]) 0 [0, 1, 2] ?_ ⟨Nat.zero_le _, .inl rfl⟩ ?_
              · (refine (an (an rfl (an rfl (an rfl (Nat.le_of_ble_eq_true rfl)))) (an (an (DEqv.refl _) (an (DEqv.refl _) (an (an (an rfl (by with_reducible rfl)) (Nat.le_of_ble_eq_true rfl)) (an (an (an rfl (an (by with_reducible rfl) (an (by with_reducible rfl) (by with_reducible rfl)))) (Nat.le_of_ble_eq_true rfl)) (an (DEqv.refl _) (an (an (an rfl (an (by with_reducible rfl) (an (by with_reducible rfl) (by with_reducible rfl)))) (Nat.le_of_ble_eq_true rfl)) (an (DEqv.refl _) (an (DEqv.refl _) True.intro)))))))) (an (an (DEqv.refl _) (an (DEqv.refl _) True.intro)) (an (an (an (by with_reducible rfl) (by with_reducible rfl)) (fun i => (fun hi => (LEqv.refl _)))) (an (an (an (by with_reducible rfl) (by with_reducible rfl)) (fun i => (fun hi => (LEqv.refl _)))) True.intro))))))
              · rintro q ⟨hq, hq0⟩
                by_cases hq2 : q < c.length
                · have g := pc_Tells c keep q p hp2 (hi p)
                  (focus (refine (cwp_seq (cwp_seq (cwp_region (sl rfl (sl rfl (sl rfl (sl rfl (an (by with_reducible rfl) (sl rfl (sl rfl (sl rfl (an (fun (hb1 : decide ((↑q : Int) < (↑c.length : Int)) = true) => ?_) (fun (hb6 : decide ((↑q : Int) < (↑c.length : Int)) = false) => ?_))))))))))))); rotate_right; (have hf6 := hb6; simp only [decide_eq_false_iff_not, Int.not_lt] at hf6; exfalso; omega); rotate_right; (have hf1 := hb1; simp only [decide_eq_true_eq] at hf1; focus (refine (sl rfl (sl rfl (oT hb1 (sl rfl (sl rfl (oT hb1 (Exists.intro (p) (an (an (by with_reducible rfl) (an (by assumption) (an (by omega) (an (show 1 = 1 from (by with_reducible rfl)) (by with_reducible rfl))))) (sl rfl (sl rfl (oT hb1 (an (an (by with_reducible rfl) (by assumption)) (sl rfl (oT hb1 (sl rfl (seqQ_normal (cwp_cond (an (fun (hb2 : nth (heldOf c roots j) p = true) => ?_) (fun (hb5 : nth (heldOf c roots j) p = false) => ?_))))))))))))))))))); rotate_right; (have hf5 := hb5; refine (cwp_exit (seqQ_exit (seqQ_exit (blockQ_here rfl (blockQ_normal (seqQ_normal (cwp_region (sl rfl (an (by with_reducible rfl) (ez (wrap64 (by omega)) (sl rfl (sl rfl (seqQ_normal (show Exists _ from ?_))))))))))))))); rotate_right; (have hf2 := hb2; focus (refine (cwp_skip (seqQ_normal (cwp_seq (cwp_block (cwp_seq (cwp_region (sl rfl (sl rfl (sl rfl (sl rfl (Or.inl (PC.on (g) (sl rfl (an (by with_reducible rfl) (sl rfl (seqQ_normal (cwp_cond (an (fun (hb3 : decide ((↑(tellsOf (nth c p) (↑q : Int)) : Int) > 0) = true) => ?_) (fun (hb4 : decide ((↑(tellsOf (nth c p) (↑q : Int)) : Int) > 0) = false) => ?_))))))))))))))))))); rotate_right; (have hf4 := hb4; simp only [decide_eq_false_iff_not, Int.not_lt] at hf4; refine (cwp_skip (blockQ_normal (seqQ_normal (cwp_region (sl rfl (an (by with_reducible rfl) (ez (wrap64 (by omega)) (sl rfl (sl rfl (seqQ_normal (show Exists _ from ?_)))))))))))); rotate_right; (have hf3 := hb3; simp only [decide_eq_true_eq, gt_iff_lt] at hf3; refine (cwp_region (sl rfl (sl rfl (Exists.intro (q) (an (an (by with_reducible rfl) (an (by assumption) (an (by omega) (an (show 1 = 1 from (by with_reducible rfl)) (by with_reducible rfl))))) (sl rfl (an (show [AV.d (D.v (Value.bool true))].length = 1 from rfl) (an (an (an (by with_reducible rfl) (by assumption)) (fun i => (fun hi => (Nat.le_of_ble_eq_true rfl)))) (blockQ_normal (seqQ_normal (cwp_region (sl rfl (an (by with_reducible rfl) (ez (wrap64 (by omega)) (sl rfl (sl rfl (seqQ_normal (show Exists _ from ?_)))))))))))))))))))))))))
                  · refine ⟨q + 1, [0, 1, 2], ⟨by omega, by omega, .inr (by assumption)⟩, ?_⟩
                    (refine (an (an rfl (an rfl (an rfl (Nat.le_of_ble_eq_true rfl)))) (an (an (DEqv.refl _) (an (DEqv.refl _) (an (an (an rfl (by with_reducible rfl)) (Nat.le_of_ble_eq_true rfl)) (an (an (an rfl (an (by with_reducible rfl) (an (by with_reducible rfl) (by with_reducible rfl)))) (Nat.le_of_ble_eq_true rfl)) (an (DEqv.refl _) (an (an (an rfl (an (by with_reducible rfl) (an (by with_reducible rfl) (by with_reducible rfl)))) (Nat.le_of_ble_eq_true rfl)) (an (DEqv.refl _) (an (DEqv.refl _) True.intro)))))))) (an (an (DEqv.refl _) (an (DEqv.refl _) True.intro)) (an (an (an (by with_reducible rfl) (by with_reducible rfl)) (fun i => (fun hi => (LEqv.refl _)))) (an (an (an (by with_reducible rfl) (by with_reducible rfl)) (fun i => (fun hi => (show LEqv (setF (fun i => [dbool (heldPart c (heldOf c roots j) p q i)]) q [D.v (Value.bool true)] i) [dbool (heldPart c (heldOf c roots j) p (q + 1) i)] from ?_)))) True.intro))))))
                    simp only [setF]
                    by_cases e : i = q
                    · subst e
                      rw [if_pos rfl, heldPart_yes (by assumption) (by omega), if_pos rfl]
                      exact LEqv.refl _
                    · rw [if_neg e, heldPart_yes (by assumption) (by omega), if_neg e]
                      exact LEqv.refl _
                  · refine ⟨q + 1, [0, 1, 2], ⟨by omega, by omega, .inr (by assumption)⟩, ?_⟩
                    (refine (an (an rfl (an rfl (an rfl (Nat.le_of_ble_eq_true rfl)))) (an (an (DEqv.refl _) (an (DEqv.refl _) (an (an (an rfl (by with_reducible rfl)) (Nat.le_of_ble_eq_true rfl)) (an (an (an rfl (an (by with_reducible rfl) (an (by with_reducible rfl) (by with_reducible rfl)))) (Nat.le_of_ble_eq_true rfl)) (an (DEqv.refl _) (an (an (an rfl (an (by with_reducible rfl) (an (by with_reducible rfl) (by with_reducible rfl)))) (Nat.le_of_ble_eq_true rfl)) (an (DEqv.refl _) (an (DEqv.refl _) True.intro)))))))) (an (an (DEqv.refl _) (an (DEqv.refl _) True.intro)) (an (an (an (by with_reducible rfl) (by with_reducible rfl)) (fun i => (fun hi => (LEqv.refl _)))) (an (an (an (by with_reducible rfl) (by with_reducible rfl)) (fun i => (fun hi => (show LEqv [dbool (heldPart c (heldOf c roots j) p q i)] [dbool (heldPart c (heldOf c roots j) p (q + 1) i)] from ?_)))) True.intro))))))
                    rw [heldPart_no (by omega)]
                    exact LEqv.refl _
                  · refine ⟨p + 1, [0, 1, 2], ⟨by omega, by omega⟩, ?_⟩
                    (refine (an (an rfl (an rfl (an rfl (Nat.le_of_ble_eq_true rfl)))) (an (an (DEqv.refl _) (an (DEqv.refl _) (an (an (an rfl (by with_reducible rfl)) (Nat.le_of_ble_eq_true rfl)) (an (an (an rfl (an (by with_reducible rfl) (an (by with_reducible rfl) (by with_reducible rfl)))) (Nat.le_of_ble_eq_true rfl)) (an (DEqv.refl _) (an (an (an rfl (an (by with_reducible rfl) (an (by with_reducible rfl) (by with_reducible rfl)))) (Nat.le_of_ble_eq_true rfl)) (an (DEqv.refl _) True.intro))))))) (an (an (DEqv.refl _) (an (DEqv.refl _) True.intro)) (an (an (an (by with_reducible rfl) (by with_reducible rfl)) (fun i => (fun hi => (LEqv.refl _)))) (an (an (an (by with_reducible rfl) (by with_reducible rfl)) (fun i => (fun hi => (show LEqv [dbool (heldPart c (heldOf c roots j) p q i)] [dbool (heldPart c (heldOf c roots j) (p + 1) 0 i)] from ?_)))) True.intro))))))
                    rw [heldPart_skip (q := q) (by assumption)]
                    exact LEqv.refl _
                · (focus (refine (cwp_seq (cwp_seq (cwp_region (sl rfl (sl rfl (sl rfl (sl rfl (an (by with_reducible rfl) (sl rfl (sl rfl (sl rfl (an (fun (hb1 : decide ((↑q : Int) < (↑c.length : Int)) = true) => ?_) (fun (hb2 : decide ((↑q : Int) < (↑c.length : Int)) = false) => ?_))))))))))))); rotate_right; (have hf2 := hb2; simp only [decide_eq_false_iff_not, Int.not_lt] at hf2; refine (sl rfl (sl rfl (oF hb2 (sl rfl (sl rfl (oF hb2 (sl rfl (sl rfl (oF hb2 (sl rfl (oF hb2 (sl rfl (seqQ_normal (cwp_cond (oF rfl (cwp_exit (seqQ_exit (seqQ_exit (blockQ_here rfl (blockQ_normal (seqQ_normal (cwp_region (sl rfl (an (by with_reducible rfl) (ez (wrap64 (by omega)) (sl rfl (sl rfl (seqQ_normal (show Exists _ from ?_)))))))))))))))))))))))))))))); rotate_right; (have hf1 := hb1; simp only [decide_eq_true_eq] at hf1; exfalso; omega)))
                  · refine ⟨p + 1, [0, 1, 2], ⟨by omega, by omega⟩, ?_⟩
                    (refine (an (an rfl (an rfl (an rfl (Nat.le_of_ble_eq_true rfl)))) (an (an (DEqv.refl _) (an (DEqv.refl _) (an (an (an rfl (by with_reducible rfl)) (Nat.le_of_ble_eq_true rfl)) (an (an (an rfl (an (by with_reducible rfl) (an (by with_reducible rfl) (by with_reducible rfl)))) (Nat.le_of_ble_eq_true rfl)) (an (DEqv.refl _) (an (an (an rfl (an (by with_reducible rfl) (an (by with_reducible rfl) (by with_reducible rfl)))) (Nat.le_of_ble_eq_true rfl)) (an (DEqv.refl _) True.intro))))))) (an (an (DEqv.refl _) (an (DEqv.refl _) True.intro)) (an (an (an (by with_reducible rfl) (by with_reducible rfl)) (fun i => (fun hi => (LEqv.refl _)))) (an (an (an (by with_reducible rfl) (by with_reducible rfl)) (fun i => (fun hi => (show LEqv [dbool (heldPart c (heldOf c roots j) p q i)] [dbool (heldPart c (heldOf c roots j) (p + 1) 0 i)] from ?_)))) True.intro))))))
                    rw [heldPart_end (q := q) (by omega)]
                    exact LEqv.refl _
            · (focus (refine (cwp_seq (cwp_seq (cwp_region (sl rfl (sl rfl (sl rfl (sl rfl (an (by with_reducible rfl) (sl rfl (seqQ_normal (cwp_cond (an (fun (hb1 : decide ((↑p : Int) < (↑c.length : Int)) = true) => ?_) (fun (hb2 : decide ((↑p : Int) < (↑c.length : Int)) = false) => ?_))))))))))))); rotate_right; (have hf2 := hb2; simp only [decide_eq_false_iff_not, Int.not_lt] at hf2; refine (cwp_exit (seqQ_exit (seqQ_exit (blockQ_here rfl (seqQ_normal (cwp_region (sl rfl (sl rfl (blockQ_normal (seqQ_normal (cwp_region (sl rfl (an (by with_reducible rfl) (ez (wrap64 (by omega)) (sl rfl (sl rfl (seqQ_normal (show Exists _ from ?_))))))))))))))))))); rotate_right; (have hf1 := hb1; simp only [decide_eq_true_eq] at hf1; exfalso; omega)))
              refine ⟨j + 1, [0, 2], ⟨by omega, by omega⟩, ?_⟩
              (refine (an (an rfl (an rfl (an rfl (Nat.le_of_ble_eq_true rfl)))) (an (an (DEqv.refl _) (an (DEqv.refl _) (an (an (an rfl (by with_reducible rfl)) (Nat.le_of_ble_eq_true rfl)) (an (an (an rfl (an (by with_reducible rfl) (an (by with_reducible rfl) (by with_reducible rfl)))) (Nat.le_of_ble_eq_true rfl)) (an (DEqv.refl _) True.intro))))) (an (an (DEqv.refl _) (an (DEqv.refl _) True.intro)) (an (an (an (by with_reducible rfl) (by with_reducible rfl)) (fun i => (fun hi => (show LEqv [dbool (heldPart c (heldOf c roots j) p 0 i)] [dbool (nth (heldOf c roots (j + 1)) i)] from ?_)))) True.intro)))))
              rw [show p = c.length by omega, heldPart_done (by omega), heldOf]
              exact LEqv.refl _
        · (focus (refine (cwp_seq (cwp_seq (cwp_region (sl rfl (an (by with_reducible rfl) (sl rfl (seqQ_normal (cwp_cond (an (fun (hb1 : decide ((↑j : Int) < 25) = true) => ?_) (fun (hb2 : decide ((↑j : Int) < 25) = false) => ?_)))))))))); rotate_right; (have hf2 := hb2; simp only [decide_eq_false_iff_not, Int.not_lt] at hf2; refine (cwp_exit (seqQ_exit (seqQ_exit (blockQ_here rfl (seqQ_normal (cwp_seq (cwp_region (sl rfl (sl rfl (seqQ_normal (cwp_ret (endQ_ret (an (by with_reducible rfl) (an (an (by with_reducible rfl) (an (by omega) (an (show c.length = (heldOf c roots 25).length from ?_) (Or.inr (by with_reducible rfl))))) (fun i => (fun hi => (show LEqv [dbool (nth (heldOf c roots j) (0 + i))] [dbool (nth (heldOf c roots 25) i)] from ?_)))))))))))))))))); rotate_right; (have hf1 := hb1; simp only [decide_eq_true_eq] at hf1; exfalso; omega)))
          · exact (heldOf_len c roots 25).symm
          · rw [Nat.zero_add, show j = 25 by omega]; exact LEqv.refl _

def soundOf (c : List Cell) (roots : List Int) : Bool := allTo c.length fun p => decide ((nth c p).ref = refOf c roots (p : Int)) && (nth (heldOf c roots 25) p == decide (0 < (nth c p).ref))

theorem pc_Sound (c : List Cell) (keep : Int) (roots : List Int) (hc : c.length ≤ 2000) (hi : ∀ i, (nth c i).n.it.length ≤ 1000) (hr : roots.length ≤ 1000) : PC Try.prog 55 [aHeap c keep, aInts roots, aNone] (abool (soundOf c roots)) := by
  have g1 := pc_Refs c keep roots hc hi hr
  have g2 := pc_Held c keep roots hc hi hr
  have l1 := refsOf_len c roots
  have l2 := heldOf_len c roots 25
  refine PC_of tab_ok mixed (Try.func55) rfl (by kernel_rfl) (Nat.le_of_ble_eq_true rfl) rfl ?_
  (refine (cwp_seq (cwp_region (sl rfl (sl rfl (seqQ_normal (cwp_seq (cwp_region (sl rfl (sl rfl (sl rfl (Or.inl (PC.on (g1) (sl rfl (sl rfl (seqQ_normal (cwp_seq (cwp_region (sl rfl (sl rfl (sl rfl (Or.inl (PC.on (g2) (sl rfl (sl rfl (seqQ_normal (cwp_seq (cwp_seq (cwp_region (sl rfl (seqQ_normal (cwp_block (cwp_loop ?_)))))))))))))))))))))))))))))))))
  refine AWP_for tab_ok mixed (fun k => c.length - k) (fun k => k ≤ c.length ∧ allTo k (fun p => decide ((nth c p).ref = refOf c roots (p : Int)) && (nth (heldOf c roots 25) p == decide (0 < (nth c p).ref))) = true)
    (fun k => [(3, .own 0 0), (7, aInts (refsOf c roots)), (8, aBools (heldOf c roots 25)), (9, aint .i64 (k : Nat))]) (fun _ => [some (hbox c keep)]) 0 [0] ?_ ⟨Nat.zero_le _, rfl⟩ ?_
  · (refine (an (an rfl (an rfl (an rfl (Nat.le_of_ble_eq_true rfl)))) (an (an (an (an rfl (by with_reducible rfl)) (Nat.le_of_ble_eq_true rfl)) (an (DEqv.refl _) (an (DEqv.refl _) (an (DEqv.refl _) True.intro)))) (an (an (DEqv.refl _) (an (DEqv.refl _) True.intro)) True.intro))))
  · rintro k ⟨hk, hall⟩
    by_cases hlt : k < c.length
    · have e1 := refsOf_nth (roots := roots) hlt
      (focus (refine (cwp_seq (cwp_seq (cwp_region (sl rfl (sl rfl (sl rfl (sl rfl (an (by with_reducible rfl) (sl rfl (seqQ_normal (cwp_cond (an (fun (hb1 : decide ((↑k : Int) < (↑c.length : Int)) = true) => ?_) (fun (hb6 : decide ((↑k : Int) < (↑c.length : Int)) = false) => ?_))))))))))))); rotate_right; (have hf6 := hb6; simp only [decide_eq_false_iff_not, Int.not_lt] at hf6; exfalso; omega); rotate_right; (have hf1 := hb1; simp only [decide_eq_true_eq] at hf1; focus (refine (cwp_skip (seqQ_normal (cwp_seq (cwp_block (cwp_seq (cwp_draw (sl rfl (sl rfl (sl rfl (Exists.intro (k) (an (an (by with_reducible rfl) (an (by assumption) (show 4 = 4 from (by with_reducible rfl)))) (sl rfl (sl rfl (sl rfl (sl rfl (sl rfl (Exists.intro (k) (an (an (by with_reducible rfl) (an (by omega) (show 1 = 1 from (by with_reducible rfl)))) (sl rfl (sl rfl (an (by with_reducible rfl) (sl rfl (sl rfl (sl rfl (an (fun (hb2 : ((nth c k).ref != nth (refsOf c roots) k) = false) => ?_) (fun (hb5 : ((nth c k).ref != nth (refsOf c roots) k) = true) => ?_)))))))))))))))))))))))))); rotate_right; (have hf5 := hb5; simp only [bne_iff_ne, ne_eq] at hf5; refine (sl rfl (sl rfl (uT hb5 (sl rfl (sl rfl (uT hb5 (sl rfl (sl rfl (uT hb5 (sl rfl (sl rfl (uT hb5 (sl rfl (sl rfl (uT hb5 (sl rfl (sl rfl (uT hb5 (sl rfl (sl rfl (uT hb5 (sl rfl (sl rfl (uT hb5 (sl rfl (sl rfl (uT hb5 (sl rfl (sl rfl (uT hb5 (sl rfl (sl rfl (uT hb5 (sl rfl (oT hb5 (sl rfl (an (by kernel_rfl) (seqQ_normal (cwp_cond (oT rfl (cwp_seq (cwp_region (sl rfl (seqQ_normal (cwp_ret (blockQ_ret (seqQ_ret (seqQ_ret (blockQ_ret (seqQ_ret (endQ_ret (DEqv.bool (show false = soundOf c roots from ?_)))))))))))))))))))))))))))))))))))))))))))))))))))))); rotate_right; (have hf2 := hb2; simp only [bne_eq_false_iff_eq] at hf2; focus (refine (sl rfl (sl rfl (uF hb2 (sl rfl (sl rfl (uF hb2 (Exists.intro (k) (an (an (by with_reducible rfl) (an (by omega) (show 1 = 1 from (by with_reducible rfl)))) (sl rfl (sl rfl (uF hb2 (sl rfl (sl rfl (uF hb2 (sl rfl (sl rfl (uF hb2 (sl rfl (sl rfl (uF hb2 (sl rfl (sl rfl (uF hb2 (Exists.intro (k) (an (an (by with_reducible rfl) (an (by assumption) (show 4 = 4 from (by with_reducible rfl)))) (sl rfl (sl rfl (uF hb2 (sl rfl (sl rfl (uF hb2 (sl rfl (sl rfl (uF hb2 (an (by with_reducible rfl) (sl rfl (sl rfl (uF hb2 (sl rfl (oF hb2 (sl rfl (an (by kernel_rfl) (seqQ_normal (cwp_cond (an (fun (hb3 : (!nth (heldOf c roots 25) k == decide ((nth c k).ref > 0)) = true) => ?_) (fun (hb4 : (!nth (heldOf c roots 25) k == decide ((nth c k).ref > 0)) = false) => ?_)))))))))))))))))))))))))))))))))))))))))))))); rotate_right; (have hf4 := hb4; simp only [Bool.not_eq_false', beq_iff_eq, gt_iff_lt] at hf4; refine (cwp_skip (blockQ_normal (seqQ_normal (cwp_region (sl rfl (an (by with_reducible rfl) (ez (wrap64 (by omega)) (sl rfl (sl rfl (seqQ_normal (show Exists _ from ?_)))))))))))); rotate_right; (have hf3 := hb3; simp only [Bool.not_eq_true', ne_eq, beq_eq_false_iff_ne, gt_iff_lt] at hf3; refine (cwp_seq (cwp_region (sl rfl (seqQ_normal (cwp_ret (blockQ_ret (seqQ_ret (seqQ_ret (blockQ_ret (seqQ_ret (endQ_ret (DEqv.bool (show false = soundOf c roots from ?_))))))))))))))))))))
      all_goals rw [e1] at *
      · rw [soundOf, ← allTo_no (k := k) hlt (by simp_all)]
      · refine ⟨k + 1, [0], ⟨by omega, by omega, allTo_step hall (by simp_all)⟩, ?_⟩
        (refine (an (an rfl (an rfl (an rfl (Nat.le_of_ble_eq_true rfl)))) (an (an (an (an rfl (by with_reducible rfl)) (Nat.le_of_ble_eq_true rfl)) (an (DEqv.refl _) (an (DEqv.refl _) (an (DEqv.refl _) True.intro)))) (an (an (DEqv.refl _) (an (DEqv.refl _) True.intro)) True.intro))))
      · rw [soundOf, ← allTo_no (k := k) hlt (by simp_all)]
    · (focus (refine (cwp_seq (cwp_seq (cwp_region (sl rfl (sl rfl (sl rfl (sl rfl (an (by with_reducible rfl) (sl rfl (seqQ_normal (cwp_cond (an (fun (hb1 : decide ((↑k : Int) < (↑c.length : Int)) = true) => ?_) (fun (hb2 : decide ((↑k : Int) < (↑c.length : Int)) = false) => ?_))))))))))))); rotate_right; (have hf2 := hb2; simp only [decide_eq_false_iff_not, Int.not_lt] at hf2; refine (cwp_exit (seqQ_exit (seqQ_exit (blockQ_here rfl (seqQ_normal (cwp_seq (cwp_region (sl rfl (seqQ_normal (cwp_ret (endQ_ret (DEqv.bool (show true = soundOf c roots from ?_)))))))))))))); rotate_right; (have hf1 := hb1; simp only [decide_eq_true_eq] at hf1; exfalso; omega)))
      rw [soundOf, ← allTo_yes (by omega) hall]

theorem right_cell {c : List Cell} {keep : Int} (h : rightHeap c keep = true) {p : Nat} (hp : p < c.length) (hr : 0 < (nth c p).ref) :
    (nth c p).ref ≤ 2147483647 ∧ (nth c p).pin = false ∧ rightNode (nth c p).n.it = true ∧ places c.length (nth c p).n.leaf (nth c p).n.it = true := by
  simp only [rightHeap, Bool.and_eq_true] at h
  have h := allTo_iff.1 h.2 p hp
  unfold cellOK at h
  rw [if_neg (by omega)] at h
  simp only [Bool.and_eq_true, decide_eq_true_eq, Bool.not_eq_true'] at h
  exact ⟨h.1.1.1.2, h.1.1.2, h.1.2, h.2⟩
theorem places_at {n : Nat} {it : List Item} (h : places n false it = true) {i : Nat} (hi : i < it.length) : 0 ≤ (nth it i).v ∧ (nth it i).v < n := by
  simp only [places, Bool.false_or] at h
  have := allTo_iff.1 h i hi
  simpa [placed] using this
theorem walkable_of {c : List Cell} {keep : Int} (h : rightHeap c keep = true) : Walkable c := by
  intro p hp hr
  obtain ⟨_, _, h3, h4⟩ := right_cell h hp hr
  have hl := rightNode_len h3
  refine ⟨hl.1, hl.2, fun hlf i hi => ?_⟩
  rw [hlf] at h4
  exact places_at h4 hi

theorem pc_Right06 (n : Int) : PC Try.prog 104 [aNone, aint .i64 n] (abool true) := by
  refine PC_of tab_ok mixed (Try.func104) rfl (by kernel_rfl) (Nat.le_of_ble_eq_true rfl) rfl ?_
  (refine (cwp_seq (cwp_region (sl rfl (seqQ_normal (cwp_seq (cwp_seq (cwp_region (sl rfl (seqQ_normal (cwp_block (cwp_loop ?_))))))))))))
  refine AWP_for tab_ok mixed (α := Unit) (fun _ => 0) (fun _ => True) (fun _ => [(0, aNone), (5, aint .i64 0)]) (fun _ => []) () [] ?_ trivial ?_
  · (refine (an (an (by omega) (an rfl (an rfl (Nat.le_of_ble_eq_true rfl)))) (an (an (DEqv.refl _) (an (DEqv.refl _) True.intro)) True.intro)))
  · rintro ⟨⟩ _
    (refine (cwp_seq (cwp_seq (cwp_region (sl rfl (sl rfl (sl rfl (an (by with_reducible rfl) (sl rfl (seqQ_normal (cwp_cond (oF rfl (cwp_exit (seqQ_exit (seqQ_exit (blockQ_here rfl (seqQ_normal (cwp_seq (cwp_region (sl rfl (sl rfl (an (by with_reducible rfl) (sl rfl (sl rfl (seqQ_normal (cwp_ret (endQ_ret (DEqv.refl _))))))))))))))))))))))))))))

def anyOf (c : List Cell) (keep : Int) (roots : List Int) : Bool := rightHeap c keep && allTo roots.length fun i => rightTree c (nth roots i)
theorem pc_Any (c : List Cell) (keep : Int) (roots : List Int) (h : Lim c) (hr : roots.length ≤ 1000) : PC Try.prog 89 [aHeap c keep, aInts roots, aNone] (abool (anyOf c keep roots)) := by
  have g1 := pc_Right05 c keep h
  have g2 := pc_Right06 c.length
  cases hh : rightHeap c keep with
  | false =>
    rw [hh] at g1
    refine PC_of tab_ok mixed (Try.func89) rfl (by kernel_rfl) (Nat.le_of_ble_eq_true rfl) rfl ?_
    (refine (cwp_seq (cwp_region (sl rfl (sl rfl (seqQ_normal (cwp_seq (cwp_region (sl rfl (Or.inl (PC.on (g1) (sl rfl (sl rfl (seqQ_normal (cwp_seq (cwp_region (sl rfl (sl rfl (sl rfl (sl rfl (Or.inl (PC.on (g2) (sl rfl (sl rfl (seqQ_normal (cwp_seq (cwp_seq (cwp_region (sl rfl (sl rfl (sl rfl (sl rfl (uT rfl (sl rfl (sl rfl (uT rfl (sl rfl (oT rfl (sl rfl (seqQ_normal (cwp_cond (oT rfl (cwp_seq (cwp_region (sl rfl (seqQ_normal (cwp_ret (seqQ_ret (endQ_ret (DEqv.bool (show false = anyOf c keep roots from ?_)))))))))))))))))))))))))))))))))))))))))))))))))))
    simp [anyOf, hh]
  | true =>
    have hw := walkable_of hh
    rw [hh] at g1
    refine PC_of tab_ok mixed (Try.func89) rfl (by kernel_rfl) (Nat.le_of_ble_eq_true rfl) rfl ?_
    (refine (cwp_seq (cwp_region (sl rfl (sl rfl (seqQ_normal (cwp_seq (cwp_region (sl rfl (Or.inl (PC.on (g1) (sl rfl (sl rfl (seqQ_normal (cwp_seq (cwp_region (sl rfl (sl rfl (sl rfl (sl rfl (Or.inl (PC.on (g2) (sl rfl (sl rfl (seqQ_normal (cwp_seq (cwp_seq (cwp_region (sl rfl (sl rfl (sl rfl (sl rfl (uF rfl (sl rfl (sl rfl (uF rfl (sl rfl (oF rfl (sl rfl (seqQ_normal (cwp_cond (oF rfl (cwp_skip (seqQ_normal (cwp_seq (cwp_seq (cwp_region (sl rfl (seqQ_normal (cwp_block (cwp_loop ?_)))))))))))))))))))))))))))))))))))))))))))))))))))
    refine AWP_for tab_ok mixed (fun k => roots.length - k) (fun k => k ≤ roots.length ∧ allTo k (fun i => rightTree c (nth roots i)) = true) (fun k => [(1, aInts roots), (2, aNone), (3, .own 0 0), (9, aint .i64 (k : Nat))]) (fun _ => [some (hbox c keep)]) 0 [0] ?_ ⟨Nat.zero_le _, rfl⟩ ?_
    · (refine (an (an rfl (an rfl (an rfl (Nat.le_of_ble_eq_true rfl)))) (an (an (DEqv.refl _) (an (DEqv.refl _) (an (an (an rfl (by with_reducible rfl)) (Nat.le_of_ble_eq_true rfl)) (an (DEqv.refl _) True.intro)))) (an (an (DEqv.refl _) (an (DEqv.refl _) True.intro)) True.intro))))
    · rintro k ⟨hk, hall⟩
      by_cases hlt : k < roots.length
      · have g3 := pc_Right07 c keep (nth roots k) hw
        (focus (refine (cwp_seq (cwp_seq (cwp_region (sl rfl (sl rfl (sl rfl (an (by with_reducible rfl) (sl rfl (seqQ_normal (cwp_cond (an (fun (hb1 : decide ((↑k : Int) < (↑roots.length : Int)) = true) => ?_) (fun (hb4 : decide ((↑k : Int) < (↑roots.length : Int)) = false) => ?_)))))))))))); rotate_right; (have hf4 := hb4; simp only [decide_eq_false_iff_not, Int.not_lt] at hf4; exfalso; omega); rotate_right; (have hf1 := hb1; simp only [decide_eq_true_eq] at hf1; focus (refine (cwp_skip (seqQ_normal (cwp_seq (cwp_block (cwp_seq (cwp_draw (sl rfl (sl rfl (sl rfl (Exists.intro (k) (an (an (by with_reducible rfl) (an (by assumption) (show 1 = 1 from (by with_reducible rfl)))) (sl rfl (sl rfl (Or.inl (PC.on (g3) (sl rfl (sl rfl (an (by kernel_rfl) (seqQ_normal (cwp_seq (cwp_region (sl rfl (sl rfl (seqQ_normal (cwp_cond (an (fun (hb2 : (!rightTree c (nth roots k)) = true) => ?_) (fun (hb3 : (!rightTree c (nth roots k)) = false) => ?_))))))))))))))))))))))))))); rotate_right; (have hf3 := hb3; simp only [Bool.not_eq_false'] at hf3; refine (cwp_skip (blockQ_normal (seqQ_normal (cwp_region (sl rfl (an (by with_reducible rfl) (ez (wrap64 (by omega)) (sl rfl (sl rfl (seqQ_normal (show Exists _ from ?_)))))))))))); rotate_right; (have hf2 := hb2; simp only [Bool.not_eq_true'] at hf2; refine (cwp_seq (cwp_region (sl rfl (seqQ_normal (cwp_ret (blockQ_ret (seqQ_ret (seqQ_ret (blockQ_ret (seqQ_ret (endQ_ret (DEqv.bool (show false = anyOf c keep roots from ?_))))))))))))))))))
        · rw [anyOf, ← allTo_no (k := k) hlt (by assumption)]; simp
        · refine ⟨k + 1, [0], ⟨by omega, by omega, allTo_step hall (by assumption)⟩, ?_⟩
          (refine (an (an rfl (an rfl (an rfl (Nat.le_of_ble_eq_true rfl)))) (an (an (DEqv.refl _) (an (DEqv.refl _) (an (an (an rfl (by with_reducible rfl)) (Nat.le_of_ble_eq_true rfl)) (an (DEqv.refl _) True.intro)))) (an (an (DEqv.refl _) (an (DEqv.refl _) True.intro)) True.intro))))
      · (focus (refine (cwp_seq (cwp_seq (cwp_region (sl rfl (sl rfl (sl rfl (an (by with_reducible rfl) (sl rfl (seqQ_normal (cwp_cond (an (fun (hb1 : decide ((↑k : Int) < (↑roots.length : Int)) = true) => ?_) (fun (hb2 : decide ((↑k : Int) < (↑roots.length : Int)) = false) => ?_)))))))))))); rotate_right; (have hf2 := hb2; simp only [decide_eq_false_iff_not, Int.not_lt] at hf2; refine (cwp_exit (seqQ_exit (seqQ_exit (blockQ_here rfl (seqQ_normal (cwp_seq (cwp_seq (cwp_region (sl rfl (seqQ_normal (cwp_block (cwp_loop ?_))))))))))))); rotate_right; (have hf1 := hb1; simp only [decide_eq_true_eq] at hf1; exfalso; omega)))
        refine AWP_for tab_ok mixed (α := Unit) (fun _ => 0) (fun _ => True) (fun _ => [(2, aNone), (3, .own 0 0), (11, aint .i64 0)]) (fun _ => [some (hbox c keep)]) () [0] ?_ trivial ?_
        · (refine (an (an rfl (an rfl (an rfl (Nat.le_of_ble_eq_true rfl)))) (an (an (DEqv.refl _) (an (an (an rfl (by with_reducible rfl)) (Nat.le_of_ble_eq_true rfl)) (an (DEqv.refl _) True.intro))) (an (an (DEqv.refl _) (an (DEqv.refl _) True.intro)) True.intro))))
        · rintro ⟨⟩ _
          (refine (cwp_seq (cwp_seq (cwp_region (sl rfl (sl rfl (sl rfl (an (by with_reducible rfl) (sl rfl (seqQ_normal (cwp_cond (oF rfl (cwp_exit (seqQ_exit (seqQ_exit (blockQ_here rfl (seqQ_normal (cwp_seq (cwp_region (sl rfl (seqQ_normal (cwp_ret (endQ_ret (DEqv.bool (show true = anyOf c keep roots from ?_)))))))))))))))))))))))))
          rw [anyOf, hh, ← allTo_yes (by omega) hall]; rfl

def may08 (c : List Cell) (keep : Int) (roots : List Int) (most : Int) : Bool := small c most && decide (roots.length ≤ 20) && anyOf c keep roots
theorem pc_May08 (c : List Cell) (keep : Int) (roots : List Int) (most : Int) (h : Lim c) (hr : roots.length ≤ 1000) : PC Try.prog 54 [aHeap c keep, aInts roots, aNone, aint .i64 most] (abool (may08 c keep roots most)) := by
  have g1 := pc_Small c keep most h
  have g2 := pc_Any c keep roots h hr
  refine PC_of tab_ok mixed (Try.func54) rfl (by kernel_rfl) (Nat.le_of_ble_eq_true rfl) rfl ?_
  (focus (refine (cwp_seq (cwp_region (sl rfl (sl rfl (seqQ_normal (cwp_seq (cwp_region (sl rfl (sl rfl (Or.inl (PC.on (g1) (sl rfl (sl rfl (seqQ_normal (cwp_seq (cwp_seq (cwp_region (sl rfl (sl rfl (sl rfl (sl rfl (an (fun (hb1 : (!small c most) = false) => ?_) (fun (hb4 : (!small c most) = true) => ?_))))))))))))))))))))))); rotate_right; (have hf4 := hb4; simp only [Bool.not_eq_true'] at hf4; refine (sl rfl (sl rfl (uT (congrArg Bool.not hf4) (sl rfl (sl rfl (uT (congrArg Bool.not hf4) (sl rfl (oT (congrArg Bool.not hf4) (sl rfl (sl rfl (sl rfl (uT rfl (sl rfl (sl rfl (uT rfl (sl rfl (sl rfl (uT rfl (sl rfl (oT rfl (sl rfl (seqQ_normal (cwp_cond (oT rfl (cwp_seq (cwp_region (sl rfl (seqQ_normal (cwp_ret (seqQ_ret (endQ_ret (DEqv.bool (show false = may08 c keep roots most from ?_)))))))))))))))))))))))))))))))))); rotate_right; (have hf1 := hb1; simp only [Bool.not_eq_false'] at hf1; focus (refine (sl rfl (sl rfl (uF (congrArg Bool.not hf1) (sl rfl (sl rfl (uF (congrArg Bool.not hf1) (an (by with_reducible rfl) (sl rfl (oF (congrArg Bool.not hf1) (sl rfl (sl rfl (sl rfl (an (fun (hb2 : decide ((↑roots.length : Int) > 20) = false) => ?_) (fun (hb3 : decide ((↑roots.length : Int) > 20) = true) => ?_)))))))))))))); rotate_right; (have hf3 := hb3; simp only [decide_eq_true_eq, gt_iff_lt] at hf3; refine (sl rfl (sl rfl (uT hb3 (sl rfl (sl rfl (uT hb3 (sl rfl (oT hb3 (sl rfl (seqQ_normal (cwp_cond (oT rfl (cwp_seq (cwp_region (sl rfl (seqQ_normal (cwp_ret (seqQ_ret (endQ_ret (DEqv.bool (show false = may08 c keep roots most from ?_)))))))))))))))))))))); rotate_right; (have hf2 := hb2; simp only [decide_eq_false_iff_not, Int.not_lt] at hf2; refine (sl rfl (sl rfl (uF hb2 (sl rfl (sl rfl (uF hb2 (an (by with_reducible rfl) (sl rfl (oF hb2 (sl rfl (seqQ_normal (cwp_cond (oF rfl (cwp_skip (seqQ_normal (cwp_seq (cwp_region (sl rfl (sl rfl (sl rfl (Or.inl (PC.on (g2) (sl rfl (sl rfl (seqQ_normal (cwp_ret (endQ_ret (DEqv.bool (show anyOf c keep roots = may08 c keep roots most from ?_))))))))))))))))))))))))))))))))))
  all_goals simp_all [may08]
  all_goals (intros; first | omega | (exfalso; omega))

def fine (c : List Cell) (keep : Int) (roots : List Int) (most : Int) : Bool := may08 c keep roots most && soundOf c roots
theorem small_facts {c : List Cell} {most : Int} (h : small c most = true) : (c.length : Int) ≤ most ∧ ∀ i, (nth c i).n.it.length ≤ 10 ∧ (nth c i).ref ≤ 1000000 := by
  simp only [small, Bool.and_eq_true, decide_eq_true_eq] at h
  refine ⟨h.1, fun i => ?_⟩
  by_cases hi : i < c.length
  · have := allTo_iff.1 h.2 i hi
    simpa [smallCell] using this
  · rw [nth_out (by omega)]; exact ⟨by decide, by decide⟩
theorem pc_Fine (c : List Cell) (keep : Int) (roots : List Int) (most : Int) (h : Lim c) (hr : roots.length ≤ 1000) (hm : most ≤ 2000) : PC Try.prog 18 [aHeap c keep, aInts roots, aNone, aint .i64 most] (abool (fine c keep roots most)) := by
  have g1 := pc_May08 c keep roots most h hr
  cases hmay : may08 c keep roots most with
  | false =>
    rw [hmay] at g1
    refine PC_of tab_ok mixed (Try.func18) rfl (by kernel_rfl) (Nat.le_of_ble_eq_true rfl) rfl ?_
    (refine (cwp_seq (cwp_region (sl rfl (sl rfl (seqQ_normal (cwp_seq (cwp_region (sl rfl (sl rfl (sl rfl (sl rfl (Or.inl (PC.on (g1) (sl rfl (sl rfl (seqQ_normal (cwp_seq (cwp_seq (cwp_region (sl rfl (sl rfl (seqQ_normal (cwp_cond (oT rfl (cwp_seq (cwp_region (sl rfl (seqQ_normal (cwp_ret (seqQ_ret (endQ_ret (DEqv.bool (show false = fine c keep roots most from ?_))))))))))))))))))))))))))))))))))
    simp [fine, hmay]
  | true =>
    have hs := small_facts (by simp only [may08, Bool.and_eq_true] at hmay; exact hmay.1.1)
    have g2 := pc_Sound c keep roots (by omega) (fun i => by have := (hs.2 i).1; omega) hr
    rw [hmay] at g1
    refine PC_of tab_ok mixed (Try.func18) rfl (by kernel_rfl) (Nat.le_of_ble_eq_true rfl) rfl ?_
    (refine (cwp_seq (cwp_region (sl rfl (sl rfl (seqQ_normal (cwp_seq (cwp_region (sl rfl (sl rfl (sl rfl (sl rfl (Or.inl (PC.on (g1) (sl rfl (sl rfl (seqQ_normal (cwp_seq (cwp_seq (cwp_region (sl rfl (sl rfl (seqQ_normal (cwp_cond (oF rfl (cwp_skip (seqQ_normal (cwp_seq (cwp_region (sl rfl (sl rfl (sl rfl (Or.inl (PC.on (g2) (sl rfl (sl rfl (seqQ_normal (cwp_ret (endQ_ret (DEqv.bool (show soundOf c roots = fine c keep roots most from ?_)))))))))))))))))))))))))))))))))))))))))
    simp [fine, hmay]
end Go.Proofs.Abs
