/- Items, nodes, heaps that are the same, by the references. -/
import Derived.Test.YtonbocppkanogaaZD2
import Derived.Laws.StructEq
set_option linter.all false
namespace Go.Proofs.Abs
open Go Go.RowKit Go.Proofs
attribute [local irreducible] cwp seqQ blockQ endQ DEqv LEqv AWP drawOK

theorem eq26 : EqOK Try.prog 26 2 := by
  intro x y ks xs ys w _ hx hy
  match xs, ys, hx, hy with
  | [a, b], [c, d], _, _ =>
    have hg : Try.prog.eqGuardType Try.prog.depth 26 = false := by kernel_rfl
    have hs : Try.prog.stoodInHeld 26 = false := by kernel_rfl
    have hu : Try.prog.underlying 26 = some (.struct (Try.prog.fieldsOf 26)) := by kernel_rfl
    have h3 : Try.prog.underlying 3 = some (.int .i64) := by kernel_rfl
    have hf : (Try.prog.fieldsOf 26).toList = [⟨ "K", 3, 0, false, "", "", 0⟩, ⟨ "V", 3, 1, false, "", "", 8⟩] := by kernel_rfl
    have key : (Op.equalIn 10000 26 (.agg #[.int .i64 a, .int .i64 b]) (.agg #[.int .i64 c, .int .i64 d])).run Try.prog w = .ok ([a, b] == [c, d]) w := by
      rw [run_equalIn_struct w 9999 26 _ _ hu hs, hf]
      simp only [Op.eqFields]
      simp [part, run_equalIn_int w 9998 3 .i64 .i64 _ _ h3]
      by_cases h1 : a = c <;> by_cases h2 : b = d <;> simp [h1, h2]
    refine ⟨?_, ?_⟩
    · simp only [List.map, Sem.run_bind]
      rw [run_eqGuard_agg w _ _ _ _ _ _ hg, Result.andThen_ok, run_eql_struct, key]
      rfl
    · simp only [List.map, Sem.run_bind]
      rw [run_eqGuard_agg w _ _ _ _ _ _ hg, Result.andThen_ok, run_neq_struct, key]
      rfl

theorem list_ext {α : Type} [Inhabited α] {a b : List α} (hl : a.length = b.length) (h : ∀ i, i < a.length → nth a i = nth b i) : a = b := by
  refine List.ext_getElem hl fun i h1 h2 => ?_
  have := h i h1
  rwa [nth_eq h1, nth_eq h2] at this

def sameItem (a b : Item) : Bool := [a.k, a.v] == [b.k, b.v]
theorem sameItem_iff {a b : Item} : sameItem a b = true ↔ a = b := by
  cases a; cases b; simp [sameItem]

theorem pc_Items (a b : List Item) (hl : a.length ≤ big) : PC Try.prog 23 [aItems a, aItems b] (abool (decide (a = b))) := by
  have he := eq26
  unfold big at hl
  by_cases hlen : a.length = b.length
  · refine PC_of tab_ok mixed (Try.func23) rfl (by kernel_rfl) (Nat.le_of_ble_eq_true rfl) rfl ?_
    (focus (refine (cwp_seq (cwp_region (sl rfl (seqQ_normal (cwp_seq (cwp_seq (cwp_region (sl rfl (sl rfl (sl rfl (sl rfl (an (by with_reducible rfl) (sl rfl (seqQ_normal (cwp_cond (an (fun (hb1 : ((↑a.length : Int) != (↑b.length : Int)) = true) => ?_) (fun (hb2 : ((↑a.length : Int) != (↑b.length : Int)) = false) => ?_))))))))))))))))); rotate_right; (have hf2 := hb2; simp only [bne_eq_false_iff_eq] at hf2; refine (cwp_skip (seqQ_normal (cwp_seq (cwp_seq (cwp_region (sl rfl (seqQ_normal (cwp_block (cwp_loop ?_)))))))))); rotate_right; (have hf1 := hb1; simp only [bne_iff_ne, ne_eq] at hf1; exfalso; omega)))
    refine AWP_for tab_ok mixed (fun k => a.length - k) (fun k => k ≤ a.length ∧ allTo k (fun i => sameItem (nth a i) (nth b i)) = true) (fun k => [(0, aItems a), (1, aItems b), (5, aint .i64 (k : Nat))]) (fun _ => []) 0 [] ?_ ⟨Nat.zero_le _, rfl⟩ ?_
    · (refine (an (an (by omega) (an rfl (an rfl (Nat.le_of_ble_eq_true rfl)))) (an (an (DEqv.refl _) (an (DEqv.refl _) (an (DEqv.refl _) True.intro))) True.intro)))
    · rintro k ⟨hk, hall⟩
      (focus (refine (cwp_seq (cwp_seq (cwp_region (sl rfl (sl rfl (sl rfl (an (by with_reducible rfl) (sl rfl (seqQ_normal (cwp_cond (an (fun (hb1 : decide ((↑k : Int) < (↑a.length : Int)) = true) => ?_) (fun (hb4 : decide ((↑k : Int) < (↑a.length : Int)) = false) => ?_)))))))))))); rotate_right; (have hf4 := hb4; simp only [decide_eq_false_iff_not, Int.not_lt] at hf4; refine (cwp_exit (seqQ_exit (seqQ_exit (blockQ_here rfl (seqQ_normal (cwp_seq (cwp_region (sl rfl (seqQ_normal (cwp_ret (endQ_ret (DEqv.bool (show true = decide (a = b) from ?_)))))))))))))); rotate_right; (have hf1 := hb1; simp only [decide_eq_true_eq] at hf1; focus (refine (cwp_skip (seqQ_normal (cwp_seq (cwp_block (cwp_seq (cwp_draw (sl rfl (sl rfl (Exists.intro (k) (an (an (by with_reducible rfl) (an (by omega) (show 2 = 2 from (by with_reducible rfl)))) (sl rfl (sl rfl (sl rfl (sl rfl (Exists.intro (k) (an (an (by with_reducible rfl) (an (by omega) (show 2 = 2 from (by with_reducible rfl)))) (sl rfl (sl rfl (an (an (by assumption) rfl) (sl rfl (an (by kernel_rfl) (seqQ_normal (cwp_cond (an (fun (hb2 : (![(nth a k).k, (nth a k).v] == [(nth b k).k, (nth b k).v]) = true) => ?_) (fun (hb3 : (![(nth a k).k, (nth a k).v] == [(nth b k).k, (nth b k).v]) = false) => ?_))))))))))))))))))))))))); rotate_right; (have hf3 := hb3; simp only [Bool.not_eq_false', beq_iff_eq] at hf3; refine (cwp_skip (blockQ_normal (seqQ_normal (cwp_region (sl rfl (an (by with_reducible rfl) (ez (wrap64 (by omega)) (sl rfl (sl rfl (seqQ_normal (show Exists _ from ?_)))))))))))); rotate_right; (have hf2 := hb2; simp only [Bool.not_eq_true', ne_eq, beq_eq_false_iff_ne] at hf2; refine (cwp_seq (cwp_region (sl rfl (seqQ_normal (cwp_ret (blockQ_ret (seqQ_ret (seqQ_ret (blockQ_ret (seqQ_ret (endQ_ret (DEqv.bool (show false = decide (a = b) from ?_))))))))))))))))))
      · symm; rw [decide_eq_false_iff_not]
        intro e
        subst e
        simp_all
      · refine ⟨k + 1, [], ⟨by omega, by omega, allTo_step hall (by simpa [sameItem] using (by assumption : [(nth a k).k, (nth a k).v] = [(nth b k).k, (nth b k).v]))⟩, ?_⟩
        (refine (an (an (by omega) (an rfl (an rfl (Nat.le_of_ble_eq_true rfl)))) (an (an (DEqv.refl _) (an (DEqv.refl _) (an (DEqv.refl _) True.intro))) True.intro)))
      · symm; rw [decide_eq_true_eq]
        exact list_ext hlen fun i hi => sameItem_iff.1 (allTo_iff.1 hall i (by omega))
  · have hne : a ≠ b := fun e => hlen (by rw [e])
    refine PC_of tab_ok mixed (Try.func23) rfl (by kernel_rfl) (Nat.le_of_ble_eq_true rfl) rfl ?_
    (focus (refine (cwp_seq (cwp_region (sl rfl (seqQ_normal (cwp_seq (cwp_seq (cwp_region (sl rfl (sl rfl (sl rfl (sl rfl (an (by with_reducible rfl) (sl rfl (seqQ_normal (cwp_cond (an (fun (hb1 : ((↑a.length : Int) != (↑b.length : Int)) = true) => ?_) (fun (hb2 : ((↑a.length : Int) != (↑b.length : Int)) = false) => ?_))))))))))))))))); rotate_right; (have hf2 := hb2; simp only [bne_eq_false_iff_eq] at hf2; exfalso; omega); rotate_right; (have hf1 := hb1; simp only [bne_iff_ne, ne_eq] at hf1; refine (cwp_seq (cwp_region (sl rfl (seqQ_normal (cwp_ret (seqQ_ret (endQ_ret (DEqv.bool (show false = decide (a = b) from ?_))))))))))))
    simp [hne]

theorem pc_Same04 (l1 l2 : Bool) (a b : List Item) (hl : a.length ≤ big) : PC Try.prog 53 [aNode l1 a, aNode l2 b] (abool (decide (l1 = l2 ∧ a = b))) := by
  refine PC_of tab_ok mixed (Try.func53) rfl (by kernel_rfl) (Nat.le_of_ble_eq_true rfl) rfl ?_
  (focus (refine (cwp_seq (cwp_region (sl rfl (sl rfl (sl rfl (seqQ_normal (cwp_seq (cwp_region (sl rfl (sl rfl (sl rfl (sl rfl (sl rfl (sl rfl (sl rfl (an (fun (hb1 : (l1 == l2) = true) => ?_) (fun (hb2 : (l1 == l2) = false) => ?_))))))))))))))))); rotate_right; (have hf2 := hb2; simp only [ne_eq, beq_eq_false_iff_ne] at hf2; refine (sl rfl (sl rfl (oF hb2 (sl rfl (sl rfl (oF hb2 (sl rfl (sl rfl (oF hb2 (sl rfl (sl rfl (oF hb2 (sl rfl (oF hb2 (sl rfl (sl rfl (seqQ_normal (cwp_ret (endQ_ret (DEqv.bool (show false = decide (l1 = l2 ∧ a = b) from ?_)))))))))))))))))))))); rotate_right; (have hf1 := hb1; simp only [beq_iff_eq] at hf1; refine (sl rfl (sl rfl (oT hb1 (sl rfl (sl rfl (oT hb1 (sl rfl (sl rfl (oT hb1 (sl rfl (sl rfl (oT hb1 (Or.inl (PC.on (pc_Items a b hl) (sl rfl (oT hb1 (sl rfl (sl rfl (seqQ_normal (cwp_ret (endQ_ret (DEqv.bool (show decide (a = b) = decide (l1 = l2 ∧ a = b) from ?_))))))))))))))))))))))))))
  all_goals simp_all

theorem pc_May07 (c : List Cell) (keep root most : Int) (h : Lim c) (hw : may c keep most = true → Walkable c) : PC Try.prog 12 [aHeap c keep, aint .i64 root, aint .i64 most] (abool (mayTree c keep root most)) := by
  by_cases hm : may c keep most = true
  · have hw := hw hm
    refine PC_of tab_ok mixed (Try.func12) rfl (by kernel_rfl) (Nat.le_of_ble_eq_true rfl) rfl ?_
    (refine (cwp_seq (cwp_region (sl rfl (sl rfl (seqQ_normal (cwp_seq (cwp_region (sl rfl (sl rfl (Or.inl (PC.on (pc_May05 _ _ _ h) (sl rfl (sl rfl (sl rfl (oT hm (sl rfl (sl rfl (oT hm (sl rfl (sl rfl (oT hm (Or.inl (PC.on (pc_Right07 _ _ _ hw) (sl rfl (oT hm (sl rfl (sl rfl (seqQ_normal (cwp_ret (endQ_ret (DEqv.bool (show rightTree c root = mayTree c keep root most from ?_)))))))))))))))))))))))))))))))))
    all_goals simp [mayTree, *]
  · have hm : may c keep most = false := by simpa using hm
    refine PC_of tab_ok mixed (Try.func12) rfl (by kernel_rfl) (Nat.le_of_ble_eq_true rfl) rfl ?_
    (refine (cwp_seq (cwp_region (sl rfl (sl rfl (seqQ_normal (cwp_seq (cwp_region (sl rfl (sl rfl (Or.inl (PC.on (pc_May05 _ _ _ h) (sl rfl (sl rfl (sl rfl (oF hm (sl rfl (sl rfl (oF hm (sl rfl (sl rfl (oF hm (sl rfl (oF hm (sl rfl (sl rfl (seqQ_normal (cwp_ret (endQ_ret (DEqv.bool (show false = mayTree c keep root most from ?_)))))))))))))))))))))))))))))))
    all_goals simp [mayTree, *]

theorem cell_ext {x y : Cell} (h1 : x.n.leaf = y.n.leaf ∧ x.n.it = y.n.it) (h2 : x.ref = y.ref) (h3 : x.pin = y.pin) : x = y := by
  obtain ⟨_, _, ⟨_, _⟩⟩ := x
  obtain ⟨_, _, ⟨_, _⟩⟩ := y
  simp_all

theorem pc_Same05 (a b : List Cell) (k1 k2 : Int) (ha : Lim a) : PC Try.prog 17 [aHeap a k1, aHeap b k2] (abool (decide (k1 = k2 ∧ a = b))) := by
  have hl := ha.len
  unfold big at hl
  by_cases hlen : a.length = b.length
  · by_cases hk : k1 = k2
    · subst hk
      refine PC_of tab_ok mixed (Try.func17) rfl (by kernel_rfl) (Nat.le_of_ble_eq_true rfl) rfl ?_
      (focus (refine (cwp_seq (cwp_region (sl rfl (sl rfl (sl rfl (seqQ_normal (cwp_seq (cwp_seq (cwp_region (sl rfl (sl rfl (sl rfl (sl rfl (an (by with_reducible rfl) (sl rfl (sl rfl (sl rfl (an (fun (hb1 : (k1 != k1) = false) => ?_) (fun (hb4 : (k1 != k1) = true) => ?_))))))))))))))))))); rotate_right; (have hf4 := hb4; simp only [bne_iff_ne, ne_eq, not_true_eq_false] at hf4); rotate_right; (have hf1 := hb1; simp only [bne_eq_false_iff_eq] at hf1; focus (refine (sl rfl (sl rfl (uF hb1 (sl rfl (sl rfl (uF hb1 (sl rfl (sl rfl (uF hb1 (sl rfl (sl rfl (uF hb1 (sl rfl (sl rfl (uF hb1 (sl rfl (sl rfl (uF hb1 (an (by with_reducible rfl) (sl rfl (oF hb1 (sl rfl (seqQ_normal (cwp_cond (an (fun (hb2 : ((↑a.length : Int) != (↑b.length : Int)) = true) => ?_) (fun (hb3 : ((↑a.length : Int) != (↑b.length : Int)) = false) => ?_)))))))))))))))))))))))))); rotate_right; (have hf3 := hb3; simp only [bne_eq_false_iff_eq] at hf3; refine (cwp_skip (seqQ_normal (cwp_seq (cwp_seq (cwp_region (sl rfl (seqQ_normal (cwp_block (cwp_loop ?_)))))))))); rotate_right; (have hf2 := hb2; simp only [bne_iff_ne, ne_eq] at hf2; exfalso; omega)))))
      refine AWP_for tab_ok mixed (fun k => a.length - k) (fun k => k ≤ a.length ∧ allTo k (fun i => decide (nth a i = nth b i)) = true) (fun k => [(2, .own 0 0), (3, .own 1 0), (5, aint .i64 (k : Nat))]) (fun _ => [some (.cells [.d (dCells a), .d (dint k1)]), some (.cells [.d (dCells b), .d (dint k1)])]) 0 [0, 1] ?_ ⟨Nat.zero_le _, rfl⟩ ?_
      · (refine (an (an rfl (an rfl (an rfl (Nat.le_of_ble_eq_true rfl)))) (an (an (an (an rfl (by with_reducible rfl)) (Nat.le_of_ble_eq_true rfl)) (an (an (an rfl (by with_reducible rfl)) (Nat.le_of_ble_eq_true rfl)) (an (DEqv.refl _) True.intro))) (an (an (DEqv.refl _) (an (DEqv.refl _) True.intro)) (an (an (DEqv.refl _) (an (DEqv.refl _) True.intro)) True.intro)))))
      · rintro k ⟨hk, hall⟩
        (focus (refine (cwp_seq (cwp_seq (cwp_region (sl rfl (sl rfl (sl rfl (sl rfl (an (by with_reducible rfl) (sl rfl (seqQ_normal (cwp_cond (an (fun (hb1 : decide ((↑k : Int) < (↑a.length : Int)) = true) => ?_) (fun (hb8 : decide ((↑k : Int) < (↑a.length : Int)) = false) => ?_))))))))))))); rotate_right; (have hf8 := hb8; simp only [decide_eq_false_iff_not, Int.not_lt] at hf8; refine (cwp_exit (seqQ_exit (seqQ_exit (blockQ_here rfl (seqQ_normal (cwp_seq (cwp_region (sl rfl (seqQ_normal (cwp_ret (endQ_ret (DEqv.bool (show true = decide (k1 = k1 ∧ a = b) from ?_)))))))))))))); rotate_right; (have hf1 := hb1; simp only [decide_eq_true_eq] at hf1; focus (refine (cwp_skip (seqQ_normal (cwp_seq (cwp_block (cwp_seq (cwp_draw (sl rfl (sl rfl (sl rfl (Exists.intro (k) (an (an (by with_reducible rfl) (an (by omega) (show 4 = 4 from (by with_reducible rfl)))) (sl rfl (sl rfl (sl rfl (sl rfl (sl rfl (sl rfl (Exists.intro (k) (an (an (by with_reducible rfl) (an (by omega) (show 4 = 4 from (by with_reducible rfl)))) (sl rfl (sl rfl (sl rfl (Or.inl (PC.on (pc_Same04 _ _ _ _ (ha.it _)) (sl rfl (sl rfl (an (by kernel_rfl) (seqQ_normal (cwp_seq (cwp_draw (sl rfl (sl rfl (sl rfl (sl rfl (an (fun (hb2 : (!decide ((nth a k).n.leaf = (nth b k).n.leaf ∧ (nth a k).n.it = (nth b k).n.it)) = false) => ?_) (fun (hb7 : (!decide ((nth a k).n.leaf = (nth b k).n.leaf ∧ (nth a k).n.it = (nth b k).n.it)) = true) => ?_)))))))))))))))))))))))))))))))))))); rotate_right; (have hf7 := hb7; simp only [decide_eq_false_iff_not, Bool.not_eq_true'] at hf7; refine (sl rfl (sl rfl (uT hb7 (sl rfl (sl rfl (uT hb7 (sl rfl (sl rfl (uT hb7 (sl rfl (sl rfl (uT hb7 (sl rfl (sl rfl (uT hb7 (sl rfl (sl rfl (uT hb7 (sl rfl (sl rfl (uT hb7 (sl rfl (sl rfl (uT hb7 (sl rfl (sl rfl (uT hb7 (sl rfl (sl rfl (uT hb7 (sl rfl (sl rfl (uT hb7 (sl rfl (sl rfl (uT hb7 (sl rfl (oT hb7 (sl rfl (sl rfl (sl rfl (uT rfl (sl rfl (sl rfl (uT rfl (sl rfl (sl rfl (uT rfl (sl rfl (sl rfl (uT rfl (sl rfl (sl rfl (uT rfl (sl rfl (sl rfl (uT rfl (sl rfl (sl rfl (uT rfl (sl rfl (sl rfl (uT rfl (sl rfl (sl rfl (uT rfl (sl rfl (sl rfl (uT rfl (sl rfl (sl rfl (uT rfl (sl rfl (sl rfl (uT rfl (sl rfl (sl rfl (uT rfl (sl rfl (oT rfl (sl rfl (an (by kernel_rfl) (seqQ_normal (cwp_cond (oT rfl (cwp_seq (cwp_region (sl rfl (seqQ_normal (cwp_ret (blockQ_ret (seqQ_ret (seqQ_ret (blockQ_ret (seqQ_ret (endQ_ret (DEqv.bool (show false = decide (k1 = k1 ∧ a = b) from ?_))))))))))))))))))))))))))))))))))))))))))))))))))))))))))))))))))))))))))))))))))))))))))))))))))); rotate_right; (have hf2 := hb2; simp only [decide_eq_true_eq, Bool.not_eq_false'] at hf2; focus (refine (sl rfl (sl rfl (uF hb2 (sl rfl (sl rfl (uF hb2 (sl rfl (sl rfl (uF hb2 (Exists.intro (k) (an (an (by with_reducible rfl) (an (by omega) (show 4 = 4 from (by with_reducible rfl)))) (sl rfl (sl rfl (uF hb2 (sl rfl (sl rfl (uF hb2 (sl rfl (sl rfl (uF hb2 (sl rfl (sl rfl (uF hb2 (sl rfl (sl rfl (uF hb2 (sl rfl (sl rfl (uF hb2 (Exists.intro (k) (an (an (by with_reducible rfl) (an (by omega) (show 4 = 4 from (by with_reducible rfl)))) (sl rfl (sl rfl (uF hb2 (sl rfl (sl rfl (uF hb2 (sl rfl (sl rfl (uF hb2 (an (by with_reducible rfl) (sl rfl (oF hb2 (sl rfl (sl rfl (sl rfl (an (fun (hb3 : ((nth a k).ref != (nth b k).ref) = false) => ?_) (fun (hb6 : ((nth a k).ref != (nth b k).ref) = true) => ?_)))))))))))))))))))))))))))))))))))))))))))))))); rotate_right; (have hf6 := hb6; simp only [bne_iff_ne, ne_eq] at hf6; refine (sl rfl (sl rfl (uT hb6 (sl rfl (sl rfl (uT hb6 (sl rfl (sl rfl (uT hb6 (sl rfl (sl rfl (uT hb6 (sl rfl (sl rfl (uT hb6 (sl rfl (sl rfl (uT hb6 (sl rfl (sl rfl (uT hb6 (sl rfl (sl rfl (uT hb6 (sl rfl (sl rfl (uT hb6 (sl rfl (sl rfl (uT hb6 (sl rfl (sl rfl (uT hb6 (sl rfl (sl rfl (uT hb6 (sl rfl (oT hb6 (sl rfl (an (by kernel_rfl) (seqQ_normal (cwp_cond (oT rfl (cwp_seq (cwp_region (sl rfl (seqQ_normal (cwp_ret (blockQ_ret (seqQ_ret (seqQ_ret (blockQ_ret (seqQ_ret (endQ_ret (DEqv.bool (show false = decide (k1 = k1 ∧ a = b) from ?_))))))))))))))))))))))))))))))))))))))))))))))))))))))))); rotate_right; (have hf3 := hb3; simp only [bne_eq_false_iff_eq] at hf3; focus (refine (sl rfl (sl rfl (uF hb3 (sl rfl (sl rfl (uF hb3 (sl rfl (sl rfl (uF hb3 (Exists.intro (k) (an (an (by with_reducible rfl) (an (by omega) (show 4 = 4 from (by with_reducible rfl)))) (sl rfl (sl rfl (uF hb3 (sl rfl (sl rfl (uF hb3 (sl rfl (sl rfl (uF hb3 (sl rfl (sl rfl (uF hb3 (sl rfl (sl rfl (uF hb3 (sl rfl (sl rfl (uF hb3 (Exists.intro (k) (an (an (by with_reducible rfl) (an (by omega) (show 4 = 4 from (by with_reducible rfl)))) (sl rfl (sl rfl (uF hb3 (sl rfl (sl rfl (uF hb3 (sl rfl (sl rfl (uF hb3 (sl rfl (oF hb3 (sl rfl (an (by kernel_rfl) (seqQ_normal (cwp_cond (an (fun (hb4 : (!(nth a k).pin == (nth b k).pin) = true) => ?_) (fun (hb5 : (!(nth a k).pin == (nth b k).pin) = false) => ?_)))))))))))))))))))))))))))))))))))))))))))))))); rotate_right; (have hf5 := hb5; simp only [Bool.not_eq_false', beq_iff_eq] at hf5; refine (cwp_skip (blockQ_normal (seqQ_normal (cwp_region (sl rfl (an (by with_reducible rfl) (ez (wrap64 (by omega)) (sl rfl (sl rfl (seqQ_normal (show Exists _ from ?_)))))))))))); rotate_right; (have hf4 := hb4; simp only [Bool.not_eq_true', ne_eq, beq_eq_false_iff_ne] at hf4; refine (cwp_seq (cwp_region (sl rfl (seqQ_normal (cwp_ret (blockQ_ret (seqQ_ret (seqQ_ret (blockQ_ret (seqQ_ret (endQ_ret (DEqv.bool (show false = decide (k1 = k1 ∧ a = b) from ?_))))))))))))))))))))))
        all_goals first
          | (refine ⟨k + 1, [0, 1], ⟨by omega, by omega, allTo_step hall (by rw [decide_eq_true_eq]; exact cell_ext (by assumption) (by assumption) (by assumption))⟩, ?_⟩; (refine (an (an rfl (an rfl (an rfl (Nat.le_of_ble_eq_true rfl)))) (an (an (an (an rfl (by with_reducible rfl)) (Nat.le_of_ble_eq_true rfl)) (an (an (an rfl (by with_reducible rfl)) (Nat.le_of_ble_eq_true rfl)) (an (DEqv.refl _) True.intro))) (an (an (DEqv.refl _) (an (DEqv.refl _) True.intro)) (an (an (DEqv.refl _) (an (DEqv.refl _) True.intro)) True.intro))))); done)
          | (symm; rw [decide_eq_false_iff_not]; rintro ⟨_, e⟩; subst e; simp_all; done)
          | (symm; rw [decide_eq_true_eq]; exact ⟨rfl, list_ext hlen fun i hi => of_decide_eq_true (allTo_iff.1 hall i (by omega))⟩)
    · refine PC_of tab_ok mixed (Try.func17) rfl (by kernel_rfl) (Nat.le_of_ble_eq_true rfl) rfl ?_
      (focus (refine (cwp_seq (cwp_region (sl rfl (sl rfl (sl rfl (seqQ_normal (cwp_seq (cwp_seq (cwp_region (sl rfl (sl rfl (sl rfl (sl rfl (an (by with_reducible rfl) (sl rfl (sl rfl (sl rfl (an (fun (hb1 : (k1 != k2) = false) => ?_) (fun (hb2 : (k1 != k2) = true) => ?_))))))))))))))))))); rotate_right; (have hf2 := hb2; simp only [bne_iff_ne, ne_eq] at hf2; refine (sl rfl (sl rfl (uT hb2 (sl rfl (sl rfl (uT hb2 (sl rfl (sl rfl (uT hb2 (sl rfl (sl rfl (uT hb2 (sl rfl (sl rfl (uT hb2 (sl rfl (sl rfl (uT hb2 (sl rfl (oT hb2 (sl rfl (seqQ_normal (cwp_cond (oT rfl (cwp_seq (cwp_region (sl rfl (seqQ_normal (cwp_ret (seqQ_ret (endQ_ret (DEqv.bool (show false = decide (k1 = k2 ∧ a = b) from ?_)))))))))))))))))))))))))))))))))); rotate_right; (have hf1 := hb1; simp only [bne_eq_false_iff_eq] at hf1; exfalso; omega)))
      all_goals simp [hk]
  · have hne : a ≠ b := fun e => hlen (by rw [e])
    refine PC_of tab_ok mixed (Try.func17) rfl (by kernel_rfl) (Nat.le_of_ble_eq_true rfl) rfl ?_
    (focus (refine (cwp_seq (cwp_region (sl rfl (sl rfl (sl rfl (seqQ_normal (cwp_seq (cwp_seq (cwp_region (sl rfl (sl rfl (sl rfl (sl rfl (an (by with_reducible rfl) (sl rfl (sl rfl (sl rfl (an (fun (hb1 : (k1 != k2) = false) => ?_) (fun (hb4 : (k1 != k2) = true) => ?_))))))))))))))))))); rotate_right; (have hf4 := hb4; simp only [bne_iff_ne, ne_eq] at hf4; refine (sl rfl (sl rfl (uT hb4 (sl rfl (sl rfl (uT hb4 (sl rfl (sl rfl (uT hb4 (sl rfl (sl rfl (uT hb4 (sl rfl (sl rfl (uT hb4 (sl rfl (sl rfl (uT hb4 (sl rfl (oT hb4 (sl rfl (seqQ_normal (cwp_cond (oT rfl (cwp_seq (cwp_region (sl rfl (seqQ_normal (cwp_ret (seqQ_ret (endQ_ret (DEqv.bool (show false = decide (k1 = k2 ∧ a = b) from ?_)))))))))))))))))))))))))))))))))); rotate_right; (have hf1 := hb1; simp only [bne_eq_false_iff_eq] at hf1; focus (refine (sl rfl (sl rfl (uF hb1 (sl rfl (sl rfl (uF hb1 (sl rfl (sl rfl (uF hb1 (sl rfl (sl rfl (uF hb1 (sl rfl (sl rfl (uF hb1 (sl rfl (sl rfl (uF hb1 (an (by with_reducible rfl) (sl rfl (oF hb1 (sl rfl (seqQ_normal (cwp_cond (an (fun (hb2 : ((↑a.length : Int) != (↑b.length : Int)) = true) => ?_) (fun (hb3 : ((↑a.length : Int) != (↑b.length : Int)) = false) => ?_)))))))))))))))))))))))))); rotate_right; (have hf3 := hb3; simp only [bne_eq_false_iff_eq] at hf3; exfalso; omega); rotate_right; (have hf2 := hb2; simp only [bne_iff_ne, ne_eq] at hf2; refine (cwp_seq (cwp_region (sl rfl (seqQ_normal (cwp_ret (seqQ_ret (endQ_ret (DEqv.bool (show false = decide (k1 = k2 ∧ a = b) from ?_))))))))))))))
    all_goals simp [hne]
end Go.Proofs.Abs
