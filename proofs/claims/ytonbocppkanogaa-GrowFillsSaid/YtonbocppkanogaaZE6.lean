/- What is sound, by the reference: what the words count. -/
import Derived.Test.YtonbocppkanogaaZE5
set_option linter.all false
namespace Go.Proofs.Abs
open Go Go.RowKit Go.Proofs
attribute [local irreducible] cwp seqQ blockQ endQ DEqv LEqv AWP drawOK

/-- No tasks. -/
def aNone : AV := .d (.sl true 0 0 fun _ => [])

theorem pc_Given (p : Int) : PC Try.prog 107 [aNone, aint .i64 p] (aint .i64 0) := by
  refine PC_of tab_ok mixed (Try.func107) rfl (by kernel_rfl) (Nat.le_of_ble_eq_true rfl) rfl ?_
  (refine (cwp_seq (cwp_region (sl rfl (seqQ_normal (cwp_seq (cwp_region (sl rfl (seqQ_normal (cwp_seq (cwp_seq (cwp_region (sl rfl (seqQ_normal (cwp_block (cwp_loop ?_))))))))))))))))
  refine AWP_for tab_ok mixed (α := Unit) (fun _ => 0) (fun _ => True) (fun _ => [(0, aNone), (5, aint .i64 0), (6, aint .i64 0)]) (fun _ => []) () [] ?_ trivial ?_
  · (refine (an (an (by omega) (an rfl (an rfl (Nat.le_of_ble_eq_true rfl)))) (an (an (DEqv.refl _) (an (DEqv.refl _) (an (DEqv.refl _) True.intro))) True.intro)))
  · rintro ⟨⟩ _
    (refine (cwp_seq (cwp_seq (cwp_region (sl rfl (sl rfl (sl rfl (an (by with_reducible rfl) (sl rfl (seqQ_normal (cwp_cond (oF rfl (cwp_exit (seqQ_exit (seqQ_exit (blockQ_here rfl (seqQ_normal (cwp_seq (cwp_region (sl rfl (sl rfl (seqQ_normal (cwp_ret (endQ_ret (DEqv.refl _)))))))))))))))))))))))))

/-- How often a number stands in a row. -/
def rc (l : List Int) (p : Int) : Nat := l.countP fun x => x == p
theorem rc_succ {l : List Int} {p : Int} {k : Nat} (h : k < l.length) : rc (l.take (k + 1)) p = rc (l.take k) p + if nth l k = p then 1 else 0 := by
  rw [take_succ h]; simp [rc, List.countP_append, List.countP_cons]
theorem rc_le (l : List Int) (p : Int) : rc l p ≤ l.length := List.countP_le_length
theorem rc_take_le (l : List Int) (p : Int) (k : Nat) : rc (l.take k) p ≤ l.length := Nat.le_trans (rc_le _ _) (by simp; omega)

theorem pc_outside (l : List Int) (p : Int) (hl : l.length ≤ 1000) : PC Try.prog 108 [aInts l, aNone, aint .i64 p] (aint .i64 (rc l p)) := by
  refine PC_of tab_ok mixed (Try.func108) rfl (by kernel_rfl) (Nat.le_of_ble_eq_true rfl) rfl ?_
  (refine (cwp_seq (cwp_region (sl rfl (seqQ_normal (cwp_seq (cwp_region (sl rfl (seqQ_normal (cwp_seq (cwp_seq (cwp_region (sl rfl (seqQ_normal (cwp_block (cwp_loop ?_))))))))))))))))
  refine AWP_for tab_ok mixed (fun k => l.length - k) (fun k => k ≤ l.length) (fun k => [(0, aInts l), (1, aNone), (2, aint .i64 p), (7, aint .i64 (rc (l.take k) p)), (8, aint .i64 (k : Nat))]) (fun _ => []) 0 [] ?_ (Nat.zero_le _) ?_
  · (refine (an (an (by omega) (an rfl (an rfl (Nat.le_of_ble_eq_true rfl)))) (an (an (DEqv.refl _) (an (DEqv.refl _) (an (DEqv.refl _) (an (DEqv.refl _) (an (DEqv.refl _) True.intro))))) True.intro)))
  · intro k hk
    have := rc_take_le l p k
    (focus (refine (cwp_seq (cwp_seq (cwp_region (sl rfl (sl rfl (sl rfl (an (by with_reducible rfl) (sl rfl (seqQ_normal (cwp_cond (an (fun (hb1 : decide ((↑k : Int) < (↑l.length : Int)) = true) => ?_) (fun (hb4 : decide ((↑k : Int) < (↑l.length : Int)) = false) => ?_)))))))))))); rotate_right; (have hf4 := hb4; simp only [decide_eq_false_iff_not, Int.not_lt] at hf4; refine (cwp_exit (seqQ_exit (seqQ_exit (blockQ_here rfl (seqQ_normal (cwp_seq (cwp_seq (cwp_region (sl rfl (seqQ_normal (cwp_block (cwp_loop ?_))))))))))))); rotate_right; (have hf1 := hb1; simp only [decide_eq_true_eq] at hf1; focus (refine (cwp_skip (seqQ_normal (cwp_seq (cwp_block (cwp_seq (cwp_region (sl rfl (sl rfl (Exists.intro (k) (an (an (by with_reducible rfl) (an (by omega) (show 1 = 1 from (by with_reducible rfl)))) (sl rfl (sl rfl (sl rfl (an (by with_reducible rfl) (sl rfl (seqQ_normal (cwp_cond (an (fun (hb2 : (nth l k == p) = true) => ?_) (fun (hb3 : (nth l k == p) = false) => ?_))))))))))))))))))); rotate_right; (have hf3 := hb3; simp only [ne_eq, beq_eq_false_iff_ne] at hf3; refine (cwp_skip (blockQ_normal (seqQ_normal (cwp_region (sl rfl (an (by with_reducible rfl) (ez (wrap64 (by omega)) (sl rfl (sl rfl (seqQ_normal (show Exists _ from ?_)))))))))))); rotate_right; (have hf2 := hb2; simp only [beq_iff_eq] at hf2; refine (cwp_region (sl rfl (an (by with_reducible rfl) (ez (wrap64 (by omega)) (sl rfl (sl rfl (blockQ_normal (seqQ_normal (cwp_region (sl rfl (an (by with_reducible rfl) (ez (wrap64 (by omega)) (sl rfl (sl rfl (seqQ_normal (show Exists _ from ?_)))))))))))))))))))))
    · refine ⟨k + 1, [], ⟨by omega, by omega⟩, ?_⟩
      (refine (an (an (by omega) (an rfl (an rfl (Nat.le_of_ble_eq_true rfl)))) (an (an (DEqv.refl _) (an (DEqv.refl _) (an (DEqv.refl _) (an (DEqv.int (show (↑(rc (List.take k l) p) : Int) + 1 = (↑(rc (List.take (k + 1) l) p) : Int) from ?_)) (an (DEqv.refl _) True.intro))))) True.intro)))
      rw [rc_succ (by omega), if_pos (by assumption)]; rfl
    · refine ⟨k + 1, [], ⟨by omega, by omega⟩, ?_⟩
      (refine (an (an (by omega) (an rfl (an rfl (Nat.le_of_ble_eq_true rfl)))) (an (an (DEqv.refl _) (an (DEqv.refl _) (an (DEqv.refl _) (an (DEqv.int (show (↑(rc (List.take k l) p) : Int) = (↑(rc (List.take (k + 1) l) p) : Int) from ?_)) (an (DEqv.refl _) True.intro))))) True.intro)))
      rw [rc_succ (by omega), if_neg (by assumption)]; rfl
    · have e : k = l.length := by omega
      rw [show l.take k = l by rw [e]; exact List.take_length]
      refine AWP_for tab_ok mixed (α := Unit) (fun _ => 0) (fun _ => True) (fun _ => [(1, aNone), (2, aint .i64 p), (7, aint .i64 (rc l p)), (9, aint .i64 0)]) (fun _ => []) () [] ?_ trivial ?_
      · (refine (an (an (by omega) (an rfl (an rfl (Nat.le_of_ble_eq_true rfl)))) (an (an (DEqv.refl _) (an (DEqv.refl _) (an (DEqv.refl _) (an (DEqv.refl _) True.intro)))) True.intro)))
      · rintro ⟨⟩ _
        (refine (cwp_seq (cwp_seq (cwp_region (sl rfl (sl rfl (sl rfl (an (by with_reducible rfl) (sl rfl (seqQ_normal (cwp_cond (oF rfl (cwp_exit (seqQ_exit (seqQ_exit (blockQ_here rfl (seqQ_normal (cwp_seq (cwp_region (sl rfl (sl rfl (seqQ_normal (cwp_ret (endQ_ret (DEqv.refl _)))))))))))))))))))))))))

def vc (it : List Item) (q : Int) : Nat := it.countP fun x => x.v == q
theorem vc_succ {l : List Item} {p : Int} {k : Nat} (h : k < l.length) : vc (l.take (k + 1)) p = vc (l.take k) p + if (nth l k).v = p then 1 else 0 := by
  rw [take_succ h]; simp [vc, List.countP_append, List.countP_cons]
theorem vc_le (l : List Item) (p : Int) : vc l p ≤ l.length := List.countP_le_length
theorem vc_take_le (l : List Item) (p : Int) (k : Nat) : vc (l.take k) p ≤ l.length := Nat.le_trans (vc_le _ _) (by simp; omega)
/-- How often a cell tells another one. -/
def tellsOf (x : Cell) (q : Int) : Nat := if 0 < x.ref ∧ x.n.leaf = false then vc x.n.it q else 0

theorem pc_Tells (c : List Cell) (keep q : Int) (p : Nat) (hp : p < c.length) (hl : (nth c p).n.it.length ≤ 1000) : PC Try.prog 109 [aHeap c keep, aNone, aint .i64 p, aint .i64 q] (aint .i64 (tellsOf (nth c p) q)) := by
  by_cases hc : 0 < (nth c p).ref ∧ (nth c p).n.leaf = false
  · rw [show tellsOf (nth c p) q = vc (nth c p).n.it q from if_pos hc]
    refine PC_of tab_ok mixed (Try.func109) rfl (by kernel_rfl) (Nat.le_of_ble_eq_true rfl) rfl ?_
    (refine (cwp_seq (cwp_region (sl rfl (sl rfl (seqQ_normal (cwp_seq (cwp_region (sl rfl (sl rfl (sl rfl (Exists.intro (p) (an (an (by with_reducible rfl) (an (by assumption) (show 4 = 4 from (by with_reducible rfl)))) (sl rfl (sl rfl (sl rfl (an (show [AV.d (dint (nth c p).ref), AV.d (dbool (nth c p).pin), AV.d (dbool (nth c p).n.leaf), AV.d (dItems (nth c p).n.it)].length = 4 from rfl) (seqQ_normal (cwp_seq (cwp_region (sl rfl (seqQ_normal (cwp_seq (cwp_seq (cwp_region (sl rfl (sl rfl (Or.inl (PC.on (pc_Given p) (sl rfl (sl rfl (seqQ_normal (cwp_block (cwp_loop ?_))))))))))))))))))))))))))))))))))
    refine AWP_for tab_ok mixed (fun k => (nth c p).n.it.length - k) (fun k => k ≤ (nth c p).n.it.length) (fun k => [(3, aint .i64 q), (9, .own 0 0), (10, aint .i64 (vc ((nth c p).n.it.take k) q)), (11, aint .i64 (k : Nat))])
      (fun _ => [some (.cells [.d (dint (nth c p).ref), .d (dbool (nth c p).pin), .d (dbool (nth c p).n.leaf), .d (dItems (nth c p).n.it)])]) 0 [1] ?_ (Nat.zero_le _) ?_
    · (refine (an (an rfl (an rfl (an rfl (Nat.le_of_ble_eq_true rfl)))) (an (an (DEqv.refl _) (an (an (an rfl (by with_reducible rfl)) (Nat.le_of_ble_eq_true rfl)) (an (DEqv.refl _) (an (DEqv.refl _) True.intro)))) (an (an (DEqv.refl _) (an (DEqv.refl _) (an (DEqv.refl _) (an (DEqv.refl _) True.intro)))) True.intro))))
    · intro k hk
      have := vc_take_le (nth c p).n.it q k
      obtain ⟨h1, h2⟩ := hc
      have h3 : decide ((nth c p).ref > 0) = true := decide_eq_true h1
      by_cases hlt : k < (nth c p).n.it.length
      · (focus (refine (cwp_seq (cwp_seq (cwp_region (sl rfl (sl rfl (sl rfl (sl rfl (sl rfl (an (by with_reducible rfl) (sl rfl (sl rfl (sl rfl (an (fun (hb1 : decide ((↑k : Int) < (↑(nth c p).n.it.length : Int)) = true) => ?_) (fun (hb4 : decide ((↑k : Int) < (↑(nth c p).n.it.length : Int)) = false) => ?_)))))))))))))); rotate_right; (have hf4 := hb4; simp only [decide_eq_false_iff_not, Int.not_lt] at hf4; exfalso; omega); rotate_right; (have hf1 := hb1; simp only [decide_eq_true_eq] at hf1; focus (refine (sl rfl (sl rfl (oT hb1 (sl rfl (sl rfl (oT hb1 (an (by with_reducible rfl) (sl rfl (oT hb1 (sl rfl (sl rfl (sl rfl (oT h3 (sl rfl (sl rfl (oT h3 (sl rfl (sl rfl (oT h3 (sl rfl (sl rfl (oT h3 (sl rfl (oT h3 (sl rfl (seqQ_normal (cwp_cond (oT (congrArg Bool.not h2) (cwp_skip (seqQ_normal (cwp_seq (cwp_block (cwp_seq (cwp_region (sl rfl (sl rfl (sl rfl (sl rfl (Exists.intro (k) (an (an (by with_reducible rfl) (an (by assumption) (show 2 = 2 from (by with_reducible rfl)))) (sl rfl (sl rfl (sl rfl (sl rfl (an (by with_reducible rfl) (sl rfl (seqQ_normal (cwp_cond (an (fun (hb2 : ((nth (nth c p).n.it k).v == q) = true) => ?_) (fun (hb3 : ((nth (nth c p).n.it k).v == q) = false) => ?_)))))))))))))))))))))))))))))))))))))))))))))))))); rotate_right; (have hf3 := hb3; simp only [ne_eq, beq_eq_false_iff_ne] at hf3; refine (cwp_skip (blockQ_normal (seqQ_normal (cwp_region (sl rfl (an (by with_reducible rfl) (ez (wrap64 (by omega)) (sl rfl (sl rfl (seqQ_normal (show Exists _ from ?_)))))))))))); rotate_right; (have hf2 := hb2; simp only [beq_iff_eq] at hf2; refine (cwp_region (sl rfl (an (by with_reducible rfl) (ez (wrap64 (by omega)) (sl rfl (sl rfl (blockQ_normal (seqQ_normal (cwp_region (sl rfl (an (by with_reducible rfl) (ez (wrap64 (by omega)) (sl rfl (sl rfl (seqQ_normal (show Exists _ from ?_)))))))))))))))))))))
        · refine ⟨k + 1, [0], ⟨by omega, by omega⟩, ?_⟩
          (refine (an (an rfl (an rfl (an rfl (Nat.le_of_ble_eq_true rfl)))) (an (an (DEqv.refl _) (an (an (an rfl (by with_reducible rfl)) (Nat.le_of_ble_eq_true rfl)) (an (DEqv.int (show (↑(vc (List.take k (nth c p).n.it) q) : Int) + 1 = (↑(vc (List.take (k + 1) (nth c p).n.it) q) : Int) from ?_)) (an (DEqv.refl _) True.intro)))) (an (an (DEqv.refl _) (an (DEqv.refl _) (an (DEqv.refl _) (an (DEqv.refl _) True.intro)))) True.intro))))
          rw [vc_succ (by omega), if_pos (by assumption)]; rfl
        · refine ⟨k + 1, [0], ⟨by omega, by omega⟩, ?_⟩
          (refine (an (an rfl (an rfl (an rfl (Nat.le_of_ble_eq_true rfl)))) (an (an (DEqv.refl _) (an (an (an rfl (by with_reducible rfl)) (Nat.le_of_ble_eq_true rfl)) (an (DEqv.int (show (↑(vc (List.take k (nth c p).n.it) q) : Int) = (↑(vc (List.take (k + 1) (nth c p).n.it) q) : Int) from ?_)) (an (DEqv.refl _) True.intro)))) (an (an (DEqv.refl _) (an (DEqv.refl _) (an (DEqv.refl _) (an (DEqv.refl _) True.intro)))) True.intro))))
          rw [vc_succ (by omega), if_neg (by assumption)]; rfl
      · have e : k = (nth c p).n.it.length := by omega
        rw [show (nth c p).n.it.take k = (nth c p).n.it by rw [e]; exact List.take_length]
        (focus (refine (cwp_seq (cwp_seq (cwp_region (sl rfl (sl rfl (sl rfl (sl rfl (sl rfl (an (by with_reducible rfl) (sl rfl (sl rfl (sl rfl (an (fun (hb1 : decide ((↑k : Int) < (↑(nth c p).n.it.length : Int)) = true) => ?_) (fun (hb2 : decide ((↑k : Int) < (↑(nth c p).n.it.length : Int)) = false) => ?_)))))))))))))); rotate_right; (have hf2 := hb2; simp only [decide_eq_false_iff_not, Int.not_lt] at hf2; refine (sl rfl (sl rfl (oF hb2 (sl rfl (sl rfl (oF hb2 (sl rfl (oF hb2 (sl rfl (sl rfl (sl rfl (oF rfl (sl rfl (sl rfl (oF rfl (sl rfl (sl rfl (oF rfl (sl rfl (sl rfl (oF rfl (sl rfl (oF rfl (sl rfl (seqQ_normal (cwp_cond (oF rfl (cwp_exit (seqQ_exit (seqQ_exit (blockQ_here rfl (seqQ_normal (cwp_seq (cwp_region (sl rfl (sl rfl (seqQ_normal (cwp_ret (endQ_ret (DEqv.refl _))))))))))))))))))))))))))))))))))))))))); rotate_right; (have hf1 := hb1; simp only [decide_eq_true_eq] at hf1; exfalso; omega)))
  · rw [show tellsOf (nth c p) q = 0 from if_neg hc]
    refine PC_of tab_ok mixed (Try.func109) rfl (by kernel_rfl) (Nat.le_of_ble_eq_true rfl) rfl ?_
    (refine (cwp_seq (cwp_region (sl rfl (sl rfl (seqQ_normal (cwp_seq (cwp_region (sl rfl (sl rfl (sl rfl (Exists.intro (p) (an (an (by with_reducible rfl) (an (by assumption) (show 4 = 4 from (by with_reducible rfl)))) (sl rfl (sl rfl (sl rfl (an (show [AV.d (dint (nth c p).ref), AV.d (dbool (nth c p).pin), AV.d (dbool (nth c p).n.leaf), AV.d (dItems (nth c p).n.it)].length = 4 from rfl) (seqQ_normal (cwp_seq (cwp_region (sl rfl (seqQ_normal (cwp_seq (cwp_seq (cwp_region (sl rfl (sl rfl (Or.inl (PC.on (pc_Given p) (sl rfl (sl rfl (seqQ_normal (cwp_block (cwp_loop ?_))))))))))))))))))))))))))))))))))
    refine AWP_for tab_ok mixed (α := Unit) (fun _ => 0) (fun _ => True) (fun k => [(3, aint .i64 q), (9, .own 0 0), (10, aint .i64 0), (11, aint .i64 0)])
      (fun _ => [some (.cells [.d (dint (nth c p).ref), .d (dbool (nth c p).pin), .d (dbool (nth c p).n.leaf), .d (dItems (nth c p).n.it)])]) () [1] ?_ trivial ?_
    · (refine (an (an rfl (an rfl (an rfl (Nat.le_of_ble_eq_true rfl)))) (an (an (DEqv.refl _) (an (an (an rfl (by with_reducible rfl)) (Nat.le_of_ble_eq_true rfl)) (an (DEqv.refl _) (an (DEqv.refl _) True.intro)))) (an (an (DEqv.refl _) (an (DEqv.refl _) (an (DEqv.refl _) (an (DEqv.refl _) True.intro)))) True.intro))))
    · rintro ⟨⟩ _
      (focus (refine (cwp_seq (cwp_seq (cwp_region (sl rfl (sl rfl (sl rfl (sl rfl (sl rfl (an (by with_reducible rfl) (sl rfl (sl rfl (sl rfl (an (fun (hb1 : decide (0 < (↑(nth c p).n.it.length : Int)) = true) => ?_) (fun (hb8 : decide (0 < (↑(nth c p).n.it.length : Int)) = false) => ?_)))))))))))))); rotate_right; (have hf8 := hb8; simp only [decide_eq_false_iff_not, Int.not_lt] at hf8; refine (sl rfl (sl rfl (oF hb8 (sl rfl (sl rfl (oF hb8 (sl rfl (oF hb8 (sl rfl (sl rfl (sl rfl (oF rfl (sl rfl (sl rfl (oF rfl (sl rfl (sl rfl (oF rfl (sl rfl (sl rfl (oF rfl (sl rfl (oF rfl (sl rfl (seqQ_normal (cwp_cond (oF rfl (cwp_exit (seqQ_exit (seqQ_exit (blockQ_here rfl (seqQ_normal (cwp_seq (cwp_region (sl rfl (sl rfl (seqQ_normal (cwp_ret (endQ_ret (DEqv.refl _))))))))))))))))))))))))))))))))))))))))); rotate_right; (have hf1 := hb1; simp only [decide_eq_true_eq] at hf1; focus (refine (sl rfl (sl rfl (oT hb1 (sl rfl (sl rfl (oT hb1 (an (by with_reducible rfl) (sl rfl (oT hb1 (sl rfl (sl rfl (sl rfl (an (fun (hb2 : decide ((nth c p).ref > 0) = true) => ?_) (fun (hb7 : decide ((nth c p).ref > 0) = false) => ?_)))))))))))))); rotate_right; (have hf7 := hb7; simp only [decide_eq_false_iff_not, Int.not_lt] at hf7; refine (sl rfl (sl rfl (oF hb7 (sl rfl (sl rfl (oF hb7 (sl rfl (sl rfl (oF hb7 (sl rfl (oF hb7 (sl rfl (seqQ_normal (cwp_cond (oF rfl (cwp_exit (seqQ_exit (seqQ_exit (blockQ_here rfl (seqQ_normal (cwp_seq (cwp_region (sl rfl (sl rfl (seqQ_normal (cwp_ret (endQ_ret (DEqv.refl _))))))))))))))))))))))))))))); rotate_right; (have hf2 := hb2; simp only [decide_eq_true_eq, gt_iff_lt] at hf2; focus (refine (sl rfl (sl rfl (oT hb2 (sl rfl (sl rfl (oT hb2 (sl rfl (sl rfl (oT hb2 (sl rfl (oT hb2 (sl rfl (seqQ_normal (cwp_cond (an (fun (hb3 : (!(nth c p).n.leaf) = true) => ?_) (fun (hb6 : (!(nth c p).n.leaf) = false) => ?_)))))))))))))))); rotate_right; (have hf6 := hb6; simp only [Bool.not_eq_false'] at hf6; refine (cwp_exit (seqQ_exit (seqQ_exit (blockQ_here rfl (seqQ_normal (cwp_seq (cwp_region (sl rfl (sl rfl (seqQ_normal (cwp_ret (endQ_ret (DEqv.refl _)))))))))))))); rotate_right; (have hf3 := hb3; simp only [Bool.not_eq_true'] at hf3; focus (refine (cwp_skip (seqQ_normal (cwp_seq (cwp_block (cwp_seq (cwp_region (sl rfl (sl rfl (sl rfl (sl rfl (Exists.intro (0) (an (an (by omega) (an (by omega) (show 2 = 2 from (by with_reducible rfl)))) (sl rfl (sl rfl (sl rfl (sl rfl (an (by with_reducible rfl) (sl rfl (seqQ_normal (cwp_cond (an (fun (hb4 : ((nth (nth c p).n.it 0).v == q) = true) => ?_) (fun (hb5 : ((nth (nth c p).n.it 0).v == q) = false) => ?_)))))))))))))))))))))); rotate_right; (have hf5 := hb5; simp only [ne_eq, beq_eq_false_iff_ne] at hf5; refine (cwp_skip (blockQ_normal (seqQ_normal (cwp_region (sl rfl (an (by with_reducible rfl) (ez (wrap64 (by omega)) (sl rfl (sl rfl (seqQ_normal (show Exists _ from ?_)))))))))))); rotate_right; (have hf4 := hb4; simp only [beq_iff_eq] at hf4; refine (cwp_region (sl rfl (an (by with_reducible rfl) (ez (wrap64 (by omega)) (sl rfl (sl rfl (blockQ_normal (seqQ_normal (cwp_region (sl rfl (an (by with_reducible rfl) (ez (wrap64 (by omega)) (sl rfl (sl rfl (seqQ_normal (show Exists _ from ?_)))))))))))))))))))))))))
      all_goals (exact absurd ⟨by assumption, by assumption⟩ hc)

def sumTo : Nat → (Nat → Nat) → Nat
  | 0, _ => 0
  | n + 1, g => sumTo n g + g n
theorem sumTo_le {g : Nat → Nat} {b : Nat} (h : ∀ i, g i ≤ b) : ∀ n, sumTo n g ≤ n * b
  | 0 => by simp [sumTo]
  | n + 1 => by have := sumTo_le h n; have := h n; rw [sumTo, Nat.add_mul]; omega
theorem tellsOf_le {x : Cell} {q : Int} (h : x.n.it.length ≤ 1000) : tellsOf x q ≤ 1000 := by
  unfold tellsOf; split
  · have := vc_le x.n.it q; omega
  · omega

/-- How many refer to a cell: roots, and cells that tell it. -/
def refOf (c : List Cell) (roots : List Int) (q : Int) : Nat := rc roots q + sumTo c.length fun p => tellsOf (nth c p) q
def refsOf (c : List Cell) (roots : List Int) : List Int := (List.range c.length).map fun (q : Nat) => (refOf c roots (q : Int) : Int)
theorem nth_range {n i : Nat} (h : i < n) : nth (List.range n) i = i := by simp [nth, h]
theorem refsOf_len (c : List Cell) (roots : List Int) : (refsOf c roots).length = c.length := by simp [refsOf]
theorem refsOf_nth {c : List Cell} {roots : List Int} {q : Nat} (h : q < c.length) : nth (refsOf c roots) q = refOf c roots q := by
  unfold refsOf
  rw [nth_map _ (by simpa using h), nth_range h]

theorem pc_Refs (c : List Cell) (keep : Int) (roots : List Int) (hc : c.length ≤ 2000) (hi : ∀ i, (nth c i).n.it.length ≤ 1000) (hr : roots.length ≤ 1000) : PC Try.prog 90 [aHeap c keep, aInts roots, aNone] (aInts (refsOf c roots)) := by
  have hfl := refsOf_len c roots
  refine PC_of tab_ok mixed (Try.func90) rfl (by kernel_rfl) (Nat.le_of_ble_eq_true rfl) rfl ?_
  (refine (cwp_seq (cwp_region (sl rfl (sl rfl (seqQ_normal (cwp_seq (cwp_region (sl rfl (seqQ_normal (cwp_seq (cwp_seq (cwp_region (sl rfl (seqQ_normal (cwp_block (cwp_loop ?_)))))))))))))))))
  refine AWP.ghost 7 1 (g := fun _ => []) rfl ?_
  refine AWP_for tab_ok mixed (fun k => c.length - k) (fun k => k ≤ c.length) (fun k => [(1, aInts roots), (2, aNone), (3, .own 0 0), (7, .row 1 1 0 k), (8, aint .i64 (k : Nat))]) (fun k => [some (hbox c keep), some (.arr 1 k fun i => [dint (nth (refsOf c roots) i)])]) 0 [0, 1] ?_ (Nat.zero_le _) ?_
  · (refine (an (an rfl (an rfl (an rfl (Nat.le_of_ble_eq_true rfl)))) (an (an (DEqv.refl _) (an (DEqv.refl _) (an (an (an rfl (by with_reducible rfl)) (Nat.le_of_ble_eq_true rfl)) (an (an (an rfl (an (by with_reducible rfl) (an (by with_reducible rfl) (by with_reducible rfl)))) (Nat.le_of_ble_eq_true rfl)) (an (DEqv.refl _) True.intro))))) (an (an (DEqv.refl _) (an (DEqv.refl _) True.intro)) (an (an (an (by with_reducible rfl) (by with_reducible rfl)) forall_lt_zero) True.intro)))))
  · intro k hk
    by_cases hlt : k < c.length
    · have g := pc_outside roots k hr
      have hrl := rc_le roots k
      have hn := refsOf_nth (roots := roots) hlt
      (focus (refine (cwp_seq (cwp_seq (cwp_region (sl rfl (sl rfl (sl rfl (sl rfl (an (by with_reducible rfl) (sl rfl (seqQ_normal (cwp_cond (an (fun (hb1 : decide ((↑k : Int) < (↑c.length : Int)) = true) => ?_) (fun (hb2 : decide ((↑k : Int) < (↑c.length : Int)) = false) => ?_))))))))))))); rotate_right; (have hf2 := hb2; simp only [decide_eq_false_iff_not, Int.not_lt] at hf2; exfalso; omega); rotate_right; (have hf1 := hb1; simp only [decide_eq_true_eq] at hf1; refine (cwp_skip (seqQ_normal (cwp_seq (cwp_block (cwp_seq (cwp_region (sl rfl (sl rfl (sl rfl (Or.inl (PC.on (g) (sl rfl (sl rfl (seqQ_normal (cwp_seq (cwp_seq (cwp_region (sl rfl (seqQ_normal (cwp_block (cwp_loop ?_))))))))))))))))))))))))
      refine AWP_for tab_ok mixed (fun j => c.length - j) (fun j => j ≤ c.length) (fun j => [(1, aInts roots), (2, aNone), (3, .own 0 0), (7, .row 1 1 0 k), (8, aint .i64 (k : Nat)), (9, aint .i64 ((rc roots k + sumTo j fun p => tellsOf (nth c p) k : Nat) : Int)), (10, aint .i64 (j : Nat))]) (fun _ => [some (hbox c keep), some (.arr 1 k fun i => [dint (nth (refsOf c roots) i)])]) 0 [0, 1] ?_ (Nat.zero_le _) ?_
      · (refine (an (an rfl (an rfl (an rfl (Nat.le_of_ble_eq_true rfl)))) (an (an (DEqv.refl _) (an (DEqv.refl _) (an (an (an rfl (by with_reducible rfl)) (Nat.le_of_ble_eq_true rfl)) (an (an (an rfl (an (by with_reducible rfl) (an (by with_reducible rfl) (by with_reducible rfl)))) (Nat.le_of_ble_eq_true rfl)) (an (DEqv.refl _) (an (DEqv.refl _) (an (DEqv.refl _) True.intro))))))) (an (an (DEqv.refl _) (an (DEqv.refl _) True.intro)) (an (an (an (by with_reducible rfl) (by with_reducible rfl)) (fun i => (fun hi => (LEqv.refl _)))) True.intro)))))
      · intro j hj
        have hsl := sumTo_le (g := fun p => tellsOf (nth c p) k) (fun i => tellsOf_le (hi i)) j
        by_cases hlt2 : j < c.length
        · have g := pc_Tells c keep k j hlt2 (hi j)
          have htl := tellsOf_le (q := k) (hi j)
          (focus (refine (cwp_seq (cwp_seq (cwp_region (sl rfl (sl rfl (sl rfl (sl rfl (an (by with_reducible rfl) (sl rfl (seqQ_normal (cwp_cond (an (fun (hb1 : decide ((↑j : Int) < (↑c.length : Int)) = true) => ?_) (fun (hb2 : decide ((↑j : Int) < (↑c.length : Int)) = false) => ?_))))))))))))); rotate_right; (have hf2 := hb2; simp only [decide_eq_false_iff_not, Int.not_lt] at hf2; exfalso; omega); rotate_right; (have hf1 := hb1; simp only [decide_eq_true_eq] at hf1; refine (cwp_skip (seqQ_normal (cwp_seq (cwp_block (cwp_region (sl rfl (sl rfl (sl rfl (sl rfl (sl rfl (Or.inl (PC.on (g) (sl rfl (an (by with_reducible rfl) (ez (wrap64 (by omega)) (sl rfl (sl rfl (blockQ_normal (seqQ_normal (cwp_region (sl rfl (an (by with_reducible rfl) (ez (wrap64 (by omega)) (sl rfl (sl rfl (seqQ_normal (show Exists _ from ?_))))))))))))))))))))))))))))))
          refine ⟨j + 1, [0, 1], ⟨by omega, by omega⟩, ?_⟩
          (refine (an (an rfl (an rfl (an rfl (Nat.le_of_ble_eq_true rfl)))) (an (an (DEqv.refl _) (an (DEqv.refl _) (an (an (an rfl (by with_reducible rfl)) (Nat.le_of_ble_eq_true rfl)) (an (an (an rfl (an (by with_reducible rfl) (an (by with_reducible rfl) (by with_reducible rfl)))) (Nat.le_of_ble_eq_true rfl)) (an (DEqv.refl _) (an (DEqv.int (show (↑(rc roots (↑k : Int) + sumTo j fun p => tellsOf (nth c p) (↑k : Int)) : Int) + (↑(tellsOf (nth c j) (↑k : Int)) : Int) = (↑(rc roots (↑k : Int) + sumTo (j + 1) fun p => tellsOf (nth c p) (↑k : Int)) : Int) from ?_)) (an (DEqv.refl _) True.intro))))))) (an (an (DEqv.refl _) (an (DEqv.refl _) True.intro)) (an (an (an (by with_reducible rfl) (by with_reducible rfl)) (fun i => (fun hi => (LEqv.refl _)))) True.intro)))))
          rw [sumTo]; omega
        · have e : j = c.length := by omega
          have hv : nth (refsOf c roots) k = ((rc roots k + sumTo j fun p => tellsOf (nth c p) k : Nat) : Int) := by rw [hn, e]; rfl
          (focus (refine (cwp_seq (cwp_seq (cwp_region (sl rfl (sl rfl (sl rfl (sl rfl (an (by with_reducible rfl) (sl rfl (seqQ_normal (cwp_cond (an (fun (hb1 : decide ((↑j : Int) < (↑c.length : Int)) = true) => ?_) (fun (hb2 : decide ((↑j : Int) < (↑c.length : Int)) = false) => ?_))))))))))))); rotate_right; (have hf2 := hb2; simp only [decide_eq_false_iff_not, Int.not_lt] at hf2; refine (cwp_exit (seqQ_exit (seqQ_exit (blockQ_here rfl (seqQ_normal (cwp_region (sl rfl (sl rfl (an (an (show 1 * 1 ≤ 16777216 from (Nat.le_of_ble_eq_true rfl)) (Nat.le_of_ble_eq_true rfl)) (an (show [AV.d (D.v (Value.int IntKind.i64 (↑(rc roots (↑k : Int) + sumTo j fun p => tellsOf (nth c p) (↑k : Int)) : Int)))].length = 1 from rfl) (sl rfl (an (an (Or.inr (show 1 = 1 from (by with_reducible rfl))) (forall_lt_one (show ((fun q => List.take 1 (List.drop (q * 1) [D.v (Value.int IntKind.i64 (↑(rc roots (↑k : Int) + sumTo j fun p => tellsOf (nth c p) (↑k : Int)) : Int))])) 0).length = 1 from rfl))) (an (an (show 1 = 1 from (by with_reducible rfl)) (an (show 1 = 1 from (by with_reducible rfl)) (fun i => (fun hi => (show ((fun i => [dint (nth (refsOf c roots) i)]) i).length = 1 from rfl))))) (Or.inr (an (an (by omega) (an (show (k + 1) * 8 ≤ big from (by unfold big; omega)) (by unfold big; omega))) (sl rfl (sl rfl (blockQ_normal (seqQ_normal (cwp_region (sl rfl (an (by with_reducible rfl) (ez (wrap64 (by omega)) (sl rfl (sl rfl (seqQ_normal (show Exists _ from ?_)))))))))))))))))))))))))))); rotate_right; (have hf1 := hb1; simp only [decide_eq_true_eq] at hf1; exfalso; omega)))
          refine ⟨k + 1, [0, 2], ⟨by omega, by omega⟩, ?_⟩
          (refine (an (an rfl (an rfl (an rfl (Nat.le_of_ble_eq_true rfl)))) (an (an (DEqv.refl _) (an (DEqv.refl _) (an (an (an rfl (by with_reducible rfl)) (Nat.le_of_ble_eq_true rfl)) (an (an (an rfl (an (show 1 = 1 from (by with_reducible rfl)) (an (by with_reducible rfl) (by with_reducible rfl)))) (Nat.le_of_ble_eq_true rfl)) (an (DEqv.refl _) True.intro))))) (an (an (DEqv.refl _) (an (DEqv.refl _) True.intro)) (an (an (an (show 1 = 1 from (by with_reducible rfl)) (by with_reducible rfl)) (fun i => (fun hi => (show LEqv (appF k (fun i => [dint (nth (refsOf c roots) (0 + i))]) (fun q => List.take ti3.size (List.drop (q * ti3.size) [D.v (Value.int IntKind.i64 (↑(rc roots (↑k : Int) + sumTo j fun p => tellsOf (nth c p) (↑k : Int)) : Int))])) i) [dint (nth (refsOf c roots) i)] from ?_)))) True.intro)))))
          refine LEqv_app1 (h := fun i => [dint (nth (refsOf c roots) i)]) hi (fun _ => LEqv.of_eq ?_) ?_
          · simp
          · rw [hv]; exact LEqv.refl _
    · have e : k = c.length := by omega
      (focus (refine (cwp_seq (cwp_seq (cwp_region (sl rfl (sl rfl (sl rfl (sl rfl (an (by with_reducible rfl) (sl rfl (seqQ_normal (cwp_cond (an (fun (hb1 : decide ((↑k : Int) < (↑c.length : Int)) = true) => ?_) (fun (hb2 : decide ((↑k : Int) < (↑c.length : Int)) = false) => ?_))))))))))))); rotate_right; (have hf2 := hb2; simp only [decide_eq_false_iff_not, Int.not_lt] at hf2; refine (cwp_exit (seqQ_exit (seqQ_exit (blockQ_here rfl (seqQ_normal (cwp_seq (cwp_region (sl rfl (sl rfl (seqQ_normal (cwp_ret (endQ_ret (an (by with_reducible rfl) (an (an (by with_reducible rfl) (an (by omega) (an (by omega) (Or.inr (by with_reducible rfl))))) (fun i => (fun hi => (show LEqv [dint (nth (refsOf c roots) (0 + i))] [dint (nth (refsOf c roots) i)] from ?_)))))))))))))))))); rotate_right; (have hf1 := hb1; simp only [decide_eq_true_eq] at hf1; exfalso; omega)))
      rw [Nat.zero_add]; exact LEqv.refl _

def aBools (l : List Bool) : AV := .d (.sl false 1 l.length fun i => [dbool (nth l i)])
/-- Does something hold of one below a number? -/
def anyTo : Nat → (Nat → Bool) → Bool
  | 0, _ => false
  | n + 1, g => anyTo n g || g n
def heldStep (c : List Cell) (b : List Bool) : List Bool := (List.range c.length).map fun (q : Nat) => nth b q || anyTo c.length fun p => nth b p && decide (0 < tellsOf (nth c p) (q : Int))
def heldOf (c : List Cell) (roots : List Int) : Nat → List Bool
  | 0 => (List.range c.length).map fun (p : Nat) => decide (0 < rc roots (p : Int))
  | k + 1 => heldStep c (heldOf c roots k)
theorem heldOf_len (c : List Cell) (roots : List Int) : ∀ k, (heldOf c roots k).length = c.length
  | 0 => by simp [heldOf]
  | k + 1 => by simp [heldOf, heldStep]
end Go.Proofs.Abs
