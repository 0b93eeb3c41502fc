/- What the small functions of the references come to. -/
import Derived.Test.YtonbocppkanogaaZC2
set_option linter.all false
namespace Go.Proofs.Abs
open Go Go.RowKit Go.Proofs
attribute [local irreducible] cwp seqQ blockQ endQ DEqv LEqv AWP drawOK

structure Item where
  k : Int
  v : Int
deriving DecidableEq, Inhabited
structure Node where
  leaf : Bool
  it : List Item
deriving DecidableEq, Inhabited
structure Cell where
  ref : Int
  pin : Bool
  n : Node
deriving DecidableEq, Inhabited
structure Heap where
  c : List Cell
  keep : Int
deriving DecidableEq, Inhabited

def dint (n : Int) : D := .v (.int .i64 n)
def dbool (b : Bool) : D := .v (.bool b)
/-- The i-th of a row. -/
def nth {α : Type} [Inhabited α] (l : List α) (i : Nat) : α := l.getD i default
def dItem (x : Item) : List D := [dint x.k, dint x.v]
def dItems (l : List Item) : D := .sl false 2 l.length fun i => dItem (nth l i)
def dNode (n : Node) : List D := [dbool n.leaf, dItems n.it]
def dCell (c : Cell) : List D := [dint c.ref, dbool c.pin, dbool c.n.leaf, dItems c.n.it]
def dCells (l : List Cell) : D := .sl false 4 l.length fun i => dCell (nth l i)
def dInts (l : List Int) : D := .sl false 1 l.length fun i => [dint (nth l i)]
def aItem (k v : Int) : AV := .agg [.d (dint k), .d (dint v)]
def aItems (l : List Item) : AV := .d (dItems l)
def aInts (l : List Int) : AV := .d (dInts l)
def aNode (leaf : Bool) (it : List Item) : AV := .agg [.d (dbool leaf), .d (dItems it)]
def aHeap (c : List Cell) (keep : Int) : AV := .agg [.d (dCells c), .d (dint keep)]

theorem pc_fits (n : Int) : PC Try.prog 99 [aint .i64 n] (abool (decide (0 ≤ n ∧ n ≤ 2147483647))) := by
  refine PC_of tab_ok mixed Try.func99 rfl (by kernel_rfl) (Nat.le_of_ble_eq_true rfl) rfl ?_
  (focus (refine (cwp_seq (cwp_region (sl rfl (seqQ_normal (cwp_seq (cwp_region (sl rfl (an (by with_reducible rfl) (sl rfl (sl rfl (sl rfl (an (fun (hb1 : decide (n ≥ 0) = true) => ?_) (fun (hb2 : decide (n ≥ 0) = false) => ?_))))))))))))); rotate_right; (have hf2 := hb2; simp only [decide_eq_false_iff_not, Int.not_le] at hf2; refine (sl rfl (sl rfl (oF hb2 (sl rfl (oF hb2 (sl rfl (sl rfl (seqQ_normal (cwp_ret (endQ_ret (DEqv.bool (show false = decide (0 ≤ n ∧ n ≤ 2147483647) from ?_))))))))))))); rotate_right; (have hf1 := hb1; simp only [decide_eq_true_eq, ge_iff_le] at hf1; refine (sl rfl (sl rfl (oT hb1 (an (by with_reducible rfl) (sl rfl (oT hb1 (sl rfl (sl rfl (seqQ_normal (cwp_ret (endQ_ret (DEqv.bool (show decide (n ≤ 2147483647) = decide (0 ≤ n ∧ n ≤ 2147483647) from ?_))))))))))))))))
  all_goals simp; omega

def used (c : List Cell) (p : Int) : Bool := decide (0 ≤ p ∧ p < c.length ∧ 0 < (nth c p.toNat).ref)

theorem pc_Used (c : List Cell) (keep p : Int) : PC Try.prog 67 [aHeap c keep, aint .i64 p] (abool (used c p)) := by
  refine PC_of tab_ok mixed Try.func67 rfl (by kernel_rfl) (Nat.le_of_ble_eq_true rfl) rfl ?_
  (focus (refine (cwp_seq (cwp_region (sl rfl (sl rfl (seqQ_normal (cwp_seq (cwp_region (sl rfl (an (by with_reducible rfl) (sl rfl (sl rfl (sl rfl (an (fun (hb1 : decide (p ≥ 0) = true) => ?_) (fun (hb4 : decide (p ≥ 0) = false) => ?_)))))))))))))); rotate_right; (have hf4 := hb4; simp only [decide_eq_false_iff_not, Int.not_le] at hf4; refine (sl rfl (sl rfl (oF hb4 (sl rfl (sl rfl (oF hb4 (sl rfl (sl rfl (oF hb4 (sl rfl (sl rfl (oF hb4 (sl rfl (oF hb4 (sl rfl (sl rfl (sl rfl (oF rfl (sl rfl (sl rfl (oF rfl (sl rfl (sl rfl (oF rfl (sl rfl (sl rfl (oF rfl (sl rfl (sl rfl (oF rfl (sl rfl (sl rfl (oF rfl (sl rfl (sl rfl (oF rfl (sl rfl (oF rfl (sl rfl (sl rfl (seqQ_normal (cwp_ret (endQ_ret (DEqv.bool (show false = used c p from ?_)))))))))))))))))))))))))))))))))))))))))))))); rotate_right; (have hf1 := hb1; simp only [decide_eq_true_eq, ge_iff_le] at hf1; focus (refine (sl rfl (sl rfl (oT hb1 (sl rfl (sl rfl (oT hb1 (sl rfl (sl rfl (oT hb1 (sl rfl (sl rfl (oT hb1 (an (by with_reducible rfl) (sl rfl (oT hb1 (sl rfl (sl rfl (sl rfl (an (fun (hb2 : decide (p < (↑c.length : Int)) = true) => ?_) (fun (hb3 : decide (p < (↑c.length : Int)) = false) => ?_)))))))))))))))))))); rotate_right; (have hf3 := hb3; simp only [decide_eq_false_iff_not, Int.not_lt] at hf3; refine (sl rfl (sl rfl (oF hb3 (sl rfl (sl rfl (oF hb3 (sl rfl (sl rfl (oF hb3 (sl rfl (sl rfl (oF hb3 (sl rfl (sl rfl (oF hb3 (sl rfl (sl rfl (oF hb3 (sl rfl (oF hb3 (sl rfl (sl rfl (seqQ_normal (cwp_ret (endQ_ret (DEqv.bool (show false = used c p from ?_)))))))))))))))))))))))))))); rotate_right; (have hf2 := hb2; simp only [decide_eq_true_eq] at hf2; refine (sl rfl (sl rfl (oT hb2 (sl rfl (sl rfl (oT hb2 (sl rfl (sl rfl (oT hb2 (Exists.intro (p.toNat) (an (an (by omega) (an (by omega) (show 4 = 4 from (by with_reducible rfl)))) (sl rfl (sl rfl (oT hb2 (sl rfl (sl rfl (oT hb2 (sl rfl (sl rfl (oT hb2 (an (by with_reducible rfl) (sl rfl (oT hb2 (sl rfl (sl rfl (seqQ_normal (cwp_ret (endQ_ret (DEqv.bool (show decide ((nth c p.toNat).ref > 0) = used c p from ?_)))))))))))))))))))))))))))))))))))
  all_goals (unfold used; (first | (rw [decide_eq_decide]; omega) | (symm; rw [decide_eq_false_iff_not]; omega) | (rw [decide_eq_false_iff_not]; omega) | (symm; rw [decide_eq_true_eq]; omega) | (rw [decide_eq_true_eq]; omega)))

def isFree (c : Cell) : Bool := c.ref == 0 && !c.pin
def free (c : List Cell) : Nat := c.countP isFree

theorem nth_eq {α : Type} [Inhabited α] {l : List α} {k : Nat} (h : k < l.length) : nth l k = l[k] := by simp [nth, h]
theorem take_succ {α : Type} [Inhabited α] {l : List α} {k : Nat} (h : k < l.length) : l.take (k + 1) = l.take k ++ [nth l k] := by
  rw [nth_eq h]; simp

theorem free_succ {c : List Cell} {k : Nat} (h : k < c.length) : free (c.take (k + 1)) = free (c.take k) + if isFree (nth c k) then 1 else 0 := by
  rw [take_succ h]; simp [free, List.countP_append, List.countP_cons]
theorem free_le (c : List Cell) : free c ≤ c.length := List.countP_le_length
theorem free_take_le (c : List Cell) (k : Nat) : free (c.take k) ≤ c.length := Nat.le_trans (free_le _) (by simp; omega)

theorem pc_Free (c : List Cell) (keep : Int) (hb : c.length ≤ 2000) : PC Try.prog 22 [aHeap c keep] (aint .i64 (free c)) := by
  refine PC_of tab_ok mixed Try.func22 rfl (by kernel_rfl) (Nat.le_of_ble_eq_true rfl) rfl ?_
  (refine (cwp_seq (cwp_region (sl rfl (sl rfl (seqQ_normal (cwp_seq (cwp_region (sl rfl (seqQ_normal (cwp_seq (cwp_seq (cwp_region (sl rfl (seqQ_normal (cwp_block (cwp_loop ?_)))))))))))))))))
  refine AWP_for tab_ok mixed (fun k => c.length - k) (fun k => k ≤ c.length) (fun k => [(1, .own 0 0), (3, aint .i64 (free (c.take k))), (4, aint .i64 (k : Nat))]) (fun _ => [some (.cells [.d (dCells c), .d (dint keep)])]) 0 [0] ?_ (Nat.zero_le _) ?_
  · (refine (an (an rfl (an rfl (an rfl (Nat.le_of_ble_eq_true rfl)))) (an (an (an (an rfl (by with_reducible rfl)) (Nat.le_of_ble_eq_true rfl)) (an (DEqv.refl _) (an (DEqv.refl _) True.intro))) (an (an (DEqv.refl _) (an (DEqv.refl _) True.intro)) True.intro))))
  · intro k hk
    have := free_take_le c k
    (focus (refine (cwp_seq (cwp_seq (cwp_region (sl rfl (sl rfl (sl rfl (sl rfl (an (by with_reducible rfl) (sl rfl (seqQ_normal (cwp_cond (an (fun (hb1 : decide ((↑k : Int) < (↑c.length : Int)) = true) => ?_) (fun (hb6 : decide ((↑k : Int) < (↑c.length : Int)) = false) => ?_))))))))))))); rotate_right; (have hf6 := hb6; simp only [decide_eq_false_iff_not, Int.not_lt] at hf6; refine (cwp_exit (seqQ_exit (seqQ_exit (blockQ_here rfl (seqQ_normal (cwp_seq (cwp_region (sl rfl (sl rfl (seqQ_normal (cwp_ret (endQ_ret (DEqv.int (show (↑(free (List.take k c)) : Int) = (↑(free c) : Int) from ?_))))))))))))))); rotate_right; (have hf1 := hb1; simp only [decide_eq_true_eq] at hf1; focus (refine (cwp_skip (seqQ_normal (cwp_seq (cwp_block (cwp_seq (cwp_region (sl rfl (sl rfl (sl rfl (Exists.intro (k) (an (an (by with_reducible rfl) (an (by omega) (show 4 = 4 from (by with_reducible rfl)))) (sl rfl (sl rfl (sl rfl (an (by with_reducible rfl) (sl rfl (sl rfl (sl rfl (an (fun (hb2 : ((nth c k).ref == 0) = true) => ?_) (fun (hb5 : ((nth c k).ref == 0) = false) => ?_)))))))))))))))))))); rotate_right; (have hf5 := hb5; simp only [ne_eq, beq_eq_false_iff_ne] at hf5; refine (sl rfl (sl rfl (oF hb5 (sl rfl (sl rfl (oF hb5 (sl rfl (sl rfl (oF hb5 (sl rfl (sl rfl (oF hb5 (sl rfl (sl rfl (oF hb5 (sl rfl (sl rfl (oF hb5 (sl rfl (oF hb5 (sl rfl (seqQ_normal (cwp_cond (oF rfl (cwp_skip (blockQ_normal (seqQ_normal (cwp_region (sl rfl (an (by with_reducible rfl) (ez (wrap64 (by omega)) (sl rfl (sl rfl (seqQ_normal (show Exists _ from ?_)))))))))))))))))))))))))))))))))))); rotate_right; (have hf2 := hb2; simp only [beq_iff_eq] at hf2; focus (refine (sl rfl (sl rfl (oT hb2 (sl rfl (sl rfl (oT hb2 (sl rfl (sl rfl (oT hb2 (Exists.intro (k) (an (an (by with_reducible rfl) (an (by omega) (show 4 = 4 from (by with_reducible rfl)))) (sl rfl (sl rfl (oT hb2 (sl rfl (sl rfl (oT hb2 (sl rfl (sl rfl (oT hb2 (sl rfl (oT hb2 (sl rfl (seqQ_normal (cwp_cond (an (fun (hb3 : (!(nth c k).pin) = true) => ?_) (fun (hb4 : (!(nth c k).pin) = false) => ?_))))))))))))))))))))))))))); rotate_right; (have hf4 := hb4; simp only [Bool.not_eq_false'] at hf4; refine (cwp_skip (blockQ_normal (seqQ_normal (cwp_region (sl rfl (an (by with_reducible rfl) (ez (wrap64 (by omega)) (sl rfl (sl rfl (seqQ_normal (show Exists _ from ?_)))))))))))); rotate_right; (have hf3 := hb3; simp only [Bool.not_eq_true'] at hf3; refine (cwp_region (sl rfl (an (by with_reducible rfl) (ez (wrap64 (by omega)) (sl rfl (sl rfl (blockQ_normal (seqQ_normal (cwp_region (sl rfl (an (by with_reducible rfl) (ez (wrap64 (by omega)) (sl rfl (sl rfl (seqQ_normal (show Exists _ from ?_)))))))))))))))))))))))
    · refine ⟨k + 1, [0], ⟨by omega, by omega⟩, ?_⟩
      (refine (an (an rfl (an rfl (an rfl (Nat.le_of_ble_eq_true rfl)))) (an (an (an (an rfl (by with_reducible rfl)) (Nat.le_of_ble_eq_true rfl)) (an (DEqv.int (show (↑(free (List.take k c)) : Int) + 1 = (↑(free (List.take (k + 1) c)) : Int) from ?_)) (an (DEqv.refl _) True.intro))) (an (an (DEqv.refl _) (an (DEqv.refl _) True.intro)) True.intro))))
      rw [free_succ (by omega)]; simp [isFree, *]
    · refine ⟨k + 1, [0], ⟨by omega, by omega⟩, ?_⟩
      (refine (an (an rfl (an rfl (an rfl (Nat.le_of_ble_eq_true rfl)))) (an (an (an (an rfl (by with_reducible rfl)) (Nat.le_of_ble_eq_true rfl)) (an (DEqv.int (show (↑(free (List.take k c)) : Int) = (↑(free (List.take (k + 1) c)) : Int) from ?_)) (an (DEqv.refl _) True.intro))) (an (an (DEqv.refl _) (an (DEqv.refl _) True.intro)) True.intro))))
      rw [free_succ (by omega)]; simp [isFree, *]
    · refine ⟨k + 1, [0], ⟨by omega, by omega⟩, ?_⟩
      (refine (an (an rfl (an rfl (an rfl (Nat.le_of_ble_eq_true rfl)))) (an (an (an (an rfl (by with_reducible rfl)) (Nat.le_of_ble_eq_true rfl)) (an (DEqv.int (show (↑(free (List.take k c)) : Int) = (↑(free (List.take (k + 1) c)) : Int) from ?_)) (an (DEqv.refl _) True.intro))) (an (an (DEqv.refl _) (an (DEqv.refl _) True.intro)) True.intro))))
      rw [free_succ (by omega)]; simp [isFree, *]
    · rw [show k = c.length by omega, List.take_length]
end Go.Proofs.Abs
