/- Nodes by the reference: At, With, Split. -/
import Derived.Test.YtonbocppkanogaaZC6
set_option linter.all false
namespace Go.Proofs.Abs
open Go Go.RowKit Go.Proofs
attribute [local irreducible] cwp seqQ blockQ endQ DEqv LEqv AWP drawOK

def below (it : List Item) (key : Int) : Nat := it.countP fun x => decide (x.k < key)
theorem below_succ {it : List Item} {key : Int} {k : Nat} (h : k < it.length) : below (it.take (k + 1)) key = below (it.take k) key + if (nth it k).k < key then 1 else 0 := by
  rw [take_succ h]; simp [below, List.countP_append, List.countP_cons]
theorem below_le (it : List Item) (key : Int) : below it key ≤ it.length := List.countP_le_length
theorem below_take_le (it : List Item) (key : Int) (k : Nat) : below (it.take k) key ≤ it.length := Nat.le_trans (below_le _ _) (by simp; omega)

def whereIs (it : List Item) (key : Int) : Nat := it.findIdx fun x => x.k == key
/-- Where a key stands, or leads. -/
def atOf (leaf : Bool) (it : List Item) (key : Int) : Nat × Bool :=
  if whereIs it key < it.length then (whereIs it key, true) else if leaf then (below it key, false) else (below it key - 1, false)

theorem whereIs_eq {it : List Item} {key : Int} {k : Nat} (hk : k < it.length) (hall : allTo k (fun i => (nth it i).k != key) = true) (h : (nth it k).k = key) : whereIs it key = k := by
  unfold whereIs
  rw [List.findIdx_eq hk]
  refine ⟨by rw [← nth_eq hk]; simpa using h, fun j hj => ?_⟩
  have := allTo_iff.1 hall j hj
  rw [nth_eq (by omega)] at this
  simpa using this
theorem whereIs_none {it : List Item} {key : Int} {k : Nat} (hk : it.length ≤ k) (hall : allTo k (fun i => (nth it i).k != key) = true) : ¬ whereIs it key < it.length := by
  unfold whereIs
  rw [List.findIdx_lt_length]
  rintro ⟨x, hx, e⟩
  obtain ⟨j, hj, rfl⟩ := List.getElem_of_mem hx
  have := allTo_iff.1 hall j (by omega)
  rw [nth_eq hj] at this
  simp_all

theorem pc_At04 (leaf : Bool) (it : List Item) (key : Int) (hl : it.length ≤ big) : PC Try.prog 76 [aNode leaf it, aint .i64 key] (.tup [aint .i64 (atOf leaf it key).1, abool (atOf leaf it key).2]) := by
  unfold big at hl
  refine PC_of tab_ok mixed (Try.func76) rfl (by kernel_rfl) (Nat.le_of_ble_eq_true rfl) rfl ?_
  (refine (cwp_seq (cwp_region (sl rfl (sl rfl (sl rfl (seqQ_normal (cwp_seq (cwp_region (sl rfl (seqQ_normal (cwp_seq (cwp_seq (cwp_region (sl rfl (seqQ_normal (cwp_block (cwp_loop ?_))))))))))))))))))
  refine AWP_for tab_ok mixed (fun k => it.length - k) (fun k => k ≤ it.length ∧ allTo k (fun i => (nth it i).k != key) = true) (fun k => [(1, aint .i64 key), (2, .own 0 0), (6, aint .i64 (below (it.take k) key)), (7, aint .i64 (k : Nat))]) (fun _ => [some (.cells [.d (dbool leaf), .d (dItems it)])]) 0 [0] ?_ ⟨Nat.zero_le _, rfl⟩ ?_
  · (refine (an (an rfl (an rfl (an rfl (Nat.le_of_ble_eq_true rfl)))) (an (an (DEqv.refl _) (an (an (an rfl (by with_reducible rfl)) (Nat.le_of_ble_eq_true rfl)) (an (DEqv.refl _) (an (DEqv.refl _) True.intro)))) (an (an (DEqv.refl _) (an (DEqv.refl _) True.intro)) True.intro))))
  · rintro k ⟨hk, hall⟩
    have hbl := below_take_le it key k
    (focus (refine (cwp_seq (cwp_seq (cwp_region (sl rfl (sl rfl (sl rfl (sl rfl (an (by with_reducible rfl) (sl rfl (seqQ_normal (cwp_cond (an (fun (hb1 : decide ((↑k : Int) < (↑it.length : Int)) = true) => ?_) (fun (hb6 : decide ((↑k : Int) < (↑it.length : Int)) = false) => ?_))))))))))))); rotate_right; (have hf6 := hb6; simp only [decide_eq_false_iff_not, Int.not_lt] at hf6; focus (refine (cwp_exit (seqQ_exit (seqQ_exit (blockQ_here rfl (seqQ_normal (cwp_seq (cwp_seq (cwp_region (sl rfl (sl rfl (seqQ_normal (cwp_cond (an (fun (hb7 : leaf = true) => ?_) (fun (hb8 : leaf = false) => ?_)))))))))))))); rotate_right; (have hf8 := hb8; refine (cwp_skip (seqQ_normal (cwp_seq (cwp_region (sl rfl (an (by with_reducible rfl) (ez (wrap64 (by omega)) (sl rfl (sl rfl (sl rfl (sl rfl (seqQ_normal (cwp_ret (endQ_ret (an (DEqv.int (show (if 0 > (↑(below (List.take k it) key) : Int) - 1 then 0 else (↑(below (List.take k it) key) : Int) - 1) = (↑(atOf leaf it key).fst : Int) from ?_)) (an (DEqv.bool (show false = (atOf leaf it key).snd from ?_)) True.intro))))))))))))))))); rotate_right; (have hf7 := hb7; refine (cwp_seq (cwp_region (sl rfl (sl rfl (sl rfl (seqQ_normal (cwp_ret (seqQ_ret (endQ_ret (an (DEqv.int (show (↑(below (List.take k it) key) : Int) = (↑(atOf leaf it key).fst : Int) from ?_)) (an (DEqv.bool (show false = (atOf leaf it key).snd from ?_)) True.intro)))))))))))))); rotate_right; (have hf1 := hb1; simp only [decide_eq_true_eq] at hf1; focus (refine (cwp_skip (seqQ_normal (cwp_seq (cwp_block (cwp_seq (cwp_seq (cwp_region (sl rfl (sl rfl (sl rfl (Exists.intro (k) (an (an (by with_reducible rfl) (an (by omega) (show 2 = 2 from (by with_reducible rfl)))) (sl rfl (sl rfl (sl rfl (sl rfl (an (by with_reducible rfl) (sl rfl (seqQ_normal (cwp_cond (an (fun (hb2 : ((nth it k).k == key) = true) => ?_) (fun (hb3 : ((nth it k).k == key) = false) => ?_)))))))))))))))))))))); rotate_right; (have hf3 := hb3; simp only [ne_eq, beq_eq_false_iff_ne] at hf3; focus (refine (cwp_skip (seqQ_normal (cwp_seq (cwp_region (sl rfl (sl rfl (sl rfl (Exists.intro (k) (an (an (by with_reducible rfl) (an (by omega) (show 2 = 2 from (by with_reducible rfl)))) (sl rfl (sl rfl (sl rfl (sl rfl (an (by with_reducible rfl) (sl rfl (seqQ_normal (cwp_cond (an (fun (hb4 : decide ((nth it k).k < key) = true) => ?_) (fun (hb5 : decide ((nth it k).k < key) = false) => ?_))))))))))))))))))); rotate_right; (have hf5 := hb5; simp only [decide_eq_false_iff_not, Int.not_lt] at hf5; refine (cwp_skip (blockQ_normal (seqQ_normal (cwp_region (sl rfl (an (by with_reducible rfl) (ez (wrap64 (by omega)) (sl rfl (sl rfl (seqQ_normal (show Exists _ from ?_)))))))))))); rotate_right; (have hf4 := hb4; simp only [decide_eq_true_eq] at hf4; refine (cwp_region (sl rfl (an (by with_reducible rfl) (ez (wrap64 (by omega)) (sl rfl (sl rfl (blockQ_normal (seqQ_normal (cwp_region (sl rfl (an (by with_reducible rfl) (ez (wrap64 (by omega)) (sl rfl (sl rfl (seqQ_normal (show Exists _ from ?_))))))))))))))))))); rotate_right; (have hf2 := hb2; simp only [beq_iff_eq] at hf2; refine (cwp_seq (cwp_region (sl rfl (sl rfl (sl rfl (seqQ_normal (cwp_ret (seqQ_ret (blockQ_ret (seqQ_ret (seqQ_ret (blockQ_ret (seqQ_ret (endQ_ret (an (DEqv.int (show (↑k : Int) = (↑(atOf leaf it key).fst : Int) from ?_)) (an (DEqv.bool (show true = (atOf leaf it key).snd from ?_)) True.intro)))))))))))))))))))))
    all_goals first
      | (refine ⟨k + 1, [0], ⟨by omega, by omega, allTo_step hall (by simp [*])⟩, ?_⟩; (first | (refine (an (an rfl (an rfl (an rfl (Nat.le_of_ble_eq_true rfl)))) (an (an (DEqv.refl _) (an (an (an rfl (by with_reducible rfl)) (Nat.le_of_ble_eq_true rfl)) (an (DEqv.int (show (↑(below (List.take k it) key) : Int) + 1 = (↑(below (List.take (k + 1) it) key) : Int) from ?_)) (an (DEqv.refl _) True.intro)))) (an (an (DEqv.refl _) (an (DEqv.refl _) True.intro)) True.intro)))) | (refine (an (an rfl (an rfl (an rfl (Nat.le_of_ble_eq_true rfl)))) (an (an (DEqv.refl _) (an (an (an rfl (by with_reducible rfl)) (Nat.le_of_ble_eq_true rfl)) (an (DEqv.int (show (↑(below (List.take k it) key) : Int) = (↑(below (List.take (k + 1) it) key) : Int) from ?_)) (an (DEqv.refl _) True.intro)))) (an (an (DEqv.refl _) (an (DEqv.refl _) True.intro)) True.intro))))); rw [below_succ (by omega)]; split <;> omega)
      | (have e := whereIs_eq (by omega) hall (by assumption); simp [atOf, e, show k < it.length by omega]; done)
      | (have e := whereIs_none (by omega) hall; rw [show k = it.length by omega, List.take_length]; simp [atOf, e, *]; done)
      | (have e := whereIs_none (by omega) hall; rw [show k = it.length by omega, List.take_length]; simp only [atOf, e, if_false, *]; split <;> simp <;> omega)
      | (have e := whereIs_none (by omega) hall; simp [atOf, e, *]; done)

theorem pc_With04 (l more : List Item) (at' gone : Nat) (hl : l.length ≤ 1000) (hm : more.length ≤ 1000) (h : at' + gone ≤ l.length) :
    PC Try.prog 79 [aItems l, aint .i64 at', aint .i64 gone, aItems more] (aItems (l.take at' ++ more ++ l.drop (at' + gone))) := by
  refine PC_of tab_ok mixed (Try.func79) rfl (by kernel_rfl) (Nat.le_of_ble_eq_true rfl) rfl ?_
  (refine (cwp_seq (cwp_region (sl rfl (seqQ_normal (cwp_seq (cwp_region (an (an (show 0 * 2 ≤ 16777216 from (Nat.le_of_ble_eq_true rfl)) (Nat.le_of_ble_eq_true rfl)) (sl rfl (sl rfl (sl rfl (Exists.intro (at') (an (by with_reducible rfl) (an (an (sl rfl (by omega)) (Or.inr (show 2 = 2 from (by with_reducible rfl)))) (sl rfl (an (an (Or.inr (show 2 = 2 from (by with_reducible rfl))) (fun i => (fun hi => (show ((fun i => (fun i => dItem (nth l i)) (0 + i)) i).length = 2 from rfl)))) (an (an (an (by with_reducible rfl) (Or.inl (by with_reducible rfl))) (an (Or.inl (by with_reducible rfl)) (an forall_lt_zero (an (show (0 + (at' - 0)) * 16 ≤ big from (by unfold big; omega)) (by unfold big; omega))))) (sl rfl (sl rfl (an (an (Or.inr (show 2 = 2 from (by with_reducible rfl))) (fun i => (fun hi => (show ((fun i => dItem (nth more i)) i).length = 2 from rfl)))) (an (an (show 2 = 2 from (by with_reducible rfl)) (an (show 2 = 2 from (by with_reducible rfl)) (fun i => (fun hi => (show (appF 0 (fun q => List.take 2 (List.drop (q * 2) [])) (fun i => (fun i => dItem (nth l i)) (0 + i)) i).length = 2 from rfl))))) (Or.inr (an (an (by omega) (an (show (0 + (at' - 0) + more.length) * 16 ≤ big from (by unfold big; omega)) (by unfold big; omega))) (sl rfl (sl rfl (seqQ_normal (cwp_seq (cwp_region (sl rfl (sl rfl (sl rfl (sl rfl (an (by with_reducible rfl) (ez (wrap64 (by omega)) (sl rfl (Exists.intro (at' + gone) (an (by omega) (an (an (an (by assumption) (by omega)) (Or.inr (show 2 = 2 from (by with_reducible rfl)))) (sl rfl (an (an (Or.inr (show 2 = 2 from (by with_reducible rfl))) (fun i => (fun hi => (show ((fun i => (fun i => dItem (nth l i)) (at' + gone + i)) i).length = 2 from rfl)))) (an (an (show 2 = 2 from (by with_reducible rfl)) (an (show 2 = 2 from (by with_reducible rfl)) (fun i => (fun hi => (show (appF (0 + (at' - 0)) (fun i => appF 0 (fun q => List.take 2 (List.drop (q * 2) [])) (fun i => (fun i => dItem (nth l i)) (0 + i)) (0 + i)) (fun i => dItem (nth more i)) i).length = 2 from ?_))))) (Or.inr (an (an (by omega) (an (show (0 + (at' - 0) + more.length + (l.length - (at' + gone))) * 16 ≤ big from (by unfold big; omega)) (by unfold big; omega))) (sl rfl (sl rfl (seqQ_normal (cwp_ret (endQ_ret (an (by with_reducible rfl) (an (an (show 2 = 2 from (by with_reducible rfl)) (an (by omega) (an (show 0 + (at' - 0) + more.length + (l.length - (at' + gone)) = (List.take at' l ++ more ++ List.drop (at' + gone) l).length from ?_) (Or.inr (show 2 = 2 from (by with_reducible rfl)))))) (fun i => (fun hi => (show LEqv (appF (0 + (at' - 0) + more.length) (fun i => appF (0 + (at' - 0)) (fun i => appF 0 (fun q => List.take ti26.size (List.drop (q * ti26.size) [])) (fun i => dItem (nth l (0 + i))) (0 + i)) (fun i => dItem (nth more i)) (0 + i)) (fun i => dItem (nth l (at' + gone + i))) (0 + i)) (dItem (nth (List.take at' l ++ more ++ List.drop (at' + gone) l) i)) from ?_)))))))))))))))))))))))))))))))))))))))))))))))))))))
  · simp only [appF]
    repeat' split
    all_goals first | rfl | omega
  · simp; omega
  · simp only [appF, Nat.zero_add, Nat.sub_zero, Nat.not_lt_zero, if_false]
    simp only [List.length_append, List.length_take, List.length_drop] at hi
    refine LEqv.of_eq ?_
    rw [nth_append, nth_append]
    simp only [List.length_append, List.length_take]
    rw [show min at' l.length = at' by omega]
    split
    · split
      · rw [nth_take _ _ _ ‹_›]
      · rfl
    · rw [nth_drop]

/-- Items in rows that nodes can have. -/
def rowsOf : List Item → List (List Item)
  | a :: b :: c :: d :: e :: r => [a, b, c] :: rowsOf (d :: e :: r)
  | [] => []
  | l => [l]
def aRows (l : List (List Item)) : AV := .d (.sl false 1 l.length fun i => [dItems (nth l i)])

theorem rowsOf_big {l : List Item} (h : 4 < l.length) : rowsOf l = l.take 3 :: rowsOf (l.drop 3) := by
  match l, h with
  | a :: b :: c :: d :: e :: r, _ => rfl

theorem rowsOf_small {l : List Item} (h : l.length ≤ 4) (h' : l.length ≠ 0) : rowsOf l = [l] := by
  match l, h, h' with
  | [a], _, _ => rfl
  | [a, b], _, _ => rfl
  | [a, b, c], _, _ => rfl
  | [a, b, c, d], _, _ => rfl

theorem LEqv_items {n : Nat} {l : List Item} {t : Bool} {f : Nat → List D} (hn : n = l.length) (h : ∀ i, i < n → LEqv (f i) (dItem (nth l i))) : LEqv [.sl t 2 n f] [dItems l] :=
  .cons (DEqv.sl hn (fun e => by cases e) (.inr rfl) h) .nil

theorem rowsOf_len (l : List Item) : (rowsOf l).length ≤ l.length ∧ (l ≠ [] → 0 < (rowsOf l).length) := by
  induction l using rowsOf.induct with
  | case1 a b c d e r ih => simp only [rowsOf, List.length_cons] at ih ⊢; omega
  | case2 => simp [rowsOf]
  | case3 l h1 h2 =>
    match l, h1, h2 with
    | [a], _, _ => simp [rowsOf]
    | [a, b], _, _ => simp [rowsOf]
    | [a, b, c], _, _ => simp [rowsOf]
    | [a, b, c, d], _, _ => simp [rowsOf]
    | a :: b :: c :: d :: e :: r, h1, _ => exact absurd rfl (h1 a b c d e r)

theorem pc_Split04 : ∀ (n : Nat) (l : List Item), l.length ≤ n → l.length ≤ 1000 → PC Try.prog 78 [aItems l] (aRows (rowsOf l)) := by
  intro n
  induction n with
  | zero =>
    intro l hn _
    obtain rfl : l = [] := List.eq_nil_of_length_eq_zero (by omega)
    refine PC_of tab_ok mixed (Try.func78) rfl (by kernel_rfl) (Nat.le_of_ble_eq_true rfl) rfl ?_
    (refine (cwp_seq (cwp_region (sl rfl (seqQ_normal (cwp_seq (cwp_seq (cwp_region (sl rfl (sl rfl (an (by with_reducible rfl) (sl rfl (seqQ_normal (cwp_cond (oT rfl (cwp_seq (cwp_region (sl rfl (seqQ_normal (cwp_ret (seqQ_ret (endQ_ret DEqv.nil))))))))))))))))))))))
  | succ n ih =>
    intro l hn hl
    have hr := rowsOf_len (l.drop 3)
    simp only [List.length_drop] at hr
    refine PC_of tab_ok mixed (Try.func78) rfl (by kernel_rfl) (Nat.le_of_ble_eq_true rfl) rfl ?_
    (focus (refine (cwp_seq (cwp_region (sl rfl (seqQ_normal (cwp_seq (cwp_seq (cwp_region (sl rfl (sl rfl (an (by with_reducible rfl) (sl rfl (seqQ_normal (cwp_cond (an (fun (hb1 : ((↑l.length : Int) == 0) = true) => ?_) (fun (hb2 : ((↑l.length : Int) == 0) = false) => ?_))))))))))))))); rotate_right; (have hf2 := hb2; simp only [ne_eq, beq_eq_false_iff_ne] at hf2; focus (refine (cwp_skip (seqQ_normal (cwp_seq (cwp_seq (cwp_region (sl rfl (sl rfl (an (by with_reducible rfl) (sl rfl (seqQ_normal (cwp_cond (an (fun (hb3 : decide ((↑l.length : Int) ≤ 4) = true) => ?_) (fun (hb4 : decide ((↑l.length : Int) ≤ 4) = false) => ?_))))))))))))); rotate_right; (have hf4 := hb4; simp only [decide_eq_false_iff_not, Int.not_le] at hf4; refine (cwp_skip (seqQ_normal (cwp_seq (cwp_draw (sl rfl (Exists.intro (3) (an (by omega) (an (an (sl rfl (by omega)) (Or.inr (show 2 = 2 from (by with_reducible rfl)))) (sl rfl (an (an (show 1 * 1 ≤ 16777216 from (Nat.le_of_ble_eq_true rfl)) (Nat.le_of_ble_eq_true rfl)) (an (show [AV.d (D.sl (false && ((some (Operand.const (Value.int IntKind.i64 3))).isNone || zB l.length)) 2 (3 - 0) fun i => (fun i => dItem (nth l i)) (0 + i))].length = 1 from rfl) (sl rfl (sl rfl (Exists.intro (3) (an (by omega) (an (an (an (by omega) (by omega)) (Or.inr (show 2 = 2 from (by with_reducible rfl)))) (sl rfl (Or.inl (PC.at (ih (l.drop 3) (by simp; omega) (by simp; omega)) (an ?_ True.intro) (sl rfl (an (an (Or.inr (show 1 = 1 from (by with_reducible rfl))) (fun i => (fun hi => (show ((fun i => [dItems (nth (rowsOf (List.drop 3 l)) i)]) i).length = 1 from rfl)))) (an (an (an (by with_reducible rfl) ?_) (an (Or.inr (show 1 = 1 from (by with_reducible rfl))) (an (forall_lt_one (show ((fun q => List.take 1 (List.drop (q * 1) [D.sl (false && ((some (Operand.const (Value.int IntKind.i64 3))).isNone || zB l.length)) 2 (3 - 0) fun i => (fun i => dItem (nth l i)) (0 + i)])) 0).length = 1 from rfl)) (an (show (1 + (rowsOf (List.drop 3 l)).length) * 24 ≤ big from (by unfold big; omega)) (by unfold big; omega))))) (sl rfl (sl rfl (an (by kernel_rfl) (seqQ_normal (cwp_ret (endQ_ret (an (by with_reducible rfl) (an (an (show 1 = 1 from (by with_reducible rfl)) (an (by omega) (an (show 1 + (rowsOf (List.drop 3 l)).length = (rowsOf l).length from ?_) (Or.inr (show 1 = 1 from (by with_reducible rfl)))))) (fun i => (fun hi => (show LEqv (appF 1 (fun q => List.take ti27.size (List.drop (q * ti27.size) [D.sl (false && ((some (Operand.const (Value.int IntKind.i64 3))).isNone || zB l.length)) 2 (3 - 0) fun i => dItem (nth l (0 + i))])) (fun i => [dItems (nth (rowsOf (List.drop 3 l)) i)]) (0 + i)) [dItems (nth (rowsOf l) i)] from ?_)))))))))))))))))))))))))))))))))); rotate_right; (have hf3 := hb3; simp only [decide_eq_true_eq] at hf3; refine (cwp_seq (cwp_region (sl rfl (an (an (show 1 * 1 ≤ 16777216 from (Nat.le_of_ble_eq_true rfl)) (Nat.le_of_ble_eq_true rfl)) (an (show [AV.d (dItems l)].length = 1 from rfl) (sl rfl (sl rfl (seqQ_normal (cwp_ret (seqQ_ret (endQ_ret (show DEqv (D.sl true ti27.size 1 fun q => List.take ti27.size (List.drop (q * ti27.size) [dItems l])) (D.sl false 1 (rowsOf l).length fun i => [dItems (nth (rowsOf l) i)]) from ?_))))))))))))))); rotate_right; (have hf1 := hb1; simp only [beq_iff_eq] at hf1; refine (cwp_seq (cwp_region (sl rfl (seqQ_normal (cwp_ret (seqQ_ret (endQ_ret (show DEqv (D.sl true 0 0 fun x => []) (D.sl false 1 (rowsOf l).length fun i => [dItems (nth (rowsOf l) i)]) from ?_)))))))))))
    · obtain rfl : l = [] := List.eq_nil_of_length_eq_zero (by omega)
      exact DEqv.sl rfl (fun _ => rfl) (.inl rfl) fun i hi => absurd hi (Nat.not_lt_zero i)
    · rw [rowsOf_small (by omega) (by omega)]
      refine DEqv.sl rfl (fun _ => rfl) (.inr rfl) fun i hi => ?_
      obtain rfl : i = 0 := by omega
      exact LEqv.refl _
    · exact DEqv.sl (by simp) (fun e => e) (.inr rfl) fun i hi => LEqv.of_eq (by rw [nth_drop])
    · exact .inr (hr.2 (by intro e; have := congrArg List.length e; simp at this; omega))
    · rw [rowsOf_big (l := l) (by omega)]; simp; omega
    · rw [rowsOf_big (l := l) (by omega)] at hi ⊢
      rw [Nat.zero_add]
      refine LEqv_app (k := 1) (n := (rowsOf (l.drop 3)).length) (h := fun i => [dItems (nth (l.take 3 :: rowsOf (l.drop 3)) i)]) (by simp at hi; omega) (fun h1 => ?_) fun j hj => ?_
      · obtain rfl : i = 0 := by omega
        refine LEqv_items (by show 3 - 0 = (l.take 3).length; simp; omega) fun j hj => LEqv.of_eq ?_
        show dItem (nth l (0 + j)) = dItem (nth (l.take 3) j)
        rw [nth_take _ _ _ (by omega), Nat.zero_add]
      · refine LEqv.of_eq ?_
        rw [show nth (l.take 3 :: rowsOf (l.drop 3)) (1 + j) = nth (rowsOf (l.drop 3)) j by rw [Nat.add_comm]; rfl]
end Go.Proofs.Abs
