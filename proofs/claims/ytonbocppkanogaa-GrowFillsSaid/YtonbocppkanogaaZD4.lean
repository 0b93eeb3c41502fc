/- Nodes that are laid, and made anew, by the reference. -/
import Derived.Test.YtonbocppkanogaaZD3
set_option linter.all false
namespace Go.Proofs.Abs
open Go Go.RowKit Go.Proofs
attribute [local irreducible] cwp seqQ blockQ endQ DEqv LEqv AWP drawOK

/-- No Ref is beyond a bound. -/
def RefLe (c : List Cell) (B : Int) : Prop := ∀ i, (nth c i).ref ≤ B
theorem RefLe.mono {c : List Cell} {B B' : Int} (h : RefLe c B) (hB : B ≤ B') : RefLe c B' := fun i => by have := h i; omega
theorem alloc_refLe {c : List Cell} {leaf : Bool} {it : List Item} {held : List Int} {B : Int} (h : RefLe c B) (hB : 0 ≤ B) : RefLe (alloc c leaf it held).1 (B + 4) := by
  unfold alloc
  split
  · rename_i hr
    simp only [Bool.and_eq_true] at hr
    have hr := rightNode_len hr.1
    split
    · intro i
      refine nth_set_cases (fun x : Cell => x.ref ≤ B + 4) ?_ (by simp; omega)
      unfold layIn
      split
      · exact h.mono (by omega) i
      · have h1 := (fold_ref held i it c).2
        have h2 : (nth c i).ref ≤ B := h i
        have : (it.length : Int) ≤ 4 := by omega
        omega
    · exact h.mono (by omega)
  · exact h.mono (by omega)
theorem layIn_length (c : List Cell) (leaf : Bool) (it : List Item) (held : List Int) : (layIn c leaf it held).length = c.length := by
  unfold layIn; split
  · rfl
  · exact fold_length _ _ _
theorem alloc_length (c : List Cell) (leaf : Bool) (it : List Item) (held : List Int) : (alloc c leaf it held).1.length = c.length := by
  unfold alloc
  split
  · split
    · simp [layIn_length]
    · rfl
  · rfl

/-- Rows laid as nodes, and what they come to: the first k of them. -/
def layTo (c : List Cell) (leaf : Bool) (rows : List (List Item)) (held : List Int) : Nat → List Cell × List Item
  | 0 => (c, [])
  | k + 1 =>
    let a := alloc (layTo c leaf rows held k).1 leaf (nth rows k) held
    (a.1, (layTo c leaf rows held k).2 ++ [⟨(nth (nth rows k) 0).k, a.2.1⟩])
def lay (c : List Cell) (leaf : Bool) (rows : List (List Item)) (held : List Int) : List Cell × List Item := layTo c leaf rows held rows.length

theorem layTo_len (c : List Cell) (leaf : Bool) (rows : List (List Item)) (held : List Int) : ∀ k, (layTo c leaf rows held k).1.length = c.length ∧ (layTo c leaf rows held k).2.length = k
  | 0 => ⟨rfl, rfl⟩
  | k + 1 => by
    have := layTo_len c leaf rows held k
    simp [layTo, alloc_length, this]
theorem layTo_refLe {c : List Cell} {leaf : Bool} {rows : List (List Item)} {held : List Int} {B : Int} (h : RefLe c B) (hB : 0 ≤ B) : ∀ k : Nat, RefLe (layTo c leaf rows held k).1 (B + 4 * k)
  | 0 => by simpa [layTo] using h
  | k + 1 => by
    have := alloc_refLe (leaf := leaf) (it := nth rows k) (held := held) (layTo_refLe (leaf := leaf) (rows := rows) (held := held) h hB k) (by omega)
    rwa [show B + 4 * (k : Int) + 4 = B + 4 * ((k + 1 : Nat) : Int) by omega] at this

theorem pc_Lay (c : List Cell) (keep : Int) (leaf : Bool) (rows : List (List Item)) (held : List Int) (hc : c.length ≤ 2000) {B : Int} (hr : RefLe c B) (hB : 0 ≤ B ∧ B ≤ 3000000000) (hn : rows.length ≤ 1000)
    (hrow : ∀ k, k < rows.length → 1 ≤ (nth rows k).length ∧ (nth rows k).length ≤ 1000) (hh : held.length ≤ 1000) :
    PC Try.prog 77 [aHeap c keep, abool leaf, aRows rows, aInts held] (.tup [aHeap (lay c leaf rows held).1 keep, aItems (lay c leaf rows held).2]) := by
  refine PC_of tab_ok mixed (Try.func77) rfl (by kernel_rfl) (Nat.le_of_ble_eq_true rfl) rfl ?_
  (refine (cwp_seq (cwp_region (sl rfl (sl rfl (sl rfl (seqQ_normal (cwp_seq (cwp_region (sl rfl (seqQ_normal (cwp_seq (cwp_seq (cwp_region (sl rfl (seqQ_normal (cwp_block (cwp_loop ?_))))))))))))))))))
  refine AWP.ghost 10 2 (g := fun _ => []) rfl ?_
  refine AWP_for tab_ok mixed (fun k => rows.length - k) (fun k => k ≤ rows.length)
    (fun k => [(1, abool leaf), (2, aRows rows), (3, aInts held), (4, .own 0 0), (8, .own 1 0), (10, .row 2 2 0 k), (11, aint .i64 (k : Nat))])
    (fun k => [some (.cells [.d (dCells (layTo c leaf rows held k).1), .d (dint keep)]), some (.cells (ti24.zero.map AV.d)), some (.arr 2 k fun i => dItem (nth (layTo c leaf rows held k).2 i))]) 0 [0, 1, 2] ?_ (Nat.zero_le _) ?_
  · (refine (an (an rfl (an rfl (an rfl (Nat.le_of_ble_eq_true rfl)))) (an (an (DEqv.refl _) (an (DEqv.refl _) (an (DEqv.refl _) (an (an (an rfl (by with_reducible rfl)) (Nat.le_of_ble_eq_true rfl)) (an (an (an rfl (by with_reducible rfl)) (Nat.le_of_ble_eq_true rfl)) (an (an (an rfl (an (by with_reducible rfl) (an (by with_reducible rfl) (by with_reducible rfl)))) (Nat.le_of_ble_eq_true rfl)) (an (DEqv.refl _) True.intro))))))) (an (an (DEqv.refl _) (an (DEqv.refl _) True.intro)) (an (an (DEqv.refl _) (an (DEqv.refl _) True.intro)) (an (an (an (by with_reducible rfl) (by with_reducible rfl)) forall_lt_zero) True.intro))))))
  · intro k hk
    have hl := layTo_len c leaf rows held k
    have hrk := layTo_refLe (leaf := leaf) (rows := rows) (held := held) hr hB.1 k
    by_cases hlt : k < rows.length
    · have hr1 := hrow k hlt
      (focus (refine (cwp_seq (cwp_seq (cwp_region (sl rfl (sl rfl (sl rfl (an (by with_reducible rfl) (sl rfl (seqQ_normal (cwp_cond (an (fun (hb1 : decide ((↑k : Int) < (↑rows.length : Int)) = true) => ?_) (fun (hb2 : decide ((↑k : Int) < (↑rows.length : Int)) = false) => ?_)))))))))))); rotate_right; (have hf2 := hb2; simp only [decide_eq_false_iff_not, Int.not_lt] at hf2; exfalso; omega); rotate_right; (have hf1 := hb1; simp only [decide_eq_true_eq] at hf1; refine (cwp_skip (seqQ_normal (cwp_seq (cwp_block (cwp_seq (cwp_draw (sl rfl (sl rfl (sl rfl (sl rfl (Exists.intro (k) (an (an (by with_reducible rfl) (an (by assumption) (show 1 = 1 from (by with_reducible rfl)))) (sl rfl (sl rfl (an rfl (an rfl (sl rfl (sl rfl (Or.inl (PC.on (pc_Alloc05 _ _ _ _ _ (by omega) (fun i => by have := hrk i; omega) (by unfold big; omega) (by unfold big; omega)) (sl rfl (sl rfl (sl rfl (sl rfl (sl rfl (sl rfl (an (show [AV.d (dCells (alloc (layTo c leaf rows held k).fst leaf (nth rows k) held).fst), AV.d (dint keep)].length = 2 from rfl) (sl rfl (sl rfl (an (by kernel_rfl) (seqQ_normal (cwp_seq (cwp_region (sl rfl (an (show [id (AV.d (dCells (alloc (layTo c leaf rows held k).fst leaf (nth rows k) held).fst)), id (AV.d (dint keep))].length = 2 from rfl) (seqQ_normal (cwp_region (sl rfl (sl rfl (sl rfl (Exists.intro (k) (an (an (by with_reducible rfl) (an (by assumption) (show 1 = 1 from (by with_reducible rfl)))) (sl rfl (sl rfl (Exists.intro (0) (an (an (by omega) (an (by omega) (show 2 = 2 from (by with_reducible rfl)))) (sl rfl (sl rfl (sl rfl (sl rfl (an rfl (an rfl (sl rfl (an (an (show 1 * 2 ≤ 16777216 from (Nat.le_of_ble_eq_true rfl)) (Nat.le_of_ble_eq_true rfl)) (an (show [AV.d (dint (nth (nth rows k) 0).k), AV.d (D.v (Value.int IntKind.i64 (↑(alloc (layTo c leaf rows held k).fst leaf (nth rows k) held).snd.fst : Int)))].length = 2 from rfl) (sl rfl (an (an (Or.inr (show 2 = 2 from (by with_reducible rfl))) (forall_lt_one (show ((fun q => List.take 2 (List.drop (q * 2) [dint (nth (nth rows k) 0).k, D.v (Value.int IntKind.i64 (↑(alloc (layTo c leaf rows held k).fst leaf (nth rows k) held).snd.fst : Int))])) 0).length = 2 from rfl))) (an (an (show 2 = 2 from (by with_reducible rfl)) (an (show 2 = 2 from (by with_reducible rfl)) (fun i => (fun hi => (show ((fun i => dItem (nth (layTo c leaf rows held k).snd i)) i).length = 2 from rfl))))) (Or.inr (an (an (by omega) (an (show (k + 1) * 16 ≤ big from (by unfold big; omega)) (by unfold big; omega))) (sl rfl (sl rfl (blockQ_normal (seqQ_normal (cwp_region (sl rfl (an (by with_reducible rfl) (ez (wrap64 (by omega)) (sl rfl (sl rfl (seqQ_normal (show Exists _ from ?_)))))))))))))))))))))))))))))))))))))))))))))))))))))))))))))))))))))))))))
      refine ⟨k + 1, [0, 1, 4], ⟨by omega, by omega⟩, ?_⟩
      (refine (an (an rfl (an rfl (an rfl (Nat.le_of_ble_eq_true rfl)))) (an (an (DEqv.refl _) (an (DEqv.refl _) (an (DEqv.refl _) (an (an (an rfl (by with_reducible rfl)) (Nat.le_of_ble_eq_true rfl)) (an (an (an rfl (by with_reducible rfl)) (Nat.le_of_ble_eq_true rfl)) (an (an (an rfl (an (show 2 = 2 from (by with_reducible rfl)) (an (by with_reducible rfl) (by with_reducible rfl)))) (Nat.le_of_ble_eq_true rfl)) (an (DEqv.refl _) True.intro))))))) (an (an (DEqv.refl _) (an (DEqv.refl _) True.intro)) (an (an (DEqv.refl _) (an (DEqv.refl _) True.intro)) (an (an (an (show 2 = 2 from (by with_reducible rfl)) (by with_reducible rfl)) (fun i => (fun hi => (show LEqv (appF k (fun i => dItem (nth (layTo c leaf rows held k).snd (0 + i))) (fun q => List.take ti26.size (List.drop (q * ti26.size) [dint (nth (nth rows k) 0).k, D.v (Value.int IntKind.i64 (↑(alloc (layTo c leaf rows held k).fst leaf (nth rows k) held).snd.fst : Int))])) i) (dItem (nth (layTo c leaf rows held (k + 1)).snd i)) from ?_)))) True.intro))))))
      exact LEqv_app1 (h := fun i => dItem (nth (layTo c leaf rows held (k + 1)).2 i)) hi (fun h1 => LEqv.of_eq (by simp only [layTo, Nat.zero_add, nth_append, hl.2, if_pos h1])) (LEqv.of_eq (by simp only [layTo, nth_append, hl.2, Nat.lt_irrefl, if_false, Nat.sub_self]; rfl))
    · have e : k = rows.length := by omega
      subst e
      (focus (refine (cwp_seq (cwp_seq (cwp_region (sl rfl (sl rfl (sl rfl (an (by with_reducible rfl) (sl rfl (seqQ_normal (cwp_cond (an (fun (hb1 : decide ((↑rows.length : Int) < (↑rows.length : Int)) = true) => ?_) (fun (hb2 : decide ((↑rows.length : Int) < (↑rows.length : Int)) = false) => ?_)))))))))))); rotate_right; (have hf2 := hb2; simp only [decide_eq_false_iff_not, Int.not_lt] at hf2; refine (cwp_exit (seqQ_exit (seqQ_exit (blockQ_here rfl (seqQ_normal (cwp_seq (cwp_region (sl rfl (sl rfl (an (show [id (AV.d (dCells (layTo c leaf rows held rows.length).fst)), id (AV.d (dint keep))].length = 2 from rfl) (sl rfl (seqQ_normal (cwp_ret (endQ_ret (an (an (DEqv.refl _) (an (DEqv.refl _) True.intro)) (an (an (by with_reducible rfl) (an (an (by with_reducible rfl) (an (by omega) (an (show rows.length = (lay c leaf rows held).snd.length from ?_) (Or.inr (by with_reducible rfl))))) (fun i => (fun hi => (show LEqv (dItem (nth (layTo c leaf rows held rows.length).snd (0 + i))) (dItem (nth (lay c leaf rows held).snd i)) from ?_))))) True.intro))))))))))))))))); rotate_right; (have hf1 := hb1; simp only [decide_eq_true_eq] at hf1; exfalso; omega)))
      · exact hl.2.symm
      · exact LEqv.of_eq (by rw [Nat.zero_add]; rfl)
end Go.Proofs.Abs
