/- Trees' height, and items that are put, as the program has them. -/
import Derived.Test.YtonbocppkanogaaZE3
set_option linter.all false
namespace Go.Proofs.Abs
open Go Go.RowKit Go.Proofs
attribute [local irreducible] cwp seqQ blockQ endQ DEqv LEqv AWP drawOK


theorem pc_fitsG (n : Int) : PC Try.prog 39 [aint .i64 n] (abool (isNum n)) := by
  refine PC_of tab_ok mixed (Try.func39) rfl (by kernel_rfl) (Nat.le_of_ble_eq_true rfl) rfl ?_
  (focus (refine (cwp_seq (cwp_region (sl rfl (seqQ_normal (cwp_seq (cwp_region (sl rfl (an (by with_reducible rfl) (sl rfl (sl rfl (sl rfl (an (fun (hb1 : decide (n ≥ 0) = true) => ?_) (fun (hb2 : decide (n ≥ 0) = false) => ?_))))))))))))); rotate_right; (have hf2 := hb2; simp only [decide_eq_false_iff_not, Int.not_le] at hf2; refine (sl rfl (sl rfl (oF hb2 (sl rfl (oF hb2 (sl rfl (sl rfl (seqQ_normal (cwp_ret (endQ_ret (DEqv.bool (show false = isNum n from ?_))))))))))))); rotate_right; (have hf1 := hb1; simp only [decide_eq_true_eq, ge_iff_le] at hf1; refine (sl rfl (sl rfl (oT hb1 (an (by with_reducible rfl) (sl rfl (oT hb1 (sl rfl (sl rfl (seqQ_normal (cwp_ret (endQ_ret (DEqv.bool (show decide (n ≤ 2147483647) = isNum n from ?_))))))))))))))))
  all_goals simp [isNum]; omega

theorem pc_NeedP (h : Nat) (hh : h ≤ 1000) : PC Try.prog 41 [aint .i64 (h : Nat)] (aint .i64 ((2 * h + 1 : Nat) : Int)) := by
  refine PC_of tab_ok mixed (Try.func41) rfl (by kernel_rfl) (Nat.le_of_ble_eq_true rfl) rfl ?_
  (refine (cwp_seq (cwp_region (sl rfl (seqQ_normal (cwp_seq (cwp_region (sl rfl (an (by with_reducible rfl) (ez (wrap64 (by omega)) (sl rfl (an (by with_reducible rfl) (ez (wrap64 (by omega)) (sl rfl (sl rfl (seqQ_normal (cwp_ret (endQ_ret (DEqv.refl _)))))))))))))))))))

theorem pc_HighP (c : List Cell) (keep : Int) (h : Nat) (p : Int) (hh : h ≤ 100) (ht : shape c h p) : PC Try.prog 38 [aHeap c keep, aint .i64 p] (aint .i64 (h : Nat)) := by
  refine PC_of tab_ok mixed (Try.func38) rfl (by kernel_rfl) (Nat.le_of_ble_eq_true rfl) rfl ?_
  (refine (cwp_seq (cwp_region (sl rfl (sl rfl (seqQ_normal (cwp_seq (cwp_region (sl rfl (seqQ_normal (cwp_seq (cwp_seq (cwp_region (sl rfl (sl rfl (seqQ_normal (cwp_block (cwp_loop ?_))))))))))))))))))
  refine AWP_for tab_ok mixed (α := Nat × Int) (fun k => k.1) (fun k => k.1 ≤ h ∧ shape c k.1 k.2)
    (fun k => [(2, .own 0 0), (5, aint .i64 ((h - k.1 : Nat) : Int)), (6, aint .i64 k.2)]) (fun _ => [some (hbox c keep)]) (h, p) [0] ?_ ⟨Nat.le_refl _, ht⟩ ?_
  · (refine (an (an rfl (an rfl (an rfl (Nat.le_of_ble_eq_true rfl)))) (an (an (an (an rfl (by with_reducible rfl)) (Nat.le_of_ble_eq_true rfl)) (an (DEqv.int (by omega)) (an (DEqv.refl _) True.intro))) (an (an (DEqv.refl _) (an (DEqv.refl _) True.intro)) True.intro))))
  · rintro ⟨j, q⟩ ⟨hj, hs⟩
    simp only at hj hs ⊢
    cases j with
    | zero => exact hs.elim
    | succ j =>
      obtain ⟨hu, hr, hs⟩ := hs
      have hu' := used_iff.1 hu
      have hl := rightNode_len hr
      unfold nodeOf at hl hs
      rcases hs with ⟨hlf, h0⟩ | ⟨hlf, hs⟩
      · (focus (refine (cwp_seq (cwp_seq (cwp_region (sl rfl (an (by with_reducible rfl) (sl rfl (seqQ_normal (cwp_cond (an (fun (hb1 : decide (q ≥ 0) = true) => ?_) (fun (hb2 : decide (q ≥ 0) = false) => ?_)))))))))); rotate_right; (have hf2 := hb2; simp only [decide_eq_false_iff_not, Int.not_le] at hf2; exfalso; omega); rotate_right; (have hf1 := hb1; simp only [decide_eq_true_eq, ge_iff_le] at hf1; refine (cwp_skip (seqQ_normal (cwp_seq (cwp_block (cwp_seq (cwp_region (sl rfl (sl rfl (sl rfl (Exists.intro (q.toNat) (an (an (by omega) (an (by omega) (show 4 = 4 from (by with_reducible rfl)))) (sl rfl (sl rfl (sl rfl (sl rfl (an (show [AV.d (dbool (nth c q.toNat).n.leaf), AV.d (dItems (nth c q.toNat).n.it)].length = 2 from rfl) (seqQ_normal (cwp_seq (cwp_seq (cwp_region (sl rfl (sl rfl (seqQ_normal (cwp_cond (oT hlf (cwp_seq (cwp_region (sl rfl (an (by with_reducible rfl) (ez (wrap64 (by omega)) (sl rfl (sl rfl (seqQ_normal (cwp_ret (seqQ_ret (blockQ_ret (seqQ_ret (seqQ_ret (blockQ_ret (seqQ_ret (endQ_ret (DEqv.int (by omega))))))))))))))))))))))))))))))))))))))))))))))
      · (focus (refine (cwp_seq (cwp_seq (cwp_region (sl rfl (an (by with_reducible rfl) (sl rfl (seqQ_normal (cwp_cond (an (fun (hb1 : decide (q ≥ 0) = true) => ?_) (fun (hb2 : decide (q ≥ 0) = false) => ?_)))))))))); rotate_right; (have hf2 := hb2; simp only [decide_eq_false_iff_not, Int.not_le] at hf2; exfalso; omega); rotate_right; (have hf1 := hb1; simp only [decide_eq_true_eq, ge_iff_le] at hf1; refine (cwp_skip (seqQ_normal (cwp_seq (cwp_block (cwp_seq (cwp_region (sl rfl (sl rfl (sl rfl (Exists.intro (q.toNat) (an (an (by omega) (an (by omega) (show 4 = 4 from (by with_reducible rfl)))) (sl rfl (sl rfl (sl rfl (sl rfl (an (show [AV.d (dbool (nth c q.toNat).n.leaf), AV.d (dItems (nth c q.toNat).n.it)].length = 2 from rfl) (seqQ_normal (cwp_seq (cwp_seq (cwp_region (sl rfl (sl rfl (seqQ_normal (cwp_cond (oF hlf (cwp_skip (seqQ_normal (cwp_region (sl rfl (sl rfl (Exists.intro (0) (an (an (by omega) (an (by omega) (show 2 = 2 from (by with_reducible rfl)))) (sl rfl (sl rfl (sl rfl (sl rfl (blockQ_normal (seqQ_normal (cwp_region (sl rfl (an (by with_reducible rfl) (ez (wrap64 (by omega)) (sl rfl (sl rfl (seqQ_normal (show Exists _ from ?_)))))))))))))))))))))))))))))))))))))))))))))))))
        refine ⟨(j, (nth (nth c q.toNat).n.it 0).v), [0], ⟨by simp only; omega, by simp only; omega, hs 0 (by omega)⟩, ?_⟩
        (refine (an (an rfl (an rfl (an rfl (Nat.le_of_ble_eq_true rfl)))) (an (an (an (an rfl (by with_reducible rfl)) (Nat.le_of_ble_eq_true rfl)) (an (DEqv.int (by omega)) (an (DEqv.refl _) True.intro))) (an (an (DEqv.refl _) (an (DEqv.refl _) True.intro)) True.intro))))

theorem pc_HighN (c : List Cell) (keep p : Int) (hp : p < 0) : PC Try.prog 38 [aHeap c keep, aint .i64 p] (aint .i64 0) := by
  refine PC_of tab_ok mixed (Try.func38) rfl (by kernel_rfl) (Nat.le_of_ble_eq_true rfl) rfl ?_
  (refine (cwp_seq (cwp_region (sl rfl (sl rfl (seqQ_normal (cwp_seq (cwp_region (sl rfl (seqQ_normal (cwp_seq (cwp_seq (cwp_region (sl rfl (sl rfl (seqQ_normal (cwp_block (cwp_loop ?_))))))))))))))))))
  refine AWP_for tab_ok mixed (α := Unit) (fun _ => 0) (fun _ => True)
    (fun k => [(2, .own 0 0), (5, aint .i64 0), (6, aint .i64 p)]) (fun _ => [some (hbox c keep)]) () [0] ?_ trivial ?_
  · (refine (an (an rfl (an rfl (an rfl (Nat.le_of_ble_eq_true rfl)))) (an (an (an (an rfl (by with_reducible rfl)) (Nat.le_of_ble_eq_true rfl)) (an (DEqv.refl _) (an (DEqv.refl _) True.intro))) (an (an (DEqv.refl _) (an (DEqv.refl _) True.intro)) True.intro))))
  · rintro ⟨⟩ _
    (focus (refine (cwp_seq (cwp_seq (cwp_region (sl rfl (an (by with_reducible rfl) (sl rfl (seqQ_normal (cwp_cond (an (fun (hb1 : decide (p ≥ 0) = true) => ?_) (fun (hb2 : decide (p ≥ 0) = false) => ?_)))))))))); rotate_right; (have hf2 := hb2; simp only [decide_eq_false_iff_not, Int.not_le] at hf2; refine (cwp_exit (seqQ_exit (seqQ_exit (blockQ_here rfl (seqQ_normal (cwp_seq (cwp_region (sl rfl (sl rfl (seqQ_normal (cwp_ret (endQ_ret (DEqv.refl _)))))))))))))); rotate_right; (have hf1 := hb1; simp only [decide_eq_true_eq, ge_iff_le] at hf1; exfalso; omega)))

theorem pc_HighPT (c : List Cell) (keep : Int) {h : Nat} {root : Int} (ht : tree c h root) : PC Try.prog 38 [aHeap c keep, aint .i64 root] (aint .i64 (h : Nat)) := by
  rcases ht with ⟨hr, rfl⟩ | ⟨hs, hh⟩
  · exact pc_HighN c keep root hr
  · exact pc_HighP c keep h root (by omega) hs

theorem pc_places51 (l : List Item) (hl : l.length ≤ 1000) : PC Try.prog 51 [aItems l] (aInts (l.map (·.v))) := by
  refine PC_of tab_ok mixed (Try.func51) rfl (by kernel_rfl) (Nat.le_of_ble_eq_true rfl) rfl ?_
  (refine (cwp_seq (cwp_region (sl rfl (seqQ_normal (cwp_seq (cwp_region (sl rfl (sl rfl (Exists.intro (l.length) (Exists.intro (l.length) (an (an (by with_reducible rfl) (an (by with_reducible rfl) (an (by omega) (an (show l.length * 8 ≤ big from (by unfold big; omega)) (an (by unfold big; omega) (show 0 < 1 from (Nat.le_of_ble_eq_true rfl))))))) (sl rfl (sl rfl (seqQ_normal (cwp_seq (cwp_seq (cwp_region (sl rfl (sl rfl (sl rfl (seqQ_normal (cwp_block (cwp_loop ?_))))))))))))))))))))))))
  refine AWP_for tab_ok mixed (fun k => l.length - k) (fun k => k ≤ l.length) (fun k => [(3, .row 0 1 0 l.length), (9, aItems l), (10, aint .i64 l.length), (11, aint .i64 (k : Nat))])
    (fun k => [some (.arr 1 l.length fun i => [dint (if i < k then (nth l i).v else 0)])]) 0 [0] ?_ (Nat.zero_le _) ?_
  · (refine (an (an rfl (an rfl (an rfl (Nat.le_of_ble_eq_true rfl)))) (an (an (an (an rfl (an (show 1 = 1 from (by with_reducible rfl)) (an (by with_reducible rfl) (by with_reducible rfl)))) (Nat.le_of_ble_eq_true rfl)) (an (DEqv.refl _) (an (DEqv.refl _) (an (DEqv.refl _) True.intro)))) (an (an (an (show 1 = 1 from (by with_reducible rfl)) (by with_reducible rfl)) (fun i => (fun hi => (LEqv.refl _)))) True.intro))))
  · intro k hk
    by_cases hlt : k < l.length
    · (focus (refine (cwp_seq (cwp_region (an (by with_reducible rfl) (sl rfl (seqQ_normal (cwp_seq (cwp_cond (an (fun (hb1 : decide ((↑k : Int) < (↑l.length : Int)) = true) => ?_) (fun (hb2 : decide ((↑k : Int) < (↑l.length : Int)) = false) => ?_))))))))); rotate_right; (have hf2 := hb2; simp only [decide_eq_false_iff_not, Int.not_lt] at hf2; exfalso; omega); rotate_right; (have hf1 := hb1; simp only [decide_eq_true_eq] at hf1; refine (cwp_skip (seqQ_normal (cwp_seq (cwp_block (cwp_seq (cwp_region (sl rfl (Exists.intro (k) (an (an (by with_reducible rfl) (an (by assumption) (show 2 = 2 from (by with_reducible rfl)))) (sl rfl (sl rfl (sl rfl (sl rfl (an (show [AV.d (dint (nth l k).k), AV.d (dint (nth l k).v)].length = 2 from rfl) (seqQ_normal (cwp_region (sl rfl (sl rfl (sl rfl (sl rfl (Exists.intro (k) (an (an (by with_reducible rfl) (an (by assumption) (an (by omega) (an (show 1 = 1 from (by with_reducible rfl)) (by with_reducible rfl))))) (sl rfl (an (show [AV.d (dint (nth l k).v)].length = 1 from rfl) (an (an (an (by with_reducible rfl) (by assumption)) (fun i => (fun hi => (Nat.le_of_ble_eq_true rfl)))) (blockQ_normal (seqQ_normal (cwp_region (an (by with_reducible rfl) (ez (wrap64 (by omega)) (sl rfl (sl rfl (seqQ_normal (show Exists _ from ?_)))))))))))))))))))))))))))))))))))))
      refine ⟨k + 1, [0], ⟨by omega, by omega⟩, ?_⟩
      (refine (an (an rfl (an rfl (an rfl (Nat.le_of_ble_eq_true rfl)))) (an (an (an (an rfl (an (by with_reducible rfl) (an (by with_reducible rfl) (by with_reducible rfl)))) (Nat.le_of_ble_eq_true rfl)) (an (DEqv.refl _) (an (DEqv.refl _) (an (DEqv.refl _) True.intro)))) (an (an (an (by with_reducible rfl) (by with_reducible rfl)) (fun i => (fun hi => (show LEqv (setF (fun i => [dint (if i < k then (nth l i).v else 0)]) k [dint (nth l k).v] i) [dint (if i < k + 1 then (nth l i).v else 0)] from ?_)))) True.intro))))
      simp only [setF]
      by_cases e : i = k
      · subst e
        rw [if_pos rfl, if_pos (by omega)]
        exact LEqv.refl _
      · rw [if_neg e]
        refine LEqv.int ?_
        split
        · rw [if_pos (by omega)]
        · rw [if_neg (by omega)]
    · have e : k = l.length := by omega
      (focus (refine (cwp_seq (cwp_region (an (by with_reducible rfl) (sl rfl (seqQ_normal (cwp_seq (cwp_cond (an (fun (hb1 : decide ((↑k : Int) < (↑l.length : Int)) = true) => ?_) (fun (hb2 : decide ((↑k : Int) < (↑l.length : Int)) = false) => ?_))))))))); rotate_right; (have hf2 := hb2; simp only [decide_eq_false_iff_not, Int.not_lt] at hf2; refine (cwp_exit (seqQ_exit (seqQ_exit (blockQ_here rfl (seqQ_normal (cwp_seq (cwp_region (sl rfl (sl rfl (seqQ_normal (cwp_ret (endQ_ret (an (by with_reducible rfl) (an (an (by with_reducible rfl) (an (by omega) (an (show l.length = (List.map (fun x => x.v) l).length from ?_) (Or.inr (by with_reducible rfl))))) (fun i => (fun hi => (show LEqv [dint (if 0 + i < k then (nth l (0 + i)).v else 0)] [dint (nth (List.map (fun x => x.v) l) i)] from ?_)))))))))))))))))); rotate_right; (have hf1 := hb1; simp only [decide_eq_true_eq] at hf1; exfalso; omega)))
      · simp
      · have hi' : i < l.length := by simpa using hi
        rw [Nat.zero_add, if_pos (by omega), nth_map _ hi']
        exact LEqv.refl _

def memB (c : List Cell) (keep : Int) : Mem := [some (hbox c keep)]
/-- No Ref is below nought. -/
def RefNN (c : List Cell) : Prop := ∀ i, 0 ≤ (nth c i).ref
theorem ac_lay43 (c : List Cell) (keep : Int) (leaf : Bool) (it : List Item) (held : List Int) (hc : c.length ≤ 2000) (h0 : RefNN c) {B : Int} (hr : RefLe c B) (hB : B ≤ 4000000000) (h1 : 1 ≤ it.length) (hl : it.length ≤ 1000) (hh : held.length ≤ 1000) :
    AC Try.prog 43 [.own 0 0, aNode leaf it, aInts held] (memB c keep) (aItem (nth it 0).k (alloc c leaf it held).2.1) (memB (alloc c leaf it held).1 keep) := by
  have g := pc_AllocP c keep leaf it held hc (fun i => ⟨h0 i, by have := hr i; omega⟩) (by unfold big; omega) (by unfold big; omega)
  refine AC_ofF tab_ok mixed (Try.func43) rfl (by kernel_rfl) (Nat.le_of_ble_eq_true rfl) ?_ (Nat.le_of_ble_eq_true rfl)
  (refine (cwp_seq (cwp_region (sl rfl (sl rfl (seqQ_normal (cwp_seq (cwp_draw (sl rfl (sl rfl (sl rfl (sl rfl (sl rfl (sl rfl (Or.inl (PC.on (g) (sl rfl (sl rfl (sl rfl (sl rfl (sl rfl (sl rfl (an (show [AV.d (dCells (alloc c leaf it held).fst), AV.d (dint keep)].length = 2 from rfl) (sl rfl (sl rfl (an (by kernel_rfl) (seqQ_normal (cwp_seq (cwp_region (sl rfl (sl rfl (sl rfl (sl rfl (an (show [id (AV.d (dCells (alloc c leaf it held).fst)), id (AV.d (dint keep))].length = 2 from rfl) (seqQ_normal (cwp_seq (cwp_region (sl rfl (sl rfl (Exists.intro (0) (an (an (by omega) (an (by assumption) (show 2 = 2 from (by with_reducible rfl)))) (sl rfl (sl rfl (sl rfl (sl rfl (an rfl (an rfl (sl rfl (an (show [AV.d (dint (nth it 0).k), AV.d (D.v (Value.int IntKind.i64 (↑(alloc c leaf it held).snd.fst : Int)))].length = 2 from rfl) (seqQ_normal (cwp_ret (endQ_ret (Exists.intro [0] (an (an rfl (an (DEqv.refl _) (an (DEqv.refl _) True.intro))) (an (an rfl (an rfl (an rfl (Nat.le_of_ble_eq_true rfl)))) (an True.intro (an (an (DEqv.refl _) (an (DEqv.refl _) True.intro)) True.intro)))))))))))))))))))))))))))))))))))))))))))))))))))))))))

theorem more_nn {c : List Cell} {p : Int} (h : RefNN c) : RefNN (more c p) := fun i => by have := h i; have := (more_ref c p i).1; omega
theorem alloc_nn {c : List Cell} {leaf : Bool} {it : List Item} {held : List Int} (h : RefNN c) : RefNN (alloc c leaf it held).1 := by
  unfold alloc
  split
  · split
    · intro i
      refine nth_set_cases (fun x : Cell => 0 ≤ x.ref) ?_ (by simp)
      unfold layIn
      split
      · exact h i
      · have := (fold_ref held i it c).1; have := h i; omega
    · exact h
  · exact h
theorem layTo_nn {c : List Cell} {leaf : Bool} {rows : List (List Item)} {held : List Int} (h : RefNN c) : ∀ k, RefNN (layTo c leaf rows held k).1
  | 0 => h
  | k + 1 => alloc_nn (layTo_nn h k)

theorem anew_nn {c : List Cell} {x : Item} (h0 : RefNN c) : ∀ (h : Nat) (p : Int), RefNN (anew c x h p).1 := by
  intro h
  induction h with
  | zero => exact fun p => h0
  | succ h ih =>
    intro p
    unfold anew
    simp only
    split
    · exact layTo_nn h0 _
    · exact layTo_nn (ih _) _

/-- The loop of anew: rows that are laid. -/
theorem ac_anew : ∀ (h : Nat) (c : List Cell) (keep : Int) (x : Item) (p : Int) (B : Int), c.length ≤ 2000 → RefNN c → RefLe c B → 0 ≤ B → B ≤ 2000000000 → h ≤ 100 → shape c h p →
    AC Try.prog 44 [.own 0 0, aint .i64 p, aItem x.k x.v] (memB c keep) (aItems (anew c x h p).2) (memB (anew c x h p).1 keep) := by
  intro h
  induction h with
  | zero => exact fun c keep x p B _ _ _ _ _ _ h => h.elim
  | succ h ih =>
    intro c keep x p B hc hnn hr hB0 hB hh hs
    obtain ⟨hu, hrn, hs⟩ := hs
    have hu' := used_iff.1 hu
    have hl := rightNode_len hrn
    unfold anew
    unfold nodeOf at hl hs hrn ⊢
    have hat := pc_At (nth c p.toNat).n.leaf (nth c p.toNat).n.it x.k hrn
    rcases hs with ⟨hlf, h0⟩ | ⟨hlf, hs⟩
    · have ha : (atOf (nth c p.toNat).n.leaf (nth c p.toNat).n.it x.k).1 + (if (atOf (nth c p.toNat).n.leaf (nth c p.toNat).n.it x.k).2 = true then 1 else 0) ≤ (nth c p.toNat).n.it.length := by
        rw [hlf]; exact atOf_leaf
      rw [if_pos hlf]
      generalize atOf (nth c p.toNat).n.leaf (nth c p.toNat).n.it x.k = a at ha hat ⊢
      obtain ⟨i, is⟩ := a
      have hgone : ∀ g : Nat, g = (if is = true then 1 else 0) → AC Try.prog 44 [.own 0 0, aint .i64 p, aItem x.k x.v] (memB c keep) (aItems (lay c (nth c p.toNat).n.leaf (rowsOf (withOf (nth c p.toNat).n.it i g [x])) []).2) (memB (lay c (nth c p.toNat).n.leaf (rowsOf (withOf (nth c p.toNat).n.it i g [x])) []).1 keep) := by
        intro g hg
        have hgl : i + g ≤ (nth c p.toNat).n.it.length := by rw [hg]; exact ha
        have hw := withOf_length (more := [x]) hgl
        simp only [List.length_singleton] at hw
        have f1 := pc_WithP (nth c p.toNat).n.it [x] i g (by omega) (by simp) hgl
        have f2 := pc_SplitP _ (withOf (nth c p.toNat).n.it i g [x]) (Nat.le_refl _) (by omega)
        have h2 := rowsOf_two (l := withOf (nth c p.toNat).n.it i g [x]) (by split at hg <;> omega)
        have hrow := rowsOf_row (withOf (nth c p.toNat).n.it i g [x])
        generalize hrows : rowsOf (withOf (nth c p.toNat).n.it i g [x]) = rows at f2 h2 hrow ⊢
        cases is with
        | true =>
          obtain rfl : g = 1 := hg
          refine AC_ofF tab_ok mixed (Try.func44) rfl (by kernel_rfl) (Nat.le_of_ble_eq_true rfl) ?_ (Nat.le_of_ble_eq_true rfl)
          (refine (cwp_seq (cwp_region (sl rfl (sl rfl (seqQ_normal (cwp_seq (cwp_region (sl rfl (sl rfl (sl rfl (sl rfl (sl rfl (sl rfl (Exists.intro (p.toNat) (an (an (by omega) (an (by omega) (show 4 = 4 from (by with_reducible rfl)))) (sl rfl (sl rfl (sl rfl (sl rfl (an (show [AV.d (dbool (nth c p.toNat).n.leaf), AV.d (dItems (nth c p.toNat).n.it)].length = 2 from rfl) (seqQ_normal (cwp_seq (cwp_region (sl rfl (sl rfl (sl rfl (Or.inl (PC.on (hat) (sl rfl (sl rfl (sl rfl (sl rfl (sl rfl (sl rfl (seqQ_normal (cwp_seq (cwp_region (sl rfl (an (an (show 1 * 2 ≤ 16777216 from (Nat.le_of_ble_eq_true rfl)) (Nat.le_of_ble_eq_true rfl)) (an (show [id (AV.d (dint x.k)), id (AV.d (dint x.v))].length = 2 from rfl) (sl rfl (sl rfl (sl rfl (seqQ_normal (cwp_seq (cwp_region (sl rfl (seqQ_normal (cwp_seq (cwp_block (cwp_seq (cwp_region (sl rfl (sl rfl (sl rfl (sl rfl (seqQ_normal (cwp_cond (oF (congrArg Bool.not hlf) (cwp_seq (cwp_region (sl rfl (sl rfl (seqQ_normal (cwp_cond (oT rfl (cwp_region (sl rfl (blockQ_normal (seqQ_normal (cwp_seq (cwp_region (sl rfl (seqQ_normal (cwp_seq (cwp_seq (cwp_region (sl rfl (sl rfl (sl rfl (sl rfl (sl rfl (Or.inl (PC.at (f1) (an (DEqv.refl _) (an (DEqv.refl _) (an (DEqv.refl _) (an (show DEqv (D.sl true ti26.size 1 fun q => List.take ti26.size (List.drop (q * ti26.size) [dint x.k, dint x.v])) (dItems [x]) from ?_) True.intro)))) (sl rfl (Or.inl (PC.on (f2) (sl rfl (sl rfl (sl rfl (seqQ_normal (cwp_block (cwp_loop ?_))))))))))))))))))))))))))))))))))))))))))))))))))))))))))))))))))))))))))))))))))))))))))))))
          · exact DEqv_one (LEqv.refl _)
          refine AWP.ghost 13 2 (g := fun _ => []) rfl ?_
          refine AWP_for tab_ok mixed (fun k => rows.length - k) (fun k => k ≤ rows.length)
            (fun k => [(0, .own 0 0), (7, .own 1 0), (12, aInts []), (13, .row 2 2 0 k), (57, aRows rows), (58, aint .i64 rows.length), (59, aint .i64 (k : Nat))])
            (fun k => [some (hbox (layTo c (nth c p.toNat).n.leaf rows [] k).1 keep), some (nbox (nth c p.toNat).n.leaf (nth c p.toNat).n.it), some (.arr 2 k fun i => dItem (nth (layTo c (nth c p.toNat).n.leaf rows [] k).2 i))]) 0 [0, 2, 3] ?_ (Nat.zero_le _) ?_
          · (refine (an (an rfl (an rfl (an rfl (Nat.le_of_ble_eq_true rfl)))) (an (an (an (an rfl (by with_reducible rfl)) (Nat.le_of_ble_eq_true rfl)) (an (an (an rfl (by with_reducible rfl)) (Nat.le_of_ble_eq_true rfl)) (an DEqv.nil (an (an (an rfl (an (by with_reducible rfl) (an (by with_reducible rfl) (by with_reducible rfl)))) (Nat.le_of_ble_eq_true rfl)) (an (DEqv.refl _) (an (DEqv.refl _) (an (DEqv.refl _) True.intro))))))) (an (an (DEqv.refl _) (an (DEqv.refl _) True.intro)) (an (an (DEqv.refl _) (an (DEqv.refl _) True.intro)) (an (an (an (by with_reducible rfl) (by with_reducible rfl)) forall_lt_zero) True.intro))))))
          · intro k hk
            have q1 := layTo_len c (nth c p.toNat).n.leaf rows [] k
            have q2 := layTo_refLe (leaf := (nth c p.toNat).n.leaf) (rows := rows) (held := []) hr hB0 k
            have q3 := layTo_nn (leaf := (nth c p.toNat).n.leaf) (rows := rows) (held := []) hnn k
            by_cases hlt : k < rows.length
            · have q4 := hrow k hlt
              have g := ac_lay43 (layTo c (nth c p.toNat).n.leaf rows [] k).1 keep (nth c p.toNat).n.leaf (nth rows k) [] (by omega) q3 q2 (by omega) (by omega) (by omega) (by simp <;> omega)
              (focus (refine (cwp_seq (cwp_region (an (by with_reducible rfl) (sl rfl (seqQ_normal (cwp_seq (cwp_cond (an (fun (hb1 : decide ((↑k : Int) < (↑rows.length : Int)) = true) => ?_) (fun (hb2 : decide ((↑k : Int) < (↑rows.length : Int)) = false) => ?_))))))))); rotate_right; (have hf2 := hb2; simp only [decide_eq_false_iff_not, Int.not_lt] at hf2; exfalso; omega); rotate_right; (have hf1 := hb1; simp only [decide_eq_true_eq] at hf1; refine (cwp_skip (seqQ_normal (cwp_seq (cwp_block (cwp_seq (cwp_region (Exists.intro (k) (an (an (by with_reducible rfl) (an (by assumption) (show 1 = 1 from (by with_reducible rfl)))) (sl rfl (sl rfl (sl rfl (seqQ_normal (cwp_region (sl rfl (sl rfl (sl rfl (sl rfl (sl rfl (an rfl (an rfl (sl rfl (sl rfl (Framed.on (g.under [0]) rfl (an (an rfl (an rfl (an rfl (Nat.le_of_ble_eq_true rfl)))) (an (an (an (an rfl (by with_reducible rfl)) (Nat.le_of_ble_eq_true rfl)) (an (an (DEqv.refl _) (an (DEqv.refl _) True.intro)) (an (DEqv.refl _) True.intro))) (an (an (DEqv.refl _) (an (DEqv.refl _) True.intro)) True.intro))) (sl rfl (an (an (show 1 * 2 ≤ 16777216 from (Nat.le_of_ble_eq_true rfl)) (Nat.le_of_ble_eq_true rfl)) (an (show (rens1 (names2 [0] (memB (alloc (layTo c (nth c p.toNat).n.leaf rows [] k).fst (nth c p.toNat).n.leaf (nth rows k) []).fst keep) [some (hbox (layTo c (nth c p.toNat).n.leaf rows [] k).fst keep), some (nbox (nth c p.toNat).n.leaf (nth c p.toNat).n.it), some (Blk.arr 2 k fun i => dItem (nth (layTo c (nth c p.toNat).n.leaf rows [] k).snd i))]) [AV.d (dint (nth (nth rows k) 0).k), AV.d (dint (↑(alloc (layTo c (nth c p.toNat).n.leaf rows [] k).fst (nth c p.toNat).n.leaf (nth rows k) []).snd.fst : Int))]).length = 2 from rfl) (sl rfl (an (an (Or.inr (show 2 = 2 from (by with_reducible rfl))) (forall_lt_one (show ((fun q => List.take 2 (List.drop (q * 2) [dint (nth (nth rows k) 0).k, dint (↑(alloc (layTo c (nth c p.toNat).n.leaf rows [] k).fst (nth c p.toNat).n.leaf (nth rows k) []).snd.fst : Int)])) 0).length = 2 from rfl))) (an (an (show 2 = 2 from (by with_reducible rfl)) (an (show 2 = 2 from (by with_reducible rfl)) (fun i => (fun hi => (show ((fun i => dItem (nth (layTo c (nth c p.toNat).n.leaf rows [] k).snd i)) i).length = 2 from rfl))))) (Or.inr (an (an (by omega) (an (show (k + 1) * 16 ≤ big from (by unfold big; omega)) (by unfold big; omega))) (sl rfl (sl rfl (blockQ_normal (seqQ_normal (cwp_region (an (by with_reducible rfl) (ez (wrap64 (by omega)) (sl rfl (sl rfl (seqQ_normal (show Exists _ from ?_)))))))))))))))))))))))))))))))))))))))))))))
              refine ⟨k + 1, [0, 1, 3], ⟨by omega, by omega⟩, ?_⟩
              (refine (an (an rfl (an rfl (an rfl (Nat.le_of_ble_eq_true rfl)))) (an (an (an (an rfl (by with_reducible rfl)) (Nat.le_of_ble_eq_true rfl)) (an (an (an rfl (by with_reducible rfl)) (Nat.le_of_ble_eq_true rfl)) (an (DEqv.refl _) (an (an (an rfl (an (show 2 = 2 from (by with_reducible rfl)) (an (by with_reducible rfl) (by with_reducible rfl)))) (Nat.le_of_ble_eq_true rfl)) (an (DEqv.refl _) (an (DEqv.refl _) (an (DEqv.refl _) True.intro))))))) (an (an (DEqv.refl _) (an (DEqv.refl _) True.intro)) (an (an (DEqv.refl _) (an (DEqv.refl _) True.intro)) (an (an (an (show 2 = 2 from (by with_reducible rfl)) (by with_reducible rfl)) (fun i => (fun hi => (show LEqv (appF k (fun i => dItem (nth (layTo c (nth c p.toNat).n.leaf rows [] k).snd (0 + i))) (fun q => List.take ti26.size (List.drop (q * ti26.size) [dint (nth (nth rows k) 0).k, dint (↑(alloc (layTo c (nth c p.toNat).n.leaf rows [] k).fst (nth c p.toNat).n.leaf (nth rows k) []).snd.fst : Int)])) i) (dItem (nth (layTo c (nth c p.toNat).n.leaf rows [] (k + 1)).snd i)) from ?_)))) True.intro))))))
              exact LEqv_app1 (h := fun i => dItem (nth (layTo c (nth c p.toNat).n.leaf rows [] (k + 1)).2 i)) hi (fun h1 => LEqv.of_eq (by simp only [layTo, Nat.zero_add, nth_append, q1.2, if_pos h1])) (LEqv.of_eq (by simp only [layTo, nth_append, q1.2, Nat.lt_irrefl, if_false, Nat.sub_self]; rfl))
            · have e : k = rows.length := by omega
              subst e
              (focus (refine (cwp_seq (cwp_region (an (by with_reducible rfl) (sl rfl (seqQ_normal (cwp_seq (cwp_cond (an (fun (hb1 : decide ((↑rows.length : Int) < (↑rows.length : Int)) = true) => ?_) (fun (hb2 : decide ((↑rows.length : Int) < (↑rows.length : Int)) = false) => ?_))))))))); rotate_right; (have hf2 := hb2; simp only [decide_eq_false_iff_not, Int.not_lt] at hf2; refine (cwp_exit (seqQ_exit (seqQ_exit (blockQ_here rfl (seqQ_normal (cwp_seq (cwp_region (sl rfl (sl rfl (seqQ_normal (cwp_ret (endQ_ret (Exists.intro [0] (an (an rfl (an (by with_reducible rfl) (an (an (by with_reducible rfl) (an (by omega) (an (show rows.length = (lay c (nth c p.toNat).n.leaf rows []).snd.length from ?_) (Or.inr (by with_reducible rfl))))) (fun i => (fun hi => (show LEqv (dItem (nth (layTo c (nth c p.toNat).n.leaf rows [] rows.length).snd (0 + i))) (dItem (nth (lay c (nth c p.toNat).n.leaf rows []).snd i)) from ?_)))))) (an (an rfl (an rfl (an rfl (Nat.le_of_ble_eq_true rfl)))) (an True.intro (an (an (DEqv.refl _) (an (DEqv.refl _) True.intro)) True.intro)))))))))))))))))); rotate_right; (have hf1 := hb1; simp only [decide_eq_true_eq] at hf1; exfalso; omega)))
              · exact q1.2.symm
              · rw [Nat.zero_add]; exact LEqv.refl _
        | false =>
          obtain rfl : g = 0 := hg
          refine AC_ofF tab_ok mixed (Try.func44) rfl (by kernel_rfl) (Nat.le_of_ble_eq_true rfl) ?_ (Nat.le_of_ble_eq_true rfl)
          (refine (cwp_seq (cwp_region (sl rfl (sl rfl (seqQ_normal (cwp_seq (cwp_region (sl rfl (sl rfl (sl rfl (sl rfl (sl rfl (sl rfl (Exists.intro (p.toNat) (an (an (by omega) (an (by omega) (show 4 = 4 from (by with_reducible rfl)))) (sl rfl (sl rfl (sl rfl (sl rfl (an (show [AV.d (dbool (nth c p.toNat).n.leaf), AV.d (dItems (nth c p.toNat).n.it)].length = 2 from rfl) (seqQ_normal (cwp_seq (cwp_region (sl rfl (sl rfl (sl rfl (Or.inl (PC.on (hat) (sl rfl (sl rfl (sl rfl (sl rfl (sl rfl (sl rfl (seqQ_normal (cwp_seq (cwp_region (sl rfl (an (an (show 1 * 2 ≤ 16777216 from (Nat.le_of_ble_eq_true rfl)) (Nat.le_of_ble_eq_true rfl)) (an (show [id (AV.d (dint x.k)), id (AV.d (dint x.v))].length = 2 from rfl) (sl rfl (sl rfl (sl rfl (seqQ_normal (cwp_seq (cwp_region (sl rfl (seqQ_normal (cwp_seq (cwp_block (cwp_seq (cwp_region (sl rfl (sl rfl (sl rfl (sl rfl (seqQ_normal (cwp_cond (oF (congrArg Bool.not hlf) (cwp_seq (cwp_region (sl rfl (sl rfl (seqQ_normal (cwp_cond (oF rfl (cwp_skip (blockQ_normal (seqQ_normal (cwp_seq (cwp_region (sl rfl (seqQ_normal (cwp_seq (cwp_seq (cwp_region (sl rfl (sl rfl (sl rfl (sl rfl (sl rfl (Or.inl (PC.at (f1) (an (DEqv.refl _) (an (DEqv.refl _) (an (DEqv.refl _) (an (show DEqv (D.sl true ti26.size 1 fun q => List.take ti26.size (List.drop (q * ti26.size) [dint x.k, dint x.v])) (dItems [x]) from ?_) True.intro)))) (sl rfl (Or.inl (PC.on (f2) (sl rfl (sl rfl (sl rfl (seqQ_normal (cwp_block (cwp_loop ?_)))))))))))))))))))))))))))))))))))))))))))))))))))))))))))))))))))))))))))))))))))))))))))))
          · exact DEqv_one (LEqv.refl _)
          refine AWP.ghost 13 2 (g := fun _ => []) rfl ?_
          refine AWP_for tab_ok mixed (fun k => rows.length - k) (fun k => k ≤ rows.length)
            (fun k => [(0, .own 0 0), (7, .own 1 0), (12, aInts []), (13, .row 2 2 0 k), (57, aRows rows), (58, aint .i64 rows.length), (59, aint .i64 (k : Nat))])
            (fun k => [some (hbox (layTo c (nth c p.toNat).n.leaf rows [] k).1 keep), some (nbox (nth c p.toNat).n.leaf (nth c p.toNat).n.it), some (.arr 2 k fun i => dItem (nth (layTo c (nth c p.toNat).n.leaf rows [] k).2 i))]) 0 [0, 2, 3] ?_ (Nat.zero_le _) ?_
          · (refine (an (an rfl (an rfl (an rfl (Nat.le_of_ble_eq_true rfl)))) (an (an (an (an rfl (by with_reducible rfl)) (Nat.le_of_ble_eq_true rfl)) (an (an (an rfl (by with_reducible rfl)) (Nat.le_of_ble_eq_true rfl)) (an DEqv.nil (an (an (an rfl (an (by with_reducible rfl) (an (by with_reducible rfl) (by with_reducible rfl)))) (Nat.le_of_ble_eq_true rfl)) (an (DEqv.refl _) (an (DEqv.refl _) (an (DEqv.refl _) True.intro))))))) (an (an (DEqv.refl _) (an (DEqv.refl _) True.intro)) (an (an (DEqv.refl _) (an (DEqv.refl _) True.intro)) (an (an (an (by with_reducible rfl) (by with_reducible rfl)) forall_lt_zero) True.intro))))))
          · intro k hk
            have q1 := layTo_len c (nth c p.toNat).n.leaf rows [] k
            have q2 := layTo_refLe (leaf := (nth c p.toNat).n.leaf) (rows := rows) (held := []) hr hB0 k
            have q3 := layTo_nn (leaf := (nth c p.toNat).n.leaf) (rows := rows) (held := []) hnn k
            by_cases hlt : k < rows.length
            · have q4 := hrow k hlt
              have g := ac_lay43 (layTo c (nth c p.toNat).n.leaf rows [] k).1 keep (nth c p.toNat).n.leaf (nth rows k) [] (by omega) q3 q2 (by omega) (by omega) (by omega) (by simp <;> omega)
              (focus (refine (cwp_seq (cwp_region (an (by with_reducible rfl) (sl rfl (seqQ_normal (cwp_seq (cwp_cond (an (fun (hb1 : decide ((↑k : Int) < (↑rows.length : Int)) = true) => ?_) (fun (hb2 : decide ((↑k : Int) < (↑rows.length : Int)) = false) => ?_))))))))); rotate_right; (have hf2 := hb2; simp only [decide_eq_false_iff_not, Int.not_lt] at hf2; exfalso; omega); rotate_right; (have hf1 := hb1; simp only [decide_eq_true_eq] at hf1; refine (cwp_skip (seqQ_normal (cwp_seq (cwp_block (cwp_seq (cwp_region (Exists.intro (k) (an (an (by with_reducible rfl) (an (by assumption) (show 1 = 1 from (by with_reducible rfl)))) (sl rfl (sl rfl (sl rfl (seqQ_normal (cwp_region (sl rfl (sl rfl (sl rfl (sl rfl (sl rfl (an rfl (an rfl (sl rfl (sl rfl (Framed.on (g.under [0]) rfl (an (an rfl (an rfl (an rfl (Nat.le_of_ble_eq_true rfl)))) (an (an (an (an rfl (by with_reducible rfl)) (Nat.le_of_ble_eq_true rfl)) (an (an (DEqv.refl _) (an (DEqv.refl _) True.intro)) (an (DEqv.refl _) True.intro))) (an (an (DEqv.refl _) (an (DEqv.refl _) True.intro)) True.intro))) (sl rfl (an (an (show 1 * 2 ≤ 16777216 from (Nat.le_of_ble_eq_true rfl)) (Nat.le_of_ble_eq_true rfl)) (an (show (rens1 (names2 [0] (memB (alloc (layTo c (nth c p.toNat).n.leaf rows [] k).fst (nth c p.toNat).n.leaf (nth rows k) []).fst keep) [some (hbox (layTo c (nth c p.toNat).n.leaf rows [] k).fst keep), some (nbox (nth c p.toNat).n.leaf (nth c p.toNat).n.it), some (Blk.arr 2 k fun i => dItem (nth (layTo c (nth c p.toNat).n.leaf rows [] k).snd i))]) [AV.d (dint (nth (nth rows k) 0).k), AV.d (dint (↑(alloc (layTo c (nth c p.toNat).n.leaf rows [] k).fst (nth c p.toNat).n.leaf (nth rows k) []).snd.fst : Int))]).length = 2 from rfl) (sl rfl (an (an (Or.inr (show 2 = 2 from (by with_reducible rfl))) (forall_lt_one (show ((fun q => List.take 2 (List.drop (q * 2) [dint (nth (nth rows k) 0).k, dint (↑(alloc (layTo c (nth c p.toNat).n.leaf rows [] k).fst (nth c p.toNat).n.leaf (nth rows k) []).snd.fst : Int)])) 0).length = 2 from rfl))) (an (an (show 2 = 2 from (by with_reducible rfl)) (an (show 2 = 2 from (by with_reducible rfl)) (fun i => (fun hi => (show ((fun i => dItem (nth (layTo c (nth c p.toNat).n.leaf rows [] k).snd i)) i).length = 2 from rfl))))) (Or.inr (an (an (by omega) (an (show (k + 1) * 16 ≤ big from (by unfold big; omega)) (by unfold big; omega))) (sl rfl (sl rfl (blockQ_normal (seqQ_normal (cwp_region (an (by with_reducible rfl) (ez (wrap64 (by omega)) (sl rfl (sl rfl (seqQ_normal (show Exists _ from ?_)))))))))))))))))))))))))))))))))))))))))))))
              refine ⟨k + 1, [0, 1, 3], ⟨by omega, by omega⟩, ?_⟩
              (refine (an (an rfl (an rfl (an rfl (Nat.le_of_ble_eq_true rfl)))) (an (an (an (an rfl (by with_reducible rfl)) (Nat.le_of_ble_eq_true rfl)) (an (an (an rfl (by with_reducible rfl)) (Nat.le_of_ble_eq_true rfl)) (an (DEqv.refl _) (an (an (an rfl (an (show 2 = 2 from (by with_reducible rfl)) (an (by with_reducible rfl) (by with_reducible rfl)))) (Nat.le_of_ble_eq_true rfl)) (an (DEqv.refl _) (an (DEqv.refl _) (an (DEqv.refl _) True.intro))))))) (an (an (DEqv.refl _) (an (DEqv.refl _) True.intro)) (an (an (DEqv.refl _) (an (DEqv.refl _) True.intro)) (an (an (an (show 2 = 2 from (by with_reducible rfl)) (by with_reducible rfl)) (fun i => (fun hi => (show LEqv (appF k (fun i => dItem (nth (layTo c (nth c p.toNat).n.leaf rows [] k).snd (0 + i))) (fun q => List.take ti26.size (List.drop (q * ti26.size) [dint (nth (nth rows k) 0).k, dint (↑(alloc (layTo c (nth c p.toNat).n.leaf rows [] k).fst (nth c p.toNat).n.leaf (nth rows k) []).snd.fst : Int)])) i) (dItem (nth (layTo c (nth c p.toNat).n.leaf rows [] (k + 1)).snd i)) from ?_)))) True.intro))))))
              exact LEqv_app1 (h := fun i => dItem (nth (layTo c (nth c p.toNat).n.leaf rows [] (k + 1)).2 i)) hi (fun h1 => LEqv.of_eq (by simp only [layTo, Nat.zero_add, nth_append, q1.2, if_pos h1])) (LEqv.of_eq (by simp only [layTo, nth_append, q1.2, Nat.lt_irrefl, if_false, Nat.sub_self]; rfl))
            · have e : k = rows.length := by omega
              subst e
              (focus (refine (cwp_seq (cwp_region (an (by with_reducible rfl) (sl rfl (seqQ_normal (cwp_seq (cwp_cond (an (fun (hb1 : decide ((↑rows.length : Int) < (↑rows.length : Int)) = true) => ?_) (fun (hb2 : decide ((↑rows.length : Int) < (↑rows.length : Int)) = false) => ?_))))))))); rotate_right; (have hf2 := hb2; simp only [decide_eq_false_iff_not, Int.not_lt] at hf2; refine (cwp_exit (seqQ_exit (seqQ_exit (blockQ_here rfl (seqQ_normal (cwp_seq (cwp_region (sl rfl (sl rfl (seqQ_normal (cwp_ret (endQ_ret (Exists.intro [0] (an (an rfl (an (by with_reducible rfl) (an (an (by with_reducible rfl) (an (by omega) (an (show rows.length = (lay c (nth c p.toNat).n.leaf rows []).snd.length from ?_) (Or.inr (by with_reducible rfl))))) (fun i => (fun hi => (show LEqv (dItem (nth (layTo c (nth c p.toNat).n.leaf rows [] rows.length).snd (0 + i))) (dItem (nth (lay c (nth c p.toNat).n.leaf rows []).snd i)) from ?_)))))) (an (an rfl (an rfl (an rfl (Nat.le_of_ble_eq_true rfl)))) (an True.intro (an (an (DEqv.refl _) (an (DEqv.refl _) True.intro)) True.intro)))))))))))))))))); rotate_right; (have hf1 := hb1; simp only [decide_eq_true_eq] at hf1; exfalso; omega)))
              · exact q1.2.symm
              · rw [Nat.zero_add]; exact LEqv.refl _
      have h5 := hgone _ rfl
      rw [hlf] at h5
      exact h5
    · have ha := atOf_inner (it := (nth c p.toNat).n.it) (key := x.k) hl.1
      rw [← hlf] at ha
      rw [if_neg (by simp [hlf])]
      generalize atOf (nth c p.toNat).n.leaf (nth c p.toNat).n.it x.k = a at ha hat ⊢
      obtain ⟨i, is⟩ := a
      have hih := ih c keep x _ B hc hnn hr hB0 hB (by omega) (hs i ha)
      obtain ⟨i1, i2, i3, i4⟩ := anew_facts (x := x) hr hB0 h _ (hs i ha)
      have i5 := anew_nn (x := x) hnn h (nth (nth c p.toNat).n.it i).v
      simp only
      generalize anew c x h (nth (nth c p.toNat).n.it i).v = m at *
      have hw := withOf_length (more := m.2) (show i + 1 ≤ (nth c p.toNat).n.it.length from ha)
      have f1 := pc_WithP (nth c p.toNat).n.it m.2 i 1 (by omega) (by omega) ha
      have f2 := pc_SplitP _ (withOf (nth c p.toNat).n.it i 1 m.2) (Nat.le_refl _) (by omega)
      have f4 := pc_places51 m.2 (by omega)
      have h2 := rowsOf_two (l := withOf (nth c p.toNat).n.it i 1 m.2) (by omega)
      have hrow := rowsOf_row (withOf (nth c p.toNat).n.it i 1 m.2)
      generalize hrows : rowsOf (withOf (nth c p.toNat).n.it i 1 m.2) = rows at f2 h2 hrow ⊢
      rw [← hlf]
      refine AC_ofF tab_ok mixed (Try.func44) rfl (by kernel_rfl) (Nat.le_of_ble_eq_true rfl) ?_ (Nat.le_of_ble_eq_true rfl)
      (refine (cwp_seq (cwp_region (sl rfl (sl rfl (seqQ_normal (cwp_seq (cwp_region (sl rfl (sl rfl (sl rfl (sl rfl (sl rfl (sl rfl (Exists.intro (p.toNat) (an (an (by omega) (an (by omega) (show 4 = 4 from (by with_reducible rfl)))) (sl rfl (sl rfl (sl rfl (sl rfl (an (show [AV.d (dbool (nth c p.toNat).n.leaf), AV.d (dItems (nth c p.toNat).n.it)].length = 2 from rfl) (seqQ_normal (cwp_seq (cwp_region (sl rfl (sl rfl (sl rfl (Or.inl (PC.on (hat) (sl rfl (sl rfl (sl rfl (sl rfl (sl rfl (sl rfl (seqQ_normal (cwp_seq (cwp_region (sl rfl (an (an (show 1 * 2 ≤ 16777216 from (Nat.le_of_ble_eq_true rfl)) (Nat.le_of_ble_eq_true rfl)) (an (show [id (AV.d (dint x.k)), id (AV.d (dint x.v))].length = 2 from rfl) (sl rfl (sl rfl (sl rfl (seqQ_normal (cwp_seq (cwp_region (sl rfl (seqQ_normal (cwp_seq (cwp_block (cwp_seq (cwp_region (sl rfl (sl rfl (sl rfl (sl rfl (seqQ_normal (cwp_cond (oT (congrArg Bool.not hlf) (cwp_seq (cwp_draw (sl rfl (sl rfl (sl rfl (sl rfl (Exists.intro ((i, is).fst) (an (an (by with_reducible rfl) (an (by assumption) (show 2 = 2 from (by with_reducible rfl)))) (sl rfl (sl rfl (sl rfl (sl rfl (Framed.on (hih.under [0]) rfl (an (an rfl (an rfl (an rfl (Nat.le_of_ble_eq_true rfl)))) (an (an (an (an rfl (by with_reducible rfl)) (Nat.le_of_ble_eq_true rfl)) (an (DEqv.refl _) (an (an (DEqv.refl _) (an (DEqv.refl _) True.intro)) True.intro))) (an (an (DEqv.refl _) (an (DEqv.refl _) True.intro)) True.intro))) (sl rfl (sl rfl (sl rfl (an (by kernel_rfl) (seqQ_normal (cwp_region (sl rfl (Or.inl (PC.on (f4) (sl rfl (sl rfl (blockQ_normal (seqQ_normal (cwp_seq (cwp_region (sl rfl (seqQ_normal (cwp_seq (cwp_seq (cwp_region (sl rfl (sl rfl (sl rfl (sl rfl (sl rfl (Or.inl (PC.on (f1) (sl rfl (Or.inl (PC.on (f2) (sl rfl (sl rfl (sl rfl (seqQ_normal (cwp_block (cwp_loop ?_)))))))))))))))))))))))))))))))))))))))))))))))))))))))))))))))))))))))))))))))))))))))))))))))))))))))))))))
      refine AWP.ghost 13 2 (g := fun _ => []) rfl ?_
      refine AWP_for tab_ok mixed (fun k => rows.length - k) (fun k => k ≤ rows.length)
        (fun k => [(0, .own 0 0), (7, .own 1 0), (12, aInts (m.2.map (·.v))), (13, .row 2 2 0 k), (57, aRows rows), (58, aint .i64 rows.length), (59, aint .i64 (k : Nat))])
        (fun k => [some (hbox (layTo m.1 (nth c p.toNat).n.leaf rows (m.2.map (·.v)) k).1 keep), some (nbox (nth c p.toNat).n.leaf (nth c p.toNat).n.it), some (.arr 2 k fun i => dItem (nth (layTo m.1 (nth c p.toNat).n.leaf rows (m.2.map (·.v)) k).2 i))]) 0 [0, 2, 3] ?_ (Nat.zero_le _) ?_
      · (refine (an (an rfl (an rfl (an rfl (Nat.le_of_ble_eq_true rfl)))) (an (an (an (an rfl (by with_reducible rfl)) (Nat.le_of_ble_eq_true rfl)) (an (an (an rfl (by with_reducible rfl)) (Nat.le_of_ble_eq_true rfl)) (an (DEqv.refl _) (an (an (an rfl (an (by with_reducible rfl) (an (by with_reducible rfl) (by with_reducible rfl)))) (Nat.le_of_ble_eq_true rfl)) (an (DEqv.refl _) (an (DEqv.refl _) (an (DEqv.refl _) True.intro))))))) (an (an (DEqv.refl _) (an (DEqv.refl _) True.intro)) (an (an (DEqv.refl _) (an (DEqv.refl _) True.intro)) (an (an (an (by with_reducible rfl) (by with_reducible rfl)) forall_lt_zero) True.intro))))))
      · intro k hk
        have q1 := layTo_len m.1 (nth c p.toNat).n.leaf rows (m.2.map (·.v)) k
        have q2 := layTo_refLe (leaf := (nth c p.toNat).n.leaf) (rows := rows) (held := (m.2.map (·.v))) i4 (by omega) k
        have q3 := layTo_nn (leaf := (nth c p.toNat).n.leaf) (rows := rows) (held := (m.2.map (·.v))) i5 k
        by_cases hlt : k < rows.length
        · have q4 := hrow k hlt
          have g := ac_lay43 (layTo m.1 (nth c p.toNat).n.leaf rows (m.2.map (·.v)) k).1 keep (nth c p.toNat).n.leaf (nth rows k) (m.2.map (·.v)) (by omega) q3 q2 (by omega) (by omega) (by omega) (by simp <;> omega)
          (focus (refine (cwp_seq (cwp_region (an (by with_reducible rfl) (sl rfl (seqQ_normal (cwp_seq (cwp_cond (an (fun (hb1 : decide ((↑k : Int) < (↑rows.length : Int)) = true) => ?_) (fun (hb2 : decide ((↑k : Int) < (↑rows.length : Int)) = false) => ?_))))))))); rotate_right; (have hf2 := hb2; simp only [decide_eq_false_iff_not, Int.not_lt] at hf2; exfalso; omega); rotate_right; (have hf1 := hb1; simp only [decide_eq_true_eq] at hf1; refine (cwp_skip (seqQ_normal (cwp_seq (cwp_block (cwp_seq (cwp_region (Exists.intro (k) (an (an (by with_reducible rfl) (an (by assumption) (show 1 = 1 from (by with_reducible rfl)))) (sl rfl (sl rfl (sl rfl (seqQ_normal (cwp_region (sl rfl (sl rfl (sl rfl (sl rfl (sl rfl (an rfl (an rfl (sl rfl (sl rfl (Framed.on (g.under [0]) rfl (an (an rfl (an rfl (an rfl (Nat.le_of_ble_eq_true rfl)))) (an (an (an (an rfl (by with_reducible rfl)) (Nat.le_of_ble_eq_true rfl)) (an (an (DEqv.refl _) (an (DEqv.refl _) True.intro)) (an (DEqv.refl _) True.intro))) (an (an (DEqv.refl _) (an (DEqv.refl _) True.intro)) True.intro))) (sl rfl (an (an (show 1 * 2 ≤ 16777216 from (Nat.le_of_ble_eq_true rfl)) (Nat.le_of_ble_eq_true rfl)) (an (show (rens1 (names2 [0] (memB (alloc (layTo m.fst (nth c p.toNat).n.leaf rows (List.map (fun x => x.v) m.snd) k).fst (nth c p.toNat).n.leaf (nth rows k) (List.map (fun x => x.v) m.snd)).fst keep) [some (hbox (layTo m.fst (nth c p.toNat).n.leaf rows (List.map (fun x => x.v) m.snd) k).fst keep), some (nbox (nth c p.toNat).n.leaf (nth c p.toNat).n.it), some (Blk.arr 2 k fun i => dItem (nth (layTo m.fst (nth c p.toNat).n.leaf rows (List.map (fun x => x.v) m.snd) k).snd i))]) [AV.d (dint (nth (nth rows k) 0).k), AV.d (dint (↑(alloc (layTo m.fst (nth c p.toNat).n.leaf rows (List.map (fun x => x.v) m.snd) k).fst (nth c p.toNat).n.leaf (nth rows k) (List.map (fun x => x.v) m.snd)).snd.fst : Int))]).length = 2 from rfl) (sl rfl (an (an (Or.inr (show 2 = 2 from (by with_reducible rfl))) (forall_lt_one (show ((fun q => List.take 2 (List.drop (q * 2) [dint (nth (nth rows k) 0).k, dint (↑(alloc (layTo m.fst (nth c p.toNat).n.leaf rows (List.map (fun x => x.v) m.snd) k).fst (nth c p.toNat).n.leaf (nth rows k) (List.map (fun x => x.v) m.snd)).snd.fst : Int)])) 0).length = 2 from rfl))) (an (an (show 2 = 2 from (by with_reducible rfl)) (an (show 2 = 2 from (by with_reducible rfl)) (fun i => (fun hi => (show ((fun i => dItem (nth (layTo m.fst (nth c p.toNat).n.leaf rows (List.map (fun x => x.v) m.snd) k).snd i)) i).length = 2 from rfl))))) (Or.inr (an (an (by omega) (an (show (k + 1) * 16 ≤ big from (by unfold big; omega)) (by unfold big; omega))) (sl rfl (sl rfl (blockQ_normal (seqQ_normal (cwp_region (an (by with_reducible rfl) (ez (wrap64 (by omega)) (sl rfl (sl rfl (seqQ_normal (show Exists _ from ?_)))))))))))))))))))))))))))))))))))))))))))))
          refine ⟨k + 1, [0, 1, 3], ⟨by omega, by omega⟩, ?_⟩
          (refine (an (an rfl (an rfl (an rfl (Nat.le_of_ble_eq_true rfl)))) (an (an (an (an rfl (by with_reducible rfl)) (Nat.le_of_ble_eq_true rfl)) (an (an (an rfl (by with_reducible rfl)) (Nat.le_of_ble_eq_true rfl)) (an (DEqv.refl _) (an (an (an rfl (an (show 2 = 2 from (by with_reducible rfl)) (an (by with_reducible rfl) (by with_reducible rfl)))) (Nat.le_of_ble_eq_true rfl)) (an (DEqv.refl _) (an (DEqv.refl _) (an (DEqv.refl _) True.intro))))))) (an (an (DEqv.refl _) (an (DEqv.refl _) True.intro)) (an (an (DEqv.refl _) (an (DEqv.refl _) True.intro)) (an (an (an (show 2 = 2 from (by with_reducible rfl)) (by with_reducible rfl)) (fun i => (fun hi => (show LEqv (appF k (fun i => dItem (nth (layTo m.fst (nth c p.toNat).n.leaf rows (List.map (fun x => x.v) m.snd) k).snd (0 + i))) (fun q => List.take ti26.size (List.drop (q * ti26.size) [dint (nth (nth rows k) 0).k, dint (↑(alloc (layTo m.fst (nth c p.toNat).n.leaf rows (List.map (fun x => x.v) m.snd) k).fst (nth c p.toNat).n.leaf (nth rows k) (List.map (fun x => x.v) m.snd)).snd.fst : Int)])) i) (dItem (nth (layTo m.fst (nth c p.toNat).n.leaf rows (List.map (fun x => x.v) m.snd) (k + 1)).snd i)) from ?_)))) True.intro))))))
          exact LEqv_app1 (h := fun i => dItem (nth (layTo m.1 (nth c p.toNat).n.leaf rows (m.2.map (·.v)) (k + 1)).2 i)) hi (fun h1 => LEqv.of_eq (by simp only [layTo, Nat.zero_add, nth_append, q1.2, if_pos h1])) (LEqv.of_eq (by simp only [layTo, nth_append, q1.2, Nat.lt_irrefl, if_false, Nat.sub_self]; rfl))
        · have e : k = rows.length := by omega
          subst e
          (focus (refine (cwp_seq (cwp_region (an (by with_reducible rfl) (sl rfl (seqQ_normal (cwp_seq (cwp_cond (an (fun (hb1 : decide ((↑rows.length : Int) < (↑rows.length : Int)) = true) => ?_) (fun (hb2 : decide ((↑rows.length : Int) < (↑rows.length : Int)) = false) => ?_))))))))); rotate_right; (have hf2 := hb2; simp only [decide_eq_false_iff_not, Int.not_lt] at hf2; refine (cwp_exit (seqQ_exit (seqQ_exit (blockQ_here rfl (seqQ_normal (cwp_seq (cwp_region (sl rfl (sl rfl (seqQ_normal (cwp_ret (endQ_ret (Exists.intro [0] (an (an rfl (an (by with_reducible rfl) (an (an (by with_reducible rfl) (an (by omega) (an (show rows.length = (lay m.fst (nth c p.toNat).n.leaf rows (List.map (fun x => x.v) m.snd)).snd.length from ?_) (Or.inr (by with_reducible rfl))))) (fun i => (fun hi => (show LEqv (dItem (nth (layTo m.fst (nth c p.toNat).n.leaf rows (List.map (fun x => x.v) m.snd) rows.length).snd (0 + i))) (dItem (nth (lay m.fst (nth c p.toNat).n.leaf rows (List.map (fun x => x.v) m.snd)).snd i)) from ?_)))))) (an (an rfl (an rfl (an rfl (Nat.le_of_ble_eq_true rfl)))) (an True.intro (an (an (DEqv.refl _) (an (DEqv.refl _) True.intro)) True.intro)))))))))))))))))); rotate_right; (have hf1 := hb1; simp only [decide_eq_true_eq] at hf1; exfalso; omega)))
          · exact q1.2.symm
          · rw [Nat.zero_add]; exact LEqv.refl _
end Go.Proofs.Abs
