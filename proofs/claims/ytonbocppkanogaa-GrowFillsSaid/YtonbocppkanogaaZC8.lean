/- Alloc and Loose of the reference. -/
import Derived.Test.YtonbocppkanogaaZC7
set_option linter.all false
namespace Go.Proofs.Abs
open Go Go.RowKit Go.Proofs
attribute [local irreducible] cwp seqQ blockQ endQ DEqv LEqv AWP drawOK

def takenCell (x : Cell) : Bool := decide (0 < x.ref) || x.pin
/-- The first free cell. -/
def firstLow (c : List Cell) : Nat := c.findIdx fun x => !takenCell x
def inB (l : List Int) (p : Int) : Bool := !allTo l.length fun i => nth l i != p
/-- A cell that is told is held once more, but it is held already. -/
def heldMore (held : List Int) (c : List Cell) (x : Item) : List Cell := if inB held x.v then c else more c x.v
def layIn (c : List Cell) (leaf : Bool) (it : List Item) (held : List Int) : List Cell := if leaf then c else it.foldl (heldMore held) c
/-- A node that is laid. -/
def alloc (c : List Cell) (leaf : Bool) (it : List Item) (held : List Int) : List Cell × Nat × Nat :=
  if rightNode it && leads c leaf it then
    if firstLow c < c.length then ((layIn c leaf it held).set (firstLow c) ⟨1, false, ⟨leaf, it⟩⟩, firstLow c, 0) else (c, 0, 3)
  else (c, 0, 1)

theorem firstLow_none {c : List Cell} {k : Nat} (hk : c.length ≤ k) (hall : allTo k (fun i => takenCell (nth c i)) = true) : ¬ firstLow c < c.length := by
  unfold firstLow
  rw [List.findIdx_lt_length]
  rintro ⟨x, hx, e⟩
  obtain ⟨j, hj, rfl⟩ := List.getElem_of_mem hx
  have := allTo_iff.1 hall j (by omega)
  rw [nth_eq hj] at this
  simp_all
theorem firstLow_eq {c : List Cell} {k : Nat} (hk : k < c.length) (hall : allTo k (fun i => takenCell (nth c i)) = true) (h : takenCell (nth c k) = false) : firstLow c = k := by
  unfold firstLow
  rw [List.findIdx_eq hk]
  refine ⟨by rw [← nth_eq hk]; simpa using h, fun j hj => ?_⟩
  have := allTo_iff.1 hall j hj
  rw [nth_eq (by omega)] at this
  simpa using this

theorem more_length (c : List Cell) (p : Int) : (more c p).length = c.length := by simp [more]
theorem heldMore_length (held : List Int) (c : List Cell) (x : Item) : (heldMore held c x).length = c.length := by
  unfold heldMore; split <;> simp [more_length]
theorem fold_length (held : List Int) : ∀ (it : List Item) (c : List Cell), (it.foldl (heldMore held) c).length = c.length
  | [], c => rfl
  | x :: it, c => by simp [fold_length held it, heldMore_length]
theorem fold_take {held : List Int} {it : List Item} {c : List Cell} {k : Nat} (hk : k < it.length) : (it.take (k + 1)).foldl (heldMore held) c = heldMore held ((it.take k).foldl (heldMore held) c) (nth it k) := by
  rw [take_succ hk, List.foldl_append]; rfl

/-- A cell's Ref grows by no more than one by one that is held. -/
theorem more_ref (c : List Cell) (p : Int) (i : Nat) : (nth c i).ref ≤ (nth (more c p) i).ref ∧ (nth (more c p) i).ref ≤ (nth c i).ref + 1 := by
  unfold more
  by_cases h : p.toNat < c.length
  · rw [nth_set _ _ _ _ h]
    split
    · rename_i e; subst e; simp; omega
    · omega
  · rw [List.set_eq_of_length_le (by omega)]; omega
theorem heldMore_ref (held : List Int) (c : List Cell) (x : Item) (i : Nat) : (nth c i).ref ≤ (nth (heldMore held c x) i).ref ∧ (nth (heldMore held c x) i).ref ≤ (nth c i).ref + 1 := by
  unfold heldMore; split
  · omega
  · exact more_ref _ _ _
theorem fold_ref (held : List Int) (i : Nat) : ∀ (it : List Item) (c : List Cell), (nth c i).ref ≤ (nth (it.foldl (heldMore held) c) i).ref ∧ (nth (it.foldl (heldMore held) c) i).ref ≤ (nth c i).ref + it.length
  | [], c => by simp
  | x :: it, c => by
    have h1 := fold_ref held i it (heldMore held c x)
    have h2 := heldMore_ref held c x i
    simp only [List.foldl_cons, List.length_cons]
    omega

theorem pc_Alloc05 (c : List Cell) (keep : Int) (leaf : Bool) (it : List Item) (held : List Int) (hc : c.length ≤ 2000) (hr : ∀ i, (nth c i).ref ≤ 4000000000) (hl : it.length ≤ big) (hh : held.length ≤ big) :
    PC Try.prog 47 [aHeap c keep, aNode leaf it, aInts held] (.tup [aHeap (alloc c leaf it held).1 keep, aint .i64 (alloc c leaf it held).2.1, aint .i64 (alloc c leaf it held).2.2]) := by
  refine PC_of tab_ok mixed (Try.func47) rfl (by kernel_rfl) (Nat.le_of_ble_eq_true rfl) rfl ?_
  (focus (refine (cwp_seq (cwp_region (sl rfl (sl rfl (sl rfl (sl rfl (sl rfl (seqQ_normal (cwp_seq (cwp_region (sl rfl (Or.inl (PC.on (pc_Right04 _ _) (sl rfl (sl rfl (seqQ_normal (cwp_seq (cwp_seq (cwp_region (sl rfl (sl rfl (sl rfl (sl rfl (an (fun (hb1 : (!rightNode it) = false) => ?_) (fun (hb4 : (!rightNode it) = true) => ?_))))))))))))))))))))))))); rotate_right; (have hf4 := hb4; simp only [Bool.not_eq_true'] at hf4; refine (sl rfl (sl rfl (uT (congrArg Bool.not hf4) (sl rfl (sl rfl (uT (congrArg Bool.not hf4) (sl rfl (sl rfl (uT (congrArg Bool.not hf4) (sl rfl (oT (congrArg Bool.not hf4) (sl rfl (seqQ_normal (cwp_cond (oT rfl (cwp_seq (cwp_region (sl rfl (an (show [id (AV.d (dCells c)), id (AV.d (dint keep))].length = 2 from rfl) (sl rfl (sl rfl (seqQ_normal (cwp_ret (seqQ_ret (endQ_ret (an (an (show DEqv (dCells c) (dCells (alloc c leaf it held).fst) from ?_) (an (DEqv.refl _) True.intro)) (an (DEqv.int (show 0 = (↑(alloc c leaf it held).snd.fst : Int) from ?_)) (an (DEqv.int (show 1 = (↑(alloc c leaf it held).snd.snd : Int) from ?_)) True.intro))))))))))))))))))))))))))))); rotate_right; (have hf1 := hb1; simp only [Bool.not_eq_false'] at hf1; focus (refine (sl rfl (sl rfl (uF (congrArg Bool.not hf1) (sl rfl (sl rfl (uF (congrArg Bool.not hf1) (Or.inl (PC.on (pc_leads _ _ _ _ hl) (sl rfl (sl rfl (uF (congrArg Bool.not hf1) (sl rfl (oF (congrArg Bool.not hf1) (sl rfl (seqQ_normal (cwp_cond (an (fun (hb2 : (!leads c leaf it) = true) => ?_) (fun (hb3 : (!leads c leaf it) = false) => ?_)))))))))))))))))); rotate_right; (have hf3 := hb3; simp only [Bool.not_eq_false'] at hf3; refine (cwp_skip (seqQ_normal (cwp_seq (cwp_region (sl rfl (seqQ_normal (cwp_seq (cwp_block (cwp_loop ?_)))))))))); rotate_right; (have hf2 := hb2; simp only [Bool.not_eq_true'] at hf2; refine (cwp_seq (cwp_region (sl rfl (an (show [id (AV.d (dCells c)), id (AV.d (dint keep))].length = 2 from rfl) (sl rfl (sl rfl (seqQ_normal (cwp_ret (seqQ_ret (endQ_ret (an (an (show DEqv (dCells c) (dCells (alloc c leaf it held).fst) from ?_) (an (DEqv.refl _) True.intro)) (an (DEqv.int (show 0 = (↑(alloc c leaf it held).snd.fst : Int) from ?_)) (an (DEqv.int (show 1 = (↑(alloc c leaf it held).snd.snd : Int) from ?_)) True.intro))))))))))))))))))
  all_goals first
    | (rw [show alloc c leaf it held = (c, 0, 1) by simp [alloc, *]]; first | rfl | exact DEqv.refl _)
    | skip
  have hrn : rightNode it = true := by assumption
  have hld : leads c leaf it = true := by assumption
  have hit : it.length ≤ 4 := by simp only [rightNode, Bool.and_eq_true, decide_eq_true_eq] at hrn; omega
  refine AWP_for tab_ok mixed (fun k => c.length - k) (fun k => k ≤ c.length ∧ allTo k (fun i => takenCell (nth c i)) = true) (fun k => [(2, aInts held), (3, .own 0 0), (4, .own 1 0), (6, .own 2 0), (10, aint .i64 (k : Nat))])
    (fun _ => [some (.cells [.d (dCells c), .d (dint keep)]), some (.cells [.d (dbool leaf), .d (dItems it)]), some (.cells (ti24.zero.map AV.d))]) 0 [0, 1, 2] ?_ ⟨Nat.zero_le _, rfl⟩ ?_
  · (refine (an (an rfl (an rfl (an rfl (Nat.le_of_ble_eq_true rfl)))) (an (an (DEqv.refl _) (an (an (an rfl (by with_reducible rfl)) (Nat.le_of_ble_eq_true rfl)) (an (an (an rfl (by with_reducible rfl)) (Nat.le_of_ble_eq_true rfl)) (an (an (an rfl (by with_reducible rfl)) (Nat.le_of_ble_eq_true rfl)) (an (DEqv.refl _) True.intro))))) (an (an (DEqv.refl _) (an (DEqv.refl _) True.intro)) (an (an (DEqv.refl _) (an (DEqv.refl _) True.intro)) (an (an (DEqv.refl _) (an (DEqv.refl _) True.intro)) True.intro))))))
  · rintro k ⟨hk, hall⟩
    (focus (refine (cwp_seq (cwp_seq (cwp_region (sl rfl (sl rfl (sl rfl (sl rfl (an (by with_reducible rfl) (sl rfl (sl rfl (sl rfl (an (fun (hb1 : decide ((↑k : Int) < (↑c.length : Int)) = true) => ?_) (fun (hb8 : decide ((↑k : Int) < (↑c.length : Int)) = false) => ?_))))))))))))); rotate_right; (have hf8 := hb8; simp only [decide_eq_false_iff_not, Int.not_lt] at hf8; focus (refine (sl rfl (sl rfl (oF hb8 (sl rfl (sl rfl (oF hb8 (sl rfl (sl rfl (oF hb8 (sl rfl (sl rfl (oF hb8 (sl rfl (sl rfl (oF hb8 (sl rfl (sl rfl (oF hb8 (sl rfl (sl rfl (oF hb8 (sl rfl (sl rfl (sl rfl (sl rfl (sl rfl (sl rfl (sl rfl (sl rfl (sl rfl (sl rfl (sl rfl (sl rfl (sl rfl (sl rfl (oF hb8 (sl rfl (oF hb8 (sl rfl (seqQ_normal (cwp_cond (oF rfl (cwp_exit (seqQ_exit (seqQ_exit (blockQ_here rfl (seqQ_normal (cwp_seq (cwp_seq (cwp_region (sl rfl (sl rfl (sl rfl (sl rfl (an (by with_reducible rfl) (sl rfl (seqQ_normal (cwp_cond (an (fun (hb9 : ((↑k : Int) == (↑c.length : Int)) = true) => ?_) (fun (hb10 : ((↑k : Int) == (↑c.length : Int)) = false) => ?_)))))))))))))))))))))))))))))))))))))))))))))))))))))))))))); rotate_right; (have hf10 := hb10; simp only [ne_eq, beq_eq_false_iff_ne] at hf10; exfalso; omega); rotate_right; (have hf9 := hb9; simp only [beq_iff_eq] at hf9; refine (cwp_seq (cwp_region (sl rfl (an (show [id (AV.d (dCells c)), id (AV.d (dint keep))].length = 2 from rfl) (sl rfl (sl rfl (seqQ_normal (cwp_ret (seqQ_ret (endQ_ret (an (an (show DEqv (dCells c) (dCells (alloc c leaf it held).fst) from ?_) (an (DEqv.refl _) True.intro)) (an (DEqv.int (show 0 = (↑(alloc c leaf it held).snd.fst : Int) from ?_)) (an (DEqv.int (show 3 = (↑(alloc c leaf it held).snd.snd : Int) from ?_)) True.intro)))))))))))))))); rotate_right; (have hf1 := hb1; simp only [decide_eq_true_eq] at hf1; focus (refine (sl rfl (sl rfl (oT hb1 (sl rfl (sl rfl (oT hb1 (sl rfl (sl rfl (oT hb1 (Exists.intro (k) (an (an (by with_reducible rfl) (an (by omega) (show 4 = 4 from (by with_reducible rfl)))) (sl rfl (sl rfl (oT hb1 (sl rfl (sl rfl (oT hb1 (sl rfl (sl rfl (oT hb1 (an (by with_reducible rfl) (sl rfl (sl rfl (oT hb1 (sl rfl (sl rfl (an (fun (hb2 : decide ((nth c k).ref > 0) = false) => ?_) (fun (hb7 : decide ((nth c k).ref > 0) = true) => ?_)))))))))))))))))))))))))))); rotate_right; (have hf7 := hb7; simp only [decide_eq_true_eq, gt_iff_lt] at hf7; refine (sl rfl (sl rfl (uT hb7 (sl rfl (sl rfl (uT hb7 (sl rfl (sl rfl (uT hb7 (sl rfl (sl rfl (uT hb7 (sl rfl (sl rfl (uT hb7 (sl rfl (sl rfl (oT hb1 (oT hb7 (sl rfl (oT hb1 (sl rfl (seqQ_normal (cwp_cond (oT rfl (cwp_skip (seqQ_normal (cwp_block (cwp_region (sl rfl (an (by with_reducible rfl) (ez (wrap64 (by omega)) (sl rfl (sl rfl (blockQ_normal (seqQ_normal (show Exists _ from ?_)))))))))))))))))))))))))))))))))))))); rotate_right; (have hf2 := hb2; simp only [decide_eq_false_iff_not, Int.not_lt] at hf2; focus (refine (sl rfl (sl rfl (uF hb2 (sl rfl (sl rfl (uF hb2 (sl rfl (sl rfl (uF hb2 (Exists.intro (k) (an (an (by with_reducible rfl) (an (by omega) (show 4 = 4 from (by with_reducible rfl)))) (sl rfl (sl rfl (uF hb2 (sl rfl (sl rfl (uF hb2 (sl rfl (sl rfl (oT hb1 (oF hb2 (sl rfl (oT hb1 (sl rfl (seqQ_normal (cwp_cond (an (fun (hb3 : (nth c k).pin = true) => ?_) (fun (hb4 : (nth c k).pin = false) => ?_)))))))))))))))))))))))))))); rotate_right; (have hf4 := hb4; focus (refine (cwp_exit (seqQ_exit (seqQ_exit (blockQ_here rfl (seqQ_normal (cwp_seq (cwp_seq (cwp_region (sl rfl (sl rfl (sl rfl (sl rfl (an (by with_reducible rfl) (sl rfl (seqQ_normal (cwp_cond (an (fun (hb5 : ((↑k : Int) == (↑c.length : Int)) = true) => ?_) (fun (hb6 : ((↑k : Int) == (↑c.length : Int)) = false) => ?_)))))))))))))))))); rotate_right; (have hf6 := hb6; simp only [ne_eq, beq_eq_false_iff_ne] at hf6; refine (cwp_skip (seqQ_normal (cwp_seq (cwp_region (sl rfl (sl rfl (an (show [id (AV.d (dCells c)), id (AV.d (dint keep))].length = 2 from rfl) (seqQ_normal (cwp_seq (cwp_seq (cwp_region (sl rfl (seqQ_normal (cwp_block (cwp_loop ?_)))))))))))))))); rotate_right; (have hf5 := hb5; simp only [beq_iff_eq] at hf5; exfalso; omega))); rotate_right; (have hf3 := hb3; refine (cwp_skip (seqQ_normal (cwp_block (cwp_region (sl rfl (an (by with_reducible rfl) (ez (wrap64 (by omega)) (sl rfl (sl rfl (blockQ_normal (seqQ_normal (show Exists _ from ?_)))))))))))))))))))
    all_goals first
      | (refine ⟨k + 1, [0, 1, 2], ⟨by omega, by omega, allTo_step hall (by simp [takenCell, *]; done)⟩, ?_⟩; (refine (an (an rfl (an rfl (an rfl (Nat.le_of_ble_eq_true rfl)))) (an (an (DEqv.refl _) (an (an (an rfl (by with_reducible rfl)) (Nat.le_of_ble_eq_true rfl)) (an (an (an rfl (by with_reducible rfl)) (Nat.le_of_ble_eq_true rfl)) (an (an (an rfl (by with_reducible rfl)) (Nat.le_of_ble_eq_true rfl)) (an (DEqv.refl _) True.intro))))) (an (an (DEqv.refl _) (an (DEqv.refl _) True.intro)) (an (an (DEqv.refl _) (an (DEqv.refl _) True.intro)) (an (an (DEqv.refl _) (an (DEqv.refl _) True.intro)) True.intro)))))); done)
      | (have e := firstLow_none (by omega) hall; rw [show alloc c leaf it held = (c, 0, 3) by simp [alloc, *]]; first | rfl | exact DEqv.refl _)
      | skip
    have e : firstLow c = k := firstLow_eq (by omega) hall (by simp [takenCell, *])
    have hkc : k < c.length := by omega
    have hal : alloc c leaf it held = ((layIn c leaf it held).set k ⟨1, false, ⟨leaf, it⟩⟩, k, 0) := by simp [alloc, *]
    refine AWP_for tab_ok mixed (fun j => it.length - j) (fun j => j ≤ it.length ∧ (leaf = true → j = 0)) (fun j => [(2, aInts held), (4, .own 1 0), (6, .own 2 0), (10, aint .i64 (k : Nat)), (11, .own 3 0), (12, aint .i64 (j : Nat))])
      (fun j => [some (.cells [.d (dCells c), .d (dint keep)]), some (.cells [.d (dbool leaf), .d (dItems it)]), some (.cells (ti24.zero.map AV.d)), some (.cells [.d (dCells ((it.take j).foldl (heldMore held) c)), .d (dint keep)])]) 0 [0, 1, 2, 3] ?_ ⟨Nat.zero_le _, fun _ => rfl⟩ ?_
    · (refine (an (an rfl (an rfl (an rfl (Nat.le_of_ble_eq_true rfl)))) (an (an (DEqv.refl _) (an (an (an rfl (by with_reducible rfl)) (Nat.le_of_ble_eq_true rfl)) (an (an (an rfl (by with_reducible rfl)) (Nat.le_of_ble_eq_true rfl)) (an (DEqv.refl _) (an (an (an rfl (by with_reducible rfl)) (Nat.le_of_ble_eq_true rfl)) (an (DEqv.refl _) True.intro)))))) (an (an (DEqv.refl _) (an (DEqv.refl _) True.intro)) (an (an (DEqv.refl _) (an (DEqv.refl _) True.intro)) (an (an (DEqv.refl _) (an (DEqv.refl _) True.intro)) (an (an (DEqv.refl _) (an (DEqv.refl _) True.intro)) True.intro)))))))
    · rintro j ⟨hj, hjl⟩
      have hfl := fold_length held (it.take j) c
      have hfr := fun i => fold_ref held i (it.take j) c
      have hus : leaf = false → ∀ i, i < it.length → used c (nth it i).v = true := by
        intro h i hi
        simp only [leads, h, Bool.false_or] at hld
        exact allTo_iff.1 hld i hi
      have hmo : leaf = false → j < it.length → PC Try.prog 74 [aHeap ((it.take j).foldl (heldMore held) c) keep, aint .i64 (nth it j).v] (aHeap (more ((it.take j).foldl (heldMore held) c) (nth it j).v) keep) := by
        intro h1 h2
        have h3 := hus h1 j h2
        simp only [used, decide_eq_true_eq] at h3
        have h4 := hfr (nth it j).v.toNat
        have h5 := hr (nth it j).v.toNat
        simp only [List.length_take] at h4
        exact pc_more _ _ _ (by omega) h3.1 (by omega) (by omega) (by omega)
      have hlay : leaf = true ∨ j = it.length → layIn c leaf it held = (it.take j).foldl (heldMore held) c := by
        rintro (h | rfl)
        · unfold layIn; rw [if_pos h, hjl h]; rfl
        · rw [List.take_length]; unfold layIn; split
          · obtain rfl : it = [] := List.eq_nil_of_length_eq_zero (hjl (by assumption))
            rfl
          · rfl
      (focus (refine (cwp_seq (cwp_seq (cwp_region (sl rfl (sl rfl (sl rfl (sl rfl (an (by with_reducible rfl) (sl rfl (sl rfl (sl rfl (an (fun (hb1 : decide ((↑j : Int) < (↑it.length : Int)) = true) => ?_) (fun (hb6 : decide ((↑j : Int) < (↑it.length : Int)) = false) => ?_))))))))))))); rotate_right; (have hf6 := hb6; simp only [decide_eq_false_iff_not, Int.not_lt] at hf6; refine (sl rfl (sl rfl (oF hb6 (sl rfl (sl rfl (oF hb6 (sl rfl (oF hb6 (sl rfl (seqQ_normal (cwp_cond (oF rfl (cwp_exit (seqQ_exit (seqQ_exit (blockQ_here rfl (seqQ_normal (cwp_seq (cwp_region (sl rfl (sl rfl (sl rfl (an rfl (an rfl (sl rfl (Or.inl (PC.on (pc_set _ _ _ ⟨1, false, ⟨leaf, it⟩⟩ (by omega) (by omega) (by omega)) (sl rfl (sl rfl (an (show [AV.d (dCells ((List.foldl (heldMore held) c (List.take j it)).set (↑k : Int).toNat { ref := 1, pin := false, n := { leaf := leaf, it := it } })), AV.d (dint keep)].length = 2 from rfl) (sl rfl (sl rfl (seqQ_normal (cwp_ret (endQ_ret (an (an (show DEqv (dCells ((List.foldl (heldMore held) c (List.take j it)).set (↑k : Int).toNat { ref := 1, pin := false, n := { leaf := leaf, it := it } })) (dCells (alloc c leaf it held).fst) from ?_) (an (DEqv.refl _) True.intro)) (an (DEqv.int (show (↑k : Int) = (↑(alloc c leaf it held).snd.fst : Int) from ?_)) (an (DEqv.int (show 0 = (↑(alloc c leaf it held).snd.snd : Int) from ?_)) True.intro))))))))))))))))))))))))))))))))))))))); rotate_right; (have hf1 := hb1; simp only [decide_eq_true_eq] at hf1; focus (refine (sl rfl (sl rfl (oT hb1 (sl rfl (sl rfl (oT hb1 (sl rfl (oT hb1 (sl rfl (seqQ_normal (cwp_cond (an (fun (hb2 : (!leaf) = true) => ?_) (fun (hb5 : (!leaf) = false) => ?_))))))))))))); rotate_right; (have hf5 := hb5; simp only [Bool.not_eq_false'] at hf5; refine (cwp_exit (seqQ_exit (seqQ_exit (blockQ_here rfl (seqQ_normal (cwp_seq (cwp_region (sl rfl (sl rfl (sl rfl (an rfl (an rfl (sl rfl (Or.inl (PC.on (pc_set _ _ _ ⟨1, false, ⟨leaf, it⟩⟩ (by omega) (by omega) (by omega)) (sl rfl (sl rfl (an (show [AV.d (dCells ((List.foldl (heldMore held) c (List.take j it)).set (↑k : Int).toNat { ref := 1, pin := false, n := { leaf := leaf, it := it } })), AV.d (dint keep)].length = 2 from rfl) (sl rfl (sl rfl (seqQ_normal (cwp_ret (endQ_ret (an (an (show DEqv (dCells ((List.foldl (heldMore held) c (List.take j it)).set (↑k : Int).toNat { ref := 1, pin := false, n := { leaf := leaf, it := it } })) (dCells (alloc c leaf it held).fst) from ?_) (an (DEqv.refl _) True.intro)) (an (DEqv.int (show (↑k : Int) = (↑(alloc c leaf it held).snd.fst : Int) from ?_)) (an (DEqv.int (show 0 = (↑(alloc c leaf it held).snd.snd : Int) from ?_)) True.intro))))))))))))))))))))))))))); rotate_right; (have hf2 := hb2; simp only [Bool.not_eq_true'] at hf2; focus (refine (cwp_skip (seqQ_normal (cwp_seq (cwp_block (cwp_seq (cwp_region (sl rfl (sl rfl (sl rfl (sl rfl (Exists.intro (j) (an (an (by with_reducible rfl) (an (by omega) (show 2 = 2 from (by with_reducible rfl)))) (sl rfl (sl rfl (sl rfl (Or.inl (PC.on (pc_In _ _ hh) (sl rfl (sl rfl (seqQ_normal (cwp_seq (cwp_region (sl rfl (sl rfl (seqQ_normal (cwp_cond (an (fun (hb3 : (!!allTo held.length fun i => nth held i != (nth it j).v) = true) => ?_) (fun (hb4 : (!!allTo held.length fun i => nth held i != (nth it j).v) = false) => ?_)))))))))))))))))))))))))))); rotate_right; (have hf4 := hb4; simp only [Bool.not_not] at hf4; refine (cwp_skip (blockQ_normal (seqQ_normal (cwp_region (sl rfl (an (by with_reducible rfl) (ez (wrap64 (by omega)) (sl rfl (sl rfl (seqQ_normal (show Exists _ from ?_)))))))))))); rotate_right; (have hf3 := hb3; simp only [Bool.not_not] at hf3; refine (cwp_draw (sl rfl (sl rfl (sl rfl (sl rfl (Exists.intro (j) (an (an (by with_reducible rfl) (an (by omega) (show 2 = 2 from (by with_reducible rfl)))) (sl rfl (sl rfl (sl rfl (Or.inl (PC.on (hmo (by assumption) (by omega)) (sl rfl (an (show [AV.d (dCells (more (List.foldl (heldMore held) c (List.take j it)) (nth it j).v)), AV.d (dint keep)].length = 2 from rfl) (an (by kernel_rfl) (blockQ_normal (seqQ_normal (cwp_region (sl rfl (an (by with_reducible rfl) (ez (wrap64 (by omega)) (sl rfl (sl rfl (seqQ_normal (show Exists _ from ?_))))))))))))))))))))))))))))))))
      all_goals first
        | (refine ⟨j + 1, [0, 1, 2, 3], ⟨by omega, by omega, fun h => by simp_all⟩, ?_⟩; (first | (refine (an (an rfl (an rfl (an rfl (Nat.le_of_ble_eq_true rfl)))) (an (an (DEqv.refl _) (an (an (an rfl (by with_reducible rfl)) (Nat.le_of_ble_eq_true rfl)) (an (an (an rfl (by with_reducible rfl)) (Nat.le_of_ble_eq_true rfl)) (an (DEqv.refl _) (an (an (an rfl (by with_reducible rfl)) (Nat.le_of_ble_eq_true rfl)) (an (DEqv.refl _) True.intro)))))) (an (an (DEqv.refl _) (an (DEqv.refl _) True.intro)) (an (an (DEqv.refl _) (an (DEqv.refl _) True.intro)) (an (an (DEqv.refl _) (an (DEqv.refl _) True.intro)) (an (an (show DEqv (dCells (more (List.foldl (heldMore held) c (List.take j it)) (nth it j).v)) (dCells (List.foldl (heldMore held) c (List.take (j + 1) it))) from ?_) (an (DEqv.refl _) True.intro)) True.intro))))))) | (refine (an (an rfl (an rfl (an rfl (Nat.le_of_ble_eq_true rfl)))) (an (an (DEqv.refl _) (an (an (an rfl (by with_reducible rfl)) (Nat.le_of_ble_eq_true rfl)) (an (an (an rfl (by with_reducible rfl)) (Nat.le_of_ble_eq_true rfl)) (an (DEqv.refl _) (an (an (an rfl (by with_reducible rfl)) (Nat.le_of_ble_eq_true rfl)) (an (DEqv.refl _) True.intro)))))) (an (an (DEqv.refl _) (an (DEqv.refl _) True.intro)) (an (an (DEqv.refl _) (an (DEqv.refl _) True.intro)) (an (an (DEqv.refl _) (an (DEqv.refl _) True.intro)) (an (an (show DEqv (dCells (List.foldl (heldMore held) c (List.take j it))) (dCells (List.foldl (heldMore held) c (List.take (j + 1) it))) from ?_) (an (DEqv.refl _) True.intro)) True.intro)))))))); rw [fold_take (by omega)]; unfold heldMore; simp only [inB, *]; exact DEqv.refl _)
        | (rw [hal]; done)
        | (rw [hal]; rfl)
        | (rw [hal, hlay (.inl (by assumption))]; exact DEqv.refl _)
        | (rw [hal, hlay (.inr (by omega))]; exact DEqv.refl _)
end Go.Proofs.Abs
