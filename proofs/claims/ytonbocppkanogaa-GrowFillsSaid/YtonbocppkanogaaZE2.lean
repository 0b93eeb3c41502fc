/- The heap as the program has it: cells of its own; a node that is laid. -/
import Derived.Test.YtonbocppkanogaaZE1
set_option linter.all false
namespace Go.Proofs.Abs
open Go Go.RowKit Go.Proofs
attribute [local irreducible] cwp seqQ blockQ endQ DEqv LEqv AWP drawOK

/-- A heap that is changed: its cells, and the heap over them. -/
def arrC (c : List Cell) : Blk := .arr 4 c.length fun i => dCell (nth c i)
def memW (c : List Cell) (keep : Int) : Mem := [some (arrC c), some (.cells [.row 0 4 0 c.length, .d (dint keep)])]

theorem LEqv_setF {c : List Cell} {p i : Nat} {x : Cell} {r : List D} (hp : p < c.length) (hr : LEqv r (dCell x)) : LEqv (setF (fun i => dCell (nth c i)) p r i) (dCell (nth (c.set p x) i)) := by
  simp only [setF, nth_set _ _ _ _ hp]
  by_cases e : i = p
  · rw [if_pos e, if_pos e]; exact hr
  · rw [if_neg e, if_neg e]; exact LEqv.refl _

theorem setF_len {f : Nat → List D} {q n : Nat} {x : List D} (h : ∀ i, (f i).length ≤ n) (hx : x.length ≤ n) (i : Nat) : (setF f q x i).length ≤ n := by
  unfold setF; split
  · exact hx
  · exact h i
theorem setF_setF (f : Nat → List D) (q : Nat) (x y : List D) : setF (setF f q x) q y = setF f q y := by
  funext i
  unfold setF
  split <;> rfl

theorem ac_own (c : List Cell) (keep : Int) (hc : c.length ≤ 2000) : AC Try.prog 84 [aHeap c keep] [] (.own 1 0) (memW c keep) := by
  refine AC_of tab_ok mixed (Try.func84) rfl (by kernel_rfl) (Nat.le_of_ble_eq_true rfl) ?_ (Nat.le_of_ble_eq_true rfl)
  (refine (cwp_seq (cwp_region (sl rfl (sl rfl (seqQ_normal (cwp_seq (cwp_region (sl rfl (sl rfl (sl rfl (Exists.intro (c.length) (Exists.intro (c.length) (an (an (by with_reducible rfl) (an (by with_reducible rfl) (an (by omega) (an (show c.length * 48 ≤ big from (by unfold big; omega)) (an (by unfold big; omega) (show 0 < 4 from (Nat.le_of_ble_eq_true rfl))))))) (sl rfl (sl rfl (seqQ_normal (cwp_seq (cwp_region (sl rfl (sl rfl (sl rfl (an (an (Or.inr (show 4 = 4 from (by with_reducible rfl))) (fun i => (fun hi => (show ((fun i => dCell (nth c i)) i).length = 4 from rfl)))) (an (an (show 4 = 4 from (by with_reducible rfl)) (an (show 4 = 4 from (by with_reducible rfl)) (an (by omega) (fun i => (fun hi => (show ((fun x => ti79.zero) i).length ≤ 4 from (Nat.le_of_ble_eq_true rfl))))))) (sl rfl (seqQ_normal (cwp_seq (cwp_region (sl rfl (sl rfl (sl rfl (an (show [AV.row (0 + 1) 4 0 c.length].length = 1 from rfl) (an rfl (sl rfl (an (show [AV.row (0 + 1) 4 0 c.length, AV.d (dint keep)].length = 2 from rfl) (sl rfl (sl rfl (sl rfl (seqQ_normal (cwp_ret (endQ_ret (show Exists _ from ?_))))))))))))))))))))))))))))))))))))))))))
  refine ⟨[1, 2], ?_⟩
  (refine (an (an rfl (an rfl (an rfl (Nat.le_of_ble_eq_true rfl)))) (an (an (an (an rfl (by with_reducible rfl)) (Nat.le_of_ble_eq_true rfl)) True.intro) (an (an (an (show 4 = 4 from (by with_reducible rfl)) (by with_reducible rfl)) (fun i => (fun hi => (show LEqv (putF 0 (min c.length c.length) (fun x => ti79.zero) (fun i => dCell (nth c i)) i) (dCell (nth c i)) from ?_)))) (an (an (an (an rfl (an (show 4 = 4 from (by with_reducible rfl)) (an (by with_reducible rfl) (by with_reducible rfl)))) (Nat.le_of_ble_eq_true rfl)) (an (DEqv.refl _) True.intro)) True.intro)))))
  exact LEqv.of_eq (by simp only [putF]; rw [if_pos (by omega)]; simp)

theorem ac_hold (c : List Cell) (keep p : Int) (h0 : 0 ≤ p) (h1 : p < c.length) (h2 : (nth c p.toNat).ref ≤ 4294967296) (h3 : 0 ≤ (nth c p.toNat).ref) :
    AC Try.prog 88 [.own 1 0, aint .i64 p] (memW c keep) (.tup []) (memW (more c p) keep) := by
  refine AC_of tab_ok mixed (Try.func88) rfl (by kernel_rfl) (Nat.le_of_ble_eq_true rfl) ?_ (Nat.le_of_ble_eq_true rfl)
  (refine (cwp_region (sl rfl (sl rfl (sl rfl (sl rfl (sl rfl (sl rfl (Exists.intro (p.toNat) (an (an (by omega) (an (by omega) (an (by omega) (an (show 4 = 4 from (by with_reducible rfl)) (by with_reducible rfl))))) (sl rfl (an (an (by with_reducible rfl) (by omega)) (sl rfl (an (an (by with_reducible rfl) (by omega)) (sl rfl (an (by with_reducible rfl) (ez (wrap64 (by omega)) (sl rfl (Exists.intro (p.toNat) (an (an (by omega) (an (by omega) (an (by omega) (an (show 4 = 4 from (by with_reducible rfl)) (by with_reducible rfl))))) (sl rfl (an (an (by with_reducible rfl) (by omega)) (sl rfl (an (show [AV.d (D.v (Value.int IntKind.i64 ((nth c p.toNat).ref + 1)))].length = 1 from rfl) (an (an (an (by with_reducible rfl) (by omega)) (fun i => (fun hi => (Nat.le_of_ble_eq_true rfl)))) (endQ_normal (Exists.intro [0, 1] (an (an rfl (an rfl (an rfl (Nat.le_of_ble_eq_true rfl)))) (an (an True.intro True.intro) (an (an (an (by with_reducible rfl) (show c.length = (more c p).length from ?_)) (fun i => (fun hi => (show LEqv (setF (fun i => dCell (nth c i)) p.toNat [D.v (Value.int IntKind.i64 ((nth c p.toNat).ref + 1)), dbool (nth c p.toNat).pin, dbool (nth c p.toNat).n.leaf, dItems (nth c p.toNat).n.it] i) (dCell (nth (more c p) i)) from ?_)))) (an (an (an (an rfl (an (by with_reducible rfl) (an (by with_reducible rfl) (show c.length = (more c p).length from ?_)))) (Nat.le_of_ble_eq_true rfl)) (an (DEqv.refl _) True.intro)) True.intro)))))))))))))))))))))))))))))))
  · exact (more_length c p).symm
  · exact LEqv_setF (by omega) (LEqv.refl _)
  · exact (more_length c p).symm

/-- The same, beside what the closure of Alloc has caught: what is held, and the heap. -/
def memA (held : List Int) (c : List Cell) (keep : Int) : Mem := [some (.cells [.d (dInts held)]), some (.cells [.own 3 0]), some (arrC c), some (.cells [.row 2 4 0 c.length, .d (dint keep)])]

theorem ac_AllocIn (held : List Int) (c : List Cell) (keep p : Int) (hh : held.length ≤ big) (h0 : 0 ≤ p) (h1 : p < c.length) (h2 : (nth c p.toNat).ref ≤ 4294967296) (h3 : 0 ≤ (nth c p.toNat).ref) :
    AC Try.prog 86 [aint .i64 p, .own 0 0, .own 1 0] (memA held c keep) (.tup []) (memA held (if inB held p then c else more c p) keep) := by
  have g1 := pc_ContainsInt held p hh
  have g2 := ac_hold c keep p h0 h1 h2 h3
  cases hb : inB held p with
  | true =>
    rw [hb] at g1
    rw [if_pos rfl]
    refine AC_of tab_ok mixed (Try.func86) rfl (by kernel_rfl) (Nat.le_of_ble_eq_true rfl) ?_ (Nat.le_of_ble_eq_true rfl)
    (refine (cwp_seq (cwp_region (sl rfl (sl rfl (Or.inl (PC.on (g1) (sl rfl (sl rfl (seqQ_normal (cwp_cond (oF rfl (cwp_skip (endQ_normal (Exists.intro [0, 1, 2, 3] (an (an rfl (an rfl (an rfl (Nat.le_of_ble_eq_true rfl)))) (an (an True.intro True.intro) (an (an (DEqv.refl _) True.intro) (an (an (an (an rfl (by with_reducible rfl)) (Nat.le_of_ble_eq_true rfl)) True.intro) (an (an (an (by with_reducible rfl) (by with_reducible rfl)) (fun i => (fun hi => (LEqv.refl _)))) (an (an (an (an rfl (an (by with_reducible rfl) (an (by with_reducible rfl) (by with_reducible rfl)))) (Nat.le_of_ble_eq_true rfl)) (an (DEqv.refl _) True.intro)) True.intro)))))))))))))))))))))
  | false =>
    rw [hb] at g1
    rw [if_neg (by decide)]
    refine AC_of tab_ok mixed (Try.func86) rfl (by kernel_rfl) (Nat.le_of_ble_eq_true rfl) ?_ (Nat.le_of_ble_eq_true rfl)
    (refine (cwp_seq (cwp_region (sl rfl (sl rfl (Or.inl (PC.on (g1) (sl rfl (sl rfl (seqQ_normal (cwp_cond (oT rfl (cwp_region (sl rfl (sl rfl (Framed.on (g2.under [2, 3]) rfl (an (an rfl (an rfl (an rfl (Nat.le_of_ble_eq_true rfl)))) (an (an (an (an rfl (by with_reducible rfl)) (Nat.le_of_ble_eq_true rfl)) (an (DEqv.refl _) True.intro)) (an (an (an (by with_reducible rfl) (by with_reducible rfl)) (fun i => (fun hi => (LEqv.refl _)))) (an (an (an (an rfl (an (by with_reducible rfl) (an (by with_reducible rfl) (by with_reducible rfl)))) (Nat.le_of_ble_eq_true rfl)) (an (DEqv.refl _) True.intro)) True.intro)))) (sl rfl (endQ_normal (Exists.intro [0, 1, 2, 3] (an (an rfl (an rfl (an rfl (Nat.le_of_ble_eq_true rfl)))) (an (an True.intro True.intro) (an (an (DEqv.refl _) True.intro) (an (an (an (an rfl (by with_reducible rfl)) (Nat.le_of_ble_eq_true rfl)) True.intro) (an (an (an (by with_reducible rfl) (by with_reducible rfl)) (fun i => (fun hi => (LEqv.refl _)))) (an (an (an (an rfl (an (by with_reducible rfl) (an (by with_reducible rfl) (by with_reducible rfl)))) (Nat.le_of_ble_eq_true rfl)) (an (DEqv.refl _) True.intro)) True.intro)))))))))))))))))))))))))

theorem ac_eachA (held : List Int) (c : List Cell) (keep : Int) (leaf : Bool) (it : List Item) (hh : held.length ≤ big) (hc : c.length ≤ 2000) (hr : ∀ i, 0 ≤ (nth c i).ref ∧ (nth c i).ref ≤ 4000000000) (hl : it.length ≤ 1000)
    (hus : leaf = false → ∀ i, i < it.length → used c (nth it i).v = true) :
    AC Try.prog 85 [.own 3 0, aNode leaf it, .fn (.func 86) [] [.own 0 0, .own 1 0]] (memA held c keep) (.tup []) (memA held (layIn c leaf it held) keep) := by
  cases leaf with
  | true =>
    refine AC_of tab_ok mixed (Try.func85) rfl (by kernel_rfl) (Nat.le_of_ble_eq_true rfl) ?_ (Nat.le_of_ble_eq_true rfl)
    (refine (cwp_seq (cwp_region (sl rfl (seqQ_normal (cwp_seq (cwp_seq (cwp_region (sl rfl (sl rfl (seqQ_normal (cwp_cond (oT rfl (cwp_ret (seqQ_ret (endQ_ret (Exists.intro [0, 1, 2, 3] (an (an rfl (an rfl (an rfl (Nat.le_of_ble_eq_true rfl)))) (an (an True.intro True.intro) (an (an (DEqv.refl _) True.intro) (an (an (an (an rfl (by with_reducible rfl)) (Nat.le_of_ble_eq_true rfl)) True.intro) (an (an (an (by with_reducible rfl) rfl) (fun i => (fun hi => (LEqv.refl _)))) (an (an (an (an rfl (an (by with_reducible rfl) (an (by with_reducible rfl) rfl))) (Nat.le_of_ble_eq_true rfl)) (an (DEqv.refl _) True.intro)) True.intro)))))))))))))))))))))))
  | false =>
    have hus := hus rfl
    have e : layIn c false it held = it.foldl (heldMore held) c := rfl
    rw [e]
    refine AC_of tab_ok mixed (Try.func85) rfl (by kernel_rfl) (Nat.le_of_ble_eq_true rfl) ?_ (Nat.le_of_ble_eq_true rfl)
    (refine (cwp_seq (cwp_region (sl rfl (seqQ_normal (cwp_seq (cwp_seq (cwp_region (sl rfl (sl rfl (seqQ_normal (cwp_cond (oF rfl (cwp_skip (seqQ_normal (cwp_seq (cwp_region (sl rfl (sl rfl (sl rfl (sl rfl (seqQ_normal (cwp_block (cwp_loop ?_))))))))))))))))))))))))
    refine AWP_for tab_ok mixed (fun k => it.length - k) (fun k => k ≤ it.length)
      (fun k => [(2, .fn (.func 86) [] [.own 0 0, .own 1 0]), (11, aItems it), (12, aint .i64 it.length), (13, aint .i64 (k : Nat))])
      (fun k => memA held ((it.take k).foldl (heldMore held) c) keep) 0 [0, 1, 2, 3] ?_ (Nat.zero_le _) ?_
    · (refine (an (an rfl (an rfl (an rfl (Nat.le_of_ble_eq_true rfl)))) (an (an (an (by with_reducible rfl) (an True.intro (an (an (an rfl (by with_reducible rfl)) (Nat.le_of_ble_eq_true rfl)) (an (an (an rfl (by with_reducible rfl)) (Nat.le_of_ble_eq_true rfl)) True.intro)))) (an (DEqv.refl _) (an (DEqv.refl _) (an (DEqv.refl _) True.intro)))) (an (an (DEqv.refl _) True.intro) (an (an (an (an rfl (by with_reducible rfl)) (Nat.le_of_ble_eq_true rfl)) True.intro) (an (an (an (by with_reducible rfl) rfl) (fun i => (fun hi => (LEqv.refl _)))) (an (an (an (an rfl (an (by with_reducible rfl) (an (by with_reducible rfl) rfl))) (Nat.le_of_ble_eq_true rfl)) (an (DEqv.refl _) True.intro)) True.intro)))))))
    · intro k hk
      have hfl := fold_length held (it.take k) c
      have hfr := fun i => fold_ref held i (it.take k) c
      by_cases hlt : k < it.length
      · have h3 := hus k hlt
        simp only [used, decide_eq_true_eq] at h3
        have h4 := hfr (nth it k).v.toNat
        have h5 := hr (nth it k).v.toNat
        simp only [List.length_take] at h4
        have g := ac_AllocIn held ((it.take k).foldl (heldMore held) c) keep (nth it k).v hh h3.1 (by omega) (by omega) (by omega)
        (focus (refine (cwp_seq (cwp_region (an (by with_reducible rfl) (sl rfl (seqQ_normal (cwp_seq (cwp_cond (an (fun (hb1 : decide ((↑k : Int) < (↑it.length : Int)) = true) => ?_) (fun (hb2 : decide ((↑k : Int) < (↑it.length : Int)) = false) => ?_))))))))); rotate_right; (have hf2 := hb2; simp only [decide_eq_false_iff_not, Int.not_lt] at hf2; exfalso; omega); rotate_right; (have hf1 := hb1; simp only [decide_eq_true_eq] at hf1; refine (cwp_skip (seqQ_normal (cwp_seq (cwp_block (cwp_seq (cwp_region (Exists.intro (k) (an (an (by with_reducible rfl) (an (by assumption) (show 2 = 2 from (by with_reducible rfl)))) (sl rfl (sl rfl (sl rfl (an (show [AV.d (dint (nth it k).k), AV.d (dint (nth it k).v)].length = 2 from rfl) (seqQ_normal (cwp_region (sl rfl (sl rfl (sl rfl (Framed.on (g.under [0, 1, 2, 3]) rfl (an (an rfl (an rfl (an rfl (Nat.le_of_ble_eq_true rfl)))) (an (an (DEqv.refl _) (an (an (an rfl (by with_reducible rfl)) (Nat.le_of_ble_eq_true rfl)) (an (an (an rfl (by with_reducible rfl)) (Nat.le_of_ble_eq_true rfl)) True.intro))) (an (an (DEqv.refl _) True.intro) (an (an (an (an rfl (by with_reducible rfl)) (Nat.le_of_ble_eq_true rfl)) True.intro) (an (an (an (by with_reducible rfl) (by with_reducible rfl)) (fun i => (fun hi => (LEqv.refl _)))) (an (an (an (an rfl (an (by with_reducible rfl) (an (by with_reducible rfl) (by with_reducible rfl)))) (Nat.le_of_ble_eq_true rfl)) (an (DEqv.refl _) True.intro)) True.intro)))))) (sl rfl (blockQ_normal (seqQ_normal (cwp_region (an (by with_reducible rfl) (ez (wrap64 (by omega)) (sl rfl (sl rfl (seqQ_normal (show Exists _ from ?_)))))))))))))))))))))))))))))))
        refine ⟨k + 1, [0, 1, 2, 3], ⟨by omega, by omega⟩, ?_⟩
        rw [show (it.take (k + 1)).foldl (heldMore held) c = if inB held (nth it k).v = true then (it.take k).foldl (heldMore held) c else more ((it.take k).foldl (heldMore held) c) (nth it k).v from fold_take hlt]
        (refine (an (an rfl (an rfl (an rfl (Nat.le_of_ble_eq_true rfl)))) (an (an (an (by with_reducible rfl) (an True.intro (an (an (an rfl (by with_reducible rfl)) (Nat.le_of_ble_eq_true rfl)) (an (an (an rfl (by with_reducible rfl)) (Nat.le_of_ble_eq_true rfl)) True.intro)))) (an (DEqv.refl _) (an (DEqv.refl _) (an (DEqv.refl _) True.intro)))) (an (an (DEqv.refl _) True.intro) (an (an (an (an rfl (by with_reducible rfl)) (Nat.le_of_ble_eq_true rfl)) True.intro) (an (an (an (by with_reducible rfl) (by with_reducible rfl)) (fun i => (fun hi => (LEqv.refl _)))) (an (an (an (an rfl (an (by with_reducible rfl) (an (by with_reducible rfl) (by with_reducible rfl)))) (Nat.le_of_ble_eq_true rfl)) (an (DEqv.refl _) True.intro)) True.intro)))))))
      · rw [show it.take k = it by rw [show k = it.length by omega]; exact List.take_length]
        (focus (refine (cwp_seq (cwp_region (an (by with_reducible rfl) (sl rfl (seqQ_normal (cwp_seq (cwp_cond (an (fun (hb1 : decide ((↑k : Int) < (↑it.length : Int)) = true) => ?_) (fun (hb2 : decide ((↑k : Int) < (↑it.length : Int)) = false) => ?_))))))))); rotate_right; (have hf2 := hb2; simp only [decide_eq_false_iff_not, Int.not_lt] at hf2; refine (cwp_exit (seqQ_exit (seqQ_exit (blockQ_here rfl (endQ_normal (Exists.intro [0, 1, 2, 3] (an (an rfl (an rfl (an rfl (Nat.le_of_ble_eq_true rfl)))) (an (an True.intro True.intro) (an (an (DEqv.refl _) True.intro) (an (an (an (an rfl (by with_reducible rfl)) (Nat.le_of_ble_eq_true rfl)) True.intro) (an (an (an (by with_reducible rfl) (by with_reducible rfl)) (fun i => (fun hi => (LEqv.refl _)))) (an (an (an (an rfl (an (by with_reducible rfl) (an (by with_reducible rfl) (by with_reducible rfl)))) (Nat.le_of_ble_eq_true rfl)) (an (DEqv.refl _) True.intro)) True.intro))))))))))))); rotate_right; (have hf1 := hb1; simp only [decide_eq_true_eq] at hf1; exfalso; omega)))

theorem firstLow_at {c : List Cell} (h : firstLow c < c.length) : takenCell (nth c (firstLow c)) = false ∧ ∀ j, j < firstLow c → takenCell (nth c j) = true := by
  have := (List.findIdx_eq h).1 rfl
  refine ⟨by rw [nth_eq h]; simpa using this.1, fun j hj => ?_⟩
  have := this.2 j hj
  rw [nth_eq (by omega)]
  simpa using this
theorem isFree_taken {x : Cell} (h : 0 ≤ x.ref) : isFree x = !takenCell x := by
  simp only [isFree, takenCell, Bool.not_or]
  congr 1
  by_cases e : x.ref = 0
  · simp [e]
  · have : 0 < x.ref := by omega
    simp [e, this]
theorem firstIs_free {c : List Cell} (h : ∀ i, 0 ≤ (nth c i).ref) : firstIs isFree c = if firstLow c < c.length then (firstLow c : Int) else -1 := by
  by_cases hf : firstLow c < c.length
  · rw [if_pos hf]
    obtain ⟨h1, h2⟩ := firstLow_at hf
    exact firstIs_at hf (allTo_iff.2 fun i hi => by rw [isFree_taken (h i), h2 i hi]; rfl) (by rw [isFree_taken (h _), h1]; rfl)
  · rw [if_neg hf]
    refine firstIs_no (Nat.le_refl _) (allTo_iff.2 fun i hi => ?_)
    rw [isFree_taken (h i), Bool.not_not]
    unfold firstLow at hf
    rw [List.findIdx_lt_length] at hf
    cases ht : takenCell (nth c i) with
    | true => rfl
    | false => exact absurd ⟨_, List.getElem_mem hi, by rw [← nth_eq hi, ht]; rfl⟩ hf

theorem pc_AllocP (c : List Cell) (keep : Int) (leaf : Bool) (it : List Item) (held : List Int) (hc : c.length ≤ 2000) (hr : ∀ i, 0 ≤ (nth c i).ref ∧ (nth c i).ref ≤ 4000000000) (hl : it.length ≤ big) (hh : held.length ≤ big) :
    PC Try.prog 50 [aHeap c keep, aNode leaf it, aInts held] (.tup [aHeap (alloc c leaf it held).1 keep, aint .i64 (alloc c leaf it held).2.1, aint .i64 (alloc c leaf it held).2.2]) := by
  have h1 := pc_NodeRight leaf it
  have h2 := pc_leads81 c keep leaf it hl
  have h3 := pc_IndexFuncCell c (by unfold big; omega)
  have h4 := ac_own c keep hc
  cases hrn : rightNode it with
  | false =>
    rw [hrn] at h1
    rw [show alloc c leaf it held = (c, 0, 1) by simp [alloc, *]]
    refine PC_of tab_ok mixed (Try.func50) rfl (by kernel_rfl) (Nat.le_of_ble_eq_true rfl) rfl ?_
    (refine (cwp_seq (cwp_region (sl rfl (sl rfl (sl rfl (sl rfl (sl rfl (sl rfl (seqQ_normal (cwp_seq (cwp_seq (cwp_region (sl rfl (Or.inl (PC.on (h1) (sl rfl (sl rfl (sl rfl (sl rfl (uT rfl (sl rfl (sl rfl (uT rfl (sl rfl (sl rfl (uT rfl (sl rfl (sl rfl (uT rfl (sl rfl (oT rfl (sl rfl (seqQ_normal (cwp_cond (oT rfl (cwp_seq (cwp_region (sl rfl (an (show [id (AV.d (dCells c)), id (AV.d (dint keep))].length = 2 from rfl) (sl rfl (sl rfl (seqQ_normal (cwp_ret (seqQ_ret (endQ_ret (an (an (DEqv.refl _) (an (DEqv.refl _) True.intro)) (an (DEqv.refl _) (an (DEqv.refl _) True.intro)))))))))))))))))))))))))))))))))))))))))))))))))
  | true =>
    rw [hrn] at h1
    cases hld : leads c leaf it with
    | false =>
      rw [hld] at h2
      rw [show alloc c leaf it held = (c, 0, 1) by simp [alloc, *]]
      refine PC_of tab_ok mixed (Try.func50) rfl (by kernel_rfl) (Nat.le_of_ble_eq_true rfl) rfl ?_
      (refine (cwp_seq (cwp_region (sl rfl (sl rfl (sl rfl (sl rfl (sl rfl (sl rfl (seqQ_normal (cwp_seq (cwp_seq (cwp_region (sl rfl (Or.inl (PC.on (h1) (sl rfl (sl rfl (sl rfl (sl rfl (uF rfl (sl rfl (sl rfl (uF rfl (sl rfl (sl rfl (uF rfl (Or.inl (PC.on (h2) (sl rfl (sl rfl (uF rfl (sl rfl (oF rfl (sl rfl (seqQ_normal (cwp_cond (oT rfl (cwp_seq (cwp_region (sl rfl (an (show [id (AV.d (dCells c)), id (AV.d (dint keep))].length = 2 from rfl) (sl rfl (sl rfl (seqQ_normal (cwp_ret (seqQ_ret (endQ_ret (an (an (DEqv.refl _) (an (DEqv.refl _) True.intro)) (an (DEqv.refl _) (an (DEqv.refl _) True.intro)))))))))))))))))))))))))))))))))))))))))))))))))))
    | true =>
      rw [hld] at h2
      rw [firstIs_free fun i => (hr i).1] at h3
      by_cases hf : firstLow c < c.length
      · rw [if_pos hf] at h3
        rw [show alloc c leaf it held = ((layIn c leaf it held).set (firstLow c) ⟨1, false, ⟨leaf, it⟩⟩, firstLow c, 0) by simp [alloc, *]]
        have hit : it.length ≤ 4 := (rightNode_len hrn).2
        have h5 := ac_eachA held c keep leaf it hh hc hr (by omega) (fun hlf i hi => by
          simp only [leads, hlf, Bool.false_or] at hld
          exact allTo_iff.1 hld i hi)
        have hll := layIn_length c leaf it held
        refine PC_of tab_ok mixed (Try.func50) rfl (by kernel_rfl) (Nat.le_of_ble_eq_true rfl) rfl ?_
        (focus (refine (cwp_seq (cwp_region (sl rfl (sl rfl (sl rfl (sl rfl (sl rfl (sl rfl (seqQ_normal (cwp_seq (cwp_seq (cwp_region (sl rfl (Or.inl (PC.on (h1) (sl rfl (sl rfl (sl rfl (sl rfl (uF rfl (sl rfl (sl rfl (uF rfl (sl rfl (sl rfl (uF rfl (Or.inl (PC.on (h2) (sl rfl (sl rfl (uF rfl (sl rfl (oF rfl (sl rfl (seqQ_normal (cwp_cond (oF rfl (cwp_skip (seqQ_normal (cwp_seq (cwp_region (sl rfl (sl rfl (Or.inl (PC.on (h3) (sl rfl (sl rfl (seqQ_normal (cwp_seq (cwp_seq (cwp_region (sl rfl (an (by with_reducible rfl) (sl rfl (seqQ_normal (cwp_cond (an (fun (hb1 : decide ((↑(firstLow c) : Int) < 0) = true) => ?_) (fun (hb2 : decide ((↑(firstLow c) : Int) < 0) = false) => ?_)))))))))))))))))))))))))))))))))))))))))))))))))))))))))); rotate_right; (have hf2 := hb2; simp only [decide_eq_false_iff_not, Int.not_lt] at hf2; refine (cwp_skip (seqQ_normal (cwp_seq (cwp_region (sl rfl (Or.inr (Framed.on (h4.under []) rfl (an (an (by omega) (an rfl (an rfl (Nat.le_of_ble_eq_true rfl)))) (an (an (an (DEqv.refl _) (an (DEqv.refl _) True.intro)) True.intro) True.intro)) (sl rfl (sl rfl (an (show [AV.own (rn (names2 [] (memW c keep) [some (Blk.cells [AV.d (dCells c), AV.d (dint keep)]), some (Blk.cells [AV.d (dbool leaf), AV.d (dItems it)]), some (Blk.cells [AV.d (dInts held)]), some (Blk.cells [AV.d (D.sl true 0 0 fun x => []), AV.d (D.v (Value.int IntKind.i64 0))])]) 1) 0].length = 1 from rfl) (seqQ_normal (cwp_seq (cwp_region (sl rfl (sl rfl (sl rfl (Framed.on (h5.under [2, 6, 4, 5]) rfl (an (an rfl (an rfl (an rfl (Nat.le_of_ble_eq_true rfl)))) (an (an (an (an rfl (by with_reducible rfl)) (Nat.le_of_ble_eq_true rfl)) (an (an (DEqv.refl _) (an (DEqv.refl _) True.intro)) (an (an (by with_reducible rfl) (an True.intro (an (an (an rfl (by with_reducible rfl)) (Nat.le_of_ble_eq_true rfl)) (an (an (an rfl (by with_reducible rfl)) (Nat.le_of_ble_eq_true rfl)) True.intro)))) True.intro))) (an (an (DEqv.refl _) True.intro) (an (an (an (an rfl (by with_reducible rfl)) (Nat.le_of_ble_eq_true rfl)) True.intro) (an (an (an (by with_reducible rfl) (by with_reducible rfl)) (fun i => (fun hi => (LEqv.refl _)))) (an (an (an (an rfl (an (by with_reducible rfl) (an (by with_reducible rfl) (by with_reducible rfl)))) (Nat.le_of_ble_eq_true rfl)) (an (DEqv.refl _) True.intro)) True.intro)))))) (sl rfl (seqQ_normal (cwp_seq (cwp_draw (sl rfl (sl rfl (sl rfl (sl rfl (sl rfl (sl rfl (sl rfl (an rfl (an rfl (sl rfl (Exists.intro (firstLow c) (an (an (by with_reducible rfl) (an (by omega) (an (by omega) (an (show 4 = 4 from (by with_reducible rfl)) (by with_reducible rfl))))) (sl rfl (an (show [AV.d (D.v (Value.int IntKind.i64 1)), AV.d (D.v (Value.bool false)), id (AV.d (dbool leaf)), id (AV.d (dItems it))].length = 4 from rfl) (an (an (an (by with_reducible rfl) (by omega)) (fun i => (fun hi => (Nat.le_of_ble_eq_true rfl)))) (an (by kernel_rfl) (seqQ_normal (cwp_seq (cwp_region (sl rfl (sl rfl (sl rfl (sl rfl (sl rfl (an (show [id (ren2 (names2 [2, 6, 4, 5] (memA held (layIn c leaf it held) keep) [some (Blk.cells [AV.d (dCells c), AV.d (dint keep)]), some (Blk.cells [AV.d (dbool leaf), AV.d (dItems it)]), some (Blk.cells [AV.d (dInts held)]), some (Blk.cells [AV.d (D.sl true 0 0 fun x => []), AV.d (D.v (Value.int IntKind.i64 0))]), renO (names2 [] (memW c keep) [some (Blk.cells [AV.d (dCells c), AV.d (dint keep)]), some (Blk.cells [AV.d (dbool leaf), AV.d (dItems it)]), some (Blk.cells [AV.d (dInts held)]), some (Blk.cells [AV.d (D.sl true 0 0 fun x => []), AV.d (D.v (Value.int IntKind.i64 0))])]) (some (arrC c)), renO (names2 [] (memW c keep) [some (Blk.cells [AV.d (dCells c), AV.d (dint keep)]), some (Blk.cells [AV.d (dbool leaf), AV.d (dItems it)]), some (Blk.cells [AV.d (dInts held)]), some (Blk.cells [AV.d (D.sl true 0 0 fun x => []), AV.d (D.v (Value.int IntKind.i64 0))])]) (some (Blk.cells [AV.row 0 4 0 c.length, AV.d (dint keep)])), some (Blk.cells [AV.own (rn (names2 [] (memW c keep) [some (Blk.cells [AV.d (dCells c), AV.d (dint keep)]), some (Blk.cells [AV.d (dbool leaf), AV.d (dItems it)]), some (Blk.cells [AV.d (dInts held)]), some (Blk.cells [AV.d (D.sl true 0 0 fun x => []), AV.d (D.v (Value.int IntKind.i64 0))])]) 1) 0])]) (AV.row 2 4 0 (layIn c leaf it held).length)), id (ren2 (names2 [2, 6, 4, 5] (memA held (layIn c leaf it held) keep) [some (Blk.cells [AV.d (dCells c), AV.d (dint keep)]), some (Blk.cells [AV.d (dbool leaf), AV.d (dItems it)]), some (Blk.cells [AV.d (dInts held)]), some (Blk.cells [AV.d (D.sl true 0 0 fun x => []), AV.d (D.v (Value.int IntKind.i64 0))]), renO (names2 [] (memW c keep) [some (Blk.cells [AV.d (dCells c), AV.d (dint keep)]), some (Blk.cells [AV.d (dbool leaf), AV.d (dItems it)]), some (Blk.cells [AV.d (dInts held)]), some (Blk.cells [AV.d (D.sl true 0 0 fun x => []), AV.d (D.v (Value.int IntKind.i64 0))])]) (some (arrC c)), renO (names2 [] (memW c keep) [some (Blk.cells [AV.d (dCells c), AV.d (dint keep)]), some (Blk.cells [AV.d (dbool leaf), AV.d (dItems it)]), some (Blk.cells [AV.d (dInts held)]), some (Blk.cells [AV.d (D.sl true 0 0 fun x => []), AV.d (D.v (Value.int IntKind.i64 0))])]) (some (Blk.cells [AV.row 0 4 0 c.length, AV.d (dint keep)])), some (Blk.cells [AV.own (rn (names2 [] (memW c keep) [some (Blk.cells [AV.d (dCells c), AV.d (dint keep)]), some (Blk.cells [AV.d (dbool leaf), AV.d (dItems it)]), some (Blk.cells [AV.d (dInts held)]), some (Blk.cells [AV.d (D.sl true 0 0 fun x => []), AV.d (D.v (Value.int IntKind.i64 0))])]) 1) 0])]) (AV.d (dint keep)))].length = 2 from rfl) (sl rfl (sl rfl (seqQ_normal (cwp_ret (endQ_ret (an (an (an (by with_reducible rfl) (an (an (by with_reducible rfl) (an (by omega) (an (show (layIn c leaf it held).length = ((layIn c leaf it held).set (firstLow c) { ref := 1, pin := false, n := { leaf := leaf, it := it } }, firstLow c, 0).fst.length from ?_) (Or.inr (by with_reducible rfl))))) (fun i => (fun hi => (show LEqv (setF (fun i => dCell (nth (layIn c leaf it held) i)) (firstLow c) [D.v (Value.int IntKind.i64 1), D.v (Value.bool false), dbool leaf, dItems it] (0 + i)) (dCell (nth ((layIn c leaf it held).set (firstLow c) { ref := 1, pin := false, n := { leaf := leaf, it := it } }, firstLow c, 0).fst i)) from ?_))))) (an (DEqv.refl _) True.intro)) (an (DEqv.refl _) (an (DEqv.refl _) True.intro))))))))))))))))))))))))))))))))))))))))))))))))))))))); rotate_right; (have hf1 := hb1; simp only [decide_eq_true_eq] at hf1; exfalso; omega)))
        · simp [hll]
        · rw [Nat.zero_add]; exact LEqv_setF (x := ⟨1, false, ⟨leaf, it⟩⟩) (by omega) (LEqv.refl _)
      · rw [if_neg hf] at h3
        rw [show alloc c leaf it held = (c, 0, 3) by simp [alloc, *]]
        refine PC_of tab_ok mixed (Try.func50) rfl (by kernel_rfl) (Nat.le_of_ble_eq_true rfl) rfl ?_
        (refine (cwp_seq (cwp_region (sl rfl (sl rfl (sl rfl (sl rfl (sl rfl (sl rfl (seqQ_normal (cwp_seq (cwp_seq (cwp_region (sl rfl (Or.inl (PC.on (h1) (sl rfl (sl rfl (sl rfl (sl rfl (uF rfl (sl rfl (sl rfl (uF rfl (sl rfl (sl rfl (uF rfl (Or.inl (PC.on (h2) (sl rfl (sl rfl (uF rfl (sl rfl (oF rfl (sl rfl (seqQ_normal (cwp_cond (oF rfl (cwp_skip (seqQ_normal (cwp_seq (cwp_region (sl rfl (sl rfl (Or.inl (PC.on (h3) (sl rfl (sl rfl (seqQ_normal (cwp_seq (cwp_seq (cwp_region (sl rfl (an (by with_reducible rfl) (sl rfl (seqQ_normal (cwp_cond (oT rfl (cwp_seq (cwp_region (sl rfl (an (show [id (AV.d (dCells c)), id (AV.d (dint keep))].length = 2 from rfl) (sl rfl (sl rfl (seqQ_normal (cwp_ret (seqQ_ret (endQ_ret (an (an (DEqv.refl _) (an (DEqv.refl _) True.intro)) (an (DEqv.refl _) (an (DEqv.refl _) True.intro)))))))))))))))))))))))))))))))))))))))))))))))))))))))))))))))))))))))

/-- Cells as they are in a right heap, or in one out of which cells are taken. -/
structure Good (c : List Cell) : Prop where
  ref : ∀ i, 0 ≤ (nth c i).ref
  pin : ∀ i, 0 < (nth c i).ref → (nth c i).pin = false
  told : ∀ i, i < c.length → (nth c i).n.leaf = false → ∀ k, k < (nth c i).n.it.length → 0 ≤ (nth (nth c i).n.it k).v ∧ (nth (nth c i).n.it k).v < c.length

theorem nth_out {α : Type} [Inhabited α] {l : List α} {i : Nat} (h : l.length ≤ i) : nth l i = default := by simp [nth, h]

theorem Good.set {c : List Cell} (h : Good c) {i : Nat} {x : Cell} (h1 : 0 ≤ x.ref) (h2 : 0 < x.ref → x.pin = false) (h3 : x.n.leaf = false → ∀ k, k < x.n.it.length → 0 ≤ (nth x.n.it k).v ∧ (nth x.n.it k).v < c.length) : Good (c.set i x) := by
  refine ⟨fun j => nth_set_cases (fun x : Cell => 0 ≤ x.ref) (h.ref j) h1, fun j => nth_set_cases (fun x : Cell => 0 < x.ref → x.pin = false) (h.pin j) h2, fun j hj => ?_⟩
  rw [List.length_set] at hj ⊢
  exact nth_set_cases (fun x : Cell => x.n.leaf = false → ∀ k, k < x.n.it.length → 0 ≤ (nth x.n.it k).v ∧ (nth x.n.it k).v < c.length) (h.told j hj) h3
theorem Good.less {c : List Cell} (h : Good c) {p : Int} (hu : used c p = true) (h1 : 1 < (nth c p.toNat).ref) : Good (lessRef c p) := by
  have hu := used_iff.1 hu
  exact h.set (by simp; omega) (fun _ => rfl) (h.told p.toNat (by omega))
theorem Good.drop {c : List Cell} (h : Good c) {p : Int} : Good (dropCell c p) := h.set (by simp) (by simp) (by simp)
theorem loose_good {f : Nat} {c : List Cell} {p : Int} (h : Good c) : Good (loose f c p) :=
  loose_inv Good (fun _ _ h hu h1 => h.less hu h1) (fun _ _ h _ => h.drop) f c p h

/-- What a call of loose asks of the heap. -/
structure LooseIn (f : Nat) (c : List Cell) : Prop where
  len : c.length ≤ 2000
  good : Good c
  lim : Lim c
  refs : RefB c
  many : usedCount c < f

theorem LooseIn.loose {f g : Nat} {c : List Cell} (h : LooseIn f c) (p : Int) : LooseIn f (loose g c p) :=
  ⟨by rw [loose_length]; exact h.len, loose_good h.good, loose_lim h.lim, loose_refB h.refs, Nat.lt_of_le_of_lt (loose_usedCount _ _ _) h.many⟩
theorem LooseIn.fold {f g : Nat} : ∀ (l : List Item) (c : List Cell), LooseIn f c → LooseIn f (l.foldl (fun c x => Abs.loose g c x.v) c)
  | [], _, h => h
  | x :: l, _, h => LooseIn.fold l _ (h.loose x.v)

theorem ac_eachL (f : Nat) (ih : ∀ (c : List Cell) (keep p : Int), LooseIn f c → 0 ≤ p → p < c.length → AC Try.prog 96 [.own 1 0, aint .i64 p] (memW c keep) (.tup []) (memW (loose f c p) keep))
    (c : List Cell) (keep : Int) (leaf : Bool) (it : List Item) (h : LooseIn f c) (hl : it.length ≤ big) (hp : leaf = false → ∀ k, k < it.length → 0 ≤ (nth it k).v ∧ (nth it k).v < c.length) :
    AC Try.prog 85 [.own 1 0, aNode leaf it, .fn (.func 96) [.own 1 0] []] (memW c keep) (.tup []) (memW ((toldBy ⟨leaf, it⟩).foldl (fun c x => loose f c x.v) c) keep) := by
  unfold big at hl
  cases leaf with
  | true =>
    have e : toldBy ⟨true, it⟩ = [] := rfl
    rw [e, List.foldl_nil]
    refine AC_of tab_ok mixed (Try.func85) rfl (by kernel_rfl) (Nat.le_of_ble_eq_true rfl) ?_ (Nat.le_of_ble_eq_true rfl)
    (refine (cwp_seq (cwp_region (sl rfl (seqQ_normal (cwp_seq (cwp_seq (cwp_region (sl rfl (sl rfl (seqQ_normal (cwp_cond (oT rfl (cwp_ret (seqQ_ret (endQ_ret (Exists.intro [0, 1] (an (an rfl (an rfl (an rfl (Nat.le_of_ble_eq_true rfl)))) (an (an True.intro True.intro) (an (an (an (by with_reducible rfl) (by with_reducible rfl)) (fun i => (fun hi => (LEqv.refl _)))) (an (an (an (an rfl (an (by with_reducible rfl) (an (by with_reducible rfl) (by with_reducible rfl)))) (Nat.le_of_ble_eq_true rfl)) (an (DEqv.refl _) True.intro)) True.intro)))))))))))))))))))))
  | false =>
    have hp := hp rfl
    have e : toldBy ⟨false, it⟩ = it := rfl
    rw [e]
    refine AC_of tab_ok mixed (Try.func85) rfl (by kernel_rfl) (Nat.le_of_ble_eq_true rfl) ?_ (Nat.le_of_ble_eq_true rfl)
    (refine (cwp_seq (cwp_region (sl rfl (seqQ_normal (cwp_seq (cwp_seq (cwp_region (sl rfl (sl rfl (seqQ_normal (cwp_cond (oF rfl (cwp_skip (seqQ_normal (cwp_seq (cwp_region (sl rfl (sl rfl (sl rfl (sl rfl (seqQ_normal (cwp_block (cwp_loop ?_))))))))))))))))))))))))
    refine AWP_for tab_ok mixed (fun k => it.length - k) (fun k => k ≤ it.length)
      (fun k => [(2, .fn (.func 96) [.own 1 0] []), (11, aItems it), (12, aint .i64 it.length), (13, aint .i64 (k : Nat))])
      (fun k => memW ((it.take k).foldl (fun c x => loose f c x.v) c) keep) 0 [0, 1] ?_ (Nat.zero_le _) ?_
    · (refine (an (an rfl (an rfl (an rfl (Nat.le_of_ble_eq_true rfl)))) (an (an (an (by with_reducible rfl) (an (an (an (an rfl (by with_reducible rfl)) (Nat.le_of_ble_eq_true rfl)) True.intro) True.intro)) (an (DEqv.refl _) (an (DEqv.refl _) (an (DEqv.refl _) True.intro)))) (an (an (an (by with_reducible rfl) rfl) (fun i => (fun hi => (LEqv.refl _)))) (an (an (an (an rfl (an (by with_reducible rfl) (an (by with_reducible rfl) rfl))) (Nat.le_of_ble_eq_true rfl)) (an (DEqv.refl _) True.intro)) True.intro)))))
    · intro k hk
      have hin := LooseIn.fold (g := f) (it.take k) c h
      have hlen : ((it.take k).foldl (fun c x => loose f c x.v) c).length = c.length := foldl_inv (fun d : List Cell => d.length = c.length) _ (fun a b e => by rw [loose_length]; exact e) _ _ rfl
      by_cases hlt : k < it.length
      · have h3 := hp k hlt
        have g := ih _ keep (nth it k).v hin h3.1 (by omega)
        have e2 := foldl_take (fun c (x : Item) => loose f c x.v) it c hlt
        (focus (refine (cwp_seq (cwp_region (an (by with_reducible rfl) (sl rfl (seqQ_normal (cwp_seq (cwp_cond (an (fun (hb1 : decide ((↑k : Int) < (↑it.length : Int)) = true) => ?_) (fun (hb2 : decide ((↑k : Int) < (↑it.length : Int)) = false) => ?_))))))))); rotate_right; (have hf2 := hb2; simp only [decide_eq_false_iff_not, Int.not_lt] at hf2; exfalso; omega); rotate_right; (have hf1 := hb1; simp only [decide_eq_true_eq] at hf1; refine (cwp_skip (seqQ_normal (cwp_seq (cwp_block (cwp_seq (cwp_region (Exists.intro (k) (an (an (by with_reducible rfl) (an (by assumption) (show 2 = 2 from (by with_reducible rfl)))) (sl rfl (sl rfl (sl rfl (an (show [AV.d (dint (nth it k).k), AV.d (dint (nth it k).v)].length = 2 from rfl) (seqQ_normal (cwp_region (sl rfl (sl rfl (sl rfl (Framed.on (g.under [0, 1]) rfl (an (an rfl (an rfl (an rfl (Nat.le_of_ble_eq_true rfl)))) (an (an (an (an rfl (by with_reducible rfl)) (Nat.le_of_ble_eq_true rfl)) (an (DEqv.refl _) True.intro)) (an (an (an (by with_reducible rfl) (by with_reducible rfl)) (fun i => (fun hi => (LEqv.refl _)))) (an (an (an (an rfl (an (by with_reducible rfl) (an (by with_reducible rfl) (by with_reducible rfl)))) (Nat.le_of_ble_eq_true rfl)) (an (DEqv.refl _) True.intro)) True.intro)))) (sl rfl (blockQ_normal (seqQ_normal (cwp_region (an (by with_reducible rfl) (ez (wrap64 (by omega)) (sl rfl (sl rfl (seqQ_normal (show Exists _ from ?_)))))))))))))))))))))))))))))))
        refine ⟨k + 1, [0, 1], ⟨by omega, by omega⟩, ?_⟩
        rw [e2]
        (refine (an (an rfl (an rfl (an rfl (Nat.le_of_ble_eq_true rfl)))) (an (an (an (by with_reducible rfl) (an (an (an (an rfl (by with_reducible rfl)) (Nat.le_of_ble_eq_true rfl)) True.intro) True.intro)) (an (DEqv.refl _) (an (DEqv.refl _) (an (DEqv.refl _) True.intro)))) (an (an (an (by with_reducible rfl) (by with_reducible rfl)) (fun i => (fun hi => (LEqv.refl _)))) (an (an (an (an rfl (an (by with_reducible rfl) (an (by with_reducible rfl) (by with_reducible rfl)))) (Nat.le_of_ble_eq_true rfl)) (an (DEqv.refl _) True.intro)) True.intro)))))
      · rw [show it.take k = it by rw [show k = it.length by omega]; exact List.take_length]
        (focus (refine (cwp_seq (cwp_region (an (by with_reducible rfl) (sl rfl (seqQ_normal (cwp_seq (cwp_cond (an (fun (hb1 : decide ((↑k : Int) < (↑it.length : Int)) = true) => ?_) (fun (hb2 : decide ((↑k : Int) < (↑it.length : Int)) = false) => ?_))))))))); rotate_right; (have hf2 := hb2; simp only [decide_eq_false_iff_not, Int.not_lt] at hf2; refine (cwp_exit (seqQ_exit (seqQ_exit (blockQ_here rfl (endQ_normal (Exists.intro [0, 1] (an (an rfl (an rfl (an rfl (Nat.le_of_ble_eq_true rfl)))) (an (an True.intro True.intro) (an (an (an (by with_reducible rfl) (by with_reducible rfl)) (fun i => (fun hi => (LEqv.refl _)))) (an (an (an (an rfl (an (by with_reducible rfl) (an (by with_reducible rfl) (by with_reducible rfl)))) (Nat.le_of_ble_eq_true rfl)) (an (DEqv.refl _) True.intro)) True.intro))))))))))); rotate_right; (have hf1 := hb1; simp only [decide_eq_true_eq] at hf1; exfalso; omega)))

theorem ac_loose : ∀ (f : Nat) (c : List Cell) (keep p : Int), LooseIn f c → 0 ≤ p → p < c.length → AC Try.prog 96 [.own 1 0, aint .i64 p] (memW c keep) (.tup []) (memW (loose f c p) keep) := by
  intro f
  induction f with
  | zero => exact fun c keep p h => absurd h.many (Nat.not_lt_zero _)
  | succ f ih =>
    intro c keep p h h0 h1
    have hR := h.refs p.toNat
    have hG := h.good.ref p.toNat
    by_cases hz : (nth c p.toNat).ref = 0
    · rw [show loose (f + 1) c p = c by unfold loose; rw [if_neg (by rw [used_iff]; omega)]]
      refine AC_of tab_ok mixed (Try.func96) rfl (by kernel_rfl) (Nat.le_of_ble_eq_true rfl) ?_ (Nat.le_of_ble_eq_true rfl)
      (focus (refine (cwp_seq (cwp_region (sl rfl (sl rfl (sl rfl (sl rfl (sl rfl (sl rfl (Exists.intro (p.toNat) (an (an (by omega) (an (by omega) (an (by omega) (an (show 4 = 4 from (by with_reducible rfl)) (by with_reducible rfl))))) (sl rfl (sl rfl (seqQ_normal (cwp_seq (cwp_seq (cwp_region (sl rfl (an (an (by with_reducible rfl) (by omega)) (sl rfl (an (an (by with_reducible rfl) (by omega)) (sl rfl (an (an (by with_reducible rfl) (by omega)) (sl rfl (an (by with_reducible rfl) (sl rfl (seqQ_normal (cwp_cond (an (fun (hb1 : ((nth c p.toNat).ref == 0) = true) => ?_) (fun (hb2 : ((nth c p.toNat).ref == 0) = false) => ?_))))))))))))))))))))))))))))); rotate_right; (have hf2 := hb2; simp only [ne_eq, beq_eq_false_iff_ne] at hf2; exfalso; omega); rotate_right; (have hf1 := hb1; simp only [beq_iff_eq] at hf1; refine (cwp_ret (seqQ_ret (endQ_ret (Exists.intro [0, 1] (an (an rfl (an rfl (an rfl (Nat.le_of_ble_eq_true rfl)))) (an (an True.intro True.intro) (an (an (an (by with_reducible rfl) (by with_reducible rfl)) (fun i => (fun hi => (LEqv.refl _)))) (an (an (an (an rfl (an (by with_reducible rfl) (an (by with_reducible rfl) (by with_reducible rfl)))) (Nat.le_of_ble_eq_true rfl)) (an (DEqv.refl _) True.intro)) True.intro)))))))))))
    have hu : used c p = true := used_iff.2 ⟨h0, h1, by omega⟩
    by_cases hone : 1 < (nth c p.toNat).ref
    · rw [show loose (f + 1) c p = lessRef c p by unfold loose; rw [if_pos hu, if_pos hone]]
      have hlc : lessRef c p = c.set p.toNat ⟨(nth c p.toNat).ref - 1, (nth c p.toNat).pin, (nth c p.toNat).n⟩ := by rw [h.good.pin p.toNat (by omega)]; rfl
      have hll : c.length = (lessRef c p).length := by simp [lessRef]
      refine AC_of tab_ok mixed (Try.func96) rfl (by kernel_rfl) (Nat.le_of_ble_eq_true rfl) ?_ (Nat.le_of_ble_eq_true rfl)
      (focus (refine (cwp_seq (cwp_region (sl rfl (sl rfl (sl rfl (sl rfl (sl rfl (sl rfl (Exists.intro (p.toNat) (an (an (by omega) (an (by omega) (an (by omega) (an (show 4 = 4 from (by with_reducible rfl)) (by with_reducible rfl))))) (sl rfl (sl rfl (seqQ_normal (cwp_seq (cwp_seq (cwp_region (sl rfl (an (an (by with_reducible rfl) (by omega)) (sl rfl (an (an (by with_reducible rfl) (by omega)) (sl rfl (an (an (by with_reducible rfl) (by omega)) (sl rfl (an (by with_reducible rfl) (sl rfl (seqQ_normal (cwp_cond (an (fun (hb1 : ((nth c p.toNat).ref == 0) = true) => ?_) (fun (hb2 : ((nth c p.toNat).ref == 0) = false) => ?_))))))))))))))))))))))))))))); rotate_right; (have hf2 := hb2; simp only [ne_eq, beq_eq_false_iff_ne] at hf2; focus (refine (cwp_skip (seqQ_normal (cwp_seq (cwp_seq (cwp_region (sl rfl (an (an (by with_reducible rfl) (by omega)) (sl rfl (an (an (by with_reducible rfl) (by omega)) (sl rfl (an (an (by with_reducible rfl) (by omega)) (sl rfl (an (by with_reducible rfl) (ez (wrap64 (by omega)) (sl rfl (an (an (by with_reducible rfl) (by omega)) (sl rfl (an (an (by with_reducible rfl) (by omega)) (sl rfl (an (show [AV.d (D.v (Value.int IntKind.i64 ((nth c p.toNat).ref - 1)))].length = 1 from rfl) (an (an (an (by with_reducible rfl) (by omega)) (fun i => (fun hi => (Nat.le_of_ble_eq_true rfl)))) (seqQ_normal (cwp_seq (cwp_region (sl rfl (an (an (by with_reducible rfl) (by omega)) (sl rfl (an (an (by with_reducible rfl) (by omega)) (sl rfl (an (an (by with_reducible rfl) (by omega)) (show takeK _ _ _ _ from ?_))))))))))))))))))))))))))))))); (rw [setF_same]; focus (refine (sl rfl (an (by with_reducible rfl) (sl rfl (seqQ_normal (cwp_cond (an (fun (hb3 : decide ((nth c p.toNat).ref - 1 > 0) = true) => ?_) (fun (hb4 : decide ((nth c p.toNat).ref - 1 > 0) = false) => ?_))))))); rotate_right; (have hf4 := hb4; simp only [decide_eq_false_iff_not, Int.not_lt] at hf4; exfalso; omega); rotate_right; (have hf3 := hb3; simp only [decide_eq_true_eq, gt_iff_lt] at hf3; refine (cwp_ret (seqQ_ret (endQ_ret (Exists.intro [0, 1] (an (an rfl (an rfl (an rfl (Nat.le_of_ble_eq_true rfl)))) (an (an True.intro True.intro) (an (an (an (by with_reducible rfl) (by assumption)) (fun i => (fun hi => (show LEqv (setF (fun i => dCell (nth c i)) p.toNat [D.v (Value.int IntKind.i64 ((nth c p.toNat).ref - 1)), dbool (nth c p.toNat).pin, dbool (nth c p.toNat).n.leaf, dItems (nth c p.toNat).n.it] i) (dCell (nth (lessRef c p) i)) from ?_)))) (an (an (an (an rfl (an (by with_reducible rfl) (an (by with_reducible rfl) (by assumption)))) (Nat.le_of_ble_eq_true rfl)) (an (DEqv.refl _) True.intro)) True.intro))))))))))))); rotate_right; (have hf1 := hb1; simp only [beq_iff_eq] at hf1; exfalso; omega)))
      rw [hlc]; exact LEqv_setF (by omega) (LEqv.refl _)
    rw [show loose (f + 1) c p = (toldBy (nth c p.toNat).n).foldl (fun c x => loose f c x.v) (dropCell c p) by rw [loose]; rw [if_pos hu, if_neg hone]]
    have hud := usedCount_drop hu
    have hin : LooseIn f (dropCell c p) := ⟨by simpa [dropCell] using h.len, h.good.drop, Lim.set h.lim _ _ (by simp [big]), RefB.set h.refs _ _ (by simp), by have := h.many; omega⟩
    have g := ac_eachL f ih (dropCell c p) keep (nth c p.toNat).n.leaf (nth c p.toNat).n.it hin (h.lim.it _) (by
      have := h.good.told p.toNat (by omega)
      simpa [dropCell] using this)
    have hll : c.length = (dropCell c p).length := by simp [dropCell]
    refine AC_of tab_ok mixed (Try.func96) rfl (by kernel_rfl) (Nat.le_of_ble_eq_true rfl) ?_ (Nat.le_of_ble_eq_true rfl)
    (focus (refine (cwp_seq (cwp_region (sl rfl (sl rfl (sl rfl (sl rfl (sl rfl (sl rfl (Exists.intro (p.toNat) (an (an (by omega) (an (by omega) (an (by omega) (an (show 4 = 4 from (by with_reducible rfl)) (by with_reducible rfl))))) (sl rfl (sl rfl (seqQ_normal (cwp_seq (cwp_seq (cwp_region (sl rfl (an (an (by with_reducible rfl) (by omega)) (sl rfl (an (an (by with_reducible rfl) (by omega)) (sl rfl (an (an (by with_reducible rfl) (by omega)) (sl rfl (an (by with_reducible rfl) (sl rfl (seqQ_normal (cwp_cond (an (fun (hb1 : ((nth c p.toNat).ref == 0) = true) => ?_) (fun (hb2 : ((nth c p.toNat).ref == 0) = false) => ?_))))))))))))))))))))))))))))); rotate_right; (have hf2 := hb2; simp only [ne_eq, beq_eq_false_iff_ne] at hf2; focus (refine (cwp_skip (seqQ_normal (cwp_seq (cwp_seq (cwp_region (sl rfl (an (an (by with_reducible rfl) (by omega)) (sl rfl (an (an (by with_reducible rfl) (by omega)) (sl rfl (an (an (by with_reducible rfl) (by omega)) (sl rfl (an (by with_reducible rfl) (ez (wrap64 (by omega)) (sl rfl (an (an (by with_reducible rfl) (by omega)) (sl rfl (an (an (by with_reducible rfl) (by omega)) (sl rfl (an (show [AV.d (D.v (Value.int IntKind.i64 ((nth c p.toNat).ref - 1)))].length = 1 from rfl) (an (an (an (by with_reducible rfl) (by omega)) (fun i => (fun hi => (Nat.le_of_ble_eq_true rfl)))) (seqQ_normal (cwp_seq (cwp_region (sl rfl (an (an (by with_reducible rfl) (by omega)) (sl rfl (an (an (by with_reducible rfl) (by omega)) (sl rfl (an (an (by with_reducible rfl) (by omega)) (show takeK _ _ _ _ from ?_))))))))))))))))))))))))))))))); (rw [setF_same]; focus (refine (sl rfl (an (by with_reducible rfl) (sl rfl (seqQ_normal (cwp_cond (an (fun (hb3 : decide ((nth c p.toNat).ref - 1 > 0) = true) => ?_) (fun (hb4 : decide ((nth c p.toNat).ref - 1 > 0) = false) => ?_))))))); rotate_right; (have hf4 := hb4; simp only [decide_eq_false_iff_not, Int.not_lt] at hf4; focus (refine (cwp_skip (seqQ_normal (cwp_seq (cwp_region (sl rfl (an (an (by with_reducible rfl) (by omega)) (sl rfl (an (an (by with_reducible rfl) (by omega)) (sl rfl (an (an (by with_reducible rfl) (by omega)) (show dropK _ _ _ from ?_))))))))))); (rw [setF_same]; focus (refine (sl rfl (sl rfl (an (show [AV.d (dbool (nth c p.toNat).n.leaf), AV.d (dItems (nth c p.toNat).n.it)].length = 2 from rfl) (seqQ_normal (cwp_seq (cwp_region (sl rfl (sl rfl (sl rfl (an (an (by with_reducible rfl) (by omega)) (sl rfl (an (an (by with_reducible rfl) (by omega)) (sl rfl (an (show [AV.d (D.v (Value.bool false)), AV.d (D.sl true 0 0 fun x => [])].length = 2 from rfl) (an (an (an (by with_reducible rfl) (by omega)) (fun i => (fun hi => (show (setF (fun i => dCell (nth c i)) p.toNat [D.v (Value.int IntKind.i64 ((nth c p.toNat).ref - 1)), dbool (nth c p.toNat).pin, dbool (nth c p.toNat).n.leaf, dItems (nth c p.toNat).n.it] i).length ≤ 4 from ?_)))) (show overK _ _ _ _ from ?_)))))))))))))))); rotate_right; (rw [setF_same]; focus (refine (an (an (by with_reducible rfl) (by omega)) (sl rfl (an (an (by with_reducible rfl) (by omega)) (sl rfl (an (show [AV.d (D.v (Value.bool true))].length = 1 from rfl) (an (an (an (by with_reducible rfl) (by omega)) (fun i => (fun hi => (show (setF (setF (fun i => dCell (nth c i)) p.toNat [D.v (Value.int IntKind.i64 ((nth c p.toNat).ref - 1)), dbool (nth c p.toNat).pin, dbool (nth c p.toNat).n.leaf, dItems (nth c p.toNat).n.it]) p.toNat [D.v (Value.int IntKind.i64 ((nth c p.toNat).ref - 1)), dbool (nth c p.toNat).pin, D.v (Value.bool false), D.sl true 0 0 fun x => []] i).length ≤ 4 from ?_)))) (show overK _ _ _ _ from ?_))))))); rotate_right; (rw [setF_same]; refine (seqQ_normal (cwp_region (sl rfl (sl rfl (sl rfl (sl rfl (Framed.on (g.under [0, 1]) rfl (an (an rfl (an rfl (an rfl (Nat.le_of_ble_eq_true rfl)))) (an (an (an (an rfl (by with_reducible rfl)) (Nat.le_of_ble_eq_true rfl)) (an (an (DEqv.refl _) (an (DEqv.refl _) True.intro)) (an (an (by with_reducible rfl) (an (an (an (an rfl (by with_reducible rfl)) (Nat.le_of_ble_eq_true rfl)) True.intro) True.intro)) True.intro))) (an (an (an (by with_reducible rfl) (by assumption)) (fun i => (fun hi => (show LEqv (setF (setF (setF (fun i => dCell (nth c i)) p.toNat [D.v (Value.int IntKind.i64 ((nth c p.toNat).ref - 1)), dbool (nth c p.toNat).pin, dbool (nth c p.toNat).n.leaf, dItems (nth c p.toNat).n.it]) p.toNat [D.v (Value.int IntKind.i64 ((nth c p.toNat).ref - 1)), dbool (nth c p.toNat).pin, D.v (Value.bool false), D.sl true 0 0 fun x => []]) p.toNat [D.v (Value.int IntKind.i64 ((nth c p.toNat).ref - 1)), D.v (Value.bool true), D.v (Value.bool false), D.sl true 0 0 fun x => []] i) (dCell (nth (dropCell c p) i)) from ?_)))) (an (an (an (an rfl (an (by with_reducible rfl) (an (by with_reducible rfl) (by assumption)))) (Nat.le_of_ble_eq_true rfl)) (an (DEqv.refl _) True.intro)) True.intro)))) (sl rfl (endQ_normal (Exists.intro [0, 1] (an (an rfl (an rfl (an rfl (Nat.le_of_ble_eq_true rfl)))) (an (an True.intro True.intro) (an (an (an (by with_reducible rfl) (by with_reducible rfl)) (fun i => (fun hi => (LEqv.refl _)))) (an (an (an (an rfl (an (by with_reducible rfl) (an (by with_reducible rfl) (by with_reducible rfl)))) (Nat.le_of_ble_eq_true rfl)) (an (DEqv.refl _) True.intro)) True.intro))))))))))))))); rotate_right)); rotate_right)))); rotate_right; (have hf3 := hb3; simp only [decide_eq_true_eq, gt_iff_lt] at hf3; exfalso; omega))))); rotate_right; (have hf1 := hb1; simp only [beq_iff_eq] at hf1; exfalso; omega)))
    all_goals first
      | exact setF_len (n := 4) (fun _ => Nat.le_of_eq rfl) (Nat.le_of_eq rfl) _
      | exact setF_len (n := 4) (fun j => setF_len (n := 4) (fun _ => Nat.le_of_eq rfl) (Nat.le_of_eq rfl) j) (Nat.le_of_eq rfl) _
      | skip
    rw [setF_setF, setF_setF]
    exact LEqv_setF (x := ⟨0, true, ⟨false, []⟩⟩) (by omega) (.cons (DEqv.int (show (nth c p.toNat).ref - 1 = 0 by omega)) (.cons (DEqv.refl _) (.cons (DEqv.refl _) (.cons DEqv.nil .nil))))

theorem pc_LooseP (c : List Cell) (keep p : Int) (h : LooseIn (usedCount c + 1) c) : PC Try.prog 60 [aHeap c keep, aint .i64 p] (.tup [aHeap (looseA c p) keep, aint .i64 (if used c p then 0 else 4)]) := by
  have h1 := pc_isUsed c keep p
  have h2 := ac_own c keep h.len
  have h95 : PC Try.prog 95 [aHeap c keep, aint .i64 p, .fn (.func 96) [] []] (.tup [aHeap (looseA c p) keep, aint .i64 (if used c p then 0 else 4)]) := by
    cases hu : used c p with
    | true =>
      have hu' := used_iff.1 hu
      have h3 := ac_loose _ c keep p h hu'.1 hu'.2.1
      rw [hu] at h1
      refine PC_of tab_ok mixed (Try.func95) rfl (by kernel_rfl) (Nat.le_of_ble_eq_true rfl) rfl ?_
      (refine (cwp_seq (cwp_region (sl rfl (sl rfl (sl rfl (seqQ_normal (cwp_seq (cwp_seq (cwp_region (sl rfl (sl rfl (Or.inl (PC.on (h1) (sl rfl (sl rfl (seqQ_normal (cwp_cond (oF rfl (cwp_skip (seqQ_normal (cwp_seq (cwp_region (sl rfl (Or.inr (Framed.on (h2.under []) rfl (an (an (by omega) (an rfl (an rfl (Nat.le_of_ble_eq_true rfl)))) (an (an (an (DEqv.refl _) (an (DEqv.refl _) True.intro)) True.intro) True.intro)) (sl rfl (sl rfl (seqQ_normal (cwp_seq (cwp_region (sl rfl (sl rfl (sl rfl (Framed.on (h3.under [2, 3]) rfl (an (an rfl (an rfl (an rfl (Nat.le_of_ble_eq_true rfl)))) (an (an (an (an rfl (by with_reducible rfl)) (Nat.le_of_ble_eq_true rfl)) (an (DEqv.refl _) True.intro)) (an (an (an (by with_reducible rfl) (by with_reducible rfl)) (fun i => (fun hi => (LEqv.refl _)))) (an (an (an (an rfl (an (by with_reducible rfl) (an (by with_reducible rfl) (by with_reducible rfl)))) (Nat.le_of_ble_eq_true rfl)) (an (DEqv.refl _) True.intro)) True.intro)))) (sl rfl (seqQ_normal (cwp_seq (cwp_region (sl rfl (sl rfl (sl rfl (sl rfl (an (show [id (ren2 (names2 [2, 3] (memW (loose (usedCount c + 1) c p) keep) (frameM (names2 [] (memW c keep) [some (Blk.cells [AV.d (dCells c), AV.d (dint keep)]), some (Blk.cells [AV.d (D.sl true 0 0 fun x => []), AV.d (D.v (Value.int IntKind.i64 0))])]) [] (memW c keep) [some (Blk.cells [AV.d (dCells c), AV.d (dint keep)]), some (Blk.cells [AV.d (D.sl true 0 0 fun x => []), AV.d (D.v (Value.int IntKind.i64 0))])])) (AV.row 0 4 0 (loose (usedCount c + 1) c p).length)), id (ren2 (names2 [2, 3] (memW (loose (usedCount c + 1) c p) keep) (frameM (names2 [] (memW c keep) [some (Blk.cells [AV.d (dCells c), AV.d (dint keep)]), some (Blk.cells [AV.d (D.sl true 0 0 fun x => []), AV.d (D.v (Value.int IntKind.i64 0))])]) [] (memW c keep) [some (Blk.cells [AV.d (dCells c), AV.d (dint keep)]), some (Blk.cells [AV.d (D.sl true 0 0 fun x => []), AV.d (D.v (Value.int IntKind.i64 0))])])) (AV.d (dint keep)))].length = 2 from rfl) (sl rfl (seqQ_normal (cwp_ret (endQ_ret (an (an (an (by with_reducible rfl) (an (an (by with_reducible rfl) (an (by omega) (an rfl (Or.inr (by with_reducible rfl))))) (fun i => (fun hi => (show LEqv (dCell (nth (loose (usedCount c + 1) c p) (0 + i))) (dCell (nth (looseA c p) i)) from ?_))))) (an (DEqv.refl _) True.intro)) (an (DEqv.refl _) True.intro))))))))))))))))))))))))))))))))))))))))))))))))))
      rw [Nat.zero_add]; exact LEqv.refl _
    | false =>
      rw [hu] at h1
      have e : looseA c p = c := by unfold looseA; rw [loose]; rw [if_neg (by rw [hu]; decide)]
      rw [e]
      refine PC_of tab_ok mixed (Try.func95) rfl (by kernel_rfl) (Nat.le_of_ble_eq_true rfl) rfl ?_
      (refine (cwp_seq (cwp_region (sl rfl (sl rfl (sl rfl (seqQ_normal (cwp_seq (cwp_seq (cwp_region (sl rfl (sl rfl (Or.inl (PC.on (h1) (sl rfl (sl rfl (seqQ_normal (cwp_cond (oT rfl (cwp_seq (cwp_region (sl rfl (an (show [id (AV.d (dCells c)), id (AV.d (dint keep))].length = 2 from rfl) (sl rfl (seqQ_normal (cwp_ret (seqQ_ret (endQ_ret (an (an (DEqv.refl _) (an (DEqv.refl _) True.intro)) (an (DEqv.refl _) True.intro))))))))))))))))))))))))))))))
  refine PC_of tab_ok mixed (Try.func60) rfl (by kernel_rfl) (Nat.le_of_ble_eq_true rfl) rfl ?_
  (refine (cwp_seq (cwp_region (sl rfl (sl rfl (sl rfl (seqQ_normal (cwp_seq (cwp_region (sl rfl (sl rfl (Or.inl (PC.on (h95) (sl rfl (sl rfl (sl rfl (an (show [AV.d (dCells (looseA c p)), AV.d (dint keep)].length = 2 from rfl) (sl rfl (seqQ_normal (cwp_ret (endQ_ret (an (an (DEqv.refl _) (an (DEqv.refl _) True.intro)) (an (DEqv.refl _) True.intro)))))))))))))))))))))))

theorem pc_HoldP (c : List Cell) (keep p : Int) (hc : c.length ≤ 2000) (hu : used c p = true) (h2 : (nth c p.toNat).ref ≤ 4294967296) : PC Try.prog 62 [aHeap c keep, aint .i64 p] (.tup [aHeap (more c p) keep, aint .i64 0]) := by
  have h1 := pc_isUsed c keep p
  have h3 := ac_own c keep hc
  have hu' := used_iff.1 hu
  have h4 := ac_hold c keep p hu'.1 hu'.2.1 h2 (by omega)
  rw [hu] at h1
  have h95 : PC Try.prog 95 [aHeap c keep, aint .i64 p, .fn (.func 88) [] []] (.tup [aHeap (more c p) keep, aint .i64 0]) := by
    refine PC_of tab_ok mixed (Try.func95) rfl (by kernel_rfl) (Nat.le_of_ble_eq_true rfl) rfl ?_
    (refine (cwp_seq (cwp_region (sl rfl (sl rfl (sl rfl (seqQ_normal (cwp_seq (cwp_seq (cwp_region (sl rfl (sl rfl (Or.inl (PC.on (h1) (sl rfl (sl rfl (seqQ_normal (cwp_cond (oF rfl (cwp_skip (seqQ_normal (cwp_seq (cwp_region (sl rfl (Or.inr (Framed.on (h3.under []) rfl (an (an (by omega) (an rfl (an rfl (Nat.le_of_ble_eq_true rfl)))) (an (an (an (DEqv.refl _) (an (DEqv.refl _) True.intro)) True.intro) True.intro)) (sl rfl (sl rfl (seqQ_normal (cwp_seq (cwp_region (sl rfl (sl rfl (sl rfl (Framed.on (h4.under [2, 3]) rfl (an (an rfl (an rfl (an rfl (Nat.le_of_ble_eq_true rfl)))) (an (an (an (an rfl (by with_reducible rfl)) (Nat.le_of_ble_eq_true rfl)) (an (DEqv.refl _) True.intro)) (an (an (an (by with_reducible rfl) (by with_reducible rfl)) (fun i => (fun hi => (LEqv.refl _)))) (an (an (an (an rfl (an (by with_reducible rfl) (an (by with_reducible rfl) (by with_reducible rfl)))) (Nat.le_of_ble_eq_true rfl)) (an (DEqv.refl _) True.intro)) True.intro)))) (sl rfl (seqQ_normal (cwp_seq (cwp_region (sl rfl (sl rfl (sl rfl (sl rfl (an (show [id (ren2 (names2 [2, 3] (memW (more c p) keep) (frameM (names2 [] (memW c keep) [some (Blk.cells [AV.d (dCells c), AV.d (dint keep)]), some (Blk.cells [AV.d (D.sl true 0 0 fun x => []), AV.d (D.v (Value.int IntKind.i64 0))])]) [] (memW c keep) [some (Blk.cells [AV.d (dCells c), AV.d (dint keep)]), some (Blk.cells [AV.d (D.sl true 0 0 fun x => []), AV.d (D.v (Value.int IntKind.i64 0))])])) (AV.row 0 4 0 (more c p).length)), id (ren2 (names2 [2, 3] (memW (more c p) keep) (frameM (names2 [] (memW c keep) [some (Blk.cells [AV.d (dCells c), AV.d (dint keep)]), some (Blk.cells [AV.d (D.sl true 0 0 fun x => []), AV.d (D.v (Value.int IntKind.i64 0))])]) [] (memW c keep) [some (Blk.cells [AV.d (dCells c), AV.d (dint keep)]), some (Blk.cells [AV.d (D.sl true 0 0 fun x => []), AV.d (D.v (Value.int IntKind.i64 0))])])) (AV.d (dint keep)))].length = 2 from rfl) (sl rfl (seqQ_normal (cwp_ret (endQ_ret (an (an (an (by with_reducible rfl) (an (an (by with_reducible rfl) (an (by omega) (an (by with_reducible rfl) (Or.inr (by with_reducible rfl))))) (fun i => (fun hi => (show LEqv (dCell (nth (more c p) (0 + i))) (dCell (nth (more c p) i)) from ?_))))) (an (DEqv.refl _) True.intro)) (an (DEqv.refl _) True.intro))))))))))))))))))))))))))))))))))))))))))))))))))
    rw [Nat.zero_add]; exact LEqv.refl _
  refine PC_of tab_ok mixed (Try.func62) rfl (by kernel_rfl) (Nat.le_of_ble_eq_true rfl) rfl ?_
  (refine (cwp_seq (cwp_region (sl rfl (sl rfl (sl rfl (seqQ_normal (cwp_seq (cwp_region (sl rfl (sl rfl (Or.inl (PC.on (h95) (sl rfl (sl rfl (sl rfl (an (show [AV.d (dCells (more c p)), AV.d (dint keep)].length = 2 from rfl) (sl rfl (seqQ_normal (cwp_ret (endQ_ret (an (an (DEqv.refl _) (an (DEqv.refl _) True.intro)) (an (DEqv.refl _) True.intro)))))))))))))))))))))))
end Go.Proofs.Abs
