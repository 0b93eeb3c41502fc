/- Trees by the reference: High, List, Get, Scan. -/
import Derived.Test.YtonbocppkanogaaZC9
set_option linter.all false
namespace Go.Proofs.Abs
open Go Go.RowKit Go.Proofs
attribute [local irreducible] cwp seqQ blockQ endQ DEqv LEqv AWP drawOK

/-- The node in a cell. -/
def nodeOf (c : List Cell) (p : Int) : Node := (nth c p.toNat).n
/-- A tree's form: so many nodes from here to each leaf, of cells that are used, each node with a right form. -/
def shape (c : List Cell) : Nat → Int → Prop
  | 0, _ => False
  | h + 1, p => used c p = true ∧ rightNode (nodeOf c p).it = true ∧
      ((nodeOf c p).leaf = true ∧ h = 0 ∨ (nodeOf c p).leaf = false ∧ ∀ i, i < (nodeOf c p).it.length → shape c h (nth (nodeOf c p).it i).v)

theorem rightNode_len {it : List Item} (h : rightNode it = true) : 1 ≤ it.length ∧ it.length ≤ 4 := by
  simp only [rightNode, Bool.and_eq_true, decide_eq_true_eq] at h; omega

theorem pc_High07 (c : List Cell) (keep : Int) : ∀ (h : Nat) (p : Int), h ≤ 100 → shape c h p → PC Try.prog 21 [aHeap c keep, aint .i64 p] (aint .i64 (h : Nat)) := by
  intro h
  induction h with
  | zero => exact fun p _ h => h.elim
  | succ h ih =>
    rintro p hh ⟨hu, hr, hs⟩
    have hu' := used_iff.1 hu
    have hl := rightNode_len hr
    unfold nodeOf at hl hs
    rcases hs with ⟨hlf, h0⟩ | ⟨hlf, hs⟩
    · refine PC_of tab_ok mixed (Try.func21) rfl (by kernel_rfl) (Nat.le_of_ble_eq_true rfl) rfl ?_
      (focus (refine (cwp_seq (cwp_region (sl rfl (sl rfl (seqQ_normal (cwp_seq (cwp_seq (cwp_region (sl rfl (an (by with_reducible rfl) (sl rfl (seqQ_normal (cwp_cond (an (fun (hb1 : decide (p < 0) = true) => ?_) (fun (hb2 : decide (p < 0) = false) => ?_))))))))))))))); rotate_right; (have hf2 := hb2; simp only [decide_eq_false_iff_not, Int.not_lt] at hf2; refine (cwp_skip (seqQ_normal (cwp_seq (cwp_region (sl rfl (sl rfl (sl rfl (Exists.intro (p.toNat) (an (an (by omega) (an (by omega) (show 4 = 4 from (by with_reducible rfl)))) (sl rfl (sl rfl (sl rfl (sl rfl (an (show [AV.d (dbool (nth c p.toNat).n.leaf), AV.d (dItems (nth c p.toNat).n.it)].length = 2 from rfl) (seqQ_normal (cwp_seq (cwp_seq (cwp_region (sl rfl (sl rfl (seqQ_normal (cwp_cond (oT hlf (cwp_seq (cwp_region (sl rfl (seqQ_normal (cwp_ret (seqQ_ret (endQ_ret (DEqv.int (by omega))))))))))))))))))))))))))))))))); rotate_right; (have hf1 := hb1; simp only [decide_eq_true_eq] at hf1; exfalso; omega)))
    · refine PC_of tab_ok mixed (Try.func21) rfl (by kernel_rfl) (Nat.le_of_ble_eq_true rfl) rfl ?_
      (focus (refine (cwp_seq (cwp_region (sl rfl (sl rfl (seqQ_normal (cwp_seq (cwp_seq (cwp_region (sl rfl (an (by with_reducible rfl) (sl rfl (seqQ_normal (cwp_cond (an (fun (hb1 : decide (p < 0) = true) => ?_) (fun (hb2 : decide (p < 0) = false) => ?_))))))))))))))); rotate_right; (have hf2 := hb2; simp only [decide_eq_false_iff_not, Int.not_lt] at hf2; refine (cwp_skip (seqQ_normal (cwp_seq (cwp_region (sl rfl (sl rfl (sl rfl (Exists.intro (p.toNat) (an (an (by omega) (an (by omega) (show 4 = 4 from (by with_reducible rfl)))) (sl rfl (sl rfl (sl rfl (sl rfl (an (show [AV.d (dbool (nth c p.toNat).n.leaf), AV.d (dItems (nth c p.toNat).n.it)].length = 2 from rfl) (seqQ_normal (cwp_seq (cwp_seq (cwp_region (sl rfl (sl rfl (seqQ_normal (cwp_cond (oF hlf (cwp_skip (seqQ_normal (cwp_seq (cwp_draw (sl rfl (sl rfl (sl rfl (Exists.intro (0) (an (an (by omega) (an (by omega) (show 2 = 2 from (by with_reducible rfl)))) (sl rfl (sl rfl (sl rfl (Or.inl (PC.on (ih _ (by omega) (hs 0 (by omega))) (sl rfl (an (by with_reducible rfl) (ez (wrap64 (by omega)) (sl rfl (sl rfl (an (by kernel_rfl) (seqQ_normal (cwp_ret (endQ_ret (DEqv.int (by omega))))))))))))))))))))))))))))))))))))))))))))))))); rotate_right; (have hf1 := hb1; simp only [decide_eq_true_eq] at hf1; exfalso; omega)))

def listOf (c : List Cell) : Nat → Int → List Item
  | 0, _ => []
  | h + 1, p => if (nodeOf c p).leaf then (nodeOf c p).it else (nodeOf c p).it.flatMap fun x => listOf c h x.v

theorem listOf_len (c : List Cell) : ∀ (h : Nat) (p : Int), shape c h p → (listOf c h p).length ≤ 4 ^ h := by
  intro h
  induction h with
  | zero => exact fun p h => h.elim
  | succ h ih =>
    rintro p ⟨_, hr, hs⟩
    have hl := rightNode_len hr
    unfold listOf
    have h1 : 1 ≤ 4 ^ h := Nat.one_le_pow _ _ (by omega)
    rcases hs with ⟨hlf, h0⟩ | ⟨hlf, hs⟩
    · rw [if_pos hlf]; rw [Nat.pow_succ]; omega
    · rw [if_neg (by simp [hlf])]
      have key : ∀ (l : List Item), (∀ x ∈ l, (listOf c h x.v).length ≤ 4 ^ h) → (l.flatMap fun x => listOf c h x.v).length ≤ l.length * 4 ^ h := by
        intro l
        induction l with
        | nil => simp
        | cons x l ihl =>
          intro hx
          have h1 := hx x List.mem_cons_self
          have h2 := ihl fun y hy => hx y (List.mem_cons_of_mem _ hy)
          simp only [List.flatMap_cons, List.length_append, List.length_cons, Nat.succ_mul]
          omega
      refine Nat.le_trans (key _ ?_) ?_
      · intro x hx
        obtain ⟨i, hi, rfl⟩ := List.getElem_of_mem hx
        have := ih _ (hs i hi)
        rwa [nth_eq hi] at this
      · rw [Nat.pow_succ, Nat.mul_comm]
        exact Nat.mul_le_mul (Nat.le_refl _) hl.2

theorem flatMap_take (g : Item → List Item) {l : List Item} {k : Nat} (hk : k < l.length) : (l.take (k + 1)).flatMap g = (l.take k).flatMap g ++ g (nth l k) := by
  rw [take_succ hk]; simp

theorem LEqv_append {α : Type} [Inhabited α] (g : α → List D) (a b : List α) (i : Nat) : LEqv (appF a.length (fun i => g (nth a (0 + i))) (fun i => g (nth b i)) i) (g (nth (a ++ b) i)) := by
  refine LEqv.of_eq ?_
  rw [nth_append]
  unfold appF
  simp only [Nat.zero_add]
  split <;> rfl

theorem pc_List07 (c : List Cell) (keep : Int) : ∀ (h : Nat) (p : Int), h ≤ 20 → shape c h p → PC Try.prog 24 [aHeap c keep, aint .i64 p] (aItems (listOf c h p)) := by
  intro h
  induction h with
  | zero => exact fun p _ h => h.elim
  | succ h ih =>
    rintro p hh ⟨hu, hr, hs⟩
    have hu' := used_iff.1 hu
    have hl := rightNode_len hr
    unfold listOf
    unfold nodeOf at hl hs ⊢
    rcases hs with ⟨hlf, h0⟩ | ⟨hlf, hs⟩
    · refine PC_of tab_ok mixed (Try.func24) rfl (by kernel_rfl) (Nat.le_of_ble_eq_true rfl) rfl ?_
      (focus (refine (cwp_seq (cwp_region (sl rfl (sl rfl (seqQ_normal (cwp_seq (cwp_seq (cwp_region (sl rfl (an (by with_reducible rfl) (sl rfl (seqQ_normal (cwp_cond (an (fun (hb1 : decide (p < 0) = true) => ?_) (fun (hb2 : decide (p < 0) = false) => ?_))))))))))))))); rotate_right; (have hf2 := hb2; simp only [decide_eq_false_iff_not, Int.not_lt] at hf2; refine (cwp_skip (seqQ_normal (cwp_seq (cwp_region (sl rfl (sl rfl (sl rfl (Exists.intro (p.toNat) (an (an (by omega) (an (by omega) (show 4 = 4 from (by with_reducible rfl)))) (sl rfl (sl rfl (sl rfl (sl rfl (an (show [AV.d (dbool (nth c p.toNat).n.leaf), AV.d (dItems (nth c p.toNat).n.it)].length = 2 from rfl) (seqQ_normal (cwp_seq (cwp_seq (cwp_region (sl rfl (sl rfl (seqQ_normal (cwp_cond (oT hlf (cwp_seq (cwp_region (sl rfl (sl rfl (sl rfl (seqQ_normal (cwp_ret (seqQ_ret (endQ_ret (show DEqv (dItems (nth c p.toNat).n.it) (dItems (if (nth c p.toNat).n.leaf = true then (nth c p.toNat).n.it else List.flatMap (fun x => listOf c h x.v) (nth c p.toNat).n.it)) from ?_)))))))))))))))))))))))))))))))))); rotate_right; (have hf1 := hb1; simp only [decide_eq_true_eq] at hf1; exfalso; omega)))
      rw [if_pos hlf]; exact DEqv.refl _
    · have hb : 4 ^ h ≤ 274877906944 := Nat.le_trans (Nat.pow_le_pow_right (by omega) (show h ≤ 19 by omega)) (by decide)
      have hpl : ∀ j, (((nth c p.toNat).n.it.take j).flatMap fun x => listOf c h x.v).length ≤ 4 * 274877906944 := by
        intro j
        have key : ∀ (l : List Item), (∀ x ∈ l, (listOf c h x.v).length ≤ 274877906944) → (l.flatMap fun x => listOf c h x.v).length ≤ l.length * 274877906944 := by
          intro l
          induction l with
          | nil => simp
          | cons x l ihl =>
            intro hx
            have h1 := hx x List.mem_cons_self
            have h2 := ihl fun y hy => hx y (List.mem_cons_of_mem _ hy)
            simp only [List.flatMap_cons, List.length_append, List.length_cons, Nat.succ_mul]
            omega
        refine Nat.le_trans (key _ fun x hx => ?_) ?_
        · obtain ⟨i, hi, rfl⟩ := List.getElem_of_mem (List.mem_of_mem_take hx)
          have := listOf_len c h _ (hs i hi)
          rw [nth_eq hi] at this
          omega
        · simp only [List.length_take]
          have : min j (nth c p.toNat).n.it.length ≤ 4 := by omega
          exact Nat.mul_le_mul_right _ this
      refine PC_of tab_ok mixed (Try.func24) rfl (by kernel_rfl) (Nat.le_of_ble_eq_true rfl) rfl ?_
      (focus (refine (cwp_seq (cwp_region (sl rfl (sl rfl (seqQ_normal (cwp_seq (cwp_seq (cwp_region (sl rfl (an (by with_reducible rfl) (sl rfl (seqQ_normal (cwp_cond (an (fun (hb1 : decide (p < 0) = true) => ?_) (fun (hb2 : decide (p < 0) = false) => ?_))))))))))))))); rotate_right; (have hf2 := hb2; simp only [decide_eq_false_iff_not, Int.not_lt] at hf2; refine (cwp_skip (seqQ_normal (cwp_seq (cwp_region (sl rfl (sl rfl (sl rfl (Exists.intro (p.toNat) (an (an (by omega) (an (by omega) (show 4 = 4 from (by with_reducible rfl)))) (sl rfl (sl rfl (sl rfl (sl rfl (an (show [AV.d (dbool (nth c p.toNat).n.leaf), AV.d (dItems (nth c p.toNat).n.it)].length = 2 from rfl) (seqQ_normal (cwp_seq (cwp_seq (cwp_region (sl rfl (sl rfl (seqQ_normal (cwp_cond (oF hlf (cwp_skip (seqQ_normal (cwp_seq (cwp_region (sl rfl (seqQ_normal (cwp_seq (cwp_seq (cwp_region (sl rfl (seqQ_normal (cwp_block (cwp_loop ?_))))))))))))))))))))))))))))))))))))); rotate_right; (have hf1 := hb1; simp only [decide_eq_true_eq] at hf1; exfalso; omega)))
      refine AWP.ghost 6 2 (g := fun _ => []) rfl ?_
      refine AWP_for tab_ok mixed (fun j => (nth c p.toNat).n.it.length - j) (fun j => j ≤ (nth c p.toNat).n.it.length)
        (fun j => [(2, .own 0 0), (5, .own 1 0), (6, .row 2 2 0 (((nth c p.toNat).n.it.take j).flatMap fun x => listOf c h x.v).length), (7, aint .i64 (j : Nat))])
        (fun j => [some (.cells [.d (dCells c), .d (dint keep)]), some (.cells [.d (dbool (nth c p.toNat).n.leaf), .d (dItems (nth c p.toNat).n.it)]),
          some (.arr 2 (((nth c p.toNat).n.it.take j).flatMap fun x => listOf c h x.v).length fun i => dItem (nth (((nth c p.toNat).n.it.take j).flatMap fun x => listOf c h x.v) i))]) 0 [0, 1, 2] ?_ (Nat.zero_le _) ?_
      · (refine (an (an rfl (an rfl (an rfl (Nat.le_of_ble_eq_true rfl)))) (an (an (an (an rfl (by with_reducible rfl)) (Nat.le_of_ble_eq_true rfl)) (an (an (an rfl (by with_reducible rfl)) (Nat.le_of_ble_eq_true rfl)) (an (an (an rfl (an (by with_reducible rfl) (an (by with_reducible rfl) rfl))) (Nat.le_of_ble_eq_true rfl)) (an (DEqv.refl _) True.intro)))) (an (an (DEqv.refl _) (an (DEqv.refl _) True.intro)) (an (an (DEqv.refl _) (an (DEqv.refl _) True.intro)) (an (an (an (by with_reducible rfl) rfl) forall_lt_zero) True.intro))))))
      · intro j hj
        have h1 := hpl j
        by_cases hlt : j < (nth c p.toNat).n.it.length
        · have h2 := listOf_len c h _ (hs j hlt)
          (focus (refine (cwp_seq (cwp_seq (cwp_region (sl rfl (sl rfl (sl rfl (sl rfl (an (by with_reducible rfl) (sl rfl (seqQ_normal (cwp_cond (an (fun (hb1 : decide ((↑j : Int) < (↑(nth c p.toNat).n.it.length : Int)) = true) => ?_) (fun (hb2 : decide ((↑j : Int) < (↑(nth c p.toNat).n.it.length : Int)) = false) => ?_))))))))))))); rotate_right; (have hf2 := hb2; simp only [decide_eq_false_iff_not, Int.not_lt] at hf2; exfalso; omega); rotate_right; (have hf1 := hb1; simp only [decide_eq_true_eq] at hf1; refine (cwp_skip (seqQ_normal (cwp_seq (cwp_block (cwp_draw (sl rfl (sl rfl (sl rfl (sl rfl (sl rfl (Exists.intro (j) (an (an (by with_reducible rfl) (an (by assumption) (show 2 = 2 from (by with_reducible rfl)))) (sl rfl (sl rfl (sl rfl (Or.inl (PC.on (ih _ (by omega) (hs j hlt)) (sl rfl (an (an (Or.inr (show 2 = 2 from (by with_reducible rfl))) (fun i => (fun hi => (show ((fun i => dItem (nth (listOf c h (nth (nth c p.toNat).n.it j).v) i)) i).length = 2 from rfl)))) (an (an (show 2 = 2 from (by with_reducible rfl)) (an (show 2 = 2 from (by with_reducible rfl)) (fun i => (fun hi => (show ((fun i => dItem (nth (List.flatMap (fun x => listOf c h x.v) (List.take j (nth c p.toNat).n.it)) i)) i).length = 2 from rfl))))) (Or.inr (an (an (by omega) (an (show ((List.flatMap (fun x => listOf c h x.v) (List.take j (nth c p.toNat).n.it)).length + (listOf c h (nth (nth c p.toNat).n.it j).v).length) * 16 ≤ big from (by unfold big; omega)) (by unfold big; omega))) (sl rfl (sl rfl (an (by kernel_rfl) (blockQ_normal (seqQ_normal (cwp_region (sl rfl (an (by with_reducible rfl) (ez (wrap64 (by omega)) (sl rfl (sl rfl (seqQ_normal (show Exists _ from ?_))))))))))))))))))))))))))))))))))))))
          refine ⟨j + 1, [0, 1, 3], ⟨by omega, by omega⟩, ?_⟩
          (refine (an (an rfl (an rfl (an rfl (Nat.le_of_ble_eq_true rfl)))) (an (an (an (an rfl (by with_reducible rfl)) (Nat.le_of_ble_eq_true rfl)) (an (an (an rfl (by with_reducible rfl)) (Nat.le_of_ble_eq_true rfl)) (an (an (an rfl (an (show 2 = 2 from (by with_reducible rfl)) (an (by with_reducible rfl) (show (List.flatMap (fun x => listOf c h x.v) (List.take j (nth c p.toNat).n.it)).length + (listOf c h (nth (nth c p.toNat).n.it j).v).length = (List.flatMap (fun x => listOf c h x.v) (List.take (j + 1) (nth c p.toNat).n.it)).length from ?_)))) (Nat.le_of_ble_eq_true rfl)) (an (DEqv.refl _) True.intro)))) (an (an (DEqv.refl _) (an (DEqv.refl _) True.intro)) (an (an (DEqv.refl _) (an (DEqv.refl _) True.intro)) (an (an (an (show 2 = 2 from (by with_reducible rfl)) (show (List.flatMap (fun x => listOf c h x.v) (List.take j (nth c p.toNat).n.it)).length + (listOf c h (nth (nth c p.toNat).n.it j).v).length = (List.flatMap (fun x => listOf c h x.v) (List.take (j + 1) (nth c p.toNat).n.it)).length from ?_)) (fun i => (fun hi => (show LEqv (appF (List.flatMap (fun x => listOf c h x.v) (List.take j (nth c p.toNat).n.it)).length (fun i => dItem (nth (List.flatMap (fun x => listOf c h x.v) (List.take j (nth c p.toNat).n.it)) (0 + i))) (fun i => dItem (nth (listOf c h (nth (nth c p.toNat).n.it j).v) i)) i) (dItem (nth (List.flatMap (fun x => listOf c h x.v) (List.take (j + 1) (nth c p.toNat).n.it)) i)) from ?_)))) True.intro))))))
          · rw [flatMap_take _ (by omega), List.length_append]
          · rw [flatMap_take _ (by omega), List.length_append]
          · rw [flatMap_take _ (by omega)]; exact LEqv_append dItem _ _ _
        · have e : j = (nth c p.toNat).n.it.length := by omega
          (focus (refine (cwp_seq (cwp_seq (cwp_region (sl rfl (sl rfl (sl rfl (sl rfl (an (by with_reducible rfl) (sl rfl (seqQ_normal (cwp_cond (an (fun (hb1 : decide ((↑j : Int) < (↑(nth c p.toNat).n.it.length : Int)) = true) => ?_) (fun (hb2 : decide ((↑j : Int) < (↑(nth c p.toNat).n.it.length : Int)) = false) => ?_))))))))))))); rotate_right; (have hf2 := hb2; simp only [decide_eq_false_iff_not, Int.not_lt] at hf2; refine (cwp_exit (seqQ_exit (seqQ_exit (blockQ_here rfl (seqQ_normal (cwp_seq (cwp_region (sl rfl (sl rfl (seqQ_normal (cwp_ret (endQ_ret (an (by with_reducible rfl) (an (an (by with_reducible rfl) (an (by omega) (an (show (List.flatMap (fun x => listOf c h x.v) (List.take j (nth c p.toNat).n.it)).length = (if (nth c p.toNat).n.leaf = true then (nth c p.toNat).n.it else List.flatMap (fun x => listOf c h x.v) (nth c p.toNat).n.it).length from ?_) (Or.inr (by with_reducible rfl))))) (fun i => (fun hi => (show LEqv (dItem (nth (List.flatMap (fun x => listOf c h x.v) (List.take j (nth c p.toNat).n.it)) (0 + i))) (dItem (nth (if (nth c p.toNat).n.leaf = true then (nth c p.toNat).n.it else List.flatMap (fun x => listOf c h x.v) (nth c p.toNat).n.it) i)) from ?_)))))))))))))))))); rotate_right; (have hf1 := hb1; simp only [decide_eq_true_eq] at hf1; exfalso; omega)))
          · rw [if_neg (by simp [hlf]), e, List.take_length]
          · rw [if_neg (by simp [hlf]), e, List.take_length, Nat.zero_add]; exact LEqv.refl _

/-- What a key tells in a row. -/
def getIn (l : List Item) (key : Int) : Int × Nat := if whereIs l key < l.length then ((nth l (whereIs l key)).v, 0) else (0, 4)

theorem pc_Get07 (c : List Cell) (keep key : Int) (h : Nat) (p : Int) (hh : h ≤ 20) (hs : shape c h p) :
    PC Try.prog 25 [aHeap c keep, aint .i64 p, aint .i64 key] (.tup [aint .i64 (getIn (listOf c h p) key).1, aint .i64 (getIn (listOf c h p) key).2]) := by
  have hb : (listOf c h p).length ≤ 1099511627776 := Nat.le_trans (listOf_len c h p hs) (Nat.le_trans (Nat.pow_le_pow_right (by omega) hh) (by decide))
  refine PC_of tab_ok mixed (Try.func25) rfl (by kernel_rfl) (Nat.le_of_ble_eq_true rfl) rfl ?_
  (refine (cwp_seq (cwp_region (sl rfl (sl rfl (sl rfl (seqQ_normal (cwp_seq (cwp_region (sl rfl (sl rfl (Or.inl (PC.on (pc_List07 c keep h p hh hs) (sl rfl (sl rfl (seqQ_normal (cwp_seq (cwp_seq (cwp_region (sl rfl (seqQ_normal (cwp_block (cwp_loop ?_)))))))))))))))))))))))
  refine AWP_for tab_ok mixed (fun k => (listOf c h p).length - k) (fun k => k ≤ (listOf c h p).length ∧ allTo k (fun i => (nth (listOf c h p) i).k != key) = true) (fun k => [(2, aint .i64 key), (8, aItems (listOf c h p)), (9, aint .i64 (k : Nat))])
    (fun _ => []) 0 [] ?_ ⟨Nat.zero_le _, rfl⟩ ?_
  · (refine (an (an (by omega) (an rfl (an rfl (Nat.le_of_ble_eq_true rfl)))) (an (an (DEqv.refl _) (an (DEqv.refl _) (an (DEqv.refl _) True.intro))) True.intro)))
  · rintro k ⟨hk, hall⟩
    (focus (refine (cwp_seq (cwp_seq (cwp_region (sl rfl (sl rfl (sl rfl (an (by with_reducible rfl) (sl rfl (seqQ_normal (cwp_cond (an (fun (hb1 : decide ((↑k : Int) < (↑(listOf c h p).length : Int)) = true) => ?_) (fun (hb4 : decide ((↑k : Int) < (↑(listOf c h p).length : Int)) = false) => ?_)))))))))))); rotate_right; (have hf4 := hb4; simp only [decide_eq_false_iff_not, Int.not_lt] at hf4; refine (cwp_exit (seqQ_exit (seqQ_exit (blockQ_here rfl (seqQ_normal (cwp_seq (cwp_region (sl rfl (sl rfl (seqQ_normal (cwp_ret (endQ_ret (an (DEqv.int (show 0 = (getIn (listOf c h p) key).fst from ?_)) (an (DEqv.int (show 4 = (↑(getIn (listOf c h p) key).snd : Int) from ?_)) True.intro))))))))))))))); rotate_right; (have hf1 := hb1; simp only [decide_eq_true_eq] at hf1; focus (refine (cwp_skip (seqQ_normal (cwp_seq (cwp_block (cwp_seq (cwp_region (sl rfl (sl rfl (Exists.intro (k) (an (an (by with_reducible rfl) (an (by omega) (show 2 = 2 from (by with_reducible rfl)))) (sl rfl (sl rfl (sl rfl (sl rfl (an (by with_reducible rfl) (sl rfl (seqQ_normal (cwp_cond (an (fun (hb2 : ((nth (listOf c h p) k).k == key) = true) => ?_) (fun (hb3 : ((nth (listOf c h p) k).k == key) = false) => ?_)))))))))))))))))))); rotate_right; (have hf3 := hb3; simp only [ne_eq, beq_eq_false_iff_ne] at hf3; refine (cwp_skip (blockQ_normal (seqQ_normal (cwp_region (sl rfl (an (by with_reducible rfl) (ez (wrap64 (by omega)) (sl rfl (sl rfl (seqQ_normal (show Exists _ from ?_)))))))))))); rotate_right; (have hf2 := hb2; simp only [beq_iff_eq] at hf2; refine (cwp_seq (cwp_region (sl rfl (sl rfl (Exists.intro (k) (an (an (by with_reducible rfl) (an (by omega) (show 2 = 2 from (by with_reducible rfl)))) (sl rfl (sl rfl (sl rfl (sl rfl (sl rfl (seqQ_normal (cwp_ret (blockQ_ret (seqQ_ret (seqQ_ret (blockQ_ret (seqQ_ret (endQ_ret (an (DEqv.int (show (nth (listOf c h p) k).v = (getIn (listOf c h p) key).fst from ?_)) (an (DEqv.int (show 0 = (↑(getIn (listOf c h p) key).snd : Int) from ?_)) True.intro))))))))))))))))))))))))))
    · have e := whereIs_eq (by omega) hall (by assumption)
      simp [getIn, e, show k < (listOf c h p).length by omega]
    · have e := whereIs_eq (by omega) hall (by assumption)
      simp [getIn, e, show k < (listOf c h p).length by omega]
    · refine ⟨k + 1, [], ⟨by omega, by omega, allTo_step hall (by simp [*])⟩, ?_⟩
      (refine (an (an (by omega) (an rfl (an rfl (Nat.le_of_ble_eq_true rfl)))) (an (an (DEqv.refl _) (an (DEqv.refl _) (an (DEqv.refl _) True.intro))) True.intro)))
    · have e := whereIs_none (by omega) hall
      simp only [getIn, if_neg e]
    · have e := whereIs_none (by omega) hall
      simp only [getIn, if_neg e]; rfl

def inRange (lo hi : Int) (x : Item) : Bool := decide (lo ≤ x.k ∧ x.k < hi)
theorem pc_Scan07 (c : List Cell) (keep lo up : Int) (h : Nat) (p : Int) (hh : h ≤ 20) (hs : shape c h p) :
    PC Try.prog 34 [aHeap c keep, aint .i64 p, aint .i64 lo, aint .i64 up] (aItems ((listOf c h p).filter (inRange lo up))) := by
  have hb : (listOf c h p).length ≤ 1099511627776 := Nat.le_trans (listOf_len c h p hs) (Nat.le_trans (Nat.pow_le_pow_right (by omega) hh) (by decide))
  refine PC_of tab_ok mixed (Try.func34) rfl (by kernel_rfl) (Nat.le_of_ble_eq_true rfl) rfl ?_
  (refine (cwp_seq (cwp_region (sl rfl (sl rfl (seqQ_normal (cwp_seq (cwp_region (sl rfl (sl rfl (Or.inl (PC.on (pc_List07 c keep h p hh hs) (sl rfl (sl rfl (seqQ_normal (cwp_seq (cwp_region (sl rfl (seqQ_normal (cwp_seq (cwp_seq (cwp_region (sl rfl (seqQ_normal (cwp_block (cwp_loop ?_))))))))))))))))))))))))))
  generalize listOf c h p = l at hb
  refine AWP.ghost 10 2 (g := fun _ => []) rfl ?_
  refine AWP_for tab_ok mixed (fun k => l.length - k) (fun k => k ≤ l.length)
    (fun k => [(2, aint .i64 lo), (3, aint .i64 up), (9, aItems l), (10, .row 0 2 0 ((l.take k).filter (inRange lo up)).length), (11, aint .i64 (k : Nat))])
    (fun k => [some (.arr 2 ((l.take k).filter (inRange lo up)).length fun i => dItem (nth ((l.take k).filter (inRange lo up)) i))]) 0 [1] ?_ (Nat.zero_le _) ?_
  · (refine (an (an rfl (an rfl (an rfl (Nat.le_of_ble_eq_true rfl)))) (an (an (DEqv.refl _) (an (DEqv.refl _) (an (DEqv.refl _) (an (an (an rfl (an (by with_reducible rfl) (an (by with_reducible rfl) rfl))) (Nat.le_of_ble_eq_true rfl)) (an (DEqv.refl _) True.intro))))) (an (an (an (by with_reducible rfl) rfl) forall_lt_zero) True.intro))))
  · intro k hk
    have hle : ((l.take k).filter (inRange lo up)).length ≤ l.length := Nat.le_trans (List.length_filter_le _ _) (by simp; omega)
    by_cases hlt : k < l.length
    · (focus (refine (cwp_seq (cwp_seq (cwp_region (sl rfl (sl rfl (sl rfl (an (by with_reducible rfl) (sl rfl (seqQ_normal (cwp_cond (an (fun (hb1 : decide ((↑k : Int) < (↑l.length : Int)) = true) => ?_) (fun (hb6 : decide ((↑k : Int) < (↑l.length : Int)) = false) => ?_)))))))))))); rotate_right; (have hf6 := hb6; simp only [decide_eq_false_iff_not, Int.not_lt] at hf6; exfalso; omega); rotate_right; (have hf1 := hb1; simp only [decide_eq_true_eq] at hf1; focus (refine (cwp_skip (seqQ_normal (cwp_seq (cwp_block (cwp_seq (cwp_region (sl rfl (sl rfl (Exists.intro (k) (an (an (by with_reducible rfl) (an (by assumption) (show 2 = 2 from (by with_reducible rfl)))) (sl rfl (sl rfl (sl rfl (sl rfl (an (by with_reducible rfl) (sl rfl (sl rfl (sl rfl (an (fun (hb2 : decide ((nth l k).k ≥ lo) = true) => ?_) (fun (hb5 : decide ((nth l k).k ≥ lo) = false) => ?_)))))))))))))))))))); rotate_right; (have hf5 := hb5; simp only [decide_eq_false_iff_not, Int.not_le] at hf5; refine (sl rfl (sl rfl (oF hb5 (sl rfl (sl rfl (oF hb5 (sl rfl (sl rfl (oF hb5 (sl rfl (sl rfl (oF hb5 (sl rfl (sl rfl (oF hb5 (sl rfl (sl rfl (oF hb5 (sl rfl (oF hb5 (sl rfl (seqQ_normal (cwp_cond (oF rfl (cwp_skip (blockQ_normal (seqQ_normal (cwp_region (sl rfl (an (by with_reducible rfl) (ez (wrap64 (by omega)) (sl rfl (sl rfl (seqQ_normal (show Exists _ from ?_)))))))))))))))))))))))))))))))))))); rotate_right; (have hf2 := hb2; simp only [decide_eq_true_eq, ge_iff_le] at hf2; focus (refine (sl rfl (sl rfl (oT hb2 (sl rfl (sl rfl (oT hb2 (Exists.intro (k) (an (an (by with_reducible rfl) (an (by assumption) (show 2 = 2 from (by with_reducible rfl)))) (sl rfl (sl rfl (oT hb2 (sl rfl (sl rfl (oT hb2 (sl rfl (sl rfl (oT hb2 (sl rfl (sl rfl (oT hb2 (an (by with_reducible rfl) (sl rfl (oT hb2 (sl rfl (seqQ_normal (cwp_cond (an (fun (hb3 : decide ((nth l k).k < up) = true) => ?_) (fun (hb4 : decide ((nth l k).k < up) = false) => ?_)))))))))))))))))))))))))))); rotate_right; (have hf4 := hb4; simp only [decide_eq_false_iff_not, Int.not_lt] at hf4; refine (cwp_skip (blockQ_normal (seqQ_normal (cwp_region (sl rfl (an (by with_reducible rfl) (ez (wrap64 (by omega)) (sl rfl (sl rfl (seqQ_normal (show Exists _ from ?_)))))))))))); rotate_right; (have hf3 := hb3; simp only [decide_eq_true_eq] at hf3; refine (cwp_region (sl rfl (sl rfl (sl rfl (Exists.intro (k) (an (an (by with_reducible rfl) (an (by assumption) (show 2 = 2 from (by with_reducible rfl)))) (sl rfl (sl rfl (an (an (show 1 * 2 ≤ 16777216 from (Nat.le_of_ble_eq_true rfl)) (Nat.le_of_ble_eq_true rfl)) (an (show [AV.d (dint (nth l k).k), AV.d (dint (nth l k).v)].length = 2 from rfl) (sl rfl (an (an (Or.inr (show 2 = 2 from (by with_reducible rfl))) (forall_lt_one (show ((fun q => List.take 2 (List.drop (q * 2) [dint (nth l k).k, dint (nth l k).v])) 0).length = 2 from rfl))) (an (an (show 2 = 2 from (by with_reducible rfl)) (an (show 2 = 2 from (by with_reducible rfl)) (fun i => (fun hi => (show ((fun i => dItem (nth (List.filter (inRange lo up) (List.take k l)) i)) i).length = 2 from rfl))))) (Or.inr (an (an (by omega) (an (show ((List.filter (inRange lo up) (List.take k l)).length + 1) * 16 ≤ big from (by unfold big; omega)) (by unfold big; omega))) (sl rfl (sl rfl (blockQ_normal (seqQ_normal (cwp_region (sl rfl (an (by with_reducible rfl) (ez (wrap64 (by omega)) (sl rfl (sl rfl (seqQ_normal (show Exists _ from ?_))))))))))))))))))))))))))))))))))
      all_goals first
        | (refine ⟨k + 1, [1], ⟨by omega, by omega⟩, ?_⟩
           have e : (l.take (k + 1)).filter (inRange lo up) = (l.take k).filter (inRange lo up) ++ [nth l k] := by
             rw [take_succ hlt, List.filter_append, List.filter_cons_of_pos (by unfold inRange; simp only [decide_eq_true_eq]; omega), List.filter_nil]
           (refine (an (an rfl (an rfl (an rfl (Nat.le_of_ble_eq_true rfl)))) (an (an (DEqv.refl _) (an (DEqv.refl _) (an (DEqv.refl _) (an (an (an rfl (an (show 2 = 2 from (by with_reducible rfl)) (an (by with_reducible rfl) (show (List.filter (inRange lo up) (List.take k l)).length + 1 = (List.filter (inRange lo up) (List.take (k + 1) l)).length from ?_)))) (Nat.le_of_ble_eq_true rfl)) (an (DEqv.refl _) True.intro))))) (an (an (an (show 2 = 2 from (by with_reducible rfl)) (show (List.filter (inRange lo up) (List.take k l)).length + 1 = (List.filter (inRange lo up) (List.take (k + 1) l)).length from ?_)) (fun i => (fun hi => (show LEqv (appF (List.filter (inRange lo up) (List.take k l)).length (fun i => dItem (nth (List.filter (inRange lo up) (List.take k l)) (0 + i))) (fun q => List.take ti26.size (List.drop (q * ti26.size) [dint (nth l k).k, dint (nth l k).v])) i) (dItem (nth (List.filter (inRange lo up) (List.take (k + 1) l)) i)) from ?_)))) True.intro))))
           · rw [e, List.length_append]; rfl
           · rw [e, List.length_append]; rfl
           · rw [e]
             refine LEqv_app1 (h := fun i => dItem (nth ((l.take k).filter (inRange lo up) ++ [nth l k]) i)) hi (fun h1 => LEqv.of_eq ?_) (LEqv.of_eq ?_)
             · simp only [Nat.zero_add, nth_append, if_pos h1]
             · simp only [nth_append, Nat.lt_irrefl, if_false, Nat.sub_self]; rfl)
        | (refine ⟨k + 1, [0], ⟨by omega, by omega⟩, ?_⟩
           have e : (l.take (k + 1)).filter (inRange lo up) = (l.take k).filter (inRange lo up) := by
             rw [take_succ hlt, List.filter_append, List.filter_cons_of_neg (by unfold inRange; simp only [decide_eq_true_eq]; omega), List.filter_nil, List.append_nil]
           rw [e]
           (refine (an (an rfl (an rfl (an rfl (Nat.le_of_ble_eq_true rfl)))) (an (an (DEqv.refl _) (an (DEqv.refl _) (an (DEqv.refl _) (an (an (an rfl (an (by with_reducible rfl) (an (by with_reducible rfl) (by with_reducible rfl)))) (Nat.le_of_ble_eq_true rfl)) (an (DEqv.refl _) True.intro))))) (an (an (an (by with_reducible rfl) (by with_reducible rfl)) (fun i => (fun hi => (LEqv.refl _)))) True.intro)))))
    · have e : k = l.length := by omega
      (focus (refine (cwp_seq (cwp_seq (cwp_region (sl rfl (sl rfl (sl rfl (an (by with_reducible rfl) (sl rfl (seqQ_normal (cwp_cond (an (fun (hb1 : decide ((↑k : Int) < (↑l.length : Int)) = true) => ?_) (fun (hb2 : decide ((↑k : Int) < (↑l.length : Int)) = false) => ?_)))))))))))); rotate_right; (have hf2 := hb2; simp only [decide_eq_false_iff_not, Int.not_lt] at hf2; refine (cwp_exit (seqQ_exit (seqQ_exit (blockQ_here rfl (seqQ_normal (cwp_seq (cwp_region (sl rfl (sl rfl (seqQ_normal (cwp_ret (endQ_ret (an (by with_reducible rfl) (an (an (by with_reducible rfl) (an (by omega) (an (show (List.filter (inRange lo up) (List.take k l)).length = (List.filter (inRange lo up) l).length from ?_) (Or.inr (by with_reducible rfl))))) (fun i => (fun hi => (show LEqv (dItem (nth (List.filter (inRange lo up) (List.take k l)) (0 + i))) (dItem (nth (List.filter (inRange lo up) l) i)) from ?_)))))))))))))))))); rotate_right; (have hf1 := hb1; simp only [decide_eq_true_eq] at hf1; exfalso; omega)))
      · rw [e, List.take_length]
      · rw [e, List.take_length, Nat.zero_add]; exact LEqv.refl _

theorem pc_Need07 (h : Nat) (hh : h ≤ 1000) : PC Try.prog 46 [aint .i64 (h : Nat)] (aint .i64 ((2 * h + 1 : Nat) : Int)) := by
  refine PC_of tab_ok mixed (Try.func46) rfl (by kernel_rfl) (Nat.le_of_ble_eq_true rfl) rfl ?_
  (refine (cwp_seq (cwp_region (sl rfl (seqQ_normal (cwp_seq (cwp_region (sl rfl (an (by with_reducible rfl) (ez (wrap64 (by omega)) (sl rfl (an (by with_reducible rfl) (ez (wrap64 (by omega)) (sl rfl (sl rfl (seqQ_normal (cwp_ret (endQ_ret (DEqv.refl _)))))))))))))))))))
end Go.Proofs.Abs
