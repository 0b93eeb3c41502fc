/- Rows that are made by the references. -/
import Derived.Test.YtonbocppkanogaaZC3
set_option linter.all false
namespace Go.Proofs.Abs
open Go Go.RowKit Go.Proofs
attribute [local irreducible] cwp seqQ blockQ endQ DEqv LEqv AWP drawOK

theorem LEqv.int {a b : Int} (h : a = b) : LEqv [dint a] [dint b] := h ▸ LEqv.refl _
theorem LEqv_app1 {k i : Nat} {f g h : Nat → List D} (hi : i < k + 1) (h1 : i < k → LEqv (f i) (h i)) (h2 : LEqv (g 0) (h k)) : LEqv (appF k f g i) (h i) := by
  unfold appF
  by_cases e : i < k
  · rw [if_pos e]; exact h1 e
  · obtain rfl : i = k := by omega
    rw [if_neg e, Nat.sub_self]; exact h2
theorem LEqv_app {k n i : Nat} {f g h : Nat → List D} (hi : i < k + n) (h1 : i < k → LEqv (f i) (h i)) (h2 : ∀ j, j < n → LEqv (g j) (h (k + j))) : LEqv (appF k f g i) (h i) := by
  unfold appF
  by_cases e : i < k
  · rw [if_pos e]; exact h1 e
  · rw [if_neg e]
    have := h2 (i - k) (by omega)
    rwa [show k + (i - k) = i by omega] at this

theorem nth_map {α β : Type} [Inhabited α] [Inhabited β] (f : α → β) {l : List α} {i : Nat} (h : i < l.length) : nth (l.map f) i = f (nth l i) := by
  rw [nth_eq h, nth_eq (by simpa using h)]; simp
theorem nth_append {α : Type} [Inhabited α] (l r : List α) (i : Nat) : nth (l ++ r) i = if i < l.length then nth l i else nth r (i - l.length) := by
  unfold nth
  by_cases h : i < l.length
  · simp [h, List.getElem?_append_left h]
  · rw [if_neg h]; simp [List.getElem?_append_right (Nat.le_of_not_lt h)]
theorem nth_set {α : Type} [Inhabited α] (l : List α) (p i : Nat) (x : α) (hp : p < l.length) : nth (l.set p x) i = if i = p then x else nth l i := by
  unfold nth
  by_cases h : i = p
  · subst h; simp [hp]
  · rw [if_neg h]; simp [List.getElem?_set_ne (Ne.symm h)]
theorem nth_drop {α : Type} [Inhabited α] (l : List α) (k i : Nat) : nth (l.drop k) i = nth l (k + i) := by simp [nth]
theorem nth_take {α : Type} [Inhabited α] (l : List α) (k i : Nat) (h : i < k) : nth (l.take k) i = nth l i := by simp [nth, h]

theorem pc_V (l : List Item) (hl : l.length ≤ 1000) : PC Try.prog 52 [aItems l] (aInts (l.map (·.v))) := by
  refine PC_of tab_ok mixed Try.func52 rfl (by kernel_rfl) (Nat.le_of_ble_eq_true rfl) rfl ?_
  (refine (cwp_seq (cwp_region (sl rfl (seqQ_normal (cwp_seq (cwp_region (sl rfl (seqQ_normal (cwp_seq (cwp_seq (cwp_region (sl rfl (seqQ_normal (cwp_block (cwp_loop ?_))))))))))))))))
  refine AWP.ghost 3 1 (g := fun _ => []) rfl ?_
  refine AWP_for tab_ok mixed (fun k => l.length - k) (fun k => k ≤ l.length) (fun k => [(0, aItems l), (3, .row 0 1 0 k), (4, aint .i64 (k : Nat))]) (fun k => [some (.arr 1 k fun i => [dint (nth l i).v])]) 0 [0] ?_ (Nat.zero_le _) ?_
  · (refine (an (an rfl (an rfl (an rfl (Nat.le_of_ble_eq_true rfl)))) (an (an (DEqv.refl _) (an (an (an rfl (an (by with_reducible rfl) (an (by with_reducible rfl) (by with_reducible rfl)))) (Nat.le_of_ble_eq_true rfl)) (an (DEqv.refl _) True.intro))) (an (an (an (by with_reducible rfl) (by with_reducible rfl)) forall_lt_zero) True.intro))))
  · intro k hk
    (focus (refine (cwp_seq (cwp_seq (cwp_region (sl rfl (sl rfl (sl rfl (an (by with_reducible rfl) (sl rfl (seqQ_normal (cwp_cond (an (fun (hb1 : decide ((↑k : Int) < (↑l.length : Int)) = true) => ?_) (fun (hb2 : decide ((↑k : Int) < (↑l.length : Int)) = false) => ?_)))))))))))); rotate_right; (have hf2 := hb2; simp only [decide_eq_false_iff_not, Int.not_lt] at hf2; refine (cwp_exit (seqQ_exit (seqQ_exit (blockQ_here rfl (seqQ_normal (cwp_seq (cwp_region (sl rfl (sl rfl (seqQ_normal (cwp_ret (endQ_ret (an (by with_reducible rfl) (an (an (by with_reducible rfl) (an (by omega) (an (show k = (List.map (fun x => x.v) l).length from ?_) (Or.inr (by with_reducible rfl))))) (fun i => (fun hi => (show LEqv [dint (nth l (0 + i)).v] [dint (nth (List.map (fun x => x.v) l) i)] from ?_)))))))))))))))))); rotate_right; (have hf1 := hb1; simp only [decide_eq_true_eq] at hf1; refine (cwp_skip (seqQ_normal (cwp_seq (cwp_block (cwp_region (sl rfl (sl rfl (sl rfl (Exists.intro (k) (an (an (by with_reducible rfl) (an (by omega) (show 2 = 2 from (by with_reducible rfl)))) (sl rfl (sl rfl (sl rfl (an (an (show 1 * 1 ≤ 16777216 from (Nat.le_of_ble_eq_true rfl)) (Nat.le_of_ble_eq_true rfl)) (an (show [AV.d (dint (nth l k).v)].length = 1 from rfl) (sl rfl (an (an (Or.inr (show 1 = 1 from (by with_reducible rfl))) (forall_lt_one (show ((fun q => List.take 1 (List.drop (q * 1) [dint (nth l k).v])) 0).length = 1 from rfl))) (an (an (show 1 = 1 from (by with_reducible rfl)) (an (show 1 = 1 from (by with_reducible rfl)) (fun i => (fun hi => (show ((fun i => [dint (nth l i).v]) i).length = 1 from rfl))))) (Or.inr (an (an (by omega) (an (show (k + 1) * 8 ≤ big from (by unfold big; omega)) (by unfold big; omega))) (sl rfl (sl rfl (blockQ_normal (seqQ_normal (cwp_region (sl rfl (an (by with_reducible rfl) (ez (wrap64 (by omega)) (sl rfl (sl rfl (seqQ_normal (show Exists _ from ?_)))))))))))))))))))))))))))))))))))
    · refine ⟨k + 1, [1], ⟨by omega, by omega⟩, ?_⟩
      (refine (an (an rfl (an rfl (an rfl (Nat.le_of_ble_eq_true rfl)))) (an (an (DEqv.refl _) (an (an (an rfl (an (show 1 = 1 from (by with_reducible rfl)) (an (by with_reducible rfl) (by with_reducible rfl)))) (Nat.le_of_ble_eq_true rfl)) (an (DEqv.refl _) True.intro))) (an (an (an (show 1 = 1 from (by with_reducible rfl)) (by with_reducible rfl)) (fun i => (fun hi => (show LEqv (appF k (fun i => [dint (nth l (0 + i)).v]) (fun q => List.take ti3.size (List.drop (q * ti3.size) [dint (nth l k).v])) i) [dint (nth l i).v] from ?_)))) True.intro))))
      refine LEqv_app1 (h := fun i => [dint (nth l i).v]) hi (fun _ => LEqv.of_eq ?_) (LEqv.refl _)
      simp
    · simp; omega
    · exact LEqv.of_eq (by simp [nth_map _ (show i < l.length by simpa using hi)])

/-- A heap with a cell instead of another one. -/
def dCellsSet (c : List Cell) (p : Nat) (x : Cell) : List Cell := c.set p x
def aCell (x : Cell) : AV := .agg [.d (dint x.ref), .d (dbool x.pin), .d (dbool x.n.leaf), .d (dItems x.n.it)]

theorem pc_set (c : List Cell) (keep p : Int) (x : Cell) (hc : c.length ≤ 2000) (h0 : 0 ≤ p) (h1 : p < c.length) : PC Try.prog 75 [aHeap c keep, aint .i64 p, aCell x] (aHeap (c.set p.toNat x) keep) := by
  refine PC_of tab_ok mixed Try.func75 rfl (by kernel_rfl) (Nat.le_of_ble_eq_true rfl) rfl ?_
  (refine (cwp_seq (cwp_region (sl rfl (sl rfl (sl rfl (seqQ_normal (cwp_seq (cwp_region (an (an (show 0 * 4 ≤ 16777216 from (Nat.le_of_ble_eq_true rfl)) (Nat.le_of_ble_eq_true rfl)) (sl rfl (sl rfl (sl rfl (an (an (Or.inr (show 4 = 4 from (by with_reducible rfl))) (fun i => (fun hi => (show ((fun i => dCell (nth c i)) i).length = 4 from rfl)))) (an (an (an (by with_reducible rfl) (Or.inl (by with_reducible rfl))) (an (Or.inl (by with_reducible rfl)) (an forall_lt_zero (an (show (0 + c.length) * 48 ≤ big from (by unfold big; omega)) (by unfold big; omega))))) (sl rfl (sl rfl (seqQ_normal (cwp_seq (cwp_region (sl rfl (sl rfl (sl rfl (Exists.intro (p.toNat) (an (an (by omega) (an (by omega) (an (by omega) (an (show 4 = 4 from (by with_reducible rfl)) (show 4 = 4 from (by with_reducible rfl)))))) (sl rfl (an (show [id (AV.d (dint x.ref)), id (AV.d (dbool x.pin)), id (AV.d (dbool x.n.leaf)), id (AV.d (dItems x.n.it))].length = 4 from rfl) (an (an (an (show 4 = 4 from (by with_reducible rfl)) (by omega)) (fun i => (fun hi => (show (appF 0 (fun q => List.take 4 (List.drop (q * 4) [])) (fun i => dCell (nth c i)) i).length ≤ 4 from (Nat.le_of_ble_eq_true rfl))))) (seqQ_normal (cwp_seq (cwp_region (sl rfl (sl rfl (sl rfl (an (show [AV.row (0 + 1 + 1 + 1) 4 0 (0 + c.length)].length = 1 from rfl) (an rfl (sl rfl (an (show [AV.row (0 + 1 + 1 + 1) 4 0 (0 + c.length), AV.d (dint keep)].length = 2 from rfl) (seqQ_normal (cwp_ret (endQ_ret (an (an (by with_reducible rfl) (an (an (show 4 = 4 from (by with_reducible rfl)) (an (by omega) (an (show 0 + c.length = (c.set p.toNat x).length from ?_) (Or.inr (show 4 = 4 from (by with_reducible rfl)))))) (fun i => (fun hi => (show LEqv (setF (appF 0 (fun q => List.take ti79.size (List.drop (q * ti79.size) [])) fun i => dCell (nth c i)) p.toNat [dint x.ref, dbool x.pin, dbool x.n.leaf, dItems x.n.it] (0 + i)) (dCell (nth (c.set p.toNat x) i)) from ?_))))) (an (DEqv.refl _) True.intro)))))))))))))))))))))))))))))))))))))))))))
  · simp
  · have hp : p.toNat < c.length := by omega
    simp only [Nat.zero_add, Nat.add_zero, setF, nth_set _ _ _ _ hp]
    by_cases e : i = p.toNat
    · rw [if_pos e, if_pos e]; exact LEqv.refl _
    · rw [if_neg e, if_neg e]; exact LEqv.of_eq (by simp [appF])

theorem pc_set' (c : List Cell) (keep p ref : Int) (pin leaf : Bool) (it : List Item) (hc : c.length ≤ 2000) (h0 : 0 ≤ p) (h1 : p < c.length) :
    PC Try.prog 75 [aHeap c keep, aint .i64 p, .agg [.d (dint ref), .d (dbool pin), .d (dbool leaf), .d (dItems it)]] (aHeap (c.set p.toNat ⟨ref, pin, ⟨leaf, it⟩⟩) keep) :=
  pc_set c keep p ⟨ref, pin, ⟨leaf, it⟩⟩ hc h0 h1

def more (c : List Cell) (p : Int) : List Cell := c.set p.toNat { nth c p.toNat with ref := (nth c p.toNat).ref + 1 }

theorem pc_more (c : List Cell) (keep p : Int) (hc : c.length ≤ 2000) (h0 : 0 ≤ p) (h1 : p < c.length) (h2 : (nth c p.toNat).ref ≤ 4294967296) (h3 : 0 ≤ (nth c p.toNat).ref) : PC Try.prog 74 [aHeap c keep, aint .i64 p] (aHeap (more c p) keep) := by
  refine PC_of tab_ok mixed Try.func74 rfl (by kernel_rfl) (Nat.le_of_ble_eq_true rfl) rfl ?_
  (refine (cwp_seq (cwp_region (sl rfl (sl rfl (seqQ_normal (cwp_seq (cwp_region (sl rfl (sl rfl (sl rfl (Exists.intro (p.toNat) (an (an (by omega) (an (by omega) (show 4 = 4 from (by with_reducible rfl)))) (sl rfl (sl rfl (sl rfl (an (show [AV.d (dint (nth c p.toNat).ref), AV.d (dbool (nth c p.toNat).pin), AV.d (dbool (nth c p.toNat).n.leaf), AV.d (dItems (nth c p.toNat).n.it)].length = 4 from rfl) (seqQ_normal (cwp_seq (cwp_region (sl rfl (sl rfl (sl rfl (sl rfl (an (by with_reducible rfl) (ez (wrap64 (by omega)) (sl rfl (sl rfl (sl rfl (sl rfl (sl rfl (an rfl (an rfl (an rfl (sl rfl (Or.inl (PC.on (pc_set _ _ _ { nth c p.toNat with ref := (nth c p.toNat).ref + 1 } hc h0 h1) (sl rfl (an (show [AV.d (dCells (c.set p.toNat (let __src := nth c p.toNat; { ref := (nth c p.toNat).ref + 1, pin := __src.pin, n := __src.n }))), AV.d (dint keep)].length = 2 from rfl) (seqQ_normal (cwp_ret (endQ_ret (an (DEqv.refl _) (an (DEqv.refl _) True.intro))))))))))))))))))))))))))))))))))))))))))))
end Go.Proofs.Abs
