/- Right trees by the reference. -/
import Derived.Test.YtonbocppkanogaaZD1
set_option linter.all false
namespace Go.Proofs.Abs
open Go Go.RowKit Go.Proofs
attribute [local irreducible] cwp seqQ blockQ endQ DEqv LEqv AWP drawOK

structure Got where
  lo : Int
  hi : Int
  high : Int
  is : Bool
deriving Inhabited, DecidableEq
def noGot : Got := ⟨0, 0, 0, false⟩
def aGot (g : Got) : AV := .agg [.d (dint g.lo), .d (dint g.hi), .d (dint g.high), .d (dbool g.is)]

/-- What a round below a node finds wrong, and what it comes to. -/
def bad (it : List Item) (x out : Got) (i : Nat) : Bool :=
  !x.is || x.lo != (nth it i).k || (decide (0 < i) && (decide (x.lo ≤ out.hi) || out.high != x.high + 1))
def nxt (x out : Got) (i : Nat) : Got := ⟨if i = 0 then x.lo else out.lo, x.hi, if i = 0 then x.high + 1 else out.high, out.is⟩
def round (it : List Item) (f : Int → Got) (out : Got) (i : Nat) : Option Got :=
  if bad it (f (nth it i).v) out i then none else some (nxt (f (nth it i).v) out i)
def rounds (it : List Item) (f : Int → Got) : Nat → Option Got
  | 0 => some noGot
  | k + 1 => (rounds it f k).bind fun out => round it f out k

def belowOf (c : List Cell) : Nat → Int → Got
  | m, p => if (nth c p.toNat).ref < 1 then noGot
    else if (nodeOf c p).leaf then ⟨(nth (nodeOf c p).it 0).k, (nth (nodeOf c p).it ((nodeOf c p).it.length - 1)).k, 1, decide (1 ≤ m)⟩
    else match m with
      | 0 | 1 => noGot
      | m + 2 => match rounds (nodeOf c p).it (belowOf c (m + 1)) (nodeOf c p).it.length with
        | some out => { out with is := true }
        | none => noGot

theorem rounds_none {it : List Item} {f : Int → Got} {k : Nat} (h : rounds it f k = none) : ∀ n, k ≤ n → rounds it f n = none := by
  intro n hn
  induction n with
  | zero => obtain rfl : k = 0 := by omega
            exact h
  | succ n ih =>
    by_cases e : k = n + 1
    · subst e; exact h
    · unfold rounds; rw [ih (by omega)]; rfl

/-- Every place that is told below used cells is a place; such cells have items. -/
def Walkable (c : List Cell) : Prop := ∀ p : Nat, p < c.length → 0 < (nth c p).ref → 1 ≤ (nth c p).n.it.length ∧ (nth c p).n.it.length ≤ 4 ∧ ((nth c p).n.leaf = false → ∀ i, i < (nth c p).n.it.length → 0 ≤ (nth (nth c p).n.it i).v ∧ (nth (nth c p).n.it i).v < c.length)

theorem belowOf_none {c : List Cell} {m : Nat} {p : Int} (h : (nth c p.toNat).ref < 1) : belowOf c m p = noGot := by
  unfold belowOf; rw [if_pos h]
theorem belowOf_leaf {c : List Cell} {m : Nat} {p : Int} (h : ¬ (nth c p.toNat).ref < 1) (hl : (nth c p.toNat).n.leaf = true) :
    belowOf c m p = ⟨(nth (nth c p.toNat).n.it 0).k, (nth (nth c p.toNat).n.it ((nth c p.toNat).n.it.length - 1)).k, 1, decide (1 ≤ m)⟩ := by
  unfold belowOf; rw [if_neg h, if_pos (show (nodeOf c p).leaf = true from hl)]; rfl
theorem belowOf_low {c : List Cell} {m : Nat} {p : Int} (h : ¬ (nth c p.toNat).ref < 1) (hl : (nth c p.toNat).n.leaf = false) (hm : m ≤ 1) : belowOf c m p = noGot := by
  unfold belowOf; rw [if_neg h, if_neg (show ¬ (nodeOf c p).leaf = true by unfold nodeOf; simp [hl])]
  match m, hm with
  | 0, _ => rfl
  | 1, _ => rfl
theorem belowOf_inner {c : List Cell} {m : Nat} {p : Int} (h : ¬ (nth c p.toNat).ref < 1) (hl : (nth c p.toNat).n.leaf = false) (hm : ¬ m ≤ 1) :
    belowOf c m p = match rounds (nth c p.toNat).n.it (belowOf c (m - 1)) (nth c p.toNat).n.it.length with
      | some out => { out with is := true }
      | none => noGot := by
  match m, hm with
  | m + 2, _ =>
    rw [belowOf, if_neg h, if_neg (show ¬ (nodeOf c p).leaf = true by unfold nodeOf; simp [hl])]
    rfl

theorem rounds_high {it : List Item} {f : Int → Got} {B : Int} (hf : ∀ p, 0 ≤ (f p).high ∧ (f p).high ≤ B) : ∀ k out, rounds it f k = some out → 0 ≤ out.high ∧ out.high ≤ B + 1 := by
  intro k
  have hB : 0 ≤ B := by have := hf 0; omega
  induction k with
  | zero =>
    intro out h
    injection h with h
    subst h
    simp [noGot]; omega
  | succ k ih =>
    intro out h
    unfold rounds at h
    cases hr : rounds it f k with
    | none => rw [hr] at h; cases h
    | some o =>
      rw [hr] at h
      replace h : round it f o k = some out := h
      unfold round at h
      split at h
      · cases h
      · injection h with h
        subst h
        have h1 := ih o hr
        have h2 := hf (nth it k).v
        simp only [nxt]
        split <;> omega

theorem belowOf_high (c : List Cell) : ∀ (m : Nat) (p : Int), 0 ≤ (belowOf c m p).high ∧ (belowOf c m p).high ≤ m + 1 := by
  intro m
  induction m with
  | zero =>
    intro p
    by_cases hr : (nth c p.toNat).ref < 1
    · rw [belowOf_none hr]; simp [noGot]
    · cases hl : (nth c p.toNat).n.leaf with
      | true => rw [belowOf_leaf hr hl]; simp
      | false => rw [belowOf_low hr hl (by omega)]; simp [noGot]
  | succ m ih =>
    intro p
    by_cases hr : (nth c p.toNat).ref < 1
    · rw [belowOf_none hr]; simp [noGot]; omega
    · cases hl : (nth c p.toNat).n.leaf with
      | true => rw [belowOf_leaf hr hl]; simp; omega
      | false =>
        by_cases hm : m + 1 ≤ 1
        · rw [belowOf_low hr hl hm]; simp [noGot]; omega
        · rw [belowOf_inner hr hl hm]
          split
          · rename_i out ho
            have := rounds_high (B := m + 1) (fun p => ih p) _ out ho
            simp only; omega
          · simp [noGot]; omega

theorem pc_below_step (c : List Cell) (keep : Int) (hw : Walkable c) (m : Nat) (hm : m ≤ 100)
    (ih : ∀ p : Int, 0 ≤ p → p < c.length → ¬ m ≤ 1 → PC Try.prog 68 [aHeap c keep, aint .i64 p, aint .i64 ((m : Int) - 1)] (aGot (belowOf c (m - 1) p))) (p : Int) (h0 : 0 ≤ p) (h1 : p < c.length) :
    PC Try.prog 68 [aHeap c keep, aint .i64 p, aint .i64 (m : Nat)] (aGot (belowOf c m p)) := by
  have hwp := hw p.toNat (by omega)
  by_cases hr : (nth c p.toNat).ref < 1
  · rw [belowOf_none hr]
    refine PC_of tab_ok mixed (Try.func68) rfl (by kernel_rfl) (Nat.le_of_ble_eq_true rfl) rfl ?_
    (focus (refine (cwp_seq (cwp_region (sl rfl (sl rfl (seqQ_normal (cwp_seq (cwp_region (sl rfl (sl rfl (sl rfl (Exists.intro (p.toNat) (an (an (by omega) (an (by omega) (show 4 = 4 from (by with_reducible rfl)))) (sl rfl (sl rfl (sl rfl (sl rfl (an (show [AV.d (dbool (nth c p.toNat).n.leaf), AV.d (dItems (nth c p.toNat).n.it)].length = 2 from rfl) (seqQ_normal (cwp_seq (cwp_seq (cwp_region (sl rfl (sl rfl (sl rfl (Exists.intro (p.toNat) (an (an (by omega) (an (by omega) (show 4 = 4 from (by with_reducible rfl)))) (sl rfl (sl rfl (sl rfl (an (by with_reducible rfl) (sl rfl (seqQ_normal (cwp_cond (an (fun (hb1 : decide ((nth c p.toNat).ref < 1) = true) => ?_) (fun (hb2 : decide ((nth c p.toNat).ref < 1) = false) => ?_))))))))))))))))))))))))))))))))))); rotate_right; (have hf2 := hb2; simp only [decide_eq_false_iff_not, Int.not_lt] at hf2; exfalso; omega); rotate_right; (have hf1 := hb1; simp only [decide_eq_true_eq] at hf1; refine (cwp_seq (cwp_region (sl rfl (an (show [AV.d (D.v (Value.int IntKind.i64 0)), AV.d (D.v (Value.int IntKind.i64 0)), AV.d (D.v (Value.int IntKind.i64 0)), AV.d (D.v (Value.bool false))].length = 4 from rfl) (seqQ_normal (cwp_ret (seqQ_ret (endQ_ret (an (DEqv.refl _) (an (DEqv.refl _) (an (DEqv.refl _) (an (DEqv.refl _) True.intro)))))))))))))))
  have hwp := hwp (by omega)
  by_cases hlf : (nth c p.toNat).n.leaf = true
  · rw [belowOf_leaf hr hlf]
    refine PC_of tab_ok mixed (Try.func68) rfl (by kernel_rfl) (Nat.le_of_ble_eq_true rfl) rfl ?_
    (focus (refine (cwp_seq (cwp_region (sl rfl (sl rfl (seqQ_normal (cwp_seq (cwp_region (sl rfl (sl rfl (sl rfl (Exists.intro (p.toNat) (an (an (by omega) (an (by omega) (show 4 = 4 from (by with_reducible rfl)))) (sl rfl (sl rfl (sl rfl (sl rfl (an (show [AV.d (dbool (nth c p.toNat).n.leaf), AV.d (dItems (nth c p.toNat).n.it)].length = 2 from rfl) (seqQ_normal (cwp_seq (cwp_seq (cwp_region (sl rfl (sl rfl (sl rfl (Exists.intro (p.toNat) (an (an (by omega) (an (by omega) (show 4 = 4 from (by with_reducible rfl)))) (sl rfl (sl rfl (sl rfl (an (by with_reducible rfl) (sl rfl (seqQ_normal (cwp_cond (an (fun (hb1 : decide ((nth c p.toNat).ref < 1) = true) => ?_) (fun (hb2 : decide ((nth c p.toNat).ref < 1) = false) => ?_))))))))))))))))))))))))))))))))))); rotate_right; (have hf2 := hb2; simp only [decide_eq_false_iff_not, Int.not_lt] at hf2; refine (cwp_skip (seqQ_normal (cwp_seq (cwp_seq (cwp_region (sl rfl (sl rfl (seqQ_normal (cwp_cond (oT hlf (cwp_seq (cwp_draw (sl rfl (sl rfl (Exists.intro (0) (an (an (by omega) (an (by omega) (show 2 = 2 from (by with_reducible rfl)))) (sl rfl (sl rfl (sl rfl (sl rfl (sl rfl (sl rfl (sl rfl (sl rfl (an (by with_reducible rfl) (ez (wrap64 (by omega)) (sl rfl (Exists.intro ((nth c p.toNat).n.it.length - 1) (an (an (by omega) (an (by omega) (show 2 = 2 from (by with_reducible rfl)))) (sl rfl (sl rfl (sl rfl (sl rfl (an (by with_reducible rfl) (sl rfl (an rfl (an rfl (an rfl (an rfl (sl rfl (an (show [AV.d (dint (nth (nth c p.toNat).n.it 0).k), AV.d (dint (nth (nth c p.toNat).n.it ((nth c p.toNat).n.it.length - 1)).k), AV.d (D.v (Value.int IntKind.i64 1)), AV.d (D.v (Value.bool (decide ((↑m : Int) ≥ 1))))].length = 4 from rfl) (an (by kernel_rfl) (seqQ_normal (cwp_ret (seqQ_ret (endQ_ret (an (DEqv.refl _) (an (DEqv.refl _) (an (DEqv.refl _) (an (DEqv.bool ?_) True.intro))))))))))))))))))))))))))))))))))))))))))))))))))); rotate_right; (have hf1 := hb1; simp only [decide_eq_true_eq] at hf1; exfalso; omega)))
    (first | (rw [decide_eq_decide]; omega) | (symm; rw [decide_eq_false_iff_not]; omega) | (rw [decide_eq_false_iff_not]; omega) | (symm; rw [decide_eq_true_eq]; omega) | (rw [decide_eq_true_eq]; omega))
  have hlf : (nth c p.toNat).n.leaf = false := by simpa using hlf
  by_cases hm1 : m ≤ 1
  · rw [belowOf_low hr hlf hm1]
    refine PC_of tab_ok mixed (Try.func68) rfl (by kernel_rfl) (Nat.le_of_ble_eq_true rfl) rfl ?_
    (focus (refine (cwp_seq (cwp_region (sl rfl (sl rfl (seqQ_normal (cwp_seq (cwp_region (sl rfl (sl rfl (sl rfl (Exists.intro (p.toNat) (an (an (by omega) (an (by omega) (show 4 = 4 from (by with_reducible rfl)))) (sl rfl (sl rfl (sl rfl (sl rfl (an (show [AV.d (dbool (nth c p.toNat).n.leaf), AV.d (dItems (nth c p.toNat).n.it)].length = 2 from rfl) (seqQ_normal (cwp_seq (cwp_seq (cwp_region (sl rfl (sl rfl (sl rfl (Exists.intro (p.toNat) (an (an (by omega) (an (by omega) (show 4 = 4 from (by with_reducible rfl)))) (sl rfl (sl rfl (sl rfl (an (by with_reducible rfl) (sl rfl (seqQ_normal (cwp_cond (an (fun (hb1 : decide ((nth c p.toNat).ref < 1) = true) => ?_) (fun (hb2 : decide ((nth c p.toNat).ref < 1) = false) => ?_))))))))))))))))))))))))))))))))))); rotate_right; (have hf2 := hb2; simp only [decide_eq_false_iff_not, Int.not_lt] at hf2; focus (refine (cwp_skip (seqQ_normal (cwp_seq (cwp_seq (cwp_region (sl rfl (sl rfl (seqQ_normal (cwp_cond (oF hlf (cwp_skip (seqQ_normal (cwp_seq (cwp_seq (cwp_region (sl rfl (an (by with_reducible rfl) (sl rfl (seqQ_normal (cwp_cond (an (fun (hb3 : decide ((↑m : Int) ≤ 1) = true) => ?_) (fun (hb4 : decide ((↑m : Int) ≤ 1) = false) => ?_)))))))))))))))))))))); rotate_right; (have hf4 := hb4; simp only [decide_eq_false_iff_not, Int.not_le] at hf4; exfalso; omega); rotate_right; (have hf3 := hb3; simp only [decide_eq_true_eq] at hf3; refine (cwp_seq (cwp_region (sl rfl (an (show [AV.d (D.v (Value.int IntKind.i64 0)), AV.d (D.v (Value.int IntKind.i64 0)), AV.d (D.v (Value.int IntKind.i64 0)), AV.d (D.v (Value.bool false))].length = 4 from rfl) (seqQ_normal (cwp_ret (seqQ_ret (endQ_ret (an (DEqv.refl _) (an (DEqv.refl _) (an (DEqv.refl _) (an (DEqv.refl _) True.intro))))))))))))))); rotate_right; (have hf1 := hb1; simp only [decide_eq_true_eq] at hf1; exfalso; omega)))
  rw [belowOf_inner hr hlf hm1]
  refine PC_of tab_ok mixed (Try.func68) rfl (by kernel_rfl) (Nat.le_of_ble_eq_true rfl) rfl ?_
  (focus (refine (cwp_seq (cwp_region (sl rfl (sl rfl (seqQ_normal (cwp_seq (cwp_region (sl rfl (sl rfl (sl rfl (Exists.intro (p.toNat) (an (an (by omega) (an (by omega) (show 4 = 4 from (by with_reducible rfl)))) (sl rfl (sl rfl (sl rfl (sl rfl (an (show [AV.d (dbool (nth c p.toNat).n.leaf), AV.d (dItems (nth c p.toNat).n.it)].length = 2 from rfl) (seqQ_normal (cwp_seq (cwp_seq (cwp_region (sl rfl (sl rfl (sl rfl (Exists.intro (p.toNat) (an (an (by omega) (an (by omega) (show 4 = 4 from (by with_reducible rfl)))) (sl rfl (sl rfl (sl rfl (an (by with_reducible rfl) (sl rfl (seqQ_normal (cwp_cond (an (fun (hb1 : decide ((nth c p.toNat).ref < 1) = true) => ?_) (fun (hb2 : decide ((nth c p.toNat).ref < 1) = false) => ?_))))))))))))))))))))))))))))))))))); rotate_right; (have hf2 := hb2; simp only [decide_eq_false_iff_not, Int.not_lt] at hf2; focus (refine (cwp_skip (seqQ_normal (cwp_seq (cwp_seq (cwp_region (sl rfl (sl rfl (seqQ_normal (cwp_cond (oF hlf (cwp_skip (seqQ_normal (cwp_seq (cwp_seq (cwp_region (sl rfl (an (by with_reducible rfl) (sl rfl (seqQ_normal (cwp_cond (an (fun (hb3 : decide ((↑m : Int) ≤ 1) = true) => ?_) (fun (hb4 : decide ((↑m : Int) ≤ 1) = false) => ?_)))))))))))))))))))))); rotate_right; (have hf4 := hb4; simp only [decide_eq_false_iff_not, Int.not_le] at hf4; refine (cwp_skip (seqQ_normal (cwp_seq (cwp_region (sl rfl (sl rfl (an (show [AV.d (D.v (Value.int IntKind.i64 0)), AV.d (D.v (Value.int IntKind.i64 0)), AV.d (D.v (Value.int IntKind.i64 0)), AV.d (D.v (Value.bool false))].length = 4 from rfl) (seqQ_normal (cwp_seq (cwp_seq (cwp_region (sl rfl (seqQ_normal (cwp_block (cwp_loop ?_)))))))))))))))); rotate_right; (have hf3 := hb3; simp only [decide_eq_true_eq] at hf3; exfalso; omega))); rotate_right; (have hf1 := hb1; simp only [decide_eq_true_eq] at hf1; exfalso; omega)))
  refine AWP_for tab_ok mixed (α := Nat × Got) (fun k => (nth c p.toNat).n.it.length - k.1) (fun k => k.1 ≤ (nth c p.toNat).n.it.length ∧ rounds (nth c p.toNat).n.it (belowOf c (m - 1)) k.1 = some k.2)
    (fun k => [(2, aint .i64 (m : Nat)), (3, .own 0 0), (6, .own 1 0), (7, .own 2 0), (8, .own 3 0), (9, aint .i64 (k.1 : Nat))])
    (fun k => [some (.cells [.d (dCells c), .d (dint keep)]), some (.cells (ti110.zero.map AV.d)), some (.cells [.d (dbool (nth c p.toNat).n.leaf), .d (dItems (nth c p.toNat).n.it)]), some (.cells [.d (dint k.2.lo), .d (dint k.2.hi), .d (dint k.2.high), .d (dbool k.2.is)])]) (0, noGot) [0, 1, 2, 3] ?_ ⟨Nat.zero_le _, rfl⟩ ?_
  · (refine (an (an rfl (an rfl (an rfl (Nat.le_of_ble_eq_true rfl)))) (an (an (DEqv.refl _) (an (an (an rfl (by with_reducible rfl)) (Nat.le_of_ble_eq_true rfl)) (an (an (an rfl (by with_reducible rfl)) (Nat.le_of_ble_eq_true rfl)) (an (an (an rfl (by with_reducible rfl)) (Nat.le_of_ble_eq_true rfl)) (an (an (an rfl (by with_reducible rfl)) (Nat.le_of_ble_eq_true rfl)) (an (DEqv.refl _) True.intro)))))) (an (an (DEqv.refl _) (an (DEqv.refl _) True.intro)) (an (an (DEqv.refl _) (an (DEqv.refl _) (an (DEqv.refl _) (an (DEqv.refl _) True.intro)))) (an (an (DEqv.refl _) (an (DEqv.refl _) True.intro)) (an (an (DEqv.refl _) (an (DEqv.refl _) (an (DEqv.refl _) (an (DEqv.refl _) True.intro)))) True.intro)))))))
  · rintro ⟨k, out⟩ ⟨hk, hro⟩
    simp only at hk hro ⊢
    by_cases hlt : k < (nth c p.toNat).n.it.length
    · have hpk := hwp.2.2 hlf k hlt
      have hh := belowOf_high c (m - 1) (nth (nth c p.toNat).n.it k).v
      have hbad : bad (nth c p.toNat).n.it (belowOf c (m - 1) (nth (nth c p.toNat).n.it k).v) out k = true → (match rounds (nth c p.toNat).n.it (belowOf c (m - 1)) (nth c p.toNat).n.it.length with
          | some out => { out with is := true }
          | none => noGot) = noGot := by
        intro hb
        have e : rounds (nth c p.toNat).n.it (belowOf c (m - 1)) (k + 1) = none := by
          unfold rounds; rw [hro]; show round _ _ _ _ = none; unfold round; rw [if_pos hb]
        rw [rounds_none e _ (by omega)]
      have hgood : bad (nth c p.toNat).n.it (belowOf c (m - 1) (nth (nth c p.toNat).n.it k).v) out k = false → rounds (nth c p.toNat).n.it (belowOf c (m - 1)) (k + 1) = some (nxt (belowOf c (m - 1) (nth (nth c p.toNat).n.it k).v) out k) := by
        intro hb
        unfold rounds; rw [hro]; show round _ _ _ _ = _; unfold round; rw [if_neg (by simp [hb])]
      have hih := ih _ hpk.1 hpk.2 hm1
      generalize belowOf c (m - 1) (nth (nth c p.toNat).n.it k).v = x at hbad hgood hh hih
      (focus (refine (cwp_seq (cwp_seq (cwp_region (sl rfl (sl rfl (sl rfl (sl rfl (an (by with_reducible rfl) (sl rfl (seqQ_normal (cwp_cond (an (fun (hb1 : decide ((↑k : Int) < (↑(nth c p.toNat).n.it.length : Int)) = true) => ?_) (fun (hb16 : decide ((↑k : Int) < (↑(nth c p.toNat).n.it.length : Int)) = false) => ?_))))))))))))); rotate_right; (have hf16 := hb16; simp only [decide_eq_false_iff_not, Int.not_lt] at hf16; exfalso; omega); rotate_right; (have hf1 := hb1; simp only [decide_eq_true_eq] at hf1; focus (refine (cwp_skip (seqQ_normal (cwp_seq (cwp_block (cwp_seq (cwp_draw (sl rfl (sl rfl (sl rfl (sl rfl (Exists.intro (k) (an (an (by with_reducible rfl) (an (by assumption) (show 2 = 2 from (by with_reducible rfl)))) (sl rfl (sl rfl (sl rfl (sl rfl (an (by with_reducible rfl) (ez (wrap64 (by omega)) (sl rfl (Or.inl (PC.on (hih) (sl rfl (sl rfl (an (show [AV.d (dint x.lo), AV.d (dint x.hi), AV.d (dint x.high), AV.d (dbool x.is)].length = 4 from rfl) (an (by kernel_rfl) (seqQ_normal (cwp_seq (cwp_seq (cwp_draw (sl rfl (sl rfl (sl rfl (sl rfl (sl rfl (an (fun (hb2 : (!x.is) = false) => ?_) (fun (hb15 : (!x.is) = true) => ?_)))))))))))))))))))))))))))))))))))); rotate_right; (have hf15 := hb15; simp only [Bool.not_eq_true'] at hf15; refine (sl rfl (sl rfl (uT (congrArg Bool.not hf15) (sl rfl (sl rfl (uT (congrArg Bool.not hf15) (sl rfl (sl rfl (uT (congrArg Bool.not hf15) (sl rfl (sl rfl (uT (congrArg Bool.not hf15) (sl rfl (sl rfl (uT (congrArg Bool.not hf15) (sl rfl (sl rfl (uT (congrArg Bool.not hf15) (sl rfl (sl rfl (uT (congrArg Bool.not hf15) (sl rfl (sl rfl (uT (congrArg Bool.not hf15) (sl rfl (oT (congrArg Bool.not hf15) (sl rfl (sl rfl (sl rfl (uT rfl (sl rfl (sl rfl (uT rfl (sl rfl (sl rfl (uT rfl (sl rfl (sl rfl (sl rfl (sl rfl (sl rfl (sl rfl (sl rfl (sl rfl (sl rfl (sl rfl (sl rfl (sl rfl (sl rfl (sl rfl (sl rfl (sl rfl (sl rfl (sl rfl (sl rfl (sl rfl (sl rfl (sl rfl (sl rfl (sl rfl (sl rfl (sl rfl (sl rfl (sl rfl (uT rfl (sl rfl (oT rfl (sl rfl (an (by kernel_rfl) (seqQ_normal (cwp_cond (oT rfl (cwp_seq (cwp_region (sl rfl (an (show [AV.d (D.v (Value.int IntKind.i64 0)), AV.d (D.v (Value.int IntKind.i64 0)), AV.d (D.v (Value.int IntKind.i64 0)), AV.d (D.v (Value.bool false))].length = 4 from rfl) (seqQ_normal (cwp_ret (seqQ_ret (blockQ_ret (seqQ_ret (seqQ_ret (blockQ_ret (seqQ_ret (endQ_ret (an (DEqv.int ?_) (an (DEqv.int ?_) (an (DEqv.int ?_) (an (DEqv.bool ?_) True.intro)))))))))))))))))))))))))))))))))))))))))))))))))))))))))))))))))))))))))))))))))))))))))); rotate_right; (have hf2 := hb2; simp only [Bool.not_eq_false'] at hf2; focus (refine (sl rfl (sl rfl (uF (congrArg Bool.not hf2) (sl rfl (sl rfl (uF (congrArg Bool.not hf2) (sl rfl (sl rfl (uF (congrArg Bool.not hf2) (sl rfl (sl rfl (uF (congrArg Bool.not hf2) (sl rfl (sl rfl (uF (congrArg Bool.not hf2) (Exists.intro (k) (an (an (by with_reducible rfl) (an (by assumption) (show 2 = 2 from (by with_reducible rfl)))) (sl rfl (sl rfl (uF (congrArg Bool.not hf2) (sl rfl (sl rfl (uF (congrArg Bool.not hf2) (sl rfl (sl rfl (uF (congrArg Bool.not hf2) (an (by with_reducible rfl) (sl rfl (oF (congrArg Bool.not hf2) (sl rfl (sl rfl (sl rfl (an (fun (hb3 : (x.lo != (nth (nth c p.toNat).n.it k).k) = false) => ?_) (fun (hb14 : (x.lo != (nth (nth c p.toNat).n.it k).k) = true) => ?_)))))))))))))))))))))))))))))))))); rotate_right; (have hf14 := hb14; simp only [bne_iff_ne, ne_eq] at hf14; refine (sl rfl (sl rfl (uT hb14 (sl rfl (sl rfl (uT hb14 (sl rfl (sl rfl (sl rfl (sl rfl (sl rfl (sl rfl (sl rfl (sl rfl (sl rfl (sl rfl (sl rfl (sl rfl (sl rfl (sl rfl (sl rfl (sl rfl (sl rfl (sl rfl (sl rfl (sl rfl (sl rfl (sl rfl (sl rfl (sl rfl (sl rfl (sl rfl (sl rfl (sl rfl (uT hb14 (sl rfl (oT hb14 (sl rfl (an (by kernel_rfl) (seqQ_normal (cwp_cond (oT rfl (cwp_seq (cwp_region (sl rfl (an (show [AV.d (D.v (Value.int IntKind.i64 0)), AV.d (D.v (Value.int IntKind.i64 0)), AV.d (D.v (Value.int IntKind.i64 0)), AV.d (D.v (Value.bool false))].length = 4 from rfl) (seqQ_normal (cwp_ret (seqQ_ret (blockQ_ret (seqQ_ret (seqQ_ret (blockQ_ret (seqQ_ret (endQ_ret (an (DEqv.int ?_) (an (DEqv.int ?_) (an (DEqv.int ?_) (an (DEqv.bool ?_) True.intro)))))))))))))))))))))))))))))))))))))))))))))))))))))))))))); rotate_right; (have hf3 := hb3; simp only [bne_eq_false_iff_eq] at hf3; focus (refine (sl rfl (sl rfl (uF hb3 (an (by with_reducible rfl) (sl rfl (sl rfl (uF hb3 (sl rfl (sl rfl (an (fun (hb4 : decide ((↑k : Int) > 0) = true) => ?_) (fun (hb11 : decide ((↑k : Int) > 0) = false) => ?_))))))))))); rotate_right; (have hf11 := hb11; simp only [decide_eq_false_iff_not, Int.not_lt] at hf11; focus (refine (sl rfl (sl rfl (oF hb11 (sl rfl (sl rfl (oF hb11 (sl rfl (sl rfl (oF hb11 (sl rfl (sl rfl (oF hb11 (sl rfl (sl rfl (oF hb11 (sl rfl (sl rfl (sl rfl (sl rfl (sl rfl (sl rfl (sl rfl (sl rfl (sl rfl (sl rfl (sl rfl (sl rfl (sl rfl (sl rfl (oF hb11 (sl rfl (sl rfl (uF hb3 (oF hb11 (sl rfl (oF hb3 (sl rfl (an (by kernel_rfl) (seqQ_normal (cwp_cond (oF rfl (cwp_skip (seqQ_normal (cwp_seq (cwp_seq (cwp_region (sl rfl (an (by with_reducible rfl) (sl rfl (seqQ_normal (cwp_cond (an (fun (hb12 : ((↑k : Int) == 0) = true) => ?_) (fun (hb13 : ((↑k : Int) == 0) = false) => ?_))))))))))))))))))))))))))))))))))))))))))))))))))))); rotate_right; (have hf13 := hb13; simp only [ne_eq, beq_eq_false_iff_ne] at hf13; exfalso; omega); rotate_right; (have hf12 := hb12; simp only [beq_iff_eq] at hf12; refine (cwp_seq (cwp_region (sl rfl (sl rfl (sl rfl (an (show [AV.d (dint x.lo)].length = 1 from rfl) (seqQ_normal (cwp_region (sl rfl (sl rfl (an (by with_reducible rfl) (ez (wrap64 (by omega)) (sl rfl (sl rfl (an (show [AV.d (D.v (Value.int IntKind.i64 (x.high + 1)))].length = 1 from rfl) (seqQ_normal (cwp_region (sl rfl (sl rfl (sl rfl (an (show [AV.d (dint x.hi)].length = 1 from rfl) (blockQ_normal (seqQ_normal (cwp_region (sl rfl (an (by with_reducible rfl) (ez (wrap64 (by omega)) (sl rfl (sl rfl (seqQ_normal (show Exists _ from ?_)))))))))))))))))))))))))))))))))); rotate_right; (have hf4 := hb4; simp only [decide_eq_true_eq, gt_iff_lt] at hf4; focus (refine (sl rfl (sl rfl (oT hb4 (sl rfl (sl rfl (oT hb4 (sl rfl (sl rfl (oT hb4 (sl rfl (sl rfl (oT hb4 (an (by with_reducible rfl) (sl rfl (sl rfl (oT hb4 (sl rfl (sl rfl (an (fun (hb5 : decide (out.hi ≥ x.lo) = false) => ?_) (fun (hb10 : decide (out.hi ≥ x.lo) = true) => ?_)))))))))))))))))))); rotate_right; (have hf10 := hb10; simp only [decide_eq_true_eq, ge_iff_le] at hf10; refine (sl rfl (sl rfl (uT hb10 (sl rfl (sl rfl (uT hb10 (sl rfl (sl rfl (uT hb10 (sl rfl (sl rfl (uT hb10 (sl rfl (sl rfl (uT hb10 (sl rfl (sl rfl (oT hb4 (oT hb10 (sl rfl (sl rfl (uF hb3 (oT hb4 (sl rfl (oF hb3 (sl rfl (an (by kernel_rfl) (seqQ_normal (cwp_cond (oT rfl (cwp_seq (cwp_region (sl rfl (an (show [AV.d (D.v (Value.int IntKind.i64 0)), AV.d (D.v (Value.int IntKind.i64 0)), AV.d (D.v (Value.int IntKind.i64 0)), AV.d (D.v (Value.bool false))].length = 4 from rfl) (seqQ_normal (cwp_ret (seqQ_ret (blockQ_ret (seqQ_ret (seqQ_ret (blockQ_ret (seqQ_ret (endQ_ret (an (DEqv.int ?_) (an (DEqv.int ?_) (an (DEqv.int ?_) (an (DEqv.bool ?_) True.intro)))))))))))))))))))))))))))))))))))))))))))))))); rotate_right; (have hf5 := hb5; simp only [decide_eq_false_iff_not, Int.not_le] at hf5; focus (refine (sl rfl (sl rfl (uF hb5 (sl rfl (sl rfl (uF hb5 (sl rfl (sl rfl (uF hb5 (sl rfl (sl rfl (uF hb5 (an (by with_reducible rfl) (ez (wrap64 (by omega)) (sl rfl (sl rfl (uF hb5 (an (by with_reducible rfl) (sl rfl (sl rfl (oT hb4 (oF hb5 (sl rfl (sl rfl (uF hb3 (oT hb4 (sl rfl (oF hb3 (sl rfl (an (by kernel_rfl) (seqQ_normal (cwp_cond (an (fun (hb6 : (out.high != x.high + 1) = true) => ?_) (fun (hb7 : (out.high != x.high + 1) = false) => ?_)))))))))))))))))))))))))))))))))); rotate_right; (have hf7 := hb7; simp only [bne_eq_false_iff_eq] at hf7; focus (refine (cwp_skip (seqQ_normal (cwp_seq (cwp_seq (cwp_region (sl rfl (an (by with_reducible rfl) (sl rfl (seqQ_normal (cwp_cond (an (fun (hb8 : ((↑k : Int) == 0) = true) => ?_) (fun (hb9 : ((↑k : Int) == 0) = false) => ?_)))))))))))); rotate_right; (have hf9 := hb9; simp only [ne_eq, beq_eq_false_iff_ne] at hf9; refine (cwp_skip (seqQ_normal (cwp_region (sl rfl (sl rfl (sl rfl (an (show [AV.d (dint x.hi)].length = 1 from rfl) (blockQ_normal (seqQ_normal (cwp_region (sl rfl (an (by with_reducible rfl) (ez (wrap64 (by omega)) (sl rfl (sl rfl (seqQ_normal (show Exists _ from ?_)))))))))))))))))); rotate_right; (have hf8 := hb8; simp only [beq_iff_eq] at hf8; exfalso; omega))); rotate_right; (have hf6 := hb6; simp only [bne_iff_ne, ne_eq] at hf6; refine (cwp_seq (cwp_region (sl rfl (an (show [AV.d (D.v (Value.int IntKind.i64 0)), AV.d (D.v (Value.int IntKind.i64 0)), AV.d (D.v (Value.int IntKind.i64 0)), AV.d (D.v (Value.bool false))].length = 4 from rfl) (seqQ_normal (cwp_ret (seqQ_ret (blockQ_ret (seqQ_ret (seqQ_ret (blockQ_ret (seqQ_ret (endQ_ret (an (DEqv.int ?_) (an (DEqv.int ?_) (an (DEqv.int ?_) (an (DEqv.bool ?_) True.intro))))))))))))))))))))))))))))))
      all_goals first
        | (have hb : bad (nth c p.toNat).n.it x out k = true := by
             simp only [bad, Bool.or_eq_true, Bool.and_eq_true, decide_eq_true_eq, Bool.not_eq_true', bne_iff_ne, ne_eq]
             first | (left; left; assumption) | (left; right; assumption) | (right; refine ⟨by omega, ?_⟩; first | (left; omega) | (right; omega))
           rw [hbad hb]; rfl)
        | (have hb : bad (nth c p.toNat).n.it x out k = false := by
             refine Bool.eq_false_iff.mpr fun hb => ?_
             simp only [bad, Bool.or_eq_true, Bool.and_eq_true, decide_eq_true_eq, Bool.not_eq_true', bne_iff_ne, ne_eq] at hb
             rcases hb with (hb | hb) | ⟨hb1, hb2 | hb2⟩
             · simp_all
             · exact hb (by assumption)
             · omega
             · omega
           have e := hgood hb
           by_cases e0 : k = 0
           · simp only [nxt, if_pos e0] at e
             refine ⟨(k + 1, ⟨x.lo, x.hi, x.high + 1, out.is⟩), [0, 1, 2, 3], ⟨by simp only; omega, by simp only; omega, e⟩, ?_⟩
             first | (exfalso; omega) | (refine (an (an rfl (an rfl (an rfl (Nat.le_of_ble_eq_true rfl)))) (an (an (DEqv.refl _) (an (an (an rfl (by with_reducible rfl)) (Nat.le_of_ble_eq_true rfl)) (an (an (an rfl (by with_reducible rfl)) (Nat.le_of_ble_eq_true rfl)) (an (an (an rfl (by with_reducible rfl)) (Nat.le_of_ble_eq_true rfl)) (an (an (an rfl (by with_reducible rfl)) (Nat.le_of_ble_eq_true rfl)) (an (DEqv.refl _) True.intro)))))) (an (an (DEqv.refl _) (an (DEqv.refl _) True.intro)) (an (an (DEqv.refl _) (an (DEqv.refl _) (an (DEqv.refl _) (an (DEqv.refl _) True.intro)))) (an (an (DEqv.refl _) (an (DEqv.refl _) True.intro)) (an (an (DEqv.refl _) (an (DEqv.refl _) (an (DEqv.refl _) (an (DEqv.refl _) True.intro)))) True.intro)))))))
           · simp only [nxt, if_neg e0] at e
             refine ⟨(k + 1, ⟨out.lo, x.hi, out.high, out.is⟩), [0, 1, 2, 3], ⟨by simp only; omega, by simp only; omega, e⟩, ?_⟩
             first | (exfalso; omega) | (refine (an (an rfl (an rfl (an rfl (Nat.le_of_ble_eq_true rfl)))) (an (an (DEqv.refl _) (an (an (an rfl (by with_reducible rfl)) (Nat.le_of_ble_eq_true rfl)) (an (an (an rfl (by with_reducible rfl)) (Nat.le_of_ble_eq_true rfl)) (an (an (an rfl (by with_reducible rfl)) (Nat.le_of_ble_eq_true rfl)) (an (an (an rfl (by with_reducible rfl)) (Nat.le_of_ble_eq_true rfl)) (an (DEqv.refl _) True.intro)))))) (an (an (DEqv.refl _) (an (DEqv.refl _) True.intro)) (an (an (DEqv.refl _) (an (DEqv.refl _) (an (DEqv.refl _) (an (DEqv.refl _) True.intro)))) (an (an (DEqv.refl _) (an (DEqv.refl _) True.intro)) (an (an (DEqv.refl _) (an (DEqv.refl _) (an (DEqv.refl _) (an (DEqv.refl _) True.intro)))) True.intro))))))))
    · have e : k = (nth c p.toNat).n.it.length := by omega
      rw [← e, hro]
      (focus (refine (cwp_seq (cwp_seq (cwp_region (sl rfl (sl rfl (sl rfl (sl rfl (an (by with_reducible rfl) (sl rfl (seqQ_normal (cwp_cond (an (fun (hb1 : decide ((↑k : Int) < (↑(nth c p.toNat).n.it.length : Int)) = true) => ?_) (fun (hb2 : decide ((↑k : Int) < (↑(nth c p.toNat).n.it.length : Int)) = false) => ?_))))))))))))); rotate_right; (have hf2 := hb2; simp only [decide_eq_false_iff_not, Int.not_lt] at hf2; refine (cwp_exit (seqQ_exit (seqQ_exit (blockQ_here rfl (seqQ_normal (cwp_seq (cwp_region (sl rfl (an (show [AV.d (D.v (Value.bool true))].length = 1 from rfl) (seqQ_normal (cwp_seq (cwp_region (sl rfl (an (show [id (AV.d (dint out.lo)), id (AV.d (dint out.hi)), id (AV.d (dint out.high)), id (AV.d (D.v (Value.bool true)))].length = 4 from rfl) (seqQ_normal (cwp_ret (endQ_ret (an (DEqv.refl _) (an (DEqv.refl _) (an (DEqv.refl _) (an (DEqv.refl _) True.intro)))))))))))))))))))))); rotate_right; (have hf1 := hb1; simp only [decide_eq_true_eq] at hf1; exfalso; omega)))

theorem pc_below (c : List Cell) (keep : Int) (hw : Walkable c) : ∀ (m : Nat), m ≤ 100 → ∀ (p : Int), 0 ≤ p → p < c.length →
    PC Try.prog 68 [aHeap c keep, aint .i64 p, aint .i64 (m : Nat)] (aGot (belowOf c m p)) := by
  intro m
  induction m with
  | zero => exact fun hm p h0 h1 => pc_below_step c keep hw 0 hm (fun p _ _ h => absurd (by omega) h) p h0 h1
  | succ m ih =>
    intro hm p h0 h1
    refine pc_below_step c keep hw (m + 1) hm (fun p h0 h1 _ => ?_) p h0 h1
    have := ih (by omega) p h0 h1
    rwa [show (((m + 1 : Nat) : Int) - 1) = (m : Nat) by omega]

/-- Is it a right tree? -/
def rightTree (c : List Cell) (root : Int) : Bool := decide (root = -1) || (used c root && (belowOf c 20 root).is)
theorem pc_Right07 (c : List Cell) (keep root : Int) (hw : Walkable c) : PC Try.prog 37 [aHeap c keep, aint .i64 root] (abool (rightTree c root)) := by
  by_cases h1 : root = -1
  · subst h1
    refine PC_of tab_ok mixed (Try.func37) rfl (by kernel_rfl) (Nat.le_of_ble_eq_true rfl) rfl ?_
    (refine (cwp_seq (cwp_region (sl rfl (sl rfl (seqQ_normal (cwp_seq (cwp_seq (cwp_region (sl rfl (an (by with_reducible rfl) (sl rfl (seqQ_normal (cwp_cond (oT rfl (cwp_seq (cwp_region (sl rfl (seqQ_normal (cwp_ret (seqQ_ret (endQ_ret (DEqv.refl _)))))))))))))))))))))))
  · by_cases hu : used c root = true
    · have hu' := used_iff.1 hu
      refine PC_of tab_ok mixed (Try.func37) rfl (by kernel_rfl) (Nat.le_of_ble_eq_true rfl) rfl ?_
      (focus (refine (cwp_seq (cwp_region (sl rfl (sl rfl (seqQ_normal (cwp_seq (cwp_seq (cwp_region (sl rfl (an (by with_reducible rfl) (sl rfl (seqQ_normal (cwp_cond (an (fun (hb1 : (root == -1) = true) => ?_) (fun (hb2 : (root == -1) = false) => ?_))))))))))))))); rotate_right; (have hf2 := hb2; simp only [ne_eq, beq_eq_false_iff_ne] at hf2; refine (cwp_skip (seqQ_normal (cwp_seq (cwp_region (sl rfl (sl rfl (Or.inl (PC.on (pc_Used _ _ _) (sl rfl (sl rfl (seqQ_normal (cwp_seq (cwp_seq (cwp_region (sl rfl (sl rfl (seqQ_normal (cwp_cond (oF (congrArg Bool.not hu) (cwp_skip (seqQ_normal (cwp_seq (cwp_region (sl rfl (sl rfl (Or.inl (PC.on (pc_below c keep hw 20 (by omega) root hu'.1 hu'.2.1) (sl rfl (sl rfl (an (show [AV.d (dint (belowOf c 20 root).lo), AV.d (dint (belowOf c 20 root).hi), AV.d (dint (belowOf c 20 root).high), AV.d (dbool (belowOf c 20 root).is)].length = 4 from rfl) (seqQ_normal (cwp_seq (cwp_region (sl rfl (sl rfl (sl rfl (seqQ_normal (cwp_ret (endQ_ret (DEqv.bool (show (belowOf c 20 root).is = rightTree c root from ?_)))))))))))))))))))))))))))))))))))))))))); rotate_right; (have hf1 := hb1; simp only [beq_iff_eq] at hf1; exfalso; omega)))
      all_goals simp [rightTree, *]
    · have hu' : used c root = false := by simpa using hu
      refine PC_of tab_ok mixed (Try.func37) rfl (by kernel_rfl) (Nat.le_of_ble_eq_true rfl) rfl ?_
      (focus (refine (cwp_seq (cwp_region (sl rfl (sl rfl (seqQ_normal (cwp_seq (cwp_seq (cwp_region (sl rfl (an (by with_reducible rfl) (sl rfl (seqQ_normal (cwp_cond (an (fun (hb1 : (root == -1) = true) => ?_) (fun (hb2 : (root == -1) = false) => ?_))))))))))))))); rotate_right; (have hf2 := hb2; simp only [ne_eq, beq_eq_false_iff_ne] at hf2; refine (cwp_skip (seqQ_normal (cwp_seq (cwp_region (sl rfl (sl rfl (Or.inl (PC.on (pc_Used _ _ _) (sl rfl (sl rfl (seqQ_normal (cwp_seq (cwp_seq (cwp_region (sl rfl (sl rfl (seqQ_normal (cwp_cond (oT (congrArg Bool.not hu') (cwp_seq (cwp_region (sl rfl (seqQ_normal (cwp_ret (seqQ_ret (endQ_ret (DEqv.bool (show false = rightTree c root from ?_))))))))))))))))))))))))))))); rotate_right; (have hf1 := hb1; simp only [beq_iff_eq] at hf1; exfalso; omega)))
      all_goals simp [rightTree, *]

def mayTree (c : List Cell) (keep root most : Int) : Bool := may c keep most && rightTree c root
end Go.Proofs.Abs
