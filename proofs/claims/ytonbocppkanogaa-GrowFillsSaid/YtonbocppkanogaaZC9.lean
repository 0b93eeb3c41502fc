/- Loose of the reference. -/
import Derived.Test.YtonbocppkanogaaZC8
set_option linter.all false
namespace Go.Proofs.Abs
open Go Go.RowKit Go.Proofs
attribute [local irreducible] cwp seqQ blockQ endQ DEqv LEqv AWP drawOK

def lessRef (c : List Cell) (p : Int) : List Cell := c.set p.toNat ⟨(nth c p.toNat).ref - 1, false, (nth c p.toNat).n⟩
def dropCell (c : List Cell) (p : Int) : List Cell := c.set p.toNat ⟨0, true, ⟨false, []⟩⟩
def toldBy (n : Node) : List Item := if n.leaf then [] else n.it
/-- A cell is referred to once less. -/
def loose : Nat → List Cell → Int → List Cell
  | 0, c, _ => c
  | f + 1, c, p => if used c p then
      if 1 < (nth c p.toNat).ref then lessRef c p
      else (toldBy (nth c p.toNat).n).foldl (fun c x => loose f c x.v) (dropCell c p)
    else c

theorem loose_inv (P : List Cell → Prop) (h1 : ∀ c p, P c → used c p = true → 1 < (nth c p.toNat).ref → P (lessRef c p)) (h2 : ∀ c p, P c → used c p = true → P (dropCell c p)) :
    ∀ (f : Nat) (c : List Cell) (p : Int), P c → P (loose f c p) := by
  intro f
  induction f with
  | zero => exact fun c p h => h
  | succ f ih =>
    intro c p h
    unfold loose
    split
    · split
      · exact h1 c p h (by assumption) (by assumption)
      · have key : ∀ (l : List Item) (c : List Cell), P c → P (l.foldl (fun c x => loose f c x.v) c) := by
          intro l
          induction l with
          | nil => exact fun c h => h
          | cons x l ihl => exact fun c h => ihl _ (ih _ _ h)
        exact key _ _ (h2 c p h (by assumption))
    · exact h

theorem used_iff {c : List Cell} {p : Int} : used c p = true ↔ 0 ≤ p ∧ p < c.length ∧ 0 < (nth c p.toNat).ref := by simp [used]
theorem loose_length (f : Nat) (c : List Cell) (p : Int) : (loose f c p).length = c.length :=
  loose_inv (fun d => d.length = c.length) (fun _ _ h _ _ => by simpa [lessRef] using h) (fun _ _ h _ => by simpa [dropCell] using h) f c p rfl

def usedCount (c : List Cell) : Nat := c.countP fun x => decide (0 < x.ref)

theorem countP_set {α : Type} [Inhabited α] (q : α → Bool) : ∀ (l : List α) (i : Nat) (x : α), i < l.length → (l.set i x).countP q + (if q (nth l i) then 1 else 0) = l.countP q + if q x then 1 else 0
  | a :: l, 0, x, _ => by simp [List.countP_cons, nth]; omega
  | a :: l, i + 1, x, h => by
    have := countP_set q l i x (by simpa using h)
    have e : nth (a :: l) (i + 1) = nth l i := rfl
    simp only [List.set_cons_succ, List.countP_cons, e]
    omega

theorem usedCount_less {c : List Cell} {p : Int} (h : used c p = true) (h' : 1 < (nth c p.toNat).ref) : usedCount (lessRef c p) = usedCount c := by
  rw [used_iff] at h
  have := countP_set (fun x => decide (0 < x.ref)) c p.toNat ⟨(nth c p.toNat).ref - 1, false, (nth c p.toNat).n⟩ (by omega)
  simp only [decide_eq_true_eq] at this
  rw [if_pos h.2.2, if_pos (by omega)] at this
  unfold usedCount lessRef
  omega
theorem usedCount_drop {c : List Cell} {p : Int} (h : used c p = true) : usedCount (dropCell c p) + 1 = usedCount c := by
  rw [used_iff] at h
  have := countP_set (fun x => decide (0 < x.ref)) c p.toNat ⟨0, true, ⟨false, []⟩⟩ (by omega)
  simp only [decide_eq_true_eq] at this
  rw [if_pos h.2.2, if_neg (by omega)] at this
  unfold usedCount dropCell
  omega
theorem loose_usedCount (f : Nat) (c : List Cell) (p : Int) : usedCount (loose f c p) ≤ usedCount c :=
  loose_inv (fun d => usedCount d ≤ usedCount c) (fun _ _ h hu h' => by rw [usedCount_less hu h']; exact h) (fun _ _ h hu => by have := usedCount_drop hu; omega) f c p (Nat.le_refl _)

theorem nth_set_cases {α : Type} [Inhabited α] (P : α → Prop) {l : List α} {x : α} {i j : Nat} (h : P (nth l j)) (hx : P x) : P (nth (l.set i x) j) := by
  by_cases hi : i < l.length
  · rw [nth_set _ _ _ _ hi]; split
    · exact hx
    · exact h
  · rw [List.set_eq_of_length_le (by omega)]; exact h

theorem Lim.set {c : List Cell} (h : Lim c) (i : Nat) (x : Cell) (hx : x.n.it.length ≤ big) : Lim (c.set i x) :=
  ⟨by simpa using h.len, fun j => nth_set_cases (fun x : Cell => x.n.it.length ≤ big) (h.it j) hx⟩
theorem loose_lim {f : Nat} {c : List Cell} {p : Int} (h : Lim c) : Lim (loose f c p) :=
  loose_inv Lim (fun c p (h : Lim c) _ _ => Lim.set h _ _ (h.it p.toNat)) (fun c p (h : Lim c) _ => Lim.set h _ _ (by simp [big])) f c p h

theorem foldl_inv {α β : Type} (P : α → Prop) (g : α → β → α) (hg : ∀ a b, P a → P (g a b)) : ∀ (l : List β) (a : α), P a → P (l.foldl g a)
  | [], _, h => h
  | _ :: l, _, h => foldl_inv P g hg l _ (hg _ _ h)

/-- Refs as the model has them. -/
def RefB (c : List Cell) : Prop := ∀ i, (nth c i).ref ≤ 4294967296
theorem RefB.set {c : List Cell} (h : RefB c) (i : Nat) (x : Cell) (hx : x.ref ≤ 4294967296) : RefB (c.set i x) :=
  fun j => nth_set_cases (fun x : Cell => x.ref ≤ 4294967296) (h j) hx
theorem loose_refB {f : Nat} {c : List Cell} {p : Int} (h : RefB c) : RefB (loose f c p) :=
  loose_inv RefB (fun c p (h : RefB c) _ _ => RefB.set h _ _ (by have := h p.toNat; simp; omega)) (fun c p (h : RefB c) _ => RefB.set h _ _ (by simp)) f c p h

theorem foldl_take {α β : Type} [Inhabited β] (g : α → β → α) (l : List β) (a : α) {k : Nat} (hk : k < l.length) : (l.take (k + 1)).foldl g a = g ((l.take k).foldl g a) (nth l k) := by
  rw [take_succ hk, List.foldl_append]; rfl

theorem pc_Loose05 : ∀ (f : Nat) (c : List Cell) (keep p : Int), c.length ≤ 2000 → Lim c → RefB c → usedCount c < f →
    PC Try.prog 49 [aHeap c keep, aint .i64 p] (.tup [aHeap (loose f c p) keep, aint .i64 (if used c p then 0 else 4)]) := by
  intro f
  induction f with
  | zero => intro c keep p _ _ _ h; omega
  | succ f ih =>
    intro c keep p hc hL hR hf
    have hLi := hL.it p.toNat
    have hRi := hR p.toNat
    unfold big at hLi
    by_cases hu : used c p = true
    · have hu' := used_iff.1 hu
      have hud := usedCount_drop hu
      by_cases hone : 1 < (nth c p.toNat).ref
      · have hlo : loose (f + 1) c p = lessRef c p := by
          show (if used c p then _ else _) = _
          rw [if_pos hu, if_pos hone]
        refine PC_of tab_ok mixed (Try.func49) rfl (by kernel_rfl) (Nat.le_of_ble_eq_true rfl) rfl ?_
        (focus (refine (cwp_seq (cwp_region (sl rfl (sl rfl (sl rfl (seqQ_normal (cwp_seq (cwp_region (sl rfl (sl rfl (Or.inl (PC.on (pc_Used _ _ _) (sl rfl (sl rfl (seqQ_normal (cwp_seq (cwp_seq (cwp_region (sl rfl (sl rfl (seqQ_normal (cwp_cond (oF (congrArg Bool.not hu) (cwp_skip (seqQ_normal (cwp_seq (cwp_region (sl rfl (sl rfl (sl rfl (Exists.intro (p.toNat) (an (an (by omega) (an (by omega) (show 4 = 4 from (by with_reducible rfl)))) (sl rfl (sl rfl (sl rfl (an (show [AV.d (dint (nth c p.toNat).ref), AV.d (dbool (nth c p.toNat).pin), AV.d (dbool (nth c p.toNat).n.leaf), AV.d (dItems (nth c p.toNat).n.it)].length = 4 from rfl) (seqQ_normal (cwp_seq (cwp_seq (cwp_region (sl rfl (sl rfl (an (by with_reducible rfl) (sl rfl (seqQ_normal (cwp_cond (an (fun (hb1 : decide ((nth c p.toNat).ref > 1) = true) => ?_) (fun (hb2 : decide ((nth c p.toNat).ref > 1) = false) => ?_)))))))))))))))))))))))))))))))))))))))))))))))); rotate_right; (have hf2 := hb2; simp only [decide_eq_false_iff_not, Int.not_lt] at hf2; exfalso; omega); rotate_right; (have hf1 := hb1; simp only [decide_eq_true_eq, gt_iff_lt] at hf1; refine (cwp_seq (cwp_region (sl rfl (sl rfl (sl rfl (sl rfl (an (by with_reducible rfl) (ez (wrap64 (by omega)) (sl rfl (sl rfl (sl rfl (an rfl (an rfl (sl rfl (Or.inl (PC.on (pc_set' _ _ _ _ _ _ _ hc hu'.1 hu'.2.1) (sl rfl (an (show [AV.d (dCells (c.set p.toNat { ref := (nth c p.toNat).ref - 1, pin := false, n := { leaf := (nth c p.toNat).n.leaf, it := (nth c p.toNat).n.it } })), AV.d (dint keep)].length = 2 from rfl) (sl rfl (seqQ_normal (cwp_ret (seqQ_ret (endQ_ret (an (an (show DEqv (dCells (c.set p.toNat { ref := (nth c p.toNat).ref - 1, pin := false, n := { leaf := (nth c p.toNat).n.leaf, it := (nth c p.toNat).n.it } })) (dCells (loose (f + 1) c p)) from ?_) (an (DEqv.refl _) True.intro)) (an (DEqv.int ?_) True.intro))))))))))))))))))))))))))))
        · rw [hlo]; exact DEqv.refl _
        · rw [hu]; rfl
      have hlo : loose (f + 1) c p = (toldBy (nth c p.toNat).n).foldl (fun c x => loose f c x.v) (dropCell c p) := by
        show (if used c p then _ else _) = _
        rw [if_pos hu, if_neg hone]
      refine PC_of tab_ok mixed (Try.func49) rfl (by kernel_rfl) (Nat.le_of_ble_eq_true rfl) rfl ?_
      (focus (refine (cwp_seq (cwp_region (sl rfl (sl rfl (sl rfl (seqQ_normal (cwp_seq (cwp_region (sl rfl (sl rfl (Or.inl (PC.on (pc_Used _ _ _) (sl rfl (sl rfl (seqQ_normal (cwp_seq (cwp_seq (cwp_region (sl rfl (sl rfl (seqQ_normal (cwp_cond (oF (congrArg Bool.not hu) (cwp_skip (seqQ_normal (cwp_seq (cwp_region (sl rfl (sl rfl (sl rfl (Exists.intro (p.toNat) (an (an (by omega) (an (by omega) (show 4 = 4 from (by with_reducible rfl)))) (sl rfl (sl rfl (sl rfl (an (show [AV.d (dint (nth c p.toNat).ref), AV.d (dbool (nth c p.toNat).pin), AV.d (dbool (nth c p.toNat).n.leaf), AV.d (dItems (nth c p.toNat).n.it)].length = 4 from rfl) (seqQ_normal (cwp_seq (cwp_seq (cwp_region (sl rfl (sl rfl (an (by with_reducible rfl) (sl rfl (seqQ_normal (cwp_cond (an (fun (hb1 : decide ((nth c p.toNat).ref > 1) = true) => ?_) (fun (hb2 : decide ((nth c p.toNat).ref > 1) = false) => ?_)))))))))))))))))))))))))))))))))))))))))))))))); rotate_right; (have hf2 := hb2; simp only [decide_eq_false_iff_not, Int.not_lt] at hf2; refine (cwp_skip (seqQ_normal (cwp_seq (cwp_region (sl rfl (sl rfl (an rfl (sl rfl (Or.inl (PC.at (pc_set' c keep p 0 true false [] hc hu'.1 hu'.2.1) (an (an (DEqv.refl _) (an (DEqv.refl _) True.intro)) (an (DEqv.refl _) (an (an (DEqv.refl _) (an (DEqv.refl _) (an (DEqv.refl _) (an DEqv.nil True.intro)))) True.intro))) (sl rfl (an (show [AV.d (dCells (c.set p.toNat { ref := 0, pin := true, n := { leaf := false, it := [] } })), AV.d (dint keep)].length = 2 from rfl) (seqQ_normal (cwp_seq (cwp_seq (cwp_region (sl rfl (seqQ_normal (cwp_block (cwp_loop ?_))))))))))))))))))))); rotate_right; (have hf1 := hb1; simp only [decide_eq_true_eq, gt_iff_lt] at hf1; exfalso; omega)))
      have hall : ∀ k, (((nth c p.toNat).n.it.take k).foldl (fun c x => loose f c x.v) (dropCell c p)).length ≤ 2000 ∧ Lim (((nth c p.toNat).n.it.take k).foldl (fun c x => loose f c x.v) (dropCell c p)) ∧
          RefB (((nth c p.toNat).n.it.take k).foldl (fun c x => loose f c x.v) (dropCell c p)) ∧ usedCount (((nth c p.toNat).n.it.take k).foldl (fun c x => loose f c x.v) (dropCell c p)) < f := by
        intro k
        refine foldl_inv (fun d : List Cell => d.length ≤ 2000 ∧ Lim d ∧ RefB d ∧ usedCount d < f) (fun c (x : Item) => loose f c x.v) (fun d x h => ⟨by rw [loose_length]; exact h.1, loose_lim h.2.1, loose_refB h.2.2.1, Nat.lt_of_le_of_lt (loose_usedCount _ _ _) h.2.2.2⟩) _ _ ?_
        exact ⟨by simpa [dropCell] using hc, Lim.set hL _ _ (by simp [big]), RefB.set hR _ _ (by simp), by omega⟩
      refine AWP_for tab_ok mixed (fun j => (nth c p.toNat).n.it.length - j) (fun j => j ≤ (nth c p.toNat).n.it.length ∧ ((nth c p.toNat).n.leaf = true → j = 0))
        (fun j => [(2, .own 0 0), (4, .own 1 0), (7, .own 2 0), (8, aint .i64 (j : Nat))])
        (fun j => [some (.cells [.d (dCells (((nth c p.toNat).n.it.take j).foldl (fun c x => loose f c x.v) (dropCell c p))), .d (dint keep)]), some (.cells (ti24.zero.map AV.d)),
          some (.cells [.d (dint (nth c p.toNat).ref), .d (dbool (nth c p.toNat).pin), .d (dbool (nth c p.toNat).n.leaf), .d (dItems (nth c p.toNat).n.it)])]) 0 [0, 1, 2] ?_ ⟨Nat.zero_le _, fun _ => rfl⟩ ?_
      · (refine (an (an rfl (an rfl (an rfl (Nat.le_of_ble_eq_true rfl)))) (an (an (an (an rfl (by with_reducible rfl)) (Nat.le_of_ble_eq_true rfl)) (an (an (an rfl (by with_reducible rfl)) (Nat.le_of_ble_eq_true rfl)) (an (an (an rfl (by with_reducible rfl)) (Nat.le_of_ble_eq_true rfl)) (an (DEqv.refl _) True.intro)))) (an (an (DEqv.refl _) (an (DEqv.refl _) True.intro)) (an (an (DEqv.refl _) (an (DEqv.refl _) True.intro)) (an (an (DEqv.refl _) (an (DEqv.refl _) (an (DEqv.refl _) (an (DEqv.refl _) True.intro)))) True.intro))))))
      · rintro j ⟨hj, hjl⟩
        obtain ⟨h1, h2, h3, h4⟩ := hall j
        have hend : (nth c p.toNat).n.leaf = true ∨ j = (nth c p.toNat).n.it.length → loose (f + 1) c p = ((nth c p.toNat).n.it.take j).foldl (fun c x => loose f c x.v) (dropCell c p) := by
          rw [hlo]
          unfold toldBy
          rintro (h | rfl)
          · rw [if_pos h, hjl h]; rfl
          · rw [List.take_length]
            split
            · rw [List.eq_nil_of_length_eq_zero (hjl (by assumption))]
            · rfl
        (focus (refine (cwp_seq (cwp_seq (cwp_region (sl rfl (sl rfl (sl rfl (sl rfl (sl rfl (an (by with_reducible rfl) (sl rfl (sl rfl (sl rfl (an (fun (hb1 : decide ((↑j : Int) < (↑(nth c p.toNat).n.it.length : Int)) = true) => ?_) (fun (hb4 : decide ((↑j : Int) < (↑(nth c p.toNat).n.it.length : Int)) = false) => ?_)))))))))))))); rotate_right; (have hf4 := hb4; simp only [decide_eq_false_iff_not, Int.not_lt] at hf4; refine (sl rfl (sl rfl (oF hb4 (sl rfl (sl rfl (oF hb4 (sl rfl (sl rfl (oF hb4 (sl rfl (oF hb4 (sl rfl (seqQ_normal (cwp_cond (oF rfl (cwp_exit (seqQ_exit (seqQ_exit (blockQ_here rfl (seqQ_normal (cwp_seq (cwp_region (sl rfl (an (show [id (AV.d (dCells (List.foldl (fun c x => loose f c x.v) (dropCell c p) (List.take j (nth c p.toNat).n.it)))), id (AV.d (dint keep))].length = 2 from rfl) (sl rfl (seqQ_normal (cwp_ret (endQ_ret (an (an (show DEqv (dCells (List.foldl (fun c x => loose f c x.v) (dropCell c p) (List.take j (nth c p.toNat).n.it))) (dCells (loose (f + 1) c p)) from ?_) (an (DEqv.refl _) True.intro)) (an (DEqv.int ?_) True.intro))))))))))))))))))))))))))))))); rotate_right; (have hf1 := hb1; simp only [decide_eq_true_eq] at hf1; focus (refine (sl rfl (sl rfl (oT hb1 (sl rfl (sl rfl (oT hb1 (sl rfl (sl rfl (oT hb1 (sl rfl (oT hb1 (sl rfl (seqQ_normal (cwp_cond (an (fun (hb2 : (!(nth c p.toNat).n.leaf) = true) => ?_) (fun (hb3 : (!(nth c p.toNat).n.leaf) = false) => ?_)))))))))))))))); rotate_right; (have hf3 := hb3; simp only [Bool.not_eq_false'] at hf3; refine (cwp_exit (seqQ_exit (seqQ_exit (blockQ_here rfl (seqQ_normal (cwp_seq (cwp_region (sl rfl (an (show [id (AV.d (dCells (List.foldl (fun c x => loose f c x.v) (dropCell c p) (List.take j (nth c p.toNat).n.it)))), id (AV.d (dint keep))].length = 2 from rfl) (sl rfl (seqQ_normal (cwp_ret (endQ_ret (an (an (show DEqv (dCells (List.foldl (fun c x => loose f c x.v) (dropCell c p) (List.take j (nth c p.toNat).n.it))) (dCells (loose (f + 1) c p)) from ?_) (an (DEqv.refl _) True.intro)) (an (DEqv.int ?_) True.intro)))))))))))))))); rotate_right; (have hf2 := hb2; simp only [Bool.not_eq_true'] at hf2; refine (cwp_skip (seqQ_normal (cwp_seq (cwp_block (cwp_seq (cwp_draw (sl rfl (sl rfl (sl rfl (sl rfl (sl rfl (Exists.intro (j) (an (an (by with_reducible rfl) (an (by omega) (show 2 = 2 from (by with_reducible rfl)))) (sl rfl (sl rfl (sl rfl (Or.inl (PC.on (ih _ _ _ h1 h2 h3 h4) (sl rfl (sl rfl (sl rfl (sl rfl (sl rfl (an (show [AV.d (dCells (loose f (List.foldl (fun c x => loose f c x.v) (dropCell c p) (List.take j (nth c p.toNat).n.it)) (nth (nth c p.toNat).n.it j).v)), AV.d (dint keep)].length = 2 from rfl) (sl rfl (an (by kernel_rfl) (seqQ_normal (cwp_region (sl rfl (an (show [id (AV.d (dCells (loose f (List.foldl (fun c x => loose f c x.v) (dropCell c p) (List.take j (nth c p.toNat).n.it)) (nth (nth c p.toNat).n.it j).v))), id (AV.d (dint keep))].length = 2 from rfl) (blockQ_normal (seqQ_normal (cwp_region (sl rfl (an (by with_reducible rfl) (ez (wrap64 (by omega)) (sl rfl (sl rfl (seqQ_normal (show Exists _ from ?_)))))))))))))))))))))))))))))))))))))))))))))
        · refine ⟨j + 1, [0, 1, 2], ⟨by omega, by omega, fun h => by simp_all⟩, ?_⟩
          (refine (an (an rfl (an rfl (an rfl (Nat.le_of_ble_eq_true rfl)))) (an (an (an (an rfl (by with_reducible rfl)) (Nat.le_of_ble_eq_true rfl)) (an (an (an rfl (by with_reducible rfl)) (Nat.le_of_ble_eq_true rfl)) (an (an (an rfl (by with_reducible rfl)) (Nat.le_of_ble_eq_true rfl)) (an (DEqv.refl _) True.intro)))) (an (an (show DEqv (dCells (loose f (List.foldl (fun c x => loose f c x.v) (dropCell c p) (List.take j (nth c p.toNat).n.it)) (nth (nth c p.toNat).n.it j).v)) (dCells (List.foldl (fun c x => loose f c x.v) (dropCell c p) (List.take (j + 1) (nth c p.toNat).n.it))) from ?_) (an (DEqv.refl _) True.intro)) (an (an (DEqv.refl _) (an (DEqv.refl _) True.intro)) (an (an (DEqv.refl _) (an (DEqv.refl _) (an (DEqv.refl _) (an (DEqv.refl _) True.intro)))) True.intro))))))
          rw [foldl_take _ _ _ (by omega)]
          exact DEqv.refl _
        · rw [hend (.inl (by assumption))]; exact DEqv.refl _
        · rw [hu]; rfl
        · rw [hend (.inr (by omega))]; exact DEqv.refl _
        · rw [hu]; rfl
    · have hu' : used c p = false := by simpa using hu
      refine PC_of tab_ok mixed (Try.func49) rfl (by kernel_rfl) (Nat.le_of_ble_eq_true rfl) rfl ?_
      (refine (cwp_seq (cwp_region (sl rfl (sl rfl (sl rfl (seqQ_normal (cwp_seq (cwp_region (sl rfl (sl rfl (Or.inl (PC.on (pc_Used _ _ _) (sl rfl (sl rfl (seqQ_normal (cwp_seq (cwp_seq (cwp_region (sl rfl (sl rfl (seqQ_normal (cwp_cond (oT (congrArg Bool.not hu') (cwp_seq (cwp_region (sl rfl (an (show [id (AV.d (dCells c)), id (AV.d (dint keep))].length = 2 from rfl) (sl rfl (seqQ_normal (cwp_ret (seqQ_ret (endQ_ret (an (an (show DEqv (dCells c) (dCells (loose (f + 1) c p)) from ?_) (an (DEqv.refl _) True.intro)) (an (DEqv.int ?_) True.intro)))))))))))))))))))))))))))))))))))
      · rw [show loose (f + 1) c p = c by unfold loose; rw [if_neg hu]]; exact DEqv.refl _
      · rw [hu']; rfl
end Go.Proofs.Abs
