/- A path made anew with an item, by the reference. -/
import Derived.Test.YtonbocppkanogaaZD4
set_option linter.all false
namespace Go.Proofs.Abs
open Go Go.RowKit Go.Proofs
attribute [local irreducible] cwp seqQ blockQ endQ DEqv LEqv AWP drawOK

def withOf (l : List Item) (at' gone : Nat) (more : List Item) : List Item := l.take at' ++ more ++ l.drop (at' + gone)
/-- A path made anew, with an item. -/
def anew (c : List Cell) (x : Item) : Nat → Int → List Cell × List Item
  | 0, _ => (c, [])
  | h + 1, p =>
    let n := nodeOf c p
    let a := atOf n.leaf n.it x.k
    if n.leaf then lay c true (rowsOf (withOf n.it a.1 (if a.2 then 1 else 0) [x])) []
    else
      let m := anew c x h (nth n.it a.1).v
      lay m.1 false (rowsOf (withOf n.it a.1 1 m.2)) (m.2.map (·.v))

theorem rowsOf_row : ∀ (l : List Item) (k : Nat), k < (rowsOf l).length → 1 ≤ (nth (rowsOf l) k).length ∧ (nth (rowsOf l) k).length ≤ 4 := by
  intro l
  induction l using rowsOf.induct with
  | case1 a b c d e r ih =>
    intro k hk
    cases k with
    | zero => simp [rowsOf, nth]
    | succ k => exact ih k (by simpa [rowsOf] using hk)
  | case2 => intro k hk; simp [rowsOf] at hk
  | case3 l h1 h2 =>
    intro k hk
    match l, h1, h2 with
    | [a], _, _ => obtain rfl : k = 0 := by simpa [rowsOf] using hk
                   simp [rowsOf, nth]
    | [a, b], _, _ => obtain rfl : k = 0 := by simpa [rowsOf] using hk
                      simp [rowsOf, nth]
    | [a, b, c], _, _ => obtain rfl : k = 0 := by simpa [rowsOf] using hk
                         simp [rowsOf, nth]
    | [a, b, c, d], _, _ => obtain rfl : k = 0 := by simpa [rowsOf] using hk
                            simp [rowsOf, nth]
    | a :: b :: c :: d :: e :: r, h1, _ => exact absurd rfl (h1 a b c d e r)

theorem rowsOf_two {l : List Item} (h : l.length ≤ 7) : (rowsOf l).length ≤ 2 := by
  by_cases h4 : l.length ≤ 4
  · by_cases h0 : l.length = 0
    · rw [List.eq_nil_of_length_eq_zero h0]; simp [rowsOf]
    · rw [rowsOf_small h4 h0]; simp
  · rw [rowsOf_big (by omega), List.length_cons]
    by_cases h0 : (l.drop 3).length = 0
    · rw [List.eq_nil_of_length_eq_zero h0]; simp [rowsOf]
    · rw [rowsOf_small (by simp; omega) h0]; simp

theorem withOf_length {l more : List Item} {a g : Nat} (h : a + g ≤ l.length) : (withOf l a g more).length = l.length - g + more.length := by
  simp [withOf]; omega

theorem atOf_leaf {it : List Item} {key : Int} : (atOf true it key).1 + (if (atOf true it key).2 then 1 else 0) ≤ it.length := by
  unfold atOf
  split
  · simp; omega
  · simp; exact below_le _ _
theorem atOf_inner {it : List Item} {key : Int} (h : 1 ≤ it.length) : (atOf false it key).1 < it.length := by
  unfold atOf
  split
  · simpa
  · have := below_le it key
    simp; omega

theorem lay_len (c : List Cell) (leaf : Bool) (rows : List (List Item)) (held : List Int) : (lay c leaf rows held).1.length = c.length ∧ (lay c leaf rows held).2.length = rows.length := layTo_len _ _ _ _ _
theorem lay_refLe {c : List Cell} {leaf : Bool} {rows : List (List Item)} {held : List Int} {B : Int} (h : RefLe c B) (hB : 0 ≤ B) (hr : rows.length ≤ 2) : RefLe (lay c leaf rows held).1 (B + 8) :=
  (layTo_refLe h hB rows.length).mono (by omega)

theorem anew_facts {c : List Cell} {x : Item} {B : Int} (hr : RefLe c B) (hB : 0 ≤ B) : ∀ (h : Nat) (p : Int), shape c h p →
    (anew c x h p).1.length = c.length ∧ 1 ≤ (anew c x h p).2.length ∧ (anew c x h p).2.length ≤ 2 ∧ RefLe (anew c x h p).1 (B + 8 * h) := by
  intro h
  induction h with
  | zero => exact fun p h => h.elim
  | succ h ih =>
    rintro p ⟨hu, hrn, hs⟩
    have hl := rightNode_len hrn
    unfold anew
    rcases hs with ⟨hlf, h0⟩ | ⟨hlf, hs⟩
    · simp only [hlf, if_true]
      have ha := atOf_leaf (it := (nodeOf c p).it) (key := x.k)
      have hw := withOf_length (more := [x]) ha
      have h2 := rowsOf_two (l := withOf (nodeOf c p).it (atOf true (nodeOf c p).it x.k).1 (if (atOf true (nodeOf c p).it x.k).2 then 1 else 0) [x]) (by rw [hw]; simp; omega)
      have h1 := (rowsOf_len (withOf (nodeOf c p).it (atOf true (nodeOf c p).it x.k).1 (if (atOf true (nodeOf c p).it x.k).2 then 1 else 0) [x])).2 (by intro e; rw [e] at hw; simp at hw)
      have hll := lay_len c true (rowsOf (withOf (nodeOf c p).it (atOf true (nodeOf c p).it x.k).1 (if (atOf true (nodeOf c p).it x.k).2 then 1 else 0) [x])) []
      refine ⟨hll.1, by omega, by omega, ?_⟩
      exact (lay_refLe hr hB h2).mono (by omega)
    · simp only [hlf, Bool.false_eq_true, if_false]
      have ha := atOf_inner (it := (nodeOf c p).it) (key := x.k) hl.1
      obtain ⟨i1, i2, i3, i4⟩ := ih _ (hs _ ha)
      generalize anew c x h (nth (nodeOf c p).it (atOf false (nodeOf c p).it x.k).1).v = m at *
      have hw := withOf_length (more := m.2) (show (atOf false (nodeOf c p).it x.k).1 + 1 ≤ (nodeOf c p).it.length by omega)
      have h2 := rowsOf_two (l := withOf (nodeOf c p).it (atOf false (nodeOf c p).it x.k).1 1 m.2) (by rw [hw]; omega)
      have h1 := (rowsOf_len (withOf (nodeOf c p).it (atOf false (nodeOf c p).it x.k).1 1 m.2)).2 (by intro e; rw [e] at hw; simp at hw; omega)
      have hll := lay_len m.1 false (rowsOf (withOf (nodeOf c p).it (atOf false (nodeOf c p).it x.k).1 1 m.2)) (m.2.map (·.v))
      refine ⟨by omega, by omega, by omega, ?_⟩
      exact (lay_refLe i4 (by omega) h2).mono (by omega)

theorem DEqv_one {t : Bool} {g : Nat → List D} {x : Item} (h : LEqv (g 0) (dItem x)) : DEqv (.sl t 2 1 g) (dItems [x]) :=
  DEqv.sl rfl (fun e => by cases e) (.inr rfl) fun i hi => by obtain rfl : i = 0 := by omega
                                                              exact h

theorem pc_anew09 (c : List Cell) (keep : Int) (x : Item) (hc : c.length ≤ 2000) {B : Int} (hr : RefLe c B) (hB : 0 ≤ B ∧ B ≤ 2000000000) : ∀ (h : Nat) (p : Int), h ≤ 100 → shape c h p →
    PC Try.prog 48 [aHeap c keep, aint .i64 p, aItem x.k x.v] (.tup [aHeap (anew c x h p).1 keep, aItems (anew c x h p).2]) := by
  intro h
  induction h with
  | zero => exact fun p _ h => h.elim
  | succ h ih =>
    rintro p hh ⟨hu, hrn, hs⟩
    have hu' := used_iff.1 hu
    have hl := rightNode_len hrn
    unfold anew
    unfold nodeOf at hl hs ⊢
    rcases hs with ⟨hlf, h0⟩ | ⟨hlf, hs⟩
    · have ha : (atOf (nth c p.toNat).n.leaf (nth c p.toNat).n.it x.k).1 + (if (atOf (nth c p.toNat).n.leaf (nth c p.toNat).n.it x.k).2 = true then 1 else 0) ≤ (nth c p.toNat).n.it.length := by
        rw [hlf]; exact atOf_leaf
      rw [if_pos hlf]
      have hat := pc_At04 (nth c p.toNat).n.leaf (nth c p.toNat).n.it x.k (by unfold big; omega)
      generalize atOf (nth c p.toNat).n.leaf (nth c p.toNat).n.it x.k = a at ha hat ⊢
      obtain ⟨i, is⟩ := a
      have hfin : ∀ g : Nat, i + g ≤ (nth c p.toNat).n.it.length → PC Try.prog 79 [aItems (nth c p.toNat).n.it, aint .i64 i, aint .i64 g, aItems [x]] (aItems (withOf (nth c p.toNat).n.it i g [x])) ∧
          PC Try.prog 78 [aItems (withOf (nth c p.toNat).n.it i g [x])] (aRows (rowsOf (withOf (nth c p.toNat).n.it i g [x]))) ∧
          PC Try.prog 77 [aHeap c keep, abool true, aRows (rowsOf (withOf (nth c p.toNat).n.it i g [x])), aInts []] (.tup [aHeap (lay c true (rowsOf (withOf (nth c p.toNat).n.it i g [x])) []).1 keep, aItems (lay c true (rowsOf (withOf (nth c p.toNat).n.it i g [x])) []).2]) := by
        intro g hg
        have hw := withOf_length (more := [x]) hg
        simp only [List.length_singleton] at hw
        refine ⟨pc_With04 _ _ _ _ (by omega) (by simp) hg, pc_Split04 _ _ (Nat.le_refl _) (by omega), pc_Lay c keep true _ [] hc hr ⟨by omega, by omega⟩ (by have := rowsOf_two (l := withOf (nth c p.toNat).n.it i g [x]) (by omega); omega) (fun k hk => by have := rowsOf_row _ k hk; omega) (by simp)⟩
      cases is with
      | true =>
        obtain ⟨f1, f2, f3⟩ := hfin 1 (by simp at ha; omega)
        simp only [if_true]
        refine PC_of tab_ok mixed (Try.func48) rfl (by kernel_rfl) (Nat.le_of_ble_eq_true rfl) rfl ?_
        (refine (cwp_seq (cwp_region (sl rfl (sl rfl (sl rfl (sl rfl (seqQ_normal (cwp_seq (cwp_region (sl rfl (sl rfl (sl rfl (Exists.intro (p.toNat) (an (an (by omega) (an (by omega) (show 4 = 4 from (by with_reducible rfl)))) (sl rfl (sl rfl (sl rfl (sl rfl (an (show [AV.d (dbool (nth c p.toNat).n.leaf), AV.d (dItems (nth c p.toNat).n.it)].length = 2 from rfl) (seqQ_normal (cwp_seq (cwp_region (sl rfl (sl rfl (sl rfl (Or.inl (PC.on (hat) (sl rfl (sl rfl (sl rfl (sl rfl (sl rfl (sl rfl (seqQ_normal (cwp_seq (cwp_seq (cwp_region (sl rfl (sl rfl (seqQ_normal (cwp_cond (oT hlf (cwp_seq (cwp_region (sl rfl (seqQ_normal (cwp_seq (cwp_seq (cwp_region (sl rfl (seqQ_normal (cwp_cond (oT rfl (cwp_region (sl rfl (seqQ_normal (cwp_seq (cwp_draw (sl rfl (sl rfl (sl rfl (sl rfl (sl rfl (sl rfl (an (an (show 1 * 2 ≤ 16777216 from (Nat.le_of_ble_eq_true rfl)) (Nat.le_of_ble_eq_true rfl)) (an (show [id (AV.d (dint x.k)), id (AV.d (dint x.v))].length = 2 from rfl) (sl rfl (Or.inl (PC.at (f1) (an (DEqv.refl _) (an (DEqv.refl _) (an (DEqv.refl _) (an (show DEqv (D.sl true ti26.size 1 fun q => List.take ti26.size (List.drop (q * ti26.size) [dint x.k, dint x.v])) (dItems [x]) from ?_) True.intro)))) (sl rfl (Or.inl (PC.on (f2) (sl rfl (Or.inl (PC.at (f3) (an (an (DEqv.refl _) (an (DEqv.refl _) True.intro)) (an (DEqv.refl _) (an (DEqv.refl _) (an DEqv.nil True.intro)))) (sl rfl (sl rfl (sl rfl (an (show [AV.d (dCells (lay c true (rowsOf (withOf (nth c p.toNat).n.it i 1 [x])) []).fst), AV.d (dint keep)].length = 2 from rfl) (sl rfl (an (by kernel_rfl) (seqQ_normal (cwp_ret (seqQ_ret (endQ_ret (an (an (DEqv.refl _) (an (DEqv.refl _) True.intro)) (an (DEqv.refl _) True.intro))))))))))))))))))))))))))))))))))))))))))))))))))))))))))))))))))))))))))))))))))))))))
        exact DEqv_one (LEqv.refl _)
      | false =>
        obtain ⟨f1, f2, f3⟩ := hfin 0 (by simp at ha; omega)
        simp only [Bool.false_eq_true, if_false]
        refine PC_of tab_ok mixed (Try.func48) rfl (by kernel_rfl) (Nat.le_of_ble_eq_true rfl) rfl ?_
        (refine (cwp_seq (cwp_region (sl rfl (sl rfl (sl rfl (sl rfl (seqQ_normal (cwp_seq (cwp_region (sl rfl (sl rfl (sl rfl (Exists.intro (p.toNat) (an (an (by omega) (an (by omega) (show 4 = 4 from (by with_reducible rfl)))) (sl rfl (sl rfl (sl rfl (sl rfl (an (show [AV.d (dbool (nth c p.toNat).n.leaf), AV.d (dItems (nth c p.toNat).n.it)].length = 2 from rfl) (seqQ_normal (cwp_seq (cwp_region (sl rfl (sl rfl (sl rfl (Or.inl (PC.on (hat) (sl rfl (sl rfl (sl rfl (sl rfl (sl rfl (sl rfl (seqQ_normal (cwp_seq (cwp_seq (cwp_region (sl rfl (sl rfl (seqQ_normal (cwp_cond (oT hlf (cwp_seq (cwp_region (sl rfl (seqQ_normal (cwp_seq (cwp_seq (cwp_region (sl rfl (seqQ_normal (cwp_cond (oF rfl (cwp_skip (seqQ_normal (cwp_seq (cwp_draw (sl rfl (sl rfl (sl rfl (sl rfl (sl rfl (sl rfl (an (an (show 1 * 2 ≤ 16777216 from (Nat.le_of_ble_eq_true rfl)) (Nat.le_of_ble_eq_true rfl)) (an (show [id (AV.d (dint x.k)), id (AV.d (dint x.v))].length = 2 from rfl) (sl rfl (Or.inl (PC.at (f1) (an (DEqv.refl _) (an (DEqv.refl _) (an (DEqv.refl _) (an (show DEqv (D.sl true ti26.size 1 fun q => List.take ti26.size (List.drop (q * ti26.size) [dint x.k, dint x.v])) (dItems [x]) from ?_) True.intro)))) (sl rfl (Or.inl (PC.on (f2) (sl rfl (Or.inl (PC.at (f3) (an (an (DEqv.refl _) (an (DEqv.refl _) True.intro)) (an (DEqv.refl _) (an (DEqv.refl _) (an DEqv.nil True.intro)))) (sl rfl (sl rfl (sl rfl (an (show [AV.d (dCells (lay c true (rowsOf (withOf (nth c p.toNat).n.it i 0 [x])) []).fst), AV.d (dint keep)].length = 2 from rfl) (sl rfl (an (by kernel_rfl) (seqQ_normal (cwp_ret (seqQ_ret (endQ_ret (an (an (DEqv.refl _) (an (DEqv.refl _) True.intro)) (an (DEqv.refl _) True.intro)))))))))))))))))))))))))))))))))))))))))))))))))))))))))))))))))))))))))))))))))))))))
        exact DEqv_one (LEqv.refl _)
    · have ha := atOf_inner (it := (nth c p.toNat).n.it) (key := x.k) hl.1
      rw [← hlf] at ha
      rw [if_neg (by simp [hlf])]
      have hat := pc_At04 (nth c p.toNat).n.leaf (nth c p.toNat).n.it x.k (by unfold big; omega)
      generalize atOf (nth c p.toNat).n.leaf (nth c p.toNat).n.it x.k = a at ha hat ⊢
      obtain ⟨i, is⟩ := a
      have hih := ih _ (by omega) (hs i ha)
      obtain ⟨i1, i2, i3, i4⟩ := anew_facts (x := x) hr hB.1 h _ (hs i ha)
      simp only
      generalize anew c x h (nth (nth c p.toNat).n.it i).v = m at *
      have hw := withOf_length (more := m.2) (show i + 1 ≤ (nth c p.toNat).n.it.length from ha)
      have f1 := pc_With04 (nth c p.toNat).n.it m.2 i 1 (by omega) (by omega) ha
      have f2 := pc_Split04 _ (withOf (nth c p.toNat).n.it i 1 m.2) (Nat.le_refl _) (by omega)
      have f4 := pc_V m.2 (by omega)
      have f3 := pc_Lay m.1 keep false (rowsOf (withOf (nth c p.toNat).n.it i 1 m.2)) (m.2.map (·.v)) (by omega) i4 ⟨by omega, by omega⟩ (by have := rowsOf_two (l := withOf (nth c p.toNat).n.it i 1 m.2) (by omega); omega) (fun k hk => by have := rowsOf_row _ k hk; omega) (by simp; omega)
      refine PC_of tab_ok mixed (Try.func48) rfl (by kernel_rfl) (Nat.le_of_ble_eq_true rfl) rfl ?_
      (refine (cwp_seq (cwp_region (sl rfl (sl rfl (sl rfl (sl rfl (seqQ_normal (cwp_seq (cwp_region (sl rfl (sl rfl (sl rfl (Exists.intro (p.toNat) (an (an (by omega) (an (by omega) (show 4 = 4 from (by with_reducible rfl)))) (sl rfl (sl rfl (sl rfl (sl rfl (an (show [AV.d (dbool (nth c p.toNat).n.leaf), AV.d (dItems (nth c p.toNat).n.it)].length = 2 from rfl) (seqQ_normal (cwp_seq (cwp_region (sl rfl (sl rfl (sl rfl (Or.inl (PC.on (hat) (sl rfl (sl rfl (sl rfl (sl rfl (sl rfl (sl rfl (seqQ_normal (cwp_seq (cwp_seq (cwp_region (sl rfl (sl rfl (seqQ_normal (cwp_cond (oF hlf (cwp_skip (seqQ_normal (cwp_seq (cwp_draw (sl rfl (sl rfl (sl rfl (sl rfl (Exists.intro ((i, is).fst) (an (an (by with_reducible rfl) (an (by assumption) (show 2 = 2 from (by with_reducible rfl)))) (sl rfl (sl rfl (sl rfl (sl rfl (Or.inl (PC.on (hih) (sl rfl (sl rfl (sl rfl (sl rfl (sl rfl (an (show [AV.d (dCells m.fst), AV.d (dint keep)].length = 2 from rfl) (sl rfl (an (by kernel_rfl) (seqQ_normal (cwp_seq (cwp_draw (sl rfl (sl rfl (sl rfl (sl rfl (sl rfl (Or.inl (PC.on (f1) (sl rfl (Or.inl (PC.on (f2) (sl rfl (sl rfl (Or.inl (PC.on (f4) (sl rfl (Or.inl (PC.on (f3) (sl rfl (sl rfl (sl rfl (an (show [AV.d (dCells (lay m.fst false (rowsOf (withOf (nth c p.toNat).n.it i 1 m.snd)) (List.map (fun x => x.v) m.snd)).fst), AV.d (dint keep)].length = 2 from rfl) (sl rfl (an (by kernel_rfl) (seqQ_normal (cwp_ret (endQ_ret (an (an (DEqv.refl _) (an (DEqv.refl _) True.intro)) (an (DEqv.refl _) True.intro))))))))))))))))))))))))))))))))))))))))))))))))))))))))))))))))))))))))))))))))))))))))))))))))))
end Go.Proofs.Abs
