/- A path made anew without a key, by the reference. -/
import Derived.Test.YtonbocppkanogaaZD7
set_option linter.all false
namespace Go.Proofs.Abs
open Go Go.RowKit Go.Proofs
attribute [local irreducible] cwp seqQ blockQ endQ DEqv LEqv AWP drawOK

/-- A path made anew, without a key. -/
def anewD (c : List Cell) (key : Int) : Nat → Int → List Cell × List Item
  | 0, _ => (c, [])
  | h + 1, p =>
    let n := nodeOf c p
    let i := (atOf n.leaf n.it key).1
    let m := if n.leaf then (c, []) else anewD c key h (nth n.it i).v
    let l := withOf n.it i 1 m.2
    if l.length = 0 then (m.1, []) else lay m.1 n.leaf [l] (m.2.map (·.v))
/-- A key is where its path leads. -/
def onPath (c : List Cell) (key : Int) : Nat → Int → Prop
  | 0, _ => False
  | h + 1, p => let n := nodeOf c p
    (atOf n.leaf n.it key).1 < n.it.length ∧ (n.leaf = false → onPath c key h (nth n.it (atOf n.leaf n.it key).1).v)

theorem lay_one_len (c : List Cell) (leaf : Bool) (l : List Item) (held : List Int) : (lay c leaf [l] held).2.length = 1 := (lay_len _ _ _ _).2
theorem anewD_facts {c : List Cell} {key : Int} {B : Int} (hL : Lim c) (hr : RefLe c B) (hB : 0 ≤ B) : ∀ (h : Nat) (p : Int), 
    (anewD c key h p).1.length = c.length ∧ (anewD c key h p).2.length ≤ 1 ∧ RefLe (anewD c key h p).1 (B + 8 * h) ∧ Lim (anewD c key h p).1 := by
  intro h
  induction h with
  | zero => exact fun p => ⟨rfl, by simp [anewD], by simpa [anewD] using hr, hL⟩
  | succ h ih =>
    intro p
    have hm : ∀ q, (if (nodeOf c p).leaf then (c, []) else anewD c key h q).1.length = c.length ∧ (if (nodeOf c p).leaf then (c, []) else anewD c key h q).2.length ≤ 1 ∧
        RefLe (if (nodeOf c p).leaf then (c, []) else anewD c key h q).1 (B + 8 * h) ∧ Lim (if (nodeOf c p).leaf then (c, []) else anewD c key h q).1 := by
      intro q
      split
      · exact ⟨rfl, by simp, hr.mono (by omega), hL⟩
      · exact ih q
    unfold anewD
    simp only
    have hm := hm (nth (nodeOf c p).it (atOf (nodeOf c p).leaf (nodeOf c p).it key).1).v
    generalize (if (nodeOf c p).leaf then (c, []) else anewD c key h (nth (nodeOf c p).it (atOf (nodeOf c p).leaf (nodeOf c p).it key).1).v) = m at hm ⊢
    obtain ⟨m1, m2, m3, m4⟩ := hm
    split
    · exact ⟨m1, by simp, m3.mono (by omega), m4⟩
    · have hll := lay_len m.1 (nodeOf c p).leaf [withOf (nodeOf c p).it (atOf (nodeOf c p).leaf (nodeOf c p).it key).1 1 m.2] (m.2.map (·.v))
      refine ⟨by omega, by rw [hll.2]; simp, ?_, lay_lim m4⟩
      exact (lay_refLe m3 (by omega) (by simp)).mono (by omega)

theorem DEqv_row1 (l : List Item) : DEqv (.sl true 1 1 fun q => List.take 1 (List.drop (q * 1) [dItems l])) (.sl false 1 [l].length fun i => [dItems (nth [l] i)]) := by
  refine DEqv.sl rfl (fun e => by cases e) (.inr rfl) fun i hi => ?_
  obtain rfl : i = 0 := by omega
  exact LEqv.refl _

theorem pc_anew10 (c : List Cell) (keep key : Int) (hc : c.length ≤ 2000) (hL : Lim c) {B : Int} (hr : RefLe c B) (hB : 0 ≤ B ∧ B ≤ 2000000000) : ∀ (h : Nat) (p : Int), h ≤ 100 → shape c h p → onPath c key h p →
    PC Try.prog 61 [aHeap c keep, aint .i64 p, aint .i64 key] (.tup [aHeap (anewD c key h p).1 keep, aItems (anewD c key h p).2]) := by
  intro h
  induction h with
  | zero => exact fun p _ h => h.elim
  | succ h ih =>
    rintro p hh ⟨hu, hrn, hs⟩ ⟨ho, hon⟩
    have hu' := used_iff.1 hu
    have hl := rightNode_len hrn
    unfold anewD
    simp only
    unfold nodeOf at hl hs ho hon ⊢
    have hat := pc_At04 (nth c p.toNat).n.leaf (nth c p.toNat).n.it key (by unfold big; omega)
    have hm := anewD_facts (key := key) hL hr hB.1 h (nth (nth c p.toNat).n.it (atOf (nth c p.toNat).n.leaf (nth c p.toNat).n.it key).1).v
    rcases hs with ⟨hlf, h0⟩ | ⟨hlf, hs⟩
    · rw [if_pos hlf]
      generalize atOf (nth c p.toNat).n.leaf (nth c p.toNat).n.it key = a at ho hat hm ⊢
      obtain ⟨i, is⟩ := a
      simp only at ho hat ⊢
      have hw := withOf_length (more := []) (show i + 1 ≤ (nth c p.toNat).n.it.length from ho)
      simp only [List.length_nil] at hw
      have f1 := pc_With04 (nth c p.toNat).n.it [] i 1 (by omega) (by simp) ho
      change PC _ _ _ (aItems (withOf _ _ _ _)) at f1
      generalize withOf (nth c p.toNat).n.it i 1 [] = l at *
      have f2 := pc_V [] (by simp)
      by_cases h0 : l.length = 0
      · rw [if_pos h0]
        refine PC_of tab_ok mixed (Try.func61) rfl (by kernel_rfl) (Nat.le_of_ble_eq_true rfl) rfl ?_
        (focus (refine (cwp_seq (cwp_region (sl rfl (sl rfl (sl rfl (seqQ_normal (cwp_seq (cwp_region (sl rfl (sl rfl (sl rfl (Exists.intro (p.toNat) (an (an (by omega) (an (by omega) (show 4 = 4 from (by with_reducible rfl)))) (sl rfl (sl rfl (sl rfl (sl rfl (an (show [AV.d (dbool (nth c p.toNat).n.leaf), AV.d (dItems (nth c p.toNat).n.it)].length = 2 from rfl) (seqQ_normal (cwp_seq (cwp_region (sl rfl (sl rfl (Or.inl (PC.on (hat) (sl rfl (sl rfl (sl rfl (sl rfl (sl rfl (sl rfl (seqQ_normal (cwp_seq (cwp_region (sl rfl (seqQ_normal (cwp_seq (cwp_seq (cwp_region (sl rfl (sl rfl (sl rfl (seqQ_normal (cwp_cond (oF (congrArg Bool.not hlf) (cwp_skip (seqQ_normal (cwp_seq (cwp_region (sl rfl (sl rfl (sl rfl (sl rfl (Or.inl (PC.at (f1) (an (DEqv.refl _) (an (DEqv.refl _) (an (DEqv.refl _) (an DEqv.nil True.intro)))) (sl rfl (sl rfl (seqQ_normal (cwp_seq (cwp_seq (cwp_region (sl rfl (sl rfl (an (by with_reducible rfl) (sl rfl (seqQ_normal (cwp_cond (an (fun (hb1 : ((↑l.length : Int) == 0) = true) => ?_) (fun (hb2 : ((↑l.length : Int) == 0) = false) => ?_))))))))))))))))))))))))))))))))))))))))))))))))))))))))))))))))))))); rotate_right; (have hf2 := hb2; simp only [ne_eq, beq_eq_false_iff_ne] at hf2; exfalso; omega); rotate_right; (have hf1 := hb1; simp only [beq_iff_eq] at hf1; refine (cwp_seq (cwp_region (sl rfl (an (show [id (AV.d (dCells c)), id (AV.d (dint keep))].length = 2 from rfl) (sl rfl (seqQ_normal (cwp_ret (seqQ_ret (endQ_ret (an (an (DEqv.refl _) (an (DEqv.refl _) True.intro)) (an DEqv.nil True.intro))))))))))))))
      · rw [if_neg h0]
        have hrow : ∀ k, k < [l].length → 1 ≤ (nth [l] k).length ∧ (nth [l] k).length ≤ 1000 := by
          intro k hk
          obtain rfl : k = 0 := by simpa using hk
          show 1 ≤ l.length ∧ l.length ≤ 1000
          omega
        have f3 := pc_Lay c keep (nth c p.toNat).n.leaf [l] [] hc hr ⟨by omega, by omega⟩ (by simp) hrow (by simp)
        simp only [List.map_nil] at f2 ⊢
        refine PC_of tab_ok mixed (Try.func61) rfl (by kernel_rfl) (Nat.le_of_ble_eq_true rfl) rfl ?_
        (focus (refine (cwp_seq (cwp_region (sl rfl (sl rfl (sl rfl (seqQ_normal (cwp_seq (cwp_region (sl rfl (sl rfl (sl rfl (Exists.intro (p.toNat) (an (an (by omega) (an (by omega) (show 4 = 4 from (by with_reducible rfl)))) (sl rfl (sl rfl (sl rfl (sl rfl (an (show [AV.d (dbool (nth c p.toNat).n.leaf), AV.d (dItems (nth c p.toNat).n.it)].length = 2 from rfl) (seqQ_normal (cwp_seq (cwp_region (sl rfl (sl rfl (Or.inl (PC.on (hat) (sl rfl (sl rfl (sl rfl (sl rfl (sl rfl (sl rfl (seqQ_normal (cwp_seq (cwp_region (sl rfl (seqQ_normal (cwp_seq (cwp_seq (cwp_region (sl rfl (sl rfl (sl rfl (seqQ_normal (cwp_cond (oF (congrArg Bool.not hlf) (cwp_skip (seqQ_normal (cwp_seq (cwp_region (sl rfl (sl rfl (sl rfl (sl rfl (Or.inl (PC.at (f1) (an (DEqv.refl _) (an (DEqv.refl _) (an (DEqv.refl _) (an DEqv.nil True.intro)))) (sl rfl (sl rfl (seqQ_normal (cwp_seq (cwp_seq (cwp_region (sl rfl (sl rfl (an (by with_reducible rfl) (sl rfl (seqQ_normal (cwp_cond (an (fun (hb1 : ((↑l.length : Int) == 0) = true) => ?_) (fun (hb2 : ((↑l.length : Int) == 0) = false) => ?_))))))))))))))))))))))))))))))))))))))))))))))))))))))))))))))))))))); rotate_right; (have hf2 := hb2; simp only [ne_eq, beq_eq_false_iff_ne] at hf2; refine (cwp_skip (seqQ_normal (cwp_seq (cwp_draw (sl rfl (sl rfl (sl rfl (sl rfl (an (an (show 1 * 1 ≤ 16777216 from (Nat.le_of_ble_eq_true rfl)) (Nat.le_of_ble_eq_true rfl)) (an (show [AV.d (dItems l)].length = 1 from rfl) (sl rfl (sl rfl (Or.inl (PC.at (f2) (an DEqv.nil True.intro) (sl rfl (Or.inl (PC.at (f3) (an (an (DEqv.refl _) (an (DEqv.refl _) True.intro)) (an (DEqv.refl _) (an (show DEqv (D.sl true ti27.size 1 fun q => List.take ti27.size (List.drop (q * ti27.size) [dItems l])) (D.sl false 1 [l].length fun i => [dItems (nth [l] i)]) from ?_) (an (DEqv.refl _) True.intro)))) (sl rfl (sl rfl (sl rfl (an (show [AV.d (dCells (lay c (nth c p.toNat).n.leaf [l] []).fst), AV.d (dint keep)].length = 2 from rfl) (sl rfl (an (by kernel_rfl) (seqQ_normal (cwp_ret (endQ_ret (an (an (DEqv.refl _) (an (DEqv.refl _) True.intro)) (an (DEqv.refl _) True.intro))))))))))))))))))))))))))))); rotate_right; (have hf1 := hb1; simp only [beq_iff_eq] at hf1; exfalso; omega)))
        exact DEqv_row1 l
    · simp only [if_neg (show ¬ (nth c p.toNat).n.leaf = true by simp [hlf])]
      have hih := ih (nth (nth c p.toNat).n.it (atOf (nth c p.toNat).n.leaf (nth c p.toNat).n.it key).1).v (by omega) (hs _ ho) (hon hlf)
      generalize atOf (nth c p.toNat).n.leaf (nth c p.toNat).n.it key = a at ho hat hm hih ⊢
      obtain ⟨i, is⟩ := a
      simp only at ho hat hm hih ⊢
      generalize anewD c key h (nth (nth c p.toNat).n.it i).v = m at hm hih ⊢
      obtain ⟨m1, m2, m3, m4⟩ := hm
      have hw := withOf_length (more := m.2) (show i + 1 ≤ (nth c p.toNat).n.it.length from ho)
      have f1 := pc_With04 (nth c p.toNat).n.it m.2 i 1 (by omega) (by omega) ho
      change PC _ _ _ (aItems (withOf _ _ _ _)) at f1
      generalize withOf (nth c p.toNat).n.it i 1 m.2 = l at *
      have f2 := pc_V m.2 (by omega)
      by_cases h0 : l.length = 0
      · rw [if_pos h0]
        refine PC_of tab_ok mixed (Try.func61) rfl (by kernel_rfl) (Nat.le_of_ble_eq_true rfl) rfl ?_
        (focus (refine (cwp_seq (cwp_region (sl rfl (sl rfl (sl rfl (seqQ_normal (cwp_seq (cwp_region (sl rfl (sl rfl (sl rfl (Exists.intro (p.toNat) (an (an (by omega) (an (by omega) (show 4 = 4 from (by with_reducible rfl)))) (sl rfl (sl rfl (sl rfl (sl rfl (an (show [AV.d (dbool (nth c p.toNat).n.leaf), AV.d (dItems (nth c p.toNat).n.it)].length = 2 from rfl) (seqQ_normal (cwp_seq (cwp_region (sl rfl (sl rfl (Or.inl (PC.on (hat) (sl rfl (sl rfl (sl rfl (sl rfl (sl rfl (sl rfl (seqQ_normal (cwp_seq (cwp_region (sl rfl (seqQ_normal (cwp_seq (cwp_seq (cwp_region (sl rfl (sl rfl (sl rfl (seqQ_normal (cwp_cond (oT (congrArg Bool.not hlf) (cwp_seq (cwp_draw (sl rfl (sl rfl (sl rfl (sl rfl (Exists.intro (i) (an (an (by with_reducible rfl) (an (by assumption) (show 2 = 2 from (by with_reducible rfl)))) (sl rfl (sl rfl (sl rfl (sl rfl (Or.inl (PC.on (hih) (sl rfl (sl rfl (sl rfl (sl rfl (sl rfl (an (show [AV.d (dCells m.fst), AV.d (dint keep)].length = 2 from rfl) (sl rfl (an (by kernel_rfl) (seqQ_normal (cwp_seq (cwp_region (sl rfl (an (show [id (AV.d (dCells m.fst)), id (AV.d (dint keep))].length = 2 from rfl) (seqQ_normal (cwp_region (sl rfl (sl rfl (seqQ_normal (cwp_seq (cwp_region (sl rfl (sl rfl (sl rfl (sl rfl (Or.inl (PC.on (f1) (sl rfl (sl rfl (seqQ_normal (cwp_seq (cwp_seq (cwp_region (sl rfl (sl rfl (an (by with_reducible rfl) (sl rfl (seqQ_normal (cwp_cond (an (fun (hb1 : ((↑l.length : Int) == 0) = true) => ?_) (fun (hb2 : ((↑l.length : Int) == 0) = false) => ?_))))))))))))))))))))))))))))))))))))))))))))))))))))))))))))))))))))))))))))))))))))))))))))))))))); rotate_right; (have hf2 := hb2; simp only [ne_eq, beq_eq_false_iff_ne] at hf2; exfalso; omega); rotate_right; (have hf1 := hb1; simp only [beq_iff_eq] at hf1; refine (cwp_seq (cwp_region (sl rfl (an (show [id (id (AV.d (dCells m.fst))), id (id (AV.d (dint keep)))].length = 2 from rfl) (sl rfl (seqQ_normal (cwp_ret (seqQ_ret (endQ_ret (an (an (DEqv.refl _) (an (DEqv.refl _) True.intro)) (an DEqv.nil True.intro))))))))))))))
      · rw [if_neg h0]
        have hrow : ∀ k, k < [l].length → 1 ≤ (nth [l] k).length ∧ (nth [l] k).length ≤ 1000 := by
          intro k hk
          obtain rfl : k = 0 := by simpa using hk
          show 1 ≤ l.length ∧ l.length ≤ 1000
          omega
        have f3 := pc_Lay m.1 keep (nth c p.toNat).n.leaf [l] (m.2.map (·.v)) (by omega) m3 ⟨by omega, by omega⟩ (by simp) hrow (by simp; omega)
        refine PC_of tab_ok mixed (Try.func61) rfl (by kernel_rfl) (Nat.le_of_ble_eq_true rfl) rfl ?_
        (focus (refine (cwp_seq (cwp_region (sl rfl (sl rfl (sl rfl (seqQ_normal (cwp_seq (cwp_region (sl rfl (sl rfl (sl rfl (Exists.intro (p.toNat) (an (an (by omega) (an (by omega) (show 4 = 4 from (by with_reducible rfl)))) (sl rfl (sl rfl (sl rfl (sl rfl (an (show [AV.d (dbool (nth c p.toNat).n.leaf), AV.d (dItems (nth c p.toNat).n.it)].length = 2 from rfl) (seqQ_normal (cwp_seq (cwp_region (sl rfl (sl rfl (Or.inl (PC.on (hat) (sl rfl (sl rfl (sl rfl (sl rfl (sl rfl (sl rfl (seqQ_normal (cwp_seq (cwp_region (sl rfl (seqQ_normal (cwp_seq (cwp_seq (cwp_region (sl rfl (sl rfl (sl rfl (seqQ_normal (cwp_cond (oT (congrArg Bool.not hlf) (cwp_seq (cwp_draw (sl rfl (sl rfl (sl rfl (sl rfl (Exists.intro (i) (an (an (by with_reducible rfl) (an (by assumption) (show 2 = 2 from (by with_reducible rfl)))) (sl rfl (sl rfl (sl rfl (sl rfl (Or.inl (PC.on (hih) (sl rfl (sl rfl (sl rfl (sl rfl (sl rfl (an (show [AV.d (dCells m.fst), AV.d (dint keep)].length = 2 from rfl) (sl rfl (an (by kernel_rfl) (seqQ_normal (cwp_seq (cwp_region (sl rfl (an (show [id (AV.d (dCells m.fst)), id (AV.d (dint keep))].length = 2 from rfl) (seqQ_normal (cwp_region (sl rfl (sl rfl (seqQ_normal (cwp_seq (cwp_region (sl rfl (sl rfl (sl rfl (sl rfl (Or.inl (PC.on (f1) (sl rfl (sl rfl (seqQ_normal (cwp_seq (cwp_seq (cwp_region (sl rfl (sl rfl (an (by with_reducible rfl) (sl rfl (seqQ_normal (cwp_cond (an (fun (hb1 : ((↑l.length : Int) == 0) = true) => ?_) (fun (hb2 : ((↑l.length : Int) == 0) = false) => ?_))))))))))))))))))))))))))))))))))))))))))))))))))))))))))))))))))))))))))))))))))))))))))))))))))); rotate_right; (have hf2 := hb2; simp only [ne_eq, beq_eq_false_iff_ne] at hf2; refine (cwp_skip (seqQ_normal (cwp_seq (cwp_draw (sl rfl (sl rfl (sl rfl (sl rfl (an (an (show 1 * 1 ≤ 16777216 from (Nat.le_of_ble_eq_true rfl)) (Nat.le_of_ble_eq_true rfl)) (an (show [AV.d (dItems l)].length = 1 from rfl) (sl rfl (sl rfl (Or.inl (PC.on (f2) (sl rfl (Or.inl (PC.at (f3) (an (an (DEqv.refl _) (an (DEqv.refl _) True.intro)) (an (DEqv.refl _) (an (show DEqv (D.sl true ti27.size 1 fun q => List.take ti27.size (List.drop (q * ti27.size) [dItems l])) (D.sl false 1 [l].length fun i => [dItems (nth [l] i)]) from ?_) (an (DEqv.refl _) True.intro)))) (sl rfl (sl rfl (sl rfl (an (show [AV.d (dCells (lay m.fst (nth c p.toNat).n.leaf [l] (List.map (fun x => x.v) m.snd)).fst), AV.d (dint keep)].length = 2 from rfl) (sl rfl (an (by kernel_rfl) (seqQ_normal (cwp_ret (endQ_ret (an (an (DEqv.refl _) (an (DEqv.refl _) True.intro)) (an (DEqv.refl _) True.intro))))))))))))))))))))))))))))); rotate_right; (have hf1 := hb1; simp only [beq_iff_eq] at hf1; exfalso; omega)))
        exact DEqv_row1 l
end Go.Proofs.Abs
