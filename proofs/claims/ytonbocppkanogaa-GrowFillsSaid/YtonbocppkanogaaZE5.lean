/- Over, Put, Fill, as the program has them. -/
import Derived.Test.YtonbocppkanogaaZE4
set_option linter.all false
namespace Go.Proofs.Abs
open Go Go.RowKit Go.Proofs
attribute [local irreducible] cwp seqQ blockQ endQ DEqv LEqv AWP drawOK

theorem more_good {c : List Cell} (h : Good c) {p : Int} (hu : used c p = true) : Good (more c p) := by
  have hu := used_iff.1 hu
  have := h.pin p.toNat hu.2.2
  exact h.set (by simp; omega) (fun _ => this) (h.told p.toNat (by omega))
theorem used_more {c : List Cell} {p q : Int} (h : used c q = true) : used (more c p) q = true := by
  have h := used_iff.1 h
  have := (more_ref c p q.toNat).1
  exact used_iff.2 ⟨h.1, by rw [more_length]; exact h.2.1, by omega⟩
theorem fold_good (held : List Int) : ∀ (it : List Item) (c : List Cell), Good c → (∀ x ∈ it, used c x.v = true) → Good (it.foldl (heldMore held) c)
  | [], _, h, _ => h
  | x :: it, c, h, hu => by
    have hx := hu x List.mem_cons_self
    refine fold_good held it _ ?_ fun y hy => ?_
    · unfold heldMore; split
      · exact h
      · exact more_good h hx
    · have := hu y (List.mem_cons_of_mem _ hy)
      unfold heldMore; split
      · exact this
      · exact used_more this
theorem leads_used {c : List Cell} {leaf : Bool} {it : List Item} (h : leads c leaf it = true) (hl : leaf = false) : ∀ x ∈ it, used c x.v = true := by
  intro x hx
  obtain ⟨i, hi, rfl⟩ := List.getElem_of_mem hx
  simp only [leads, hl, Bool.false_or] at h
  have := allTo_iff.1 h i hi
  rwa [nth_eq hi] at this
theorem alloc_good {c : List Cell} {leaf : Bool} {it : List Item} {held : List Int} (h : Good c) : Good (alloc c leaf it held).1 := by
  unfold alloc
  split
  · rename_i hc
    simp only [Bool.and_eq_true] at hc
    split
    · have hG : Good (layIn c leaf it held) := by
        unfold layIn
        split
        · exact h
        · exact fold_good held it c h (leads_used hc.2 (by simpa using ‹¬ leaf = true›))
      refine hG.set (by simp) (fun _ => rfl) fun hlf k hk => ?_
      have := used_iff.1 (leads_used hc.2 hlf (nth it k) (by rw [nth_eq hk]; exact List.getElem_mem hk))
      rw [layIn_length]
      exact ⟨this.1, this.2.1⟩
    · exact h
  · exact h
theorem layTo_good {c : List Cell} {leaf : Bool} {rows : List (List Item)} {held : List Int} (h : Good c) : ∀ k, Good (layTo c leaf rows held k).1
  | 0 => h
  | k + 1 => alloc_good (layTo_good h k)
theorem anew_good {c : List Cell} {x : Item} (h0 : Good c) : ∀ (h : Nat) (p : Int), Good (anew c x h p).1 := by
  intro h
  induction h with
  | zero => exact fun p => h0
  | succ h ih =>
    intro p
    unfold anew
    simp only
    split
    · exact layTo_good h0 _
    · exact layTo_good (ih _) _

theorem pc_OverP (c : List Cell) (keep : Int) (l : List Item) (hc : c.length ≤ 2000) (h0 : RefNN c) {B : Int} (hr : RefLe c B) (hB : B ≤ 4000000000) (hl : l.length ≤ 1000) :
    PC Try.prog 15 [aHeap c keep, aItems l] (.tup [aHeap (over c l).1 keep, aint .i64 (over c l).2.1, aint .i64 (over c l).2.2]) := by
  have h1 := pc_places51 l hl
  have h2 := pc_AllocP c keep false l (l.map (·.v)) hc (fun i => ⟨h0 i, by have := hr i; omega⟩) (by unfold big; omega) (by simp [big]; omega)
  refine PC_of tab_ok mixed (Try.func15) rfl (by kernel_rfl) (Nat.le_of_ble_eq_true rfl) rfl ?_
  (refine (cwp_seq (cwp_region (sl rfl (sl rfl (sl rfl (sl rfl (seqQ_normal (cwp_seq (cwp_draw (sl rfl (sl rfl (an rfl (sl rfl (sl rfl (Or.inl (PC.on (h1) (sl rfl (Or.inl (PC.on (h2) (sl rfl (sl rfl (sl rfl (sl rfl (an (show [AV.d (dCells (alloc c false l (List.map (fun x => x.v) l)).fst), AV.d (dint keep)].length = 2 from rfl) (sl rfl (sl rfl (an (by kernel_rfl) (seqQ_normal (cwp_ret (endQ_ret (an (an (DEqv.refl _) (an (DEqv.refl _) True.intro)) (an (DEqv.refl _) (an (DEqv.refl _) True.intro))))))))))))))))))))))))))))))))))

def settle (c : List Cell) (old : Int) : List Cell := if 0 ≤ old then looseA c old else c
theorem ac_settled (c : List Cell) (keep k v old : Int) (h : LooseIn (usedCount c + 1) c) :
    AC Try.prog 42 [.own 0 0, aItem k v, aint .i64 old] (memB c keep) (.tup [aHeap (settle c old) keep, aint .i64 v, aint .i64 0]) (memB (settle c old) keep) := by
  have g := pc_LooseP c keep old h
  by_cases ho : 0 ≤ old
  · rw [show settle c old = looseA c old from if_pos ho]
    refine AC_ofF tab_ok mixed (Try.func42) rfl (by kernel_rfl) (Nat.le_of_ble_eq_true rfl) ?_ (Nat.le_of_ble_eq_true rfl)
    (focus (refine (cwp_seq (cwp_region (sl rfl (sl rfl (sl rfl (sl rfl (seqQ_normal (cwp_seq (cwp_seq (cwp_region (sl rfl (an (by with_reducible rfl) (sl rfl (seqQ_normal (cwp_cond (an (fun (hb1 : decide (old ≥ 0) = true) => ?_) (fun (hb2 : decide (old ≥ 0) = false) => ?_))))))))))))))))); rotate_right; (have hf2 := hb2; simp only [decide_eq_false_iff_not, Int.not_le] at hf2; exfalso; omega); rotate_right; (have hf1 := hb1; simp only [decide_eq_true_eq, ge_iff_le] at hf1; refine (cwp_region (sl rfl (sl rfl (sl rfl (sl rfl (sl rfl (sl rfl (Or.inl (PC.on (g) (sl rfl (sl rfl (sl rfl (sl rfl (sl rfl (sl rfl (an (show [AV.d (dCells (looseA c old)), AV.d (dint keep)].length = 2 from rfl) (seqQ_normal (cwp_seq (cwp_draw (sl rfl (sl rfl (sl rfl (sl rfl (sl rfl (sl rfl (an (show [id (AV.d (dCells (looseA c old))), id (AV.d (dint keep))].length = 2 from rfl) (sl rfl (sl rfl (an (by kernel_rfl) (seqQ_normal (cwp_ret (endQ_ret (Exists.intro [0] (an (an rfl (an (an (DEqv.refl _) (an (DEqv.refl _) True.intro)) (an (DEqv.refl _) (an (DEqv.refl _) True.intro)))) (an (an rfl (an rfl (an rfl (Nat.le_of_ble_eq_true rfl)))) (an True.intro (an (an (DEqv.refl _) (an (DEqv.refl _) True.intro)) True.intro))))))))))))))))))))))))))))))))))))))))
  · rw [show settle c old = c from if_neg ho]
    refine AC_ofF tab_ok mixed (Try.func42) rfl (by kernel_rfl) (Nat.le_of_ble_eq_true rfl) ?_ (Nat.le_of_ble_eq_true rfl)
    (focus (refine (cwp_seq (cwp_region (sl rfl (sl rfl (sl rfl (sl rfl (seqQ_normal (cwp_seq (cwp_seq (cwp_region (sl rfl (an (by with_reducible rfl) (sl rfl (seqQ_normal (cwp_cond (an (fun (hb1 : decide (old ≥ 0) = true) => ?_) (fun (hb2 : decide (old ≥ 0) = false) => ?_))))))))))))))))); rotate_right; (have hf2 := hb2; simp only [decide_eq_false_iff_not, Int.not_le] at hf2; refine (cwp_skip (seqQ_normal (cwp_seq (cwp_draw (sl rfl (sl rfl (sl rfl (sl rfl (sl rfl (sl rfl (an (show [id (AV.d (dCells c)), id (AV.d (dint keep))].length = 2 from rfl) (sl rfl (sl rfl (an (by kernel_rfl) (seqQ_normal (cwp_ret (endQ_ret (Exists.intro [0] (an (an rfl (an (an (DEqv.refl _) (an (DEqv.refl _) True.intro)) (an (DEqv.refl _) (an (DEqv.refl _) True.intro)))) (an (an rfl (an rfl (an rfl (Nat.le_of_ble_eq_true rfl)))) (an True.intro (an (an (DEqv.refl _) (an (DEqv.refl _) True.intro)) True.intro))))))))))))))))))))))); rotate_right; (have hf1 := hb1; simp only [decide_eq_true_eq, ge_iff_le] at hf1; exfalso; omega)))

/-- What the heap must be for Put. -/
structure PutIn (c : List Cell) (keep : Int) : Prop where
  len : c.length ≤ 2000
  keep : 0 ≤ keep ∧ keep ≤ 2000
  lim : Lim c
  good : Good c
  refs : RefLe c 1000000000

theorem firstLow_lt {c : List Cell} (h : 0 < free c) (hn : RefNN c) : firstLow c < c.length := by
  unfold firstLow
  rw [List.findIdx_lt_length]
  unfold free at h
  rw [List.countP_pos_iff] at h
  obtain ⟨x, hx, e⟩ := h
  obtain ⟨i, hi, rfl⟩ := List.getElem_of_mem hx
  refine ⟨_, hx, ?_⟩
  rw [← nth_eq hi] at e ⊢
  rw [isFree_taken (hn i)] at e
  exact e

theorem alloc_first {c : List Cell} {key val : Int} (hn : RefNN c) (hf : 0 < free c) (hk : isNum key = true ∧ isNum val = true) : (alloc c true [⟨key, val⟩] []).2.2 = 0 := by
  have h1 : rightNode [⟨key, val⟩] = true := by
    simp only [isNum, decide_eq_true_eq] at hk
    simp [rightNode, allTo, itemAt, itemOK, nth]
    omega
  unfold alloc
  rw [h1, if_pos (show (true && leads c true [⟨key, val⟩]) = true by simp [leads]), if_pos (firstLow_lt hf hn)]

theorem pc_PutP (c : List Cell) (keep : Int) (h : Nat) (root key val : Int) (deep : Bool) (hp : PutIn c keep) (ht : tree c h root) :
    PC Try.prog 13 [aHeap c keep, aint .i64 root, aint .i64 key, aint .i64 val, abool deep] (.tup [aHeap (put c keep h root key val deep).1 keep, aint .i64 (put c keep h root key val deep).2.1, aint .i64 (put c keep h root key val deep).2.2]) := by
  have hhi : h ≤ 20 := by
    rcases ht with h | h
    · omega
    · exact h.2
  have h1 := pc_HighPT c keep ht
  have h2 := pc_NeedP h (by omega)
  have h3 := pc_FitsP c keep ((2 * h + 1 : Nat) : Int) deep hp.len hp.keep
  have k1 := pc_fitsG key
  have k2 := pc_fitsG val
  by_cases hn : isNum key = true ∧ isNum val = true
  case neg =>
    rw [put_arg hn]
    cases n1 : isNum key with
    | false =>
      rw [n1] at k1
      refine PC_of tab_ok mixed (Try.func13) rfl (by kernel_rfl) (Nat.le_of_ble_eq_true rfl) rfl ?_
      (refine (cwp_seq (cwp_region (sl rfl (sl rfl (sl rfl (sl rfl (seqQ_normal (cwp_seq (cwp_region (sl rfl (sl rfl (Or.inl (PC.on (h1) (sl rfl (sl rfl (seqQ_normal (cwp_seq (cwp_block (cwp_seq (cwp_region (sl rfl (Or.inl (PC.on (k1) (sl rfl (sl rfl (sl rfl (sl rfl (uT rfl (sl rfl (sl rfl (uT rfl (sl rfl (sl rfl (uT rfl (sl rfl (oT rfl (sl rfl (sl rfl (seqQ_normal (cwp_cond (oT rfl (cwp_seq (cwp_region (sl rfl (sl rfl (an (show [id (AV.d (dCells c)), id (AV.d (dint keep))].length = 2 from rfl) (sl rfl (sl rfl (seqQ_normal (cwp_ret (blockQ_ret (seqQ_ret (endQ_ret (an (an (DEqv.refl _) (an (DEqv.refl _) True.intro)) (an (DEqv.refl _) (an (DEqv.refl _) True.intro)))))))))))))))))))))))))))))))))))))))))))))))))))))))))
    | true =>
      have n2 : isNum val = false := by
        cases n2 : isNum val with
        | false => rfl
        | true => exact absurd ⟨n1, n2⟩ hn
      rw [n1] at k1
      rw [n2] at k2
      refine PC_of tab_ok mixed (Try.func13) rfl (by kernel_rfl) (Nat.le_of_ble_eq_true rfl) rfl ?_
      (refine (cwp_seq (cwp_region (sl rfl (sl rfl (sl rfl (sl rfl (seqQ_normal (cwp_seq (cwp_region (sl rfl (sl rfl (Or.inl (PC.on (h1) (sl rfl (sl rfl (seqQ_normal (cwp_seq (cwp_block (cwp_seq (cwp_region (sl rfl (Or.inl (PC.on (k1) (sl rfl (sl rfl (sl rfl (sl rfl (uF rfl (sl rfl (sl rfl (uF rfl (Or.inl (PC.on (k2) (sl rfl (sl rfl (uF rfl (sl rfl (oF rfl (sl rfl (sl rfl (seqQ_normal (cwp_cond (oT rfl (cwp_seq (cwp_region (sl rfl (sl rfl (an (show [id (AV.d (dCells c)), id (AV.d (dint keep))].length = 2 from rfl) (sl rfl (sl rfl (seqQ_normal (cwp_ret (blockQ_ret (seqQ_ret (endQ_ret (an (an (DEqv.refl _) (an (DEqv.refl _) True.intro)) (an (DEqv.refl _) (an (DEqv.refl _) True.intro)))))))))))))))))))))))))))))))))))))))))))))))))))))))))))
  obtain ⟨n1, n2⟩ := hn
  have hn := And.intro n1 n2
  rw [n1] at k1
  rw [n2] at k2
  by_cases h20 : h = 20
  · rw [put_full hn (.inl h20)]
    refine PC_of tab_ok mixed (Try.func13) rfl (by kernel_rfl) (Nat.le_of_ble_eq_true rfl) rfl ?_
    (focus (refine (cwp_seq (cwp_region (sl rfl (sl rfl (sl rfl (sl rfl (seqQ_normal (cwp_seq (cwp_region (sl rfl (sl rfl (Or.inl (PC.on (h1) (sl rfl (sl rfl (seqQ_normal (cwp_seq (cwp_block (cwp_seq (cwp_region (sl rfl (Or.inl (PC.on (k1) (sl rfl (sl rfl (sl rfl (sl rfl (uF rfl (sl rfl (sl rfl (uF rfl (Or.inl (PC.on (k2) (sl rfl (sl rfl (uF rfl (sl rfl (oF rfl (sl rfl (sl rfl (seqQ_normal (cwp_cond (oF rfl (cwp_seq (cwp_draw (sl rfl (an (by with_reducible rfl) (sl rfl (sl rfl (sl rfl (an (fun (hb1 : ((↑h : Int) == 20) = false) => ?_) (fun (hb2 : ((↑h : Int) == 20) = true) => ?_)))))))))))))))))))))))))))))))))))))))))))))))))))); rotate_right; (have hf2 := hb2; simp only [beq_iff_eq] at hf2; refine (sl rfl (sl rfl (uT hb2 (sl rfl (sl rfl (uT hb2 (sl rfl (sl rfl (uT hb2 (sl rfl (sl rfl (uT hb2 (sl rfl (sl rfl (uT hb2 (sl rfl (oT hb2 (sl rfl (sl rfl (an (by kernel_rfl) (seqQ_normal (cwp_cond (oT rfl (cwp_seq (cwp_region (sl rfl (sl rfl (an (show [id (AV.d (dCells c)), id (AV.d (dint keep))].length = 2 from rfl) (sl rfl (sl rfl (seqQ_normal (cwp_ret (blockQ_ret (seqQ_ret (endQ_ret (an (an (DEqv.refl _) (an (DEqv.refl _) True.intro)) (an (DEqv.refl _) (an (DEqv.refl _) True.intro))))))))))))))))))))))))))))))))))))))); rotate_right; (have hf1 := hb1; simp only [ne_eq, beq_eq_false_iff_ne] at hf1; exfalso; omega)))
  cases hf : fits c keep (2 * h + 1 : Nat) deep with
  | false =>
    rw [put_full hn (.inr hf)]
    rw [hf] at h3
    refine PC_of tab_ok mixed (Try.func13) rfl (by kernel_rfl) (Nat.le_of_ble_eq_true rfl) rfl ?_
    (focus (refine (cwp_seq (cwp_region (sl rfl (sl rfl (sl rfl (sl rfl (seqQ_normal (cwp_seq (cwp_region (sl rfl (sl rfl (Or.inl (PC.on (h1) (sl rfl (sl rfl (seqQ_normal (cwp_seq (cwp_block (cwp_seq (cwp_region (sl rfl (Or.inl (PC.on (k1) (sl rfl (sl rfl (sl rfl (sl rfl (uF rfl (sl rfl (sl rfl (uF rfl (Or.inl (PC.on (k2) (sl rfl (sl rfl (uF rfl (sl rfl (oF rfl (sl rfl (sl rfl (seqQ_normal (cwp_cond (oF rfl (cwp_seq (cwp_draw (sl rfl (an (by with_reducible rfl) (sl rfl (sl rfl (sl rfl (an (fun (hb1 : ((↑h : Int) == 20) = false) => ?_) (fun (hb2 : ((↑h : Int) == 20) = true) => ?_)))))))))))))))))))))))))))))))))))))))))))))))))))); rotate_right; (have hf2 := hb2; simp only [beq_iff_eq] at hf2; exfalso; omega); rotate_right; (have hf1 := hb1; simp only [ne_eq, beq_eq_false_iff_ne] at hf1; refine (sl rfl (sl rfl (uF hb1 (sl rfl (sl rfl (uF hb1 (Or.inl (PC.on (h2) (sl rfl (sl rfl (uF hb1 (sl rfl (sl rfl (uF hb1 (Or.inl (PC.on (h3) (sl rfl (sl rfl (uF hb1 (sl rfl (oF hb1 (sl rfl (sl rfl (an (by kernel_rfl) (seqQ_normal (cwp_cond (oT rfl (cwp_seq (cwp_region (sl rfl (sl rfl (an (show [id (AV.d (dCells c)), id (AV.d (dint keep))].length = 2 from rfl) (sl rfl (sl rfl (seqQ_normal (cwp_ret (blockQ_ret (seqQ_ret (endQ_ret (an (an (DEqv.refl _) (an (DEqv.refl _) True.intro)) (an (DEqv.refl _) (an (DEqv.refl _) True.intro)))))))))))))))))))))))))))))))))))))))))))))
  | true =>
    rw [hf] at h3
    by_cases hroot : root < 0
    · rw [put_first hn h20 hf hroot]
      have h4 := ac_lay43 c keep true [⟨key, val⟩] [] hp.len hp.good.ref hp.refs (by omega) (by simp) (by simp) (by simp)
      have hfree : 0 < free c := by
        unfold fits at hf
        split at hf
        · have := of_decide_eq_true hf; omega
        · have := of_decide_eq_true hf; have := hp.keep; omega
      have hok := alloc_first (key := key) (val := val) hp.good.ref hfree hn
      have h5 := ac_settled (alloc c true [⟨key, val⟩] []).1 keep key (alloc c true [⟨key, val⟩] []).2.1 root ⟨by rw [alloc_length]; exact hp.len, alloc_good hp.good, alloc_lim hp.lim, fun i => by have := alloc_refLe (leaf := true) (it := [⟨key, val⟩]) (held := []) hp.refs (by omega) i; omega, by omega⟩
      rw [show settle (alloc c true [⟨key, val⟩] []).1 root = (alloc c true [⟨key, val⟩] []).1 from if_neg (by omega)] at h5
      refine PC_of tab_ok mixed (Try.func13) rfl (by kernel_rfl) (Nat.le_of_ble_eq_true rfl) rfl ?_
      (focus (refine (cwp_seq (cwp_region (sl rfl (sl rfl (sl rfl (sl rfl (seqQ_normal (cwp_seq (cwp_region (sl rfl (sl rfl (Or.inl (PC.on (h1) (sl rfl (sl rfl (seqQ_normal (cwp_seq (cwp_block (cwp_seq (cwp_region (sl rfl (Or.inl (PC.on (k1) (sl rfl (sl rfl (sl rfl (sl rfl (uF rfl (sl rfl (sl rfl (uF rfl (Or.inl (PC.on (k2) (sl rfl (sl rfl (uF rfl (sl rfl (oF rfl (sl rfl (sl rfl (seqQ_normal (cwp_cond (oF rfl (cwp_seq (cwp_draw (sl rfl (an (by with_reducible rfl) (sl rfl (sl rfl (sl rfl (an (fun (hb1 : ((↑h : Int) == 20) = false) => ?_) (fun (hb4 : ((↑h : Int) == 20) = true) => ?_)))))))))))))))))))))))))))))))))))))))))))))))))))); rotate_right; (have hf4 := hb4; simp only [beq_iff_eq] at hf4; exfalso; omega); rotate_right; (have hf1 := hb1; simp only [ne_eq, beq_eq_false_iff_ne] at hf1; focus (refine (sl rfl (sl rfl (uF hb1 (sl rfl (sl rfl (uF hb1 (Or.inl (PC.on (h2) (sl rfl (sl rfl (uF hb1 (sl rfl (sl rfl (uF hb1 (Or.inl (PC.on (h3) (sl rfl (sl rfl (uF hb1 (sl rfl (oF hb1 (sl rfl (sl rfl (an (by kernel_rfl) (seqQ_normal (cwp_cond (oF rfl (cwp_skip (blockQ_normal (seqQ_normal (cwp_seq (cwp_region (sl rfl (an rfl (sl rfl (sl rfl (sl rfl (sl rfl (an rfl (an rfl (sl rfl (sl rfl (sl rfl (an (show [AV.d (D.v (Value.int IntKind.i64 key)), AV.d (D.v (Value.int IntKind.i64 val))].length = 2 from rfl) (seqQ_normal (cwp_seq (cwp_seq (cwp_region (sl rfl (an (by with_reducible rfl) (sl rfl (seqQ_normal (cwp_cond (an (fun (hb2 : decide (root < 0) = true) => ?_) (fun (hb3 : decide (root < 0) = false) => ?_))))))))))))))))))))))))))))))))))))))))))))))))))))))); rotate_right; (have hf3 := hb3; simp only [decide_eq_false_iff_not, Int.not_lt] at hf3; exfalso; omega); rotate_right; (have hf2 := hb2; simp only [decide_eq_true_eq] at hf2; refine (cwp_seq (cwp_region (sl rfl (sl rfl (sl rfl (an (an (show 1 * 2 ≤ 16777216 from (Nat.le_of_ble_eq_true rfl)) (Nat.le_of_ble_eq_true rfl)) (an (show [id (AV.d (D.v (Value.int IntKind.i64 key))), id (AV.d (D.v (Value.int IntKind.i64 val)))].length = 2 from rfl) (sl rfl (an rfl (an (show [AV.d (D.sl true 2 1 fun q => List.take 2 (List.drop (q * 2) [D.v (Value.int IntKind.i64 key), D.v (Value.int IntKind.i64 val)]))].length = 1 from rfl) (sl rfl (Framed.on (h4.under [2]) (show (sameLen ([] ++ [AV.own (0 + 1 + 1) 0, AV.agg [AV.d (D.v (Value.bool true)), AV.d (D.sl true 2 1 fun q => List.take 2 (List.drop (q * 2) [D.v (Value.int IntKind.i64 key), D.v (Value.int IntKind.i64 val)]))], AV.d (D.sl true 0 0 fun x => [])] ++ []) [AV.own 0 0, aNode true [{ k := key, v := val }], aInts []] && allBelow [some (Blk.cells [AV.d (dCells c), AV.d (dint keep)]), some (Blk.cells [AV.d (D.sl true 0 0 fun x => []), AV.d (D.v (Value.int IntKind.i64 0))]), some (Blk.cells [id (AV.d (dCells c)), id (AV.d (dint keep))]), some (Blk.cells [AV.d (D.v (Value.int IntKind.i64 key)), AV.d (D.v (Value.int IntKind.i64 val))])].length [2]) = true from rfl) (an (an rfl (an rfl (an rfl (Nat.le_of_ble_eq_true rfl)))) (an (an (an (an rfl (by with_reducible rfl)) (Nat.le_of_ble_eq_true rfl)) (an (an (DEqv.refl _) (an (show DEqv (D.sl true ti26.size 1 fun q => List.take ti26.size (List.drop (q * ti26.size) [D.v (Value.int IntKind.i64 key), D.v (Value.int IntKind.i64 val)])) (dItems [{ k := key, v := val }]) from ?_) True.intro)) (an DEqv.nil True.intro))) (an (an (DEqv.refl _) (an (DEqv.refl _) True.intro)) True.intro))) (sl rfl (sl rfl (Framed.on (h5.under [2]) rfl (an (an rfl (an rfl (an rfl (Nat.le_of_ble_eq_true rfl)))) (an (an (an (an rfl (by with_reducible rfl)) (Nat.le_of_ble_eq_true rfl)) (an (an (DEqv.refl _) (an (DEqv.refl _) True.intro)) (an (DEqv.refl _) True.intro))) (an (an (DEqv.refl _) (an (DEqv.refl _) True.intro)) True.intro))) (sl rfl (sl rfl (sl rfl (sl rfl (an (show (rens1 (names2 [2] (memB (alloc c true [{ k := key, v := val }] []).fst keep) (frameM (names2 [2] (memB (alloc c true [{ k := key, v := val }] []).fst keep) [some (Blk.cells [AV.d (dCells c), AV.d (dint keep)]), some (Blk.cells [AV.d (D.sl true 0 0 fun x => []), AV.d (D.v (Value.int IntKind.i64 0))]), some (Blk.cells [id (AV.d (dCells c)), id (AV.d (dint keep))]), some (Blk.cells [AV.d (D.v (Value.int IntKind.i64 key)), AV.d (D.v (Value.int IntKind.i64 val))])]) [2] (memB (alloc c true [{ k := key, v := val }] []).fst keep) [some (Blk.cells [AV.d (dCells c), AV.d (dint keep)]), some (Blk.cells [AV.d (D.sl true 0 0 fun x => []), AV.d (D.v (Value.int IntKind.i64 0))]), some (Blk.cells [id (AV.d (dCells c)), id (AV.d (dint keep))]), some (Blk.cells [AV.d (D.v (Value.int IntKind.i64 key)), AV.d (D.v (Value.int IntKind.i64 val))])])) [AV.d (dCells (alloc c true [{ k := key, v := val }] []).fst), AV.d (dint keep)]).length = 2 from rfl) (sl rfl (sl rfl (seqQ_normal (cwp_ret (seqQ_ret (endQ_ret (an (an (DEqv.refl _) (an (DEqv.refl _) True.intro)) (an (DEqv.refl _) (an (DEqv.int (show 0 = (↑((alloc c true [{ k := key, v := val }] []).fst, (↑(alloc c true [{ k := key, v := val }] []).snd.fst : Int), (alloc c true [{ k := key, v := val }] []).snd.snd).snd.snd : Int) from ?_)) True.intro))))))))))))))))))))))))))))))))))
      · exact DEqv_one (LEqv.refl _)
      · simp [hok]
    · have hs : shape c h root := by
        rcases ht with h | h
        · omega
        · exact h.1
      have hu := used_iff.1 (show used c root = true by
        cases h with
        | zero => exact hs.elim
        | succ h => exact hs.1)
      obtain ⟨i1, i2, i3, i4⟩ := anew_facts (x := ⟨key, val⟩) hp.refs (by omega) h root hs
      have i5 := anew_nn (x := ⟨key, val⟩) hp.good.ref h root
      have i6 := anew_good (x := ⟨key, val⟩) hp.good h root
      have hLm := anew_lim (x := ⟨key, val⟩) hp.lim h root
      have h4 := ac_anew h c keep ⟨key, val⟩ root 1000000000 hp.len hp.good.ref hp.refs (by omega) (by omega) (by omega) hs
      have hlen := hp.len
      rw [put_in hn h20 hf hroot]
      generalize anew c ⟨key, val⟩ h root = m at *
      by_cases hm : 1 < m.2.length
      · rw [if_pos hm]
        have h5 := pc_OverP m.1 keep m.2 (by omega) i5 i4 (by omega) (by omega)
        have h6 := ac_settled (over m.1 m.2).1 keep 0 (over m.1 m.2).2.1 root ⟨by unfold over; rw [alloc_length]; omega, alloc_good i6, alloc_lim hLm, fun i => by have := alloc_refLe (leaf := false) (it := m.2) (held := m.2.map (·.v)) i4 (by omega) i; unfold over; omega, by omega⟩
        rw [show settle (over m.1 m.2).1 root = looseA (over m.1 m.2).1 root from if_pos (by omega)] at h6
        refine PC_of tab_ok mixed (Try.func13) rfl (by kernel_rfl) (Nat.le_of_ble_eq_true rfl) rfl ?_
        (focus (refine (cwp_seq (cwp_region (sl rfl (sl rfl (sl rfl (sl rfl (seqQ_normal (cwp_seq (cwp_region (sl rfl (sl rfl (Or.inl (PC.on (h1) (sl rfl (sl rfl (seqQ_normal (cwp_seq (cwp_block (cwp_seq (cwp_region (sl rfl (Or.inl (PC.on (k1) (sl rfl (sl rfl (sl rfl (sl rfl (uF rfl (sl rfl (sl rfl (uF rfl (Or.inl (PC.on (k2) (sl rfl (sl rfl (uF rfl (sl rfl (oF rfl (sl rfl (sl rfl (seqQ_normal (cwp_cond (oF rfl (cwp_seq (cwp_draw (sl rfl (an (by with_reducible rfl) (sl rfl (sl rfl (sl rfl (an (fun (hb1 : ((↑h : Int) == 20) = false) => ?_) (fun (hb6 : ((↑h : Int) == 20) = true) => ?_)))))))))))))))))))))))))))))))))))))))))))))))))))); rotate_right; (have hf6 := hb6; simp only [beq_iff_eq] at hf6; exfalso; omega); rotate_right; (have hf1 := hb1; simp only [ne_eq, beq_eq_false_iff_ne] at hf1; focus (refine (sl rfl (sl rfl (uF hb1 (sl rfl (sl rfl (uF hb1 (Or.inl (PC.on (h2) (sl rfl (sl rfl (uF hb1 (sl rfl (sl rfl (uF hb1 (Or.inl (PC.on (h3) (sl rfl (sl rfl (uF hb1 (sl rfl (oF hb1 (sl rfl (sl rfl (an (by kernel_rfl) (seqQ_normal (cwp_cond (oF rfl (cwp_skip (blockQ_normal (seqQ_normal (cwp_seq (cwp_region (sl rfl (an rfl (sl rfl (sl rfl (sl rfl (sl rfl (an rfl (an rfl (sl rfl (sl rfl (sl rfl (an (show [AV.d (D.v (Value.int IntKind.i64 key)), AV.d (D.v (Value.int IntKind.i64 val))].length = 2 from rfl) (seqQ_normal (cwp_seq (cwp_seq (cwp_region (sl rfl (an (by with_reducible rfl) (sl rfl (seqQ_normal (cwp_cond (an (fun (hb2 : decide (root < 0) = true) => ?_) (fun (hb3 : decide (root < 0) = false) => ?_))))))))))))))))))))))))))))))))))))))))))))))))))))))); rotate_right; (have hf3 := hb3; simp only [decide_eq_false_iff_not, Int.not_lt] at hf3; focus (refine (cwp_skip (seqQ_normal (cwp_seq (cwp_region (sl rfl (sl rfl (sl rfl (Framed.on (h4.under [2]) rfl (an (an rfl (an rfl (an rfl (Nat.le_of_ble_eq_true rfl)))) (an (an (an (an rfl (by with_reducible rfl)) (Nat.le_of_ble_eq_true rfl)) (an (DEqv.refl _) (an (an (DEqv.refl _) (an (DEqv.refl _) True.intro)) True.intro))) (an (an (DEqv.refl _) (an (DEqv.refl _) True.intro)) True.intro))) (sl rfl (sl rfl (seqQ_normal (cwp_seq (cwp_seq (cwp_region (sl rfl (sl rfl (an (by with_reducible rfl) (sl rfl (seqQ_normal (cwp_cond (an (fun (hb4 : ((↑m.snd.length : Int) == 1) = true) => ?_) (fun (hb5 : ((↑m.snd.length : Int) == 1) = false) => ?_)))))))))))))))))))))); rotate_right; (have hf5 := hb5; simp only [ne_eq, beq_eq_false_iff_ne] at hf5; refine (cwp_skip (seqQ_normal (cwp_seq (cwp_region (sl rfl (sl rfl (sl rfl (sl rfl (sl rfl (Or.inl (PC.on (h5) (sl rfl (sl rfl (sl rfl (sl rfl (sl rfl (sl rfl (an (show [AV.d (dCells (over m.fst m.snd).fst), AV.d (dint keep)].length = 2 from rfl) (sl rfl (sl rfl (seqQ_normal (cwp_seq (cwp_region (sl rfl (sl rfl (sl rfl (sl rfl (an (show [id (AV.d (dCells (over m.fst m.snd).fst)), id (AV.d (dint keep))].length = 2 from rfl) (seqQ_normal (cwp_seq (cwp_region (sl rfl (sl rfl (an rfl (sl rfl (sl rfl (Framed.on (h6.under [2]) rfl (an (an rfl (an rfl (an rfl (Nat.le_of_ble_eq_true rfl)))) (an (an (an (an rfl (by with_reducible rfl)) (Nat.le_of_ble_eq_true rfl)) (an (an (DEqv.refl _) (an (DEqv.refl _) True.intro)) (an (DEqv.refl _) True.intro))) (an (an (DEqv.refl _) (an (DEqv.refl _) True.intro)) True.intro))) (sl rfl (sl rfl (sl rfl (sl rfl (an (show (rens1 (names2 [2] (memB (looseA (over m.fst m.snd).fst root) keep) [some (Blk.cells [AV.d (dCells c), AV.d (dint keep)]), some (Blk.cells [AV.d (D.sl true 0 0 fun x => []), AV.d (D.v (Value.int IntKind.i64 0))]), some (Blk.cells [id (AV.d (dCells (over m.fst m.snd).fst)), id (AV.d (dint keep))]), some (Blk.cells [AV.d (D.v (Value.int IntKind.i64 key)), AV.d (D.v (Value.int IntKind.i64 val))]), some (Blk.cells [AV.d (dCells (over m.fst m.snd).fst), AV.d (dint keep)])]) [AV.d (dCells (looseA (over m.fst m.snd).fst root)), AV.d (dint keep)]).length = 2 from rfl) (sl rfl (sl rfl (seqQ_normal (cwp_ret (endQ_ret (an (an (DEqv.refl _) (an (DEqv.refl _) True.intro)) (an (DEqv.refl _) (an (DEqv.refl _) True.intro))))))))))))))))))))))))))))))))))))))))))))))))))); rotate_right; (have hf4 := hb4; simp only [beq_iff_eq] at hf4; exfalso; omega))); rotate_right; (have hf2 := hb2; simp only [decide_eq_true_eq] at hf2; exfalso; omega)))))
      · rw [if_neg hm]
        have h6 := ac_settled m.1 keep (nth m.2 0).k (nth m.2 0).v root ⟨by omega, i6, hLm, fun i => by have := i4 i; omega, by omega⟩
        rw [show settle m.1 root = looseA m.1 root from if_pos (by omega)] at h6
        refine PC_of tab_ok mixed (Try.func13) rfl (by kernel_rfl) (Nat.le_of_ble_eq_true rfl) rfl ?_
        (focus (refine (cwp_seq (cwp_region (sl rfl (sl rfl (sl rfl (sl rfl (seqQ_normal (cwp_seq (cwp_region (sl rfl (sl rfl (Or.inl (PC.on (h1) (sl rfl (sl rfl (seqQ_normal (cwp_seq (cwp_block (cwp_seq (cwp_region (sl rfl (Or.inl (PC.on (k1) (sl rfl (sl rfl (sl rfl (sl rfl (uF rfl (sl rfl (sl rfl (uF rfl (Or.inl (PC.on (k2) (sl rfl (sl rfl (uF rfl (sl rfl (oF rfl (sl rfl (sl rfl (seqQ_normal (cwp_cond (oF rfl (cwp_seq (cwp_draw (sl rfl (an (by with_reducible rfl) (sl rfl (sl rfl (sl rfl (an (fun (hb1 : ((↑h : Int) == 20) = false) => ?_) (fun (hb6 : ((↑h : Int) == 20) = true) => ?_)))))))))))))))))))))))))))))))))))))))))))))))))))); rotate_right; (have hf6 := hb6; simp only [beq_iff_eq] at hf6; exfalso; omega); rotate_right; (have hf1 := hb1; simp only [ne_eq, beq_eq_false_iff_ne] at hf1; focus (refine (sl rfl (sl rfl (uF hb1 (sl rfl (sl rfl (uF hb1 (Or.inl (PC.on (h2) (sl rfl (sl rfl (uF hb1 (sl rfl (sl rfl (uF hb1 (Or.inl (PC.on (h3) (sl rfl (sl rfl (uF hb1 (sl rfl (oF hb1 (sl rfl (sl rfl (an (by kernel_rfl) (seqQ_normal (cwp_cond (oF rfl (cwp_skip (blockQ_normal (seqQ_normal (cwp_seq (cwp_region (sl rfl (an rfl (sl rfl (sl rfl (sl rfl (sl rfl (an rfl (an rfl (sl rfl (sl rfl (sl rfl (an (show [AV.d (D.v (Value.int IntKind.i64 key)), AV.d (D.v (Value.int IntKind.i64 val))].length = 2 from rfl) (seqQ_normal (cwp_seq (cwp_seq (cwp_region (sl rfl (an (by with_reducible rfl) (sl rfl (seqQ_normal (cwp_cond (an (fun (hb2 : decide (root < 0) = true) => ?_) (fun (hb3 : decide (root < 0) = false) => ?_))))))))))))))))))))))))))))))))))))))))))))))))))))))); rotate_right; (have hf3 := hb3; simp only [decide_eq_false_iff_not, Int.not_lt] at hf3; focus (refine (cwp_skip (seqQ_normal (cwp_seq (cwp_region (sl rfl (sl rfl (sl rfl (Framed.on (h4.under [2]) rfl (an (an rfl (an rfl (an rfl (Nat.le_of_ble_eq_true rfl)))) (an (an (an (an rfl (by with_reducible rfl)) (Nat.le_of_ble_eq_true rfl)) (an (DEqv.refl _) (an (an (DEqv.refl _) (an (DEqv.refl _) True.intro)) True.intro))) (an (an (DEqv.refl _) (an (DEqv.refl _) True.intro)) True.intro))) (sl rfl (sl rfl (seqQ_normal (cwp_seq (cwp_seq (cwp_region (sl rfl (sl rfl (an (by with_reducible rfl) (sl rfl (seqQ_normal (cwp_cond (an (fun (hb4 : ((↑m.snd.length : Int) == 1) = true) => ?_) (fun (hb5 : ((↑m.snd.length : Int) == 1) = false) => ?_)))))))))))))))))))))); rotate_right; (have hf5 := hb5; simp only [ne_eq, beq_eq_false_iff_ne] at hf5; exfalso; omega); rotate_right; (have hf4 := hb4; simp only [beq_iff_eq] at hf4; refine (cwp_seq (cwp_region (sl rfl (sl rfl (Exists.intro (0) (an (an (by omega) (an (by assumption) (show 2 = 2 from (by with_reducible rfl)))) (sl rfl (sl rfl (sl rfl (Framed.on (h6.under [2]) rfl (an (an rfl (an rfl (an rfl (Nat.le_of_ble_eq_true rfl)))) (an (an (an (an rfl (by with_reducible rfl)) (Nat.le_of_ble_eq_true rfl)) (an (an (DEqv.refl _) (an (DEqv.refl _) True.intro)) (an (DEqv.refl _) True.intro))) (an (an (DEqv.refl _) (an (DEqv.refl _) True.intro)) True.intro))) (sl rfl (sl rfl (sl rfl (sl rfl (an (show (rens1 (names2 [2] (memB (looseA m.fst root) keep) (frameM (names2 [2] (memB m.fst keep) [some (Blk.cells [AV.d (dCells c), AV.d (dint keep)]), some (Blk.cells [AV.d (D.sl true 0 0 fun x => []), AV.d (D.v (Value.int IntKind.i64 0))]), some (Blk.cells [id (AV.d (dCells c)), id (AV.d (dint keep))]), some (Blk.cells [AV.d (D.v (Value.int IntKind.i64 key)), AV.d (D.v (Value.int IntKind.i64 val))])]) [2] (memB m.fst keep) [some (Blk.cells [AV.d (dCells c), AV.d (dint keep)]), some (Blk.cells [AV.d (D.sl true 0 0 fun x => []), AV.d (D.v (Value.int IntKind.i64 0))]), some (Blk.cells [id (AV.d (dCells c)), id (AV.d (dint keep))]), some (Blk.cells [AV.d (D.v (Value.int IntKind.i64 key)), AV.d (D.v (Value.int IntKind.i64 val))])])) [AV.d (dCells (looseA m.fst root)), AV.d (dint keep)]).length = 2 from rfl) (sl rfl (sl rfl (seqQ_normal (cwp_ret (seqQ_ret (endQ_ret (an (an (DEqv.refl _) (an (DEqv.refl _) True.intro)) (an (DEqv.refl _) (an (DEqv.refl _) True.intro))))))))))))))))))))))))))); rotate_right; (have hf2 := hb2; simp only [decide_eq_true_eq] at hf2; exfalso; omega)))))

/-- How high a tree is. -/
def highF (c : List Cell) : Nat → Int → Nat
  | 0, _ => 0
  | f + 1, p => if p < 0 then 0 else if (nodeOf c p).leaf then 1 else highF c f (nth (nodeOf c p).it 0).v + 1
def highOf (c : List Cell) (p : Int) : Nat := highF c 21 p
theorem highF_shape {c : List Cell} : ∀ (f h : Nat) (p : Int), h ≤ f → shape c h p → highF c f p = h := by
  intro f
  induction f with
  | zero => intro h p hf hs; obtain rfl : h = 0 := by omega
            exact hs.elim
  | succ f ih =>
    intro h p hf hs
    cases h with
    | zero => exact hs.elim
    | succ h =>
      obtain ⟨hu, hr, hs⟩ := hs
      have hu := used_iff.1 hu
      have hl := rightNode_len hr
      unfold highF
      rw [if_neg (by omega)]
      rcases hs with ⟨hlf, h0⟩ | ⟨hlf, hs⟩
      · rw [if_pos hlf, h0]
      · rw [if_neg (by simp [hlf]), ih h _ (by omega) (hs 0 (by omega))]
theorem highOf_tree {c : List Cell} {h : Nat} {p : Int} (ht : tree c h p) : highOf c p = h := by
  rcases ht with ⟨h1, rfl⟩ | ⟨h1, h2⟩
  · unfold highOf highF; rw [if_pos h1]
  · exact highF_shape 21 h p (by omega) h1

def putAt (keep : Int) (c : List Cell) (root : Int) (x : Item) : List Cell × Int × Nat := put c keep (highOf c root) root x.k x.v false
def fill (keep : Int) : List Item → List Cell → Int → List Cell × Int × Nat
  | [], c, r => (c, r, 0)
  | x :: l, c, r => if (putAt keep c r x).2.2 = 0 then fill keep l (putAt keep c r x).1 (putAt keep c r x).2.1 else (c, r, (putAt keep c r x).2.2)

theorem put_err (c : List Cell) (keep : Int) (h : Nat) (root key val : Int) (deep : Bool) : (put c keep h root key val deep).2.2 ≤ 10 := by
  have : ∀ l, (alloc c true l []).2.2 ≤ 10 := by
    intro l
    unfold alloc
    split
    · split <;> simp
    · simp
  unfold put
  simp only
  repeat' split
  all_goals first | exact this _ | simp

theorem drop_cons {α : Type} [Inhabited α] {l : List α} {k : Nat} (h : k < l.length) : l.drop k = nth l k :: l.drop (k + 1) := by
  rw [nth_eq h]; exact List.drop_eq_getElem_cons h

section
variable (I : List Cell → Int → Prop) (keep : Int) (hI : ∀ c r, I c r → PutIn c keep ∧ tree c (highOf c r) r) (hS : ∀ c r x, I c r → (putAt keep c r x).2.2 = 0 → I (putAt keep c r x).1 (putAt keep c r x).2.1)
include hI hS

theorem pc_FillP (c : List Cell) (r : Int) (l : List Item) (h : I c r) (hl : l.length ≤ 1000) :
    PC Try.prog 19 [aHeap c keep, aint .i64 r, aItems l] (.tup [aHeap (fill keep l c r).1 keep, aint .i64 (fill keep l c r).2.1, aint .i64 (fill keep l c r).2.2]) := by
  refine PC_of tab_ok mixed (Try.func19) rfl (by kernel_rfl) (Nat.le_of_ble_eq_true rfl) rfl ?_
  (refine (cwp_seq (cwp_region (sl rfl (sl rfl (sl rfl (sl rfl (seqQ_normal (cwp_seq (cwp_seq (cwp_region (sl rfl (sl rfl (sl rfl (seqQ_normal (cwp_block (cwp_loop ?_)))))))))))))))))
  refine AWP_for tab_ok mixed (α := Nat × List Cell × Int) (fun k => l.length - k.1) (fun k => k.1 ≤ l.length ∧ I k.2.1 k.2.2 ∧ fill keep (l.drop k.1) k.2.1 k.2.2 = fill keep l c r)
    (fun k => [(1, aint .i64 k.2.2), (3, .own 0 0), (6, .own 1 0), (14, aItems l), (15, aint .i64 l.length), (16, aint .i64 (k.1 : Nat))])
    (fun k => [some (hbox k.2.1 keep), some (.cells (ti24.zero.map AV.d))]) (0, c, r) [0, 1] ?_ ⟨Nat.zero_le _, h, rfl⟩ ?_
  · (refine (an (an rfl (an rfl (an rfl (Nat.le_of_ble_eq_true rfl)))) (an (an (DEqv.refl _) (an (an (an rfl (by with_reducible rfl)) (Nat.le_of_ble_eq_true rfl)) (an (an (an rfl (by with_reducible rfl)) (Nat.le_of_ble_eq_true rfl)) (an (DEqv.refl _) (an (DEqv.refl _) (an (DEqv.refl _) True.intro)))))) (an (an (DEqv.refl _) (an (DEqv.refl _) True.intro)) (an (an (DEqv.refl _) (an (DEqv.refl _) True.intro)) True.intro)))))
  · rintro ⟨k, d, q⟩ ⟨hk, hi, he⟩
    simp only at hk hi he ⊢
    by_cases hlt : k < l.length
    · rw [drop_cons hlt, fill] at he
      have g := pc_PutP d keep (highOf d q) q (nth l k).k (nth l k).v false (hI d q hi).1 (hI d q hi).2
      have hs := hS d q (nth l k) hi
      have hb := put_err d keep (highOf d q) q (nth l k).k (nth l k).v false
      change PC _ _ _ (.tup [aHeap (putAt keep d q (nth l k)).1 keep, aint .i64 (putAt keep d q (nth l k)).2.1, aint .i64 (putAt keep d q (nth l k)).2.2]) at g
      change (putAt keep d q (nth l k)).2.2 ≤ 10 at hb
      generalize putAt keep d q (nth l k) = a at *
      by_cases hz : a.2.2 = 0
      · rw [if_pos hz] at he
        (focus (refine (cwp_seq (cwp_region (an (by with_reducible rfl) (sl rfl (seqQ_normal (cwp_seq (cwp_cond (an (fun (hb1 : decide ((↑k : Int) < (↑l.length : Int)) = true) => ?_) (fun (hb4 : decide ((↑k : Int) < (↑l.length : Int)) = false) => ?_))))))))); rotate_right; (have hf4 := hb4; simp only [decide_eq_false_iff_not, Int.not_lt] at hf4; exfalso; omega); rotate_right; (have hf1 := hb1; simp only [decide_eq_true_eq] at hf1; focus (refine (cwp_skip (seqQ_normal (cwp_seq (cwp_block (cwp_seq (cwp_region (Exists.intro (k) (an (an (by with_reducible rfl) (an (by assumption) (show 2 = 2 from (by with_reducible rfl)))) (sl rfl (sl rfl (sl rfl (an (show [AV.d (dint (nth l k).k), AV.d (dint (nth l k).v)].length = 2 from rfl) (seqQ_normal (cwp_seq (cwp_region (sl rfl (sl rfl (sl rfl (sl rfl (sl rfl (sl rfl (Or.inl (PC.on (g) (sl rfl (sl rfl (sl rfl (sl rfl (sl rfl (sl rfl (an (show [AV.d (dCells a.fst), AV.d (dint keep)].length = 2 from rfl) (sl rfl (sl rfl (seqQ_normal (cwp_seq (cwp_seq (cwp_region (sl rfl (an (by with_reducible rfl) (sl rfl (seqQ_normal (cwp_cond (an (fun (hb2 : ((↑a.snd.snd : Int) != 0) = true) => ?_) (fun (hb3 : ((↑a.snd.snd : Int) != 0) = false) => ?_))))))))))))))))))))))))))))))))))))))))))); rotate_right; (have hf3 := hb3; simp only [bne_eq_false_iff_eq] at hf3; refine (cwp_skip (seqQ_normal (cwp_region (sl rfl (sl rfl (an (show [id (AV.d (dCells a.fst)), id (AV.d (dint keep))].length = 2 from rfl) (sl rfl (blockQ_normal (seqQ_normal (cwp_region (an (by with_reducible rfl) (ez (wrap64 (by omega)) (sl rfl (sl rfl (seqQ_normal (show Exists _ from ?_))))))))))))))))); rotate_right; (have hf2 := hb2; simp only [bne_iff_ne, ne_eq] at hf2; exfalso; omega)))))
        refine ⟨(k + 1, a.1, a.2.1), [0, 1], ⟨by simp only; omega, by simp only; omega, hs hz, he⟩, ?_⟩
        (refine (an (an rfl (an rfl (an rfl (Nat.le_of_ble_eq_true rfl)))) (an (an (DEqv.refl _) (an (an (an rfl (by with_reducible rfl)) (Nat.le_of_ble_eq_true rfl)) (an (an (an rfl (by with_reducible rfl)) (Nat.le_of_ble_eq_true rfl)) (an (DEqv.refl _) (an (DEqv.refl _) (an (DEqv.refl _) True.intro)))))) (an (an (DEqv.refl _) (an (DEqv.refl _) True.intro)) (an (an (DEqv.refl _) (an (DEqv.refl _) True.intro)) True.intro)))))
      · rw [if_neg hz] at he
        rw [← he]
        (focus (refine (cwp_seq (cwp_region (an (by with_reducible rfl) (sl rfl (seqQ_normal (cwp_seq (cwp_cond (an (fun (hb1 : decide ((↑k : Int) < (↑l.length : Int)) = true) => ?_) (fun (hb4 : decide ((↑k : Int) < (↑l.length : Int)) = false) => ?_))))))))); rotate_right; (have hf4 := hb4; simp only [decide_eq_false_iff_not, Int.not_lt] at hf4; exfalso; omega); rotate_right; (have hf1 := hb1; simp only [decide_eq_true_eq] at hf1; focus (refine (cwp_skip (seqQ_normal (cwp_seq (cwp_block (cwp_seq (cwp_region (Exists.intro (k) (an (an (by with_reducible rfl) (an (by assumption) (show 2 = 2 from (by with_reducible rfl)))) (sl rfl (sl rfl (sl rfl (an (show [AV.d (dint (nth l k).k), AV.d (dint (nth l k).v)].length = 2 from rfl) (seqQ_normal (cwp_seq (cwp_region (sl rfl (sl rfl (sl rfl (sl rfl (sl rfl (sl rfl (Or.inl (PC.on (g) (sl rfl (sl rfl (sl rfl (sl rfl (sl rfl (sl rfl (an (show [AV.d (dCells a.fst), AV.d (dint keep)].length = 2 from rfl) (sl rfl (sl rfl (seqQ_normal (cwp_seq (cwp_seq (cwp_region (sl rfl (an (by with_reducible rfl) (sl rfl (seqQ_normal (cwp_cond (an (fun (hb2 : ((↑a.snd.snd : Int) != 0) = true) => ?_) (fun (hb3 : ((↑a.snd.snd : Int) != 0) = false) => ?_))))))))))))))))))))))))))))))))))))))))))); rotate_right; (have hf3 := hb3; simp only [bne_eq_false_iff_eq] at hf3; exfalso; omega); rotate_right; (have hf2 := hb2; simp only [bne_iff_ne, ne_eq] at hf2; refine (cwp_seq (cwp_region (sl rfl (sl rfl (sl rfl (an (show [id (AV.d (dCells d)), id (AV.d (dint keep))].length = 2 from rfl) (sl rfl (sl rfl (seqQ_normal (cwp_ret (seqQ_ret (blockQ_ret (seqQ_ret (seqQ_ret (blockQ_ret (seqQ_ret (endQ_ret (an (an (DEqv.refl _) (an (DEqv.refl _) True.intro)) (an (DEqv.refl _) (an (DEqv.refl _) True.intro)))))))))))))))))))))))))
    · rw [List.drop_eq_nil_of_le (by omega), fill] at he
      rw [← he]
      (focus (refine (cwp_seq (cwp_region (an (by with_reducible rfl) (sl rfl (seqQ_normal (cwp_seq (cwp_cond (an (fun (hb1 : decide ((↑k : Int) < (↑l.length : Int)) = true) => ?_) (fun (hb2 : decide ((↑k : Int) < (↑l.length : Int)) = false) => ?_))))))))); rotate_right; (have hf2 := hb2; simp only [decide_eq_false_iff_not, Int.not_lt] at hf2; refine (cwp_exit (seqQ_exit (seqQ_exit (blockQ_here rfl (seqQ_normal (cwp_seq (cwp_region (sl rfl (sl rfl (an (show [id (AV.d (dCells d)), id (AV.d (dint keep))].length = 2 from rfl) (sl rfl (sl rfl (seqQ_normal (cwp_ret (endQ_ret (an (an (DEqv.refl _) (an (DEqv.refl _) True.intro)) (an (DEqv.refl _) (an (DEqv.refl _) True.intro))))))))))))))))))); rotate_right; (have hf1 := hb1; simp only [decide_eq_true_eq] at hf1; exfalso; omega)))

theorem pc_Fill09 (c : List Cell) (r : Int) (l : List Item) (h : I c r) (hl : l.length ≤ 1000) :
    PC Try.prog 20 [aHeap c keep, aint .i64 r, aItems l] (.tup [aHeap (fill keep l c r).1 keep, aint .i64 (fill keep l c r).2.1, aint .i64 (fill keep l c r).2.2]) := by
  refine PC_of tab_ok mixed (Try.func20) rfl (by kernel_rfl) (Nat.le_of_ble_eq_true rfl) rfl ?_
  (refine (cwp_seq (cwp_region (sl rfl (sl rfl (sl rfl (sl rfl (seqQ_normal (cwp_seq (cwp_seq (cwp_region (sl rfl (seqQ_normal (cwp_block (cwp_loop ?_)))))))))))))))
  refine AWP_for tab_ok mixed (α := Nat × List Cell × Int) (fun k => l.length - k.1) (fun k => k.1 ≤ l.length ∧ I k.2.1 k.2.2 ∧ fill keep (l.drop k.1) k.2.1 k.2.2 = fill keep l c r)
    (fun k => [(1, aint .i64 k.2.2), (2, aItems l), (3, .own 0 0), (6, .own 1 0), (9, aint .i64 (k.1 : Nat))])
    (fun k => [some (hbox k.2.1 keep), some (.cells (ti24.zero.map AV.d))]) (0, c, r) [0, 1] ?_ ⟨Nat.zero_le _, h, rfl⟩ ?_
  · (refine (an (an rfl (an rfl (an rfl (Nat.le_of_ble_eq_true rfl)))) (an (an (DEqv.refl _) (an (DEqv.refl _) (an (an (an rfl (by with_reducible rfl)) (Nat.le_of_ble_eq_true rfl)) (an (an (an rfl (by with_reducible rfl)) (Nat.le_of_ble_eq_true rfl)) (an (DEqv.refl _) True.intro))))) (an (an (DEqv.refl _) (an (DEqv.refl _) True.intro)) (an (an (DEqv.refl _) (an (DEqv.refl _) True.intro)) True.intro)))))
  · rintro ⟨k, d, q⟩ ⟨hk, hi, he⟩
    simp only at hk hi he ⊢
    by_cases hlt : k < l.length
    · rw [drop_cons hlt, fill] at he
      obtain ⟨hp, ht⟩ := hI d q hi
      have g := pc_Put09 d keep (highOf d q) q (nth l k).k (nth l k).v false hp.len hp.keep hp.lim hp.refs ⟨by omega, by omega⟩ ht
      have hs := hS d q (nth l k) hi
      have hb := put_err d keep (highOf d q) q (nth l k).k (nth l k).v false
      change PC _ _ _ (.tup [aHeap (putAt keep d q (nth l k)).1 keep, aint .i64 (putAt keep d q (nth l k)).2.1, aint .i64 (putAt keep d q (nth l k)).2.2]) at g
      change (putAt keep d q (nth l k)).2.2 ≤ 10 at hb
      generalize putAt keep d q (nth l k) = a at *
      by_cases hz : a.2.2 = 0
      · rw [if_pos hz] at he
        (focus (refine (cwp_seq (cwp_seq (cwp_region (sl rfl (sl rfl (sl rfl (an (by with_reducible rfl) (sl rfl (seqQ_normal (cwp_cond (an (fun (hb1 : decide ((↑k : Int) < (↑l.length : Int)) = true) => ?_) (fun (hb4 : decide ((↑k : Int) < (↑l.length : Int)) = false) => ?_)))))))))))); rotate_right; (have hf4 := hb4; simp only [decide_eq_false_iff_not, Int.not_lt] at hf4; exfalso; omega); rotate_right; (have hf1 := hb1; simp only [decide_eq_true_eq] at hf1; focus (refine (cwp_skip (seqQ_normal (cwp_seq (cwp_block (cwp_seq (cwp_draw (sl rfl (sl rfl (sl rfl (sl rfl (Exists.intro (k) (an (an (by with_reducible rfl) (an (by assumption) (show 2 = 2 from (by with_reducible rfl)))) (sl rfl (sl rfl (sl rfl (sl rfl (sl rfl (Exists.intro (k) (an (an (by with_reducible rfl) (an (by assumption) (show 2 = 2 from (by with_reducible rfl)))) (sl rfl (sl rfl (sl rfl (Or.inl (PC.on (g) (sl rfl (sl rfl (sl rfl (sl rfl (sl rfl (sl rfl (an (show [AV.d (dCells a.fst), AV.d (dint keep)].length = 2 from rfl) (sl rfl (sl rfl (an (by kernel_rfl) (seqQ_normal (cwp_seq (cwp_seq (cwp_region (sl rfl (an (by with_reducible rfl) (sl rfl (seqQ_normal (cwp_cond (an (fun (hb2 : ((↑a.snd.snd : Int) != 0) = true) => ?_) (fun (hb3 : ((↑a.snd.snd : Int) != 0) = false) => ?_))))))))))))))))))))))))))))))))))))))))))))); rotate_right; (have hf3 := hb3; simp only [bne_eq_false_iff_eq] at hf3; refine (cwp_skip (seqQ_normal (cwp_seq (cwp_region (sl rfl (an (show [id (AV.d (dCells a.fst)), id (AV.d (dint keep))].length = 2 from rfl) (seqQ_normal (cwp_region (sl rfl (sl rfl (blockQ_normal (seqQ_normal (cwp_region (sl rfl (an (by with_reducible rfl) (ez (wrap64 (by omega)) (sl rfl (sl rfl (seqQ_normal (show Exists _ from ?_))))))))))))))))))))); rotate_right; (have hf2 := hb2; simp only [bne_iff_ne, ne_eq] at hf2; exfalso; omega)))))
        refine ⟨(k + 1, a.1, a.2.1), [0, 1], ⟨by simp only; omega, by simp only; omega, hs hz, he⟩, ?_⟩
        (refine (an (an rfl (an rfl (an rfl (Nat.le_of_ble_eq_true rfl)))) (an (an (DEqv.refl _) (an (DEqv.refl _) (an (an (an rfl (by with_reducible rfl)) (Nat.le_of_ble_eq_true rfl)) (an (an (an rfl (by with_reducible rfl)) (Nat.le_of_ble_eq_true rfl)) (an (DEqv.refl _) True.intro))))) (an (an (DEqv.refl _) (an (DEqv.refl _) True.intro)) (an (an (DEqv.refl _) (an (DEqv.refl _) True.intro)) True.intro)))))
      · rw [if_neg hz] at he
        rw [← he]
        (focus (refine (cwp_seq (cwp_seq (cwp_region (sl rfl (sl rfl (sl rfl (an (by with_reducible rfl) (sl rfl (seqQ_normal (cwp_cond (an (fun (hb1 : decide ((↑k : Int) < (↑l.length : Int)) = true) => ?_) (fun (hb4 : decide ((↑k : Int) < (↑l.length : Int)) = false) => ?_)))))))))))); rotate_right; (have hf4 := hb4; simp only [decide_eq_false_iff_not, Int.not_lt] at hf4; exfalso; omega); rotate_right; (have hf1 := hb1; simp only [decide_eq_true_eq] at hf1; focus (refine (cwp_skip (seqQ_normal (cwp_seq (cwp_block (cwp_seq (cwp_draw (sl rfl (sl rfl (sl rfl (sl rfl (Exists.intro (k) (an (an (by with_reducible rfl) (an (by assumption) (show 2 = 2 from (by with_reducible rfl)))) (sl rfl (sl rfl (sl rfl (sl rfl (sl rfl (Exists.intro (k) (an (an (by with_reducible rfl) (an (by assumption) (show 2 = 2 from (by with_reducible rfl)))) (sl rfl (sl rfl (sl rfl (Or.inl (PC.on (g) (sl rfl (sl rfl (sl rfl (sl rfl (sl rfl (sl rfl (an (show [AV.d (dCells a.fst), AV.d (dint keep)].length = 2 from rfl) (sl rfl (sl rfl (an (by kernel_rfl) (seqQ_normal (cwp_seq (cwp_seq (cwp_region (sl rfl (an (by with_reducible rfl) (sl rfl (seqQ_normal (cwp_cond (an (fun (hb2 : ((↑a.snd.snd : Int) != 0) = true) => ?_) (fun (hb3 : ((↑a.snd.snd : Int) != 0) = false) => ?_))))))))))))))))))))))))))))))))))))))))))))); rotate_right; (have hf3 := hb3; simp only [bne_eq_false_iff_eq] at hf3; exfalso; omega); rotate_right; (have hf2 := hb2; simp only [bne_iff_ne, ne_eq] at hf2; refine (cwp_seq (cwp_region (sl rfl (sl rfl (sl rfl (an (show [id (AV.d (dCells d)), id (AV.d (dint keep))].length = 2 from rfl) (sl rfl (sl rfl (seqQ_normal (cwp_ret (seqQ_ret (blockQ_ret (seqQ_ret (seqQ_ret (blockQ_ret (seqQ_ret (endQ_ret (an (an (DEqv.refl _) (an (DEqv.refl _) True.intro)) (an (DEqv.refl _) (an (DEqv.refl _) True.intro)))))))))))))))))))))))))
    · rw [List.drop_eq_nil_of_le (by omega), fill] at he
      rw [← he]
      (focus (refine (cwp_seq (cwp_seq (cwp_region (sl rfl (sl rfl (sl rfl (an (by with_reducible rfl) (sl rfl (seqQ_normal (cwp_cond (an (fun (hb1 : decide ((↑k : Int) < (↑l.length : Int)) = true) => ?_) (fun (hb2 : decide ((↑k : Int) < (↑l.length : Int)) = false) => ?_)))))))))))); rotate_right; (have hf2 := hb2; simp only [decide_eq_false_iff_not, Int.not_lt] at hf2; refine (cwp_exit (seqQ_exit (seqQ_exit (blockQ_here rfl (seqQ_normal (cwp_seq (cwp_region (sl rfl (sl rfl (an (show [id (AV.d (dCells d)), id (AV.d (dint keep))].length = 2 from rfl) (sl rfl (sl rfl (seqQ_normal (cwp_ret (endQ_ret (an (an (DEqv.refl _) (an (DEqv.refl _) True.intro)) (an (DEqv.refl _) (an (DEqv.refl _) True.intro))))))))))))))))))); rotate_right; (have hf1 := hb1; simp only [decide_eq_true_eq] at hf1; exfalso; omega)))
end
end Go.Proofs.Abs
