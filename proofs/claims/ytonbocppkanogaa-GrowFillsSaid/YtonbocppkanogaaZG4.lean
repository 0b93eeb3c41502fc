/- Items that are put one by one into no tree. -/
import Derived.Test.YtonbocppkanogaaZG3
import Derived.Test.YtonbocppkanogaaZF9
set_option linter.all false
set_option maxRecDepth 20000
namespace Go.Proofs.Abs
open Go Go.RowKit Go.Proofs
attribute [local irreducible] cwp seqQ blockQ endQ DEqv LEqv AWP drawOK

theorem putAt_err {keep : Int} {c : List Cell} {r : Int} {x : Item} (h : St keep c r) : (putAt keep c r x).2.2 = 0 ∨ (putAt keep c r x).2.2 = 1 ∨ (putAt keep c r x).2.2 = 3 := by
  unfold putAt
  by_cases hf : fitsPut c keep (highOf c r) x.k x.v false
  · exact .inl (put_ok (R := []) h.wf h.high h.len h.keep.1 hf).1
  · exact .inr (put_not (root := r) hf).2.2
theorem fill_err {keep : Int} : ∀ {l : List Item} {c : List Cell} {r : Int}, St keep c r → (fill keep l c r).2.2 = 0 ∨ (fill keep l c r).2.2 = 1 ∨ (fill keep l c r).2.2 = 3
  | [], _, _, _ => .inl rfl
  | x :: l, c, r, h => by
    rw [fill]
    split
    · rename_i e; exact fill_err (h.step x e)
    · exact putAt_err h
theorem fill_got {keep : Int} : ∀ {l : List Item} {c : List Cell} {r : Int} {h : Nat}, St keep c r → Tr c h r → (fill keep l c r).2.2 = 0 →
    ∃ h', Tr (fill keep l c r).1 h' (fill keep l c r).2.1 ∧ listOf (fill keep l c r).1 h' (fill keep l c r).2.1 = insAll l (listOf c h r)
  | [], _, _, h, _, ht, _ => ⟨h, ht, rfl⟩
  | x :: l, c, r, h, hs, ht, e => by
    rw [fill] at e ⊢
    split at e
    · rename_i e1
      rw [if_pos e1]
      have hh : highOf c r = h := highOf_tree ht.tree
      obtain ⟨h1, g⟩ := put_got (deep := false) hs hs.high x e1
      obtain ⟨h', h2, h3⟩ := fill_got (l := l) g.st g.tr e
      refine ⟨h', h2, h3.trans ?_⟩
      rw [g.list, hh]; rfl
    · rename_i e1; exact absurd e e1
theorem fill_len {keep : Int} : ∀ {l : List Item} {c : List Cell} {r : Int}, St keep c r → (fill keep l c r).1.length = c.length
  | [], _, _, _ => rfl
  | x :: l, c, r, hs => by
    rw [fill]
    split
    · rename_i e1
      obtain ⟨h1, g⟩ := put_got (deep := false) hs hs.high x e1
      exact (fill_len (hs.step x e1)).trans g.len
    · rfl

theorem pc_ListNone (c : List Cell) (keep : Int) : PC Try.prog 24 [aHeap c keep, aint .i64 (-1)] (aItems []) := by
  refine PC_of tab_ok mixed (Try.func24) rfl (by kernel_rfl) (Nat.le_of_ble_eq_true rfl) rfl ?_
  (refine (cwp_seq (cwp_region (sl rfl (sl rfl (seqQ_normal (cwp_seq (cwp_seq (cwp_region (sl rfl (an (by with_reducible rfl) (sl rfl (seqQ_normal (cwp_cond (oT rfl (cwp_seq (cwp_region (sl rfl (seqQ_normal (cwp_ret (seqQ_ret (endQ_ret DEqv.nil))))))))))))))))))))))

theorem DEqv_take {l : List Item} {k : Nat} (hk : k ≤ l.length) {t : Bool} {n : Nat} {f : Nat → List D} (hn : n = k) (h : ∀ i, i < n → LEqv (f i) (dItem (nth l i))) : DEqv (.sl t 2 n f) (dItems (l.take k)) :=
  DEqv.sl (by simp; omega) (fun e => by cases e) (.inr rfl) fun i hi => by
    have := h i hi
    rwa [show nth (l.take k) i = nth l i from by unfold nth; simp [List.getD_eq_getElem?_getD, List.getElem?_take, show i < k by omega]]
theorem DEqv_drop {l : List Item} {k : Nat} (hk : k ≤ l.length) {t : Bool} {n : Nat} {f : Nat → List D} (hn : n = l.length - k) (h : ∀ i, i < n → LEqv (f i) (dItem (nth l (k + i)))) : DEqv (.sl t 2 n f) (dItems (l.drop k)) :=
  DEqv.sl (by simp; omega) (fun e => by cases e) (.inr rfl) fun i hi => by
    have := h i hi
    rwa [show nth (l.drop k) i = nth l (k + i) from by unfold nth; simp [List.getD_eq_getElem?_getD, List.getElem?_drop]]

theorem pc_GrowFills (n cut : Nat) (l : List Item) (hn : n < 256) (hc : cut < 256) (hl : l.length ≤ big) : PC Try.prog 6 [aint .u8 (n : Nat), aItems l, aint .u8 (cut : Nat)] (abool true) := by
  have h0 := pc_shown09
  unfold big at hl
  by_cases hll : 8 < l.length
  · refine PC_of tab_ok mixed (Try.func6) rfl (by kernel_rfl) (Nat.le_of_ble_eq_true rfl) rfl ?_
    (focus (refine (cwp_seq (cwp_region (sl rfl (seqQ_normal (cwp_seq (cwp_region (Or.inl (PC.on (h0) (sl rfl (sl rfl (seqQ_normal (cwp_seq (cwp_seq (cwp_region (sl rfl (sl rfl (an (by with_reducible rfl) (sl rfl (seqQ_normal (cwp_cond (an (fun (hb1 : decide ((↑l.length : Int) > 8) = true) => ?_) (fun (hb2 : decide ((↑l.length : Int) > 8) = false) => ?_)))))))))))))))))))))); rotate_right; (have hf2 := hb2; simp only [decide_eq_false_iff_not, Int.not_lt] at hf2; exfalso; omega); rotate_right; (have hf1 := hb1; simp only [decide_eq_true_eq, gt_iff_lt] at hf1; refine (cwp_seq (cwp_region (sl rfl (sl rfl (seqQ_normal (cwp_ret (seqQ_ret (endQ_ret (DEqv.refl _))))))))))))
  have z1 : IntKind.i64.wrap ((n : Nat) : Int) = ((n : Nat) : Int) := wrap64 (by omega)
  have z2 : Int.tmod ((n : Nat) : Int) 40 = ((n % 40 : Nat) : Int) := by rw [Int.tmod_eq_emod_of_nonneg (by omega)]; omega
  have z3 : IntKind.i64.wrap (1 + ((n % 40 : Nat) : Int)) = ((1 + n % 40 : Nat) : Int) := by rw [wrap64 (by omega)]; omega
  have z4 : Int.tmod ((cut : Nat) : Int) ((l.length : Int) + 1) = ((cut % (l.length + 1) : Nat) : Int) := by rw [Int.tmod_eq_emod_of_nonneg (by omega)]; push_cast; rfl
  have hs : St 0 (List.replicate (1 + n % 40) noCell) (-1) := st_new (by omega)
  have h1 := pc_New (1 + n % 40) (by omega)
  have h2 := pc_FillS (l := l) hs (by omega)
  have hf := fill_len (l := l) hs
  have he := fill_err (l := l) hs
  have hg := fill_got (l := l) hs (show Tr _ 0 (-1) from .inl ⟨by omega, rfl⟩)
  have ha := fill_append (keep := 0) (l := l.take (cut % (l.length + 1))) (l2 := l.drop (cut % (l.length + 1))) (c := List.replicate (1 + n % 40) noCell) (r := -1)
  rw [List.take_append_drop] at ha
  have hs2 := hs.fill (l := l)
  have hs3 := hs.fill (l := l.take (cut % (l.length + 1)))
  have h4 := pc_FillS (l := l.take (cut % (l.length + 1))) hs (by simp; omega)
  have h5 := pc_FillS (l := l.drop (cut % (l.length + 1))) hs3 (by simp; omega)
  have hk : cut % (l.length + 1) ≤ l.length := by have := Nat.mod_lt cut (show 0 < l.length + 1 by omega); omega
  generalize cut % (l.length + 1) = k at *
  rw [List.length_replicate] at hf
  have hlim : Lim (fill 0 l (List.replicate (1 + n % 40) noCell) (-1)).1 := hs2.wf.ok.lim (by unfold big; omega)
  have h3 := pc_Fine _ 0 [(fill 0 l (List.replicate (1 + n % 40) noCell) (-1)).2.1] 40 hlim (by simp) (by omega)
  obtain ⟨_, htr⟩ := hs2.tr
  rw [fine_of hs2.wf ⟨by omega, by omega, by omega, by omega⟩ (by omega) htr] at h3
  clear htr
  by_cases e : (fill 0 l (List.replicate (1 + n % 40) noCell) (-1)).2.2 = 0
  case neg =>
    generalize fill 0 l (List.replicate (1 + n % 40) noCell) (-1) = a at *
    rcases he with he | he | he
    · exact absurd he e
    · rw [he] at h2
      refine PC_of tab_ok mixed (Try.func6) rfl (by kernel_rfl) (Nat.le_of_ble_eq_true rfl) rfl ?_
      (focus (refine (cwp_seq (cwp_region (sl rfl (seqQ_normal (cwp_seq (cwp_region (Or.inl (PC.on (h0) (sl rfl (sl rfl (seqQ_normal (cwp_seq (cwp_seq (cwp_region (sl rfl (sl rfl (an (by with_reducible rfl) (sl rfl (seqQ_normal (cwp_cond (an (fun (hb1 : decide ((↑l.length : Int) > 8) = true) => ?_) (fun (hb2 : decide ((↑l.length : Int) > 8) = false) => ?_)))))))))))))))))))))); rotate_right; (have hf2 := hb2; simp only [decide_eq_false_iff_not, Int.not_lt] at hf2; refine (cwp_skip (seqQ_normal (cwp_seq (cwp_region (sl rfl (ez (z1) (sl rfl (an (an (by with_reducible rfl) (by omega)) (ez (z2) (sl rfl (an (by with_reducible rfl) (ez (z3) (sl rfl (Or.inl (PC.on (h1) (sl rfl (sl rfl (sl rfl (sl rfl (sl rfl (an (show [AV.d (dCells (List.replicate (1 + n % 40) noCell)), AV.d (dint 0)].length = 2 from rfl) (sl rfl (seqQ_normal (cwp_seq (cwp_region (sl rfl (sl rfl (Or.inl (PC.on (h2) (sl rfl (sl rfl (sl rfl (sl rfl (sl rfl (sl rfl (an (show [AV.d (dCells a.fst), AV.d (dint 0)].length = 2 from rfl) (sl rfl (sl rfl (seqQ_normal (cwp_seq (cwp_seq (cwp_region (sl rfl (sl rfl (an (an (show 1 * 1 ≤ 16777216 from (Nat.le_of_ble_eq_true rfl)) (Nat.le_of_ble_eq_true rfl)) (an (show [AV.d (D.v (Value.int IntKind.i64 a.snd.fst))].length = 1 from rfl) (sl rfl (Or.inl (PC.at (h3) (an (an (DEqv.refl _) (an (DEqv.refl _) True.intro)) (an (show DEqv (D.sl true ti3.size 1 fun q => List.take ti3.size (List.drop (q * ti3.size) [D.v (Value.int IntKind.i64 a.snd.fst)])) (dInts [a.snd.fst]) from ?_) (an (DEqv.refl _) (an (DEqv.refl _) True.intro)))) (sl rfl (sl rfl (seqQ_normal (cwp_cond (oF rfl (cwp_skip (seqQ_normal (cwp_seq (cwp_seq (cwp_region (sl rfl (an (by with_reducible rfl) (sl rfl (seqQ_normal (cwp_cond (oT rfl (cwp_seq (cwp_region (sl rfl (sl rfl (sl rfl (oT rfl (sl rfl (sl rfl (oT rfl (an (by with_reducible rfl) (sl rfl (sl rfl (oT rfl (sl rfl (sl rfl (uF rfl (sl rfl (sl rfl (uF rfl (an (by with_reducible rfl) (sl rfl (sl rfl (oT rfl (oF rfl (sl rfl (oT rfl (sl rfl (sl rfl (seqQ_normal (cwp_ret (seqQ_ret (endQ_ret (DEqv.refl _))))))))))))))))))))))))))))))))))))))))))))))))))))))))))))))))))))))))))))))))))))))))))))))))))); rotate_right; (have hf1 := hb1; simp only [decide_eq_true_eq, gt_iff_lt] at hf1; exfalso; omega)))
      all_goals first
        | exact DEqv_root (LEqv.refl _)
        | trace_state
    · rw [he] at h2
      refine PC_of tab_ok mixed (Try.func6) rfl (by kernel_rfl) (Nat.le_of_ble_eq_true rfl) rfl ?_
      (focus (refine (cwp_seq (cwp_region (sl rfl (seqQ_normal (cwp_seq (cwp_region (Or.inl (PC.on (h0) (sl rfl (sl rfl (seqQ_normal (cwp_seq (cwp_seq (cwp_region (sl rfl (sl rfl (an (by with_reducible rfl) (sl rfl (seqQ_normal (cwp_cond (an (fun (hb1 : decide ((↑l.length : Int) > 8) = true) => ?_) (fun (hb2 : decide ((↑l.length : Int) > 8) = false) => ?_)))))))))))))))))))))); rotate_right; (have hf2 := hb2; simp only [decide_eq_false_iff_not, Int.not_lt] at hf2; refine (cwp_skip (seqQ_normal (cwp_seq (cwp_region (sl rfl (ez (z1) (sl rfl (an (an (by with_reducible rfl) (by omega)) (ez (z2) (sl rfl (an (by with_reducible rfl) (ez (z3) (sl rfl (Or.inl (PC.on (h1) (sl rfl (sl rfl (sl rfl (sl rfl (sl rfl (an (show [AV.d (dCells (List.replicate (1 + n % 40) noCell)), AV.d (dint 0)].length = 2 from rfl) (sl rfl (seqQ_normal (cwp_seq (cwp_region (sl rfl (sl rfl (Or.inl (PC.on (h2) (sl rfl (sl rfl (sl rfl (sl rfl (sl rfl (sl rfl (an (show [AV.d (dCells a.fst), AV.d (dint 0)].length = 2 from rfl) (sl rfl (sl rfl (seqQ_normal (cwp_seq (cwp_seq (cwp_region (sl rfl (sl rfl (an (an (show 1 * 1 ≤ 16777216 from (Nat.le_of_ble_eq_true rfl)) (Nat.le_of_ble_eq_true rfl)) (an (show [AV.d (D.v (Value.int IntKind.i64 a.snd.fst))].length = 1 from rfl) (sl rfl (Or.inl (PC.at (h3) (an (an (DEqv.refl _) (an (DEqv.refl _) True.intro)) (an (show DEqv (D.sl true ti3.size 1 fun q => List.take ti3.size (List.drop (q * ti3.size) [D.v (Value.int IntKind.i64 a.snd.fst)])) (dInts [a.snd.fst]) from ?_) (an (DEqv.refl _) (an (DEqv.refl _) True.intro)))) (sl rfl (sl rfl (seqQ_normal (cwp_cond (oF rfl (cwp_skip (seqQ_normal (cwp_seq (cwp_seq (cwp_region (sl rfl (an (by with_reducible rfl) (sl rfl (seqQ_normal (cwp_cond (oT rfl (cwp_seq (cwp_region (sl rfl (sl rfl (sl rfl (oT rfl (sl rfl (sl rfl (oT rfl (an (by with_reducible rfl) (sl rfl (sl rfl (oT rfl (sl rfl (sl rfl (uT rfl (sl rfl (sl rfl (uT rfl (sl rfl (sl rfl (oT rfl (oT rfl (sl rfl (oT rfl (sl rfl (sl rfl (seqQ_normal (cwp_ret (seqQ_ret (endQ_ret (DEqv.refl _)))))))))))))))))))))))))))))))))))))))))))))))))))))))))))))))))))))))))))))))))))))))))))))))))); rotate_right; (have hf1 := hb1; simp only [decide_eq_true_eq, gt_iff_lt] at hf1; exfalso; omega)))
      all_goals first
        | exact DEqv_root (LEqv.refl _)
        | trace_state
  obtain ⟨e4, e5⟩ := ha e
  rw [e4] at h4
  rw [e5] at h5
  obtain ⟨h, htr, hli⟩ := hg e
  rw [e] at h2 h5
  have hG : ∀ i, i < l.length → PC Try.prog 25 [aHeap (fill 0 l (List.replicate (1 + n % 40) noCell) (-1)).1 0, aint .i64 (fill 0 l (List.replicate (1 + n % 40) noCell) (-1)).2.1, aint .i64 (nth l i).k] (.tup [aint .i64 (lastTo l (nth l i).k l.length), aint .i64 ((0 : Nat) : Int)]) := by
    intro i hi
    have hm := last_mem (l := l) (key := (nth l i).k) l.length (Nat.le_refl _) ⟨i, hi, rfl⟩
    rw [List.take_length] at hm
    rcases htr with ⟨_, e2⟩ | ⟨hrt, hh⟩
    · subst e2
      exact absurd hli.symm (insAll_ne (.inl (by intro e3; rw [e3] at hi; exact absurd hi (by simp))))
    · have g := pc_Get07 _ 0 (nth l i).k h _ hh hrt.shape
      rw [hli] at g
      have h7 := getIn_mem (srt_insAll (l := l) (L := []) List.Pairwise.nil) hm
      simp only at h7
      rw [show listOf (List.replicate (1 + n % 40) noCell) 0 (-1) = [] from rfl, h7] at g
      exact g
  have hL : PC Try.prog 24 [aHeap (fill 0 l (List.replicate (1 + n % 40) noCell) (-1)).1 0, aint .i64 (fill 0 l (List.replicate (1 + n % 40) noCell) (-1)).2.1] (aItems (insAll l [])) ∧ ((fill 0 l (List.replicate (1 + n % 40) noCell) (-1)).2.1 = -1 ↔ l.length = 0) := by
    rcases htr with ⟨_, e2⟩ | ⟨hrt, hh⟩
    · subst e2
      have : l = [] := by
        refine Decidable.byContradiction fun hn => ?_
        exact insAll_ne (l := l) (L := []) (.inl hn) hli.symm
      subst this
      exact ⟨pc_ListNone _ _, by simp [fill]⟩
    · have g := pc_List07 _ 0 h _ hh hrt.shape
      rw [hli] at g
      refine ⟨g, ?_⟩
      have hu := used_iff.1 hrt.used
      constructor
      · intro e2; omega
      · intro e2
        have : l = [] := List.length_eq_zero_iff.1 e2
        subst this
        rfl
  obtain ⟨hL, hP⟩ := hL
  have hPb : ((fill 0 l (List.replicate (1 + n % 40) noCell) (-1)).2.1 == -1) = ((l.length : Int) == 0) := by
    rw [Bool.eq_iff_iff, beq_iff_eq, beq_iff_eq, hP]
    omega
  clear hP
  have hle := insAll_len (l := l) (L := []) List.Pairwise.nil
  simp only [List.length_nil, Nat.zero_add] at hle
  have h6 := pc_Same05 _ (fill 0 l (List.replicate (1 + n % 40) noCell) (-1)).1 0 0 hlim
  rw [decide_eq_true (show (0 : Int) = 0 ∧ _ from ⟨rfl, rfl⟩)] at h6
  clear htr hli hg he ha hs2 hlim hf e e4 e5 hs hs3
  generalize fill 0 l (List.replicate (1 + n % 40) noCell) (-1) = a at *
  generalize fill 0 (l.take k) (List.replicate (1 + n % 40) noCell) (-1) = b at *
  generalize insAll l [] = ll at *
  have h4' : PC Try.prog 19 [aHeap (List.replicate (1 + n % 40) noCell) 0, aint .i64 (-1), .d (.sl false 2 (k - 0) fun i => dItem (nth l (0 + i)))] (.tup [aHeap b.1 0, aint .i64 b.2.1, aint .i64 ((0 : Nat) : Int)]) :=
    h4.sub ⟨⟨DEqv.refl _, DEqv.refl _, trivial⟩, DEqv.refl _, DEqv_take hk rfl fun i _ => by rw [Nat.zero_add]; exact LEqv.refl _, trivial⟩
  have h5' : PC Try.prog 19 [aHeap b.1 0, aint .i64 b.2.1, .d (.sl false 2 (l.length - k) fun i => dItem (nth l (k + i)))] (.tup [aHeap a.1 0, aint .i64 a.2.1, aint .i64 ((0 : Nat) : Int)]) :=
    h5.sub ⟨⟨DEqv.refl _, DEqv.refl _, trivial⟩, DEqv.refl _, DEqv_drop hk rfl fun i _ => LEqv.refl _, trivial⟩
  clear h4 h5
  refine PC_of tab_ok mixed (Try.func6) rfl (by kernel_rfl) (Nat.le_of_ble_eq_true rfl) rfl ?_
  (focus (refine (cwp_seq (cwp_region (sl rfl (seqQ_normal (cwp_seq (cwp_region (Or.inl (PC.on (h0) (sl rfl (sl rfl (seqQ_normal (cwp_seq (cwp_seq (cwp_region (sl rfl (sl rfl (an (by with_reducible rfl) (sl rfl (seqQ_normal (cwp_cond (an (fun (hb1 : decide ((↑l.length : Int) > 8) = true) => ?_) (fun (hb2 : decide ((↑l.length : Int) > 8) = false) => ?_)))))))))))))))))))))); rotate_right; (have hf2 := hb2; simp only [decide_eq_false_iff_not, Int.not_lt] at hf2; refine (cwp_skip (seqQ_normal (cwp_seq (cwp_region (sl rfl (ez (z1) (sl rfl (an (an (by with_reducible rfl) (by omega)) (ez (z2) (sl rfl (an (by with_reducible rfl) (ez (z3) (sl rfl (Or.inl (PC.on (h1) (sl rfl (sl rfl (sl rfl (sl rfl (sl rfl (an (show [AV.d (dCells (List.replicate (1 + n % 40) noCell)), AV.d (dint 0)].length = 2 from rfl) (sl rfl (seqQ_normal (cwp_seq (cwp_region (sl rfl (sl rfl (Or.inl (PC.on (h2) (sl rfl (sl rfl (sl rfl (sl rfl (sl rfl (sl rfl (an (show [AV.d (dCells a.fst), AV.d (dint 0)].length = 2 from rfl) (sl rfl (sl rfl (seqQ_normal (cwp_seq (cwp_seq (cwp_region (sl rfl (sl rfl (an (an (show 1 * 1 ≤ 16777216 from (Nat.le_of_ble_eq_true rfl)) (Nat.le_of_ble_eq_true rfl)) (an (show [AV.d (D.v (Value.int IntKind.i64 a.snd.fst))].length = 1 from rfl) (sl rfl (Or.inl (PC.at (h3) (an (an (DEqv.refl _) (an (DEqv.refl _) True.intro)) (an (show DEqv (D.sl true ti3.size 1 fun q => List.take ti3.size (List.drop (q * ti3.size) [D.v (Value.int IntKind.i64 a.snd.fst)])) (dInts [a.snd.fst]) from ?_) (an (DEqv.refl _) (an (DEqv.refl _) True.intro)))) (sl rfl (sl rfl (seqQ_normal (cwp_cond (oF rfl (cwp_skip (seqQ_normal (cwp_seq (cwp_seq (cwp_region (sl rfl (an (by with_reducible rfl) (sl rfl (seqQ_normal (cwp_cond (oF rfl (cwp_skip (seqQ_normal (cwp_seq (cwp_region (sl rfl (ez (wrap64 (by omega)) (sl rfl (sl rfl (sl rfl (an (by with_reducible rfl) (ez (wrap64 (by omega)) (sl rfl (an (an (by with_reducible rfl) (by omega)) (ez (z4) (sl rfl (sl rfl (seqQ_normal (cwp_seq (cwp_draw (sl rfl (sl rfl (sl rfl (Exists.intro (k) (an (by with_reducible rfl) (an (an (sl rfl (by assumption)) (Or.inr (show 2 = 2 from (by with_reducible rfl)))) (sl rfl (Or.inl (PC.on (h4') (sl rfl (sl rfl (sl rfl (sl rfl (sl rfl (sl rfl (an (show [AV.d (dCells b.fst), AV.d (dint 0)].length = 2 from rfl) (sl rfl (sl rfl (an (by kernel_rfl) (seqQ_normal (cwp_seq (cwp_draw (sl rfl (sl rfl (sl rfl (sl rfl (Exists.intro (k) (an (by with_reducible rfl) (an (an (an (by assumption) (by omega)) (Or.inr (show 2 = 2 from (by with_reducible rfl)))) (sl rfl (Or.inl (PC.on (h5') (sl rfl (sl rfl (sl rfl (sl rfl (sl rfl (sl rfl (an (show [AV.d (dCells a.fst), AV.d (dint 0)].length = 2 from rfl) (sl rfl (sl rfl (an (by kernel_rfl) (seqQ_normal (cwp_seq (cwp_seq (cwp_region (sl rfl (seqQ_normal (cwp_block (cwp_loop ?_))))))))))))))))))))))))))))))))))))))))))))))))))))))))))))))))))))))))))))))))))))))))))))))))))))))))))))))))))))))))))))))))))))))); rotate_right; (have hf1 := hb1; simp only [decide_eq_true_eq, gt_iff_lt] at hf1; exfalso; omega)))
  · exact DEqv_root (LEqv.refl _)
  refine AWP_for tab_ok mixed (α := Nat) (fun i => l.length - i) (fun i => i ≤ l.length)
    (fun i => [(1, aItems l), (7, abool true), (10, .own 1 0), (11, aint .i64 a.2.1), (16, aint .i64 ((0 : Nat) : Int)), (17, .own 3 0), (18, aint .i64 a.2.1), (19, aint .i64 ((0 : Nat) : Int)), (20, aint .i64 (i : Nat))])
    (fun _ => [some (hbox (List.replicate (1 + n % 40) noCell) 0), some (hbox a.1 0), some (hbox b.1 0), some (hbox a.1 0)]) 0 [0, 1, 2, 3] ?_ (Nat.zero_le _) ?_
  · (refine (an (an rfl (an rfl (an rfl (Nat.le_of_ble_eq_true rfl)))) (an (an (DEqv.refl _) (an (DEqv.refl _) (an (an (an rfl (by with_reducible rfl)) (Nat.le_of_ble_eq_true rfl)) (an (DEqv.refl _) (an (DEqv.refl _) (an (an (an rfl (by with_reducible rfl)) (Nat.le_of_ble_eq_true rfl)) (an (DEqv.refl _) (an (DEqv.refl _) (an (DEqv.refl _) True.intro))))))))) (an (an (DEqv.refl _) (an (DEqv.refl _) True.intro)) (an (an (DEqv.refl _) (an (DEqv.refl _) True.intro)) (an (an (DEqv.refl _) (an (DEqv.refl _) True.intro)) (an (an (DEqv.refl _) (an (DEqv.refl _) True.intro)) True.intro)))))))
  intro i hi
  by_cases hlt : i < l.length
  case neg =>
    (focus (refine (cwp_seq (cwp_seq (cwp_region (sl rfl (sl rfl (sl rfl (an (by with_reducible rfl) (sl rfl (seqQ_normal (cwp_cond (an (fun (hb1 : decide ((↑i : Int) < (↑l.length : Int)) = true) => ?_) (fun (hb2 : decide ((↑i : Int) < (↑l.length : Int)) = false) => ?_)))))))))))); rotate_right; (have hf2 := hb2; simp only [decide_eq_false_iff_not, Int.not_lt] at hf2; focus (refine (cwp_exit (seqQ_exit (seqQ_exit (blockQ_here rfl (seqQ_normal (cwp_seq (cwp_region (sl rfl (sl rfl (sl rfl (oT rfl (sl rfl (sl rfl (oT rfl (an (by with_reducible rfl) (sl rfl (oT rfl (sl rfl (sl rfl (sl rfl (oT rfl (sl rfl (sl rfl (oT rfl (an (by with_reducible rfl) (sl rfl (oT rfl (sl rfl (sl rfl (sl rfl (oT rfl (sl rfl (sl rfl (oT rfl (sl rfl (sl rfl (oT rfl (Or.inl (PC.on (h6) (sl rfl (oT rfl (sl rfl (sl rfl (sl rfl (oT rfl (sl rfl (sl rfl (oT rfl (sl rfl (sl rfl (oT rfl (an (by with_reducible rfl) (sl rfl (oT rfl (sl rfl (sl rfl (sl rfl (an (fun (hb3 : (a.snd.fst == a.snd.fst) = true) => ?_) (fun (hb6 : (a.snd.fst == a.snd.fst) = false) => ?_))))))))))))))))))))))))))))))))))))))))))))))))))))))))))); rotate_right; (have hf6 := hb6; simp only [ne_eq, beq_eq_false_iff_ne, not_true_eq_false] at hf6); rotate_right; (have hf3 := hb3; simp only [beq_iff_eq] at hf3; focus (refine (sl rfl (sl rfl (oT hb3 (an (by with_reducible rfl) (sl rfl (sl rfl (oT hb3 (sl rfl (sl rfl (oT hb3 (sl rfl (sl rfl (oT hb3 (an (by with_reducible rfl) (sl rfl (sl rfl (oT hb3 (sl rfl (oT hb3 (sl rfl (sl rfl (sl rfl (an (fun (hb4 : ((a.snd.fst == -1) == ((↑l.length : Int) == 0)) = true) => ?_) (fun (hb5 : ((a.snd.fst == -1) == ((↑l.length : Int) == 0)) = false) => ?_)))))))))))))))))))))))); rotate_right; (have hf5 := hb5; simp only [ne_eq, beq_eq_false_iff_ne] at hf5; refine (sl rfl (sl rfl (oF hb5 (sl rfl (sl rfl (oF hb5 (sl rfl (sl rfl (oF hb5 (sl rfl (sl rfl (oF hb5 (sl rfl (sl rfl (oF hb5 (sl rfl (sl rfl (oF hb5 (sl rfl (oF hb5 (sl rfl (sl rfl (seqQ_normal (cwp_ret (endQ_ret (DEqv.bool (show false = true from ?_)))))))))))))))))))))))))))); rotate_right; (have hf4 := hb4; simp only [beq_iff_eq] at hf4; refine (sl rfl (sl rfl (oT hb4 (sl rfl (sl rfl (oT hb4 (Or.inl (PC.on (hL) (sl rfl (sl rfl (oT hb4 (sl rfl (sl rfl (oT hb4 (sl rfl (sl rfl (oT hb4 (sl rfl (sl rfl (oT hb4 (an (by with_reducible rfl) (sl rfl (oT hb4 (sl rfl (sl rfl (seqQ_normal (cwp_ret (endQ_ret (DEqv.bool (show decide ((↑ll.length : Int) ≤ (↑l.length : Int)) = true from ?_))))))))))))))))))))))))))))))))))); rotate_right; (have hf1 := hb1; simp only [decide_eq_true_eq] at hf1; exfalso; omega)))
    all_goals first
      | exact decide_eq_true (by omega)
      | exact absurd hPb (by assumption)
      | (exfalso; simp_all; done)
  have g := hG i hlt
  (focus (refine (cwp_seq (cwp_seq (cwp_region (sl rfl (sl rfl (sl rfl (an (by with_reducible rfl) (sl rfl (seqQ_normal (cwp_cond (an (fun (hb1 : decide ((↑i : Int) < (↑l.length : Int)) = true) => ?_) (fun (hb2 : decide ((↑i : Int) < (↑l.length : Int)) = false) => ?_)))))))))))); rotate_right; (have hf2 := hb2; simp only [decide_eq_false_iff_not, Int.not_lt] at hf2; exfalso; omega); rotate_right; (have hf1 := hb1; simp only [decide_eq_true_eq] at hf1; refine (cwp_skip (seqQ_normal (cwp_seq (cwp_block (cwp_seq (cwp_region (sl rfl (sl rfl (Exists.intro (i) (an (an (by with_reducible rfl) (an (by assumption) (show 2 = 2 from (by with_reducible rfl)))) (sl rfl (sl rfl (sl rfl (sl rfl (seqQ_normal (cwp_seq (cwp_seq (cwp_region (sl rfl (sl rfl (seqQ_normal (cwp_block (cwp_loop ?_))))))))))))))))))))))))))
  refine AWP_for tab_ok mixed (α := Nat) (fun j => l.length - j) (fun j => i ≤ j ∧ j ≤ l.length)
    (fun j => [(1, aItems l), (7, abool true), (10, .own 1 0), (11, aint .i64 a.2.1), (16, aint .i64 ((0 : Nat) : Int)), (17, .own 3 0), (18, aint .i64 a.2.1), (19, aint .i64 ((0 : Nat) : Int)), (20, aint .i64 (i : Nat)), (21, aint .i64 (if j = i then (nth l i).v else lastTo l (nth l i).k j)), (22, aint .i64 (j : Nat))])
    (fun _ => [some (hbox (List.replicate (1 + n % 40) noCell) 0), some (hbox a.1 0), some (hbox b.1 0), some (hbox a.1 0)]) i [0, 1, 2, 3] ?_ ⟨Nat.le_refl _, hi⟩ ?_
  · (refine (an (an rfl (an rfl (an rfl (Nat.le_of_ble_eq_true rfl)))) (an (an (DEqv.refl _) (an (DEqv.refl _) (an (an (an rfl (by with_reducible rfl)) (Nat.le_of_ble_eq_true rfl)) (an (DEqv.refl _) (an (DEqv.refl _) (an (an (an rfl (by with_reducible rfl)) (Nat.le_of_ble_eq_true rfl)) (an (DEqv.refl _) (an (DEqv.refl _) (an (DEqv.refl _) (an (DEqv.int (by omega)) (an (DEqv.refl _) True.intro))))))))))) (an (an (DEqv.refl _) (an (DEqv.refl _) True.intro)) (an (an (DEqv.refl _) (an (DEqv.refl _) True.intro)) (an (an (DEqv.refl _) (an (DEqv.refl _) True.intro)) (an (an (DEqv.refl _) (an (DEqv.refl _) True.intro)) True.intro)))))))
  rintro j ⟨hij, hj⟩
  by_cases hjl : j < l.length
  case neg =>
    rw [if_neg (by omega), show j = l.length by omega]
    (focus (refine (cwp_seq (cwp_seq (cwp_region (sl rfl (sl rfl (sl rfl (an (by with_reducible rfl) (sl rfl (seqQ_normal (cwp_cond (an (fun (hb1 : decide ((↑l.length : Int) < (↑l.length : Int)) = true) => ?_) (fun (hb2 : decide ((↑l.length : Int) < (↑l.length : Int)) = false) => ?_)))))))))))); rotate_right; (have hf2 := hb2; simp only [decide_eq_false_iff_not, Int.not_lt] at hf2; focus (refine (cwp_exit (seqQ_exit (seqQ_exit (blockQ_here rfl (seqQ_normal (cwp_seq (cwp_draw (sl rfl (sl rfl (sl rfl (sl rfl (Exists.intro (i) (an (an (by with_reducible rfl) (an (by assumption) (show 2 = 2 from (by with_reducible rfl)))) (sl rfl (sl rfl (sl rfl (Or.inl (PC.on (g) (sl rfl (sl rfl (sl rfl (sl rfl (sl rfl (sl rfl (an (by kernel_rfl) (seqQ_normal (cwp_seq (cwp_region (sl rfl (an (by with_reducible rfl) (sl rfl (sl rfl (sl rfl (uF rfl (sl rfl (sl rfl (uF rfl (sl rfl (sl rfl (uF rfl (an (by with_reducible rfl) (sl rfl (oF rfl (sl rfl (seqQ_normal (cwp_cond (an (fun (hb3 : (lastTo l (nth l i).k l.length != lastTo l (nth l i).k l.length) = true) => ?_) (fun (hb4 : (lastTo l (nth l i).k l.length != lastTo l (nth l i).k l.length) = false) => ?_)))))))))))))))))))))))))))))))))))))))))))))))); rotate_right; (have hf4 := hb4; simp only [bne_eq_false_iff_eq] at hf4; refine (cwp_skip (blockQ_normal (seqQ_normal (cwp_region (sl rfl (an (by with_reducible rfl) (ez (wrap64 (by omega)) (sl rfl (sl rfl (seqQ_normal (show Exists _ from ?_)))))))))))); rotate_right; (have hf3 := hb3; simp only [bne_iff_ne, ne_eq, not_true_eq_false] at hf3))); rotate_right; (have hf1 := hb1; simp only [decide_eq_true_eq] at hf1; exfalso; omega)))
    all_goals first
      | (refine ⟨i + 1, [0, 1, 2, 3], ⟨by omega, by omega⟩, ?_⟩; (refine (an (an rfl (an rfl (an rfl (Nat.le_of_ble_eq_true rfl)))) (an (an (DEqv.refl _) (an (DEqv.refl _) (an (an (an rfl (by with_reducible rfl)) (Nat.le_of_ble_eq_true rfl)) (an (DEqv.refl _) (an (DEqv.refl _) (an (an (an rfl (by with_reducible rfl)) (Nat.le_of_ble_eq_true rfl)) (an (DEqv.refl _) (an (DEqv.refl _) (an (DEqv.refl _) True.intro))))))))) (an (an (DEqv.refl _) (an (DEqv.refl _) True.intro)) (an (an (DEqv.refl _) (an (DEqv.refl _) True.intro)) (an (an (DEqv.refl _) (an (DEqv.refl _) True.intro)) (an (an (DEqv.refl _) (an (DEqv.refl _) True.intro)) True.intro))))))); done)
      | (exfalso; simp_all; done)
  have hstep : lastTo l (nth l i).k (j + 1) = if (nth l j).k = (nth l i).k then (nth l j).v else (if j = i then (nth l i).v else lastTo l (nth l i).k j) := by
    rw [lastTo]
    split
    · rfl
    · rename_i hne
      split
      · rename_i e2; subst e2; exact absurd rfl hne
      · rfl
  generalize (if j = i then (nth l i).v else lastTo l (nth l i).k j) = last at *
  (focus (refine (cwp_seq (cwp_seq (cwp_region (sl rfl (sl rfl (sl rfl (an (by with_reducible rfl) (sl rfl (seqQ_normal (cwp_cond (an (fun (hb1 : decide ((↑j : Int) < (↑l.length : Int)) = true) => ?_) (fun (hb4 : decide ((↑j : Int) < (↑l.length : Int)) = false) => ?_)))))))))))); rotate_right; (have hf4 := hb4; simp only [decide_eq_false_iff_not, Int.not_lt] at hf4; exfalso; omega); rotate_right; (have hf1 := hb1; simp only [decide_eq_true_eq] at hf1; focus (refine (cwp_skip (seqQ_normal (cwp_seq (cwp_block (cwp_seq (cwp_draw (sl rfl (sl rfl (Exists.intro (j) (an (an (by with_reducible rfl) (an (by assumption) (show 2 = 2 from (by with_reducible rfl)))) (sl rfl (sl rfl (sl rfl (sl rfl (sl rfl (Exists.intro (i) (an (an (by with_reducible rfl) (an (by assumption) (show 2 = 2 from (by with_reducible rfl)))) (sl rfl (sl rfl (sl rfl (an (by with_reducible rfl) (sl rfl (an (by kernel_rfl) (seqQ_normal (cwp_cond (an (fun (hb2 : ((nth l j).k == (nth l i).k) = true) => ?_) (fun (hb3 : ((nth l j).k == (nth l i).k) = false) => ?_))))))))))))))))))))))))))); rotate_right; (have hf3 := hb3; simp only [ne_eq, beq_eq_false_iff_ne] at hf3; refine (cwp_skip (blockQ_normal (seqQ_normal (cwp_region (sl rfl (an (by with_reducible rfl) (ez (wrap64 (by omega)) (sl rfl (sl rfl (seqQ_normal (show Exists _ from ?_)))))))))))); rotate_right; (have hf2 := hb2; simp only [beq_iff_eq] at hf2; refine (cwp_region (sl rfl (sl rfl (Exists.intro (j) (an (an (by with_reducible rfl) (an (by assumption) (show 2 = 2 from (by with_reducible rfl)))) (sl rfl (sl rfl (sl rfl (sl rfl (blockQ_normal (seqQ_normal (cwp_region (sl rfl (an (by with_reducible rfl) (ez (wrap64 (by omega)) (sl rfl (sl rfl (seqQ_normal (show Exists _ from ?_))))))))))))))))))))))))
  all_goals
    refine ⟨j + 1, [0, 1, 2, 3], ⟨by omega, by omega, by omega⟩, ?_⟩
    (refine (an (an rfl (an rfl (an rfl (Nat.le_of_ble_eq_true rfl)))) (an (an (DEqv.refl _) (an (DEqv.refl _) (an (an (an rfl (by with_reducible rfl)) (Nat.le_of_ble_eq_true rfl)) (an (DEqv.refl _) (an (DEqv.refl _) (an (an (an rfl (by with_reducible rfl)) (Nat.le_of_ble_eq_true rfl)) (an (DEqv.refl _) (an (DEqv.refl _) (an (DEqv.refl _) (an (DEqv.int (by omega)) (an (DEqv.refl _) True.intro))))))))))) (an (an (DEqv.refl _) (an (DEqv.refl _) True.intro)) (an (an (DEqv.refl _) (an (DEqv.refl _) True.intro)) (an (an (DEqv.refl _) (an (DEqv.refl _) True.intro)) (an (an (DEqv.refl _) (an (DEqv.refl _) True.intro)) True.intro)))))))
    all_goals trace_state
    all_goals (rw [if_neg (by omega), hstep]; simp_all; done)
end Go.Proofs.Abs
