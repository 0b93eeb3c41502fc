/- Two items that are put one behind the other. -/
import Derived.Test.YtonbocppkanogaaZG1
import Derived.Test.YtonbocppkanogaaZF8
set_option linter.all false
set_option maxRecDepth 20000
namespace Go.Proofs.Abs
open Go Go.RowKit Go.Proofs
attribute [local irreducible] cwp seqQ blockQ endQ DEqv LEqv AWP drawOK

theorem Tr.srt {c : List Cell} {h : Nat} {r : Int} (t : Tr c h r) : Srt (listOf c h r) := by
  rcases t with ⟨_, e⟩ | ⟨t, _⟩
  · subst e; exact List.Pairwise.nil
  · exact t.srt

/-- A heap in which all can be asked for. -/
structure After (keep : Int) (c c' : List Cell) (p : Int) (h' : Nat) (l : List Item) : Prop where
  st : St keep c' p
  tree : RT c' h' p
  le : h' ≤ 20
  list : listOf c' h' p = l
  len : c'.length = c.length
theorem After.tr {keep : Int} {c c' : List Cell} {p : Int} {h' : Nat} {l : List Item} (g : After keep c c' p h' l) : Tr c' h' p := .inr ⟨g.tree, g.le⟩

theorem put_got {keep : Int} {c : List Cell} {root : Int} {h : Nat} {deep : Bool} (hs : St keep c root) (ht : Tr c h root) (x : Item) (e : (put c keep h root x.k x.v deep).2.2 = 0) :
    ∃ h', After keep c (put c keep h root x.k x.v deep).1 (put c keep h root x.k x.v deep).2.1 h' (ins x (listOf c h root)) := by
  by_cases hf : fitsPut c keep h x.k x.v deep
  · obtain ⟨_, h', _, _, h20, hm⟩ := put_ok (R := []) hs.wf ht hs.len hs.keep.1 hf
    exact ⟨h', ⟨hm.wf h20, ⟨h', .inr ⟨hm.tree, h20⟩⟩, by rw [hm.len]; exact hs.len, hs.keep⟩, hm.tree, h20, hm.list, hm.len⟩
  · obtain ⟨_, _, e1⟩ := put_not (root := root) hf
    omega
theorem put_num {keep : Int} {c : List Cell} {root : Int} {h : Nat} {deep : Bool} {k v : Int} (hs : St keep c root) (ht : Tr c h root) (e : (put c keep h root k v deep).2.2 = 0) : isNum k = true ∧ isNum v = true := by
  refine Decidable.byContradiction fun hn => ?_
  rw [put_arg hn] at e
  simp at e
theorem put_full3 {keep : Int} {c : List Cell} {root : Int} {h : Nat} {deep : Bool} {k v : Int} (hs : St keep c root) (ht : Tr c h root) (hn : isNum k = true ∧ isNum v = true) : (put c keep h root k v deep).2.2 = 0 ∨ (put c keep h root k v deep).2.2 = 3 := by
  by_cases hf : fitsPut c keep h k v deep
  · exact .inl (put_ok (R := []) hs.wf ht hs.len hs.keep.1 hf).1
  · have : h = 20 ∨ fits c keep (2 * h + 1 : Nat) deep = false := by
      by_cases e : h = 20
      · exact .inl e
      · right
        cases hf' : fits c keep (2 * h + 1 : Nat) deep with
        | false => rfl
        | true => exact absurd ⟨hn, e, hf'⟩ hf
    rw [put_full hn this]
    exact .inr rfl

theorem pc_MayG {keep most : Int} {c0 c : List Cell} {p : Int} {h : Nat} {l : List Item} (g : After keep c0 c p h l) (hl : 1 ≤ c0.length ∧ c0.length ≤ 2000 ∧ 0 ≤ keep ∧ keep ≤ c0.length) (hm : (c0.length : Int) ≤ most) : PC Try.prog 12 [aHeap c keep, aint .i64 p, aint .i64 most] (abool true) := by
  have h1 := pc_May07 c keep p most (g.st.wf.ok.lim (by have := g.st.len; unfold big; omega)) (fun hmm => walkable_of (by simp only [may, Bool.and_eq_true] at hmm; exact hmm.2))
  rw [may_of g.st.wf (by rw [g.len]; exact hl) (by rw [g.len]; exact hm) (by simp) g.tr] at h1
  exact h1

theorem pc_GrowTwice (c : List Cell) (keep root k v k2 v2 : Int) (hL : Lim c) : PC Try.prog 5 [.agg [.d (dCells c), .d (dint keep), .d (dint root), .d (dint k), .d (dint v), .d (dint k2), .d (dint v2)]] (abool true) := by
  have h0 := pc_shown09
  have h1 := pc_Fine c keep [root] 40 hL (by simp) (by omega)
  cases hf : fine c keep [root] 40 with
  | false =>
    rw [hf] at h1
    refine PC_of tab_ok mixed (Try.func5) rfl (by kernel_rfl) (Nat.le_of_ble_eq_true rfl) rfl ?_
    (refine (cwp_seq (cwp_region (sl rfl (sl rfl (seqQ_normal (cwp_seq (cwp_region (sl rfl (sl rfl (sl rfl (an (show [id (AV.d (dCells c)), id (AV.d (dint keep))].length = 2 from rfl) (seqQ_normal (cwp_seq (cwp_region (sl rfl (sl rfl (sl rfl (seqQ_normal (cwp_seq (cwp_region (sl rfl (sl rfl (sl rfl (an (show [id (AV.d (dint k)), id (AV.d (dint v))].length = 2 from rfl) (seqQ_normal (cwp_seq (cwp_region (sl rfl (sl rfl (sl rfl (an (show [id (AV.d (dint k2)), id (AV.d (dint v2))].length = 2 from rfl) (seqQ_normal (cwp_seq (cwp_region (Or.inl (PC.on (h0) (sl rfl (sl rfl (seqQ_normal (cwp_seq (cwp_seq (cwp_region (sl rfl (sl rfl (an (an (show 1 * 1 ≤ 16777216 from (Nat.le_of_ble_eq_true rfl)) (Nat.le_of_ble_eq_true rfl)) (an (show [AV.d (dint root)].length = 1 from rfl) (sl rfl (Or.inl (PC.at (h1) (an (an (DEqv.refl _) (an (DEqv.refl _) True.intro)) (an (show DEqv (D.sl true ti3.size 1 fun q => List.take ti3.size (List.drop (q * ti3.size) [dint root])) (dInts [root]) from ?_) (an (DEqv.refl _) (an (DEqv.refl _) True.intro)))) (sl rfl (sl rfl (seqQ_normal (cwp_cond (oT rfl (cwp_seq (cwp_region (sl rfl (sl rfl (seqQ_normal (cwp_ret (seqQ_ret (endQ_ret (DEqv.refl _))))))))))))))))))))))))))))))))))))))))))))))))))))))))))))))))
    exact DEqv_root (LEqv.refl _)
  | true =>
    rw [hf] at h1
    have hst := fine_st hf
    have hw := wf_of_fine hf
    have hl : 1 ≤ c.length ∧ c.length ≤ 2000 ∧ 0 ≤ keep ∧ keep ≤ c.length := ⟨hw.2.2.2.2.1, hw.2.2.2.1, hw.2.2.2.2.2⟩
    have ht := hst.high
    generalize highOf c root = h at ht
    have h2 := pc_PutP c keep h root k v true hst.put ht.tree
    have h3 := pc_PutP c keep h root k2 v2 true hst.put ht.tree
    have ga := put_got (deep := true) hst ht ⟨k, v⟩
    have gb := put_got (deep := true) hst ht ⟨k2, v2⟩
    have na := put_num (deep := true) (k := k) (v := v) hst ht
    have nb := put_num (deep := true) (k := k2) (v := v2) hst ht
    have hsr := ht.srt
    simp only at ga gb
    by_cases ea : (put c keep h root k v true).2.2 = 0
    case neg =>
      generalize (put c keep h root k v true) = a at *
      generalize (put c keep h root k2 v2 true) = b at *
      refine PC_of tab_ok mixed (Try.func5) rfl (by kernel_rfl) (Nat.le_of_ble_eq_true rfl) rfl ?_
      (focus (refine (cwp_seq (cwp_region (sl rfl (sl rfl (seqQ_normal (cwp_seq (cwp_region (sl rfl (sl rfl (sl rfl (an (show [id (AV.d (dCells c)), id (AV.d (dint keep))].length = 2 from rfl) (seqQ_normal (cwp_seq (cwp_region (sl rfl (sl rfl (sl rfl (seqQ_normal (cwp_seq (cwp_region (sl rfl (sl rfl (sl rfl (an (show [id (AV.d (dint k)), id (AV.d (dint v))].length = 2 from rfl) (seqQ_normal (cwp_seq (cwp_region (sl rfl (sl rfl (sl rfl (an (show [id (AV.d (dint k2)), id (AV.d (dint v2))].length = 2 from rfl) (seqQ_normal (cwp_seq (cwp_region (Or.inl (PC.on (h0) (sl rfl (sl rfl (seqQ_normal (cwp_seq (cwp_seq (cwp_region (sl rfl (sl rfl (an (an (show 1 * 1 ≤ 16777216 from (Nat.le_of_ble_eq_true rfl)) (Nat.le_of_ble_eq_true rfl)) (an (show [AV.d (dint root)].length = 1 from rfl) (sl rfl (Or.inl (PC.at (h1) (an (an (DEqv.refl _) (an (DEqv.refl _) True.intro)) (an (show DEqv (D.sl true ti3.size 1 fun q => List.take ti3.size (List.drop (q * ti3.size) [dint root])) (dInts [root]) from ?_) (an (DEqv.refl _) (an (DEqv.refl _) True.intro)))) (sl rfl (sl rfl (seqQ_normal (cwp_cond (oF rfl (cwp_skip (seqQ_normal (cwp_seq (cwp_region (sl rfl (sl rfl (sl rfl (sl rfl (sl rfl (sl rfl (Or.inl (PC.on (h2) (sl rfl (sl rfl (sl rfl (sl rfl (sl rfl (sl rfl (an (show [AV.d (dCells a.fst), AV.d (dint keep)].length = 2 from rfl) (sl rfl (sl rfl (seqQ_normal (cwp_seq (cwp_region (sl rfl (sl rfl (sl rfl (sl rfl (sl rfl (sl rfl (Or.inl (PC.on (h3) (sl rfl (sl rfl (sl rfl (sl rfl (sl rfl (sl rfl (an (show [AV.d (dCells b.fst), AV.d (dint keep)].length = 2 from rfl) (sl rfl (sl rfl (seqQ_normal (cwp_seq (cwp_seq (cwp_region (sl rfl (an (by with_reducible rfl) (sl rfl (sl rfl (sl rfl (an (fun (hb1 : ((↑a.snd.snd : Int) != 0) = false) => ?_) (fun (hb2 : ((↑a.snd.snd : Int) != 0) = true) => ?_)))))))))))))))))))))))))))))))))))))))))))))))))))))))))))))))))))))))))))))))))))))))))))))))))))))))))); rotate_right; (have hf2 := hb2; simp only [bne_iff_ne, ne_eq] at hf2; refine (sl rfl (sl rfl (uT hb2 (sl rfl (oT hb2 (sl rfl (seqQ_normal (cwp_cond (oT rfl (cwp_seq (cwp_region (sl rfl (sl rfl (seqQ_normal (cwp_ret (seqQ_ret (endQ_ret (DEqv.refl _))))))))))))))))))); rotate_right; (have hf1 := hb1; simp only [bne_eq_false_iff_eq] at hf1; exfalso; omega); rotate_right))
      all_goals first
        | exact DEqv_root (LEqv.refl _)
        | (exfalso; simp_all; done)
    by_cases eb : (put c keep h root k2 v2 true).2.2 = 0
    case neg =>
      rw [ea] at h2
      generalize (put c keep h root k v true) = a at *
      generalize (put c keep h root k2 v2 true) = b at *
      refine PC_of tab_ok mixed (Try.func5) rfl (by kernel_rfl) (Nat.le_of_ble_eq_true rfl) rfl ?_
      (focus (refine (cwp_seq (cwp_region (sl rfl (sl rfl (seqQ_normal (cwp_seq (cwp_region (sl rfl (sl rfl (sl rfl (an (show [id (AV.d (dCells c)), id (AV.d (dint keep))].length = 2 from rfl) (seqQ_normal (cwp_seq (cwp_region (sl rfl (sl rfl (sl rfl (seqQ_normal (cwp_seq (cwp_region (sl rfl (sl rfl (sl rfl (an (show [id (AV.d (dint k)), id (AV.d (dint v))].length = 2 from rfl) (seqQ_normal (cwp_seq (cwp_region (sl rfl (sl rfl (sl rfl (an (show [id (AV.d (dint k2)), id (AV.d (dint v2))].length = 2 from rfl) (seqQ_normal (cwp_seq (cwp_region (Or.inl (PC.on (h0) (sl rfl (sl rfl (seqQ_normal (cwp_seq (cwp_seq (cwp_region (sl rfl (sl rfl (an (an (show 1 * 1 ≤ 16777216 from (Nat.le_of_ble_eq_true rfl)) (Nat.le_of_ble_eq_true rfl)) (an (show [AV.d (dint root)].length = 1 from rfl) (sl rfl (Or.inl (PC.at (h1) (an (an (DEqv.refl _) (an (DEqv.refl _) True.intro)) (an (show DEqv (D.sl true ti3.size 1 fun q => List.take ti3.size (List.drop (q * ti3.size) [dint root])) (dInts [root]) from ?_) (an (DEqv.refl _) (an (DEqv.refl _) True.intro)))) (sl rfl (sl rfl (seqQ_normal (cwp_cond (oF rfl (cwp_skip (seqQ_normal (cwp_seq (cwp_region (sl rfl (sl rfl (sl rfl (sl rfl (sl rfl (sl rfl (Or.inl (PC.on (h2) (sl rfl (sl rfl (sl rfl (sl rfl (sl rfl (sl rfl (an (show [AV.d (dCells a.fst), AV.d (dint keep)].length = 2 from rfl) (sl rfl (sl rfl (seqQ_normal (cwp_seq (cwp_region (sl rfl (sl rfl (sl rfl (sl rfl (sl rfl (sl rfl (Or.inl (PC.on (h3) (sl rfl (sl rfl (sl rfl (sl rfl (sl rfl (sl rfl (an (show [AV.d (dCells b.fst), AV.d (dint keep)].length = 2 from rfl) (sl rfl (sl rfl (seqQ_normal (cwp_seq (cwp_seq (cwp_region (sl rfl (an (by with_reducible rfl) (sl rfl (sl rfl (sl rfl (uF rfl (sl rfl (sl rfl (uF rfl (an (by with_reducible rfl) (sl rfl (oF rfl (sl rfl (seqQ_normal (cwp_cond (an (fun (hb1 : ((↑b.snd.snd : Int) != 0) = true) => ?_) (fun (hb2 : ((↑b.snd.snd : Int) != 0) = false) => ?_)))))))))))))))))))))))))))))))))))))))))))))))))))))))))))))))))))))))))))))))))))))))))))))))))))))))))))))))))))); rotate_right; (have hf2 := hb2; simp only [bne_eq_false_iff_eq] at hf2; exfalso; omega); rotate_right; (have hf1 := hb1; simp only [bne_iff_ne, ne_eq] at hf1; refine (cwp_seq (cwp_region (sl rfl (sl rfl (seqQ_normal (cwp_ret (seqQ_ret (endQ_ret (DEqv.refl _)))))))))); rotate_right))
      all_goals first
        | exact DEqv_root (LEqv.refl _)
        | (exfalso; simp_all; done)
    have na := na ea
    have nb := nb eb
    obtain ⟨ha, ga⟩ := ga ea
    obtain ⟨hb, gb⟩ := gb eb
    rw [ea] at h2
    rw [eb] at h3
    clear ea eb
    generalize (put c keep h root k v true).1 = a at *
    generalize (put c keep h root k v true).2.1 = p at *
    generalize (put c keep h root k2 v2 true).1 = b at *
    generalize (put c keep h root k2 v2 true).2.1 = q at *
    have h4 := pc_MayG ga hl hw.2.2.1
    have h5 := pc_MayG gb hl hw.2.2.1
    have h6 := pc_PutP a keep ha p k2 v2 true ga.st.put ga.tr.tree
    have h7 := pc_PutP b keep hb q k v true gb.st.put gb.tr.tree
    have gc := put_got (deep := true) ga.st ga.tr ⟨k2, v2⟩
    have gd := put_got (deep := true) gb.st gb.tr ⟨k, v⟩
    have ec := put_full3 (deep := true) ga.st ga.tr nb
    have ed := put_full3 (deep := true) gb.st gb.tr na
    simp only at gc gd
    have h8 := pc_List07 a keep ha p ga.le ga.tree.shape
    rw [ga.list] at h8
    rcases ec with ec | ec
    case inr =>
      rw [ec] at h6
      generalize (put a keep ha p k2 v2 true) = cc at *
      generalize (put b keep hb q k v true) = d at *
      refine PC_of tab_ok mixed (Try.func5) rfl (by kernel_rfl) (Nat.le_of_ble_eq_true rfl) rfl ?_
      (refine (cwp_seq (cwp_region (sl rfl (sl rfl (seqQ_normal (cwp_seq (cwp_region (sl rfl (sl rfl (sl rfl (an (show [id (AV.d (dCells c)), id (AV.d (dint keep))].length = 2 from rfl) (seqQ_normal (cwp_seq (cwp_region (sl rfl (sl rfl (sl rfl (seqQ_normal (cwp_seq (cwp_region (sl rfl (sl rfl (sl rfl (an (show [id (AV.d (dint k)), id (AV.d (dint v))].length = 2 from rfl) (seqQ_normal (cwp_seq (cwp_region (sl rfl (sl rfl (sl rfl (an (show [id (AV.d (dint k2)), id (AV.d (dint v2))].length = 2 from rfl) (seqQ_normal (cwp_seq (cwp_region (Or.inl (PC.on (h0) (sl rfl (sl rfl (seqQ_normal (cwp_seq (cwp_seq (cwp_region (sl rfl (sl rfl (an (an (show 1 * 1 ≤ 16777216 from (Nat.le_of_ble_eq_true rfl)) (Nat.le_of_ble_eq_true rfl)) (an (show [AV.d (dint root)].length = 1 from rfl) (sl rfl (Or.inl (PC.at (h1) (an (an (DEqv.refl _) (an (DEqv.refl _) True.intro)) (an (show DEqv (D.sl true ti3.size 1 fun q => List.take ti3.size (List.drop (q * ti3.size) [dint root])) (dInts [root]) from ?_) (an (DEqv.refl _) (an (DEqv.refl _) True.intro)))) (sl rfl (sl rfl (seqQ_normal (cwp_cond (oF rfl (cwp_skip (seqQ_normal (cwp_seq (cwp_region (sl rfl (sl rfl (sl rfl (sl rfl (sl rfl (sl rfl (Or.inl (PC.on (h2) (sl rfl (sl rfl (sl rfl (sl rfl (sl rfl (sl rfl (an (show [AV.d (dCells a), AV.d (dint keep)].length = 2 from rfl) (sl rfl (sl rfl (seqQ_normal (cwp_seq (cwp_region (sl rfl (sl rfl (sl rfl (sl rfl (sl rfl (sl rfl (Or.inl (PC.on (h3) (sl rfl (sl rfl (sl rfl (sl rfl (sl rfl (sl rfl (an (show [AV.d (dCells b), AV.d (dint keep)].length = 2 from rfl) (sl rfl (sl rfl (seqQ_normal (cwp_seq (cwp_seq (cwp_region (sl rfl (an (by with_reducible rfl) (sl rfl (sl rfl (sl rfl (uF rfl (sl rfl (sl rfl (uF rfl (an (by with_reducible rfl) (sl rfl (oF rfl (sl rfl (seqQ_normal (cwp_cond (oF rfl (cwp_skip (seqQ_normal (cwp_seq (cwp_seq (cwp_region (sl rfl (sl rfl (Or.inl (PC.on (h4) (sl rfl (sl rfl (sl rfl (sl rfl (uF rfl (sl rfl (sl rfl (uF rfl (sl rfl (sl rfl (uF rfl (Or.inl (PC.on (h5) (sl rfl (sl rfl (uF rfl (sl rfl (oF rfl (sl rfl (seqQ_normal (cwp_cond (oF rfl (cwp_skip (seqQ_normal (cwp_seq (cwp_region (sl rfl (sl rfl (sl rfl (sl rfl (sl rfl (sl rfl (Or.inl (PC.on (h6) (sl rfl (sl rfl (sl rfl (sl rfl (sl rfl (sl rfl (an (show [AV.d (dCells cc.fst), AV.d (dint keep)].length = 2 from rfl) (sl rfl (sl rfl (seqQ_normal (cwp_seq (cwp_region (sl rfl (sl rfl (sl rfl (sl rfl (sl rfl (sl rfl (Or.inl (PC.on (h7) (sl rfl (sl rfl (sl rfl (sl rfl (sl rfl (sl rfl (an (show [AV.d (dCells d.fst), AV.d (dint keep)].length = 2 from rfl) (sl rfl (sl rfl (seqQ_normal (cwp_seq (cwp_seq (cwp_region (sl rfl (an (by with_reducible rfl) (sl rfl (sl rfl (sl rfl (uT rfl (sl rfl (sl rfl (uT rfl (sl rfl (oT rfl (sl rfl (seqQ_normal (cwp_cond (oT rfl (cwp_seq (cwp_region (sl rfl (sl rfl (sl rfl (oT rfl (sl rfl (sl rfl (oT rfl (an (by with_reducible rfl) (sl rfl (sl rfl (oT rfl (sl rfl (sl rfl (uT rfl (sl rfl (sl rfl (uT rfl (sl rfl (sl rfl (oT rfl (oT rfl (sl rfl (oT rfl (sl rfl (sl rfl (seqQ_normal (cwp_ret (seqQ_ret (endQ_ret (DEqv.refl _)))))))))))))))))))))))))))))))))))))))))))))))))))))))))))))))))))))))))))))))))))))))))))))))))))))))))))))))))))))))))))))))))))))))))))))))))))))))))))))))))))))))))))))))))))))))))))))))))))))))))))))))))))))))))))))))))))))))))))))))
      all_goals first
        | exact DEqv_root (LEqv.refl _)
        | (exfalso; simp_all; done)
    rcases ed with ed | ed
    case inr =>
      rw [ec] at h6
      rw [ed] at h7
      generalize (put a keep ha p k2 v2 true) = cc at *
      generalize (put b keep hb q k v true) = d at *
      refine PC_of tab_ok mixed (Try.func5) rfl (by kernel_rfl) (Nat.le_of_ble_eq_true rfl) rfl ?_
      (refine (cwp_seq (cwp_region (sl rfl (sl rfl (seqQ_normal (cwp_seq (cwp_region (sl rfl (sl rfl (sl rfl (an (show [id (AV.d (dCells c)), id (AV.d (dint keep))].length = 2 from rfl) (seqQ_normal (cwp_seq (cwp_region (sl rfl (sl rfl (sl rfl (seqQ_normal (cwp_seq (cwp_region (sl rfl (sl rfl (sl rfl (an (show [id (AV.d (dint k)), id (AV.d (dint v))].length = 2 from rfl) (seqQ_normal (cwp_seq (cwp_region (sl rfl (sl rfl (sl rfl (an (show [id (AV.d (dint k2)), id (AV.d (dint v2))].length = 2 from rfl) (seqQ_normal (cwp_seq (cwp_region (Or.inl (PC.on (h0) (sl rfl (sl rfl (seqQ_normal (cwp_seq (cwp_seq (cwp_region (sl rfl (sl rfl (an (an (show 1 * 1 ≤ 16777216 from (Nat.le_of_ble_eq_true rfl)) (Nat.le_of_ble_eq_true rfl)) (an (show [AV.d (dint root)].length = 1 from rfl) (sl rfl (Or.inl (PC.at (h1) (an (an (DEqv.refl _) (an (DEqv.refl _) True.intro)) (an (show DEqv (D.sl true ti3.size 1 fun q => List.take ti3.size (List.drop (q * ti3.size) [dint root])) (dInts [root]) from ?_) (an (DEqv.refl _) (an (DEqv.refl _) True.intro)))) (sl rfl (sl rfl (seqQ_normal (cwp_cond (oF rfl (cwp_skip (seqQ_normal (cwp_seq (cwp_region (sl rfl (sl rfl (sl rfl (sl rfl (sl rfl (sl rfl (Or.inl (PC.on (h2) (sl rfl (sl rfl (sl rfl (sl rfl (sl rfl (sl rfl (an (show [AV.d (dCells a), AV.d (dint keep)].length = 2 from rfl) (sl rfl (sl rfl (seqQ_normal (cwp_seq (cwp_region (sl rfl (sl rfl (sl rfl (sl rfl (sl rfl (sl rfl (Or.inl (PC.on (h3) (sl rfl (sl rfl (sl rfl (sl rfl (sl rfl (sl rfl (an (show [AV.d (dCells b), AV.d (dint keep)].length = 2 from rfl) (sl rfl (sl rfl (seqQ_normal (cwp_seq (cwp_seq (cwp_region (sl rfl (an (by with_reducible rfl) (sl rfl (sl rfl (sl rfl (uF rfl (sl rfl (sl rfl (uF rfl (an (by with_reducible rfl) (sl rfl (oF rfl (sl rfl (seqQ_normal (cwp_cond (oF rfl (cwp_skip (seqQ_normal (cwp_seq (cwp_seq (cwp_region (sl rfl (sl rfl (Or.inl (PC.on (h4) (sl rfl (sl rfl (sl rfl (sl rfl (uF rfl (sl rfl (sl rfl (uF rfl (sl rfl (sl rfl (uF rfl (Or.inl (PC.on (h5) (sl rfl (sl rfl (uF rfl (sl rfl (oF rfl (sl rfl (seqQ_normal (cwp_cond (oF rfl (cwp_skip (seqQ_normal (cwp_seq (cwp_region (sl rfl (sl rfl (sl rfl (sl rfl (sl rfl (sl rfl (Or.inl (PC.on (h6) (sl rfl (sl rfl (sl rfl (sl rfl (sl rfl (sl rfl (an (show [AV.d (dCells cc.fst), AV.d (dint keep)].length = 2 from rfl) (sl rfl (sl rfl (seqQ_normal (cwp_seq (cwp_region (sl rfl (sl rfl (sl rfl (sl rfl (sl rfl (sl rfl (Or.inl (PC.on (h7) (sl rfl (sl rfl (sl rfl (sl rfl (sl rfl (sl rfl (an (show [AV.d (dCells d.fst), AV.d (dint keep)].length = 2 from rfl) (sl rfl (sl rfl (seqQ_normal (cwp_seq (cwp_seq (cwp_region (sl rfl (an (by with_reducible rfl) (sl rfl (sl rfl (sl rfl (uF rfl (sl rfl (sl rfl (uF rfl (an (by with_reducible rfl) (sl rfl (oF rfl (sl rfl (seqQ_normal (cwp_cond (oT rfl (cwp_seq (cwp_region (sl rfl (sl rfl (sl rfl (oT rfl (sl rfl (sl rfl (oT rfl (an (by with_reducible rfl) (sl rfl (sl rfl (oT rfl (sl rfl (sl rfl (uF rfl (sl rfl (sl rfl (uF rfl (an (by with_reducible rfl) (sl rfl (sl rfl (oT rfl (oF rfl (sl rfl (oT rfl (sl rfl (sl rfl (seqQ_normal (cwp_ret (seqQ_ret (endQ_ret (DEqv.refl _)))))))))))))))))))))))))))))))))))))))))))))))))))))))))))))))))))))))))))))))))))))))))))))))))))))))))))))))))))))))))))))))))))))))))))))))))))))))))))))))))))))))))))))))))))))))))))))))))))))))))))))))))))))))))))))))))))))))))))))))))
      all_goals first
        | exact DEqv_root (LEqv.refl _)
        | (exfalso; simp_all; done)
    obtain ⟨hc, gc⟩ := gc ec
    obtain ⟨hd, gd⟩ := gd ed
    rw [ec] at h6
    rw [ed] at h7
    clear ec ed
    generalize (put a keep ha p k2 v2 true).1 = cc at *
    generalize (put a keep ha p k2 v2 true).2.1 = r at *
    generalize (put b keep hb q k v true).1 = d at *
    generalize (put b keep hb q k v true).2.1 = s at *
    have h9 := pc_MayG gc (by rw [ga.len]; exact hl) (by rw [ga.len]; exact hw.2.2.1)
    have h10 := pc_MayG gd (by rw [gb.len]; exact hl) (by rw [gb.len]; exact hw.2.2.1)
    have h11 := pc_List07 cc keep hc r gc.le gc.tree.shape
    have h12 := pc_List07 d keep hd s gd.le gd.tree.shape
    have h13 := pc_Get07 cc keep k2 hc r gc.le gc.tree.shape
    have hlen := Nat.le_trans (listOf_len cc hc r gc.tree.shape) (Nat.le_trans (Nat.pow_le_pow_right (by omega) gc.le) (show 4 ^ 20 ≤ big by decide))
    rw [gc.list, ga.list] at h11 h13 hlen
    rw [gd.list, gb.list] at h12
    by_cases hk : k = k2
    · rw [ins_twice hk hsr] at h11 h13
      rw [show k2 = (⟨k2, v2⟩ : Item).k from rfl, getIn_mem (srt_ins hsr) (mem_ins_iff.2 (.inl rfl))] at h13
      change PC _ _ _ (.tup [aint .i64 v2, aint .i64 ((0 : Nat) : Int)]) at h13
      have hle := ins_len (x := ⟨k, v⟩) (y := ⟨k2, v2⟩) (listOf c h root) hk
      subst hk
      refine PC_of tab_ok mixed (Try.func5) rfl (by kernel_rfl) (Nat.le_of_ble_eq_true rfl) rfl ?_
      (focus (refine (cwp_seq (cwp_region (sl rfl (sl rfl (seqQ_normal (cwp_seq (cwp_region (sl rfl (sl rfl (sl rfl (an (show [id (AV.d (dCells c)), id (AV.d (dint keep))].length = 2 from rfl) (seqQ_normal (cwp_seq (cwp_region (sl rfl (sl rfl (sl rfl (seqQ_normal (cwp_seq (cwp_region (sl rfl (sl rfl (sl rfl (an (show [id (AV.d (dint k)), id (AV.d (dint v))].length = 2 from rfl) (seqQ_normal (cwp_seq (cwp_region (sl rfl (sl rfl (sl rfl (an (show [id (AV.d (dint k)), id (AV.d (dint v2))].length = 2 from rfl) (seqQ_normal (cwp_seq (cwp_region (Or.inl (PC.on (h0) (sl rfl (sl rfl (seqQ_normal (cwp_seq (cwp_seq (cwp_region (sl rfl (sl rfl (an (an (show 1 * 1 ≤ 16777216 from (Nat.le_of_ble_eq_true rfl)) (Nat.le_of_ble_eq_true rfl)) (an (show [AV.d (dint root)].length = 1 from rfl) (sl rfl (Or.inl (PC.at (h1) (an (an (DEqv.refl _) (an (DEqv.refl _) True.intro)) (an (show DEqv (D.sl true ti3.size 1 fun q => List.take ti3.size (List.drop (q * ti3.size) [dint root])) (dInts [root]) from ?_) (an (DEqv.refl _) (an (DEqv.refl _) True.intro)))) (sl rfl (sl rfl (seqQ_normal (cwp_cond (oF rfl (cwp_skip (seqQ_normal (cwp_seq (cwp_region (sl rfl (sl rfl (sl rfl (sl rfl (sl rfl (sl rfl (Or.inl (PC.on (h2) (sl rfl (sl rfl (sl rfl (sl rfl (sl rfl (sl rfl (an (show [AV.d (dCells a), AV.d (dint keep)].length = 2 from rfl) (sl rfl (sl rfl (seqQ_normal (cwp_seq (cwp_region (sl rfl (sl rfl (sl rfl (sl rfl (sl rfl (sl rfl (Or.inl (PC.on (h3) (sl rfl (sl rfl (sl rfl (sl rfl (sl rfl (sl rfl (an (show [AV.d (dCells b), AV.d (dint keep)].length = 2 from rfl) (sl rfl (sl rfl (seqQ_normal (cwp_seq (cwp_seq (cwp_region (sl rfl (an (by with_reducible rfl) (sl rfl (sl rfl (sl rfl (uF rfl (sl rfl (sl rfl (uF rfl (an (by with_reducible rfl) (sl rfl (oF rfl (sl rfl (seqQ_normal (cwp_cond (oF rfl (cwp_skip (seqQ_normal (cwp_seq (cwp_seq (cwp_region (sl rfl (sl rfl (Or.inl (PC.on (h4) (sl rfl (sl rfl (sl rfl (sl rfl (uF rfl (sl rfl (sl rfl (uF rfl (sl rfl (sl rfl (uF rfl (Or.inl (PC.on (h5) (sl rfl (sl rfl (uF rfl (sl rfl (oF rfl (sl rfl (seqQ_normal (cwp_cond (oF rfl (cwp_skip (seqQ_normal (cwp_seq (cwp_region (sl rfl (sl rfl (sl rfl (sl rfl (sl rfl (sl rfl (Or.inl (PC.on (h6) (sl rfl (sl rfl (sl rfl (sl rfl (sl rfl (sl rfl (an (show [AV.d (dCells cc), AV.d (dint keep)].length = 2 from rfl) (sl rfl (sl rfl (seqQ_normal (cwp_seq (cwp_region (sl rfl (sl rfl (sl rfl (sl rfl (sl rfl (sl rfl (Or.inl (PC.on (h7) (sl rfl (sl rfl (sl rfl (sl rfl (sl rfl (sl rfl (an (show [AV.d (dCells d), AV.d (dint keep)].length = 2 from rfl) (sl rfl (sl rfl (seqQ_normal (cwp_seq (cwp_seq (cwp_region (sl rfl (an (by with_reducible rfl) (sl rfl (sl rfl (sl rfl (uF rfl (sl rfl (sl rfl (uF rfl (an (by with_reducible rfl) (sl rfl (oF rfl (sl rfl (seqQ_normal (cwp_cond (oF rfl (cwp_skip (seqQ_normal (cwp_seq (cwp_seq (cwp_region (sl rfl (sl rfl (Or.inl (PC.on (h9) (sl rfl (sl rfl (sl rfl (sl rfl (uF rfl (sl rfl (sl rfl (uF rfl (sl rfl (sl rfl (uF rfl (Or.inl (PC.on (h10) (sl rfl (sl rfl (uF rfl (sl rfl (oF rfl (sl rfl (seqQ_normal (cwp_cond (oF rfl (cwp_skip (seqQ_normal (cwp_seq (cwp_seq (cwp_region (sl rfl (sl rfl (sl rfl (sl rfl (an (by with_reducible rfl) (sl rfl (seqQ_normal (cwp_cond (an (fun (hb1 : (k != k) = true) => ?_) (fun (hb2 : (k != k) = false) => ?_))))))))))))))))))))))))))))))))))))))))))))))))))))))))))))))))))))))))))))))))))))))))))))))))))))))))))))))))))))))))))))))))))))))))))))))))))))))))))))))))))))))))))))))))))))))))))))))))))))))))))))))))))))))))))))))))))))))))))))))))))))))))))))); rotate_right; (have hf2 := hb2; simp only [bne_eq_false_iff_eq] at hf2; focus (refine (cwp_skip (seqQ_normal (cwp_seq (cwp_region (sl rfl (sl rfl (sl rfl (sl rfl (Or.inl (PC.on (h13) (sl rfl (sl rfl (sl rfl (sl rfl (sl rfl (sl rfl (seqQ_normal (cwp_seq (cwp_draw (sl rfl (sl rfl (sl rfl (oT rfl (sl rfl (sl rfl (oT rfl (an (by with_reducible rfl) (sl rfl (oT rfl (sl rfl (sl rfl (sl rfl (oT rfl (sl rfl (sl rfl (oT rfl (sl rfl (sl rfl (oT rfl (sl rfl (sl rfl (oT rfl (an (by with_reducible rfl) (sl rfl (oT rfl (sl rfl (sl rfl (sl rfl (an (fun (hb3 : (v2 == v2) = true) => ?_) (fun (hb4 : (v2 == v2) = false) => ?_)))))))))))))))))))))))))))))))))))))))))))))))))); rotate_right; (have hf4 := hb4; simp only [ne_eq, beq_eq_false_iff_ne, not_true_eq_false] at hf4); rotate_right; (have hf3 := hb3; simp only [beq_iff_eq] at hf3; refine (sl rfl (sl rfl (oT hb3 (sl rfl (sl rfl (oT hb3 (Or.inl (PC.on (h11) (sl rfl (sl rfl (oT hb3 (sl rfl (sl rfl (oT hb3 (sl rfl (sl rfl (oT hb3 (sl rfl (sl rfl (oT hb3 (Or.inl (PC.on (h8) (sl rfl (sl rfl (oT hb3 (sl rfl (sl rfl (oT hb3 (an (by with_reducible rfl) (sl rfl (oT hb3 (sl rfl (sl rfl (an (by kernel_rfl) (seqQ_normal (cwp_ret (endQ_ret (DEqv.bool (show ((↑(ins { k := k, v := v2 } (listOf c h root)).length : Int) == (↑(ins { k := k, v := v } (listOf c h root)).length : Int)) = true from ?_)))))))))))))))))))))))))))))))))))))))))); rotate_right; (have hf1 := hb1; simp only [bne_iff_ne, ne_eq, not_true_eq_false] at hf1); rotate_right))
      all_goals first
        | exact DEqv_root (LEqv.refl _)
        | (rw [beq_iff_eq, hle]; done)
        | (rw [beq_iff_eq, beq_iff_eq] at *; omega)
        | (trace_state; rw [hle]; simp; done)
        | (exfalso; simp_all; done)
    · rw [← ins_comm (x := ⟨k, v⟩) (y := ⟨k2, v2⟩) hk hsr] at h12
      have h14 := pc_Items _ (ins ⟨k2, v2⟩ (ins ⟨k, v⟩ (listOf c h root))) hlen
      rw [decide_eq_true rfl] at h14
      refine PC_of tab_ok mixed (Try.func5) rfl (by kernel_rfl) (Nat.le_of_ble_eq_true rfl) rfl ?_
      (focus (refine (cwp_seq (cwp_region (sl rfl (sl rfl (seqQ_normal (cwp_seq (cwp_region (sl rfl (sl rfl (sl rfl (an (show [id (AV.d (dCells c)), id (AV.d (dint keep))].length = 2 from rfl) (seqQ_normal (cwp_seq (cwp_region (sl rfl (sl rfl (sl rfl (seqQ_normal (cwp_seq (cwp_region (sl rfl (sl rfl (sl rfl (an (show [id (AV.d (dint k)), id (AV.d (dint v))].length = 2 from rfl) (seqQ_normal (cwp_seq (cwp_region (sl rfl (sl rfl (sl rfl (an (show [id (AV.d (dint k2)), id (AV.d (dint v2))].length = 2 from rfl) (seqQ_normal (cwp_seq (cwp_region (Or.inl (PC.on (h0) (sl rfl (sl rfl (seqQ_normal (cwp_seq (cwp_seq (cwp_region (sl rfl (sl rfl (an (an (show 1 * 1 ≤ 16777216 from (Nat.le_of_ble_eq_true rfl)) (Nat.le_of_ble_eq_true rfl)) (an (show [AV.d (dint root)].length = 1 from rfl) (sl rfl (Or.inl (PC.at (h1) (an (an (DEqv.refl _) (an (DEqv.refl _) True.intro)) (an (show DEqv (D.sl true ti3.size 1 fun q => List.take ti3.size (List.drop (q * ti3.size) [dint root])) (dInts [root]) from ?_) (an (DEqv.refl _) (an (DEqv.refl _) True.intro)))) (sl rfl (sl rfl (seqQ_normal (cwp_cond (oF rfl (cwp_skip (seqQ_normal (cwp_seq (cwp_region (sl rfl (sl rfl (sl rfl (sl rfl (sl rfl (sl rfl (Or.inl (PC.on (h2) (sl rfl (sl rfl (sl rfl (sl rfl (sl rfl (sl rfl (an (show [AV.d (dCells a), AV.d (dint keep)].length = 2 from rfl) (sl rfl (sl rfl (seqQ_normal (cwp_seq (cwp_region (sl rfl (sl rfl (sl rfl (sl rfl (sl rfl (sl rfl (Or.inl (PC.on (h3) (sl rfl (sl rfl (sl rfl (sl rfl (sl rfl (sl rfl (an (show [AV.d (dCells b), AV.d (dint keep)].length = 2 from rfl) (sl rfl (sl rfl (seqQ_normal (cwp_seq (cwp_seq (cwp_region (sl rfl (an (by with_reducible rfl) (sl rfl (sl rfl (sl rfl (uF rfl (sl rfl (sl rfl (uF rfl (an (by with_reducible rfl) (sl rfl (oF rfl (sl rfl (seqQ_normal (cwp_cond (oF rfl (cwp_skip (seqQ_normal (cwp_seq (cwp_seq (cwp_region (sl rfl (sl rfl (Or.inl (PC.on (h4) (sl rfl (sl rfl (sl rfl (sl rfl (uF rfl (sl rfl (sl rfl (uF rfl (sl rfl (sl rfl (uF rfl (Or.inl (PC.on (h5) (sl rfl (sl rfl (uF rfl (sl rfl (oF rfl (sl rfl (seqQ_normal (cwp_cond (oF rfl (cwp_skip (seqQ_normal (cwp_seq (cwp_region (sl rfl (sl rfl (sl rfl (sl rfl (sl rfl (sl rfl (Or.inl (PC.on (h6) (sl rfl (sl rfl (sl rfl (sl rfl (sl rfl (sl rfl (an (show [AV.d (dCells cc), AV.d (dint keep)].length = 2 from rfl) (sl rfl (sl rfl (seqQ_normal (cwp_seq (cwp_region (sl rfl (sl rfl (sl rfl (sl rfl (sl rfl (sl rfl (Or.inl (PC.on (h7) (sl rfl (sl rfl (sl rfl (sl rfl (sl rfl (sl rfl (an (show [AV.d (dCells d), AV.d (dint keep)].length = 2 from rfl) (sl rfl (sl rfl (seqQ_normal (cwp_seq (cwp_seq (cwp_region (sl rfl (an (by with_reducible rfl) (sl rfl (sl rfl (sl rfl (uF rfl (sl rfl (sl rfl (uF rfl (an (by with_reducible rfl) (sl rfl (oF rfl (sl rfl (seqQ_normal (cwp_cond (oF rfl (cwp_skip (seqQ_normal (cwp_seq (cwp_seq (cwp_region (sl rfl (sl rfl (Or.inl (PC.on (h9) (sl rfl (sl rfl (sl rfl (sl rfl (uF rfl (sl rfl (sl rfl (uF rfl (sl rfl (sl rfl (uF rfl (Or.inl (PC.on (h10) (sl rfl (sl rfl (uF rfl (sl rfl (oF rfl (sl rfl (seqQ_normal (cwp_cond (oF rfl (cwp_skip (seqQ_normal (cwp_seq (cwp_seq (cwp_region (sl rfl (sl rfl (sl rfl (sl rfl (an (by with_reducible rfl) (sl rfl (seqQ_normal (cwp_cond (an (fun (hb1 : (k != k2) = true) => ?_) (fun (hb2 : (k != k2) = false) => ?_))))))))))))))))))))))))))))))))))))))))))))))))))))))))))))))))))))))))))))))))))))))))))))))))))))))))))))))))))))))))))))))))))))))))))))))))))))))))))))))))))))))))))))))))))))))))))))))))))))))))))))))))))))))))))))))))))))))))))))))))))))))))))))); rotate_right; (have hf2 := hb2; simp only [bne_eq_false_iff_eq] at hf2; exfalso; omega); rotate_right; (have hf1 := hb1; simp only [bne_iff_ne, ne_eq] at hf1; refine (cwp_seq (cwp_draw (sl rfl (sl rfl (sl rfl (oT rfl (sl rfl (sl rfl (oT rfl (sl rfl (sl rfl (oT rfl (Or.inl (PC.on (h11) (sl rfl (sl rfl (oT rfl (sl rfl (sl rfl (oT rfl (sl rfl (sl rfl (oT rfl (Or.inl (PC.on (h12) (sl rfl (sl rfl (oT rfl (Or.inl (PC.on (h14) (sl rfl (oT rfl (sl rfl (sl rfl (an (by kernel_rfl) (seqQ_normal (cwp_ret (seqQ_ret (endQ_ret (DEqv.refl _))))))))))))))))))))))))))))))))))))))))); rotate_right))
      all_goals first
        | exact DEqv_root (LEqv.refl _)
        | (exfalso; simp_all; done)
end Go.Proofs.Abs
