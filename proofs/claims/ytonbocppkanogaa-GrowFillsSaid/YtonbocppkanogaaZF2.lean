/- Plain facts: heaps that add up; trees; a cell that is referred to once less. -/
import Derived.Test.YtonbocppkanogaaZF1
set_option linter.all false
namespace Go.Proofs.Abs

/-- Cells are right. -/
structure HeapOK (c : List Cell) : Prop where
  nn : RefNN c
  pin : ∀ i, 0 < (nth c i).ref → (nth c i).pin = false
  node : ∀ i, 0 < (nth c i).ref → rightNode (nth c i).n.it = true
  told : ∀ i, i < c.length → 0 < (nth c i).ref → (nth c i).n.leaf = false → ∀ x ∈ (nth c i).n.it, 0 ≤ x.v ∧ x.v < c.length
  void : ∀ i, (nth c i).ref = 0 → (nth c i).n = ⟨false, []⟩

theorem HeapOK.good {c : List Cell} (h : HeapOK c) : Good c := by
  refine ⟨h.nn, h.pin, fun i hi hl k hk => ?_⟩
  by_cases hr : 0 < (nth c i).ref
  · exact h.told i hi hr hl _ (mem_nth hk)
  · have := h.void i (by have := h.nn i; omega)
    rw [this] at hk
    simp at hk
theorem HeapOK.lim {c : List Cell} (h : HeapOK c) (hc : c.length ≤ big) : Lim c := by
  refine ⟨hc, fun i => ?_⟩
  by_cases hr : 0 < (nth c i).ref
  · have := rightNode_len (h.node i hr)
    unfold big; omega
  · rw [h.void i (by have := h.nn i; omega)]; simp [big]

/-- All that refer to cells add up. -/
def Cnt (c : List Cell) (R : List Int) : Prop := ∀ q : Nat, q < c.length → (nth c q).ref = refOf c R q

theorem vc_pos {it : List Item} {x : Item} (h : x ∈ it) : 0 < vc it x.v := by
  unfold vc
  rw [List.countP_pos_iff]
  exact ⟨x, h, by simp⟩
theorem vc_mem {it : List Item} {q : Int} (h : 0 < vc it q) : ∃ x ∈ it, x.v = q := by
  unfold vc at h
  rw [List.countP_pos_iff] at h
  obtain ⟨x, h1, h2⟩ := h
  exact ⟨x, h1, by simpa using h2⟩
theorem rc_mem {l : List Int} {q : Int} (h : 0 < rc l q) : q ∈ l := by
  unfold rc at h
  rw [List.countP_pos_iff] at h
  obtain ⟨x, h1, h2⟩ := h
  rw [beq_iff_eq] at h2
  rw [← h2]; exact h1
theorem rc_pos {l : List Int} {q : Int} (h : q ∈ l) : 0 < rc l q := by
  unfold rc
  rw [List.countP_pos_iff]
  exact ⟨q, h, by simp⟩
theorem rc_cons (p : Int) (l : List Int) (q : Int) : rc (p :: l) q = rc l q + if p = q then 1 else 0 := by
  simp [rc, List.countP_cons]
theorem rc_append (a b : List Int) (q : Int) : rc (a ++ b) q = rc a q + rc b q := by simp [rc, List.countP_append]
theorem rc_map (it : List Item) (q : Int) : rc (it.map (·.v)) q = vc it q := by
  unfold rc vc
  rw [List.countP_map]; rfl
theorem refOf_le_of_rc {c : List Cell} {R S : List Int} (h : ∀ q, rc R q = rc S q) (q : Int) : refOf c R q = refOf c S q := by
  unfold refOf; rw [h q]
theorem Cnt.roots {c : List Cell} {R S : List Int} (h : Cnt c R) (e : ∀ q, rc R q = rc S q) : Cnt c S := fun q hq => by rw [h q hq, refOf_le_of_rc e]

/-- A root is referred to; so is what a used cell tells. -/
theorem Cnt.root {c : List Cell} {R : List Int} (h : Cnt c R) {p : Int} (hp : p ∈ R) (h0 : 0 ≤ p) (h1 : p < c.length) : used c p = true := by
  refine used_iff.2 ⟨h0, h1, ?_⟩
  rw [h p.toNat (by omega)]
  have e : ((p.toNat : Nat) : Int) = p := by omega
  have := rc_pos hp
  unfold refOf
  rw [e]; omega
theorem Cnt.told {c : List Cell} {R : List Int} (h : Cnt c R) (hk : HeapOK c) {p : Int} (hu : used c p = true) (hl : (nodeOf c p).leaf = false) {x : Item} (hx : x ∈ (nodeOf c p).it) : used c x.v = true := by
  have hu := used_iff.1 hu
  obtain ⟨h0, h1⟩ := hk.told p.toNat (by omega) hu.2.2 hl x hx
  refine used_iff.2 ⟨h0, h1, ?_⟩
  rw [h x.v.toNat (by omega)]
  have e : ((x.v.toNat : Nat) : Int) = x.v := by omega
  have h2 := sumTo_ge (g := fun p => tellsOf (nth c p) x.v) (i := p.toNat) (n := c.length) (by omega)
  have h3 : tellsOf (nth c p.toNat) x.v = vc (nodeOf c p).it x.v := if_pos ⟨hu.2.2, hl⟩
  have := vc_pos hx
  unfold refOf
  rw [e]
  omega

/-! ### Trees -/
def RT (c : List Cell) : Nat → Int → Prop
  | 0, _ => False
  | h + 1, p => used c p = true ∧ rightNode (nodeOf c p).it = true ∧
      ((nodeOf c p).leaf = true ∧ h = 0 ∨ (nodeOf c p).leaf = false ∧ (∀ x ∈ (nodeOf c p).it, RT c h x.v ∧ hd (listOf c h x.v) = x.k) ∧ Srt ((nodeOf c p).it.flatMap fun x => listOf c h x.v))

theorem RT.used {c : List Cell} {h : Nat} {p : Int} (ht : RT c h p) : used c p = true := by
  cases h with
  | zero => exact ht.elim
  | succ h => exact ht.1
theorem RT.shape {c : List Cell} : ∀ {h : Nat} {p : Int}, RT c h p → shape c h p := by
  intro h
  induction h with
  | zero => exact fun h => h
  | succ h ih =>
    rintro p ⟨h1, h2, h3⟩
    refine ⟨h1, h2, h3.imp id fun ⟨h4, h5, _⟩ => ⟨h4, fun i hi => ih (h5 _ (mem_nth hi)).1⟩⟩
theorem listOf_leaf {c : List Cell} {h : Nat} {p : Int} (hl : (nodeOf c p).leaf = true) : listOf c (h + 1) p = (nodeOf c p).it := by rw [listOf, if_pos hl]
theorem listOf_inner {c : List Cell} {h : Nat} {p : Int} (hl : (nodeOf c p).leaf = false) : listOf c (h + 1) p = (nodeOf c p).it.flatMap fun x => listOf c h x.v := by rw [listOf, if_neg (by simp [hl])]
theorem RT.srt {c : List Cell} {h : Nat} {p : Int} (ht : RT c h p) : Srt (listOf c h p) := by
  cases h with
  | zero => exact ht.elim
  | succ h =>
    obtain ⟨_, h2, h3⟩ := ht
    rcases h3 with ⟨h4, _⟩ | ⟨h4, _, h6⟩
    · rw [listOf_leaf h4]; exact srt_right h2
    · rw [listOf_inner h4]; exact h6
theorem RT.ne {c : List Cell} : ∀ {h : Nat} {p : Int}, RT c h p → listOf c h p ≠ [] := by
  intro h
  induction h with
  | zero => exact fun h => h.elim
  | succ h ih =>
    rintro p ⟨h1, h2, h3⟩
    have hl := rightNode_len h2
    rcases h3 with ⟨h4, _⟩ | ⟨h4, h5, _⟩
    · rw [listOf_leaf h4]; intro e; rw [e] at hl; simp at hl
    · rw [listOf_inner h4]
      intro e
      have h6 := h5 _ (mem_nth (show 0 < (nodeOf c p).it.length by omega))
      rw [List.flatMap_eq_nil_iff] at e
      exact ih h6.1 (e _ (mem_nth (by omega)))
theorem RT.itemOK {c : List Cell} : ∀ {h : Nat} {p : Int}, RT c h p → ∀ x ∈ listOf c h p, itemOK x = true := by
  intro h
  induction h with
  | zero => exact fun h => h.elim
  | succ h ih =>
    rintro p ⟨h1, h2, h3⟩ x hx
    rcases h3 with ⟨h4, _⟩ | ⟨h4, h5, _⟩
    · rw [listOf_leaf h4] at hx; exact itemOK_right h2 x hx
    · rw [listOf_inner h4, List.mem_flatMap] at hx
      obtain ⟨y, hy, hx⟩ := hx
      exact ih (h5 y hy).1 x hx
theorem RT.pos {c : List Cell} {h : Nat} {p : Int} (ht : RT c h p) : 0 < h := by
  cases h with
  | zero => exact ht.elim
  | succ h => omega

theorem flatMap_same {α β : Type} {f g : α → List β} {l : List α} (h : ∀ x ∈ l, f x = g x) : l.flatMap f = l.flatMap g := by
  induction l with
  | nil => rfl
  | cons a l ih =>
    rw [List.flatMap_cons, List.flatMap_cons, h a List.mem_cons_self, ih fun x hx => h x (List.mem_cons_of_mem _ hx)]

/-- A tree stays as it is, where its cells do. -/
theorem RT.keep {c c' : List Cell} (hn : ∀ q, Abs.used c q = true → Abs.used c' q = true → nodeOf c' q = nodeOf c q) (hcl : ∀ q, Abs.used c q = true → Abs.used c' q = true → (nodeOf c q).leaf = false → ∀ x ∈ (nodeOf c q).it, Abs.used c' x.v = true) :
    ∀ {h : Nat} {p : Int}, RT c h p → Abs.used c' p = true → RT c' h p ∧ listOf c' h p = listOf c h p := by
  intro h
  induction h with
  | zero => exact fun h => h.elim
  | succ h ih =>
    rintro p ⟨h1, h2, h3⟩ hu
    have he := hn p h1 hu
    rcases h3 with ⟨h4, h0⟩ | ⟨h4, h5, h6⟩
    · refine ⟨⟨hu, by rw [he]; exact h2, .inl ⟨by rw [he]; exact h4, h0⟩⟩, ?_⟩
      rw [listOf_leaf h4, listOf_leaf (by rw [he]; exact h4), he]
    · have hk : ∀ x ∈ (nodeOf c p).it, RT c' h x.v ∧ listOf c' h x.v = listOf c h x.v := fun x hx => ih (h5 x hx).1 (hcl p h1 hu h4 x hx)
      have e : ((nodeOf c p).it.flatMap fun x => listOf c' h x.v) = (nodeOf c p).it.flatMap fun x => listOf c h x.v := flatMap_same fun x hx => (hk x hx).2
      refine ⟨⟨hu, by rw [he]; exact h2, .inr ⟨by rw [he]; exact h4, fun x hx => ?_, ?_⟩⟩, ?_⟩
      · rw [he] at hx
        exact ⟨(hk x hx).1, by rw [(hk x hx).2]; exact (h5 x hx).2⟩
      · rw [he, e]; exact h6
      · rw [listOf_inner (by rw [he]; exact h4), listOf_inner h4, he, e]

/-- What one heap's used cells are in another one. -/
structure Keeps (c c' : List Cell) : Prop where
  len : c'.length = c.length
  node : ∀ q, used c q = true → used c' q = true → nodeOf c' q = nodeOf c q

theorem Keeps.refl (c : List Cell) : Keeps c c := ⟨rfl, fun _ _ _ => rfl⟩

/-! ### A cell that is referred to once less -/
theorem nodeOf_set {c : List Cell} {i : Nat} {x : Cell} {q : Int} (hi : i < c.length) : nodeOf (c.set i x) q = if q.toNat = i then x.n else nodeOf c q := by
  unfold nodeOf
  rw [nth_set _ _ _ _ hi]
  split <;> rfl

theorem tellsOf_ref {x : Cell} {r : Int} {pin : Bool} (h : 0 < x.ref) (hr : 0 < r) (q : Int) : tellsOf ⟨r, pin, x.n⟩ q = tellsOf x q := by
  unfold tellsOf
  simp [h, hr]

theorem less_ok {c : List Cell} {p : Int} (h : HeapOK c) (hu : used c p = true) (h1 : 1 < (nth c p.toNat).ref) : HeapOK (lessRef c p) := by
  have hu := used_iff.1 hu
  have hp : p.toNat < c.length := by omega
  have hg : ∀ i, nth (lessRef c p) i = if i = p.toNat then ⟨(nth c p.toNat).ref - 1, false, (nth c p.toNat).n⟩ else nth c i := fun i => nth_set _ _ _ _ hp
  refine ⟨fun i => ?_, fun i => ?_, fun i => ?_, fun i => ?_, fun i => ?_⟩
  · rw [hg]; split
    · simp; omega
    · exact h.nn i
  · rw [hg]; split
    · simp
    · exact h.pin i
  · rw [hg]; split
    · intro _; exact h.node p.toNat hu.2.2
    · exact h.node i
  · rw [hg]
    rw [show (lessRef c p).length = c.length by simp [lessRef]]
    split
    · intro _ _; exact h.told p.toNat hp hu.2.2
    · exact h.told i
  · rw [hg]; split
    · simp; omega
    · exact h.void i
theorem less_cnt {c : List Cell} {p : Int} {R : List Int} (h : Cnt c (p :: R)) (hu : used c p = true) (h1 : 1 < (nth c p.toNat).ref) : Cnt (lessRef c p) R := by
  have hu := used_iff.1 hu
  have hp : p.toNat < c.length := by omega
  have hg : ∀ i, nth (lessRef c p) i = if i = p.toNat then ⟨(nth c p.toNat).ref - 1, false, (nth c p.toNat).n⟩ else nth c i := fun i => nth_set _ _ _ _ hp
  have hlen : (lessRef c p).length = c.length := by simp [lessRef]
  intro q hq
  rw [hlen] at hq
  have hq' := h q hq
  unfold refOf at hq' ⊢
  rw [hlen, sumTo_congr (g := fun i => tellsOf (nth (lessRef c p) i) q) (g' := fun i => tellsOf (nth c i) q) fun i hi => ?_]
  · rw [rc_cons] at hq'
    rw [hg q]
    by_cases e : q = p.toNat
    · subst e
      rw [if_pos (by omega)] at hq'
      rw [if_pos rfl]
      simp only
      omega
    · rw [if_neg (by omega)] at hq'
      rw [if_neg e]
      omega
  · rw [hg i]
    split
    · rename_i e; subst e; exact tellsOf_ref hu.2.2 (by omega) _
    · rfl

theorem drop_ok {c : List Cell} {p : Int} (h : HeapOK c) (hu : used c p = true) : HeapOK (dropCell c p) := by
  have hu := used_iff.1 hu
  have hp : p.toNat < c.length := by omega
  have hg : ∀ i, nth (dropCell c p) i = if i = p.toNat then ⟨0, true, ⟨false, []⟩⟩ else nth c i := fun i => nth_set _ _ _ _ hp
  refine ⟨fun i => ?_, fun i => ?_, fun i => ?_, fun i => ?_, fun i => ?_⟩
  · rw [hg]; split
    · simp
    · exact h.nn i
  · rw [hg]; split
    · simp
    · exact h.pin i
  · rw [hg]; split
    · simp
    · exact h.node i
  · rw [hg]
    rw [show (dropCell c p).length = c.length by simp [dropCell]]
    split
    · simp
    · exact h.told i
  · rw [hg]; split
    · simp
    · exact h.void i
theorem drop_cnt {c : List Cell} {p : Int} {R : List Int} (h : Cnt c (p :: R)) (hu : used c p = true) (h1 : ¬ 1 < (nth c p.toNat).ref) : Cnt (dropCell c p) ((toldBy (nth c p.toNat).n).map (·.v) ++ R) := by
  have hu := used_iff.1 hu
  have hp : p.toNat < c.length := by omega
  have hpe : ((p.toNat : Nat) : Int) = p := by omega
  have hg : ∀ i, nth (dropCell c p) i = if i = p.toNat then ⟨0, true, ⟨false, []⟩⟩ else nth c i := fun i => nth_set _ _ _ _ hp
  have hlen : (dropCell c p).length = c.length := by simp [dropCell]
  have htb : ∀ q : Int, tellsOf (nth c p.toNat) q = vc (toldBy (nth c p.toNat).n) q := by
    intro q
    unfold tellsOf toldBy
    cases hl : (nth c p.toNat).n.leaf with
    | true => simp [vc]
    | false => simp [hu.2.2]
  have ht0 : ∀ q : Int, tellsOf (nth (dropCell c p) p.toNat) q = 0 := fun q => by rw [hg, if_pos rfl]; simp [tellsOf]
  intro q hq
  rw [hlen] at hq
  have hturn := sumTo_turn (g := fun i => tellsOf (nth c i) q) (g' := fun i => tellsOf (nth (dropCell c p) i) q) hp fun i _ hne => by rw [hg i, if_neg hne]
  simp only [ht0] at hturn
  rw [htb] at hturn
  have hq' := h q hq
  unfold refOf at hq' ⊢
  rw [hlen, rc_append, rc_map]
  rw [rc_cons] at hq'
  rw [hg q]
  by_cases e : q = p.toNat
  · subst e
    rw [if_pos (by omega)] at hq'
    rw [if_pos rfl]
    simp only
    omega
  · rw [if_neg (by omega)] at hq'
    rw [if_neg e]
    omega

/-- What comes of a heap when roots are given up. -/
structure Loosed (c c' : List Cell) (R : List Int) : Prop where
  ok : HeapOK c'
  cnt : Cnt c' R
  len : c'.length = c.length
  used : ∀ q, used c' q = true → used c q = true ∧ nodeOf c' q = nodeOf c q
  free : ∀ i, isFree (nth c' i) = isFree (nth c i)

theorem loosed_fold {f : Nat} (ih : ∀ (c : List Cell) (p : Int) (R : List Int), HeapOK c → Cnt c (p :: R) → usedCount c < f → 0 ≤ p → p < c.length → Loosed c (loose f c p) R) :
    ∀ (l : List Item) (c : List Cell) (R : List Int), HeapOK c → Cnt c (l.map (·.v) ++ R) → usedCount c < f → (∀ x ∈ l, 0 ≤ x.v ∧ x.v < c.length) → Loosed c (l.foldl (fun c x => loose f c x.v) c) R
  | [], c, R, h, hc, _, _ => ⟨h, hc, rfl, fun q hq => ⟨hq, rfl⟩, fun _ => rfl⟩
  | x :: l, c, R, h, hc, hu, hp => by
    have hx := hp x List.mem_cons_self
    have h1 := ih c x.v (l.map (·.v) ++ R) h hc hu hx.1 hx.2
    have h2 := loosed_fold ih l (loose f c x.v) R h1.ok h1.cnt (Nat.lt_of_le_of_lt (loose_usedCount _ _ _) hu) fun y hy => by rw [loose_length]; exact hp y (List.mem_cons_of_mem _ hy)
    refine ⟨h2.ok, h2.cnt, by rw [List.foldl_cons, h2.len, h1.len], fun q hq => ?_, fun i => ?_⟩
    · obtain ⟨a1, a2⟩ := h2.used q hq
      obtain ⟨b1, b2⟩ := h1.used q a1
      exact ⟨b1, a2.trans b2⟩
    · exact (h2.free i).trans (h1.free i)

theorem loosed : ∀ (f : Nat) (c : List Cell) (p : Int) (R : List Int), HeapOK c → Cnt c (p :: R) → usedCount c < f → 0 ≤ p → p < c.length → Loosed c (loose f c p) R := by
  intro f
  induction f with
  | zero => exact fun c p R _ _ h => absurd h (Nat.not_lt_zero _)
  | succ f ih =>
    intro c p R h hc hf h0 h1
    have hu : used c p = true := hc.root List.mem_cons_self h0 h1
    have hu' := used_iff.1 hu
    have hp : p.toNat < c.length := by omega
    rw [loose, if_pos hu]
    by_cases hone : 1 < (nth c p.toNat).ref
    · rw [if_pos hone]
      have hg : ∀ i, nth (lessRef c p) i = if i = p.toNat then ⟨(nth c p.toNat).ref - 1, false, (nth c p.toNat).n⟩ else nth c i := fun i => nth_set _ _ _ _ hp
      refine ⟨less_ok h hu hone, less_cnt hc hu hone, by simp [lessRef], fun q hq => ?_, fun i => ?_⟩
      · have hq := used_iff.1 hq
        rw [show (lessRef c p).length = c.length by simp [lessRef], hg] at hq
        refine ⟨used_iff.2 ⟨hq.1, hq.2.1, ?_⟩, ?_⟩
        · obtain ⟨_, _, h3⟩ := hq
          split at h3
          · rename_i e; rw [e]; omega
          · exact h3
        · unfold nodeOf
          rw [hg]
          split
          · rename_i e; rw [e]
          · rfl
      · rw [hg]
        split
        · rename_i e; subst e
          unfold isFree
          have e1 : ((nth c p.toNat).ref - 1 == 0) = false := by rw [beq_eq_false_iff_ne]; omega
          have e2 : ((nth c p.toNat).ref == 0) = false := by rw [beq_eq_false_iff_ne]; omega
          simp only [e1, e2, Bool.false_and]
        · rfl
    · rw [if_neg hone]
      have hud := usedCount_drop hu
      have hg : ∀ i, nth (dropCell c p) i = if i = p.toNat then ⟨0, true, ⟨false, []⟩⟩ else nth c i := fun i => nth_set _ _ _ _ hp
      have hlen : (dropCell c p).length = c.length := by simp [dropCell]
      have h2 := loosed_fold ih (toldBy (nth c p.toNat).n) (dropCell c p) R (drop_ok h hu) (drop_cnt hc hu hone) (by omega) fun x hx => by
        rw [hlen]
        unfold toldBy at hx
        split at hx
        · cases hx
        · rename_i hlf
          exact h.told p.toNat hp hu'.2.2 (by simpa using hlf) x hx
      refine ⟨h2.ok, h2.cnt, by rw [h2.len, hlen], fun q hq => ?_, fun i => ?_⟩
      · obtain ⟨a1, a2⟩ := h2.used q hq
        have a3 := used_iff.1 a1
        rw [hlen, hg] at a3
        have hne : ¬ q.toNat = p.toNat := by
          intro e
          rw [if_pos e] at a3
          have := a3.2.2
          simp at this
        rw [if_neg hne] at a3
        refine ⟨used_iff.2 a3, ?_⟩
        rw [a2]
        unfold nodeOf
        rw [hg, if_neg hne]
      · rw [h2.free i, hg]
        split
        · rename_i e; subst e
          unfold isFree
          have e2 : ((nth c p.toNat).ref == 0) = false := by rw [beq_eq_false_iff_ne]; omega
          simp [e2]
        · rfl
end Go.Proofs.Abs
