/- Plain facts: rows laid; a path made anew with an item. -/
import Derived.Test.YtonbocppkanogaaZF3
set_option linter.all false
namespace Go.Proofs.Abs

/-- No cell that was used has gone, or is another one. -/
structure Grown (c c' : List Cell) : Prop where
  len : c'.length = c.length
  old : ∀ q, used c q = true → used c' q = true ∧ nodeOf c' q = nodeOf c q
theorem Grown.refl (c : List Cell) : Grown c c := ⟨rfl, fun _ h => ⟨h, rfl⟩⟩
theorem Grown.trans {a b c : List Cell} (h : Grown a b) (k : Grown b c) : Grown a c :=
  ⟨k.len.trans h.len, fun q hq => ⟨(k.old q (h.old q hq).1).1, (k.old q (h.old q hq).1).2.trans (h.old q hq).2⟩⟩
theorem Laid.grown {c c' : List Cell} {p : Nat} {leaf : Bool} {it : List Item} {R : List Int} (h : Laid c c' p leaf it R) : Grown c c' := ⟨h.len, h.old⟩
theorem Grown.keep {c c' : List Cell} {R : List Int} (h : HeapOK c) (hc : Cnt c R) (hg : Grown c c') {n : Nat} {p : Int} (ht : RT c n p) : RT c' n p ∧ listOf c' n p = listOf c n p :=
  RT.keep (fun q hq _ => (hg.old q hq).2) (fun q hq _ hl x hx => (hg.old _ (hc.told h hq hl hx)).1) ht (hg.old _ ht.used).1

theorem RT.leaf {c : List Cell} {p : Int} {it : List Item} (hu : Abs.used c p = true) (hn : nodeOf c p = ⟨true, it⟩) (hr : rightNode it = true) : RT c 1 p ∧ listOf c 1 p = it := by
  have hl : (nodeOf c p).leaf = true := by rw [hn]
  exact ⟨⟨hu, by rw [hn]; exact hr, .inl ⟨hl, rfl⟩⟩, by rw [listOf_leaf hl, hn]⟩
theorem RT.inner {c : List Cell} {h : Nat} {p : Int} {it : List Item} (hu : Abs.used c p = true) (hn : nodeOf c p = ⟨false, it⟩) (hr : rightNode it = true) (hk : ∀ x ∈ it, RT c h x.v ∧ hd (listOf c h x.v) = x.k) (hs : Srt (it.flatMap fun x => listOf c h x.v)) :
    RT c (h + 1) p ∧ listOf c (h + 1) p = it.flatMap fun x => listOf c h x.v := by
  have hl : (nodeOf c p).leaf = false := by rw [hn]
  exact ⟨⟨hu, by rw [hn]; exact hr, .inr ⟨hl, by rw [hn]; exact hk, by rw [hn]; exact hs⟩⟩, by rw [listOf_inner hl, hn]⟩

theorem leads_of {c : List Cell} {leaf : Bool} {it : List Item} (h : leaf = false → ∀ x ∈ it, used c x.v = true) : leads c leaf it = true := by
  unfold leads
  cases leaf with
  | true => rfl
  | false => rw [Bool.false_or]; exact allTo_iff.2 fun i hi => h rfl _ (mem_nth hi)

theorem inB_iff {l : List Int} {q : Int} : inB l q = true ↔ q ∈ l := by
  unfold inB
  rw [Bool.not_eq_true', Bool.eq_false_iff]
  constructor
  · intro h
    exact Decidable.byContradiction fun hn => h (allTo_iff.2 fun i hi => by
      rw [bne_iff_ne]
      intro e
      exact hn (e ▸ mem_nth hi))
  · rintro h hall
    obtain ⟨i, hi, e⟩ := nth_of_mem h
    have := allTo_iff.1 hall i hi
    rw [bne_iff_ne] at this
    exact this e
/-- What is told, and held already. -/
def heldIn (leaf : Bool) (held : List Int) (it : List Item) : List Int := if leaf = true then [] else (it.map (·.v)).filter fun v => inB held v
theorem rc_heldIn (leaf : Bool) (held : List Int) (it : List Item) (q : Int) : rc (heldIn leaf held it) q = if leaf = true then 0 else if inB held q then vc it q else 0 := by
  unfold heldIn
  split
  · simp [rc]
  · rw [← rc_map]
    unfold rc
    rw [List.countP_filter]
    split
    · rename_i hb
      refine List.countP_congr fun x _ => ?_
      simp only [Bool.and_eq_true, beq_iff_eq]
      constructor
      · exact fun h => h.1
      · intro e; rw [e]; exact ⟨rfl, hb⟩
    · rename_i hb
      rw [List.countP_eq_zero]
      rintro x _ hx
      simp only [Bool.and_eq_true, beq_iff_eq] at hx
      rw [← hx.1] at hb
      exact hb hx.2
theorem heldIn_append (leaf : Bool) (held : List Int) (a b : List Item) : heldIn leaf held (a ++ b) = heldIn leaf held a ++ heldIn leaf held b := by
  unfold heldIn
  split
  · rfl
  · simp

/-- Rows laid: the first k of them. -/
structure RowsLaid (c : List Cell) (leaf : Bool) (rows : List (List Item)) (held R : List Int) (k : Nat) (r : List Cell × List Item) : Prop where
  ok : HeapOK r.1
  cnt : Cnt r.1 (r.2.map (·.v) ++ (heldIn leaf held (rows.drop k).flatten ++ R))
  grown : Grown c r.1
  free : free r.1 + k = free c
  len : r.2.length = k
  key : ∀ j, j < k → (nth r.2 j).k = (nth (nth rows j) 0).k
  node : ∀ j, j < k → used r.1 (nth r.2 j).v = true ∧ nodeOf r.1 (nth r.2 j).v = ⟨leaf, nth rows j⟩
  new : ∀ j, j < k → used c (nth r.2 j).v = false
  back : ∀ q, used r.1 q = true → used c q = true ∨ ∃ j, j < k ∧ q = (nth r.2 j).v

theorem rows_laid {c : List Cell} {leaf : Bool} {rows : List (List Item)} {held R : List Int} (h : HeapOK c) (hc : Cnt c (heldIn leaf held rows.flatten ++ R)) (hr : ∀ j, j < rows.length → rightNode (nth rows j) = true)
    (hu : leaf = false → ∀ x ∈ rows.flatten, used c x.v = true) (hf : rows.length ≤ free c) : ∀ k, k ≤ rows.length → RowsLaid c leaf rows held R k (layTo c leaf rows held k) := by
  intro k
  induction k with
  | zero =>
    intro _
    exact ⟨h, by simpa [layTo] using hc, Grown.refl c, rfl, rfl, fun j hj => by omega, fun j hj => by omega, fun j hj => by omega, fun q hq => .inl hq⟩
  | succ k ih =>
    intro hk
    have hlt : k < rows.length := by omega
    have s := ih (by omega)
    generalize hd : layTo c leaf rows held k = d at s
    have hun : layTo c leaf rows held (k + 1) = ((alloc d.1 leaf (nth rows k) held).1, d.2 ++ [⟨(nth (nth rows k) 0).k, (alloc d.1 leaf (nth rows k) held).2.1⟩]) := by
      rw [layTo, hd]
    rw [hun]
    have hdrop : (rows.drop k).flatten = nth rows k ++ (rows.drop (k + 1)).flatten := by rw [drop_cons hlt]; rfl
    have hcnt := s.cnt
    rw [hdrop, heldIn_append] at hcnt
    have hul : leaf = false → ∀ x ∈ nth rows k, used d.1 x.v = true := fun hl x hx => (s.grown.old _ (hu hl x (List.mem_flatten.2 ⟨_, mem_nth hlt, hx⟩))).1
    obtain ⟨_, hL⟩ := alloc_laid (A := heldIn leaf held (nth rows k)) (R := d.2.map (·.v) ++ (heldIn leaf held (rows.drop (k + 1)).flatten ++ R)) s.ok (hcnt.roots fun q => by simp only [rc_append]; omega) (rc_heldIn leaf held (nth rows k)) (hr k hlt) (leads_of hul) (by have := s.free; omega)
    generalize alloc d.1 leaf (nth rows k) held = a at hL
    have hnth : ∀ j, nth (d.2 ++ [⟨(nth (nth rows k) 0).k, (a.2.1 : Int)⟩]) j = if j < k then nth d.2 j else nth [⟨(nth (nth rows k) 0).k, (a.2.1 : Int)⟩] (j - k) := fun j => by rw [nth_append, s.len]
    have hlast : nth (d.2 ++ [⟨(nth (nth rows k) 0).k, (a.2.1 : Int)⟩]) k = ⟨(nth (nth rows k) 0).k, (a.2.1 : Int)⟩ := by rw [hnth, if_neg (by omega), Nat.sub_self]; rfl
    refine ⟨hL.ok, ?_, s.grown.trans hL.grown, ?_, by simp [s.len], fun j hj => ?_, fun j hj => ?_, fun j hj => ?_, fun q hq => ?_⟩
    · refine hL.cnt.roots fun q => ?_
      simp only [List.map_append, List.map_cons, List.map_nil, rc_append, rc_cons]
      simp [rc]
      omega
    · have := s.free; have := hL.free; simp only; omega
    · simp only
      by_cases e : j = k
      · subst e; rw [hlast]
      · rw [hnth, if_pos (by omega)]; exact s.key j (by omega)
    · simp only
      by_cases e : j = k
      · subst e; rw [hlast]; exact ⟨hL.is, hL.node⟩
      · rw [hnth, if_pos (by omega)]
        have h1 := s.node j (by omega)
        have h2 := hL.old _ h1.1
        exact ⟨h2.1, h2.2.trans h1.2⟩
    · simp only
      by_cases e : j = k
      · subst e; rw [hlast]
        cases hb : used c (a.2.1 : Int) with
        | false => rfl
        | true => have := (s.grown.old _ hb).1; rw [hL.new] at this; cases this
      · rw [hnth, if_pos (by omega)]; exact s.new j (by omega)
    · rcases hL.back q hq with e | h1
      · exact .inr ⟨k, by omega, by simp only; rw [hlast]; exact e⟩
      · rcases s.back q h1 with h2 | ⟨j, hj, e⟩
        · exact .inl h2
        · exact .inr ⟨j, by omega, by simp only; rw [hnth, if_pos hj]; exact e⟩

theorem rowsOf_flatten (l : List Item) : (rowsOf l).flatten = l := by
  induction l using rowsOf.induct with
  | case1 a b c d e r ih => rw [rowsOf, List.flatten_cons, ih]; rfl
  | case2 => rfl
  | case3 l h1 h2 =>
    match l, h1, h2 with
    | [a], _, _ => rfl
    | [a, b], _, _ => rfl
    | [a, b, c], _, _ => rfl
    | [a, b, c, d], _, _ => rfl
    | a :: b :: c :: d :: e :: r, h1, _ => exact absurd rfl (h1 a b c d e r)

theorem srt_row {rows : List (List Item)} (h : Srt rows.flatten) {row : List Item} (hr : row ∈ rows) : Srt row := List.Pairwise.sublist (List.sublist_flatten_of_mem hr) h
theorem srt_rowF {f : Item → List Item} {rows : List (List Item)} (h : Srt (rows.flatten.flatMap f)) {row : List Item} (hr : row ∈ rows) : Srt (row.flatMap f) := by
  obtain ⟨A, B, rfl⟩ := List.append_of_mem hr
  rw [List.flatten_append, List.flatten_cons, List.flatMap_append, List.flatMap_append] at h
  exact (srt_append.1 (srt_append.1 h).2.1).1
theorem flat_rows {α β : Type} [Inhabited α] [Inhabited β] {f : α → List β} {a : List α} {rows : List (List β)} (hl : a.length = rows.length) (h : ∀ j, j < a.length → f (nth a j) = nth rows j) : a.flatMap f = rows.flatten := by
  rw [List.flatMap_def]
  congr 1
  refine List.ext_getElem (by simpa using hl) fun i h1 h2 => ?_
  simp only [List.length_map] at h1
  have := h i h1
  rw [nth_eq h1, nth_eq h2] at this
  simpa using this
theorem srt_heads {f : Item → List Item} : ∀ {l : List Item}, (∀ x ∈ l, f x ≠ [] ∧ hd (f x) = x.k) → Srt (l.flatMap f) → Srt l
  | [], _, _ => List.Pairwise.nil
  | x :: l, h, hs => by
    rw [List.flatMap_cons] at hs
    obtain ⟨_, h2, h3⟩ := srt_append.1 hs
    have first : ∀ y ∈ x :: l, ∃ z ∈ f y, z.k = y.k := by
      intro y hy
      obtain ⟨e1, e2⟩ := h y hy
      cases hf : f y with
      | nil => exact absurd hf e1
      | cons z r => rw [hf] at e2; exact ⟨z, List.mem_cons_self, e2⟩
    refine List.Pairwise.cons (fun y hy => ?_) (srt_heads (fun y hy => h y (List.mem_cons_of_mem _ hy)) h2)
    obtain ⟨a, ha, e1⟩ := first x List.mem_cons_self
    obtain ⟨b, hb, e2⟩ := first y (List.mem_cons_of_mem _ hy)
    rw [← e1, ← e2]
    exact h3 a ha b (List.mem_flatMap.2 ⟨y, hy, hb⟩)

/-- What a path comes to that is made anew. -/
structure Anew (c : List Cell) (R : List Int) (h : Nat) (most least : Nat) (m : List Cell × List Item) (l : List Item) : Prop where
  ok : HeapOK m.1
  cnt : Cnt m.1 (m.2.map (·.v) ++ R)
  grown : Grown c m.1
  len : m.2.length ≤ most
  tree : ∀ y ∈ m.2, RT m.1 h y.v ∧ hd (listOf m.1 h y.v) = y.k
  list : (m.2.flatMap fun y => listOf m.1 h y.v) = l
  new : ∀ y ∈ m.2, used c y.v = false
  low : free m.1 + most * h ≥ free c
  high : free m.1 + least ≤ free c
  back : ∀ q, used m.1 q = true → used c q = true ∨ ∃ n, n ≤ h ∧ RT m.1 n q

theorem itemOK_iff {x : Item} : itemOK x = true ↔ 0 ≤ x.k ∧ x.k ≤ 2147483647 ∧ 0 ≤ x.v ∧ x.v ≤ 2147483647 := by simp [itemOK]
theorem hd_mem {l : List Item} (h : l ≠ []) : ∃ z ∈ l, hd l = z.k := by
  cases l with
  | nil => exact absurd rfl h
  | cons z r => exact ⟨z, List.mem_cons_self, rfl⟩
theorem hd_le {l : List Item} (h : Srt l) : ∀ z ∈ l, hd l ≤ z.k := by
  intro z hz
  cases l with
  | nil => cases hz
  | cons a r =>
    rcases List.mem_cons.1 hz with rfl | hz
    · exact Int.le_refl _
    · have := (List.pairwise_cons.1 h).1 z hz; exact Int.le_of_lt this

/-- Rows of a leaf's items, laid. -/
theorem leaf_rows {c : List Cell} {R : List Int} {rows : List (List Item)} {l : List Item} (h : HeapOK c) (hc : Cnt c R) (hr : ∀ j, j < rows.length → rightNode (nth rows j) = true) (hfl : rows.flatten = l) (hf : rows.length ≤ free c) {most least : Nat} (hm : rows.length ≤ most) (hle : least ≤ rows.length) :
    Anew c R 1 most least (lay c true rows []) l := by
  have s := rows_laid (leaf := true) (held := []) (R := R) h (by simpa [heldIn] using hc) hr (fun e => by cases e) hf rows.length (Nat.le_refl _)
  have e : lay c true rows [] = layTo c true rows [] rows.length := rfl
  rw [e]
  have hrl := s.len
  have htr : ∀ j, j < rows.length → RT (layTo c true rows [] rows.length).1 1 (nth (layTo c true rows [] rows.length).2 j).v ∧ listOf (layTo c true rows [] rows.length).1 1 (nth (layTo c true rows [] rows.length).2 j).v = nth rows j := by
    intro j hj
    have h1 := s.node j hj
    exact RT.leaf h1.1 h1.2 (hr j hj)
  refine ⟨s.ok, ?_, s.grown, by omega, fun y hy => ?_, ?_, fun y hy => ?_, ?_, ?_, fun q hq => ?_⟩
  · have := s.cnt
    simpa [heldIn] using this
  · obtain ⟨j, hj, rfl⟩ := nth_of_mem hy
    rw [hrl] at hj
    obtain ⟨h1, h2⟩ := htr j hj
    refine ⟨h1, ?_⟩
    rw [h2, s.key j hj]
    have := rightNode_len (hr j hj)
    cases hrow : nth rows j with
    | nil => rw [hrow] at this; simp at this
    | cons a r => rfl
  · rw [← hfl]
    exact flat_rows hrl fun j hj => (htr j (by omega)).2
  · obtain ⟨j, hj, rfl⟩ := nth_of_mem hy
    exact s.new j (by omega)
  · have := s.free; omega
  · have := s.free; omega
  · rcases s.back q hq with h1 | ⟨j, hj, rfl⟩
    · exact .inl h1
    · exact .inr ⟨1, Nat.le_refl _, (htr j hj).1⟩

/-- A child's place taken by what it comes to: the row's parts, and their items. -/
structure Turned (c : List Cell) (R : List Int) (h : Nat) (m : List Cell × List Item) (it : List Item) (i : Nat) (l : List Item) : Prop where
  kids : ∀ x ∈ withOf it i 1 m.2, RT m.1 h x.v ∧ hd (listOf m.1 h x.v) = x.k
  flat : ((withOf it i 1 m.2).flatMap fun x => listOf m.1 h x.v) = ((it.take i).flatMap fun x => listOf c h x.v) ++ l ++ ((it.drop (i + 1)).flatMap fun x => listOf c h x.v)
  cnt : Cnt m.1 (heldIn false (m.2.map (·.v)) (withOf it i 1 m.2) ++ R)
  used : ∀ x ∈ withOf it i 1 m.2, used m.1 x.v = true

theorem turned {c : List Cell} {R : List Int} {h most least : Nat} {m : List Cell × List Item} {it : List Item} {i : Nat} {l : List Item} (hok : HeapOK c) (hc : Cnt c R) (hk : ∀ x ∈ it, RT c h x.v ∧ hd (listOf c h x.v) = x.k) (ha : Anew c R h most least m l) : Turned c R h m it i l := by
  have hold : ∀ x ∈ it, RT m.1 h x.v ∧ listOf m.1 h x.v = listOf c h x.v := fun x hx => ha.grown.keep hok hc (hk x hx).1
  have hmem : ∀ x ∈ withOf it i 1 m.2, x ∈ it ∨ x ∈ m.2 := by
    intro x hx
    unfold withOf at hx
    simp only [List.mem_append] at hx
    rcases hx with (h1 | h1) | h1
    · exact .inl (List.mem_of_mem_take h1)
    · exact .inr h1
    · exact .inl (List.mem_of_mem_drop h1)
  have hkids : ∀ x ∈ withOf it i 1 m.2, RT m.1 h x.v ∧ hd (listOf m.1 h x.v) = x.k := by
    intro x hx
    rcases hmem x hx with h1 | h1
    · exact ⟨(hold x h1).1, by rw [(hold x h1).2]; exact (hk x h1).2⟩
    · exact ha.tree x h1
  refine ⟨hkids, ?_, ?_, fun x hx => (hkids x hx).1.used⟩
  · unfold withOf
    rw [List.flatMap_append, List.flatMap_append, ha.list]
    rw [flatMap_same (l := it.take i) fun x hx => (hold x (List.mem_of_mem_take hx)).2, flatMap_same (l := it.drop (i + 1)) fun x hx => (hold x (List.mem_of_mem_drop hx)).2]
  · refine ha.cnt.roots fun q => ?_
    rw [rc_append, rc_append, rc_heldIn, if_neg (by decide), rc_map]
    congr 1
    split
    · rename_i hb
      rw [inB_iff, List.mem_map] at hb
      obtain ⟨y, hy, rfl⟩ := hb
      have hn := ha.new y hy
      have hz : ∀ l' : List Item, (∀ x ∈ l', x ∈ it) → vc l' y.v = 0 := by
        intro l' hl'
        refine Nat.eq_zero_of_not_pos fun hp => ?_
        obtain ⟨x, hx, e⟩ := vc_mem hp
        have := (hk x (hl' x hx)).1.used
        rw [e, hn] at this
        cases this
      have h1 := hz (it.take i) fun x hx => List.mem_of_mem_take hx
      have h2 := hz (it.drop (i + 1)) fun x hx => List.mem_of_mem_drop hx
      unfold withOf
      unfold vc at h1 h2 ⊢
      rw [List.countP_append, List.countP_append]
      omega
    · rename_i hb
      refine Nat.eq_zero_of_not_pos fun hp => ?_
      obtain ⟨y, hy, e⟩ := vc_mem hp
      exact hb (inB_iff.2 (List.mem_map.2 ⟨y, hy, e⟩))

theorem flat_flat {α β : Type} (f : α → List β) : ∀ rows : List (List α), rows.flatten.flatMap f = (rows.map fun row => row.flatMap f).flatten
  | [] => rfl
  | a :: rs => by rw [List.flatten_cons, List.flatMap_append, flat_flat f rs]; rfl

/-- Rows of an inner node's items, laid. -/
theorem inner_rows {c : List Cell} {R : List Int} {h most least least' : Nat} {m : List Cell × List Item} {it : List Item} {i : Nat} {l L : List Item} {rows : List (List Item)} (hok : HeapOK c) (hc : Cnt c R) (hk : ∀ x ∈ it, RT c h x.v ∧ hd (listOf c h x.v) = x.k) (ha : Anew c R h most least m l)
    (hrows : rows.flatten = withOf it i 1 m.2) (hlen : ∀ j, j < rows.length → 1 ≤ (nth rows j).length ∧ (nth rows j).length ≤ 4) (hcl : c.length ≤ 2000)
    (hL : ((it.take i).flatMap fun x => listOf c h x.v) ++ l ++ ((it.drop (i + 1)).flatMap fun x => listOf c h x.v) = L) (hs : Srt L) (hrm : rows.length ≤ most) (hf : rows.length ≤ free m.1) (hle : least' ≤ least + rows.length) :
    Anew c R (h + 1) most least' (lay m.1 false rows (m.2.map (·.v))) L := by
  have ht := turned (i := i) hok hc hk ha
  have hflat := ht.flat
  rw [hL] at hflat
  have hkr : ∀ j, j < rows.length → ∀ x ∈ nth rows j, x ∈ withOf it i 1 m.2 := fun j hj x hx => by rw [← hrows]; exact List.mem_flatten.2 ⟨_, mem_nth hj, hx⟩
  have hsl : Srt (withOf it i 1 m.2) := srt_heads (f := fun x => listOf m.1 h x.v) (fun x hx => ⟨(ht.kids x hx).1.ne, (ht.kids x hx).2⟩) (by rw [hflat]; exact hs)
  have hio : ∀ x ∈ withOf it i 1 m.2, itemOK x = true := by
    intro x hx
    obtain ⟨h1, h2⟩ := ht.kids x hx
    obtain ⟨z, hz, e⟩ := hd_mem h1.ne
    have hz := itemOK_iff.1 (h1.itemOK z hz)
    have hu := used_iff.1 h1.used
    have hlm := ha.grown.len
    rw [itemOK_iff]
    omega
  have hr : ∀ j, j < rows.length → rightNode (nth rows j) = true := fun j hj =>
    right_of (hlen j hj).1 (hlen j hj).2 (srt_row (rows := rows) (by rw [hrows]; exact hsl) (mem_nth hj)) fun x hx => hio x (hkr j hj x hx)
  have s := rows_laid (leaf := false) (held := m.2.map (·.v)) (R := R) ha.ok (by rw [hrows]; exact ht.cnt) hr (fun _ x hx => ht.used x (by rw [← hrows]; exact hx)) hf rows.length (Nat.le_refl _)
  have e : lay m.1 false rows (m.2.map (·.v)) = layTo m.1 false rows (m.2.map (·.v)) rows.length := rfl
  rw [e]
  generalize layTo m.1 false rows (m.2.map (·.v)) rows.length = r at s
  have hrl := s.len
  have hkeep : ∀ {n : Nat} {p : Int}, RT m.1 n p → RT r.1 n p ∧ listOf r.1 n p = listOf m.1 n p := fun t => s.grown.keep ha.ok ha.cnt t
  have htr : ∀ j, j < rows.length → RT r.1 (h + 1) (nth r.2 j).v ∧ listOf r.1 (h + 1) (nth r.2 j).v = (nth rows j).flatMap fun x => listOf m.1 h x.v := by
    intro j hj
    have h1 := s.node j hj
    have h2 : ((nth rows j).flatMap fun x => listOf r.1 h x.v) = (nth rows j).flatMap fun x => listOf m.1 h x.v := flatMap_same fun x hx => (hkeep (ht.kids x (hkr j hj x hx)).1).2
    have h3 := RT.inner h1.1 h1.2 (hr j hj) (fun x hx => ⟨(hkeep (ht.kids x (hkr j hj x hx)).1).1, by rw [(hkeep (ht.kids x (hkr j hj x hx)).1).2]; exact (ht.kids x (hkr j hj x hx)).2⟩)
      (by rw [h2]; exact srt_rowF (f := fun x => listOf m.1 h x.v) (rows := rows) (by rw [hrows, hflat]; exact hs) (mem_nth hj))
    exact ⟨h3.1, h3.2.trans h2⟩
  refine ⟨s.ok, ?_, ha.grown.trans s.grown, by omega, fun y hy => ?_, ?_, fun y hy => ?_, ?_, ?_, fun q hq => ?_⟩
  · have := s.cnt
    rw [List.drop_eq_nil_of_le (Nat.le_refl _)] at this
    simpa [heldIn] using this
  · obtain ⟨j, hj, rfl⟩ := nth_of_mem hy
    rw [hrl] at hj
    obtain ⟨h1, h2⟩ := htr j hj
    refine ⟨h1, ?_⟩
    rw [h2, s.key j hj]
    have hl1 := (hlen j hj).1
    have h0 := ht.kids _ (hkr j hj _ (mem_nth (show 0 < (nth rows j).length by omega)))
    rw [← h0.2]
    cases hrow : nth rows j with
    | nil => rw [hrow] at hl1; simp at hl1
    | cons a r' =>
      rw [List.flatMap_cons]
      show hd (listOf m.1 h a.v ++ _) = hd (listOf m.1 h (nth (a :: r') 0).v)
      rw [hrow] at h0
      have hna := h0.1.ne
      rw [show nth (a :: r') 0 = a from rfl] at hna ⊢
      cases hla : listOf m.1 h a.v with
      | nil => exact absurd hla hna
      | cons b r'' => rfl
  · rw [← hflat, ← hrows]
    have h1 : (r.2.flatMap fun y => listOf r.1 (h + 1) y.v) = (rows.map fun row => row.flatMap fun x => listOf m.1 h x.v).flatten := by
      refine flat_rows (by simpa using hrl) fun j hj => ?_
      rw [nth_map _ (by omega)]
      exact (htr j (by omega)).2
    rw [h1, flat_flat]
  · obtain ⟨j, hj, rfl⟩ := nth_of_mem hy
    have := s.new j (by omega)
    cases hb : used c (nth r.2 j).v with
    | false => rfl
    | true => rw [(ha.grown.old _ hb).1] at this; cases this
  · have h1 := s.free
    have h2 := ha.low
    rw [Nat.mul_add]
    omega
  · have h1 := s.free
    have h2 := ha.high
    omega
  · rcases s.back q hq with h1 | ⟨j, hj, rfl⟩
    · rcases ha.back q h1 with h2 | ⟨n, hn, h2⟩
      · exact .inl h2
      · exact .inr ⟨n, by omega, (hkeep h2).1⟩
    · exact .inr ⟨h + 1, Nat.le_refl _, (htr j hj).1⟩
end Go.Proofs.Abs
