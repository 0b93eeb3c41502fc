/- Plain facts: an item put into a tree, or taken out, by a path made anew. -/
import Derived.Test.YtonbocppkanogaaZF4
set_option linter.all false
namespace Go.Proofs.Abs

/-- An inner node's items, parted at one. -/
theorem parted {c : List Cell} {h : Nat} {it : List Item} (hk : ∀ x ∈ it, RT c h x.v ∧ hd (listOf c h x.v) = x.k) (hs : Srt (it.flatMap fun x => listOf c h x.v)) {i : Nat} (hi : i < it.length) :
    (it.flatMap fun x => listOf c h x.v) = ((it.take i).flatMap fun x => listOf c h x.v) ++ listOf c h (nth it i).v ++ ((it.drop (i + 1)).flatMap fun x => listOf c h x.v) ∧
    (∀ y ∈ (it.take i).flatMap fun x => listOf c h x.v, y.k < (nth it i).k) ∧
    ∀ key, (∀ j, i < j → j < it.length → key < (nth it j).k) → ∀ y ∈ (it.drop (i + 1)).flatMap fun x => listOf c h x.v, key < y.k := by
  have e : (it.flatMap fun x => listOf c h x.v) = ((it.take i).flatMap fun x => listOf c h x.v) ++ listOf c h (nth it i).v ++ ((it.drop (i + 1)).flatMap fun x => listOf c h x.v) := by
    conv => lhs; rw [part hi]
    rw [List.flatMap_append, List.flatMap_cons, List.append_assoc]
  refine ⟨e, fun y hy => ?_, fun key hkey y hy => ?_⟩
  · rw [e, List.append_assoc] at hs
    have h1 := hk _ (mem_nth hi)
    obtain ⟨z, hz, e1⟩ := hd_mem h1.1.ne
    rw [← h1.2, e1]
    exact (srt_append.1 hs).2.2 y hy z (List.mem_append_left _ hz)
  · rw [List.mem_flatMap] at hy
    obtain ⟨x, hx, hy⟩ := hy
    obtain ⟨j, hj, rfl⟩ := nth_of_mem hx
    simp only [List.length_drop] at hj
    rw [nth_drop] at hy
    have h1 := hkey (i + 1 + j) (by omega) (by omega)
    have h2 := hk _ (mem_nth (show i + 1 + j < it.length by omega))
    have h3 := hd_le h2.1.srt y hy
    omega

theorem rows_right {l : List Item} (hs : Srt l) (hi : ∀ x ∈ l, itemOK x = true) : ∀ j, j < (rowsOf l).length → rightNode (nth (rowsOf l) j) = true := by
  intro j hj
  have h1 := rowsOf_row l j hj
  have hm : ∀ x ∈ nth (rowsOf l) j, x ∈ l := fun x hx => by
    have : x ∈ (rowsOf l).flatten := List.mem_flatten.2 ⟨_, mem_nth hj, hx⟩
    rwa [rowsOf_flatten] at this
  exact right_of h1.1 h1.2 (srt_row (rows := rowsOf l) (by rw [rowsOf_flatten]; exact hs) (mem_nth hj)) fun x hx => hi x (hm x hx)

theorem ins_length {x : Item} {l : List Item} (h : Srt l) : (ins x l).length ≤ l.length + 1 := by
  unfold ins
  rw [List.length_append, List.length_cons]
  have : ∀ l : List Item, (l.filter fun y => decide (y.k < x.k)).length + (l.filter fun y => decide (x.k < y.k)).length ≤ l.length := by
    intro l
    induction l with
    | nil => simp
    | cons a l ih =>
      simp only [List.filter_cons, List.length_cons]
      split <;> split <;> (try simp only [List.length_cons]) <;> rename_i h1 h2
      · have h1 := of_decide_eq_true h1; have h2 := of_decide_eq_true h2; omega
      · omega
      · omega
      · omega
  have := this l
  omega

theorem anew_ok {c : List Cell} {R : List Int} {x : Item} (hok : HeapOK c) (hc : Cnt c R) (hx : itemOK x = true) (hcl : c.length ≤ 2000) : ∀ (h : Nat) (p : Int), RT c h p → 2 * h ≤ free c → Anew c R h 2 h (anew c x h p) (ins x (listOf c h p)) := by
  intro h
  induction h with
  | zero => exact fun p h => h.elim
  | succ h ih =>
    rintro p hrt hf
    have hsrt := hrt.srt
    have ⟨hu, hrn, hs⟩ := hrt
    have hl := rightNode_len hrn
    have hs0 := srt_right hrn
    unfold anew
    simp only
    rcases hs with ⟨hlf, h0⟩ | ⟨hlf, hk, hsf⟩
    · subst h0
      rw [if_pos hlf, hlf, with_leaf hrn x, listOf_leaf hlf]
      have hil := ins_length (x := x) hs0
      have hr2 := rowsOf_two (l := ins x (nodeOf c p).it) (by omega)
      have hr1 := (rowsOf_len (ins x (nodeOf c p).it)).2 (ins_ne _ _)
      refine leaf_rows hok hc (rows_right (srt_ins hs0) fun y hy => ?_) (rowsOf_flatten _) (by omega) hr2 (by omega)
      rcases mem_ins hy with rfl | hy
      · exact hx
      · exact itemOK_right hrn y hy
    · rw [if_neg (by simp [hlf]), hlf]
      obtain ⟨hi, hlo, hup⟩ := at_inner hrn x.k
      generalize (atOf false (nodeOf c p).it x.k).1 = i at hi hlo hup ⊢
      obtain ⟨e, hA, hC⟩ := parted hk hsf hi
      have ha := ih _ (hk _ (mem_nth hi)).1 (by omega)
      generalize anew c x h (nth (nodeOf c p).it i).v = m at ha ⊢
      rw [listOf_inner hlf] at hsrt ⊢
      have hins : ((((nodeOf c p).it.take i).flatMap fun x => listOf c h x.v) ++ ins x (listOf c h (nth (nodeOf c p).it i).v) ++ (((nodeOf c p).it.drop (i + 1)).flatMap fun x => listOf c h x.v)) = ins x ((nodeOf c p).it.flatMap fun x => listOf c h x.v) := by
        rw [e, ins_mid (fun y hy => ?_) (hC x.k hup)]
        have h1 := hA y hy
        by_cases e0 : i = 0
        · subst e0; simp at hy
        · have h2 := hlo (i - 1) (by omega)
          rw [show i - 1 + 1 = i by omega] at h2
          omega
      have hw := withOf_length (more := m.2) (show i + 1 ≤ (nodeOf c p).it.length from hi)
      have hlen2 := ha.len
      have hr2 := rowsOf_two (l := withOf (nodeOf c p).it i 1 m.2) (by omega)
      have hm1 : m.2 ≠ [] := by
        intro e0
        have := ha.list
        rw [e0] at this
        exact ins_ne _ _ this.symm
      have hr1 := (rowsOf_len (withOf (nodeOf c p).it i 1 m.2)).2 (by
        intro e0
        have h1 := congrArg List.length e0
        rw [hw] at h1
        have : 0 < m.2.length := List.length_pos_iff.2 hm1
        rw [List.length_nil] at h1
        omega)
      have hlow := ha.low
      exact inner_rows (least' := h + 1) hok hc hk ha (rowsOf_flatten _) (rowsOf_row _) hcl hins (srt_ins hsf) hr2 (by omega) (by omega)

theorem without_leaf {it : List Item} (h : rightNode it = true) {key : Int} (hm : ∃ y ∈ it, y.k = key) : (atOf true it key).1 < it.length ∧ withOf it (atOf true it key).1 1 [] = without it key := by
  obtain ⟨h1, h2⟩ := take_below h (key := key)
  have hb : below it key < it.length ∧ (nth it (below it key)).k = key := by
    obtain ⟨y, hy, e⟩ := hm
    obtain ⟨j, hj, rfl⟩ := nth_of_mem hy
    have h3 := below_at h (key := key) hj
    have h4 : ¬ j < below it key := fun hlt => by have := h3.1 hlt; omega
    by_cases e0 : below it key = j
    · rw [e0]; exact ⟨hj, e⟩
    · have h5 := rise h (below it key) j (by omega) hj
      have h6 := below_at h (key := key) (i := below it key) (by omega)
      omega
  rw [atOf_sorted true h, if_pos hb]
  refine ⟨hb.1, ?_⟩
  have hp := srt_part (srt_right h) hb.1
  unfold withOf
  simp only
  conv => rhs; rw [part hb.1]
  rw [show it.take (below it key) ++ nth it (below it key) :: it.drop (below it key + 1) = it.take (below it key) ++ [nth it (below it key)] ++ it.drop (below it key + 1) by simp]
  rw [without_mid h1 fun y hy => by rw [← hb.2]; exact hp.2 y hy]
  congr 2
  simp [without, hb.2]

/-- The child in which a key is. -/
theorem child_of {c : List Cell} {h : Nat} {it : List Item} (hr : rightNode it = true) (hk : ∀ x ∈ it, RT c h x.v ∧ hd (listOf c h x.v) = x.k) (hs : Srt (it.flatMap fun x => listOf c h x.v)) {key : Int} (hm : ∃ y ∈ it.flatMap fun x => listOf c h x.v, y.k = key) :
    ∃ y ∈ listOf c h (nth it (atOf false it key).1).v, y.k = key := by
  obtain ⟨hi, hlo, hup⟩ := at_inner hr key
  generalize (atOf false it key).1 = i at hi hlo hup ⊢
  obtain ⟨e, hA, hC⟩ := parted hk hs hi
  obtain ⟨y, hy, ek⟩ := hm
  rw [e, List.mem_append, List.mem_append] at hy
  rcases hy with (hy | hy) | hy
  · exfalso
    have h1 := hA y hy
    by_cases e0 : i = 0
    · subst e0; simp at hy
    · have h2 := hlo (i - 1) (by omega)
      rw [show i - 1 + 1 = i by omega] at h2
      omega
  · exact ⟨y, hy, ek⟩
  · have := hC key hup y hy; omega

theorem onPath_of {c : List Cell} {key : Int} : ∀ {h : Nat} {p : Int}, RT c h p → (∃ y ∈ listOf c h p, y.k = key) → onPath c key h p := by
  intro h
  induction h with
  | zero => exact fun h => h.elim
  | succ h ih =>
    rintro p ⟨hu, hrn, hs⟩ hm
    rcases hs with ⟨hlf, h0⟩ | ⟨hlf, hk, hsf⟩
    · rw [listOf_leaf hlf] at hm
      refine ⟨by rw [hlf]; exact (without_leaf hrn hm).1, fun e => by rw [hlf] at e; cases e⟩
    · rw [listOf_inner hlf] at hm
      refine ⟨by rw [hlf]; exact (at_inner hrn key).1, fun _ => ?_⟩
      rw [hlf]
      have hi := (at_inner hrn key).1
      exact ih (hk _ (mem_nth hi)).1 (child_of hrn hk hsf hm)

theorem anewD_ok {c : List Cell} {R : List Int} {key : Int} (hok : HeapOK c) (hc : Cnt c R) (hcl : c.length ≤ 2000) : ∀ (h : Nat) (p : Int), RT c h p → (∃ y ∈ listOf c h p, y.k = key) → h ≤ free c → Anew c R h 1 0 (anewD c key h p) (without (listOf c h p) key) := by
  intro h
  induction h with
  | zero => exact fun p h => h.elim
  | succ h ih =>
    rintro p hrt hm hf
    have ⟨hu, hrn, hs⟩ := hrt
    have hl := rightNode_len hrn
    have hs0 := srt_right hrn
    unfold anewD
    simp only
    rcases hs with ⟨hlf, h0⟩ | ⟨hlf, hk, hsf⟩
    · subst h0
      rw [listOf_leaf hlf] at hm ⊢
      simp only [hlf, if_true]
      obtain ⟨hi, hw⟩ := without_leaf hrn hm
      have hwl := withOf_length (l := (nodeOf c p).it) (more := []) (show (atOf true (nodeOf c p).it key).1 + 1 ≤ (nodeOf c p).it.length from hi)
      rw [hw] at hwl ⊢
      by_cases he : (without (nodeOf c p).it key).length = 0
      · rw [if_pos he]
        have he' := List.eq_nil_of_length_eq_zero he
        exact ⟨hok, by simpa using hc, Grown.refl c, by simp, by simp, by simp [he'], by simp, by simp, by simp, fun q hq => .inl hq⟩
      · rw [if_neg he]
        have hr : ∀ j, j < [without (nodeOf c p).it key].length → rightNode (nth [without (nodeOf c p).it key] j) = true := by
          intro j hj
          obtain rfl : j = 0 := by simpa using hj
          show rightNode (without (nodeOf c p).it key) = true
          simp only [List.length_nil] at hwl
          exact right_of (by omega) (by omega) (srt_filter _ hs0) fun y hy => itemOK_right hrn y (List.mem_filter.1 hy).1
        exact leaf_rows hok hc hr (by simp) (by simp; omega) (by simp) (by simp)
    · rw [listOf_inner hlf] at hm ⊢
      have hch := child_of hrn hk hsf hm
      simp only [hlf, Bool.false_eq_true, if_false]
      obtain ⟨hi, hlo, hup⟩ := at_inner hrn key
      generalize (atOf false (nodeOf c p).it key).1 = i at hi hlo hup hch ⊢
      obtain ⟨e, hA, hC⟩ := parted hk hsf hi
      have ha := ih _ (hk _ (mem_nth hi)).1 hch (by omega)
      generalize anewD c key h (nth (nodeOf c p).it i).v = m at ha ⊢
      have hwo : ((((nodeOf c p).it.take i).flatMap fun x => listOf c h x.v) ++ without (listOf c h (nth (nodeOf c p).it i).v) key ++ (((nodeOf c p).it.drop (i + 1)).flatMap fun x => listOf c h x.v)) = without ((nodeOf c p).it.flatMap fun x => listOf c h x.v) key := by
        rw [e, without_mid (fun y hy => ?_) (hC key hup)]
        have h1 := hA y hy
        by_cases e0 : i = 0
        · subst e0; simp at hy
        · have h2 := hlo (i - 1) (by omega)
          rw [show i - 1 + 1 = i by omega] at h2
          omega
      have hw := withOf_length (more := m.2) (show i + 1 ≤ (nodeOf c p).it.length from hi)
      have hlen2 := ha.len
      have hlow := ha.low
      by_cases he : (withOf (nodeOf c p).it i 1 m.2).length = 0
      · rw [if_pos he]
        have he' := List.eq_nil_of_length_eq_zero he
        unfold withOf at he'
        simp only [List.append_eq_nil_iff] at he'
        obtain ⟨⟨e1, e2⟩, e3⟩ := he'
        have hll := ha.list
        rw [e2] at hll
        have hcn := ha.cnt
        rw [e2] at hcn
        refine ⟨ha.ok, hcn, ha.grown, by simp, by simp, ?_, by simp, by simp only; omega, by simp only; have := ha.high; omega, fun q hq => ?_⟩
        · rw [← hwo, e1, e3, ← hll]; simp
        · rcases ha.back q hq with h1 | ⟨n, hn, h1⟩
          · exact .inl h1
          · exact .inr ⟨n, by omega, h1⟩
      · rw [if_neg he]
        refine inner_rows (rows := [withOf (nodeOf c p).it i 1 m.2]) hok hc hk ha (by simp) (fun j hj => ?_) hcl hwo (srt_filter _ hsf) (by simp) (by simp; omega) (by simp)
        obtain rfl : j = 0 := by simpa using hj
        show 1 ≤ (withOf (nodeOf c p).it i 1 m.2).length ∧ (withOf (nodeOf c p).it i 1 m.2).length ≤ 4
        omega
end Go.Proofs.Abs
