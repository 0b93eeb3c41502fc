/- Plain facts: sound heaps with one root; Put. -/
import Derived.Test.YtonbocppkanogaaZF6
set_option linter.all false
namespace Go.Proofs.Abs

theorem RT.height {c : List Cell} {h h' : Nat} {p : Int} (a : RT c h p) (b : RT c h' p) : h = h' := by
  have e1 := highF_shape (max h h') h p (by omega) a.shape
  have e2 := highF_shape (max h h') h' p (by omega) b.shape
  omega

/-- A heap that adds up, each of whose cells is a right tree's. -/
structure WF (c : List Cell) (R : List Int) : Prop where
  ok : HeapOK c
  cnt : Cnt c R
  ht : ∀ q, used c q = true → ∃ n, n ≤ 20 ∧ RT c n q

theorem refOf_le {c : List Cell} (h : HeapOK c) (R : List Int) (q : Int) : refOf c R q ≤ R.length + c.length * 4 := by
  have h1 := rc_le R q
  have h2 := sumTo_le (g := fun p => tellsOf (nth c p) q) (b := 4) (fun i => by
    show tellsOf (nth c i) q ≤ 4
    unfold tellsOf
    split
    · rename_i hc
      have h1 := vc_le (nth c i).n.it q
      have h2 := rightNode_len (h.node i hc.1)
      omega
    · omega) c.length
  unfold refOf
  omega
theorem WF.refs {c : List Cell} {R : List Int} (h : WF c R) : ∀ i, (nth c i).ref ≤ R.length + c.length * 4 := by
  intro i
  by_cases hi : i < c.length
  · rw [h.cnt i hi]
    have := refOf_le h.ok R i
    omega
  · rw [nth_out (by omega)]
    show (0 : Int) ≤ _
    omega

/-! ### Fine -/
theorem held_RT {c : List Cell} {R : List Int} (hR : ∀ r ∈ R, ∃ h, Tr c h r) : ∀ (k q : Nat), q < c.length → nth (heldOf c R k) q = true → ∃ n, n ≤ 20 ∧ RT c n q := by
  intro k
  induction k with
  | zero =>
    intro q hq hh
    rw [heldOf, nth_map _ (by simpa using hq), nth_range hq, decide_eq_true_eq] at hh
    obtain ⟨h, ht⟩ := hR _ (rc_mem hh)
    rcases ht with ⟨h1, _⟩ | ⟨h1, h2⟩
    · omega
    · exact ⟨h, h2, h1⟩
  | succ k ih =>
    intro q hq hh
    rw [heldOf, heldStep_nth hq, Bool.or_eq_true] at hh
    rcases hh with hh | hh
    · exact ih q hq hh
    · obtain ⟨p, hp, hh⟩ := anyTo_iff.1 hh
      rw [Bool.and_eq_true, decide_eq_true_eq] at hh
      obtain ⟨n, hn, ht⟩ := ih p hp hh.1
      have h2 := hh.2
      unfold tellsOf at h2
      split at h2
      · rename_i hc
        obtain ⟨x, hx, e⟩ := vc_mem h2
        cases n with
        | zero => exact ht.elim
        | succ n =>
          obtain ⟨_, _, hs⟩ := ht
          unfold nodeOf at hs
          rw [Int.toNat_natCast] at hs
          rcases hs with ⟨h3, _⟩ | ⟨_, h4, _⟩
          · rw [hc.2] at h3; cases h3
          · have := (h4 x hx).1
            rw [e] at this
            exact ⟨n, by omega, this⟩
      · omega

theorem wf_of_fine {c : List Cell} {keep most root : Int} (h : fine c keep [root] most = true) : WF c [root] ∧ (∃ h, Tr c h root) ∧ (c.length : Int) ≤ most ∧ c.length ≤ 2000 ∧ 1 ≤ c.length ∧ 0 ≤ keep ∧ keep ≤ c.length := by
  unfold fine may08 anyOf at h
  simp only [Bool.and_eq_true, decide_eq_true_eq] at h
  obtain ⟨⟨⟨hs, _⟩, hr, ht⟩, hso⟩ := h
  have hok := heapOK_of hr
  have hl := (rightHeap_iff.1 hr).1
  have htr : ∃ h, Tr c h root := (rightTree_iff hok).1 (allTo_iff.1 ht 0 (by simp))
  have hso := allTo_iff.1 hso
  refine ⟨⟨hok, fun q hq => ?_, fun q hq => ?_⟩, htr, (small_facts hs).1, hl.2.1, hl.1, hl.2.2⟩
  · have := hso q hq
    rw [Bool.and_eq_true, decide_eq_true_eq] at this
    exact this.1
  · have hq' := used_iff.1 hq
    have h1 := hso q.toNat (by omega)
    rw [Bool.and_eq_true, beq_iff_eq] at h1
    have h2 := h1.2
    rw [decide_eq_true hq'.2.2] at h2
    have := held_RT (R := [root]) (fun r hr => by rw [List.mem_singleton] at hr; rw [hr]; exact htr) 25 q.toNat (by omega) h2
    rwa [show ((q.toNat : Nat) : Int) = q by omega] at this

theorem held_mono {c : List Cell} {R : List Int} {q : Nat} (hq : q < c.length) {k k' : Nat} (hk : k ≤ k') (h : nth (heldOf c R k) q = true) : nth (heldOf c R k') q = true := by
  induction k' with
  | zero => obtain rfl : k = 0 := by omega
            exact h
  | succ k' ih =>
    by_cases e : k = k' + 1
    · subst e; exact h
    · rw [heldOf, heldStep_nth hq, ih (by omega)]; rfl
theorem held_used {c : List Cell} {R : List Int} (h : Cnt c R) : ∀ (k q : Nat), q < c.length → nth (heldOf c R k) q = true → 0 < (nth c q).ref := by
  intro k
  induction k with
  | zero =>
    intro q hq hh
    rw [heldOf, nth_map _ (by simpa using hq), nth_range hq, decide_eq_true_eq] at hh
    rw [h q hq]
    unfold refOf; omega
  | succ k ih =>
    intro q hq hh
    rw [heldOf, heldStep_nth hq, Bool.or_eq_true] at hh
    rcases hh with hh | hh
    · exact ih q hq hh
    · obtain ⟨p, hp, hh⟩ := anyTo_iff.1 hh
      rw [Bool.and_eq_true, decide_eq_true_eq] at hh
      rw [h q hq]
      have h9 : tellsOf (nth c p) (q : Int) ≤ sumTo c.length fun p => tellsOf (nth c p) (q : Int) := sumTo_ge (g := fun p => tellsOf (nth c p) (q : Int)) hp
      have := hh.2
      unfold refOf
      omega
/-- What is used is held. -/
theorem used_held {c : List Cell} {R : List Int} (h : WF c R) : ∀ (k n : Nat), n + k = 20 → ∀ q : Nat, q < c.length → RT c n q → nth (heldOf c R k) q = true := by
  intro k
  induction k with
  | zero =>
    intro n hn q hq ht
    have hu := used_iff.1 ht.used
    rw [heldOf, nth_map _ (by simpa using hq), nth_range hq, decide_eq_true_eq]
    have hr := h.cnt q hq
    rw [Int.toNat_natCast] at hu
    refine Decidable.byContradiction fun hz => ?_
    have : 0 < sumTo c.length fun p => tellsOf (nth c p) (q : Int) := by unfold refOf at hr; omega
    obtain ⟨p, hp, hpt⟩ := sumTo_pos this
    unfold tellsOf at hpt
    split at hpt
    · rename_i hc
      obtain ⟨x, hx, e⟩ := vc_mem hpt
      obtain ⟨m, hm, htp⟩ := h.ht (p : Int) (used_iff.2 ⟨by omega, by omega, by rw [Int.toNat_natCast]; exact hc.1⟩)
      cases m with
      | zero => exact htp.elim
      | succ m =>
        obtain ⟨_, _, hs⟩ := htp
        unfold nodeOf at hs
        rw [Int.toNat_natCast] at hs
        rcases hs with ⟨h3, _⟩ | ⟨_, h4, _⟩
        · rw [hc.2] at h3; cases h3
        · have h5 := (h4 x hx).1
          rw [e] at h5
          have := h5.height ht
          omega
    · omega
  | succ k ih =>
    intro n hn q hq ht
    have hu := used_iff.1 ht.used
    have hr := h.cnt q hq
    rw [Int.toNat_natCast] at hu
    by_cases hz : 0 < rc R (q : Int)
    · refine held_mono hq (Nat.zero_le _) ?_
      rw [heldOf, nth_map _ (by simpa using hq), nth_range hq, decide_eq_true_eq]
      exact hz
    · have : 0 < sumTo c.length fun p => tellsOf (nth c p) (q : Int) := by unfold refOf at hr; omega
      obtain ⟨p, hp, hpt⟩ := sumTo_pos this
      have hpt' := hpt
      unfold tellsOf at hpt
      split at hpt
      · rename_i hc
        obtain ⟨x, hx, e⟩ := vc_mem hpt
        obtain ⟨m, hm, htp⟩ := h.ht (p : Int) (used_iff.2 ⟨by omega, by omega, by rw [Int.toNat_natCast]; exact hc.1⟩)
        have htp' := htp
        cases m with
        | zero => exact htp.elim
        | succ m =>
          obtain ⟨_, _, hs⟩ := htp
          unfold nodeOf at hs
          rw [Int.toNat_natCast] at hs
          rcases hs with ⟨h3, _⟩ | ⟨_, h4, _⟩
          · rw [hc.2] at h3; cases h3
          · have h5 := (h4 x hx).1
            rw [e] at h5
            have := h5.height ht
            have h6 := ih (m + 1) (by omega) p hp htp'
            rw [heldOf, heldStep_nth hq, Bool.or_eq_true]
            exact .inr (anyTo_iff.2 ⟨p, hp, by rw [h6, Bool.true_and]; exact decide_eq_true hpt'⟩)
      · omega

theorem small_of {c : List Cell} {R : List Int} (h : WF c R) {most : Int} (hm : (c.length : Int) ≤ most) (hc : c.length ≤ 2000) (hR : R.length ≤ 100) : small c most = true := by
  unfold small
  rw [Bool.and_eq_true, decide_eq_true_eq]
  refine ⟨hm, allTo_iff.2 fun i _ => ?_⟩
  have h1 := h.refs i
  unfold smallCell
  rw [decide_eq_true_eq]
  refine ⟨?_, by omega⟩
  by_cases hr : 0 < (nth c i).ref
  · have := rightNode_len (h.ok.node i hr); omega
  · rw [h.ok.void i (by have := h.ok.nn i; omega)]; simp
theorem right_of_wf {c : List Cell} {R : List Int} {keep : Int} (h : WF c R) (hl : 1 ≤ c.length ∧ c.length ≤ 2000 ∧ 0 ≤ keep ∧ keep ≤ c.length) (hR : R.length ≤ 100) : rightHeap c keep = true :=
  rightHeap_of h.ok hl fun i => by have := h.refs i; omega
theorem may_of {c : List Cell} {R : List Int} {keep most : Int} (h : WF c R) (hl : 1 ≤ c.length ∧ c.length ≤ 2000 ∧ 0 ≤ keep ∧ keep ≤ c.length) (hm : (c.length : Int) ≤ most) (hR : R.length ≤ 100) {n : Nat} {root : Int} (ht : Tr c n root) : mayTree c keep root most = true := by
  unfold mayTree may
  rw [small_of h hm hl.2.1 hR, right_of_wf h hl hR, (rightTree_iff h.ok).2 ⟨n, ht⟩]; rfl
theorem fine_of {c : List Cell} {keep most root : Int} (h : WF c [root]) (hl : 1 ≤ c.length ∧ c.length ≤ 2000 ∧ 0 ≤ keep ∧ keep ≤ c.length) (hm : (c.length : Int) ≤ most) {n : Nat} (ht : Tr c n root) : fine c keep [root] most = true := by
  unfold fine may08 anyOf soundOf
  rw [small_of h hm hl.2.1 (by simp), right_of_wf h hl (by simp)]
  simp only [Bool.and_eq_true, decide_eq_true_eq, Bool.true_and]
  refine ⟨⟨by simp, ?_⟩, allTo_iff.2 fun q hq => ?_⟩
  · simp only [List.length_singleton, allTo, Bool.true_and]
    exact (rightTree_iff h.ok).2 ⟨n, ht⟩
  · rw [Bool.and_eq_true, decide_eq_true_eq, beq_iff_eq]
    refine ⟨h.cnt q hq, ?_⟩
    by_cases hu : 0 < (nth c q).ref
    · rw [decide_eq_true hu]
      obtain ⟨m, hm, ht⟩ := h.ht (q : Int) (used_iff.2 ⟨by omega, by omega, by rw [Int.toNat_natCast]; exact hu⟩)
      exact held_mono hq (show 20 - m ≤ 25 by omega) (used_held h (20 - m) m (by omega) q hq ht)
    · rw [decide_eq_false hu]
      cases hb : nth (heldOf c [root] 25) q with
      | false => rfl
      | true => exact absurd (held_used h.cnt 25 q hq hb) hu

/-! ### Put -/
theorem looseA_ok {c : List Cell} {p : Int} {R : List Int} (h : HeapOK c) (hc : Cnt c (p :: R)) (h0 : 0 ≤ p) (h1 : p < c.length) : Loosed c (looseA c p) R := loosed _ c p R h hc (Nat.lt_succ_self _) h0 h1
theorem Loosed.tree {c c' : List Cell} {R : List Int} (l : Loosed c c' R) {n : Nat} {p : Int} (ht : RT c n p) (hu : Abs.used c' p = true) : RT c' n p ∧ listOf c' n p = listOf c n p :=
  RT.keep (fun q _ hq => (l.used q hq).2) (fun q _ hq hlf x hx => by
    have e := (l.used q hq).2
    exact l.cnt.told l.ok hq (by rw [e]; exact hlf) (by rw [e]; exact hx)) ht hu
theorem Loosed.free_eq {c c' : List Cell} {R : List Int} (l : Loosed c c' R) : Abs.free c' = Abs.free c := free_congr l.len fun i _ => l.free i

/-- What a heap and a root come to: a new root, with such items. -/
structure Made (c : List Cell) (R : List Int) (lo up : Nat) (c' : List Cell) (p : Int) (h' : Nat) (l : List Item) : Prop where
  ok : HeapOK c'
  cnt : Cnt c' (p :: R)
  tree : RT c' h' p
  list : listOf c' h' p = l
  len : c'.length = c.length
  few : free c ≤ free c' + up
  many : free c' + lo ≤ free c
  ht : ∀ q, used c' q = true → ∃ n, n ≤ max h' 20 ∧ RT c' n q

/-- The old root is given up. -/
theorem settled {c c2 : List Cell} {R : List Int} {root p : Int} {h' lo up : Nat} {l : List Item} (hok : HeapOK c2) (hcnt : Cnt c2 (p :: root :: R)) (hlen : c2.length = c.length) (ht : RT c2 h' p) (hl : listOf c2 h' p = l) (h0 : 0 ≤ root) (h1 : root < c.length)
    (hlo : free c2 + lo ≤ free c) (hup : free c ≤ free c2 + up) (hht : ∀ q, used c2 q = true → ∃ n, n ≤ max h' 20 ∧ RT c2 n q) : Made c R lo up (looseA c2 root) p h' l := by
  have hL := looseA_ok (p := root) (R := p :: R) hok (hcnt.roots fun q => by simp only [rc_cons]; omega) h0 (by omega)
  have hu := used_iff.1 ht.used
  have hp : used (looseA c2 root) p = true := hL.cnt.root List.mem_cons_self hu.1 (by rw [hL.len]; exact hu.2.1)
  have hk := hL.tree ht hp
  have hf := hL.free_eq
  refine ⟨hL.ok, hL.cnt, hk.1, hk.2.trans hl, hL.len.trans hlen, by omega, by omega, fun q hq => ?_⟩
  obtain ⟨n, hn, hq2⟩ := hht q (hL.used q hq).1
  exact ⟨n, hn, (hL.tree hq2 hq).1⟩

def fitsPut (c : List Cell) (keep : Int) (h : Nat) (key val : Int) (deep : Bool) : Prop := (isNum key = true ∧ isNum val = true) ∧ h ≠ 20 ∧ fits c keep (2 * h + 1 : Nat) deep = true
theorem put_not {c : List Cell} {keep : Int} {h : Nat} {root key val : Int} {deep : Bool} (hn : ¬ fitsPut c keep h key val deep) : (put c keep h root key val deep).1 = c ∧ (put c keep h root key val deep).2.1 = root ∧ ((put c keep h root key val deep).2.2 = 1 ∨ (put c keep h root key val deep).2.2 = 3) := by
  by_cases h1 : isNum key = true ∧ isNum val = true
  · have : h = 20 ∨ fits c keep (2 * h + 1 : Nat) deep = false := by
      by_cases e : h = 20
      · exact .inl e
      · right
        cases hf : fits c keep (2 * h + 1 : Nat) deep with
        | false => rfl
        | true => exact absurd ⟨h1, e, hf⟩ hn
    rw [put_full h1 this]
    exact ⟨rfl, rfl, .inr rfl⟩
  · rw [put_arg h1]
    exact ⟨rfl, rfl, .inl rfl⟩

theorem fits_free {c : List Cell} {keep : Int} {n : Nat} {deep : Bool} (hk : 0 ≤ keep) (h : fits c keep (n : Nat) deep = true) : n ≤ free c := by
  unfold fits at h
  split at h
  · have := of_decide_eq_true h; omega
  · have := of_decide_eq_true h; omega

theorem put_ok {c : List Cell} {R : List Int} {keep : Int} {h : Nat} {root key val : Int} {deep : Bool} (hw : WF c (root :: R)) (ht : Tr c h root) (hcl : c.length ≤ 2000) (hk : 0 ≤ keep) (hf : fitsPut c keep h key val deep) :
    (put c keep h root key val deep).2.2 = 0 ∧ ∃ h', (h' = h ∨ h' = h + 1) ∧ 1 ≤ h' ∧ h' ≤ 20 ∧ Made c R (max h 1) (2 * h + 1) (put c keep h root key val deep).1 (put c keep h root key val deep).2.1 h' (ins ⟨key, val⟩ (listOf c h root)) := by
  obtain ⟨hn, h20, hfit⟩ := hf
  have hfree := fits_free hk hfit
  have hx : itemOK ⟨key, val⟩ = true := by
    simp only [isNum, decide_eq_true_eq] at hn
    rw [itemOK_iff]
    exact ⟨hn.1.1, hn.1.2, hn.2.1, hn.2.2⟩
  rcases ht with ⟨hr, h0⟩ | ⟨hrt, hh⟩
  · -- the first item
    subst hr; subst h0
    rw [put_first hn h20 hfit (by omega)]
    have hright : rightNode [⟨key, val⟩] = true := right_of (by simp) (by simp) (by simp [Srt]) fun y hy => by rw [List.mem_singleton] at hy; rw [hy]; exact hx
    have hcnt0 : Cnt c ([] ++ R) := fun q hq => by
      rw [hw.cnt q hq]
      unfold refOf
      rw [rc_cons, if_neg (by omega)]
      rfl
    obtain ⟨e0, hL⟩ := alloc_laid (leaf := true) (it := [⟨key, val⟩]) (held := []) (A := []) (R := R) hw.ok hcnt0 (fun q => by simp [rc]) hright (by simp [leads]) (by omega)
    have htr := RT.leaf hL.is hL.node hright
    refine ⟨e0, 1, .inr rfl, by omega, by omega, hL.ok, hL.cnt, htr.1, ?_, hL.len, by have := hL.free; simp only; omega, by have := hL.free; simp only; omega, fun q hq => ?_⟩
    · simp only
      rw [htr.2, listOf]; rfl
    · rcases hL.back q hq with rfl | h1
      · exact ⟨1, by omega, htr.1⟩
      · obtain ⟨n, hn, h2⟩ := hw.ht q h1
        exact ⟨n, by omega, (hL.grown.keep hw.ok hw.cnt h2).1⟩
  · have hu := used_iff.1 hrt.used
    rw [put_in hn h20 hfit (by omega)]
    have ha := anew_ok (x := ⟨key, val⟩) hw.ok hw.cnt hx hcl h root hrt (by omega)
    generalize anew c ⟨key, val⟩ h root = m at ha ⊢
    have hpos := hrt.pos
    have hne : m.2 ≠ [] := by
      intro e
      have := ha.list
      rw [e] at this
      exact ins_ne _ _ this.symm
    have hlen1 := List.length_pos_iff.2 hne
    have hlen2 := ha.len
    have hlow := ha.low
    have hhigh := ha.high
    have hmlen := ha.grown.len
    by_cases hm : 1 < m.2.length
    · rw [if_pos hm]
      have hs : Srt m.2 := srt_heads (f := fun y => listOf m.1 h y.v) (fun y hy => ⟨(ha.tree y hy).1.ne, (ha.tree y hy).2⟩) (by rw [ha.list]; exact srt_ins hrt.srt)
      have hright : rightNode m.2 = true := right_of (by omega) (by omega) hs fun y hy => by
        obtain ⟨h1, h2⟩ := ha.tree y hy
        obtain ⟨z, hz, e⟩ := hd_mem h1.ne
        have hz := itemOK_iff.1 (h1.itemOK z hz)
        have hu := used_iff.1 h1.used
        rw [itemOK_iff]
        omega
      obtain ⟨_, hL⟩ := alloc_laid (leaf := false) (it := m.2) (held := m.2.map (·.v)) (A := m.2.map (·.v)) (R := root :: R) ha.ok ha.cnt (fun q => by
        rw [if_neg (by decide), rc_map]
        split
        · rfl
        · rename_i hb
          refine Nat.eq_zero_of_not_pos fun hp => ?_
          obtain ⟨y, hy, e⟩ := vc_mem hp
          exact hb (inB_iff.2 (List.mem_map.2 ⟨y, hy, e⟩))) hright (leads_of fun _ y hy => (ha.tree y hy).1.used) (by omega)
      have hkeep : ∀ {n : Nat} {p : Int}, RT m.1 n p → RT (over m.1 m.2).1 n p ∧ listOf (over m.1 m.2).1 n p = listOf m.1 n p := fun t => hL.grown.keep ha.ok ha.cnt t
      have hfm : (m.2.flatMap fun y => listOf (over m.1 m.2).1 h y.v) = m.2.flatMap fun y => listOf m.1 h y.v := flatMap_same fun y hy => (hkeep (ha.tree y hy).1).2
      have htr := RT.inner (h := h) hL.is hL.node hright (fun y hy => ⟨(hkeep (ha.tree y hy).1).1, by
        show hd (listOf (over m.1 m.2).1 h y.v) = y.k
        rw [(hkeep (ha.tree y hy).1).2]; exact (ha.tree y hy).2⟩) (by
        show Srt (m.2.flatMap fun y => listOf (over m.1 m.2).1 h y.v)
        rw [hfm, ha.list]; exact srt_ins hrt.srt)
      have hlf : free (over m.1 m.2).1 + 1 = free m.1 := hL.free
      have hll : listOf (over m.1 m.2).1 (h + 1) ((over m.1 m.2).2.1 : Int) = ins ⟨key, val⟩ (listOf c h root) := htr.2.trans (hfm.trans ha.list)
      refine ⟨rfl, h + 1, .inr rfl, by omega, by omega, settled (c2 := (over m.1 m.2).1) hL.ok hL.cnt (hL.len.trans hmlen) htr.1 hll hu.1 hu.2.1 (by omega) (by omega) fun q hq => ?_⟩
      rcases hL.back q hq with rfl | h1
      · exact ⟨h + 1, by omega, htr.1⟩
      · rcases ha.back q h1 with h2 | ⟨n, hn, h2⟩
        · obtain ⟨n, hn, h3⟩ := hw.ht q h2
          exact ⟨n, by omega, (hkeep (ha.grown.keep hw.ok hw.cnt h3).1).1⟩
        · exact ⟨n, by omega, (hkeep h2).1⟩
    · rw [if_neg hm]
      have hl1 : m.2.length = 1 := by omega
      obtain ⟨y, hy⟩ := List.length_eq_one_iff.1 hl1
      have e0 : nth m.2 0 = y := by rw [hy]; rfl
      have hty := ha.tree y (by rw [hy]; exact List.mem_singleton.2 rfl)
      have hll := ha.list
      have hcnt := ha.cnt
      rw [hy] at hll hcnt
      simp only [List.flatMap_cons, List.flatMap_nil, List.append_nil] at hll
      rw [e0]
      refine ⟨rfl, h, .inl rfl, by omega, by omega, settled ha.ok hcnt hmlen hty.1 hll hu.1 hu.2.1 (by omega) (by omega) fun q hq => ?_⟩
      rcases ha.back q hq with h2 | ⟨n, hn, h2⟩
      · obtain ⟨n, hn, h3⟩ := hw.ht q h2
        exact ⟨n, by omega, (ha.grown.keep hw.ok hw.cnt h3).1⟩
      · exact ⟨n, by omega, h2⟩

theorem Made.wf {c : List Cell} {R : List Int} {lo up : Nat} {c' : List Cell} {p : Int} {h' : Nat} {l : List Item} (m : Made c R lo up c' p h' l) (h : h' ≤ 20) : WF c' (p :: R) :=
  ⟨m.ok, m.cnt, fun q hq => by obtain ⟨n, hn, ht⟩ := m.ht q hq; exact ⟨n, by omega, ht⟩⟩
end Go.Proofs.Abs
