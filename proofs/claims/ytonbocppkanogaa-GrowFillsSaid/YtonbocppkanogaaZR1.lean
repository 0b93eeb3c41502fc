/- What an argument's reading says of the values that stand for it. -/
import Derived.Test.YtonbocppkanogaaZG1
import Derived.Test.YtonbocppkanogaaRows
import Derived.Deep.Slices
import Derived.Deep.Strs
import Derived.SizedLaws
import Derived.Carry
import Derived.ProofKit
set_option linter.all false
namespace Go.Proofs.Abs
open Go Go.RowKit Go.Proofs Go.ChangeShapes Go.Deep

/-- No block is anyone's. -/
def cx0 : Cx := ⟨fun _ => none, fun _ => False⟩
def free0 : Nat → Prop := cx0.U
theorem cx0_U : ∀ b, ¬ free0 b := by
  rintro b (h | ⟨k, o, c, h⟩)
  · exact h
  · cases h

section
variable {H : Type} {enc : TypeId × Value → H} {W : World}

def Wt (t : TypeId) (d : DataW H) : Prop := ∀ n ∈ d.weights Try.prog t, n ≤ reachBytes

theorem wt_all {e : TypeId} : ∀ {l : List (DataW H)}, (∀ n ∈ DataW.weightsAll Try.prog e l, n ≤ reachBytes) → ∀ d ∈ l, Wt e d
  | x :: l, h, d, hd => by
    rw [DataW.weightsAll] at h
    rcases List.mem_cons.1 hd with rfl | hd
    · exact fun n hn => h n (List.mem_append_left _ hn)
    · exact wt_all (fun n hn => h n (List.mem_append_right _ hn)) d hd
theorem wt_struct {t : TypeId} {fs : Array Field} {parts : List (DataW H)} (ht : Try.prog.underlying t = some (.struct fs)) (h : Wt t (.agg parts)) : ∀ n ∈ DataW.weightsEach Try.prog (fs.toList.map (·.type)) parts, n ≤ reachBytes := by
  intro n hn
  refine h n ?_
  rw [DataW.weights, ht]
  exact hn

theorem cells_get {base n : Nat} {a : Addr} {cs : List Value} (h : W.cells? base a n = some cs) : cs.length = n ∧ ∀ j, j < n → W.cell? (a.add j) = cs[j]? := by
  unfold World.cells? at h
  split at h
  · have hl := mapM_some_length h
    refine ⟨by simpa using hl, fun j hj => ?_⟩
    have := mapM_some_get h j j (by simp [hj])
    exact this
  · cases h

/-- A slice: its elements' cells; and what stands for it, once what stands for them is known. -/
theorem rd_slice {t e s fuel : Nat} {cs : List Value} {x : DataW H × List MemPlace} (ht : Try.prog.underlying t = some (.slice e)) (hs : Try.prog.cellsOf e = s) (hs0 : 0 < s) (hb : 0 < Try.prog.bytesOf e)
    (h : DataW.trod enc Try.prog W 0 (fun _ => true) true fuel t cs = some x) (hw : Wt t x.1) :
    ∃ (v : Value) (len : Nat) (X : Nat → List Value), cs = [v] ∧ len ≤ big ∧ (∀ i, i < len → ∃ n D p, DataW.trod enc Try.prog W 0 (fun _ => true) true n e (X i) = some (D, p) ∧ Wt e D) ∧
      ∀ f : Nat → List D, (∀ i, i < len → ∀ (j : Nat) (x : D), (f i)[j]? = some x → ∃ y, (X i)[j]? = some y ∧ DRep W free0 x y) → DRep W free0 (.sl false s len f) v := by
  rcases open_slice ht h with ⟨rfl, rfl⟩ | ⟨a, len, cap, m, n, DD, Pl, rfl, _, hl, _, hm, rfl, hx⟩
  · exact ⟨_, 0, fun _ => [], rfl, Nat.zero_le _, fun i hi => by omega, fun f _ => .nil _ _ _ _ _ fun e => by cases e⟩
  · rw [if_pos rfl] at hm
    subst hm
    rw [hs] at hx
    have hX : ∃ X : Nat → List Value, ∀ i, i < m → W.cells? 0 (a.add (i * s)) s = some (X i) ∧ DataW.trod enc Try.prog W 0 (fun _ => true) true n e (X i) = some (DD i, Pl i) :=
      choose_lt hx
    obtain ⟨X, hX⟩ := hX
    have hw' : ∀ k ∈ (len + (m - len)) * Try.prog.bytesOf e :: (DataW.weightsAll Try.prog e ((List.range len).map DD) ++ DataW.weightsAll Try.prog e ((List.range (m - len)).map fun j => DD (len + j))), k ≤ reachBytes := by
      intro k hk
      refine hw k ?_
      rw [DataW.weights, ht]
      simpa using hk
    have hlen : len ≤ big := by
      have h1 := hw' _ List.mem_cons_self
      have h2 : len * 1 ≤ (len + (m - len)) * Try.prog.bytesOf e := Nat.mul_le_mul (by omega) hb
      unfold reachBytes at h1
      unfold big
      omega
    refine ⟨_, len, X, rfl, hlen, fun i hi => ⟨n, DD i, Pl i, (hX i (by omega)).2, ?_⟩, fun f hf => ?_⟩
    · exact wt_all (fun k hk => hw' k (List.mem_cons_of_mem _ (List.mem_append_left _ hk))) _ (List.mem_map.2 ⟨i, List.mem_range.2 hi, rfl⟩)
    · by_cases hz : len = 0
      · subst hz; exact .nil _ _ _ _ _ fun e => by cases e
      · obtain ⟨b, o, sp⟩ := a
        have hsp : sp = none := by
          have h1 := (cells_get (hX 0 (by omega)).1).2 0 hs0
          have h2 := (cells_get (hX 0 (by omega)).1).1
          cases sp with
          | none => rfl
          | some q =>
            have h3 : (X 0)[0]? ≠ none := by rw [List.getElem?_eq_getElem (by omega)]; simp
            rw [← h1] at h3
            exfalso
            apply h3
            simp only [World.cell?, Addr.add]
            split <;> simp
        subst hsp
        have hcell : ∀ (i j : Nat) (x : D), i < len → (f i)[j]? = some x → W.cell? ⟨b, o + (i * s + j), none⟩ = (X i)[j]? ∧ (X i)[j]? ≠ none := by
          intro i j x hi hx
          obtain ⟨y, hy, _⟩ := hf i hi j x hx
          have h1 := cells_get (hX i (by omega)).1
          have hj : j < s := by rw [← h1.1]; exact (List.getElem?_eq_some_iff.1 hy).1
          refine ⟨?_, by rw [hy]; simp⟩
          rw [← h1.2 j hj]
          refine congrArg W.cell? ?_
          unfold Addr.add
          split
          · rename_i e
            split
            · rename_i e2; simp only [e, e2, Nat.add_zero]
            · simp only [e, Nat.add_zero]
          · split
            · rename_i e2; simp only [e2, Nat.zero_add]
            · simp only [Nat.add_assoc]
        have hblk : b < W.heap.size := by
          have h1 := cells_get (hX 0 (by omega)).1
          have h2 := h1.2 0 hs0
          rw [List.getElem?_eq_getElem (by omega)] at h2
          refine Decidable.byContradiction fun hn => ?_
          have h3 : W.heap[b]? = none := by rw [Array.getElem?_eq_none_iff]; omega
          simp [World.cell?, Addr.add, h3] at h2
        refine .sl false s len f b o m (fun i j => ((X i)[j]?).getD undef) hlen hl (fun e => by cases e) (cx0_U _) hblk (fun i j x hi hx => ?_) (fun i j x hi hx => ?_)
        · obtain ⟨y, hy, _⟩ := hf i hi j x hx
          rw [(hcell i j x hi hx).1, hy]; rfl
        · obtain ⟨y, hy, hr⟩ := hf i hi j x hx
          rw [hy]; exact hr

theorem rd_int {fuel : Nat} {cs : List Value} {x : DataW H × List MemPlace} (h : DataW.trod enc Try.prog W 0 (fun _ => true) true fuel 3 cs = some x) : ∃ n, cs = [.int .i64 n] := by
  obtain ⟨n, h1, _⟩ := DataW.trod_int Try.underlying3 h
  exact ⟨n, h1⟩
theorem rd_bool {fuel : Nat} {cs : List Value} {x : DataW H × List MemPlace} (h : DataW.trod enc Try.prog W 0 (fun _ => true) true fuel 4 cs = some x) : ∃ b, cs = [.bool b] := by
  obtain ⟨b, h1, _⟩ := DataW.trod_bool Try.underlying4 h
  exact ⟨b, h1⟩

theorem cells3 : Try.prog.cellsOf 3 = 1 := by kernel_rfl
theorem cells4 : Try.prog.cellsOf 4 = 1 := by kernel_rfl
theorem cells22 : Try.prog.cellsOf 22 = 1 := by kernel_rfl
theorem cells24 : Try.prog.cellsOf 24 = 2 := by kernel_rfl
theorem cells26 : Try.prog.cellsOf 26 = 2 := by kernel_rfl
theorem cells27 : Try.prog.cellsOf 27 = 1 := by kernel_rfl
theorem cells77 : Try.prog.cellsOf 77 = 2 := by kernel_rfl
theorem cells79 : Try.prog.cellsOf 79 = 4 := by kernel_rfl
theorem bytes26 : 0 < Try.prog.bytesOf 26 := Nat.lt_of_lt_of_eq (by decide) (show 16 = Try.prog.bytesOf 26 by kernel_rfl)
theorem bytes79 : 0 < Try.prog.bytesOf 79 := Nat.lt_of_lt_of_eq (by decide) (show 48 = Try.prog.bytesOf 79 by kernel_rfl)

theorem list2 {α : Type} {cs : List α} (h : cs.length = 2) : ∃ a b, cs = [a, b] := by
  match cs, h with
  | [a, b], _ => exact ⟨a, b, rfl⟩
theorem list4 {α : Type} {cs : List α} (h : cs.length = 4) : ∃ a b c d, cs = [a, b, c, d] := by
  match cs, h with
  | [a, b, c, d], _ => exact ⟨a, b, c, d, rfl⟩

theorem rd_item {fuel : Nat} {cs : List Value} {x : DataW H × List MemPlace} (h : DataW.trod enc Try.prog W 0 (fun _ => true) true fuel 26 cs = some x) : ∃ k v, cs = [.int .i64 k, .int .i64 v] := by
  obtain ⟨y0, y1, n, _, hl, h0, h1⟩ := trod_struct2 Try.underlying26 h
  rw [cells26] at hl
  obtain ⟨a, b, rfl⟩ := list2 hl
  simp only [cells3, List.drop_zero, List.take_succ_cons, List.take_zero, List.drop_succ_cons] at h0 h1
  obtain ⟨k, e0⟩ := rd_int h0
  obtain ⟨v, e1⟩ := rd_int h1
  simp only [List.cons.injEq, and_true] at e0 e1
  exact ⟨k, v, by rw [e0, e1]⟩

theorem drep_int (n : Int) : DRep W free0 (dint n) (.int .i64 n) := .v _ rfl
theorem drep_bool (b : Bool) : DRep W free0 (dbool b) (.bool b) := .v _ rfl

theorem nth_mk {α : Type} [Inhabited α] {n : Nat} {f : Nat → α} {i : Nat} (h : i < n) : nth ((List.range n).map f) i = f i := by
  rw [nth_map _ (by simpa using h), nth_range h]

theorem rd_items {fuel : Nat} {cs : List Value} {x : DataW H × List MemPlace} (h : DataW.trod enc Try.prog W 0 (fun _ => true) true fuel 27 cs = some x) (hw : Wt 27 x.1) : ∃ v l, cs = [v] ∧ l.length ≤ big ∧ DRep W free0 (dItems l) v := by
  obtain ⟨v, len, X, rfl, hl, hx, hd⟩ := rd_slice Try.underlying27 cells26 (by decide) bytes26 h hw
  have hy : ∃ y : Nat → Item, ∀ i, i < len → X i = [.int .i64 (y i).k, .int .i64 (y i).v] := choose_lt (p := fun i (y : Item) => X i = [.int .i64 y.k, .int .i64 y.v]) fun i hi => by
    obtain ⟨n, D, p, h1, _⟩ := hx i hi
    obtain ⟨k, v, e⟩ := rd_item h1
    exact ⟨⟨k, v⟩, e⟩
  obtain ⟨y, hy⟩ := hy
  refine ⟨v, (List.range len).map y, rfl, by simpa using hl, ?_⟩
  unfold dItems
  rw [show ((List.range len).map y).length = len by simp]
  refine hd _ fun i hi j z hz => ?_
  rw [nth_mk hi] at hz
  rw [hy i hi]
  match j, hz with
  | 0, hz => simp [dItem] at hz; subst hz; exact ⟨_, rfl, drep_int _⟩
  | 1, hz => simp [dItem] at hz; subst hz; exact ⟨_, rfl, drep_int _⟩
  | j + 2, hz => simp [dItem] at hz

theorem rd_node {fuel : Nat} {cs : List Value} {x : DataW H × List MemPlace} (h : DataW.trod enc Try.prog W 0 (fun _ => true) true fuel 77 cs = some x) (hw : Wt 77 x.1) : ∃ leaf v l, cs = [.bool leaf, v] ∧ l.length ≤ big ∧ DRep W free0 (dItems l) v := by
  obtain ⟨y0, y1, n, hx, hl, h0, h1⟩ := trod_struct2 Try.underlying77 h
  rw [cells77] at hl
  obtain ⟨a, b, rfl⟩ := list2 hl
  simp only [cells4, cells27, List.drop_zero, List.take_succ_cons, List.take_zero, List.drop_succ_cons] at h0 h1
  obtain ⟨k, e0⟩ := rd_bool h0
  rw [hx] at hw
  have hw2 := wt_struct Try.underlying77 hw
  obtain ⟨v, l, e1, hl, hd⟩ := rd_items h1 (fun n hn => hw2 n (by simp [DataW.weightsEach, hn]))
  simp only [List.cons.injEq, and_true] at e0 e1
  exact ⟨k, v, l, by rw [e0, e1], hl, hd⟩

theorem rd_cell {fuel : Nat} {cs : List Value} {x : DataW H × List MemPlace} (h : DataW.trod enc Try.prog W 0 (fun _ => true) true fuel 79 cs = some x) (hw : Wt 79 x.1) : ∃ (c : Cell) (v : Value), cs = [.int .i64 c.ref, .bool c.pin, .bool c.n.leaf, v] ∧ c.n.it.length ≤ big ∧ DRep W free0 (dItems c.n.it) v := by
  obtain ⟨y0, y1, y2, n, hx, hl, h0, h1, h2⟩ := trod_struct3 Try.underlying79 h
  rw [cells79] at hl
  obtain ⟨a, b, c, d, rfl⟩ := list4 hl
  simp only [cells3, cells4, cells77, List.drop_zero, List.take_succ_cons, List.take_zero, List.drop_succ_cons] at h0 h1 h2
  obtain ⟨r, e0⟩ := rd_int h0
  obtain ⟨p, e1⟩ := rd_bool h1
  rw [hx] at hw
  have hw2 := wt_struct Try.underlying79 hw
  obtain ⟨leaf, v, l, e2, hl, hd⟩ := rd_node h2 (fun n hn => hw2 n (by simp [DataW.weightsEach, hn]))
  simp only [List.cons.injEq, and_true] at e0 e1 e2
  exact ⟨⟨r, p, ⟨leaf, l⟩⟩, v, by rw [e0, e1, e2.1, e2.2], hl, hd⟩

theorem rd_cells {fuel : Nat} {cs : List Value} {x : DataW H × List MemPlace} (h : DataW.trod enc Try.prog W 0 (fun _ => true) true fuel 22 cs = some x) (hw : Wt 22 x.1) : ∃ v c, cs = [v] ∧ Lim c ∧ DRep W free0 (dCells c) v := by
  obtain ⟨v, len, X, rfl, hl, hx, hd⟩ := rd_slice Try.underlying22 cells79 (by decide) bytes79 h hw
  have hy : ∃ y : Nat → Cell × Value, ∀ i, i < len → X i = [.int .i64 (y i).1.ref, .bool (y i).1.pin, .bool (y i).1.n.leaf, (y i).2] ∧ (y i).1.n.it.length ≤ big ∧ DRep W free0 (dItems (y i).1.n.it) (y i).2 := choose_lt (p := fun i (y : Cell × Value) => X i = [.int .i64 y.1.ref, .bool y.1.pin, .bool y.1.n.leaf, y.2] ∧ y.1.n.it.length ≤ big ∧ DRep W free0 (dItems y.1.n.it) y.2) fun i hi => by
    obtain ⟨n, D, p, h1, h2⟩ := hx i hi
    obtain ⟨c, v, e, h3, h4⟩ := rd_cell h1 h2
    exact ⟨(c, v), e, h3, h4⟩
  obtain ⟨y, hy⟩ := hy
  refine ⟨v, (List.range len).map fun i => (y i).1, rfl, ⟨by simpa using hl, fun i => ?_⟩, ?_⟩
  · by_cases hi : i < len
    · rw [nth_mk hi]; exact (hy i hi).2.1
    · rw [nth_out (by simp; omega)]; show 0 ≤ big; exact Nat.zero_le _
  · unfold dCells
    rw [show ((List.range len).map fun i => (y i).1).length = len by simp]
    refine hd _ fun i hi j z hz => ?_
    rw [nth_mk hi] at hz
    rw [(hy i hi).1]
    match j, hz with
    | 0, hz => simp [dCell] at hz; subst hz; exact ⟨_, rfl, drep_int _⟩
    | 1, hz => simp [dCell] at hz; subst hz; exact ⟨_, rfl, drep_bool _⟩
    | 2, hz => simp [dCell] at hz; subst hz; exact ⟨_, rfl, drep_bool _⟩
    | 3, hz => simp [dCell] at hz; subst hz; exact ⟨_, rfl, (hy i hi).2.2⟩
    | j + 4, hz => simp [dCell] at hz

theorem rd_heap {fuel : Nat} {cs : List Value} {x : DataW H × List MemPlace} (h : DataW.trod enc Try.prog W 0 (fun _ => true) true fuel 24 cs = some x) (hw : Wt 24 x.1) : ∃ v c keep, cs = [v, .int .i64 keep] ∧ Lim c ∧ DRep W free0 (dCells c) v := by
  obtain ⟨y0, y1, n, hx, hl, h0, h1⟩ := trod_struct2 Try.underlying24 h
  rw [cells24] at hl
  obtain ⟨a, b, rfl⟩ := list2 hl
  simp only [cells22, cells3, List.drop_zero, List.take_succ_cons, List.take_zero, List.drop_succ_cons] at h0 h1
  obtain ⟨k, e1⟩ := rd_int h1
  rw [hx] at hw
  have hw2 := wt_struct Try.underlying24 hw
  obtain ⟨v, c, e0, hl, hd⟩ := rd_cells h0 (fun n hn => hw2 n (by simp [DataW.weightsEach, hn]))
  simp only [List.cons.injEq, and_true] at e0 e1
  exact ⟨v, c, k, by rw [e0, e1], hl, hd⟩
end
end Go.Proofs.Abs
