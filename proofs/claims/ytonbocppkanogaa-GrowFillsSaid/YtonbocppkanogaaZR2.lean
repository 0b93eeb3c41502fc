/- What the input of a law is: its reading says so. -/
import Derived.Test.YtonbocppkanogaaZR1
import Derived.Lib.SmallJoins
set_option linter.all false
namespace Go.Proofs.Abs
open Go Go.RowKit Go.Proofs Go.ChangeShapes Go.Deep Go.WideShapes

theorem Try.own : ownKnob Try.prog.godebug = none := by kernel_rfl
theorem Try.laidOut : laidOutB Try.prog = true := by kernel_rfl
section
variable {H : Type} {enc : TypeId × Value → H} {W : World}

theorem cells46 : Try.prog.cellsOf 46 = 6 := by kernel_rfl

theorem cells29 : Try.prog.cellsOf 29 = 7 := by kernel_rfl
theorem cells51 : Try.prog.cellsOf 51 = 7 := by kernel_rfl
theorem list7 {α : Type} {cs : List α} (h : cs.length = 7) : ∃ a b c d e f g, cs = [a, b, c, d, e, f, g] := by
  match cs, h with
  | [a, b, c, d, e, f, g], _ => exact ⟨a, b, c, d, e, f, g, rfl⟩
theorem trod_struct5 {t : TypeId} {f0 f1 f2 f3 f4 : Field} {fuel : Nat} {cs : List Value} {x : DataW H × List MemPlace} (ht : Try.prog.underlying t = some (.struct #[f0, f1, f2, f3, f4])) (h : DataW.trod enc Try.prog W 0 (fun _ => true) true fuel t cs = some x) :
    ∃ y0 y1 y2 y3 y4 n, x = (.agg [y0.1, y1.1, y2.1, y3.1, y4.1], y0.2 ++ (y1.2 ++ (y2.2 ++ (y3.2 ++ y4.2)))) ∧ cs.length = Try.prog.cellsOf t ∧ DataW.trod enc Try.prog W 0 (fun _ => true) true n f0.type ((cs.drop f0.offset).take (Try.prog.cellsOf f0.type)) = some y0 ∧
      DataW.trod enc Try.prog W 0 (fun _ => true) true n f1.type ((cs.drop f1.offset).take (Try.prog.cellsOf f1.type)) = some y1 ∧ DataW.trod enc Try.prog W 0 (fun _ => true) true n f2.type ((cs.drop f2.offset).take (Try.prog.cellsOf f2.type)) = some y2 ∧
      DataW.trod enc Try.prog W 0 (fun _ => true) true n f3.type ((cs.drop f3.offset).take (Try.prog.cellsOf f3.type)) = some y3 ∧ DataW.trod enc Try.prog W 0 (fun _ => true) true n f4.type ((cs.drop f4.offset).take (Try.prog.cellsOf f4.type)) = some y4 := by
  obtain ⟨xs, n, _, rfl, hl, hlen, hf⟩ := DataW.trod_struct ht h
  match xs, hlen with
  | [y0, y1, y2, y3, y4], _ => exact ⟨y0, y1, y2, y3, y4, n, by simp, hl, by simpa using hf 0 f0 rfl, by simpa using hf 1 f1 rfl, by simpa using hf 2 f2 rfl, by simpa using hf 3 f3 rfl, by simpa using hf 4 f4 rfl⟩
theorem list6 {α : Type} {cs : List α} (h : cs.length = 6) : ∃ a b c d e f, cs = [a, b, c, d, e, f] := by
  match cs, h with
  | [a, b, c, d, e, f], _ => exact ⟨a, b, c, d, e, f, rfl⟩

theorem rep_v {w : World} {x v : Value} (h1 : x.oneCell' = true) (e : v = x) : Rep w cx0 0 (.d (.v x)) v := by
  subst e; exact .d (.v _ h1)

theorem drep_int' {w : World} {U : Nat → Prop} (n : Int) : DRep w U (dint n) (.int .i64 n) := .v _ rfl
theorem drep_bool' {w : World} {U : Nat → Prop} (n : Bool) : DRep w U (dbool n) (.bool n) := .v _ rfl

theorem rep_agg {w : World} {xs : List D} {cs : Array Value} (hl : cs.size = xs.length) (h : ∀ j x, xs[j]? = some x → DRep w cx0.U x (cs.getD j undef)) : Rep w cx0 0 (.agg (xs.map .d)) (.agg cs) := by
  refine .agg _ _ (by simpa using hl) fun j x hx => ?_
  rw [List.getElem?_map] at hx
  cases hy : xs[j]? with
  | none => rw [hy] at hx; cases hx
  | some y =>
    rw [hy] at hx
    cases hx
    exact .d (h j y hy)

set_option maxRecDepth 100000 in
theorem rd_pair {base : Nat} {v : Value} {d : DataW H} {p : List MemPlace} (hv : Value.okWide Try.prog W .any base 46 v) (h : DataW.Trod enc Try.prog W 0 (fun _ => true) true 46 v d p) (hw : Wt 46 d) :
    ∃ c keep root k x deep, Lim c ∧ Rep W cx0 0 (.agg [.d (dCells c), .d (dint keep), .d (dint root), .d (dint k), .d (dint x), .d (dbool deep)]) v := by
  obtain ⟨cs, rfl, hsz⟩ := okWide_struct Try.underlying46 hv
  obtain ⟨fuel, h⟩ := h
  obtain ⟨y0, y1, y2, y3, n, hx, hl, h0, h1, h2, h3⟩ := Go.Joins.trod_struct4 Try.underlying46 h
  rw [cells46] at hl
  obtain ⟨a0, a1, a2, a3, a4, a5, hcs⟩ := list6 hl
  cases hx
  have hw2 := wt_struct Try.underlying46 hw
  have hcs' : cs.toList = [a0, a1, a2, a3, a4, a5] := hcs
  obtain rfl : cs = #[a0, a1, a2, a3, a4, a5] := by rw [← hcs']
  simp only [hcs, cells24, cells3, cells26, cells4, List.drop_zero, List.take_succ_cons, List.take_zero, List.drop_succ_cons] at h0 h1 h2 h3
  obtain ⟨v, c, keep, e0, hL, hd⟩ := rd_heap h0 (fun n hn => hw2 n (by simp [DataW.weightsEach, hn]))
  obtain ⟨root, e1⟩ := rd_int h1
  obtain ⟨k, x, e2⟩ := rd_item h2
  obtain ⟨deep, e3⟩ := rd_bool h3
  simp only [List.cons.injEq, and_true] at e0 e1 e2 e3
  obtain ⟨rfl, rfl⟩ := e0
  obtain ⟨rfl, rfl⟩ := e2
  subst e1 e3
  refine ⟨c, keep, root, k, x, deep, hL, rep_agg (xs := [dCells c, dint keep, dint root, dint k, dint x, dbool deep]) rfl fun j z hz => ?_⟩
  match j, hz with
  | 0, hz => cases hz; exact hd
  | 1, hz => cases hz; exact drep_int' _
  | 2, hz => cases hz; exact drep_int' _
  | 3, hz => cases hz; exact drep_int' _
  | 4, hz => cases hz; exact drep_int' _
  | 5, hz => cases hz; exact drep_bool' _
set_option maxRecDepth 100000 in
theorem rd_tell {base : Nat} {v : Value} {d : DataW H} {p : List MemPlace} (hv : Value.okWide Try.prog W .any base 29 v) (h : DataW.Trod enc Try.prog W 0 (fun _ => true) true 29 v d p) (hw : Wt 29 d) :
    ∃ c keep root k x deep l, Lim c ∧ l.length ≤ big ∧ Rep W cx0 0 (.agg [.d (dCells c), .d (dint keep), .d (dint root), .d (dint k), .d (dint x), .d (dbool deep), .d (dItems l)]) v := by
  obtain ⟨cs, rfl, hsz⟩ := okWide_struct Try.underlying29 hv
  obtain ⟨fuel, h⟩ := h
  obtain ⟨y0, y1, y2, y3, y4, n, hx, hl, h0, h1, h2, h3, h4⟩ := trod_struct5 Try.underlying29 h
  rw [cells29] at hl
  obtain ⟨a0, a1, a2, a3, a4, a5, a6, hcs⟩ := list7 hl
  cases hx
  have hw2 := wt_struct Try.underlying29 hw
  have hcs' : cs.toList = [a0, a1, a2, a3, a4, a5, a6] := hcs
  obtain rfl : cs = #[a0, a1, a2, a3, a4, a5, a6] := by rw [← hcs']
  simp only [hcs, cells24, cells3, cells26, cells4, cells27, List.drop_zero, List.take_succ_cons, List.take_zero, List.drop_succ_cons] at h0 h1 h2 h3 h4
  obtain ⟨v, c, keep, e0, hL, hd⟩ := rd_heap h0 (fun n hn => hw2 n (by simp [DataW.weightsEach, hn]))
  obtain ⟨root, e1⟩ := rd_int h1
  obtain ⟨k, x, e2⟩ := rd_item h2
  obtain ⟨deep, e3⟩ := rd_bool h3
  obtain ⟨w, l, e4, hll, hdl⟩ := rd_items h4 (fun n hn => hw2 n (by simp [DataW.weightsEach, hn]))
  simp only [List.cons.injEq, and_true] at e0 e1 e2 e3 e4
  obtain ⟨rfl, rfl⟩ := e0
  obtain ⟨rfl, rfl⟩ := e2
  subst e1 e3 e4
  refine ⟨c, keep, root, k, x, deep, l, hL, hll, rep_agg (xs := [dCells c, dint keep, dint root, dint k, dint x, dbool deep, dItems l]) rfl fun j z hz => ?_⟩
  match j, hz with
  | 0, hz => cases hz; exact hd
  | 1, hz => cases hz; exact drep_int' _
  | 2, hz => cases hz; exact drep_int' _
  | 3, hz => cases hz; exact drep_int' _
  | 4, hz => cases hz; exact drep_int' _
  | 5, hz => cases hz; exact drep_bool' _
  | 6, hz => cases hz; exact hdl
set_option maxRecDepth 100000 in
theorem rd_two {base : Nat} {v : Value} {d : DataW H} {p : List MemPlace} (hv : Value.okWide Try.prog W .any base 51 v) (h : DataW.Trod enc Try.prog W 0 (fun _ => true) true 51 v d p) (hw : Wt 51 d) :
    ∃ c keep root k x k2 x2, Lim c ∧ Rep W cx0 0 (.agg [.d (dCells c), .d (dint keep), .d (dint root), .d (dint k), .d (dint x), .d (dint k2), .d (dint x2)]) v := by
  obtain ⟨cs, rfl, hsz⟩ := okWide_struct Try.underlying51 hv
  obtain ⟨fuel, h⟩ := h
  obtain ⟨y0, y1, y2, y3, n, hx, hl, h0, h1, h2, h3⟩ := Go.Joins.trod_struct4 Try.underlying51 h
  rw [cells51] at hl
  obtain ⟨a0, a1, a2, a3, a4, a5, a6, hcs⟩ := list7 hl
  cases hx
  have hw2 := wt_struct Try.underlying51 hw
  have hcs' : cs.toList = [a0, a1, a2, a3, a4, a5, a6] := hcs
  obtain rfl : cs = #[a0, a1, a2, a3, a4, a5, a6] := by rw [← hcs']
  simp only [hcs, cells24, cells3, cells26, List.drop_zero, List.take_succ_cons, List.take_zero, List.drop_succ_cons] at h0 h1 h2 h3
  obtain ⟨v, c, keep, e0, hL, hd⟩ := rd_heap h0 (fun n hn => hw2 n (by simp [DataW.weightsEach, hn]))
  obtain ⟨root, e1⟩ := rd_int h1
  obtain ⟨k, x, e2⟩ := rd_item h2
  obtain ⟨k2, x2, e3⟩ := rd_item h3
  simp only [List.cons.injEq, and_true] at e0 e1 e2 e3
  obtain ⟨rfl, rfl⟩ := e0
  obtain ⟨rfl, rfl⟩ := e2
  obtain ⟨rfl, rfl⟩ := e3
  subst e1
  refine ⟨c, keep, root, k, x, k2, x2, hL, rep_agg (xs := [dCells c, dint keep, dint root, dint k, dint x, dint k2, dint x2]) rfl fun j z hz => ?_⟩
  match j, hz with
  | 0, hz => cases hz; exact hd
  | 1, hz => cases hz; exact drep_int' _
  | 2, hz => cases hz; exact drep_int' _
  | 3, hz => cases hz; exact drep_int' _
  | 4, hz => cases hz; exact drep_int' _
  | 5, hz => cases hz; exact drep_int' _
  | 6, hz => cases hz; exact drep_int' _
end
end Go.Proofs.Abs
