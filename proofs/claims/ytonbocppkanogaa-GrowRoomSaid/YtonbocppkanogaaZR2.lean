/- What the input of a Grow law is: its reading says so. -/
import Derived.Test.YtonbocppkanogaaZR1
import Derived.Lib.SmallJoins
set_option linter.all false
namespace Go.Proofs.Abs
open Go Go.RowKit Go.Proofs Go.ChangeShapes Go.Deep Go.WideShapes

theorem Try.own : ownKnob Try.prog.godebug = none := by kernel_rfl
theorem Try.laidOut : laidOutB Try.prog = true := by kernel_rfl
section
variable {H : Type} {enc : TypeId × Value → H} {W : World}

theorem cells46 : Try.prog.cellsOf 46 = 6 := by kernel_rfl

theorem list6 {α : Type} {cs : List α} (h : cs.length = 6) : ∃ a b c d e f, cs = [a, b, c, d, e, f] := by
  match cs, h with
  | [a, b, c, d, e, f], _ => exact ⟨a, b, c, d, e, f, rfl⟩

theorem rep_v {w : World} {x v : Value} (h1 : x.oneCell' = true) (e : v = x) : Rep w cx0 0 (.d (.v x)) v := by
  subst e; exact .d (.v _ h1)

theorem drep_int' {w : World} {U : Nat → Prop} (n : Int) : DRep w U (dint n) (.int .i64 n) := .v _ rfl
theorem drep_bool' {w : World} {U : Nat → Prop} (n : Bool) : DRep w U (dbool n) (.bool n) := .v _ rfl

theorem rep_agg {w : World} {xs : List D} {cs : Array Value} (hl : cs.size = xs.length) (h : ∀ j x, xs[j]? = some x → DRep w cx0.U x (cs.getD j undef)) : Rep w cx0 0 (.agg (xs.map .d)) (.agg cs) := by
  refine .agg _ _ (by simpa using hl) fun j x hx => ?_
  rw [List.getElem?_map] at hx
  cases hy : xs[j]? with
  | none => rw [hy] at hx; cases hx
  | some y =>
    rw [hy] at hx
    cases hx
    exact .d (h j y hy)

set_option maxRecDepth 100000 in
theorem rd_pair {base : Nat} {v : Value} {d : DataW H} {p : List MemPlace} (hv : Value.okWide Try.prog W .any base 46 v) (h : DataW.Trod enc Try.prog W 0 (fun _ => true) true 46 v d p) (hw : Wt 46 d) :
    ∃ c keep root k x deep, Lim c ∧ Rep W cx0 0 (.agg [.d (dCells c), .d (dint keep), .d (dint root), .d (dint k), .d (dint x), .d (dbool deep)]) v := by
  obtain ⟨cs, rfl, hsz⟩ := okWide_struct Try.underlying46 hv
  obtain ⟨fuel, h⟩ := h
  obtain ⟨y0, y1, y2, y3, n, hx, hl, h0, h1, h2, h3⟩ := Go.Joins.trod_struct4 Try.underlying46 h
  rw [cells46] at hl
  obtain ⟨a0, a1, a2, a3, a4, a5, hcs⟩ := list6 hl
  cases hx
  have hw2 := wt_struct Try.underlying46 hw
  have hcs' : cs.toList = [a0, a1, a2, a3, a4, a5] := hcs
  obtain rfl : cs = #[a0, a1, a2, a3, a4, a5] := by rw [← hcs']
  simp only [hcs, cells24, cells3, cells26, cells4, List.drop_zero, List.take_succ_cons, List.take_zero, List.drop_succ_cons] at h0 h1 h2 h3
  obtain ⟨v, c, keep, e0, hL, hd⟩ := rd_heap h0 (fun n hn => hw2 n (by simp [DataW.weightsEach, hn]))
  obtain ⟨root, e1⟩ := rd_int h1
  obtain ⟨k, x, e2⟩ := rd_item h2
  obtain ⟨deep, e3⟩ := rd_bool h3
  simp only [List.cons.injEq, and_true] at e0 e1 e2 e3
  obtain ⟨rfl, rfl⟩ := e0
  obtain ⟨rfl, rfl⟩ := e2
  subst e1 e3
  refine ⟨c, keep, root, k, x, deep, hL, rep_agg (xs := [dCells c, dint keep, dint root, dint k, dint x, dbool deep]) rfl fun j z hz => ?_⟩
  match j, hz with
  | 0, hz => cases hz; exact hd
  | 1, hz => cases hz; exact drep_int' _
  | 2, hz => cases hz; exact drep_int' _
  | 3, hz => cases hz; exact drep_int' _
  | 4, hz => cases hz; exact drep_int' _
  | 5, hz => cases hz; exact drep_bool' _
end
end Go.Proofs.Abs
