/- The law GrowTwice answers true, whatever the input, and leaves it as it was: no condition. -/
import Derived.Test.YtonbocppkanogaaZG3
import Derived.Test.YtonbocppkanogaaZR2
import Derived.Test.YtonbocppkanogaaRows
set_option linter.all false
namespace Go.Proofs.Ytonbocppkanogaa
open Go Go.RowKit Go.Proofs Go.ChangeShapes Go.WideShapes Go.ChangeAt Go.Proofs.Abs

theorem rep_true {w : World} {v : Value} (h : Rep w cx0 0 (abool true) v) : v = .bool true := by
  cases h with
  | d h => cases h; rfl

theorem shut_true {H : Type} {enc : TypeId × Value → H} {w : World} {base : Nat} {sp : Nat → Bool} {held : Bool} : DataW.Trod enc Try.prog w base sp held 4 (.bool true) (.lit (.bool true)) [] :=
  ⟨1, by simp [DataW.trod, Value.cells, Try.underlying4]⟩

theorem growTwice_read : Try.prog.readableRec 51 = true := by kernel_rfl
theorem growTwice_row : 51 < Try.prog.types.size := of_decide_eq_true (by kernel_rfl)

set_option maxRecDepth 100000 in
theorem growTwice_lifted (os : Os) (started : os.Started) (H : Type) (enc : TypeId × Value → H) :
    ReturnsInHanded {} Try.checked os 5 .any (Rows.growTwiceSpec.pre6 enc Try.prog Try.f5 Rows.growTwiceRow.domain false) (Rows.growTwiceSpec.post enc Try.prog Try.f5 false true false false) := by
  refine returnsInHanded_of_change_sized (C := Try.checked) Try.own started (by kernel_rfl) Try.func5
    (ChangeSpec.witness6 (enc := enc) (C := Try.checked) false ⟨#[], #[.agg #[.slice none 0 0, .int .i64 0, .int .i64 0, .int .i64 0, .int .i64 0, .int .i64 0, .int .i64 0]], []⟩ 8 (by kernel_rfl) (by kernel_rfl) (by kernel_rfl) (by kernel_rfl)) ?_
  intro W base args ds gs before hval0 hW hcnd hwt0 _
  have hval : ∀ (j : Nat) t v, Try.f5.params[j]? = some t → args[j]? = some v → Value.okWide Try.prog W .any base t v := hval0
  have hwt : (DataW.weightsEach Try.prog (Try.f5.params.toList ++ Rows.growTwiceSpec.plain.varTypes Try.prog) (ds ++ gs)).all (· ≤ reachBytes) = true := hwt0
  have hW' := hW
  obtain ⟨p, q, hA0, hV, rfl, hfz, hnd⟩ := hW
  have hA : DataW.TrodAll enc Try.prog W 0 (fun _ => true) true Try.f5.params.toList args.toList ds p := hA0
  rw [Try.params5] at hA hval hwt
  obtain ⟨v0, d0, rfl, rfl, h0⟩ := trodAll_one hA
  obtain ⟨rfl, rfl⟩ := trodVars_none hV
  clear hA0 hval0 hwt0
  simp only [List.append_nil] at hW'
  have hw : Wt 51 d0 := fun n hn => by
    have := List.all_eq_true.1 hwt n (by simp [DataW.weightsEach, hn])
    simpa using this
  obtain ⟨c, keep, root, k, x, k2, x2, hL, hr⟩ := rd_two (hval 0 51 v0 rfl rfl) h0 hw
  have hlt : ∀ x ∈ p, x.block < W.heap.size := fun x hx => by simpa using hW'.lt x hx
  refine ((pc_GrowTwice c keep root k x k2 x2 hL).calls (vs := #[v0]) ?_).mono fun e W' ⟨v, he, hb, hv⟩ => ?_
  · refine ⟨rfl, fun j x hx => ?_⟩
    match j, hx with
    | 0, hx => cases hx; exact hr
  · obtain rfl := rep_true hv
    exact ⟨_, he, [d0], [], p, [], p, [], hW', trodAll_mk1 shut_true, trodAll_mk1 (Below.trod Try.laidOut growTwice_read growTwice_row h0 hb hlt), rfl, hb.frame _, fun e => by cases e⟩

theorem growTwice_holds : Rows.GrowTwiceSaid :=
  OpenClaim.holds_of_wide 5 Try.f5 rfl rfl rfl rfl rfl rfl rfl ⟨rfl, rfl, rfl, rfl, rfl⟩ rfl rfl rfl rfl rfl (by kernel_rfl) Try.func5 (by kernel_rfl)
    (of_decide_eq_true (by kernel_rfl)) (by unfold Func.isWrapper; rw [if_neg (by decide +kernel)]; exact ⟨rfl, rfl⟩)
    (fun os started H enc _ => growTwice_lifted os started H enc)
#print axioms growTwice_holds

end Go.Proofs.Ytonbocppkanogaa
