/- The law GrowTells answers true, whatever the input, and leaves it as it was: no condition. -/
import Derived.Test.YtonbocppkanogaaZG2
import Derived.Test.YtonbocppkanogaaZR2
import Derived.Test.YtonbocppkanogaaRows
set_option linter.all false
namespace Go.Proofs.Ytonbocppkanogaa
open Go Go.RowKit Go.Proofs Go.ChangeShapes Go.WideShapes Go.ChangeAt Go.Proofs.Abs

theorem rep_true {w : World} {v : Value} (h : Rep w cx0 0 (abool true) v) : v = .bool true := by
  cases h with
  | d h => cases h; rfl

theorem shut_true {H : Type} {enc : TypeId × Value → H} {w : World} {base : Nat} {sp : Nat → Bool} {held : Bool} : DataW.Trod enc Try.prog w base sp held 4 (.bool true) (.lit (.bool true)) [] :=
  ⟨1, by simp [DataW.trod, Value.cells, Try.underlying4]⟩

theorem growTells_read : Try.prog.readableRec 29 = true := by kernel_rfl
theorem growTells_row : 29 < Try.prog.types.size := of_decide_eq_true (by kernel_rfl)

set_option maxRecDepth 100000 in
theorem growTells_lifted (os : Os) (started : os.Started) (H : Type) (enc : TypeId × Value → H) :
    ReturnsInHanded {} Try.checked os 3 .any (Rows.growTellsSpec.pre6 enc Try.prog Try.f3 Rows.growTellsRow.domain false) (Rows.growTellsSpec.post enc Try.prog Try.f3 false true false false) := by
  refine returnsInHanded_of_change_sized (C := Try.checked) Try.own started (by kernel_rfl) Try.func3
    (ChangeSpec.witness6 (enc := enc) (C := Try.checked) false ⟨#[], #[.agg #[.slice none 0 0, .int .i64 0, .int .i64 0, .int .i64 0, .int .i64 0, .bool false, .slice none 0 0]], []⟩ 8 (by kernel_rfl) (by kernel_rfl) (by kernel_rfl) (by kernel_rfl)) ?_
  intro W base args ds gs before hval0 hW hcnd hwt0 _
  have hval : ∀ (j : Nat) t v, Try.f3.params[j]? = some t → args[j]? = some v → Value.okWide Try.prog W .any base t v := hval0
  have hwt : (DataW.weightsEach Try.prog (Try.f3.params.toList ++ Rows.growTellsSpec.plain.varTypes Try.prog) (ds ++ gs)).all (· ≤ reachBytes) = true := hwt0
  have hW' := hW
  obtain ⟨p, q, hA0, hV, rfl, hfz, hnd⟩ := hW
  have hA : DataW.TrodAll enc Try.prog W 0 (fun _ => true) true Try.f3.params.toList args.toList ds p := hA0
  rw [Try.params3] at hA hval hwt
  obtain ⟨v0, d0, rfl, rfl, h0⟩ := trodAll_one hA
  obtain ⟨rfl, rfl⟩ := trodVars_none hV
  clear hA0 hval0 hwt0
  simp only [List.append_nil] at hW'
  have hw : Wt 29 d0 := fun n hn => by
    have := List.all_eq_true.1 hwt n (by simp [DataW.weightsEach, hn])
    simpa using this
  obtain ⟨c, keep, root, k, x, deep, l, hL, hl, hr⟩ := rd_tell (hval 0 29 v0 rfl rfl) h0 hw
  have hlt : ∀ x ∈ p, x.block < W.heap.size := fun x hx => by simpa using hW'.lt x hx
  refine ((pc_GrowTells c keep root k x deep l hL hl).calls (vs := #[v0]) ?_).mono fun e W' ⟨v, he, hb, hv⟩ => ?_
  · refine ⟨rfl, fun j x hx => ?_⟩
    match j, hx with
    | 0, hx => cases hx; exact hr
  · obtain rfl := rep_true hv
    exact ⟨_, he, [d0], [], p, [], p, [], hW', trodAll_mk1 shut_true, trodAll_mk1 (Below.trod Try.laidOut growTells_read growTells_row h0 hb hlt), rfl, hb.frame _, fun e => by cases e⟩

theorem growTells_holds : Rows.GrowTellsSaid :=
  OpenClaim.holds_of_wide 3 Try.f3 rfl rfl rfl rfl rfl rfl rfl ⟨rfl, rfl, rfl, rfl, rfl⟩ rfl rfl rfl rfl rfl (by kernel_rfl) Try.func3 (by kernel_rfl)
    (of_decide_eq_true (by kernel_rfl)) (by unfold Func.isWrapper; rw [if_neg (by decide +kernel)]; exact ⟨rfl, rfl⟩)
    (fun os started H enc _ => growTells_lifted os started H enc)
#print axioms growTells_holds

end Go.Proofs.Ytonbocppkanogaa
