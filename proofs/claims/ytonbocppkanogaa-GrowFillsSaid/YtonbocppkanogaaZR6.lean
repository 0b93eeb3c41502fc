/- The law GrowFills answers true, whatever the input, and leaves it as it was: no condition. -/
import Derived.Test.YtonbocppkanogaaZG4
import Derived.Test.YtonbocppkanogaaZR2
import Derived.Test.YtonbocppkanogaaRows
set_option linter.all false
namespace Go.Proofs.Ytonbocppkanogaa
open Go Go.RowKit Go.Proofs Go.ChangeShapes Go.WideShapes Go.ChangeAt Go.Proofs.Abs

theorem rep_true {w : World} {v : Value} (h : Rep w cx0 0 (abool true) v) : v = .bool true := by
  cases h with
  | d h => cases h; rfl

theorem shut_true {H : Type} {enc : TypeId × Value → H} {w : World} {base : Nat} {sp : Nat → Bool} {held : Bool} : DataW.Trod enc Try.prog w base sp held 4 (.bool true) (.lit (.bool true)) [] :=
  ⟨1, by simp [DataW.trod, Value.cells, Try.underlying4]⟩

theorem read5 : Try.prog.readableRec 5 = true := by kernel_rfl
theorem row5 : 5 < Try.prog.types.size := of_decide_eq_true (by kernel_rfl)
theorem read27 : Try.prog.readableRec 27 = true := by kernel_rfl
theorem row27 : 27 < Try.prog.types.size := of_decide_eq_true (by kernel_rfl)

theorem nat_of_u8 {n : Int} (h : (Lit.int .u8 n).wf = true) : ∃ m : Nat, n = (m : Nat) ∧ m < 256 := by
  have h1 : IntKind.u8.min ≤ n ∧ n ≤ IntKind.u8.max := by simpa [Lit.wf] using h
  have e1 : IntKind.u8.min = 0 := by decide
  have e2 : IntKind.u8.max = 255 := by decide
  rw [e1, e2] at h1
  exact ⟨n.toNat, by omega, by omega⟩

set_option maxRecDepth 100000 in
theorem growFills_lifted (os : Os) (started : os.Started) (H : Type) (enc : TypeId × Value → H) :
    ReturnsInHanded {} Try.checked os 6 .any (Rows.growFillsSpec.pre6 enc Try.prog Try.f6 Rows.growFillsRow.domain false) (Rows.growFillsSpec.post enc Try.prog Try.f6 false true false false) := by
  refine returnsInHanded_of_change_sized (C := Try.checked) Try.own started (by kernel_rfl) Try.func6
    (ChangeSpec.witness6 (enc := enc) (C := Try.checked) false ⟨#[], #[.int .u8 0, .slice none 0 0, .int .u8 0], []⟩ 8 (by kernel_rfl) (by kernel_rfl) (by kernel_rfl) (by kernel_rfl)) ?_
  intro W base args ds gs before hval0 hW hcnd hwt0 _
  have hval : ∀ (j : Nat) t v, Try.f6.params[j]? = some t → args[j]? = some v → Value.okWide Try.prog W .any base t v := hval0
  have hwt : (DataW.weightsEach Try.prog (Try.f6.params.toList ++ Rows.growFillsSpec.plain.varTypes Try.prog) (ds ++ gs)).all (· ≤ reachBytes) = true := hwt0
  have hW' := hW
  obtain ⟨p, q, hA0, hV, rfl, hfz, hnd⟩ := hW
  have hA : DataW.TrodAll enc Try.prog W 0 (fun _ => true) true Try.f6.params.toList args.toList ds p := hA0
  rw [Try.params6] at hA hval hwt
  obtain ⟨v0, v1, v2, d0, d1, d2, p0, p1, p2, rfl, rfl, rfl, h0, h1, h2⟩ := trodAll_three hA
  obtain ⟨rfl, rfl⟩ := trodVars_none hV
  clear hA0 hval0 hwt0
  simp only [List.append_nil] at hW'
  have h0k := h0
  have h2k := h2
  have hlt : ∀ x ∈ p0 ++ p1 ++ p2, x.block < W.heap.size := fun x hx => by simpa using hW'.lt x hx
  obtain ⟨a, rfl, rfl, rfl, wa⟩ := open_int Try.underlying5 (hval 0 5 v0 rfl rfl) h0
  obtain ⟨b, rfl, rfl, rfl, wb⟩ := open_int Try.underlying5 (hval 2 5 v2 rfl rfl) h2
  obtain ⟨n, rfl, hn⟩ := nat_of_u8 wa
  obtain ⟨m, rfl, hm⟩ := nat_of_u8 wb
  have hw : Wt 27 d1 := fun n hn => by
    have := List.all_eq_true.1 hwt n (by simp [DataW.weightsEach, hn])
    simpa using this
  have h1k := h1
  obtain ⟨A, len, cap, rfl⟩ := okWide_slice Try.underlying27 (hval 1 27 v1 rfl rfl)
  obtain ⟨fuel, h1⟩ := h1
  obtain ⟨v, l, e1, hl, hr⟩ := rd_items h1 hw
  obtain rfl : Value.slice A len cap = v := by simpa [Value.cells] using e1
  refine ((pc_GrowFills n m l hn hm hl).calls (vs := #[.int .u8 (n : Nat), .slice A len cap, .int .u8 (m : Nat)]) ?_).mono fun e W' ⟨v, he, hb, hv⟩ => ?_
  · refine ⟨rfl, fun j x hx => ?_⟩
    match j, hx with
    | 0, hx => cases hx; exact .d (.v _ rfl)
    | 1, hx => cases hx; exact .d hr
    | 2, hx => cases hx; exact .d (.v _ rfl)
  · obtain rfl := rep_true hv
    exact ⟨_, he, _, [], _, [], [] ++ (p1 ++ []), [], hW', trodAll_mk1 shut_true, trodAll_mk3 (Below.trod Try.laidOut read5 row5 h0k hb (by simp)) (Below.trod Try.laidOut read27 row27 h1k hb (fun x hx => hlt x (by simp [hx]))) (Below.trod Try.laidOut read5 row5 h2k hb (by simp)), rfl, hb.frame _, fun e => by cases e⟩

theorem growFills_holds : Rows.GrowFillsSaid :=
  OpenClaim.holds_of_wide 6 Try.f6 rfl rfl rfl rfl rfl rfl rfl ⟨rfl, rfl, rfl, rfl, rfl⟩ rfl rfl rfl rfl rfl (by kernel_rfl) Try.func6 (by kernel_rfl)
    (of_decide_eq_true (by kernel_rfl)) (by unfold Func.isWrapper; rw [if_neg (by decide +kernel)]; exact ⟨rfl, rfl⟩)
    (fun os started H enc _ => growFills_lifted os started H enc)
#print axioms growFills_holds

end Go.Proofs.Ytonbocppkanogaa
