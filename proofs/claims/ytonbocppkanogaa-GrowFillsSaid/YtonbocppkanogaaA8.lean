/- What is computed of an operation is so: one operation's soundness. -/
import Derived.Test.YtonbocppkanogaaA7
set_option linter.all false
namespace Go.Proofs.Abs
open Go Go.RowKit

def Sound (P : Program) (o : Oper) (evF : Operand → AV) (m : Mem) (KP : List Nat → AV → Prop) (KI : List Nat → AV → Mem → Prop) : Prop :=
  (∃ rd v, KP rd v ∧ PureOp P o evF m rd v) ∨ ∃ wr v m', KI wr v m' ∧ ImpOp P o evF m wr v m'

section
variable {P : Program} {tab : Tab} {o : Oper} {ev : EvK} {evF : Operand → AV} {m : Mem} {KP : List Nat → AV → Prop} {KI : List Nat → AV → Mem → Prop}

theorem tabK_sound {t : Nat} {K : TI → Prop} (h : tabK tab t K) : ∃ i, tab t = some i ∧ K i := by
  unfold tabK at h
  split at h
  · exact ⟨_, by assumption, h⟩
  · exact h.elim

theorem intK_sound {v : AV} {K : IntKind → Int → Prop} (h : intK v K) : ∃ k n, v = aint k n ∧ K k n := by
  unfold intK at h
  split at h
  · exact ⟨_, _, rfl, h⟩
  · exact h.elim

theorem boolK_sound {v : AV} {K : Bool → Prop} (h : boolK v K) : ∃ b, v = abool b ∧ K b := by
  unfold boolK at h
  split at h
  · exact ⟨_, rfl, h⟩
  · exact h.elim

theorem rep_int {w : World} {cx : Cx} {L : Nat} {k : IntKind} {n : Int} {p : Value} (h : Rep w cx L (aint k n) p) : p = .int k n := by
  cases h with
  | d h => cases h with
    | v _ _ => rfl

theorem rep_bool {w : World} {cx : Cx} {L : Nat} {b : Bool} {p : Value} (h : Rep w cx L (abool b) p) : p = .bool b := by
  cases h with
  | d h => cases h with
    | v _ _ => rfl

theorem rep_int_mk (w : World) (cx : Cx) (L : Nat) (k : IntKind) (n : Int) : Rep w cx L (aint k n) (.int k n) := .d (.v _ rfl)
theorem rep_bool_mk (w : World) (cx : Cx) (L : Nat) (b : Bool) : Rep w cx L (abool b) (.bool b) := .d (.v _ rfl)

/-- An operation that leaves the world alone. -/
theorem pure_of {rd : List Nat} {v : AV} (hrd : ∀ k, k ∈ rd → ∃ B, m[k]? = some (some B))
    (h : ∀ (ρ : Operand → Value) (w : World) (cx : Cx) (m' : Mem), MemRep w cx m' → (∀ k, k ∈ rd → m'[k]? = m[k]?) → (∀ x, x ∈ o.op.operands → Rep w cx m'.length (evF x) (ρ x)) →
      ∃ v', (execOp ρ o).run P w = .ok (.value v') w ∧ Rep w cx m'.length v v') : PureOp P o evF m rd v :=
  ⟨hrd, fun ρ w cx m' hm ha hr => by
    obtain ⟨v', h1, h2⟩ := h ρ w cx m' hm ha hr
    exact Upon.value h1 ⟨Ext.refl _ _ _, hm, h2⟩⟩

theorem no_rd : ∀ k, k ∈ ([] : List Nat) → ∃ B, m[k]? = some (some B) := by simp

variable (hev : ∀ x K, ev x K → K (evF x))
include hev

theorem sound_move {x : Operand} (ho : o.op = .move x ∨ o.op = .assign x) (h : ev x fun v => KP [] v) : Sound P o evF m KP KI := by
  refine .inl ⟨_, _, hev x _ h, pure_of no_rd fun ρ w cx m' hm _ hr => ⟨ρ x, ?_, ?_⟩⟩
  · rcases ho with ho | ho <;> simp [execOp, ho]
  · rcases ho with ho | ho <;> exact hr x (by simp [ho, Op.operands])

theorem sound_pick {c a b : Operand} (ho : o.op = .pick c a b) (h : ev c fun vc => ev a fun va => ev b fun vb => boolK vc fun t => (t = true → KP [] va) ∧ (t = false → KP [] vb)) : Sound P o evF m KP KI := by
  have h := hev b _ (hev a _ (hev c _ h))
  obtain ⟨t, hc, h1, h2⟩ := boolK_sound h
  cases t with
  | true =>
    refine .inl ⟨_, _, h1 rfl, pure_of no_rd fun ρ w cx m' hm _ hr => ⟨ρ a, ?_, hr a (by simp [ho, Op.operands])⟩⟩
    have hcv := rep_bool (hc ▸ hr c (by simp [ho, Op.operands]))
    simp [execOp, ho, hcv, asBool]
  | false =>
    refine .inl ⟨_, _, h2 rfl, pure_of no_rd fun ρ w cx m' hm _ hr => ⟨ρ b, ?_, hr b (by simp [ho, Op.operands])⟩⟩
    have hcv := rep_bool (hc ▸ hr c (by simp [ho, Op.operands]))
    simp [execOp, ho, hcv, asBool]

omit hev in
theorem snoc_imp {o : Oper} {B : Blk} {v : AV}
    (h : ∀ (ρ : Operand → Value) (w : World) (cx : Cx), MemRep w cx m → (∀ x, x ∈ o.op.operands → Rep w cx m.length (evF x) (ρ x)) →
      Upon P o ρ w fun v' w' => ∃ cx', Ext m.length w cx w' cx' ∧ MemRep w' cx' (m ++ [some B]) ∧ Rep w' cx' (m.length + 1) v v') : ImpOp P o evF m [m.length] v (m ++ [some B]) := by
  refine ⟨by simp, fun k hk _ => List.getElem?_append_left hk, fun k h1 h2 => by simp at h2 ⊢; omega, fun ρ w cx hm hr => ?_⟩
  have := h ρ w cx hm hr
  simpa using this

omit hev in
theorem sound_alloc (ht : TabOK P tab) {e : Nat} (ho : o.op = .alloc e) (h : tabK tab e fun i => takeK AV.d i.size i.zero fun cs => lenK m fun k => snocK m (.cells cs) fun m' => KI [k] (.own k 0) m') : Sound P o evF m KP KI := by
  obtain ⟨i, hi, h⟩ := tabK_sound h
  obtain ⟨h1, h⟩ := takeK_sound h
  have h := snocK_sound (lenK_sound h)
  have hz : i.zero.take i.size = i.zero := by rw [(ht e i hi).size]; exact List.take_length
  rw [hz] at h
  refine .inr ⟨_, _, _, h, snoc_imp fun ρ w cx hm _ => ?_⟩
  refine Upon.value (v := .pointer (some ⟨w.heap.size, 0, none⟩)) (w' := w.alloc (.cells i.z.cells e)) (by simp [execOp, ho, run_alloc (ht e i hi)]) ?_
  exact ⟨_, push_rep hm (zero_rep (ht e i hi) w cx m.length) e⟩

theorem sound_box {e : Nat} {x : Operand} (ho : o.op = .box e x) (h : ev x fun v => flatK v fun cs => lenK m fun k => snocK m (.cells cs) fun m' => KI [k] (.own k 0) m') : Sound P o evF m KP KI := by
  obtain ⟨cs, h, hc⟩ := flatK_sound (hev x _ h)
  have h := snocK_sound (lenK_sound h)
  refine .inr ⟨_, _, _, h, snoc_imp fun ρ w cx hm hr => ?_⟩
  refine Upon.value (v := .pointer (some ⟨w.heap.size, 0, none⟩)) (w' := w.alloc (.cells (ρ x).cells e)) (by simp [execOp, ho, run_box]) ?_
  exact ⟨_, push_rep hm (hc w cx m.length _ (hr x (by simp [ho, Op.operands]))) e⟩

omit hev in
theorem agg_of_cells {w : World} {cx : Cx} {L : Nat} {cs : List AV} {arr : Array Value} (h : CellsRep w cx L cs arr.toList) : Rep w cx L (.agg cs) (.agg arr) := by
  refine .agg _ _ (by simpa using h.1) fun j x hx => ?_
  obtain ⟨y, hy, hr⟩ := h.2.2 j x hx
  have : arr[j]? = some y := by simpa using hy
  simpa [this] using hr

omit hev in
theorem mapM_places {fs : List Field} {pl : List (Nat × Nat)} (h : FieldsOK P fs pl) (w : World) : (fs.mapM fun f => (do pure (f.offset, ← sizeOf f.type) : Sem (Nat × Nat))).run P w = .ok pl w := by
  induction fs generalizing pl with
  | nil => cases pl with
    | nil => simp
    | cons => exact h.elim
  | cons f fs ih =>
    cases pl with
    | nil => exact h.elim
    | cons p pl =>
      obtain ⟨o, s⟩ := p
      obtain ⟨⟨h1, h2, h3⟩, h4⟩ := h
      obtain ⟨x, hx, hs⟩ := Option.map_eq_some_iff.1 h3
      have := ih h4
      simp [sizeOf, typeInfo, hx, hs, h1] at this ⊢
      simp [this]

theorem sound_build (ht : TabOK P tab) {t : Nat} {parts : Array (Nat × Operand)} (ho : o.op = .build t parts) (h : tabK tab t fun i => match i.d with
    | .struct _ => takeK AV.d i.size i.zero fun cs => fillK (placeK i.fields) ev parts.toList cs fun cs' => KP [] (.agg cs')
    | _ => False) : Sound P o evF m KP KI := by
  obtain ⟨i, hi, h⟩ := tabK_sound h
  have hT := ht t i hi
  split at h
  · rename_i fs hd
    obtain ⟨h1, h⟩ := takeK_sound h
    have hz : i.zero.take i.size = i.zero := by rw [hT.size]; exact List.take_length
    rw [hz] at h
    obtain ⟨cs', h, hf⟩ := fillK_sound (pl := fun (j : Nat) => i.fields[j]?) (fun j K hj => by
      obtain ⟨o, s, h1, h2⟩ := placeK_sound hj
      exact ⟨o, s, h1, h2⟩) hev h
    refine .inl ⟨_, _, h, pure_of no_rd fun ρ w cx m' hm _ hr => ?_⟩
    obtain ⟨arr', h3, h4⟩ := hf w cx m'.length ρ i.z.cells (fun q hq => hr q.2 (by
      simp only [ho, Op.operands]
      simp
      exact ⟨q.1, by simpa using hq⟩)) (zero_rep hT w cx m'.length)
    refine ⟨.agg arr', ?_, agg_of_cells h4⟩
    have hF := hT.fields
    rw [hd] at hF
    have hmp := mapM_places hF w
    have hu := hT.run_und w
    rw [hd] at hu
    have hmap : (Array.map (fun q => (q.1, ρ q.2)) parts).toList = parts.toList.map fun q => (q.1, ρ q.2) := by simp
    have harr : (fs.mapM fun f => (do pure (f.offset, ← sizeOf f.type) : Sem (Nat × Nat))).run P w = .ok i.fields.toArray w := by
      rw [Array.mapM_eq_mapM_toList]
      simp only [Sem.run_map, hmp, Result.andThen_ok]
    simp only [execOp, ho, Instr.build, Sem.run_bind, hT.run_zero w, Result.andThen_ok, hu, harr]
    simp [h3]
  · exact h.elim

omit hev in
theorem repK_sound {α : Type} : ∀ {n : Nat} {xs : List α} {K : List α → Prop}, repK n xs K → ∃ r, K r ∧ r.length = n * xs.length ∧ ∀ q, q < n * xs.length → r[q]? = xs[q % xs.length]?
  | 0, xs, K, h => ⟨[], h, by simp, fun q hq => by simp at hq⟩
  | n + 1, xs, K, h => by
    obtain ⟨r, h1, h2, h3⟩ := repK_sound (n := n) h
    refine ⟨xs ++ r, h1, by simp [h2, Nat.add_mul]; omega, fun q hq => ?_⟩
    rcases Nat.lt_or_ge q xs.length with hlt | hge
    · rw [List.getElem?_append_left hlt, Nat.mod_eq_of_lt hlt]
    · rw [List.getElem?_append_right hge, h3 _ (by rw [Nat.add_mul] at hq; omega), ← Nat.mod_eq_sub_mod hge]

omit hev in
theorem zeros_rep {e : Nat} {ie : TI} (hE : TyOK P e ie) (w : World) (cx : Cx) (L : Nat) {n : Nat} {r : List D} (hl : r.length = n * ie.zero.length) (hr : ∀ q, q < n * ie.zero.length → r[q]? = ie.zero[q % ie.zero.length]?) :
    CellsRep w cx L (r.map AV.d) ((Array.range (n * ie.size)).map (ie.z.cells[· % ie.z.cells.size]!)).toList := by
  have hz := zero_rep hE w cx L
  have hs : ie.z.cells.size = ie.size := by have := hz.1; rw [hE.size]; simpa using this
  have hlen : ie.zero.length = ie.size := hE.size.symm
  rw [hlen] at hl hr
  have hget : ∀ q, q < n * ie.size → ∃ v, ((Array.range (n * ie.size)).map (ie.z.cells[· % ie.z.cells.size]!)).toList[q]? = some v ∧ ie.z.cells.toList[q % ie.size]? = some v := by
    intro q hq
    have hpos : 0 < ie.size := by
      rcases Nat.eq_zero_or_pos ie.size with h0 | h0
      · rw [h0] at hq; simp at hq
      · exact h0
    have hm := Nat.mod_lt q hpos
    refine ⟨ie.z.cells[q % ie.z.cells.size]!, by simp [hq], ?_⟩
    rw [hs]
    have hb : q % ie.size < ie.z.cells.size := by omega
    simp [hb]
  refine ⟨by simp [hl], fun v hv => ?_, fun j x hx => ?_⟩
  · obtain ⟨q, hq⟩ := List.mem_iff_getElem?.1 hv
    have hlt := (List.getElem?_eq_some_iff.1 hq).1
    simp at hlt
    obtain ⟨v', h1, h2⟩ := hget q hlt
    rw [hq] at h1
    injection h1 with h1
    subst h1
    exact hz.2.1 _ (List.mem_of_getElem? h2)
  · have hlt := (List.getElem?_eq_some_iff.1 hx).1
    simp [hl] at hlt
    obtain ⟨v, h1, h2⟩ := hget j hlt
    simp only [List.getElem?_map, Option.map_eq_some_iff] at hx
    obtain ⟨y, hy, rfl⟩ := hx
    rw [hr j hlt] at hy
    obtain ⟨v', h3, h4⟩ := hz.2.2 (j % ie.size) (.d y) (by simp [hy])
    rw [h2] at h3
    injection h3 with h3
    subst h3
    exact ⟨v, h1, h4⟩

theorem sound_buildSlice (ht : TabOK P tab) {t len : Nat} {parts : Array (Nat × Operand)} (ho : o.op = .buildSlice t len parts) (h : tabK tab t fun i => match i.elem with
    | some e => tabK tab e fun ie => (len * ie.size ≤ 16777216 ∧ len ≤ big) ∧ repK len ie.zero fun z => takeK AV.d (len * ie.size) z fun cs => fillK (fun j K => K (j * ie.size) ie.size) ev parts.toList cs fun cs' => datK cs' fun ds =>
        KP [] (.d (.sl true ie.size len (fun q => (ds.drop (q * ie.size)).take ie.size)))
    | none => False) : Sound P o evF m KP KI := by
  obtain ⟨i, hi, h⟩ := tabK_sound h
  have hT := ht t i hi
  split at h
  · rename_i e hd
    obtain ⟨ie, hie, ⟨hlim, hbig⟩, h⟩ := tabK_sound h
    have hE := ht e ie hie
    obtain ⟨z, h, hzl, hzg⟩ := repK_sound h
    obtain ⟨h1, h⟩ := takeK_sound h
    have hzt : z.take (len * ie.size) = z := by rw [hE.size, ← hzl]; exact List.take_length
    rw [hzt] at h
    obtain ⟨cs', h, hf⟩ := fillK_sound (pl := fun j => some (j * ie.size, ie.size)) (fun j K hj => ⟨_, _, rfl, hj⟩) hev h
    obtain ⟨ds, hds, hK⟩ := datK_sound h
    subst hds
    refine .inl ⟨_, _, hK, no_rd, fun ρ w cx m' hm _ hr => ?_⟩
    obtain ⟨arr', h3, h4⟩ := hf w cx m'.length ρ _ (fun q hq => hr q.2 (by
      simp only [ho, Op.operands]
      simp
      exact ⟨q.1, by simpa using hq⟩)) (zeros_rep hE w cx m'.length hzl hzg)
    have hel := hT.elem
    rw [hd] at hel
    have hu := hT.run_und w
    have hsl : i.d = .slice e := by
      cases hdd : i.d <;> rw [hdd] at hel <;> simp at hel
      rw [hel]
    rw [hsl] at hu
    have hmap : (Array.map (fun q => (q.1, ρ q.2)) parts).toList = parts.toList.map fun q => (q.1, ρ q.2) := by simp
    have hnl : ¬ (len * ie.size > 2 ^ 24) := by omega
    have hrun : (execOp ρ o).run P w = .ok (.value (.slice (some ⟨w.heap.size, 0, none⟩) len len)) (w.alloc (.cells arr' e)) := by
      simp only [execOp, ho, Instr.buildSlice, Sem.run_bind, hu, Result.andThen_ok, hE.run_size w, Sem.run_ite, hnl, if_false]
      by_cases h0 : len * ie.size = 0
      · have harr : (Array.range (len * ie.size)).map (ie.z.cells[· % ie.z.cells.size]!) = #[] := by simp [h0, Array.range_zero']
        rw [harr] at h3
        simp [h0, h3, newRow, Array.range_zero']
      · simp [h0, hE.run_zero w, h3, newRow]
    refine Upon.value hrun ?_
    have hE2 : Ext m'.length w cx (w.alloc (.cells arr' e)) cx := Ext.of_below (Below.alloc (Below.refl _ _) (Nat.le_refl _) _)
    refine ⟨hE2, hm.grown (Below.alloc (Below.refl _ _) (Nat.le_refl _) _), .d ?_⟩
    have hU : ¬ cx.U w.heap.size := by
      rintro (hv | ⟨k, oo, c, e'⟩)
      · have := hm.there _ hv; omega
      · obtain ⟨B, hB⟩ := hm.live k _ e'
        have := (hm.blk k B hB).lt e'
        omega
    have hds := rep_of_map h4
    have hy : ∀ q : Nat, ∃ y, ∀ x, ds[q]? = some x → arr'[q]? = some y ∧ DRep w cx.U x y := by
      intro q
      cases hx : ds[q]? with
      | none => exact ⟨undef, by simp⟩
      | some x =>
        obtain ⟨y, h1, h2⟩ := hds q x hx
        exact ⟨y, fun x' e' => by injection e' with e'; subst e'; exact ⟨by simpa using h1, h2⟩⟩
    obtain ⟨y, hy⟩ := Classical.axiomOfChoice hy
    refine .sl true ie.size len _ w.heap.size 0 len (fun a b => y (a * ie.size + b)) hbig (Nat.le_refl _) (fun _ => rfl) ?_ (by simp) (fun a b x _ hx => ?_) (fun a b x _ hx => ?_)
    · exact fun hu => hU hu
    · rw [List.getElem?_take] at hx
      split at hx
      · rw [List.getElem?_drop] at hx
        rw [cell_arr (heap_alloc_at _ _), Nat.zero_add]
        exact (hy _ x hx).1
      · cases hx
    · rw [List.getElem?_take] at hx
      split at hx
      · rw [List.getElem?_drop] at hx
        exact (hy _ x hx).2.ext hE2
      · cases hx
  · exact h.elim
end
end Go.Proofs.Abs
