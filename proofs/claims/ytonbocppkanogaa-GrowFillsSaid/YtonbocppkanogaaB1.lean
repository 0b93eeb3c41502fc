/- One operation's soundness: addresses, built-ins, calls; all kinds together. -/
import Derived.Test.YtonbocppkanogaaA9
set_option linter.all false
namespace Go.Proofs.Abs
open Go Go.RowKit

theorem push_void {w : World} {cx : Cx} {m : Mem} (hm : MemRep w cx m) (s : Nat) (f : Nat → List D) :
    Ext m.length w cx w (cx.put m.length (some .void)) ∧ MemRep w (cx.put m.length (some .void)) (m ++ [some (.arr s 0 f)]) := by
  have hnone := hm.none_from (Nat.le_refl _)
  have hE : Ext m.length w cx w (cx.put m.length (some .void)) := by
    refine ⟨rfl, rfl, rfl, Nat.le_refl _, rfl, fun _ _ _ => rfl, ?_, ?_, ?_⟩
    · intro q b o' c' e'
      by_cases hq : q = m.length
      · subst hq; rw [Cx.put_same] at e'; cases e'
      · rw [Cx.put_other _ _ hq] at e'; exact .inl ⟨q, o', c', e'⟩
    · intro q pl _ e'
      by_cases hq : q = m.length
      · subst hq; rw [hnone] at e'; cases e'
      · rw [Cx.put_other _ _ hq]; exact .inl e'
    · intro q hq e'
      rw [Cx.put_other _ _ (by omega)]; exact e'
  refine ⟨hE, ?_, ?_, ?_, ?_, hm.there⟩
  · intro q B hq
    rw [List.length_append, List.length_singleton]
    rcases Nat.lt_or_ge q m.length with hlt | hge
    · rw [List.getElem?_append_left hlt] at hq
      exact (hm.blk q B hq).ext hE (Nat.le_succ _) (Cx.put_other _ _ (by omega)) fun _ _ _ _ => rfl
    · rw [List.getElem?_append_right hge] at hq
      have : q = m.length := by
        have := (List.getElem?_eq_some_iff.1 hq).1
        simp at this
        omega
      subst this
      simp at hq
      subst hq
      exact ⟨Nat.zero_le _, .inl ⟨Cx.put_same _ _ _, rfl⟩⟩
  · intro q pl e'
    by_cases hq : q = m.length
    · subst hq; exact ⟨_, by simp; rfl⟩
    · rw [Cx.put_other _ _ hq] at e'
      obtain ⟨B, hB⟩ := hm.live q pl e'
      exact ⟨B, by rw [List.getElem?_append_left (List.getElem?_eq_some_iff.1 hB).1]; exact hB⟩
  · intro q q' b o1 c1 o2 c2 e1 e2
    by_cases hq : q = m.length
    · subst hq; rw [Cx.put_same] at e1; cases e1
    by_cases hq' : q' = m.length
    · subst hq'; rw [Cx.put_same] at e2; cases e2
    rw [Cx.put_other _ _ hq] at e1
    rw [Cx.put_other _ _ hq'] at e2
    exact hm.inj q q' b o1 c1 o2 c2 e1 e2
  · intro q b o1 c1 e1
    by_cases hq : q = m.length
    · subst hq; rw [Cx.put_same] at e1; cases e1
    rw [Cx.put_other _ _ hq] at e1
    exact hm.apart q b o1 c1 e1

section
variable {P : Program} {tab : Tab} {o : Oper} {ev : EvK} {evF : Operand → AV} {m : Mem} {KP : List Nat → AV → Prop} {KI : List Nat → AV → Mem → Prop}
variable (hev : ∀ x K, ev x K → K (evF x))
include hev

theorem sound_fieldAddr (ht : TabOK P tab) {t f : Nat} {x : Operand} (ho : o.op = .fieldAddr t x f) (h : tabK tab t fun i => placeK i.fields f fun off _ => ev x fun v => liveK m v fun rd => match v with
    | .own k o => KP rd (.own k (o + off))
    | .ownE k s q j => KP rd (.ownE k s q (j + off))
    | .dp cs => dropK off cs fun r => KP rd (.dp r)
    | _ => False) : Sound P o evF m KP KI := by
  obtain ⟨i, hi, h⟩ := tabK_sound h
  have hT := ht t i hi
  obtain ⟨off, s, hf, h⟩ := placeK_sound h
  have h := hev x _ h
  obtain ⟨rd, h, hrd, hl⟩ := liveK_sound h
  have hox : x ∈ o.op.operands := by simp [ho, Op.operands]
  split at h
  · rename_i k oo hx
    refine .inl ⟨rd, _, h, pure_of hrd fun ρ w cx m' hm ha hr => ?_⟩
    have hv := hr x hox
    obtain ⟨b, p, hp⟩ := hl w cx m' _ hm ha hv
    refine ⟨.pointer (some ⟨b, p + off, none⟩), by simp [execOp, ho, hp, run_fieldAt hT hf], ?_⟩
    rw [hx, hp] at hv
    cases hv with
    | own _ _ _ hk h1 hv =>
      refine .own _ _ _ hk rfl fun b' o' c' e => ?_
      have := hv b' o' c' e
      injection this with this
      injection this with this
      injection this with q1 q2
      subst q1; subst q2
      rw [Nat.add_assoc]
  · rename_i k s q j hx
    refine .inl ⟨rd, _, h, pure_of hrd fun ρ w cx m' hm ha hr => ?_⟩
    have hv := hr x hox
    obtain ⟨b, p, hp⟩ := hl w cx m' _ hm ha hv
    refine ⟨.pointer (some ⟨b, p + off, none⟩), by simp [execOp, ho, hp, run_fieldAt hT hf], ?_⟩
    rw [hx, hp] at hv
    cases hv with
    | ownE _ _ _ _ _ hk h1 hv =>
      refine .ownE _ _ _ _ _ hk rfl fun b' o' c' e => ?_
      have := hv b' o' c' e
      injection this with this
      injection this with this
      injection this with q1 q2
      subst q1; subst q2
      simp [Nat.add_assoc]
  · rename_i cs hx
    obtain ⟨hd, h⟩ := dropK_sound h
    refine .inl ⟨rd, _, h, pure_of hrd fun ρ w cx m' hm ha hr => ?_⟩
    have hv := hr x hox
    rw [hx] at hv
    generalize hp : ρ x = p at hv
    cases hv with
    | dp cs b oo y hU hb hc hrep =>
      refine ⟨.pointer (some ⟨b, oo + off, none⟩), by simp [execOp, ho, hp, run_fieldAt hT hf], ?_⟩
      refine .dp _ b (oo + off) (fun j => y (off + j)) hU hb (fun j z hz => ?_) (fun j z hz => ?_)
      · rw [List.getElem?_drop] at hz
        rw [Nat.add_assoc]
        exact hc _ z hz
      · rw [List.getElem?_drop] at hz
        exact hrep _ z hz
  · exact h.elim

theorem sound_indexAddr (ht : TabOK P tab) {t : Nat} {x ix : Operand} (ho : o.op = .indexAddr t x ix) (h : tabK tab t fun i => match i.elem with
    | some e => tabK tab e fun ie => ev x fun v => ev ix fun iv => intK iv fun _ z => match v with
      | .d (.sl _ s n f) => ∃ q : Nat, (z = (q : Int) ∧ q < n ∧ s = ie.size) ∧ KP [] (.dp (f q))
      | .row k s st len => blkK m k fun B => match B with
        | .arr s' n _ => ∃ q : Nat, (z = (q : Int) ∧ q < len ∧ st + len ≤ n ∧ s = ie.size ∧ s' = s) ∧ plusK q st fun j => KP [k] (.ownE k s j 0)
        | _ => False
      | _ => False
    | none => False) : Sound P o evF m KP KI := by
  obtain ⟨i, hi, h⟩ := tabK_sound h
  have hT := ht t i hi
  split at h
  · rename_i e he
    obtain ⟨ie, hie, h⟩ := tabK_sound h
    have hE := ht e ie hie
    have h := hev ix _ (hev x _ h)
    obtain ⟨ki, z, hz, h⟩ := intK_sound h
    have hox : x ∈ o.op.operands := by simp [ho, Op.operands]
    have hoi : ix ∈ o.op.operands := by simp [ho, Op.operands]
    split at h
    · rename_i tt s n f hx
      obtain ⟨q, ⟨hzq, hq, hs⟩, h⟩ := h
      subst hzq
      refine .inl ⟨_, _, h, pure_of no_rd fun ρ w cx m' hm _ hr => ?_⟩
      have hv := hr x hox
      have hiv := rep_int (hz ▸ hr ix hoi)
      rw [hx] at hv
      generalize hp : ρ x = p at hv
      cases hv with
      | d hv =>
        cases hv with
        | nil => omega
        | sl _ _ _ _ b oo c y hn hc htt hU hb hcell hrep =>
          refine ⟨.pointer (some ⟨b, oo + q * ie.size, none⟩), by simp [execOp, ho, hp, hiv, run_indexAt hT he hE w b oo n c ki hq], ?_⟩
          rw [← hs]
          refine .dp _ b _ (y q) hU hb (fun j u hu => ?_) (fun j u hu => hrep q j u hq hu)
          rw [Nat.add_assoc]
          exact hcell q j u hq hu
    · rename_i k s st len hx
      obtain ⟨B, hB, h⟩ := blkK_sound h
      cases B with
      | cells => exact h.elim
      | arr s' n f =>
        obtain ⟨q, ⟨hzq, hq, hn, hs, hs'⟩, h5⟩ := h
        subst hzq
        have h5 := plusK_sound h5
        refine .inl ⟨_, _, h5, pure_of (by simpa using ⟨_, hB⟩) fun ρ w cx m' hm ha hr => ?_⟩
        have hv := hr x hox
        have hiv := rep_int (hz ▸ hr ix hoi)
        rw [hx] at hv
        have hB' : m'[k]? = some (some (.arr s' n f)) := by rw [ha k (by simp)]; exact hB
        obtain ⟨_, e5⟩ := hm.blk k _ hB'
        rcases e5 with ⟨_, e7⟩ | ⟨b, oo, cc, arr, te, e1, _⟩
        · omega
        · generalize hp : ρ x = p at hv
          cases hv with
          | row k s st len v hkL hv1 hv h0 =>
            obtain ⟨rfl, hc⟩ := hv b oo cc e1
            refine ⟨.pointer (some ⟨b, oo + st * s + q * ie.size, none⟩), by simp [execOp, ho, hp, hiv, run_indexAt hT he hE w b (oo + st * s) len (cc - st) ki hq], ?_⟩
            refine .ownE _ _ _ _ _ hkL rfl fun b' o' c' e' => ?_
            rw [e1] at e'
            injection e' with e'
            injection e' with q1 q2 q3
            subst q1; subst q2; subst q3
            rw [hs, Nat.add_comm q st, Nat.add_mul, Nat.add_zero, Nat.add_assoc]
    · exact h.elim
  · exact h.elim

omit hev in
theorem run_builtin {b : Builtin} {c : Call} {ρ : Operand → Value} {w : World} (ho : o.op = .call c) (hc : c.callee = .builtin b) :
    ∃ cs, (execOp ρ o).run P w = (builtin b c.argTypes o.type cs (c.args.map ρ)).run P w := by
  simp only [execOp, ho, resolve, hc, invoke, pure_bind]
  exact ⟨_, rfl⟩

omit hev in
theorem sound_append (ht : TabOK P tab) {t1 t2 e : Nat} {i1 i2 ie : TI} (h1 : tab t1 = some i1) (h2 : tab t2 = some i2) (he : tab e = some ie) (d1 : i1.elem = some e) {e2 : Nat} (d2 : i2.elem = some e2)
    {s x : Operand} {c : Call} (ho : o.op = .call c) (hc : c.callee = .builtin .append) (hat : c.argTypes = #[t1, t2]) (hargs : c.args = #[s, x]) (h : appendK m ie (evF s) (evF x) KI) : Sound P o evF m KP KI := by
  have hT1 := ht t1 i1 h1
  have hT2 := ht t2 i2 h2
  have hE := ht e ie he
  have D1 := elem_slice hT1 d1
  have D2 := elem_slice hT2 d2
  have hos : s ∈ o.op.operands := by simp [ho, Op.operands, Call.operands, hargs, hc]
  have hox : x ∈ o.op.operands := by simp [ho, Op.operands, Call.operands, hargs, hc]
  have up : ∀ {ρ : Operand → Value} {w w' : World} {v' : Value} {R : Value → World → Prop}, (Builtin.append_ #[t1, t2] o.type #[ρ s, ρ x]).run P w = .ok v' w' → R v' w' → Upon P o ρ w R := by
    intro ρ w w' v' R hrun hR
    refine Upon.value ?_ hR
    obtain ⟨cs, e'⟩ := run_builtin (P := P) (ρ := ρ) (w := w) ho hc
    rw [e']
    simp [builtin, hat, hargs, hrun]
  unfold appendK at h
  obtain ⟨rd, sx, mx, g, h, _, hread⟩ := sliceK_sound h
  obtain ⟨⟨hsx, hg⟩, h⟩ := h
  have src : ∀ {ρ : Operand → Value} {w : World} {cx : Cx}, MemRep w cx m → (∀ x, x ∈ o.op.operands → Rep w cx m.length (evF x) (ρ x)) → SlReads w cx.U (ρ x) ie.size mx g := fun hm hr =>
    (hread _ _ m _ hm (fun _ _ => rfl) (hr x hox)).sized hsx
  split at h
  · rename_i tt sz n f hs
    obtain ⟨⟨⟨rfl, hpos⟩, hsz, hf, hb, hl⟩, h⟩ := h
    have h := snocK_sound (lenK_sound h)
    refine .inr ⟨_, _, _, h, snoc_imp fun ρ w cx hm hr => ?_⟩
    have hv := hr s hos
    rw [hs] at hv
    have hsl : SlReads w cx.U (ρ s) ie.size n f := by
      have := (@sliceK_sound m (.d (.sl true sz n f)) (fun _ s' n' f' => s' = sz ∧ n' = n ∧ f' = f) ⟨rfl, rfl, rfl⟩)
      obtain ⟨_, s', n', f', ⟨rfl, rfl, rfl⟩, _, hh⟩ := this
      exact (hh w cx m _ hm (fun _ _ => by simp_all) hv).sized (hsz.imp id id)
    have hcap : ∀ A q c, ρ s = .slice A q c → q = n ∧ c = n := by
      intro A q c e'
      rw [e'] at hv
      cases hv with
      | d hv =>
        cases hv with
        | nil _ _ _ A c hc => exact ⟨rfl, hc rfl⟩
        | sl _ _ _ _ b oo c y _ _ htt => exact ⟨rfl, htt rfl⟩
    by_cases hroom : n < n + mx
    · obtain ⟨v', w', cx', a1, a2, a3, a4⟩ := app_new (ty := o.type) hm hT1 D1 hT2 D2 hE hsl (src hm hr) hf hg (fun A q c e' => by obtain ⟨rfl, rfl⟩ := hcap A q c e'; exact hroom) hb hl
      exact up a1 ⟨cx', a2, a3, a4⟩
    · -- nothing is appended to nothing
      have hmx : mx = 0 := by omega
      have hn : n = 0 := by omega
      subst hmx; subst hn
      obtain ⟨news, ln, rn, _, _⟩ := SlReads.flat (P := P) (src hm hr) (Nat.le_refl 0) hg
      obtain ⟨xA, xc, hxv, _, _, _⟩ := src hm hr
      obtain ⟨A, c, hsv, _, _, _⟩ := hsl
      have hc0 := (hcap A 0 c hsv).2
      subst hc0
      obtain rfl : news = [] := List.eq_nil_of_length_eq_zero (by simpa using ln)
      rw [hxv] at rn
      have hrun := (run_append_fits (ty := o.type) w hT1 D1 hT2 D2 hE A xA 0 0 0 xc [] rn (Nat.le_refl _)).1 rfl
      rw [← hsv, ← hxv] at hrun
      have hv0 := push_void hm ie.size (appF 0 f g)
      refine up hrun ⟨cx.put m.length (some .void), hv0.1, hv0.2, ?_⟩
      exact .row _ _ _ _ _ (by simp) (by rw [hsv]; rfl) (fun b o' c' e' => by rw [Cx.put_same] at e'; cases e') (fun _ => ⟨rfl, rfl, A, hsv⟩)
  · rename_i k sz st len hs
    obtain ⟨B, hB, h⟩ := blkK_sound h
    cases B with
    | cells => exact h.elim
    | arr s' n f =>
      obtain ⟨⟨hsz, hs', hf⟩, h5⟩ := h
      subst hsz; subst hs'
      rcases h5 with ⟨hin, h⟩ | ⟨⟨hend, hb, hl⟩, h⟩
      · have h := memSetK_sound h
        refine .inr ⟨_, _, _, h, by simp, fun q _ hq => List.getElem?_set_ne (fun e => hq (by simp [e])), fun q h1 h2 => by simp at h2; omega, fun ρ w cx hm hr => ?_⟩
        have hv := hr s hos
        rw [hs] at hv
        obtain ⟨v', w', a1, a2, a3, a4⟩ := app_in (ty := o.type) hm hT1 D1 hT2 D2 hE hB hv (src hm hr) (fun i hi => Nat.le_of_eq (hf i hi)) hg hin
        exact up a1 ⟨cx, a2, a3, by simpa using a4⟩
      · have h := snocK_sound (memSetK_sound (lenK_sound h))
        refine .inr ⟨_, _, _, h, by simp, fun q hq1 hq => ?_, fun q h1 h2 => by simp at h2 ⊢; omega, fun ρ w cx hm hr => ?_⟩
        · rw [List.getElem?_append_left (by simpa using hq1)]
          exact List.getElem?_set_ne (fun e => hq (by simp [e]))
        · have hv := hr s hos
          rw [hs] at hv
          obtain ⟨v', w', cx', a1, a2, a3, a4⟩ := app_end (ty := o.type) hm hT1 D1 hT2 D2 hE hB hv (src hm hr) hf hg hend hb hl
          exact up a1 ⟨cx', a2, a3, by simpa using a4⟩
  · exact h.elim

omit hev in
theorem run_room (w : World) {t1 t2 e ty : Nat} {i1 i2 ie : TI} (h1 : TyOK P t1 i1) (d1 : i1.d = .slice e) (h2 : TyOK P t2 i2) {kk : IntKind} (d2 : i2.d = .int kk) (he : TyOK P e ie) (A : Option Addr) (k : IntKind) (q : Nat)
    (hq : 0 < q) (hb : q * ie.bytes ≤ big) (hl : q ≤ big) (hsz : 0 < ie.size) :
    ∃ (cap : Nat) (rest : Array Value), q ≤ cap ∧ rest.size = (cap - q) * ie.size ∧
      (Builtin.append_ #[t1, t2] ty #[.slice A 0 0, .int k (q : Int)]).run P w = .ok (.slice (some ⟨w.heap.size, 0, none⟩) q cap) (w.drew.alloc (.cells (Builtin.zeroCells ie.z.cells q ++ rest) e)) := by
  have u1 := h1.und
  have u2 := h2.und
  rw [d1] at u1
  rw [d2] at u2
  obtain ⟨x, hi, hz, hs, hby⟩ := he.inf
  have hfit := growslice_fits (need := q) (old := 0) (bytes := ie.bytes) hq (by simpa [big] using hb)
  rw [← hby] at hfit
  have h48 : ¬ (281474976710656 < Builtin.nextslicecap q 0 * x.bytes) := by omega
  have h63 : ¬ (9223372036854775807 < (q : Int)) := by simp only [big] at hl; omega
  have hw : IntKind.i64.wrap (q : Int) = (q : Int) := by rw [IntKind.wrap_i64]; simp only [big] at hl; omega
  have hb2 : ¬ ((281474976710656 : Int) < (q : Int) * (x.bytes : Int)) := by
    rw [hby, ← Int.natCast_mul]
    simp only [big] at hb; omega
  have hzs : ie.z.cells.size = ie.size := by have := he.zero.length; rw [he.size]; simpa using this.symm
  have hnq : ¬ (q = 0) := by omega
  have hneg : ¬ ((q : Int) < 0) := by omega
  have hmx : max (q : Int) 0 = (q : Int) := by omega
  have hqs : ¬ (q * x.size = 0) := by rw [hs]; exact Nat.ne_of_gt (Nat.mul_pos hq hsz)
  refine ⟨grownCap w q 0 e, Builtin.zeroCells ie.z.cells (grownCap w q 0 e - q), grownCap_ge w _ _ _, by rw [size_zeroCells, hzs], ?_⟩
  cases A <;> simp [Builtin.append_, run_underlying u1, run_underlying u2, sizeOf, typeInfo, zeroValue, hi, hz, asInt, asIntOf, hw, hb2, hnq, h63, hneg, hmx, hqs, h48, Question.forced, newRow, grownCap, Builtin.firstCells, loadCells, loadCellsFrom]

omit hev in
theorem sound_room (ht : TabOK P tab) {t1 t2 e : Nat} {i1 i2 ie : TI} (h1 : tab t1 = some i1) (h2 : tab t2 = some i2) (he : tab e = some ie) (d1 : i1.elem = some e) {kk : IntKind} (d2 : i2.d = .int kk)
    {s x : Operand} {c : Call} (ho : o.op = .call c) (hc : c.callee = .builtin .append) (hat : c.argTypes = #[t1, t2]) (hargs : c.args = #[s, x]) (h : roomK m ie (evF s) (evF x) KI) : Sound P o evF m KP KI := by
  have hT1 := ht t1 i1 h1
  have hT2 := ht t2 i2 h2
  have hE := ht e ie he
  have D1 := elem_slice hT1 d1
  have hos : s ∈ o.op.operands := by simp [ho, Op.operands, Call.operands, hargs, hc]
  have hox : x ∈ o.op.operands := by simp [ho, Op.operands, Call.operands, hargs, hc]
  unfold roomK at h
  split at h
  · rename_i tt sz n f hs
    obtain ⟨k, z, hx, q, ⟨rfl, rfl, rfl, hq, hb, hl, hsz⟩, h5⟩ := intK_sound h
    have h6 := snocK_sound (lenK_sound h5)
    refine .inr ⟨_, _, _, h6, snoc_imp fun ρ w cx hm hr => ?_⟩
    have hxv := rep_int (hx ▸ hr x hox)
    have hv := hr s hos
    rw [hs] at hv
    have hsv : ∃ A, ρ s = .slice A 0 0 := by
      generalize ρ s = p at hv
      cases hv with
      | d hv =>
        cases hv with
        | nil _ _ _ A c hc => exact ⟨A, by rw [hc rfl]⟩
        | sl _ _ _ _ b oo c y _ _ htt => exact ⟨_, by rw [htt rfl]⟩
    obtain ⟨A, hsv⟩ := hsv
    obtain ⟨cap, rest, hcap, hrest, hrun⟩ := run_room (ty := o.type) w hT1 D1 hT2 d2 hE A k q hq hb hl hsz
    have hzs : ie.z.cells.size = ie.size := by have := hE.zero.length; rw [hE.size]; simpa using this.symm
    refine Upon.value (v := .slice (some ⟨w.heap.size, 0, none⟩) q cap) (w' := w.drew.alloc (.cells (Builtin.zeroCells ie.z.cells q ++ rest) e)) ?_ ?_
    · obtain ⟨cs, e'⟩ := run_builtin (P := P) (ρ := ρ) (w := w) ho hc
      rw [e']
      simp [builtin, hat, hargs, hxv, hsv, hrun]
    · refine ⟨cx.put m.length (some (.at w.drew.heap.size 0 cap)), (Ext.drew m.length w cx).trans (fun k pl e => hm.lt e) (hm.drew.ext_push _ cap) (Nat.le_refl _), hm.drew.push_arr hcap hl ?_ fun a b y ha hy => ?_, rep_row_new w.drew cx m _ cap ie.size q hcap⟩
      · simp only [Array.size_append, size_zeroCells, hzs, hrest]
        rw [← Nat.add_mul]
        exact Nat.mul_le_mul_right _ (by omega)
      · obtain ⟨v, hv, hr'⟩ := hE.zero.rep w.drew cx.U b y hy
        have hb' : b < ie.size := by
          have := (List.getElem?_eq_some_iff.1 hy).1
          rw [hE.size]; exact this
        have hlt := idx_lt ha hb'
        have hmod : (a * ie.size + b) % ie.size = b := by rw [Nat.mul_comm, Nat.mul_add_mod, Nat.mod_eq_of_lt hb']
        refine ⟨v, ?_, hr'⟩
        have hv' : ie.z.cells[b]? = some v := by simpa using hv
        have hbz : b < ie.z.cells.size := by omega
        have hve : ie.z.cells[b]! = v := by rw [getElem!_pos ie.z.cells b hbz]; exact (Array.getElem?_eq_some_iff.1 hv').2
        rw [Array.getElem?_append_left (by rw [size_zeroCells, hzs]; exact hlt)]
        simp [Builtin.zeroCells, hlt, hzs, hmod, hve]
  · exact h.elim

theorem sound_builtin (ht : TabOK P tab) {b : Builtin} {c : Call} (ho : o.op = .call c) (hc : c.callee = .builtin b) (h : evsK ev c.args.toList fun args => builtinK tab m b c.argTypes.toList args KP KI) : Sound P o evF m KP KI := by
  have h := evsK_sound hev h
  obtain ⟨args, hargs⟩ : ∃ l, c.args.toList = l := ⟨_, rfl⟩
  obtain ⟨ats, hats⟩ : ∃ l, c.argTypes.toList = l := ⟨_, rfl⟩
  rw [hargs, hats] at h
  have ha : c.args = args.toArray := by rw [← hargs]
  have hat : c.argTypes = ats.toArray := by rw [← hats]
  have hop : ∀ x, x ∈ args → x ∈ o.op.operands := fun x hx => by simp [ho, Op.operands, Call.operands, ha, hc, hx]
  have pure' : ∀ {rd : List Nat} {v : AV}, KP rd v → (∀ k, k ∈ rd → ∃ B, m[k]? = some (some B)) →
      (∀ (ρ : Operand → Value) (w : World) (cx : Cx) (m' : Mem), MemRep w cx m' → (∀ k, k ∈ rd → m'[k]? = m[k]?) → (∀ x, x ∈ o.op.operands → Rep w cx m'.length (evF x) (ρ x)) →
        ∃ v', (∀ cs, (builtin b c.argTypes o.type cs (c.args.map ρ)).run P w = .ok (.value v') w) ∧ Rep w cx m'.length v v') → Sound P o evF m KP KI := by
    intro rd v hK hrd hh
    refine .inl ⟨rd, v, hK, pure_of hrd fun ρ w cx m' hm hag hr => ?_⟩
    obtain ⟨v', h1, h2⟩ := hh ρ w cx m' hm hag hr
    obtain ⟨cs, e⟩ := run_builtin (P := P) (ρ := ρ) (w := w) ho hc
    exact ⟨v', by rw [e]; exact h1 cs, h2⟩
  unfold builtinK at h
  split at h
  · -- len
    rename_i t v heq _
    obtain ⟨x, rfl⟩ : ∃ x, args = [x] := by
      match args, heq with
      | [x], _ => exact ⟨x, rfl⟩
    simp only [List.map_cons, List.map_nil, List.cons.injEq, and_true] at heq
    subst heq
    obtain ⟨i, hi, h⟩ := tabK_sound h
    have hT := ht t i hi
    split at h
    · rename_i e he
      obtain ⟨rd, s, n, f, h, hrd, hread⟩ := sliceK_sound h
      refine pure' h hrd fun ρ w cx m' hm hag hr => ⟨.int .i64 (n : Int), fun cs => ?_, rep_int_mk _ _ _ _ _⟩
      obtain ⟨A, c', hp, _⟩ := hread w cx m' _ hm hag (hr x (hop x (by simp)))
      have hu := hT.run_und w
      rw [elem_slice hT he] at hu
      simp [builtin, ha, hat, Builtin.len_, hu, hp, goInt]
    · exact h.elim
  · -- cap
    rename_i t v heq _
    obtain ⟨x, rfl⟩ : ∃ x, args = [x] := by
      match args, heq with
      | [x], _ => exact ⟨x, rfl⟩
    simp only [List.map_cons, List.map_nil, List.cons.injEq, and_true] at heq
    subst heq
    obtain ⟨i, hi, h⟩ := tabK_sound h
    have hT := ht t i hi
    split at h
    · rename_i e he
      split at h
      · rename_i tt s n f hx
        obtain ⟨rfl, h⟩ := h
        refine pure' h no_rd fun ρ w cx m' hm hag hr => ⟨.int .i64 (n : Int), fun cs => ?_, rep_int_mk _ _ _ _ _⟩
        have hv := hr x (hop x (by simp))
        rw [hx] at hv
        have hform : ∃ A, ρ x = .slice A n n := by
          generalize ρ x = p at hv
          cases hv with
          | d hv =>
            cases hv with
            | nil _ _ _ A c hc => obtain rfl := hc rfl; exact ⟨A, rfl⟩
            | sl _ _ _ _ b oo c y _ _ htt => obtain rfl := htt rfl; exact ⟨_, rfl⟩
        obtain ⟨A, hp⟩ := hform
        have hu := hT.run_und w
        rw [elem_slice hT he] at hu
        simp [builtin, ha, hat, Builtin.cap_, hu, hp, goInt]
      · exact h.elim
    · exact h.elim
  · -- append
    rename_i t1 t2 s x heq _
    obtain ⟨a, b, rfl⟩ : ∃ a b, args = [a, b] := by
      match args, heq with
      | [a, b], _ => exact ⟨a, b, rfl⟩
    simp only [List.map_cons, List.map_nil, List.cons.injEq, and_true] at heq
    obtain ⟨rfl, rfl⟩ := heq
    obtain ⟨i1, hi1, h⟩ := tabK_sound h
    obtain ⟨i2, hi2, h⟩ := tabK_sound h
    split at h
    · rename_i e e2 he he2
      obtain ⟨ie, hie, h⟩ := tabK_sound h
      exact sound_append ht hi1 hi2 hie he he2 ho hc hat ha h
    · rename_i e he he2
      split at h
      · rename_i kk hd
        obtain ⟨ie, hie, h⟩ := tabK_sound h
        exact sound_room ht hi1 hi2 hie he hd ho hc hat ha h
      · exact h.elim
    · exact h.elim
  · -- copy
    rename_i t1 t2 s x heq _
    obtain ⟨a, b, rfl⟩ : ∃ a b, args = [a, b] := by
      match args, heq with
      | [a, b], _ => exact ⟨a, b, rfl⟩
    simp only [List.map_cons, List.map_nil, List.cons.injEq, and_true] at heq
    obtain ⟨rfl, rfl⟩ := heq
    obtain ⟨i1, hi1, h⟩ := tabK_sound h
    have hT := ht t1 i1 hi1
    split at h
    · rename_i e he
      obtain ⟨ie, hie, h⟩ := tabK_sound h
      have hE := ht e ie hie
      unfold copyK at h
      obtain ⟨rd, sx, mx, g, h, _, hread⟩ := sliceK_sound h
      obtain ⟨⟨hsx, hg⟩, h⟩ := h
      split at h
      · rename_i k sz st len hs
        obtain ⟨B, hB, h⟩ := blkK_sound h
        cases B with
        | cells => exact h.elim
        | arr s' n f =>
          obtain ⟨⟨hsz, hs', hin, hf⟩, h5⟩ := h
          subst hsz; subst hs'
          have h6 := memSetK_sound h5
          refine .inr ⟨_, _, _, h6, by simp, fun q _ hq => List.getElem?_set_ne (fun e => hq (by simp [e])), fun q h1 h2 => by simp at h2; omega, fun ρ w cx hm hr => ?_⟩
          have hv := hr a (hop a (by simp))
          rw [hs] at hv
          obtain ⟨w', a1, a2, a3⟩ := copy_in (t2 := t2) (ty := o.type) hm hT (elem_slice hT he) hE hB hv ((hread w cx m _ hm (fun _ _ => rfl) (hr b (hop b (by simp)))).sized hsx) hf hg hin
          refine Upon.value (v := .int .i64 ((min mx len : Nat) : Int)) (w' := w') ?_ ⟨cx, a2, a3, rep_int_mk _ _ _ _ _⟩
          obtain ⟨cs, e'⟩ := run_builtin (P := P) (ρ := ρ) (w := w) ho hc
          rw [e']
          simp only [builtin, ha, hat, List.map_toArray, List.map_cons, List.map_nil, Sem.run_bind, a1, Result.andThen_ok, Sem.run_pure]
      · exact h.elim
    · exact h.elim
  · -- max
    rename_i a' b' heq _
    obtain ⟨a, b, rfl⟩ : ∃ a b, args = [a, b] := by
      match args, heq with
      | [a, b], _ => exact ⟨a, b, rfl⟩
    simp only [List.map_cons, List.map_nil, List.cons.injEq, and_true] at heq
    obtain ⟨rfl, rfl⟩ := heq
    obtain ⟨k, x, hx, h⟩ := intK_sound h
    obtain ⟨k', y, hy, h⟩ := intK_sound h
    refine pure' h no_rd fun ρ w cx m' hm hag hr => ⟨.int k (if y > x then y else x), fun cs => ?_, rep_int_mk _ _ _ _ _⟩
    have h1 := rep_int (hx ▸ hr a (hop a (by simp)))
    have h2 := rep_int (hy ▸ hr b (hop b (by simp)))
    simp [builtin, ha, Builtin.max_, Builtin.max2, h1, h2]
  · -- min
    rename_i a' b' heq _
    obtain ⟨a, b, rfl⟩ : ∃ a b, args = [a, b] := by
      match args, heq with
      | [a, b], _ => exact ⟨a, b, rfl⟩
    simp only [List.map_cons, List.map_nil, List.cons.injEq, and_true] at heq
    obtain ⟨rfl, rfl⟩ := heq
    obtain ⟨k, x, hx, h⟩ := intK_sound h
    obtain ⟨k', y, hy, h⟩ := intK_sound h
    refine pure' h no_rd fun ρ w cx m' hm hag hr => ⟨.int k (if y < x then y else x), fun cs => ?_, rep_int_mk _ _ _ _ _⟩
    have h1 := rep_int (hx ▸ hr a (hop a (by simp)))
    have h2 := rep_int (hy ▸ hr b (hop b (by simp)))
    simp [builtin, ha, Builtin.min_, Builtin.min2, h1, h2]
  · exact h.elim

theorem sound_call {c : Call} {f : Operand} (ho : o.op = .call c) (hc : c.callee = .value f) (h : ev f fun fv => match fv with
      | .fn (.func g) a b => evsK ev c.args.toList fun args => match (a ++ args ++ b).all AV.imm with
        | true => (∃ r, PC P g (a ++ args ++ b) r ∧ KP [] r) ∨ ∃ r m', AC P g (a ++ args ++ b) m r m' ∧ KI (allNames m m') r m'
        | false => ∃ r m', AC P g (a ++ args ++ b) m r m' ∧ KI (allNames m m') r m'
      | _ => False) : Sound P o evF m KP KI := by
  have h := hev f _ h
  split at h
  · rename_i g a b hf
    have h := evsK_sound hev h
    have hof : f ∈ o.op.operands := by simp [ho, Op.operands, Call.operands, hc]
    have hoa : ∀ x, x ∈ c.args → x ∈ o.op.operands := fun x hx => by simp [ho, Op.operands, Call.operands, hc, hx]
    have enter : isGo P g = true → ∀ {ρ : Operand → Value} {w : World} {cx : Cx} {L : Nat}, (∀ x, x ∈ o.op.operands → Rep w cx L (evF x) (ρ x)) →
        ∃ vs, (execOp ρ o).run P w = .ok (.enter g vs) w ∧ RepL w cx L (a ++ c.args.toList.map evF ++ b) vs := by
      intro hgo ρ w cx L hr
      have hfv := hr f hof
      rw [hf] at hfv
      generalize hp : ρ f = p at hfv
      cases hfv with
      | fn _ _ _ us vs h1 h2 hx hy =>
        refine ⟨us ++ c.args.map ρ ++ vs, ?_, ?_⟩
        · unfold isGo at hgo
          split at hgo
          · rename_i fn hfn
            simp only [Bool.and_eq_true, bne_iff_ne, ne_eq] at hgo
            obtain ⟨bd, hbd⟩ := Option.isSome_iff_exists.1 hgo.2
            have hb : ¬ fn.body = none := by rw [hbd]; simp
            simp [execOp, ho, resolve, hc, hp, Deferred.ofValue, invoke, callFunc, hfn, hgo.1, hb]
          · cases hgo
        · have hmid := repL_map (evF := evF) (ρ := ρ) (xs := c.args) (w := w) (cx := cx) (L := L) fun x hx => hr x (hoa x hx)
          refine ⟨by simp [h1, h2], fun j x hj => ?_⟩
          have key : ∀ {xs : Array Value} {q : Nat}, (us ++ c.args.map ρ ++ vs)[j]? = xs[q]? → Rep w cx L x (xs.getD q undef) → Rep w cx L x ((us ++ c.args.map ρ ++ vs).getD j undef) := by
            intro xs q e hr'
            rw [Array.getD_eq_getD_getElem?, e, ← Array.getD_eq_getD_getElem?]
            exact hr'
          rcases Nat.lt_or_ge j a.length with j1 | j1
          · rw [List.append_assoc, List.getElem?_append_left j1] at hj
            refine key (xs := us) (q := j) ?_ (hx j x hj)
            rw [Array.append_assoc, Array.getElem?_append_left (by omega)]
          · rcases Nat.lt_or_ge j (a.length + c.args.size) with j2 | j2
            · rw [List.append_assoc, List.getElem?_append_right j1, List.getElem?_append_left (by simp; omega)] at hj
              refine key (xs := c.args.map ρ) (q := j - a.length) ?_ (hmid.2 _ x hj)
              rw [Array.append_assoc, Array.getElem?_append_right (by omega), Array.getElem?_append_left (by simp; omega), h1]
            · rw [List.append_assoc, List.getElem?_append_right j1, List.getElem?_append_right (by simp; omega)] at hj
              simp only [List.length_map, Array.length_toList] at hj
              refine key (xs := vs) (q := j - a.length - c.args.size) ?_ (hy _ x hj)
              rw [Array.append_assoc, Array.getElem?_append_right (by omega), Array.getElem?_append_right (by simp; omega), h1, Array.size_map]
    have turns : (∃ r m', AC P g (a ++ c.args.toList.map evF ++ b) m r m' ∧ KI (allNames m m') r m') → Sound P o evF m KP KI := by
      rintro ⟨r, m', hac, hK⟩
      refine .inr ⟨_, r, m', hK, hac.len, fun k hk hn => absurd (by simp [allNames]; omega) hn, fun k h1 h2 => by simp [allNames]; omega, fun ρ w cx hm hr => ?_⟩
      obtain ⟨vs, hrun, hvs⟩ := enter hac.go hr
      unfold Upon
      rw [hrun]
      exact (hac.run w cx vs hm hvs).mono fun e w' ⟨v, h1, cx', h2, h3, h4⟩ => ⟨v, h1, cx', h2, h3, h4⟩
    split at h
    · rcases h with ⟨r, hpc, hK⟩ | h
      · refine .inl ⟨[], r, hK, no_rd, fun ρ w cx m' hm _ hr => ?_⟩
        obtain ⟨vs, hrun, hvs⟩ := enter hpc.go hr
        unfold Upon
        rw [hrun]
        exact (hpc.run w cx m' vs hm hvs).mono fun e w' ⟨v, h1, h2, h3, h4⟩ => ⟨v, h1, h2, h3, h4⟩
      · exact turns h
    · exact turns h
  · exact h.elim

omit hev in
theorem nthK_sound : ∀ {xs : List AV} {j : Nat} {K : AV → Prop}, nthK xs j K → ∃ x, xs[j]? = some x ∧ K x := by
  intro xs
  induction xs with
  | nil => intro j K h; cases j <;> exact h.elim
  | cons x xs ih =>
    intro j K h
    cases j with
    | zero => exact ⟨x, rfl, h⟩
    | succ j => simpa using ih h

theorem sound_extract {x : Operand} {j : Nat} (ho : o.op = .extract x j) (h : ev x fun v => match v with
    | .tup vs => nthK vs j fun v => KP [] v
    | _ => False) : Sound P o evF m KP KI := by
  have h := hev x _ h
  split at h
  · rename_i vs hx
    obtain ⟨y, hy, h⟩ := nthK_sound h
    refine .inl ⟨_, _, h, pure_of no_rd fun ρ w cx m' hm _ hr => ?_⟩
    have hv := hr x (by simp [ho, Op.operands])
    rw [hx] at hv
    generalize hp : ρ x = p at hv
    cases hv with
    | tup _ us h1 h2 =>
      have hj := (List.getElem?_eq_some_iff.1 hy).1
      have hju : j < us.size := by omega
      refine ⟨us[j], by simp [execOp, ho, hp, Instr.extract, hju], ?_⟩
      simpa [Array.getD, hju] using h2 j y hy
  · exact h.elim

/-- What is computed of one operation is so. -/
theorem opK_sound (ht : TabOK P tab) (h : opK P tab o ev m KP KI) : Sound P o evF m KP KI := by
  unfold opK at h
  split at h
  case h_1 x ho => exact sound_move hev (.inl ho) h
  case h_2 x ho => exact sound_move hev (.inr ho) h
  case h_3 c a b ho => exact sound_pick hev ho h
  case h_4 e ho => exact sound_alloc ht ho h
  case h_5 e x ho => exact sound_box hev ho h
  case h_6 t parts ho => exact sound_build hev ht ho h
  case h_7 t len parts ho => exact sound_buildSlice hev ht ho h
  case h_8 t p ho => exact sound_load hev ht ho h
  case h_9 t p x ho => exact sound_store hev ht ho h
  case h_10 x ho => exact sound_nilCheck hev ho h
  case h_11 op t x y yt ho => exact sound_binOp hev ht ho h
  case h_12 op t x ho => cases op <;> exact sound_unOp hev ho h
  case h_13 s d x ho => exact sound_convert hev ht ho h
  case h_14 fn first captured ho => exact sound_makeFunc hev ho h
  case h_15 t l c ho => exact sound_makeSlice hev ht ho h
  case h_16 t x lo hi mx ho => exact sound_slice hev ht ho h
  case h_17 t x f ho => exact sound_fieldAddr hev ht ho h
  case h_18 t x ix ho => exact sound_indexAddr hev ht ho h
  case h_19 c ho =>
    split at h
    · exact sound_builtin hev ht ho (by assumption) h
    · exact sound_call hev ho (by assumption) h
    · exact h.elim
  case h_20 x j ho => exact sound_extract hev ho h
  case h_21 => exact h.elim
end
end Go.Proofs.Abs
