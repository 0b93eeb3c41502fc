/- A region whose order Go leaves open: whatever order its edges allow, it comes to what the order of the text comes to. -/
import Derived.Test.YtonbocppkanogaaB2
set_option linter.all false
namespace Go.Proofs.Abs
open Go Go.RowKit

def maskOf (acc : List Nat) (es : List Edge) : Nat := es.foldl (fun s e => if Region.binds .any e then s ||| 2 ^ e.on ||| acc.getD e.on 0 else s) 0

def masks : List Oper → List Nat → List Nat
  | [], acc => acc
  | o :: r, acc => masks r (acc ++ [maskOf acc o.after.toList])

def usesL (ops : List Oper) (o : Oper) : List Nat :=
  (o.op.operands.toList.filterMap fun | .tmp t => some t | _ => none) ++
  (match o.guard with
   | some (g, _) => ((ops[g]?).bind (·.dst)).toList
   | none => [])

def pairOK (ms : List Nat) (ops : List Oper) (fs : Fps) (i j : Nat) : Bool :=
  match ops[i]?, ops[j]?, fs[i]?, fs[j]? with
  | some oi, some oj, some (bi, fi), some (bj, fj) =>
    let aij := (ms.getD i 0).testBit j
    let aji := (ms.getD j 0).testBit i
    (match oi.dst, oj.dst with
      | some a, some b => a != b
      | _, _ => true) &&
    (!(bi && bj) || (if i < j then aji else aij)) &&
    (!(!bi && bj) || aij || aji || fi.all (fun k => !fj.contains k)) &&
    (match oj.dst with
      | some t => !(usesL ops oi).contains t || (if j < i then aij else aji)
      | none => true)
  | _, _, _, _ => false

def drawOK (ops : List Oper) (fs : Fps) : Bool :=
  let ms := masks ops []
  ((List.range ops.length).all fun i => (ops[i]?).any fun o => o.after.toList.all fun e => !Region.binds .any e || decide (e.on < i)) &&
  (List.range ops.length).all fun i => (List.range ops.length).all fun j => i == j || pairOK ms ops fs i j

inductive Anc (ops : List Oper) : Nat → Nat → Prop
  | edge {i : Nat} {o : Oper} {e : Edge} (ho : ops[i]? = some o) (he : e ∈ o.after.toList) (hb : Region.binds .any e = true) : Anc ops i e.on
  | trans {i j k : Nat} (h : Anc ops i j) (h' : Anc ops j k) : Anc ops i k

theorem maskOf_sound {ops : List Oper} {acc : List Nat} {i : Nat} {o : Oper} (ho : ops[i]? = some o) (hacc : ∀ (q s : Nat), acc[q]? = some s → ∀ j, s.testBit j = true → Anc ops q j) :
    ∀ (es : List Edge) (s0 : Nat), (∀ e, e ∈ es → e ∈ o.after.toList) → (∀ j, s0.testBit j = true → Anc ops i j) →
      ∀ j, (es.foldl (fun s e => if Region.binds .any e then s ||| 2 ^ e.on ||| acc.getD e.on 0 else s) s0).testBit j = true → Anc ops i j
  | [], s0, _, h0, j, hj => h0 j hj
  | e :: es, s0, hm, h0, j, hj => by
    simp only [List.foldl_cons] at hj
    refine maskOf_sound ho hacc es _ (fun e' he' => hm e' (by simp [he'])) ?_ j hj
    intro k hk
    split at hk
    · rename_i hb
      have hedge := Anc.edge ho (hm e (by simp)) hb
      rw [Nat.testBit_or, Nat.testBit_or, Bool.or_eq_true, Bool.or_eq_true] at hk
      rcases hk with (hk | hk) | hk
      · exact h0 k hk
      · rw [Nat.testBit_two_pow] at hk
        have : e.on = k := of_decide_eq_true hk
        exact this ▸ hedge
      · refine hedge.trans ?_
        cases hq : acc[e.on]? with
        | none => simp [List.getD, hq] at hk
        | some s => exact hacc e.on s hq k (by simpa [List.getD, hq] using hk)
    · exact h0 k hk

theorem masks_sound {ops : List Oper} : ∀ (l pre : List Oper) (acc : List Nat), ops = pre ++ l → acc.length = pre.length → (∀ (q s : Nat), acc[q]? = some s → ∀ j, s.testBit j = true → Anc ops q j) →
    ∀ (q s : Nat), (masks l acc)[q]? = some s → ∀ j, s.testBit j = true → Anc ops q j
  | [], pre, acc, _, _, h => h
  | o :: r, pre, acc, he, hl, h => by
    refine masks_sound r (pre ++ [o]) _ (by simp [he]) (by simp [hl]) ?_
    intro q s hq j hj
    rcases Nat.lt_or_ge q acc.length with hlt | hge
    · rw [List.getElem?_append_left hlt] at hq
      exact h q s hq j hj
    · rw [List.getElem?_append_right hge] at hq
      have hq0 : q = acc.length := by
        have := (List.getElem?_eq_some_iff.1 hq).1
        simp at this; omega
      subst hq0
      simp at hq
      subst hq
      exact maskOf_sound (by rw [he, hl]; simp) h _ 0 (fun _ h => h) (by simp) j hj

def Lst (listed : Array Bool) (i : Nat) : Prop := listed.getD i false = true
def Closed (ops : List Oper) (listed : Array Bool) : Prop := ∀ (i : Nat) (o : Oper), ops[i]? = some o → Lst listed i → ∀ e, e ∈ o.after.toList → Region.binds .any e = true → Lst listed e.on

theorem Anc.listed {ops : List Oper} {listed : Array Bool} (hc : Closed ops listed) {i j : Nat} (h : Anc ops i j) (hi : Lst listed i) : Lst listed j := by
  induction h with
  | edge ho he hb => exact hc _ _ ho hi _ he hb
  | trans _ _ ih1 ih2 => exact ih2 (ih1 hi)

theorem Anc.of_ready {ops : List Oper} {listed : Array Bool} (hc : Closed ops listed) {i j : Nat} (h : Anc ops i j) (hi : ∀ (o : Oper), ops[i]? = some o → ∀ e, e ∈ o.after.toList → Region.binds .any e = true → Lst listed e.on) : Lst listed j := by
  induction h with
  | edge ho he hb => exact hi _ ho _ he hb
  | trans h1 h2 ih1 _ => exact h2.listed hc (ih1 hi)

theorem chain_fun {P : Program} {N : Nat} {ops : List Oper} : ∀ {l : List Oper} {T : Tm} {m : Mem} {es : List Ent} {T' : Tm} {m' : Mem}, Chain P N ops l T m es T' m' →
    ∃ (tA : Nat → Tm) (mA : Nat → Mem), tA 0 = T ∧ mA 0 = m ∧ tA l.length = T' ∧ mA l.length = m' ∧ es.length = l.length ∧
      ∀ (i : Nat) (o : Oper) (e : Ent), l[i]? = some o → es[i]? = some e → EntOK P N ops o e ∧ e.T = tA i ∧ e.m = mA i ∧ tA (i + 1) = putT o.dst e.v (tA i) ∧ mA (i + 1) = e.m' := by
  intro l T m es T' m' c
  induction c with
  | nil T m => exact ⟨fun _ => T, fun _ => m, rfl, rfl, rfl, rfl, rfl, by simp⟩
  | @cons o l e es T' m' h c ih =>
    obtain ⟨tA, mA, h1, h2, h3, h4, h5, h6⟩ := ih
    refine ⟨fun i => match i with | 0 => e.T | i + 1 => tA i, fun i => match i with | 0 => e.m | i + 1 => mA i, rfl, rfl, h3, h4, by simp [h5], ?_⟩
    intro i o' e' ho he
    cases i with
    | zero =>
      simp at ho he
      subst ho; subst he
      exact ⟨h, rfl, rfl, h1, h2⟩
    | succ i =>
      simp only [List.getElem?_cons_succ] at ho he
      exact h6 i o' e' ho he

section
variable {P : Program} {N : Nat} {ops : List Oper} {es : List Ent} {tA : Nat → Tm} {mA : Nat → Mem}
variable (H : ∀ (i : Nat) (o : Oper) (e : Ent), ops[i]? = some o → es[i]? = some e → EntOK P N ops o e ∧ e.T = tA i ∧ e.m = mA i ∧ tA (i + 1) = putT o.dst e.v (tA i) ∧ mA (i + 1) = e.m')
variable (hlen : es.length = ops.length)
include H hlen

omit H in
theorem at_i {i : Nat} (hi : i < ops.length) : ∃ o e, ops[i]? = some o ∧ es[i]? = some e := ⟨_, _, List.getElem?_eq_getElem hi, List.getElem?_eq_getElem (by omega)⟩

theorem look_none {t : Nat} : ∀ (i : Nat), i ≤ ops.length → (∀ (j : Nat) (o : Oper), j < i → ops[j]? = some o → o.dst ≠ some t) → look (tA i) t = look (tA 0) t
  | 0, _, _ => rfl
  | i + 1, hi, h => by
    obtain ⟨o, e, ho, he⟩ := at_i hlen (show i < ops.length by omega)
    rw [(H i o e ho he).2.2.2.1, look_put_other (h i o (by omega) ho)]
    exact look_none i (by omega) fun j o hj => h j o (by omega)

theorem look_some {t j : Nat} {oj : Oper} {ej : Ent} (hoj : ops[j]? = some oj) (hej : es[j]? = some ej) (hd : oj.dst = some t) : ∀ (i : Nat), j < i → i ≤ ops.length →
    (∀ (q : Nat) (o : Oper), j < q → q < i → ops[q]? = some o → o.dst ≠ some t) → look (tA i) t = ej.v
  | 0, h, _, _ => by omega
  | i + 1, hji, hi, h => by
    obtain ⟨o, e, ho, he⟩ := at_i hlen (show i < ops.length by omega)
    rw [(H i o e ho he).2.2.2.1]
    by_cases hij : i = j
    · subst hij
      rw [ho] at hoj; injection hoj with hoj; subst hoj
      rw [he] at hej; injection hej with hej; subst hej
      rw [hd, look_put_same]
    · rw [look_put_other (h i o (by omega) (by omega) ho)]
      exact look_some hoj hej hd i (by omega) (by omega) fun q o h1 h2 => h q o h1 (by omega)

theorem mem_step {j : Nat} {o : Oper} {e : Ent} (ho : ops[j]? = some o) (he : es[j]? = some e) : (mA j).length ≤ (mA (j + 1)).length ∧ (e.imp = false → mA (j + 1) = mA j) ∧ ∀ k, k ∉ e.fp → (mA (j + 1))[k]? = (mA j)[k]? := by
  obtain ⟨⟨_, hE⟩, _, hm, _, hm'⟩ := H j o e ho he
  rcases hE with ⟨_, hi, hmm, _⟩ | ⟨_, _, ⟨hi, hmm, _⟩ | ⟨hi, him⟩⟩
  · rw [hm', hmm, hm]; exact ⟨Nat.le_refl _, fun _ => rfl, fun _ _ => rfl⟩
  · rw [hm', hmm, hm]; exact ⟨Nat.le_refl _, fun _ => rfl, fun _ _ => rfl⟩
  · obtain ⟨h1, h2, h3, _⟩ := him
    rw [hm', ← hm]
    refine ⟨h1, fun h => (by rw [hi] at h; cases h), fun k hk => ?_⟩
    rcases Nat.lt_or_ge k e.m.length with hlt | hge
    · exact h2 k hlt hk
    · rcases Nat.lt_or_ge k e.m'.length with hlt' | hge'
      · exact absurd (h3 k hge hlt') hk
      · rw [List.getElem?_eq_none hge, List.getElem?_eq_none hge']

theorem mem_len {p : Nat} : ∀ (r : Nat), p ≤ r → r ≤ ops.length → (mA p).length ≤ (mA r).length
  | 0, h, _ => by obtain rfl : p = 0 := (by omega); exact Nat.le_refl _
  | r + 1, h, hr => by
    rcases Nat.lt_or_ge r p with h1 | h1
    · obtain rfl : p = r + 1 := (by omega); exact Nat.le_refl _
    · obtain ⟨o, e, ho, he⟩ := at_i hlen (show r < ops.length by omega)
      exact Nat.le_trans (mem_len r h1 (by omega)) (mem_step H hlen ho he).1

theorem mem_eq {p : Nat} : ∀ (r : Nat), p ≤ r → r ≤ ops.length → (∀ (j : Nat) (e : Ent), p ≤ j → j < r → es[j]? = some e → e.imp = false) → mA r = mA p
  | 0, h, _, _ => by obtain rfl : p = 0 := (by omega); rfl
  | r + 1, h, hr, hI => by
    rcases Nat.lt_or_ge r p with h1 | h1
    · obtain rfl : p = r + 1 := (by omega); rfl
    · obtain ⟨o, e, ho, he⟩ := at_i hlen (show r < ops.length by omega)
      rw [(mem_step H hlen ho he).2.1 (hI r e h1 (by omega) he)]
      exact mem_eq r h1 (by omega) fun j e h2 h3 => hI j e h2 (by omega)

theorem mem_agree {p k : Nat} : ∀ (r : Nat), p ≤ r → r ≤ ops.length → (∀ (j : Nat) (e : Ent), p ≤ j → j < r → es[j]? = some e → e.imp = true → k ∉ e.fp) → (mA r)[k]? = (mA p)[k]?
  | 0, h, _, _ => by obtain rfl : p = 0 := (by omega); rfl
  | r + 1, h, hr, hI => by
    rcases Nat.lt_or_ge r p with h1 | h1
    · obtain rfl : p = r + 1 := (by omega); rfl
    · obtain ⟨o, e, ho, he⟩ := at_i hlen (show r < ops.length by omega)
      obtain ⟨_, h2, h3⟩ := mem_step H hlen ho he
      have hrest := mem_agree (k := k) r h1 (by omega) fun j e h2 h3 => hI j e h2 (by omega)
      cases hi : e.imp with
      | false => rw [h2 hi]; exact hrest
      | true => rw [h3 k (hI r e h1 (by omega) he hi)]; exact hrest
end

structure Inv (P : Program) (N : Nat) (ops : List Oper) (es : List Ent) (T0 : Tm) (m0 : Mem) (mA : Nat → Mem) (w0 : World) (cx0 : Cx) (listed : Array Bool) (a : Act) (w : World) (cx : Cx) (q : Nat) : Prop where
  ext : Ext m0.length w0 cx0 w cx
  qn : q ≤ ops.length
  pre : ∀ (j : Nat) (e : Ent), es[j]? = some e → e.imp = true → (Lst listed j ↔ j < q)
  mem : MemRep w cx (mA q)
  closed : Closed ops listed
  done : ∀ (j t : Nat) (o : Oper) (e : Ent), Lst listed j → ops[j]? = some o → es[j]? = some e → o.dst = some t → Rep w cx (mA q).length e.v (a.tmps.getD t undef)
  old : ∀ (t : Nat), (∀ (j : Nat) (o : Oper), Lst listed j → ops[j]? = some o → o.dst ≠ some t) → Rep w cx (mA q).length (look T0 t) (a.tmps.getD t undef)
  defers : a.defers = []
  size : a.tmps.size = N
  lsize : listed.size = ops.length

theorem lst_set {listed : Array Bool} {i j : Nat} (hi : i < listed.size) : Lst (listed.setIfInBounds i true) j ↔ (j = i ∨ Lst listed j) := by
  unfold Lst
  by_cases h : i = j
  · subst h; simp [hi]
  · simp [Array.getElem?_setIfInBounds_ne h, Ne.symm h]

theorem drawOK_spec {ops : List Oper} {es : List Ent} (hlen : es.length = ops.length) (h : drawOK ops (fps es) = true) :
    (∀ (i : Nat) (o : Oper) (e : Edge), ops[i]? = some o → e ∈ o.after.toList → Region.binds .any e = true → e.on < i) ∧
    ∀ (i j : Nat) (oi oj : Oper) (ei ej : Ent), i ≠ j → ops[i]? = some oi → ops[j]? = some oj → es[i]? = some ei → es[j]? = some ej →
      (∀ t, oi.dst = some t → oj.dst ≠ some t) ∧ (ei.imp = true → ej.imp = true → (i < j → Anc ops j i) ∧ (j < i → Anc ops i j)) ∧
      (ei.imp = false → ej.imp = true → Anc ops i j ∨ Anc ops j i ∨ ∀ k, k ∈ ei.fp → k ∉ ej.fp) ∧
      (∀ t, oj.dst = some t → t ∈ usesL ops oi → (j < i → Anc ops i j) ∧ (i < j → Anc ops j i)) := by
  unfold drawOK at h
  simp only [Bool.and_eq_true, List.all_eq_true, List.mem_range] at h
  obtain ⟨h1, h2⟩ := h
  have hms := masks_sound (ops := ops) ops [] [] rfl rfl (by simp)
  have anc : ∀ i j, ((masks ops []).getD i 0).testBit j = true → Anc ops i j := by
    intro i j hb
    cases hq : (masks ops [])[i]? with
    | none => simp [List.getD, hq] at hb
    | some s => exact hms i s hq j (by simpa [List.getD, hq] using hb)
  constructor
  · intro i o e ho he hb
    have := h1 i (List.getElem?_eq_some_iff.1 ho).1
    rw [ho] at this
    simp only [Option.any_some, List.all_eq_true, Bool.or_eq_true, Bool.not_eq_true', decide_eq_true_eq] at this
    rcases this e he with h | h
    · rw [hb] at h; cases h
    · exact h
  · intro i j oi oj ei ej hij hoi hoj hei hej
    have := h2 i (List.getElem?_eq_some_iff.1 hoi).1 j (List.getElem?_eq_some_iff.1 hoj).1
    simp only [Bool.or_eq_true, beq_iff_eq, hij, false_or] at this
    have fi : (fps es)[i]? = some (ei.imp, ei.fp) := by simp [fps, hei]
    have fj : (fps es)[j]? = some (ej.imp, ej.fp) := by simp [fps, hej]
    unfold pairOK at this
    rw [hoi, hoj, fi, fj] at this
    simp only [Bool.and_eq_true] at this
    obtain ⟨⟨⟨p1, p2⟩, p3⟩, p4⟩ := this
    refine ⟨?_, ?_, ?_, ?_⟩
    · intro t hi hj
      rw [hi, hj] at p1
      simp at p1
    · intro bi bj
      rw [bi, bj] at p2
      simp only [Bool.and_self, Bool.not_true, Bool.false_or] at p2
      exact ⟨fun hlt => anc _ _ (by rw [if_pos hlt] at p2; exact p2), fun hlt => anc _ _ (by rw [if_neg (by omega)] at p2; exact p2)⟩
    · intro bi bj
      rw [bi, bj] at p3
      simp only [Bool.not_false, Bool.and_self, Bool.not_true, Bool.false_or, Bool.or_eq_true, List.all_eq_true] at p3
      rcases p3 with (p3 | p3) | p3
      · exact .inl (anc _ _ p3)
      · exact .inr (.inl (anc _ _ p3))
      · exact .inr (.inr fun k hk hk' => by have := p3 k hk; simp [hk'] at this)
    · intro t hj hu
      rw [hj] at p4
      simp only [Bool.or_eq_true, Bool.not_eq_true'] at p4
      rcases p4 with p4 | p4
      · simp [hu] at p4
      · exact ⟨fun hlt => anc _ _ (by rw [if_pos hlt] at p4; exact p4), fun hlt => anc _ _ (by rw [if_neg (by omega)] at p4; exact p4)⟩

theorem draw_any {P : Program} {N : Nat} {ops : List Oper} {Q : Exit → Act → World → Prop} {T0 : Tm} {m0 : Mem} {es : List Ent} {T' : Tm} {m' : Mem} (c : Chain P N ops ops T0 m0 es T' m') (hok : drawOK ops (fps es) = true)
    {a0 : Act} {w0 : World} {cx0 : Cx} (hs : StRep N T0 m0 a0 w0 cx0) (hQ : ∀ a' w' cx', StRep N T' m' a' w' cx' → Ext m0.length w0 cx0 w' cx' → m0.length ≤ m'.length → Q .normal a' w') :
    wpAny P .any ops.toArray Q ops.length (Array.replicate ops.length false) a0 w0 := by
  obtain ⟨tA, mA, t0, mm0, tn, mn, hlen, H⟩ := chain_fun c
  obtain ⟨hback, hpair⟩ := drawOK_spec hlen hok
  have key : ∀ (fuel : Nat) (listed : Array Bool) (a : Act) (w : World) (cx : Cx) (q : Nat), Inv P N ops es T0 m0 mA w0 cx0 listed a w cx q → listed.toList.count false ≤ fuel → wpAny P .any ops.toArray Q fuel listed a w := by
    have final : ∀ (listed : Array Bool) (a : Act) (w : World) (cx : Cx) (q : Nat), Inv P N ops es T0 m0 mA w0 cx0 listed a w cx q → (∀ i, i < ops.length → Lst listed i) → Q .normal a w := by
      intro listed a w cx q I hall
      have hmq : mA q = m' := by
        rw [← mn]
        refine (mem_eq H hlen ops.length I.qn (Nat.le_refl _) fun j e h1 h2 he => ?_).symm
        cases hi : e.imp with
        | false => rfl
        | true => have := (I.pre j e he hi).1 (hall j h2); omega
      have hst : StRep N T' m' a w cx := by
        refine ⟨fun t => ?_, by rw [← hmq]; exact I.mem, I.defers, I.size⟩
        rw [← tn, ← hmq]
        by_cases hex : ∃ (j : Nat) (o : Oper), ops[j]? = some o ∧ o.dst = some t
        · obtain ⟨j, o, ho, hd⟩ := hex
          have hj := (List.getElem?_eq_some_iff.1 ho).1
          obtain ⟨_, e, ho', he⟩ := at_i hlen hj
          rw [ho] at ho'; injection ho' with ho'; subst ho'
          rw [look_some H hlen ho he hd ops.length hj (Nat.le_refl _) fun r o' h1 h2 ho' hd' => ?_]
          · exact I.done j t o e (hall j hj) ho he hd
          · obtain ⟨_, e', ho'', he'⟩ := at_i hlen (List.getElem?_eq_some_iff.1 ho').1
            exact (hpair j r o o' e e' (by omega) ho ho' he he').1 t hd hd'
        · rw [look_none H hlen ops.length (Nat.le_refl _) fun j o _ ho hd => hex ⟨j, o, ho, hd⟩, t0]
          exact I.old t fun j o _ ho hd => hex ⟨j, o, ho, hd⟩
      refine hQ a w cx hst I.ext ?_
      have := mem_len H hlen (p := 0) ops.length (Nat.zero_le _) (Nat.le_refl _)
      rw [mm0, mn] at this
      exact this
    have ready_ex : ∀ (listed : Array Bool), listed.size = ops.length → Closed ops listed → Region.ready .any ops.toArray listed = [] → ∀ i, i < ops.length → Lst listed i := by
      intro listed hsz hcl hr i
      induction i using Nat.strongRecOn with
      | _ i ih =>
        intro hi
        cases hl : listed.getD i true with
        | true =>
          unfold Lst
          have : i < listed.size := by omega
          simp [this] at hl ⊢
          exact hl
        | false =>
          exfalso
          obtain ⟨o, _, ho, _⟩ := at_i hlen hi
          have hmem : i ∈ Region.ready .any ops.toArray listed := mem_ready.2 ⟨hl, o, by simpa using ho, fun e he hb => ?_⟩
          · rw [hr] at hmem; cases hmem
          · have hlt := hback i o e ho (by simpa using he) hb
            exact ih e.on hlt (by omega)
    intro fuel
    induction fuel with
    | zero =>
      intro listed a w cx q I hc
      have hall : ∀ i, i < ops.length → Lst listed i := by
        intro i hi
        have h0 : listed.toList.count false = 0 := by omega
        rw [List.count_eq_zero] at h0
        have hi' : i < listed.size := by rw [I.lsize]; exact hi
        unfold Lst
        cases hv : listed[i] with
        | true => simp [hi', hv]
        | false => exact absurd (by rw [← hv]; simp) h0
      refine ⟨?_, final listed a w cx q I hall⟩
      apply List.eq_nil_iff_forall_not_mem.2
      intro i hi
      obtain ⟨h1, o, ho, _⟩ := mem_ready.1 hi
      have hlt : i < ops.length := by
        have := (Array.getElem?_eq_some_iff.1 ho).1
        simpa using this
      have := hall i hlt
      unfold Lst at this
      have hi' : i < listed.size := by rw [I.lsize]; exact hlt
      simp [hi'] at this h1
      rw [this] at h1
      cases h1
    | succ fuel ih =>
      intro listed a w cx q I hc
      refine ⟨fun hr => final listed a w cx q I (ready_ex listed I.lsize I.closed hr), fun i hi => ?_⟩
      obtain ⟨hun, o, ho', hedges⟩ := mem_ready.1 hi
      have ho : ops[i]? = some o := by simpa using ho'
      have hilt := (List.getElem?_eq_some_iff.1 ho).1
      have his : i < listed.size := by rw [I.lsize]; exact hilt
      have hnl : ¬ Lst listed i := by
        unfold Lst
        simp [his] at hun ⊢
        exact hun
      obtain ⟨_, e, ho2, he⟩ := at_i hlen hilt
      rw [ho] at ho2; injection ho2 with ho2; subst ho2
      obtain ⟨⟨hd, hE⟩, heT, hem, hTn, hmn⟩ := H i o e ho he
      have hanc : ∀ j, Anc ops i j → Lst listed j := fun j h => h.of_ready I.closed fun o' ho' ed hed hb => by
        rw [ho] at ho'; injection ho' with ho'; subst ho'
        exact hedges ed (by simpa using hed) hb
      have hnanc : ∀ j, Lst listed j → ¬ Anc ops j i := fun j hj h => hnl (h.listed I.closed hj)
      -- what an operand holds
      have huse : ∀ t, t ∈ usesL ops o → Rep w cx (mA q).length (look (tA i) t) (a.tmps.getD t undef) := by
        intro t ht
        by_cases hex : ∃ (j : Nat) (oj : Oper), j < i ∧ ops[j]? = some oj ∧ oj.dst = some t
        · obtain ⟨j, oj, hji, hoj, hdj⟩ := hex
          obtain ⟨_, ej, hoj', hej⟩ := at_i hlen (List.getElem?_eq_some_iff.1 hoj).1
          rw [hoj] at hoj'; injection hoj' with hoj'; subst hoj'
          rw [look_some H hlen hoj hej hdj i hji (by omega) fun r o' h1 h2 ho' hd' => ?_]
          · exact I.done j t oj ej (hanc j (((hpair i j o oj e ej (by omega) ho hoj he hej).2.2.2 t hdj ht).1 hji)) hoj hej hdj
          · obtain ⟨_, e', _, he'⟩ := at_i hlen (List.getElem?_eq_some_iff.1 ho').1
            exact (hpair j r oj o' ej e' (by omega) hoj ho' hej he').1 t hdj hd'
        · rw [look_none H hlen i (by omega) fun j oj hj hoj hdj => hex ⟨j, oj, hj, hoj, hdj⟩, t0]
          refine I.old t fun j oj hlj hoj hdj => ?_
          rcases Nat.lt_trichotomy j i with h | h | h
          · exact hex ⟨j, oj, h, hoj, hdj⟩
          · subst h; exact hnl hlj
          · obtain ⟨_, ej, _, hej⟩ := at_i hlen (List.getElem?_eq_some_iff.1 hoj).1
            exact hnanc j hlj (((hpair i j o oj e ej (by omega) ho hoj he hej).2.2.2 t hdj ht).2 h)
      have hops : ∀ x, x ∈ o.op.operands → Rep w cx (mA q).length (evF e.T x) (a.eval x) := by
        intro x hx
        rw [heT]
        refine rep_ev fun t hxt => huse t ?_
        subst hxt
        exact List.mem_append_left _ (List.mem_filterMap.2 ⟨.tmp t, by simpa using hx, rfl⟩)
      have hguard : ∀ j t, o.guard.map (·.1) = some j → (ops[j]?).bind (·.dst) = some t → Rep w cx (mA q).length (look e.T t) (a.tmps.getD t undef) := by
        intro j t hg hd'
        rw [heT]
        refine huse t ?_
        cases hgo : o.guard with
        | none => rw [hgo] at hg; cases hg
        | some g =>
          obtain ⟨gj, want⟩ := g
          rw [hgo] at hg
          simp at hg
          subst hg
          refine List.mem_append_right _ ?_
          rw [hgo]
          simp [hd']
      have hcnt : (listed.setIfInBounds i true).toList.count false ≤ fuel := by
        have hv : listed[i] = false := by
          simp [his] at hun
          exact hun
        have hil : i < listed.toList.length := by simpa using his
        rw [Array.toList_setIfInBounds]
        have hcs := List.count_set (a := true) (b := false) (l := listed.toList) (i := i) hil
        have hv2 : listed.toList[i] = false := by simpa using hv
        rw [hcs, hv2]
        simp only [beq_self_eq_true, if_true, show (true == false) = false from rfl, Bool.false_eq_true, if_false, Nat.add_zero]
        have hpos : 0 < listed.toList.count false := List.count_pos_iff.2 (by rw [← hv2]; exact List.getElem_mem hil)
        omega
      -- what stands behind the operation
      have hafter : ∀ (v : Value) (w' : World) (cx' : Cx) (q' : Nat), q' ≤ ops.length → (∀ (j : Nat) (ej : Ent), es[j]? = some ej → ej.imp = true → ((j = i ∨ Lst listed j) ↔ j < q')) → Ext (mA q).length w cx w' cx' → MemRep w' cx' (mA q') → (mA q).length ≤ (mA q').length →
          Rep w' cx' (mA q').length e.v v → wpAny P .any ops.toArray Q fuel (listed.setIfInBounds i true) (a.put o.dst v) w' := by
        intro v w' cx' q' hq' hpre hE' hM hL hv
        have hml : m0.length ≤ (mA q).length := by
          have := mem_len H hlen (p := 0) q (Nat.zero_le _) I.qn
          rwa [mm0] at this
        refine ih _ _ _ cx' q' ⟨I.ext.trans (fun k pl e' => hs.mem.lt e') hE' hml, hq', fun j ej hej hi => ?_, hM, ?_, ?_, ?_, by rw [put_defers]; exact I.defers, by rw [put_size]; exact I.size, by simp [I.lsize]⟩ hcnt
        · rw [lst_set his]; exact hpre j ej hej hi
        · intro j oj hoj hj ed hed hb
          rw [lst_set his] at hj ⊢
          rcases hj with rfl | hj
          · rw [ho] at hoj; injection hoj with hoj; subst hoj
            exact .inr (hedges ed (by simpa using hed) hb)
          · exact .inr (I.closed j oj hoj hj ed hed hb)
        · intro j t oj ej hj hoj hej hdj
          rw [put_getD (by rw [I.size]; exact hd)]
          rw [lst_set his] at hj
          by_cases hji : j = i
          · subst hji
            rw [ho] at hoj; injection hoj with hoj; subst hoj
            rw [he] at hej; injection hej with hej; subst hej
            rw [if_pos hdj]; exact hv
          · have hlj : Lst listed j := hj.resolve_left hji
            rw [if_neg fun hdi => (hpair j i oj o ej e hji hoj ho hej he).1 t hdj hdi]
            exact (I.done j t oj ej hlj hoj hej hdj).ext hE' hL
        · intro t ht
          have hdi : o.dst ≠ some t := ht i o (by rw [lst_set his]; exact .inl rfl) ho
          rw [put_getD (by rw [I.size]; exact hd), if_neg hdi]
          exact (I.old t fun j oj hj hoj => ht j oj (by rw [lst_set his]; exact .inr hj) hoj).ext hE' hL
      -- an operation that turns nothing tracked leaves the count of those that do
      have hpre0 : e.imp = false → ∀ (j : Nat) (ej : Ent), es[j]? = some ej → ej.imp = true → ((j = i ∨ Lst listed j) ↔ j < q) := by
        intro hi0 j ej hej hji
        rw [← I.pre j ej hej hji]
        constructor
        · rintro (rfl | h)
          · rw [he] at hej; injection hej with hej; subst hej; rw [hi0] at hji; cases hji
          · exact h
        · exact .inr
      unfold wpOp
      rw [show ops.toArray[i]? = some o by simpa using ho]
      simp only
      rcases hE with ⟨_, hi0, hm', hv, _, hg⟩ | ⟨_, hg, hE⟩
      · rw [guard_wanted hg I.size hguard]
        exact hafter undef w cx q I.qn (hpre0 hi0) (Ext.refl _ _ _) I.mem (Nat.le_refl _) (by rw [hv]; exact .tup [] #[] rfl (by simp))
      · rw [guard_wanted hg I.size hguard, if_pos rfl]
        refine .inl ?_
        rcases hE with ⟨hi0, hm', hp⟩ | ⟨hi1, him⟩
        · -- it reads: what it reads stands as in the text's order
          have hagree : ∀ k, k ∈ e.fp → (mA q)[k]? = e.m[k]? := by
            intro k hk
            rw [hem]
            rcases Nat.le_total q i with hqi | hiq
            · refine (mem_agree H hlen i hqi (by omega) fun j ej h1 h2 hej hji hkj => ?_).symm
              obtain ⟨oj, _, hoj, _⟩ := at_i hlen (show j < ops.length by omega)
              have hnlj : ¬ Lst listed j := fun h => by have := (I.pre j ej hej hji).1 h; omega
              rcases (hpair i j o oj e ej (by omega) ho hoj he hej).2.2.1 hi0 hji with h | h | h
              · exact hnlj (hanc j h)
              · -- j hangs on i: then j stands behind i
                exact absurd h (by
                  intro h
                  have hb : ∀ {x y : Nat}, Anc ops x y → y < x := by
                    intro x y hxy
                    induction hxy with
                    | edge ho he hb => exact hback _ _ _ ho he hb
                    | trans _ _ ih1 ih2 => omega
                  have := hb h
                  omega)
              · exact h k hk hkj
            · refine mem_agree H hlen q hiq I.qn fun j ej h1 h2 hej hji hkj => ?_
              have hne : j ≠ i := fun h => by subst h; rw [he] at hej; injection hej with hej; subst hej; rw [hi0] at hji; cases hji
              obtain ⟨oj, _, hoj, _⟩ := at_i hlen (show j < ops.length by have := I.qn; omega)
              have hlj : Lst listed j := (I.pre j ej hej hji).2 h2
              rcases (hpair i j o oj e ej (by omega) ho hoj he hej).2.2.1 hi0 hji with h | h | h
              · have hb : ∀ {x y : Nat}, Anc ops x y → y < x := by
                  intro x y hxy
                  induction hxy with
                  | edge ho he hb => exact hback _ _ _ ho he hb
                  | trans _ _ ih1 ih2 => omega
                have := hb h
                omega
              · exact hnanc j hlj h
              · exact h k hk hkj
          refine Upon.wp (hp.2 a.eval w cx (mA q) I.mem hagree hops) fun v w' ⟨h1, h2, h3⟩ => ?_
          exact hafter v w' cx q I.qn (hpre0 hi0) h1 h2 (Nat.le_refl _) h3
        · -- it turns memory: all that do so ahead of it have been done, and none behind it
          have hlj : ∀ (j : Nat) (ej : Ent), es[j]? = some ej → ej.imp = true → (Lst listed j ↔ j < i) := by
            intro j ej hej hji
            have hjl := (List.getElem?_eq_some_iff.1 hej).1
            obtain ⟨oj, _, hoj, _⟩ := at_i hlen (show j < ops.length by omega)
            rcases Nat.lt_trichotomy j i with h | h | h
            · have := ((hpair i j o oj e ej (by omega) ho hoj he hej).2.1 hi1 hji).2 h
              exact ⟨fun _ => h, fun _ => hanc j this⟩
            · subst h; exact ⟨fun h => absurd h hnl, fun h => by omega⟩
            · have := ((hpair i j o oj e ej (by omega) ho hoj he hej).2.1 hi1 hji).1 h
              exact ⟨fun hl => absurd this (hnanc j hl), fun h' => by omega⟩
          have hmq : mA q = mA i := by
            rcases Nat.le_total q i with hqi | hiq
            · refine (mem_eq H hlen i hqi (by omega) fun j ej h1 h2 hej => ?_).symm
              cases hji : ej.imp with
              | false => rfl
              | true =>
                have h3 := (hlj j ej hej hji).2 h2
                have h4 := (I.pre j ej hej hji).1 h3
                omega
            · refine mem_eq H hlen q hiq I.qn fun j ej h1 h2 hej => ?_
              cases hji : ej.imp with
              | false => rfl
              | true =>
                have h3 := (I.pre j ej hej hji).2 h2
                have h4 := (hlj j ej hej hji).1 h3
                omega
          have hMem := I.mem
          rw [hmq, ← hem] at hMem
          refine Upon.wp (him.2.2.2 a.eval w cx hMem (fun x hx => by have := hops x hx; rw [hmq, ← hem] at this; exact this)) fun v w' ⟨cx', h1, h2, h3⟩ => ?_
          refine hafter v w' cx' (i + 1) (by omega) (fun j ej hej hji => ?_) (by rw [hmq, ← hem]; exact h1) (by rw [hmn]; exact h2) (by rw [hmq, hmn, ← hem]; exact him.1) (by rw [hmn]; exact h3)
          rw [hlj j ej hej hji]
          omega
  refine key ops.length _ a0 w0 cx0 0 ⟨Ext.refl _ _ _, Nat.zero_le _, ?_, by rw [mm0]; exact hs.mem, ?_, ?_, ?_, hs.defers, hs.size, by simp⟩ ?_
  · intro j e _ _
    constructor
    · intro h
      unfold Lst at h
      by_cases hj : j < ops.length <;> simp [hj] at h
    · intro h; omega
  · intro i o ho hi
    unfold Lst at hi
    have hj := (List.getElem?_eq_some_iff.1 ho).1
    simp [hj] at hi
  · intro j t o e hj ho
    unfold Lst at hj
    have hj' := (List.getElem?_eq_some_iff.1 ho).1
    simp [hj'] at hj
  · intro t _
    rw [mm0]
    exact hs.tmps t
  · have := List.count_le_length (a := false) (l := (Array.replicate ops.length false).toList)
    simpa using this
end Go.Proofs.Abs
