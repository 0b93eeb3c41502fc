/- A region: what is computed of its operations one by one, and its soundness in the order of the text. -/
import Derived.Test.YtonbocppkanogaaB1
set_option linter.all false
namespace Go.Proofs.Abs
open Go Go.RowKit

abbrev Tm := List (Nat × AV)

def getK : Tm → Nat → (AV → Prop) → Prop
  | [], _, K => K .junk
  | (t, v) :: r, q, K => match Nat.beq t q with
    | true => K v
    | false => getK r q K

def look : Tm → Nat → AV
  | [], _ => .junk
  | (t, v) :: r, q => if t = q then v else look r q

theorem getK_sound : ∀ {T : Tm} {q : Nat} {K : AV → Prop}, getK T q K → K (look T q)
  | [], _, _, h => h
  | (t, v) :: r, q, K, h => by
    unfold getK at h
    unfold look
    by_cases hq : t = q
    · subst hq
      rw [if_pos rfl]
      rw [show Nat.beq t t = true from Nat.beq_refl t] at h
      exact h
    · rw [if_neg hq]
      rw [show Nat.beq t q = false by
        cases hb : Nat.beq t q with
        | false => rfl
        | true => exact absurd (Nat.eq_of_beq_eq_true hb) hq] at h
      exact getK_sound h

def constK (v : Value) (K : AV → Prop) : Prop :=
  match v with
  | .slice none 0 0 => K (.d (.sl true 0 0 fun _ => []))
  | .slice _ _ _ => False
  | .agg _ => False
  | .tuple _ => False
  | v => K (.d (.v v))

def constAV (v : Value) : AV :=
  match v with
  | .slice none 0 0 => .d (.sl true 0 0 fun _ => [])
  | .slice _ _ _ => .junk
  | .agg _ => .junk
  | .tuple _ => .junk
  | v => .d (.v v)

theorem constK_sound {v : Value} {K : AV → Prop} (h : constK v K) : K (constAV v) := by
  unfold constK at h
  unfold constAV
  split at h <;> first | exact h | exact h.elim | simp_all

def evK (T : Tm) (x : Operand) (K : AV → Prop) : Prop :=
  match x with
  | .tmp t => getK T t K
  | .const v => constK v K
  | .func f => K (.fn (.func f) [] [])
  | .global _ => False

def evF (T : Tm) (x : Operand) : AV :=
  match x with
  | .tmp t => look T t
  | .const v => constAV v
  | .func f => .fn (.func f) [] []
  | .global _ => .junk

theorem evK_sound (T : Tm) : ∀ x K, evK T x K → K (evF T x) := by
  intro x K h
  cases x with
  | tmp t => exact getK_sound h
  | const v => exact constK_sound h
  | func f => exact h
  | global g => exact h.elim

theorem rep_const (w : World) (cx : Cx) (L : Nat) (v : Value) : Rep w cx L (constAV v) v := by
  unfold constAV
  split
  · exact .d (.nil _ _ _ _ _ fun _ => rfl)
  · exact .junk _
  · exact .junk _
  · exact .junk _
  · rename_i h1 h2 h3 h4
    refine .d (.v _ ?_)
    cases v with
    | agg cs => exact absurd rfl (h3 cs)
    | tuple vs => exact absurd rfl (h4 vs)
    | _ => rfl

theorem rep_ev {T : Tm} {a : Act} {w : World} {cx : Cx} {L : Nat} {x : Operand} (h : ∀ t, x = .tmp t → Rep w cx L (look T t) (a.tmps.getD t undef)) : Rep w cx L (evF T x) (a.eval x) := by
  cases x with
  | tmp t => exact h t rfl
  | const v => exact rep_const w cx L v
  | func f => exact .fn _ _ _ _ _ rfl rfl (by simp) (by simp)
  | global g => exact .junk _

def putT (d : Option Nat) (v : AV) (T : Tm) : Tm :=
  match d with
  | some d => (d, v) :: T
  | none => T

theorem look_put_same (d : Nat) (v : AV) (T : Tm) : look (putT (some d) v T) d = v := by simp [putT, look]
theorem look_put_other {d : Option Nat} {v : AV} {T : Tm} {q : Nat} (h : d ≠ some q) : look (putT d v T) q = look T q := by
  cases d with
  | none => rfl
  | some d =>
    have : d ≠ q := fun e => h (by rw [e])
    simp [putT, look, this]

abbrev Fps := List (Bool × List Nat)

def guardK (N : Nat) (ops : List Oper) (o : Oper) (T : Tm) (A B : Prop) : Prop :=
  match o.guard with
  | none => A
  | some (j, want) => match (ops[j]?).bind (·.dst) with
    | some t => t < N ∧ getK T t fun v => match v with
      | .tup [] => B
      | v => boolK v fun b => (b = want → A) ∧ (b = !want → B)
    | none => False

def putK (N : Nat) (d : Option Nat) (v : AV) (T : Tm) (K : Tm → Prop) : Prop :=
  match d with
  | none => K T
  | some d => d < N ∧ K ((d, v) :: T)

/-- The operations of a region, one by one. -/
def runK (P : Program) (tab : Tab) (N : Nat) (ops : List Oper) : List Oper → Tm → Mem → Fps → (Tm → Mem → Fps → Prop) → Prop
  | [], T, m, fp, K => K T m fp
  | o :: r, T, m, fp, K => guardK N ops o T
      (opK P tab o (evK T) m (fun rd v => putK N o.dst v T fun T' => runK P tab N ops r T' m (fp ++ [(false, rd)]) K)
        (fun wr v m' => putK N o.dst v T fun T' => runK P tab N ops r T' m' (fp ++ [(true, wr)]) K))
      (putK N o.dst (.tup []) T fun T' => runK P tab N ops r T' m (fp ++ [(false, [])]) K)

structure Ent where
  T : Tm
  m : Mem
  skip : Bool
  imp : Bool
  fp : List Nat
  v : AV
  m' : Mem

def GuardIs (N : Nat) (ops : List Oper) (o : Oper) (T : Tm) (r : Bool) : Prop :=
  match o.guard with
  | none => r = true
  | some (j, want) => ∃ t, (ops[j]?).bind (·.dst) = some t ∧ t < N ∧ ((∃ b, look T t = abool b ∧ r = (b == want)) ∨ (look T t = .tup [] ∧ r = false))

def EntOK (P : Program) (N : Nat) (ops : List Oper) (o : Oper) (e : Ent) : Prop :=
  (∀ d, o.dst = some d → d < N) ∧
  ((e.skip = true ∧ e.imp = false ∧ e.m' = e.m ∧ e.v = .tup [] ∧ e.fp = [] ∧ GuardIs N ops o e.T false) ∨
   (e.skip = false ∧ GuardIs N ops o e.T true ∧ ((e.imp = false ∧ e.m' = e.m ∧ PureOp P o (evF e.T) e.m e.fp e.v) ∨ (e.imp = true ∧ ImpOp P o (evF e.T) e.m e.fp e.v e.m'))))

inductive Chain (P : Program) (N : Nat) (ops : List Oper) : List Oper → Tm → Mem → List Ent → Tm → Mem → Prop
  | nil (T : Tm) (m : Mem) : Chain P N ops [] T m [] T m
  | cons {o : Oper} {l : List Oper} {e : Ent} {es : List Ent} {T' : Tm} {m' : Mem} (h : EntOK P N ops o e) (c : Chain P N ops l (putT o.dst e.v e.T) e.m' es T' m') : Chain P N ops (o :: l) e.T e.m (e :: es) T' m'

def fps (es : List Ent) : Fps := es.map fun e => (e.imp, e.fp)

theorem putK_sound {N : Nat} {d : Option Nat} {v : AV} {T : Tm} {K : Tm → Prop} (h : putK N d v T K) : (∀ q, d = some q → q < N) ∧ K (putT d v T) := by
  cases d with
  | none => exact ⟨by simp, h⟩
  | some d => exact ⟨fun q hq => by injection hq with hq; subst hq; exact h.1, h.2⟩

theorem runK_sound {P : Program} {tab : Tab} (ht : TabOK P tab) {N : Nat} {ops : List Oper} : ∀ {l : List Oper} {T : Tm} {m : Mem} {fp : Fps} {K : Tm → Mem → Fps → Prop}, runK P tab N ops l T m fp K →
    ∃ es T' m', Chain P N ops l T m es T' m' ∧ K T' m' (fp ++ fps es)
  | [], T, m, fp, K, h => ⟨[], T, m, .nil T m, by simpa [fps, runK] using h⟩
  | o :: r, T, m, fp, K, h => by
    unfold runK at h
    have skip : GuardIs N ops o T false → (putK N o.dst (.tup []) T fun T' => runK P tab N ops r T' m (fp ++ [(false, [])]) K) → ∃ es T' m', Chain P N ops (o :: r) T m es T' m' ∧ K T' m' (fp ++ fps es) := by
      intro hg h
      obtain ⟨hd, h⟩ := putK_sound h
      obtain ⟨es, T', m', hc, hK⟩ := runK_sound ht h
      exact ⟨⟨T, m, true, false, [], .tup [], m⟩ :: es, T', m', .cons (e := ⟨T, m, true, false, [], .tup [], m⟩) ⟨hd, .inl ⟨rfl, rfl, rfl, rfl, rfl, hg⟩⟩ hc, by simpa [fps] using hK⟩
    have go : GuardIs N ops o T true → (opK P tab o (evK T) m (fun rd v => putK N o.dst v T fun T' => runK P tab N ops r T' m (fp ++ [(false, rd)]) K)
        (fun wr v m' => putK N o.dst v T fun T' => runK P tab N ops r T' m' (fp ++ [(true, wr)]) K)) → ∃ es T' m', Chain P N ops (o :: r) T m es T' m' ∧ K T' m' (fp ++ fps es) := by
      intro hg h
      rcases opK_sound (evK_sound T) ht h with ⟨rd, v, h, hp⟩ | ⟨wr, v, m1, h, hi⟩
      · obtain ⟨hd, h⟩ := putK_sound h
        obtain ⟨es, T', m', hc, hK⟩ := runK_sound ht h
        exact ⟨⟨T, m, false, false, rd, v, m⟩ :: es, T', m', .cons (e := ⟨T, m, false, false, rd, v, m⟩) ⟨hd, .inr ⟨rfl, hg, .inl ⟨rfl, rfl, hp⟩⟩⟩ hc, by simpa [fps] using hK⟩
      · obtain ⟨hd, h⟩ := putK_sound h
        obtain ⟨es, T', m', hc, hK⟩ := runK_sound ht h
        exact ⟨⟨T, m, false, true, wr, v, m1⟩ :: es, T', m', .cons (e := ⟨T, m, false, true, wr, v, m1⟩) ⟨hd, .inr ⟨rfl, hg, .inr ⟨rfl, hi⟩⟩⟩ hc, by simpa [fps] using hK⟩
    unfold guardK at h
    split at h
    · rename_i hg
      exact go (by unfold GuardIs; rw [hg]) h
    · rename_i j want hg
      split at h
      · rename_i t hd
        obtain ⟨hN, h⟩ := h
        have h := getK_sound h
        split at h
        · rename_i hv
          exact skip (by unfold GuardIs; rw [hg]; exact ⟨t, hd, hN, .inr ⟨hv, rfl⟩⟩) h
        · obtain ⟨b, hb, h1, h2⟩ := boolK_sound h
          by_cases hbw : b = want
          · exact go (by unfold GuardIs; rw [hg]; exact ⟨t, hd, hN, .inl ⟨b, hb, by simp [hbw]⟩⟩) (h1 hbw)
          · exact skip (by unfold GuardIs; rw [hg]; exact ⟨t, hd, hN, .inl ⟨b, hb, by simp [hbw]⟩⟩) (h2 (by cases b <;> cases want <;> simp_all))
      · exact h.elim

/-! ### In the order of the text -/

structure StRep (N : Nat) (T : Tm) (m : Mem) (a : Act) (w : World) (cx : Cx) : Prop where
  tmps : ∀ t, Rep w cx m.length (look T t) (a.tmps.getD t undef)
  mem : MemRep w cx m
  defers : a.defers = []
  size : a.tmps.size = N

theorem put_getD {a : Act} {d : Option Nat} {v : Value} (h : ∀ q, d = some q → q < a.tmps.size) (t : Nat) : (a.put d v).tmps.getD t undef = if d = some t then v else a.tmps.getD t undef := by
  cases d with
  | none => simp [Act.put]
  | some d =>
    have hd := h d rfl
    by_cases hdt : d = t
    · subst hdt
      simp [Act.put, hd]
    · simp [Act.put, hdt, Array.getElem?_setIfInBounds_ne hdt]

theorem put_size (a : Act) (d : Option Nat) (v : Value) : (a.put d v).tmps.size = a.tmps.size := by
  cases d <;> simp [Act.put]

theorem put_defers (a : Act) (d : Option Nat) (v : Value) : (a.put d v).defers = a.defers := by
  cases d <;> rfl

theorem guard_wanted {N : Nat} {ops : List Oper} {o : Oper} {T : Tm} {r : Bool} {a : Act} {w : World} {cx : Cx} {L : Nat} (h : GuardIs N ops o T r) (hs : a.tmps.size = N)
    (hr : ∀ j t, o.guard.map (·.1) = some j → (ops[j]?).bind (·.dst) = some t → Rep w cx L (look T t) (a.tmps.getD t undef)) : Region.wanted o (yielded ops.toArray a.tmps) = r := by
  unfold GuardIs at h
  unfold Region.wanted
  split at h
  · rename_i hg
    rw [hg]; simpa using h.symm
  · rename_i j want hg
    obtain ⟨t, hd, hN, h⟩ := h
    rw [hg]
    have := hr j t (by rw [hg]; rfl) hd
    have hd' : (ops.toArray[j]?).bind (·.dst) = some t := by simpa using hd
    rcases h with ⟨b, hb, rfl⟩ | ⟨hb, rfl⟩
    case inr =>
      rw [hb] at this
      have hlt : t < a.tmps.size := by rw [hs]; exact hN
      have hget : ∃ vs, a.tmps[t]? = some (.tuple vs) := by
        generalize he : a.tmps.getD t undef = v at this
        rw [Array.getD_eq_getD_getElem?, Array.getElem?_eq_getElem hlt] at he
        rw [Array.getElem?_eq_getElem hlt]
        cases this with
        | tup _ vs _ _ => exact ⟨vs, by simpa using he⟩
      obtain ⟨vs, hget⟩ := hget
      have hy : yielded ops.toArray a.tmps j = none := by
        unfold yielded
        rw [hd', Option.bind_some, hget]
      simp [hy]
    rw [hb] at this
    have hv := rep_bool this
    have hlt : t < a.tmps.size := by rw [hs]; exact hN
    have hget : a.tmps[t]? = some (.bool b) := by
      rw [Array.getD_eq_getD_getElem?, Array.getElem?_eq_getElem hlt] at hv
      rw [Array.getElem?_eq_getElem hlt]
      simpa using hv
    have hy : yielded ops.toArray a.tmps j = some b := by
      unfold yielded
      rw [hd', Option.bind_some, hget]
    simp [hy]

theorem chain_list {P : Program} {N : Nat} {ops : List Oper} {Q : Exit → Act → World → Prop} : ∀ {l : List Oper} {T : Tm} {m : Mem} {es : List Ent} {T' : Tm} {m' : Mem}, Chain P N ops l T m es T' m' →
    ∀ {a : Act} {w : World} {cx : Cx} (_ : StRep N T m a w cx) (_ : ∀ a' w' cx', StRep N T' m' a' w' cx' → Ext m.length w cx w' cx' → m.length ≤ m'.length → Q .normal a' w'), wpList P ops.toArray Q l a w := by
  intro l T m es T' m' c
  induction c with
  | nil T m => exact fun hs hQ => hQ _ _ _ hs (Ext.refl _ _ _) (Nat.le_refl _)
  | @cons o l e es T' m' h c ih =>
    intro a w cx hs hQ
    obtain ⟨hd, h⟩ := h
    have hops : ∀ x, x ∈ o.op.operands → Rep w cx e.m.length (evF e.T x) (a.eval x) := fun x _ => rep_ev fun t _ => hs.tmps t
    unfold wpList
    rcases h with ⟨_, _, hm', hv, _, hg⟩ | ⟨_, hg, h⟩
    · have hw := guard_wanted (w := w) (cx := cx) (L := e.m.length) hg hs.size (fun j t _ _ => hs.tmps t)
      rw [hw]
      refine ih (cx := cx) ⟨fun t => ?_, by rw [hm']; exact hs.mem, by rw [put_defers]; exact hs.defers, by rw [put_size]; exact hs.size⟩ (by rw [hm']; exact hQ)
      rw [put_getD (by rw [hs.size]; exact hd)]
      by_cases ht : o.dst = some t
      · rw [if_pos ht, ht, look_put_same, hv]; exact .tup [] #[] rfl (by simp)
      · rw [if_neg ht, look_put_other ht, hm']; exact hs.tmps t
    · have hw := guard_wanted (w := w) (cx := cx) (L := e.m.length) hg hs.size (fun j t _ _ => hs.tmps t)
      rw [hw, if_pos rfl]
      refine .inl ?_
      rcases h with ⟨_, hm', hp⟩ | ⟨_, hi⟩
      · refine Upon.wp (hp.2 a.eval w cx e.m hs.mem (fun _ _ => rfl) hops) fun v w' ⟨h1, h2, h3⟩ => ?_
        refine ih (cx := cx) ⟨fun t => ?_, by rw [hm']; exact h2, by rw [put_defers]; exact hs.defers, by rw [put_size]; exact hs.size⟩ fun a' w'' cx' hs' hE hl => hQ a' w'' cx' hs' (h1.trans (fun _ _ e' => hs.mem.lt e') (by rw [hm'] at hE; exact hE) (Nat.le_refl _)) (by rw [hm'] at hl; exact hl)
        rw [put_getD (by rw [hs.size]; exact hd)]
        by_cases ht : o.dst = some t
        · rw [if_pos ht, ht, look_put_same, hm']; exact h3
        · rw [if_neg ht, look_put_other ht, hm']; exact (hs.tmps t).ext h1 (Nat.le_refl _)
      · refine Upon.wp (hi.2.2.2 a.eval w cx hs.mem hops) fun v w' ⟨cx1, h1, h2, h3⟩ => ?_
        refine ih (cx := cx1) ⟨fun t => ?_, h2, by rw [put_defers]; exact hs.defers, by rw [put_size]; exact hs.size⟩ fun a' w'' cx' hs' hE hl => hQ a' w'' cx' hs' (h1.trans (fun _ _ e' => hs.mem.lt e') hE hi.1) (Nat.le_trans hi.1 hl)
        rw [put_getD (by rw [hs.size]; exact hd)]
        by_cases ht : o.dst = some t
        · rw [if_pos ht, ht, look_put_same]; exact h3
        · rw [if_neg ht, look_put_other ht]; exact (hs.tmps t).ext h1 hi.1
end Go.Proofs.Abs
