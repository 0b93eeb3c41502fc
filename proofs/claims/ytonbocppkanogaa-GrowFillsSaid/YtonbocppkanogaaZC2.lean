/- The loop's rule in the form that a walk takes; what stands for what at a call. -/
import Derived.Test.YtonbocppkanogaaZC1
import Derived.Laws.BitsLemmas
set_option linter.all false
namespace Go.Proofs.Abs
open Go Go.RowKit Go.Proofs

theorem wrap64 {n : Int} (h : -9223372036854775808 ≤ n ∧ n < 9223372036854775808) : IntKind.i64.wrap n = n := by
  rw [IntKind.wrap_i64]; omega

theorem AWP_for {P : Program} {tab : Tab} (ht : TabOK P tab) (hmx : P.follows .mixedOrders = true) {N L : Nat} {body : Code} {Q : Post} {T : Tm} {m : Mem} {α : Type} (μ : α → Nat) (I : α → Prop) (TT : α → Tm) (MM : α → Mem) (a0 : α) (ks : List Nat)
    (hle : StLe L ks T m (TT a0) (MM a0)) (h0 : I a0)
    (round : ∀ a, I a → cwp P tab N L body (seqQ (fun T1 m1 => ∃ a' ks, (μ a' < μ a ∧ I a') ∧ StLe L ks T1 m1 (TT a') (MM a')) Q) (TT a) (MM a)) : AWP P N L (.loop body) Q T m := by
  refine AWP_loop (fun n T' m' => ∃ a, I a ∧ n = μ a ∧ T' = TT a ∧ m' = MM a) (μ a0) ks hle ⟨a0, h0, rfl, rfl, rfl⟩ ?_
  rintro n T' m' ⟨a, hI, rfl, rfl, rfl⟩
  refine (cwp_sound ht hmx (round a hI)).mono fun e T1 m1 _ hq => ?_
  cases e with
  | normal =>
    obtain ⟨a', ks', ⟨h1, h2⟩, h3⟩ := hq
    exact ⟨μ a', TT a', MM a', ks', h1, ⟨a', h2, rfl, rfl, rfl⟩, h3⟩
  | _ => exact hq

def ile1 : AV → AV → Prop
  | .d x, .d y => DEqv x y
  | .dp xs, .dp ys => LEqv xs ys
  | _, _ => False

def iles1 : List AV → List AV → Prop
  | [], [] => True
  | x :: xs, y :: ys => ile1 x y ∧ iles1 xs ys
  | _, _ => False

def ile : AV → AV → Prop
  | .agg xs, .agg ys => iles1 xs ys
  | .fn f [] [], .fn g [] [] => f = g
  | x, y => ile1 x y

def argsLe : List AV → List AV → Prop
  | [], [] => True
  | x :: xs, y :: ys => ile x y ∧ argsLe xs ys
  | _, _ => False

section
variable {w : World} {cx : Cx} {L : Nat}
theorem ile1_rep {x y : AV} {v : Value} (h : ile1 x y) (hr : Rep w cx L x v) : Rep w cx L y v := by
  unfold ile1 at h
  split at h
  · cases hr with
    | d hr => exact .d (h _ _ _ hr)
  · cases hr with
    | dp cs b o y hU hb hc hrep =>
      refine .dp _ b o y hU hb (fun j z hz => ?_) (fun j z hz => ?_)
      · obtain ⟨z', hz', _⟩ := h j z hz
        exact hc j z' hz'
      · obtain ⟨z', hz', e⟩ := h j z hz
        exact e _ _ _ (hrep j z' hz')
  · exact h.elim

theorem iles1_get : ∀ {xs ys : List AV}, iles1 xs ys → xs.length = ys.length ∧ ∀ (j : Nat) (y : AV), ys[j]? = some y → ∃ x, xs[j]? = some x ∧ ile1 x y
  | [], [], _ => ⟨rfl, by simp⟩
  | x :: xs, y :: ys, h => by
    obtain ⟨h1, h2⟩ := iles1_get h.2
    refine ⟨by simp [h1], fun j z hz => ?_⟩
    cases j with
    | zero => simp at hz; subst hz; exact ⟨x, rfl, h.1⟩
    | succ j => simpa using h2 j z (by simpa using hz)
  | [], _ :: _, h => h.elim
  | _ :: _, [], h => h.elim

theorem ile_rep {x y : AV} {v : Value} (h : ile x y) (hr : Rep w cx L x v) : Rep w cx L y v := by
  unfold ile at h
  split at h
  · obtain ⟨h1, h2⟩ := iles1_get h
    cases hr with
    | agg _ vs h3 h4 =>
      refine .agg _ _ (by omega) fun j y hy => ?_
      obtain ⟨x, hx, e⟩ := h2 j y hy
      exact ile1_rep e (h4 j x hx)
  · subst h; exact hr
  · exact ile1_rep h hr

theorem argsLe_get : ∀ {xs ys : List AV}, argsLe xs ys → xs.length = ys.length ∧ ∀ (j : Nat) (y : AV), ys[j]? = some y → ∃ x, xs[j]? = some x ∧ ile x y
  | [], [], _ => ⟨rfl, by simp⟩
  | x :: xs, y :: ys, h => by
    obtain ⟨h1, h2⟩ := argsLe_get h.2
    refine ⟨by simp [h1], fun j z hz => ?_⟩
    cases j with
    | zero => simp at hz; subst hz; exact ⟨x, rfl, h.1⟩
    | succ j => simpa using h2 j z (by simpa using hz)
  | [], _ :: _, h => h.elim
  | _ :: _, [], h => h.elim
end

theorem PC.sub {P : Program} {f : FuncId} {args args' : List AV} {r : AV} (h : PC P f args r) (hle : argsLe args' args) : PC P f args' r := by
  refine ⟨h.go, fun w cx m vs hm hv => h.run w cx m vs hm ?_⟩
  obtain ⟨h1, h2⟩ := argsLe_get hle
  refine ⟨hv.1.trans h1, fun j y hy => ?_⟩
  obtain ⟨x, hx, e⟩ := h2 j y hy
  exact ile_rep e (hv.2 j x hx)

theorem PC.at {P : Program} {f : FuncId} {args args' : List AV} {r : AV} {K : AV → Prop} (h : PC P f args r) (hle : argsLe args' args) (k : K r) : ∃ r, PC P f args' r ∧ K r := ⟨r, h.sub hle, k⟩
theorem PC.on {P : Program} {f : FuncId} {args : List AV} {r : AV} {K : AV → Prop} (h : PC P f args r) (k : K r) : ∃ r, PC P f args r ∧ K r := ⟨r, h, k⟩

theorem DEqv.bool {a b : Bool} (h : a = b) : DEqv (.v (.bool a)) (.v (.bool b)) := h ▸ DEqv.refl _
theorem DEqv.int {k : IntKind} {a b : Int} (h : a = b) : DEqv (.v (.int k a)) (.v (.int k b)) := h ▸ DEqv.refl _
section
variable {P : Program} {tab : Tab} {N L : Nat} {Q : Post} {T : Tm} {m : Mem}
theorem cwp_seq {a b : Code} (h : cwp P tab N L a (seqQ (cwp P tab N L b Q) Q) T m) : cwp P tab N L (.seq a b) Q T m := h
theorem cwp_draw {id : Nat} {ops : Array Oper} (h : runK P tab N ops.toList ops.toList T m [] fun T' m' fp => drawOK ops.toList fp = true ∧ Q .normal T' m') : cwp P tab N L (.region id ops true) Q T m := h
theorem cwp_region {id : Nat} {ops : Array Oper} (h : runK P tab N ops.toList ops.toList T m [] fun T' m' _ => Q .normal T' m') : cwp P tab N L (.region id ops false) Q T m := h
theorem cwp_cond {c : Operand} {a b : Code} (h : evK T c fun v => boolK v fun t => (t = true → cwp P tab N L a Q T m) ∧ (t = false → cwp P tab N L b Q T m)) : cwp P tab N L (.cond c a b) Q T m := h
theorem cwp_block {id : Nat} {c : Code} (h : cwp P tab N L c (blockQ id Q) T m) : cwp P tab N L (.block id c) Q T m := h
theorem cwp_loop {c : Code} (h : AWP P N L (.loop c) Q T m) : cwp P tab N L (.loop c) Q T m := h
theorem cwp_range {f : Operand} {ps : Array TypeId} {a b : Code} (h : AWP P N L (.rangeFunc f ps a b) Q T m) : cwp P tab N L (.rangeFunc f ps a b) Q T m := h
theorem cwp_scope {c : Code} (h : AWP P N L (.scope c) Q T m) : cwp P tab N L (.scope c) Q T m := h
theorem cwp_skip (h : Q .normal T m) : cwp P tab N L .skip Q T m := h
theorem cwp_exit {id : Nat} (h : Q (.exit id) T m) : cwp P tab N L (.exit id) Q T m := h
theorem cwp_label {id : Nat} (h : Q .normal T m) : cwp P tab N L (.label id) Q T m := h
theorem cwp_goto {id : Nat} (h : Q (.goto id) T m) : cwp P tab N L (.goto id) Q T m := h
theorem cwp_ret (h : Q .ret T m) : cwp P tab N L .ret Q T m := h
theorem seqQ_normal {K : Tm → Mem → Prop} (h : K T m) : seqQ K Q .normal T m := h
theorem seqQ_ret {K : Tm → Mem → Prop} (h : Q .ret T m) : seqQ K Q .ret T m := h
theorem seqQ_exit {K : Tm → Mem → Prop} {id : Nat} (h : Q (.exit id) T m) : seqQ K Q (.exit id) T m := h
theorem seqQ_goto {K : Tm → Mem → Prop} {id : Nat} (h : Q (.goto id) T m) : seqQ K Q (.goto id) T m := h
theorem blockQ_normal {id : Nat} (h : Q .normal T m) : blockQ id Q .normal T m := h
theorem blockQ_ret {id : Nat} (h : Q .ret T m) : blockQ id Q .ret T m := h
theorem blockQ_goto {id l : Nat} (h : Q (.goto l) T m) : blockQ id Q (.goto l) T m := h
theorem blockQ_here {id q : Nat} (e : Nat.beq q id = true) (h : Q .normal T m) : blockQ id Q (.exit q) T m := by
  show (match Nat.beq q id with | true => Q .normal T m | false => Q (.exit q) T m)
  rw [e]; exact h
theorem blockQ_on {id q : Nat} (e : Nat.beq q id = false) (h : Q (.exit q) T m) : blockQ id Q (.exit q) T m := by
  show (match Nat.beq q id with | true => Q .normal T m | false => Q (.exit q) T m)
  rw [e]; exact h
theorem endQ_normal {rs : List ResultVar} {R : AV → Mem → Prop} (h : resK tab T m rs fun vs => oneK vs fun r => R r m) : endQ tab rs R .normal T m := h
theorem endQ_ret {rs : List ResultVar} {R : AV → Mem → Prop} (h : resK tab T m rs fun vs => oneK vs fun r => R r m) : endQ tab rs R .ret T m := h
end

theorem forall_lt_one {p : Nat → Prop} (h : p 0) : ∀ i, i < 1 → p i := fun i hi => by obtain rfl : i = 0 := by omega
                                                                                      exact h
theorem forall_lt_zero {p : Nat → Prop} : ∀ i, i < 0 → p i := fun i hi => by omega
theorem DEqv.nil {t : Bool} {s s' : Nat} {f g : Nat → List D} : DEqv (.sl t s 0 f) (.sl false s' 0 g) := DEqv.sl rfl (fun e => by cases e) (.inl rfl) fun i hi => absurd hi (Nat.not_lt_zero i)
theorem dimp {p q : Prop} (b : Bool) (h : b = true → p) (h' : b = false → q) : (b = true → p) ∧ (b = false → q) := ⟨h, h'⟩


theorem noT {b : Bool} {p : Prop} (h : b = true) : b = false → p := fun e => by rw [h] at e; cases e
theorem noF {b : Bool} {p : Prop} (h : b = false) : b = true → p := fun e => by rw [h] at e; cases e

theorem setF_same (f : Nat → List D) (q : Nat) (x : List D) : setF f q x q = x := if_pos rfl

/-! ### Short words of printed walks -/
theorem sl {a b : Nat} {p : Prop} (h : Nat.ble a b = true) (x : p) : a ≤ b ∧ p := ⟨Nat.le_of_ble_eq_true h, x⟩
theorem an {p q : Prop} (x : p) (y : q) : p ∧ q := ⟨x, y⟩
theorem ez {w z : Int} {p : Int → Prop} (h : w = z) (x : p z) : ∃ z, w = z ∧ p z := ⟨z, h, x⟩
theorem oT {b : Bool} {p q : Prop} (h : b = true) (x : p) : (b = true → p) ∧ (b = false → q) := ⟨fun _ => x, noT h⟩
theorem oF {b : Bool} {p q : Prop} (h : b = false) (x : q) : (b = true → p) ∧ (b = false → q) := ⟨noF h, fun _ => x⟩
theorem uT {b : Bool} {p q : Prop} (h : b = true) (x : p) : (b = false → q) ∧ (b = true → p) := ⟨noT h, fun _ => x⟩
theorem uF {b : Bool} {p q : Prop} (h : b = false) (x : q) : (b = false → q) ∧ (b = true → p) := ⟨fun _ => x, noF h⟩
end Go.Proofs.Abs
