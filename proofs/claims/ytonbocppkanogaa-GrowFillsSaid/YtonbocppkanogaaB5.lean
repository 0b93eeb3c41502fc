/- Contracts out of what is computed of a body. -/
import Derived.Test.YtonbocppkanogaaB4
set_option linter.all false
namespace Go.Proofs.Abs
open Go Go.RowKit

def resK (tab : Tab) (T : Tm) (m : Mem) : List ResultVar → (List AV → Prop) → Prop
  | [], K => K []
  | .tmp t :: r, K => getK T t fun v => resK tab T m r fun vs => K (v :: vs)
  | .cell a t :: r, K => getK T a fun p => tabK tab t fun i => readK m p i.size fun _ xs => match i.agg with
    | true => resK tab T m r fun vs => K (.agg xs :: vs)
    | false => match xs with
      | [x] => resK tab T m r fun vs => K (x :: vs)
      | _ => False

def oneK (vs : List AV) (K : AV → Prop) : Prop :=
  match vs with
  | [v] => K v
  | vs => K (.tup vs)

def endQ (tab : Tab) (rs : List ResultVar) (R : AV → Mem → Prop) : Post
  | .normal, T, m => resK tab T m rs fun vs => oneK vs fun r => R r m
  | .ret, T, m => resK tab T m rs fun vs => oneK vs fun r => R r m
  | _, _, _ => False

def argT : Nat → List AV → Tm
  | _, [] => []
  | i, x :: xs => (i, x) :: argT (i + 1) xs

theorem look_argT : ∀ (xs : List AV) (i t : Nat), look (argT i xs) t = if i ≤ t then (xs[t - i]?).getD .junk else .junk
  | [], i, t => by simp [argT, look]
  | x :: xs, i, t => by
    have e : look (argT i (x :: xs)) t = if i = t then x else look (argT (i + 1) xs) t := rfl
    rw [e, look_argT xs (i + 1) t]
    by_cases h : i = t
    · subst h; simp
    · rw [if_neg h]
      by_cases hle : i ≤ t
      · rw [if_pos hle, if_pos (by omega), show t - i = (t - (i + 1)) + 1 by omega]
        simp
      · rw [if_neg hle, if_neg (by omega)]

/-- One result out of its variable. -/
def resOf (a : Act) : ResultVar → Sem Value
  | .tmp t => pure (a.tmps.getD t undef)
  | .cell b t => do loadVar t (← asAddr (a.tmps.getD b undef))

section
variable {P : Program} {tab : Tab}

theorem rep_results (ht : TabOK P tab) {w : World} {cx : Cx} {N : Nat} {T : Tm} {m : Mem} {a : Act} (hs : StRep N T m a w cx) : ∀ {rs : List ResultVar} {K : List AV → Prop}, resK tab T m rs K →
    ∃ (xs : List AV) (vs : List Value), K xs ∧ vs.length = xs.length ∧ (rs.mapM (resOf a)).run P w = .ok vs w ∧
      ∀ (j : Nat) (x : AV), xs[j]? = some x → ∃ v, vs[j]? = some v ∧ Rep w cx m.length x v
  | [], K, h => ⟨[], [], h, rfl, by simp, by simp⟩
  | .tmp t :: r, K, h => by
    obtain ⟨xs, vs, hK, hl, hrun, hr⟩ := rep_results ht hs (rs := r) (getK_sound h)
    refine ⟨_, a.tmps.getD t undef :: vs, hK, by simp [hl], ?_, fun j x hx => ?_⟩
    · rw [List.mapM_cons, Sem.run_bind]
      show ((pure (a.tmps.getD t undef) : Sem Value).run P w).andThen _ = _
      rw [Sem.run_pure, Result.andThen_ok, Sem.run_bind, hrun]
      rfl
    · cases j with
      | zero => simp at hx; subst hx; exact ⟨_, rfl, hs.tmps t⟩
      | succ j => simpa using hr j x (by simpa using hx)
  | .cell b t :: r, K, h => by
    obtain ⟨i, hi, h⟩ := tabK_sound (getK_sound h)
    have hT := ht t i hi
    obtain ⟨rd, ys, h, hlen, _, hread⟩ := readK_sound h
    have hp := hread w cx m _ hs.mem (fun _ _ => rfl) (hs.tmps b)
    have hload := run_loadAt hT hp hlen
    obtain ⟨bb, oo, hpe, _⟩ := hp
    have hcv : ∀ {v : Value}, (Instr.loadAt t (a.tmps.getD b undef)).run P w = .ok v w → (resOf a (.cell b t)).run P w = .ok v w := by
      intro v hv
      show (do loadVar t (← asAddr (a.tmps.getD b undef)) : Sem Value).run P w = .ok v w
      rw [hpe] at hv ⊢
      simpa [Instr.loadAt, Instr.sureAddr, asAddr] using hv
    have fin : ∀ {x0 : AV} {v0 : Value} {K' : List AV → Prop}, resK tab T m r (fun vs => K (x0 :: vs)) → (Instr.loadAt t (a.tmps.getD b undef)).run P w = .ok v0 w → Rep w cx m.length x0 v0 →
        ∃ (xs : List AV) (vs : List Value), K xs ∧ vs.length = xs.length ∧ ((ResultVar.cell b t :: r).mapM (resOf a)).run P w = .ok vs w ∧
          ∀ (j : Nat) (x : AV), xs[j]? = some x → ∃ v, vs[j]? = some v ∧ Rep w cx m.length x v := by
      intro x0 v0 _ h hrun0 hrep0
      obtain ⟨xs, vs, hK, hl, hrun, hr⟩ := rep_results ht hs (rs := r) h
      refine ⟨_, v0 :: vs, hK, by simp [hl], ?_, fun j x hx => ?_⟩
      · rw [List.mapM_cons, Sem.run_bind, hcv hrun0, Result.andThen_ok, Sem.run_bind, hrun]
        rfl
      · cases j with
        | zero => simp at hx; subst hx; exact ⟨_, rfl, hrep0⟩
        | succ j => simpa using hr j x (by simpa using hx)
    cases ha : i.agg with
    | true =>
      rw [ha] at h
      obtain ⟨vs0, h1, h2⟩ := hload.1 ha
      exact fin (K' := K) h h1 h2
    | false =>
      rw [ha] at h
      simp only at h
      split at h
      · obtain ⟨v0, h1, h2⟩ := hload.2 ha _ rfl
        exact fin (K' := K) h h1 h2
      · exact h.elim

theorem rep_ret (ht : TabOK P tab) {fn : Func} {w : World} {cx : Cx} {N : Nat} {T : Tm} {m : Mem} {a : Act} (hs : StRep N T m a w cx) {R : AV → Prop} (h : resK tab T m fn.results.toList fun vs => oneK vs R) :
    ∃ r v, R r ∧ (results fn a.tmps).run P w = .ok v w ∧ Rep w cx m.length r v := by
  obtain ⟨xs, vs, hK, hl, hrun, hr⟩ := rep_results ht hs h
  have hfun : (fun x : ResultVar => match x with | .tmp t => (pure (a.tmps.getD t undef) : Sem Value) | .cell b t => do loadVar t (← asAddr (a.tmps.getD b undef))) = resOf a := by
    funext x
    cases x <;> rfl
  have hres : (results fn a.tmps).run P w = .ok (if h : vs.toArray.size = 1 then vs.toArray[0] else .tuple vs.toArray) w := by
    unfold results
    rw [Sem.run_bind]
    have hmap : (fn.results.mapM (resOf a)).run P w = .ok vs.toArray w := by
      rw [Array.mapM_eq_mapM_toList]
      rw [Sem.run_map, hrun]
      rfl
    have h2 : (fn.results.mapM fun x : ResultVar => match x with | .tmp t => (pure (a.tmps.getD t undef) : Sem Value) | .cell b t => do loadVar t (← asAddr (a.tmps.getD b undef))).run P w = .ok vs.toArray w := by
      rw [hfun]; exact hmap
    refine Eq.trans (congrArg (fun z => Result.andThen z _) h2) ?_
    rfl
  unfold oneK at hK
  split at hK
  · rename_i x
    obtain ⟨v, rfl⟩ := List.length_eq_one_iff.1 (hl.trans rfl)
    obtain ⟨v', hv', hrep⟩ := hr 0 x rfl
    have e : v = v' := by simpa using hv'
    subst e
    exact ⟨x, v, hK, by simpa using hres, hrep⟩
  · rename_i hne
    refine ⟨.tup xs, .tuple vs.toArray, hK, ?_, .tup _ _ (by simpa using hl) fun j x hx => ?_⟩
    · have h1 : ¬ vs.toArray.size = 1 := by
        intro h1
        have h2 : xs.length = 1 := by rw [← hl]; simpa using h1
        obtain ⟨x, hx⟩ := List.length_eq_one_iff.1 h2
        exact hne x hx
      rw [hres, dif_neg h1]
    · obtain ⟨v, hv, hrep⟩ := hr j x hx
      have := (List.getElem?_eq_some_iff.1 hv)
      simpa [Array.getD, this.1, this.2] using hrep

theorem isGo_of {f : FuncId} {fn : Func} {c : Code} (hf : P.funcs[f]? = some fn) (hb : fn.body = some c) (hn : (fn.name != "runtime.NumGoroutine") = true) : isGo P f = true := by
  unfold isGo
  rw [hf]
  simp only [hn, hb, Bool.true_and]
  rfl

/-- The act in which a call begins. -/
theorem start_rep {w : World} {cx : Cx} {m : Mem} {args : List AV} {vs : Array Value} {N : Nat} (hm : MemRep w cx m) (hv : RepL w cx m.length args vs) (hN : args.length ≤ N) :
    StRep N (argT 0 args) m { tmps := vs ++ Array.replicate (N - vs.size) undef, defers := [] } w cx := by
  refine ⟨fun t => ?_, hm, rfl, by simp; have := hv.1; omega⟩
  rw [look_argT, if_pos (Nat.zero_le _), Nat.sub_zero]
  cases hx : args[t]? with
  | none => exact .junk _
  | some x =>
    have hlt := (List.getElem?_eq_some_iff.1 hx).1
    have h1 := hv.2 t x hx
    have hs := hv.1
    have e : (vs ++ Array.replicate (N - vs.size) undef).getD t undef = vs.getD t undef := by
      rw [Array.getD_eq_getD_getElem?, Array.getD_eq_getD_getElem?, Array.getElem?_append_left (by omega)]
    simp only [Option.getD_some]
    rw [e]
    exact h1

theorem calls_body (ht : TabOK P tab) (hmx : P.follows .mixedOrders = true) {f : FuncId} {fn : Func} {c : Code} (hf : P.funcs[f]? = some fn) (hb : fn.body = some c) {args : List AV} {m : Mem} (hN : args.length ≤ fn.ntmps) {R : AV → Mem → Prop}
    (h : cwp P tab fn.ntmps m.length c (endQ tab fn.results.toList R) (argT 0 args) m) {w : World} {cx : Cx} {vs : Array Value} (hm : MemRep w cx m) (hv : RepL w cx m.length args vs) :
    Calls P f vs w fun e w' => ∃ v, e = .returned v ∧ ∃ r1 m1 cx', R r1 m1 ∧ Ext m.length w cx w' cx' ∧ MemRep w' cx' m1 ∧ m.length ≤ m1.length ∧ Rep w' cx' m1.length r1 v := by
  refine calls_of_wp hf hb ?_
  refine wp_mono (cwp_sound ht hmx h (Nat.le_refl _) _ w cx (start_rep hm hv hN)) ?_
  intro e a w' ⟨T', m1, cx', hq, hs, hE, hl⟩
  cases e with
  | normal =>
    obtain ⟨r, v, hR, hrun, hrep⟩ := rep_ret ht hs hq
    exact ⟨hs.defers, v, hrun, v, rfl, r, m1, cx', hR, hE, hs.mem, hl, hrep⟩
  | ret =>
    obtain ⟨r, v, hR, hrun, hrep⟩ := rep_ret ht hs hq
    exact ⟨hs.defers, v, hrun, v, rfl, r, m1, cx', hR, hE, hs.mem, hl, hrep⟩
  | exit id => exact hq.elim
  | goto l => exact hq.elim
  | panic ch => exact hq.elim
  | outgrown => exact hq.elim

/-- A call that turns memory, out of its body. -/
theorem AC_of (ht : TabOK P tab) (hmx : P.follows .mixedOrders = true) {f : FuncId} {fn : Func} {c : Code} (hf : P.funcs[f]? = some fn) (hb : fn.body = some c) (hn : (fn.name != "runtime.NumGoroutine") = true) {args : List AV} {m m' : Mem} {r : AV} (hN : args.length ≤ fn.ntmps)
    (h : cwp P tab fn.ntmps m.length c (endQ tab fn.results.toList fun r1 m1 => ∃ ks, StLe m.length ks [(0, r1)] m1 [(0, r)] m') (argT 0 args) m) (hl : m.length ≤ m'.length) : AC P f args m r m' := by
  refine ⟨isGo_of hf hb hn, hl, fun w cx vs hm hv => ?_⟩
  refine (calls_body ht hmx hf hb hN h hm hv).mono ?_
  intro e w' ⟨v, he, r1, m1, cx', ⟨ks, hst⟩, hE, hM, hl1, hrep⟩
  have hs : StRep 1 [(0, r1)] m1 { tmps := #[v], defers := [] } w' cx' := by
    refine ⟨fun t => ?_, hM, rfl, rfl⟩
    unfold look
    split
    · rename_i h0; subst h0; simpa using hrep
    · exact .junk _
  obtain ⟨g1, g2, g3⟩ := StLe_rep hst hs
  have hrep' := g1.tmps 0
  simp [look] at hrep'
  exact ⟨v, he, _, hE.trans' g2 (Nat.le_refl _), g1.mem, hrep'⟩

/-! ### Calls that turn nothing -/

def frz1 (m : Mem) : AV → AV → Prop
  | _, .junk => True
  | .d x, .d y => DEqv x y
  | .dp xs, .dp ys => LEqv xs ys
  | .row k s st len, .d (.sl t s' n g) => t = false ∧ blkK m k fun B => match B with
    | .arr s'' N f => (s'' = s ∧ st + len ≤ N ∧ len = n ∧ (n = 0 ∨ s = s')) ∧ ∀ i, i < n → LEqv (f (st + i)) (g i)
    | _ => False
  | _, _ => False

def frzs1 (m : Mem) : List AV → List AV → Prop
  | [], [] => True
  | x :: xs, y :: ys => frz1 m x y ∧ frzs1 m xs ys
  | _, _ => False

def frz2 (m : Mem) : AV → AV → Prop
  | .agg xs, .agg ys => frzs1 m xs ys
  | x, y => frz1 m x y

def frzs2 (m : Mem) : List AV → List AV → Prop
  | [], [] => True
  | x :: xs, y :: ys => frz2 m x y ∧ frzs2 m xs ys
  | _, _ => False

/-- A result that is let go: its arrays turn no more. -/
def Frz (m : Mem) : AV → AV → Prop
  | .tup xs, .tup ys => frzs2 m xs ys
  | x, y => frz2 m x y

theorem frzs1_get {m : Mem} : ∀ {xs ys : List AV}, frzs1 m xs ys → xs.length = ys.length ∧ ∀ (j : Nat) (y : AV), ys[j]? = some y → ∃ x, xs[j]? = some x ∧ frz1 m x y
  | [], [], _ => ⟨rfl, by simp⟩
  | x :: xs, y :: ys, h => by
    obtain ⟨h1, h2⟩ := frzs1_get h.2
    refine ⟨by simp [h1], fun j z hz => ?_⟩
    cases j with
    | zero => simp at hz; subst hz; exact ⟨x, rfl, h.1⟩
    | succ j => simpa using h2 j z (by simpa using hz)
  | [], _ :: _, h => h.elim
  | _ :: _, [], h => h.elim

theorem frzs2_get {m : Mem} : ∀ {xs ys : List AV}, frzs2 m xs ys → xs.length = ys.length ∧ ∀ (j : Nat) (y : AV), ys[j]? = some y → ∃ x, xs[j]? = some x ∧ frz2 m x y
  | [], [], _ => ⟨rfl, by simp⟩
  | x :: xs, y :: ys, h => by
    obtain ⟨h1, h2⟩ := frzs2_get h.2
    refine ⟨by simp [h1], fun j z hz => ?_⟩
    cases j with
    | zero => simp at hz; subst hz; exact ⟨x, rfl, h.1⟩
    | succ j => simpa using h2 j z (by simpa using hz)
  | [], _ :: _, h => h.elim
  | _ :: _, [], h => h.elim

section
variable {w : World} {cx cx0 : Cx} {m : Mem} {L : Nat}

theorem frz1_rep (hU : ∀ b, cx0.U b → cx.V b) (hm : MemRep w cx m) {x y : AV} {v : Value} (h : frz1 m x y) (hr : Rep w cx m.length x v) : Rep w cx0 L y v := by
  have hU' : ∀ b, cx0.U b → cx.U b := fun b h => .inl (hU b h)
  unfold frz1 at h
  split at h
  · exact .junk _
  · cases hr with
    | d hr => exact .d ((h _ _ _ hr).weaken hU')
  · cases hr with
    | dp cs b o y hn hb hc hrep =>
      refine .dp _ b o y (fun hu => hn (hU' b hu)) hb (fun j z hz => ?_) (fun j z hz => ?_)
      · obtain ⟨z', hz', _⟩ := h j z hz
        exact hc j z' hz'
      · obtain ⟨z', hz', e⟩ := h j z hz
        exact (e _ _ _ (hrep j z' hz')).weaken hU'
  · rename_i k s st len t s' n g
    obtain ⟨rfl, h⟩ := h
    obtain ⟨B, hB, h⟩ := blkK_sound h
    cases B with
    | cells => exact h.elim
    | arr s'' N f =>
      obtain ⟨⟨rfl, hle, rfl, hs⟩, hfg⟩ := h
      obtain ⟨hn, hblk⟩ := hm.blk k _ hB
      cases hr with
      | row k s st len v hk h1 hv h0 =>
        rcases hblk with ⟨e, rfl⟩ | ⟨b, o, c, arr, tt, e1, e2, e3, e4, e5⟩
        · obtain ⟨rfl, rfl, A, rfl⟩ := h0 e
          exact .d (.nil _ _ _ _ _ fun h => by cases h)
        · obtain ⟨rfl, hc⟩ := hv b o c e1
          refine .d ?_
          by_cases hz : len = 0
          · subst hz
            exact .nil _ _ _ _ _ fun h => by cases h
          have hss : s'' = s' := hs.resolve_left hz
          subst hss
          have hy : ∀ q : Nat × Nat, ∃ y, ∀ z, q.1 < len → (g q.1)[q.2]? = some z → arr[o + ((st + q.1) * s'' + q.2)]? = some y ∧ DRep w cx0.U z y := by
            intro q
            by_cases hq : q.1 < len
            · cases hz' : (g q.1)[q.2]? with
              | none => exact ⟨undef, by simp⟩
              | some z =>
                obtain ⟨z', hz2, e⟩ := hfg q.1 hq q.2 z hz'
                obtain ⟨y, hy, hr'⟩ := e5 (st + q.1) q.2 z' (by omega) hz2
                exact ⟨y, fun z2 _ e6 => by injection e6 with e6; subst e6; exact ⟨hy, (e _ _ _ hr').weaken hU'⟩⟩
            · exact ⟨undef, fun z h => absurd h hq⟩
          obtain ⟨y, hy⟩ := Classical.axiomOfChoice hy
          refine .sl false s'' len g b (o + st * s'') (c - st) (fun i j => y (i, j)) (Nat.le_trans (by omega) hn) (by omega) (fun h => by cases h) (fun hu => hm.apart k b o c e1 (hU b hu)) (Array.getElem?_eq_some_iff.1 e2).1 (fun i j z hi hz' => ?_) (fun i j z hi hz' => (hy (i, j) z hi hz').2)
          rw [cell_arr e2, show o + st * s'' + (i * s'' + j) = o + ((st + i) * s'' + j) by rw [Nat.add_mul]; omega]
          exact (hy (i, j) z hi hz').1
  · exact h.elim

theorem frz2_rep (hU : ∀ b, cx0.U b → cx.V b) (hm : MemRep w cx m) {x y : AV} {v : Value} (h : frz2 m x y) (hr : Rep w cx m.length x v) : Rep w cx0 L y v := by
  unfold frz2 at h
  split at h
  · obtain ⟨h1, h2⟩ := frzs1_get h
    cases hr with
    | agg _ vs h3 h4 =>
      refine .agg _ _ (by omega) fun j y hy => ?_
      obtain ⟨x, hx, e⟩ := h2 j y hy
      exact frz1_rep hU hm e (h4 j x hx)
  · exact frz1_rep hU hm h hr

theorem frz_rep (hU : ∀ b, cx0.U b → cx.V b) (hm : MemRep w cx m) {x y : AV} {v : Value} (h : Frz m x y) (hr : Rep w cx m.length x v) : Rep w cx0 L y v := by
  unfold Frz at h
  split at h
  · obtain ⟨h1, h2⟩ := frzs2_get h
    cases hr with
    | tup _ vs h3 h4 =>
      refine .tup _ _ (by omega) fun j y hy => ?_
      obtain ⟨x, hx, e⟩ := h2 j y hy
      exact frz2_rep hU hm e (h4 j x hx)
  · exact frz2_rep hU hm h hr
end

theorem rep_imm {w : World} {cx cx' : Cx} {L L' : Nat} {x : AV} {v : Value} (hx : x.imm = true) (hU : ∀ b, cx'.U b → cx.U b) (hr : Rep w cx L x v) : Rep w cx' L' x v := by
  have hd : ∀ {y : AV} {u : Value}, isD y = true → Rep w cx L y u → Rep w cx' L' y u := by
    intro y u hy hr
    cases hr with
    | d h => exact .d (h.weaken hU)
    | _ => cases hy
  cases hr with
  | d h => exact .d (h.weaken hU)
  | dp cs b o y hn hb hc hrep => exact .dp _ b o y (fun hu => hn (hU b hu)) hb hc fun j z hz => (hrep j z hz).weaken hU
  | own | ownE | row | tup | junk => cases hx
  | agg cs vs h1 h2 => exact .agg _ _ h1 fun j y hy => hd (by simp only [AV.imm, List.all_eq_true] at hx; exact hx y (List.mem_of_getElem? hy)) (h2 j y hy)
  | fn f xs ys us vs h1 h2 h3 h4 =>
    simp only [AV.imm, Bool.and_eq_true, List.isEmpty_iff] at hx
    obtain ⟨rfl, rfl⟩ := hx
    exact .fn _ _ _ _ _ h1 h2 (by simp) (by simp)

/-- A call that turns nothing that is tracked, out of its body. -/
theorem PC_of (ht : TabOK P tab) (hmx : P.follows .mixedOrders = true) {f : FuncId} {fn : Func} {c : Code} (hf : P.funcs[f]? = some fn) (hb : fn.body = some c) (hn : (fn.name != "runtime.NumGoroutine") = true) {args : List AV} {r : AV} (hN : args.length ≤ fn.ntmps)
    (himm : args.all AV.imm = true) (h : cwp P tab fn.ntmps 0 c (endQ tab fn.results.toList fun r1 m1 => Frz m1 r1 r) (argT 0 args) []) : PC P f args r := by
  refine ⟨isGo_of hf hb hn, fun w cx m vs hm hv => ?_⟩
  have hlt : ∀ b, cx.U b → b < w.heap.size := by
    rintro b (h | ⟨k, o, c', e⟩)
    · exact hm.there b h
    · obtain ⟨B, hB⟩ := hm.live k _ e
      exact (hm.blk k B hB).lt e
  have hm0 : MemRep w ⟨fun _ => none, cx.U⟩ [] := ⟨by simp, fun _ _ h => (nomatch h), fun _ _ _ _ _ _ _ h => (nomatch h), fun _ _ _ _ h => (nomatch h), hlt⟩
  have hU0 : ∀ b, (⟨fun _ => none, cx.U⟩ : Cx).U b → cx.U b := by
    rintro b (h | ⟨k, o, c', e⟩)
    · exact h
    · cases e
  have hv0 : RepL w ⟨fun _ => none, cx.U⟩ ([] : Mem).length args vs := ⟨hv.1, fun j x hx => rep_imm (List.all_eq_true.1 himm x (List.mem_of_getElem? hx)) hU0 (hv.2 j x hx)⟩
  refine (calls_body (m := []) ht hmx hf hb hN h hm0 hv0).mono ?_
  intro e w' ⟨v, he, r1, m1, cx', hR, hE, hM, _, hrep⟩
  have hbel : Below w.heap.size w w' := ⟨hE.os, hE.tape, hE.output, hE.size, fun b hb => hE.block b hb fun _ _ _ h => by cases h⟩
  refine ⟨v, he, Ext.of_below hbel, hm.grown hbel, ?_⟩
  refine frz_rep (cx := cx') (fun b hb => ?_) hM hR hrep
  rw [hE.V]
  exact hb

/-- At the outermost: nothing is owned. -/
theorem PC.calls {f : FuncId} {args : List AV} {r : AV} (h : PC P f args r) {w : World} {vs : Array Value} (hv : RepL w ⟨fun _ => none, fun _ => False⟩ 0 args vs) :
    Calls P f vs w fun e w' => ∃ v, e = .returned v ∧ Below w.heap.size w w' ∧ Rep w' ⟨fun _ => none, fun _ => False⟩ 0 r v := by
  have hm0 : MemRep w ⟨fun _ => none, fun _ => False⟩ [] := ⟨by simp, fun _ _ h => (nomatch h), fun _ _ _ _ _ _ _ h => (nomatch h), fun _ _ _ _ h => (nomatch h), fun _ h => h.elim⟩
  refine (h.run w _ [] vs hm0 hv).mono fun e w' ⟨v, he, hE, _, hr⟩ => ⟨v, he, ?_, hr⟩
  exact ⟨hE.os, hE.tape, hE.output, hE.size, fun b hb => hE.block b hb fun _ _ _ h => by cases h⟩
end
end Go.Proofs.Abs
