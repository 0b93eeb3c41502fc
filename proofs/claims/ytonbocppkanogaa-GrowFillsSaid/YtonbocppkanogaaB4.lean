/- Code: what is computed of it; loops; states that may stand for others. -/
import Derived.Test.YtonbocppkanogaaB3
set_option linter.all false
namespace Go.Proofs.Abs
open Go Go.RowKit

abbrev Post := Exit → Tm → Mem → Prop

/-- What code comes to, of which the first L names are known outside. -/
def AWP (P : Program) (N L : Nat) (c : Code) (Q : Post) (T : Tm) (m : Mem) : Prop :=
  L ≤ m.length → ∀ (a : Act) (w : World) (cx : Cx), StRep N T m a w cx → c.wp P (fun e a' w' => ∃ T' m' cx', Q e T' m' ∧ StRep N T' m' a' w' cx' ∧ Ext L w cx w' cx' ∧ L ≤ m'.length) a w

theorem Ext.mono {L L' : Nat} {w w' : World} {cx cx' : Cx} (h : Ext L w cx w' cx') (hL : L' ≤ L) : Ext L' w cx w' cx' :=
  ⟨h.os, h.tape, h.output, h.size, h.V, h.block, h.fresh, fun k pl hk => h.keep k pl (Nat.lt_of_lt_of_le hk hL), fun k hk => h.dead k (Nat.lt_of_lt_of_le hk hL)⟩

def seqQ (K : Tm → Mem → Prop) (Q : Post) : Post
  | .normal, T, m => K T m
  | e, T, m => Q e T m

def blockQ (id : Nat) (Q : Post) : Post
  | .exit q, T, m => match Nat.beq q id with
    | true => Q .normal T m
    | false => Q (.exit q) T m
  | e, T, m => Q e T m

def cwp (P : Program) (tab : Tab) (N L : Nat) : Code → Post → Tm → Mem → Prop
  | .skip, Q, T, m => Q .normal T m
  | .region _ ops draw, Q, T, m => runK P tab N ops.toList ops.toList T m [] fun T' m' fp => match draw with
    | true => drawOK ops.toList fp = true ∧ Q .normal T' m'
    | false => Q .normal T' m'
  | .seq a b, Q, T, m => cwp P tab N L a (seqQ (cwp P tab N L b Q) Q) T m
  | .cond c a b, Q, T, m => evK T c fun v => boolK v fun t => (t = true → cwp P tab N L a Q T m) ∧ (t = false → cwp P tab N L b Q T m)
  | .block id c, Q, T, m => cwp P tab N L c (blockQ id Q) T m
  | .loop c, Q, T, m => AWP P N L (.loop c) Q T m
  | .rangeFunc f ps a b, Q, T, m => AWP P N L (.rangeFunc f ps a b) Q T m
  | .exit id, Q, T, m => Q (.exit id) T m
  | .scope c, Q, T, m => AWP P N L (.scope c) Q T m
  | .label _, Q, T, m => Q .normal T m
  | .goto l, Q, T, m => Q (.goto l) T m
  | .ret, Q, T, m => Q .ret T m
  | .refuse _, _, _, _ => False

theorem AWP.mono {P : Program} {N L : Nat} {c : Code} {Q Q' : Post} {T : Tm} {m : Mem} (h : AWP P N L c Q T m) (hq : ∀ e T' m', L ≤ m'.length → Q e T' m' → Q' e T' m') : AWP P N L c Q' T m := by
  intro hL a w cx hs
  exact wp_mono (h hL a w cx hs) fun e a' w' ⟨T', m', cx', h1, h2, h3, h4⟩ => ⟨T', m', cx', hq e T' m' h4 h1, h2, h3, h4⟩

theorem AWP_seq {P : Program} {N L : Nat} {x y : Code} {Q : Post} {T : Tm} {m : Mem} (h : AWP P N L x (seqQ (AWP P N L y Q) Q) T m) : AWP P N L (.seq x y) Q T m := by
  intro hL a w cx hs
  refine wp_seq (wp_mono (h hL a w cx hs) ?_)
  intro e a' w' ⟨T', m', cx', h1, h2, h3, h4⟩
  cases e with
  | normal =>
    exact wp_mono (h1 h4 a' w' cx' h2) fun e a'' w'' ⟨T'', m'', cx'', g1, g2, g3, g4⟩ => ⟨T'', m'', cx'', g1, g2, h3.trans' g3 (Nat.le_refl _), g4⟩
  | exit id => exact ⟨T', m', cx', h1, h2, h3, h4⟩
  | goto l => exact ⟨T', m', cx', h1, h2, h3, h4⟩
  | ret => exact ⟨T', m', cx', h1, h2, h3, h4⟩
  | panic ch => exact ⟨T', m', cx', h1, h2, h3, h4⟩
  | outgrown => exact ⟨T', m', cx', h1, h2, h3, h4⟩

theorem AWP_cond {P : Program} {N L : Nat} {c : Operand} {x y : Code} {Q : Post} {T : Tm} {m : Mem} {b : Bool} (hc : evF T c = abool b) (h1 : b = true → AWP P N L x Q T m) (h2 : b = false → AWP P N L y Q T m) : AWP P N L (.cond c x y) Q T m := by
  intro hL a w cx hs
  have hv : a.eval c = .bool b := rep_bool (hc ▸ rep_ev fun t _ => hs.tmps t)
  exact wp_cond_split hv (fun hb => h1 hb hL a w cx hs) fun hb => h2 hb hL a w cx hs

theorem AWP_block {P : Program} {N L id : Nat} {c : Code} {Q : Post} {T : Tm} {m : Mem} (h : AWP P N L c (blockQ id Q) T m) : AWP P N L (.block id c) Q T m := by
  intro hL a w cx hs
  refine wp_block (wp_mono (h hL a w cx hs) ?_)
  intro e a' w' ⟨T', m', cx', h1, h2, h3, h4⟩
  cases e with
  | exit q =>
    simp only [Exit.inBlock]
    have h1 : (match Nat.beq q id with
      | true => Q .normal T' m'
      | false => Q (.exit q) T' m') := h1
    by_cases hq : q = id
    · subst hq
      rw [if_pos rfl]
      rw [show Nat.beq q q = true from Nat.beq_refl q] at h1
      exact ⟨T', m', cx', h1, h2, h3, h4⟩
    · rw [if_neg hq]
      rw [show Nat.beq q id = false by
        cases hb : Nat.beq q id with
        | false => rfl
        | true => exact absurd (Nat.eq_of_beq_eq_true hb) hq] at h1
      exact ⟨T', m', cx', h1, h2, h3, h4⟩
  | _ => exact ⟨T', m', cx', h1, h2, h3, h4⟩

theorem AWP_region {P : Program} {tab : Tab} (ht : TabOK P tab) (hmx : P.follows .mixedOrders = true) {N L id : Nat} {ops : Array Oper} {draw : Bool} {Q : Post} {T : Tm} {m : Mem}
    (h : runK P tab N ops.toList ops.toList T m [] fun T' m' fp => match draw with
      | true => drawOK ops.toList fp = true ∧ Q .normal T' m'
      | false => Q .normal T' m') : AWP P N L (.region id ops draw) Q T m := by
  intro hL a w cx hs
  obtain ⟨es, T', m', hc, hK⟩ := runK_sound ht h
  simp only [List.nil_append] at hK
  cases draw with
  | false =>
    refine wp_region_list ?_
    have := chain_list (Q := fun e a' w' => ∃ T' m' cx', Q e T' m' ∧ StRep N T' m' a' w' cx' ∧ Ext L w cx w' cx' ∧ L ≤ m'.length) hc hs fun a' w' cx' h1 h2 h3 => ⟨T', m', cx', hK, h1, h2.mono hL, Nat.le_trans hL h3⟩
    simpa using this
  | true =>
    obtain ⟨hok, hK⟩ := hK
    refine wp_region_any hmx ?_
    have hs' : StRep N T m a { w with drawn := w.drawn + 1 } cx := by
      refine ⟨fun t => ?_, hs.mem.drew, hs.defers, hs.size⟩
      exact (hs.tmps t).ext (Ext.drew m.length w cx) (Nat.le_refl _)
    have := draw_any (Q := fun e a' w' => ∃ T' m' cx', Q e T' m' ∧ StRep N T' m' a' w' cx' ∧ Ext L w cx w' cx' ∧ L ≤ m'.length) hc hok hs' fun a' w' cx' h1 h2 h3 =>
      ⟨T', m', cx', hK, h1, ((Ext.drew m.length w cx).trans' h2 (Nat.le_refl _)).mono hL, Nat.le_trans hL h3⟩
    simpa using this

theorem cwp_sound {P : Program} {tab : Tab} (ht : TabOK P tab) (hmx : P.follows .mixedOrders = true) {N L : Nat} : ∀ {c : Code} {Q : Post} {T : Tm} {m : Mem}, cwp P tab N L c Q T m → AWP P N L c Q T m := by
  intro c
  induction c with
  | skip => exact fun h hL a w cx hs => wp_skip ⟨_, _, cx, h, hs, Ext.refl _ _ _, hL⟩
  | region id ops draw => exact fun h => AWP_region ht hmx h
  | seq x y ihx ihy =>
    intro Q T m h
    refine AWP_seq ((ihx h).mono fun e T' m' _ hq => ?_)
    cases e with
    | normal => exact ihy hq
    | _ => exact hq
  | cond c x y ihx ihy =>
    intro Q T m h
    obtain ⟨b, hb, h1, h2⟩ := boolK_sound (evK_sound T c _ h)
    exact AWP_cond hb (fun hb => ihx (h1 hb)) fun hb => ihy (h2 hb)
  | block id c ih => exact fun h => AWP_block (ih h)
  | loop c ih => exact fun h => h
  | rangeFunc f ps a b => exact fun h => h
  | exit id => exact fun h hL a w cx hs => wp_exit ⟨_, _, cx, h, hs, Ext.refl _ _ _, hL⟩
  | scope c ih => exact fun h => h
  | label l => exact fun h hL a w cx hs => wp_label ⟨_, _, cx, h, hs, Ext.refl _ _ _, hL⟩
  | goto l => exact fun h hL a w cx hs => wp_goto ⟨_, _, cx, h, hs, Ext.refl _ _ _, hL⟩
  | ret => exact fun h hL a w cx hs => wp_ret ⟨_, _, cx, h, hs, Ext.refl _ _ _, hL⟩
  | refuse why => exact fun h => h.elim

/-! ### One state in the place of another -/

/-- Whatever stands for the first stands for the second. -/
def DEqv (x y : D) : Prop := ∀ (w : World) (U : Nat → Prop) (v : Value), DRep w U x v → DRep w U y v

theorem DEqv.refl (x : D) : DEqv x x := fun _ _ _ h => h
theorem DEqv.trans {x y z : D} (h : DEqv x y) (h' : DEqv y z) : DEqv x z := fun w U v hr => h' w U v (h w U v hr)

/-- Cell by cell. -/
def LEqv (xs ys : List D) : Prop := ∀ (j : Nat) (y : D), ys[j]? = some y → ∃ x, xs[j]? = some x ∧ DEqv x y
theorem LEqv.refl (xs : List D) : LEqv xs xs := fun _ y h => ⟨y, h, DEqv.refl y⟩
theorem LEqv.of_eq {xs ys : List D} (h : xs = ys) : LEqv xs ys := h ▸ LEqv.refl xs
theorem LEqv.trans {xs ys zs : List D} (h : LEqv xs ys) (h' : LEqv ys zs) : LEqv xs zs := fun j z hz => by
  obtain ⟨y, hy, e1⟩ := h' j z hz
  obtain ⟨x, hx, e2⟩ := h j y hy
  exact ⟨x, hx, e2.trans e1⟩
theorem LEqv.nil : LEqv [] [] := LEqv.refl _
theorem LEqv.cons {x y : D} {xs ys : List D} (h : DEqv x y) (h' : LEqv xs ys) : LEqv (x :: xs) (y :: ys) := by
  intro j z hz
  cases j with
  | zero => simp at hz; subst hz; exact ⟨x, rfl, h⟩
  | succ j => simpa using h' j z (by simpa using hz)

theorem DEqv.sl {t t' : Bool} {s s' n n' : Nat} {f g : Nat → List D} (hn : n = n') (ht : t' = true → t = true) (hs : n = 0 ∨ s = s') (h : ∀ i, i < n → LEqv (f i) (g i)) : DEqv (.sl t s n f) (.sl t' s' n' g) := by
  subst hn
  intro w U v hr
  cases hr with
  | nil _ _ _ A c hc => exact .nil _ _ _ _ _ fun e => hc (ht e)
  | sl _ _ _ _ b o c y hn hc htt hU hb hcell hrep =>
    rcases hs with rfl | rfl
    · exact .sl t' s' 0 g b o c y hn hc (fun e => htt (ht e)) hU hb (fun i j x hi => by omega) (fun i j x hi => by omega)
    · refine .sl t' s n g b o c y hn hc (fun e => htt (ht e)) hU hb (fun i j x hi hx => ?_) (fun i j x hi hx => ?_)
      · obtain ⟨x', hx', _⟩ := h i hi j x hx
        exact hcell i j x' hi hx'
      · obtain ⟨x', hx', e⟩ := h i hi j x hx
        exact e w U _ (hrep i j x' hi hx')

/-- The name that a new name stands for. -/
def rn : List Nat → Nat → Nat
  | [], _ => 0
  | x :: _, 0 => x
  | _ :: r, k + 1 => rn r k

def notIn (x : Nat) : List Nat → Bool
  | [] => true
  | y :: r => match Nat.beq x y with
    | true => false
    | false => notIn x r
def nodupB : List Nat → Bool
  | [] => true
  | x :: r => match notIn x r with
    | true => nodupB r
    | false => false
def idTo : Nat → Nat → List Nat → Bool
  | 0, _, _ => true
  | _ + 1, _, [] => false
  | L + 1, i, x :: r => match Nat.beq x i with
    | true => idTo L (i + 1) r
    | false => false

theorem notIn_rn : ∀ {r : List Nat} {x : Nat}, notIn x r = true → ∀ k, k < r.length → rn r k ≠ x
  | y :: r, x, h, k, hk => by
    unfold notIn at h
    split at h
    · cases h
    · rename_i hb
      cases k with
      | zero => intro e; simp only [rn] at e; subst e; rw [Nat.beq_refl] at hb; cases hb
      | succ k => exact notIn_rn h k (by simpa using hk)

theorem nodupB_rn : ∀ {r : List Nat}, nodupB r = true → ∀ k k', k < r.length → k' < r.length → rn r k = rn r k' → k = k'
  | x :: r, h, k, k', hk, hk', e => by
    unfold nodupB at h
    split at h
    · rename_i hx
      cases k with
      | zero => cases k' with
        | zero => rfl
        | succ k' => exact absurd e.symm (notIn_rn hx k' (by simpa using hk'))
      | succ k => cases k' with
        | zero => exact absurd e (notIn_rn hx k (by simpa using hk))
        | succ k' => rw [nodupB_rn h k k' (by simpa using hk) (by simpa using hk') e]
    · cases h

theorem idTo_rn : ∀ {L i : Nat} {r : List Nat}, idTo L i r = true → ∀ k, k < L → rn r k = i + k
  | L + 1, i, x :: r, h, k, hk => by
    unfold idTo at h
    split at h
    · rename_i hb
      cases k with
      | zero => simpa [rn] using Nat.eq_of_beq_eq_true hb
      | succ k =>
        have := idTo_rn h k (by omega)
        simp only [rn]
        omega
    · cases h

/-- An abstract value in the place of another one, under new names. -/
def le1 (ks : List Nat) (L : Nat) : AV → AV → Prop
  | _, .junk => True
  | .d x, .d y => DEqv x y
  | .dp xs, .dp ys => LEqv xs ys
  | .own k o, .own k' o' => (k = rn ks k' ∧ o = o') ∧ k' < L
  | .ownE k s i j, .ownE k' s' i' j' => (k = rn ks k' ∧ s = s' ∧ i = i' ∧ j = j') ∧ k' < L
  | .row k s st len, .row k' s' st' len' => (k = rn ks k' ∧ s = s' ∧ st = st' ∧ len = len') ∧ k' < L
  | _, _ => False

def les1 (ks : List Nat) (L : Nat) : List AV → List AV → Prop
  | [], [] => True
  | x :: xs, y :: ys => le1 ks L x y ∧ les1 ks L xs ys
  | _, _ => False

def le2 (ks : List Nat) (L : Nat) : AV → AV → Prop
  | .agg xs, .agg ys => les1 ks L xs ys
  | .fn f a b, .fn g a' b' => f = g ∧ les1 ks L a a' ∧ les1 ks L b b'
  | x, y => le1 ks L x y

def les2 (ks : List Nat) (L : Nat) : List AV → List AV → Prop
  | [], [] => True
  | x :: xs, y :: ys => le2 ks L x y ∧ les2 ks L xs ys
  | _, _ => False

def AVle (ks : List Nat) (L : Nat) : AV → AV → Prop
  | .tup xs, .tup ys => les2 ks L xs ys
  | x, y => le2 ks L x y

/-- Names that stay, under their new names. -/
def Cx.cut (cx : Cx) (ks : List Nat) (m2 : Mem) : Cx := { cx with μ := fun k => match m2[k]? with | some (some _) => cx.μ (rn ks k) | _ => none }

theorem cut_some {cx : Cx} {ks : List Nat} {m2 : Mem} {k : Nat} {pl : Place} (h : (cx.cut ks m2).μ k = some pl) : cx.μ (rn ks k) = some pl ∧ ∃ B, m2[k]? = some (some B) := by
  unfold Cx.cut at h
  simp only at h
  split at h
  · rename_i B hB
    exact ⟨h, B, hB⟩
  · cases h

theorem cut_U {cx : Cx} {ks : List Nat} {m2 : Mem} : ∀ b, (cx.cut ks m2).U b → cx.U b := by
  rintro b (h | ⟨k, o, c, h⟩)
  · exact .inl h
  · exact .inr ⟨_, o, c, (cut_some h).1⟩

section
variable {w : World} {cx : Cx} {ks : List Nat} {m2 : Mem} {L0 : Nat}

theorem le1_rep {x y : AV} {v : Value} (h : le1 ks m2.length x y) (hr : Rep w cx L0 x v) : Rep w (cx.cut ks m2) m2.length y v := by
  unfold le1 at h
  split at h
  · exact .junk _
  · cases hr with
    | d hr => exact .d ((h _ _ _ hr).weaken cut_U)
  · cases hr with
    | dp cs b o y hU hb hc hrep =>
      refine .dp _ b o y (fun hu => hU (cut_U b hu)) hb (fun j z hz => ?_) (fun j z hz => ?_)
      · obtain ⟨z', hz', _⟩ := h j z hz
        exact hc j z' hz'
      · obtain ⟨z', hz', e⟩ := h j z hz
        exact (e _ _ _ (hrep j z' hz')).weaken cut_U
  · obtain ⟨⟨rfl, rfl⟩, hk⟩ := h
    cases hr with
    | own k off v _ h1 hv => exact .own _ _ _ hk h1 fun b o c e => hv b o c (cut_some e).1
  · obtain ⟨⟨rfl, rfl, rfl, rfl⟩, hk⟩ := h
    cases hr with
    | ownE k s i j v _ h1 hv => exact .ownE _ _ _ _ _ hk h1 fun b o c e => hv b o c (cut_some e).1
  · obtain ⟨⟨rfl, rfl, rfl, rfl⟩, hk⟩ := h
    cases hr with
    | row k s st len v _ h1 hv h0 => exact .row _ _ _ _ _ hk h1 (fun b o c e => hv b o c (cut_some e).1) fun e => h0 (cut_some e).1
  · exact h.elim

theorem les1_get : ∀ {ks : List Nat} {L : Nat} {xs ys : List AV}, les1 ks L xs ys → xs.length = ys.length ∧ ∀ (j : Nat) (y : AV), ys[j]? = some y → ∃ x, xs[j]? = some x ∧ le1 ks L x y
  | _, _, [], [], _ => ⟨rfl, by simp⟩
  | _, _, x :: xs, y :: ys, h => by
    obtain ⟨h1, h2⟩ := les1_get h.2
    refine ⟨by simp [h1], fun j z hz => ?_⟩
    cases j with
    | zero => simp at hz; subst hz; exact ⟨x, rfl, h.1⟩
    | succ j => simpa using h2 j z (by simpa using hz)
  | _, _, [], _ :: _, h => h.elim
  | _, _, _ :: _, [], h => h.elim

theorem le2_rep {x y : AV} {v : Value} (h : le2 ks m2.length x y) (hr : Rep w cx L0 x v) : Rep w (cx.cut ks m2) m2.length y v := by
  unfold le2 at h
  split at h
  · obtain ⟨h1, h2⟩ := les1_get h
    cases hr with
    | agg _ vs h3 h4 =>
      refine .agg _ _ (by omega) fun j y hy => ?_
      obtain ⟨x, hx, e⟩ := h2 j y hy
      exact le1_rep e (h4 j x hx)
  · obtain ⟨rfl, ha, hb⟩ := h
    obtain ⟨h1, h2⟩ := les1_get ha
    obtain ⟨g1, g2⟩ := les1_get hb
    cases hr with
    | fn _ _ _ us vs h3 h4 h5 h6 =>
      refine .fn _ _ _ _ _ (by omega) (by omega) (fun j y hy => ?_) (fun j y hy => ?_)
      · obtain ⟨x, hx, e⟩ := h2 j y hy
        exact le1_rep e (h5 j x hx)
      · obtain ⟨x, hx, e⟩ := g2 j y hy
        exact le1_rep e (h6 j x hx)
  · exact le1_rep h hr

theorem les2_get : ∀ {ks : List Nat} {L : Nat} {xs ys : List AV}, les2 ks L xs ys → xs.length = ys.length ∧ ∀ (j : Nat) (y : AV), ys[j]? = some y → ∃ x, xs[j]? = some x ∧ le2 ks L x y
  | _, _, [], [], _ => ⟨rfl, by simp⟩
  | _, _, x :: xs, y :: ys, h => by
    obtain ⟨h1, h2⟩ := les2_get h.2
    refine ⟨by simp [h1], fun j z hz => ?_⟩
    cases j with
    | zero => simp at hz; subst hz; exact ⟨x, rfl, h.1⟩
    | succ j => simpa using h2 j z (by simpa using hz)
  | _, _, [], _ :: _, h => h.elim
  | _, _, _ :: _, [], h => h.elim

theorem AVle_rep {x y : AV} {v : Value} (h : AVle ks m2.length x y) (hr : Rep w cx L0 x v) : Rep w (cx.cut ks m2) m2.length y v := by
  unfold AVle at h
  split at h
  · obtain ⟨h1, h2⟩ := les2_get h
    cases hr with
    | tup _ vs h3 h4 =>
      refine .tup _ _ (by omega) fun j y hy => ?_
      obtain ⟨x, hx, e⟩ := h2 j y hy
      exact le2_rep e (h4 j x hx)
  · exact le2_rep h hr
end

def BlkLe (ks : List Nat) (L : Nat) : Blk → Blk → Prop
  | .cells xs, .cells ys => les2 ks L xs ys
  | .arr s n f, .arr s' n' g => (s = s' ∧ n = n') ∧ ∀ i, i < n → LEqv (f i) (g i)
  | _, _ => False

def MemLe (ks : List Nat) (L : Nat) (m : Mem) : Nat → Mem → Prop
  | _, [] => True
  | i, some B' :: r => (blkK m (rn ks i) fun B => BlkLe ks L B B') ∧ MemLe ks L m (i + 1) r
  | i, none :: r => MemLe ks L m (i + 1) r

theorem MemLe_get : ∀ {ks : List Nat} {L : Nat} {m : Mem} {i : Nat} {m2 : Mem}, MemLe ks L m i m2 → ∀ (k : Nat) (B' : Blk), m2[k]? = some (some B') → ∃ B, m[rn ks (i + k)]? = some (some B) ∧ BlkLe ks L B B'
  | _, _, m, _, [], _ => by simp
  | ks, L, m, i, some B :: r, h => fun k C hk => by
    cases k with
    | zero =>
      simp at hk; subst hk
      obtain ⟨B0, e, h0⟩ := blkK_sound h.1
      exact ⟨B0, by simpa using e, h0⟩
    | succ k =>
      have := MemLe_get h.2 k C (by simpa using hk)
      rwa [show i + 1 + k = i + (k + 1) by omega] at this
  | ks, L, m, i, none :: r, h => fun k C hk => by
    cases k with
    | zero => simp at hk
    | succ k =>
      have := MemLe_get (m2 := r) (i := i + 1) h k C (by simpa using hk)
      rwa [show i + 1 + k = i + (k + 1) by omega] at this

def TmLe (ks : List Nat) (L : Nat) (T : Tm) : Tm → Prop
  | [] => True
  | (t, v) :: r => getK T t (fun x => AVle ks L x v) ∧ TmLe ks L T r

theorem AVle_junk (ks : List Nat) (L : Nat) (x : AV) : AVle ks L x .junk := by cases x <;> trivial

theorem TmLe_look {ks : List Nat} {L : Nat} {T : Tm} : ∀ {T2 : Tm}, TmLe ks L T T2 → ∀ t, AVle ks L (look T t) (look T2 t)
  | [], _, t => AVle_junk ks L (look T t)
  | (q, v) :: r, h, t => by
    have e : look ((q, v) :: r) t = if q = t then v else look r t := rfl
    rw [e]
    by_cases hq : q = t
    · subst hq
      rw [if_pos rfl]
      exact getK_sound h.1
    · rw [if_neg hq]
      exact TmLe_look h.2 t

/-- A state that may stand for another one: ks are the old names of the new ones; the first L stay. -/
def StLe (L : Nat) (ks : List Nat) (T : Tm) (m : Mem) (T2 : Tm) (m2 : Mem) : Prop :=
  (ks.length = m2.length ∧ nodupB ks = true ∧ idTo L 0 ks = true ∧ L ≤ m2.length) ∧ lenK m2 fun L2 => TmLe ks L2 T T2 ∧ MemLe ks L2 m 0 m2

theorem StLe_rep {N L : Nat} {ks : List Nat} {T T2 : Tm} {m m2 : Mem} (h : StLe L ks T m T2 m2) {a : Act} {w : World} {cx : Cx} (hs : StRep N T m a w cx) :
    StRep N T2 m2 a w (cx.cut ks m2) ∧ Ext L w cx w (cx.cut ks m2) ∧ L ≤ m2.length := by
  obtain ⟨⟨hkl, hnd, hid, hL⟩, h⟩ := h
  obtain ⟨hT, hM⟩ := lenK_sound h
  have hB := MemLe_get hM
  have hrn : ∀ k, k < L → rn ks k = k := fun k hk => by have := idTo_rn hid k hk; omega
  have hE : Ext L w cx w (cx.cut ks m2) := by
    refine ⟨rfl, rfl, rfl, Nat.le_refl _, rfl, fun _ _ _ => rfl, fun k b o c e => .inl ⟨_, o, c, (cut_some e).1⟩, fun k pl hk e => ?_, fun k hk e => ?_⟩
    · unfold Cx.cut
      simp only [hrn k hk]
      split
      · exact .inl e
      · exact .inr rfl
    · unfold Cx.cut
      simp only [hrn k hk]
      split
      · exact e
      · rfl
  have hlt : ∀ {k : Nat} {B : Blk}, m2[k]? = some (some B) → k < ks.length := fun hk => by rw [hkl]; exact (List.getElem?_eq_some_iff.1 hk).1
  refine ⟨⟨fun t => AVle_rep (TmLe_look hT t) (hs.tmps t), ⟨fun k B' hk => ?_, fun k pl e => (cut_some e).2, fun k k' b o c o' c' e e' => ?_, fun k b o c e => hs.mem.apart _ b o c (cut_some e).1, hs.mem.there⟩, hs.defers, hs.size⟩, hE, hL⟩
  · obtain ⟨B, hk', hle⟩ := hB k B' hk
    rw [Nat.zero_add] at hk'
    have hr := hs.mem.blk _ B hk'
    have hμ : (cx.cut ks m2).μ k = cx.μ (rn ks k) := by unfold Cx.cut; simp only [hk]
    cases B with
    | cells xs =>
      cases B' with
      | arr => exact hle.elim
      | cells ys =>
        obtain ⟨b, o, c, arr, t, e1, e2, e3⟩ := hr
        refine ⟨b, o, c, arr, t, hμ.trans e1, e2, fun j y hy => ?_⟩
        obtain ⟨x, hx, e⟩ := (les2_get hle).2 j y hy
        obtain ⟨v, hv, hr'⟩ := e3 j x hx
        exact ⟨v, hv, le2_rep e hr'⟩
    | arr s n f =>
      cases B' with
      | cells => exact hle.elim
      | arr s' n' g =>
        obtain ⟨⟨rfl, rfl⟩, hfg⟩ := hle
        obtain ⟨hn, hr⟩ := hr
        refine ⟨hn, hr.imp (fun ⟨e, e'⟩ => ⟨hμ.trans e, e'⟩) ?_⟩
        rintro ⟨b, o, c, arr, t, e1, e2, e3, e4, e5⟩
        refine ⟨b, o, c, arr, t, hμ.trans e1, e2, e3, e4, fun i j y hi hy => ?_⟩
        obtain ⟨x, hx, e⟩ := hfg i hi j y hy
        obtain ⟨v, hv, hr'⟩ := e5 i j x hi hx
        exact ⟨v, hv, (e _ _ _ hr').weaken cut_U⟩
  · obtain ⟨f1, B, f2⟩ := cut_some e
    obtain ⟨g1, B', g2⟩ := cut_some e'
    exact nodupB_rn hnd k k' (hlt f2) (hlt g2) (hs.mem.inj _ _ b o c o' c' f1 g1)

/-- A state in the place of another one, ahead of code. -/
theorem AWP.le {P : Program} {N L : Nat} {c : Code} {Q : Post} {T T2 : Tm} {m m2 : Mem} (ks : List Nat) (h : AWP P N L c Q T2 m2) (hle : StLe L ks T m T2 m2) : AWP P N L c Q T m := by
  intro _ a w cx hs
  obtain ⟨h1, h2, h3⟩ := StLe_rep hle hs
  refine wp_mono (h h3 a w _ h1) fun e a' w' ⟨T', m', cx', g1, g2, g3, g4⟩ => ⟨T', m', cx', g1, g2, h2.trans' g3 (Nat.le_refl _), g4⟩

/-- A slice without room, ready to be appended to. -/
theorem AWP.ghost {P : Program} {N L : Nat} {c : Code} {Q : Post} {T : Tm} {m : Mem} (t s : Nat) {s' : Nat} {f g : Nat → List D} (ht : look T t = .d (.sl true s' 0 f)) (h : AWP P N L c Q ((t, .row m.length s 0 0) :: T) (m ++ [some (.arr s 0 g)])) : AWP P N L c Q T m := by
  intro hL a w cx hs
  obtain ⟨hE, hM⟩ := push_void hs.mem s g
  have h2 : StRep N ((t, .row m.length s 0 0) :: T) (m ++ [some (.arr s 0 g)]) a w (cx.put m.length (some .void)) := by
    refine ⟨fun q => ?_, hM, hs.defers, hs.size⟩
    unfold look
    split
    · rename_i hq
      subst hq
      have hv := hs.tmps t
      rw [ht] at hv
      generalize a.tmps.getD t undef = p at hv
      cases hv with
      | d hv =>
        have hform : ∃ A, p = .slice A 0 0 := by
          cases hv with
          | nil _ _ _ A c hc => obtain rfl := hc rfl; exact ⟨A, rfl⟩
          | sl _ _ _ _ b o c y _ _ htt => obtain rfl := htt rfl; exact ⟨_, rfl⟩
        obtain ⟨A, rfl⟩ := hform
        exact .row _ _ _ _ _ (by simp) rfl (fun b o c e => by rw [Cx.put_same] at e; cases e) fun _ => ⟨rfl, rfl, A, rfl⟩
    · exact (hs.tmps q).ext hE (by simp)
  refine wp_mono (h (by simp; omega) a w _ h2) fun e a' w' ⟨T', m', cx', g1, g2, g3, g4⟩ => ⟨T', m', cx', g1, g2, (hE.mono hL).trans' g3 (Nat.le_refl _), g4⟩

/-- A loop: a family of states, by how many rounds may be left. -/
theorem AWP_loop {P : Program} {N L : Nat} {body : Code} {Q : Post} {T : Tm} {m : Mem} (I : Nat → Tm → Mem → Prop) (n0 : Nat) (ks : List Nat) {T0 : Tm} {m0 : Mem} (hle : StLe L ks T m T0 m0) (h0 : I n0 T0 m0)
    (round : ∀ n T' m', I n T' m' → AWP P N L body (seqQ (fun T1 m1 => ∃ n' T2 m2 ks, n' < n ∧ I n' T2 m2 ∧ StLe L ks T1 m1 T2 m2) Q) T' m') : AWP P N L (.loop body) Q T m := by
  intro _ a w cx hs
  obtain ⟨h1, h2, h3⟩ := StLe_rep hle hs
  -- the invariant on acts and worlds
  have key : ∀ n (a : Act) (w' : World) (cx' : Cx) (T' : Tm) (m' : Mem), L ≤ m'.length → I n T' m' → StRep N T' m' a w' cx' → Ext L w cx w' cx' →
      (Code.loop body).wp P (fun e a' w' => ∃ T' m' cx', Q e T' m' ∧ StRep N T' m' a' w' cx' ∧ Ext L w cx w' cx' ∧ L ≤ m'.length) a w' := by
    intro n a w' cx' T' m' hl hI hs' hE
    have least : ∀ (p : Nat → Prop), (∃ n, p n) → p (Classical.epsilon fun n => p n ∧ ∀ n', p n' → n ≤ n') ∧ ∀ n', p n' → (Classical.epsilon fun n => p n ∧ ∀ n', p n' → n ≤ n') ≤ n' := by
      intro p hp
      have hex : ∃ n, p n ∧ ∀ n', p n' → n ≤ n' := by
        obtain ⟨n, hn⟩ := hp
        induction n using Nat.strongRecOn with
        | _ n ih =>
          by_cases h : ∃ k, k < n ∧ p k
          · obtain ⟨k, hk, hpk⟩ := h; exact ih k hk hpk
          · exact ⟨n, hn, fun n' hn' => Nat.le_of_not_lt fun hlt => h ⟨n', hlt, hn'⟩⟩
      exact Classical.epsilon_spec hex
    refine wp_loop (fun a1 w1 => ∃ n T' m' cx', L ≤ m'.length ∧ I n T' m' ∧ StRep N T' m' a1 w1 cx' ∧ Ext L w cx w1 cx')
      (fun a1 w1 => Classical.epsilon fun n => (∃ T' m' cx', L ≤ m'.length ∧ I n T' m' ∧ StRep N T' m' a1 w1 cx' ∧ Ext L w cx w1 cx') ∧ ∀ n', (∃ T' m' cx', L ≤ m'.length ∧ I n' T' m' ∧ StRep N T' m' a1 w1 cx' ∧ Ext L w cx w1 cx') → n ≤ n') ⟨n, T', m', cx', hl, hI, hs', hE⟩ ?_
    intro a1 w1 hI1
    have hl1 := least (fun n => ∃ T' m' cx', L ≤ m'.length ∧ I n T' m' ∧ StRep N T' m' a1 w1 cx' ∧ Ext L w cx w1 cx') hI1
    obtain ⟨⟨T1, m1, cx1, g1, g2, g3, g4⟩, _⟩ := hl1
    refine wp_mono (round _ T1 m1 g2 g1 a1 w1 cx1 g3) ?_
    intro e a2 w2 ⟨T2, m2, cx2, q1, q2, q3, q4⟩
    have hE2 : Ext L w cx w2 cx2 := g4.trans' q3 (Nat.le_refl _)
    cases e with
    | normal =>
      obtain ⟨n', T3, m3, ks', hn', hI3, hle3⟩ := q1
      obtain ⟨r1, r2, hl3⟩ := StLe_rep hle3 q2
      have hE3 : Ext L w cx w2 (cx2.cut ks' m3) := hE2.trans' r2 (Nat.le_refl _)
      have hI4 : ∃ n T' m' cx', L ≤ m'.length ∧ I n T' m' ∧ StRep N T' m' a2 w2 cx' ∧ Ext L w cx w2 cx' := ⟨n', T3, m3, _, hl3, hI3, r1, hE3⟩
      refine ⟨hI4, ?_⟩
      have := (least (fun n => ∃ T' m' cx', L ≤ m'.length ∧ I n T' m' ∧ StRep N T' m' a2 w2 cx' ∧ Ext L w cx w2 cx') hI4).2 n' ⟨T3, m3, _, hl3, hI3, r1, hE3⟩
      exact Nat.lt_of_le_of_lt this hn'
    | exit id => exact ⟨T2, m2, cx2, q1, q2, hE2, q4⟩
    | goto l => exact ⟨T2, m2, cx2, q1, q2, hE2, q4⟩
    | ret => exact ⟨T2, m2, cx2, q1, q2, hE2, q4⟩
    | panic ch => exact ⟨T2, m2, cx2, q1, q2, hE2, q4⟩
    | outgrown => exact ⟨T2, m2, cx2, q1, q2, hE2, q4⟩
  exact key n0 a w _ T0 m0 h3 h0 h1 h2
end Go.Proofs.Abs
