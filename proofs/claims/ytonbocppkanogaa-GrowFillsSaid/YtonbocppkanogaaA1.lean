/- Abstract values and how they stand for memory: immutable data, blocks that a call owns by name, and how worlds grow. No program in sight. -/
import Derived.Below
import Derived.Orders
set_option linter.all false
namespace Go.Proofs.Abs
open Go Go.RowKit

/-- Data that nobody writes any more: a value of one cell, or a slice: tight or not, cells an element, length, elements by their index. -/
inductive D where
  | v (x : Value)
  | sl (t : Bool) (s n : Nat) (f : Nat → List D)

inductive AV where
  | d (x : D)
  | dp (cs : List D)
  | own (k off : Nat)
  | ownE (k s i j : Nat)
  | row (k s st len : Nat)
  | fn (f : Fn) (first captured : List AV)
  | agg (cs : List AV)
  | tup (vs : List AV)
  | junk

/-- A block that the call owns: cells one by one, or an array of data. -/
inductive Blk where
  | cells (cs : List AV)
  | arr (s n : Nat) (f : Nat → List D)

abbrev Mem := List (Option Blk)

/-- Where a named block lies: a block's number, the first cell, how many elements there is room for; or nowhere (an array without room). -/
inductive Place where
  | at (b o c : Nat)
  | void

structure Cx where
  μ : Nat → Option Place
  V : Nat → Prop

def Cx.U (cx : Cx) (b : Nat) : Prop := cx.V b ∨ ∃ k o c, cx.μ k = some (.at b o c)

def big : Nat := 140737488355328

inductive DRep (w : World) (U : Nat → Prop) : D → Value → Prop
  | v (x : Value) (h1 : x.oneCell' = true) : DRep w U (.v x) x
  | nil (t : Bool) (s : Nat) (f : Nat → List D) (A : Option Addr) (c : Nat) (hc : t = true → c = 0) : DRep w U (.sl t s 0 f) (.slice A 0 c)
  | sl (t : Bool) (s n : Nat) (f : Nat → List D) (b o c : Nat) (y : Nat → Nat → Value) (hn : n ≤ big) (hc : n ≤ c) (ht : t = true → c = n)
      (hU : ¬ U b) (hb : b < w.heap.size)
      (hcell : ∀ i j x, i < n → (f i)[j]? = some x → w.cell? ⟨b, o + (i * s + j), none⟩ = some (y i j))
      (hrep : ∀ i j x, i < n → (f i)[j]? = some x → DRep w U x (y i j)) : DRep w U (.sl t s n f) (.slice (some ⟨b, o, none⟩) n c)

inductive Rep (w : World) (cx : Cx) (L : Nat) : AV → Value → Prop
  | d {x : D} {v : Value} (h : DRep w cx.U x v) : Rep w cx L (.d x) v
  | dp (cs : List D) (b o : Nat) (y : Nat → Value) (hU : ¬ cx.U b) (hb : b < w.heap.size)
      (hcell : ∀ j x, cs[j]? = some x → w.cell? ⟨b, o + j, none⟩ = some (y j))
      (hrep : ∀ j x, cs[j]? = some x → DRep w cx.U x (y j)) : Rep w cx L (.dp cs) (.pointer (some ⟨b, o, none⟩))
  | own (k off : Nat) (v : Value) (hk : k < L) (h1 : v.oneCell' = true) (h : ∀ b o c, cx.μ k = some (.at b o c) → v = .pointer (some ⟨b, o + off, none⟩)) : Rep w cx L (.own k off) v
  | ownE (k s i j : Nat) (v : Value) (hk : k < L) (h1 : v.oneCell' = true) (h : ∀ b o c, cx.μ k = some (.at b o c) → v = .pointer (some ⟨b, o + (i * s + j), none⟩)) : Rep w cx L (.ownE k s i j) v
  | row (k s st len : Nat) (v : Value) (hk : k < L) (h1 : v.oneCell' = true)
      (h : ∀ b o c, cx.μ k = some (.at b o c) → v = .slice (some ⟨b, o + st * s, none⟩) len (c - st) ∧ st + len ≤ c)
      (h0 : cx.μ k = some .void → len = 0 ∧ st = 0 ∧ ∃ A, v = .slice A 0 0) : Rep w cx L (.row k s st len) v
  | fn (f : Fn) (xs ys : List AV) (us vs : Array Value) (h1 : us.size = xs.length) (h2 : vs.size = ys.length)
      (hx : ∀ j x, xs[j]? = some x → Rep w cx L x (us.getD j undef)) (hy : ∀ j x, ys[j]? = some x → Rep w cx L x (vs.getD j undef)) : Rep w cx L (.fn f xs ys) (.func f us vs)
  | agg (cs : List AV) (vs : Array Value) (h1 : vs.size = cs.length) (h : ∀ j x, cs[j]? = some x → Rep w cx L x (vs.getD j undef)) : Rep w cx L (.agg cs) (.agg vs)
  | tup (cs : List AV) (vs : Array Value) (h1 : vs.size = cs.length) (h : ∀ j x, cs[j]? = some x → Rep w cx L x (vs.getD j undef)) : Rep w cx L (.tup cs) (.tuple vs)
  | junk (v : Value) : Rep w cx L .junk v

def BlkRep (w : World) (cx : Cx) (L : Nat) (k : Nat) : Blk → Prop
  | .cells cs => ∃ b o c arr t, cx.μ k = some (.at b o c) ∧ w.heap[b]? = some (.cells arr t (0, 0)) ∧
      ∀ j x, cs[j]? = some x → ∃ y, arr[o + j]? = some y ∧ Rep w cx L x y
  | .arr s n f => n ≤ big ∧ ((cx.μ k = some .void ∧ n = 0) ∨ ∃ b o c arr t, cx.μ k = some (.at b o c) ∧ w.heap[b]? = some (.cells arr t (0, 0)) ∧
      n ≤ c ∧ o + c * s ≤ arr.size ∧ ∀ i j x, i < n → (f i)[j]? = some x → ∃ y, arr[o + (i * s + j)]? = some y ∧ DRep w cx.U x y)

structure MemRep (w : World) (cx : Cx) (m : Mem) : Prop where
  blk : ∀ k B, m[k]? = some (some B) → BlkRep w cx m.length k B
  live : ∀ k pl, cx.μ k = some pl → ∃ B, m[k]? = some (some B)
  inj : ∀ k k' b o c o' c', cx.μ k = some (.at b o c) → cx.μ k' = some (.at b o' c') → k = k'
  apart : ∀ k b o c, cx.μ k = some (.at b o c) → ¬ cx.V b
  there : ∀ b, cx.V b → b < w.heap.size

/-- What may have turned between two worlds of a call: blocks of its own, and new ones. -/
structure Ext (L : Nat) (w : World) (cx : Cx) (w' : World) (cx' : Cx) : Prop where
  os : w'.os = w.os
  tape : w'.tape = w.tape
  output : w'.output = w.output
  size : w.heap.size ≤ w'.heap.size
  V : cx'.V = cx.V
  block : ∀ b, b < w.heap.size → (∀ k o c, cx.μ k ≠ some (.at b o c)) → w'.heap[b]? = w.heap[b]?
  fresh : ∀ k b o c, cx'.μ k = some (.at b o c) → (∃ k0 o0 c0, cx.μ k0 = some (.at b o0 c0)) ∨ w.heap.size ≤ b
  keep : ∀ k pl, k < L → cx.μ k = some pl → cx'.μ k = some pl ∨ cx'.μ k = none
  dead : ∀ k, k < L → cx.μ k = none → cx'.μ k = none

theorem Ext.refl (L : Nat) (w : World) (cx : Cx) : Ext L w cx w cx :=
  ⟨rfl, rfl, rfl, Nat.le_refl _, rfl, fun _ _ _ => rfl, fun k _ o c h => .inl ⟨k, o, c, h⟩, fun _ _ _ h => .inl h, fun _ _ h => h⟩

theorem Ext.drew (L : Nat) (w : World) (cx : Cx) : Ext L w cx w.drew cx :=
  ⟨rfl, rfl, rfl, Nat.le_refl _, rfl, fun _ _ _ => rfl, fun k _ o c h => .inl ⟨k, o, c, h⟩, fun _ _ _ h => .inl h, fun _ _ h => h⟩

theorem MemRep.lt {w : World} {cx : Cx} {m : Mem} (h : MemRep w cx m) {k : Nat} {pl : Place} (e : cx.μ k = some pl) : k < m.length := by
  obtain ⟨B, hB⟩ := h.live k pl e
  exact (List.getElem?_eq_some_iff.1 hB).1

theorem Ext.trans' {L L' : Nat} {w w1 w2 : World} {cx c1 c2 : Cx} (h : Ext L w cx w1 c1) (k : Ext L' w1 c1 w2 c2) (hL : L ≤ L') : Ext L w cx w2 c2 := by
  refine ⟨k.os.trans h.os, k.tape.trans h.tape, k.output.trans h.output, Nat.le_trans h.size k.size, k.V.trans h.V, ?_, ?_, ?_, ?_⟩
  · intro b hb hn
    rw [k.block b (Nat.lt_of_lt_of_le hb h.size) ?_]
    · exact h.block b hb hn
    · intro q o c e
      rcases h.fresh q b o c e with ⟨k0, o0, c0, e0⟩ | h1
      · exact hn k0 o0 c0 e0
      · omega
  · intro q b o c e
    rcases k.fresh q b o c e with ⟨k0, o0, c0, e0⟩ | h1
    · exact h.fresh k0 b o0 c0 e0
    · exact .inr (Nat.le_trans h.size h1)
  · intro q pl hq e
    rcases h.keep q pl hq e with h1 | h1
    · exact k.keep q pl (Nat.lt_of_lt_of_le hq hL) h1
    · exact .inr (k.dead q (Nat.lt_of_lt_of_le hq hL) h1)
  · intro q hq e
    exact k.dead q (Nat.lt_of_lt_of_le hq hL) (h.dead q hq e)

theorem Ext.trans {L L' : Nat} {w w1 w2 : World} {cx c1 c2 : Cx} (_hl : ∀ k pl, cx.μ k = some pl → k < L) (h : Ext L w cx w1 c1) (k : Ext L' w1 c1 w2 c2) (hL : L ≤ L') : Ext L w cx w2 c2 := h.trans' k hL

theorem DRep.stable {w w' : World} {U U' : Nat → Prop} (hs : w.heap.size ≤ w'.heap.size) (hblk : ∀ b, b < w.heap.size → ¬ U b → w'.heap[b]? = w.heap[b]?)
    (hU : ∀ b, b < w.heap.size → ¬ U b → ¬ U' b) {x : D} {v : Value} (h : DRep w U x v) : DRep w' U' x v := by
  induction h with
  | v x h1 => exact .v x h1
  | nil t s f A c hc => exact .nil t s f A c hc
  | sl t s n f b o c y hn hc ht hb hlt hcell _ ih =>
    refine .sl t s n f b o c y hn hc ht (hU b hlt hb) (Nat.lt_of_lt_of_le hlt hs) (fun i j x hi hx => ?_) ih
    rw [World.cell?_of_block (w := w) (hblk b hlt hb)]
    exact hcell i j x hi hx

/-- Fewer blocks that may turn. -/
theorem DRep.weaken {w : World} {U U' : Nat → Prop} (hU : ∀ b, U' b → U b) {x : D} {v : Value} (h : DRep w U x v) : DRep w U' x v :=
  h.stable (Nat.le_refl _) (fun _ _ _ => rfl) (fun _ _ hn hu => hn (hU _ hu))

section
variable {L L' : Nat} {w w' : World} {cx cx' : Cx}

theorem Ext.not_U (h : Ext L w cx w' cx') : ∀ b, b < w.heap.size → ¬ cx.U b → ¬ cx'.U b := by
  intro b hb hn hu
  rcases hu with hv | ⟨k, o, c, e⟩
  · exact hn (.inl (h.V ▸ hv))
  · rcases h.fresh k b o c e with h1 | h1
    · exact hn (.inr h1)
    · omega

theorem Ext.blk (h : Ext L w cx w' cx') : ∀ b, b < w.heap.size → ¬ cx.U b → w'.heap[b]? = w.heap[b]? :=
  fun b hb hn => h.block b hb fun k o c e => hn (.inr ⟨k, o, c, e⟩)

theorem DRep.ext (h : Ext L w cx w' cx') {x : D} {v : Value} (r : DRep w cx.U x v) : DRep w' cx'.U x v := r.stable h.size h.blk h.not_U

theorem Ext.named (h : Ext L w cx w' cx') {k : Nat} (hk : k < L) {pl : Place} (e : cx'.μ k = some pl) : cx.μ k = some pl := by
  cases hc : cx.μ k with
  | none => rw [h.dead k hk hc] at e; cases e
  | some q =>
    rcases h.keep k q hk hc with h1 | h1
    · rw [h1] at e; exact e
    · rw [h1] at e; cases e

theorem Rep.ext (h : Ext L w cx w' cx') (hL : L ≤ L') {x : AV} {v : Value} (r : Rep w cx L x v) : Rep w' cx' L' x v := by
  induction r with
  | d hd => exact .d (hd.ext h)
  | dp cs b o y hU hb hcell hrep =>
    refine .dp cs b o y (h.not_U b hb hU) (Nat.lt_of_lt_of_le hb h.size) (fun j x hx => ?_) (fun j x hx => (hrep j x hx).ext h)
    rw [World.cell?_of_block (w := w) (h.blk b hb hU)]
    exact hcell j x hx
  | own k off v hk h1 hv => exact .own k off v (Nat.lt_of_lt_of_le hk hL) h1 fun b o c e => hv b o c (h.named hk e)
  | ownE k s i j v hk h1 hv => exact .ownE k s i j v (Nat.lt_of_lt_of_le hk hL) h1 fun b o c e => hv b o c (h.named hk e)
  | row k s st len v hk h1 hv h0 => exact .row k s st len v (Nat.lt_of_lt_of_le hk hL) h1 (fun b o c e => hv b o c (h.named hk e)) (fun e => h0 (h.named hk e))
  | fn f xs ys us vs h1 h2 _ _ ihx ihy => exact .fn f xs ys us vs h1 h2 ihx ihy
  | agg cs vs h1 _ ih => exact .agg cs vs h1 ih
  | tup cs vs h1 _ ih => exact .tup cs vs h1 ih
  | junk v => exact .junk v

/-- A world that has only grown, of which no named block has turned. -/
theorem MemRep.grown {m : Mem} (hm : MemRep w cx m) (hb : Below w.heap.size w w') : MemRep w' cx m := by
  have hE : Ext m.length w cx w' cx := ⟨hb.os, hb.tape, hb.output, hb.size, rfl, fun b hlt _ => hb.block b hlt, fun k b o c h => .inl ⟨k, o, c, h⟩, fun _ _ _ h => .inl h, fun _ _ h => h⟩
  refine ⟨fun k B hk => ?_, hm.live, hm.inj, hm.apart, fun b hv => Nat.lt_of_lt_of_le (hm.there b hv) hb.size⟩
  have h := hm.blk k B hk
  cases B with
  | cells cs =>
    obtain ⟨b, o, c, arr, t, e1, e2, e3⟩ := h
    refine ⟨b, o, c, arr, t, e1, ?_, fun j x hx => ?_⟩
    · rw [hb.block b (Array.getElem?_eq_some_iff.1 e2).1]; exact e2
    · obtain ⟨y, g1, g2⟩ := e3 j x hx
      exact ⟨y, g1, g2.ext hE (Nat.le_refl _)⟩
  | arr s n f =>
    obtain ⟨hn, h⟩ := h
    refine ⟨hn, h.imp id ?_⟩
    rintro ⟨b, o, c, arr, t, e1, e2, e3, e5, e6⟩
    refine ⟨b, o, c, arr, t, e1, ?_, e3, e5, fun i j x hi hx => ?_⟩
    · rw [hb.block b (Array.getElem?_eq_some_iff.1 e2).1]; exact e2
    · obtain ⟨y, g1, g2⟩ := e6 i j x hi hx
      exact ⟨y, g1, g2.ext hE⟩

theorem DRep.one {U : Nat → Prop} {x : D} {v : Value} (h : DRep w U x v) : v.oneCell' = true := by
  cases h with
  | v x h1 => exact h1
  | nil => rfl
  | sl => rfl

/-- Of one cell. -/
def AV.one : AV → Bool
  | .d _ | .dp _ | .own .. | .ownE .. | .row .. | .fn .. => true
  | _ => false

theorem Rep.one {x : AV} {v : Value} (h : Rep w cx L x v) (hx : x.one = true) : v.oneCell' = true := by
  cases h with
  | d h => exact h.one
  | dp => rfl
  | own k off v hk h1 => exact h1
  | ownE k s i j v hk h1 => exact h1
  | row k s st len v hk h1 => exact h1
  | fn => rfl
  | agg => cases hx
  | tup => cases hx
  | junk => cases hx

theorem Ext.of_below {L : Nat} (hb : Below w.heap.size w w') : Ext L w cx w' cx :=
  ⟨hb.os, hb.tape, hb.output, hb.size, rfl, fun b hlt _ => hb.block b hlt, fun k b o c h => .inl ⟨k, o, c, h⟩, fun _ _ _ h => .inl h, fun _ _ h => h⟩
end
end Go.Proofs.Abs
