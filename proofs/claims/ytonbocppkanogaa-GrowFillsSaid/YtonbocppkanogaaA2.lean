/- The table of types, reads and writes through abstract pointers, and what an operation's run must show. -/
import Derived.Test.YtonbocppkanogaaA1
import Derived.Laws.CopyRow
import Derived.Laws.Cells
import Derived.Laws.Entries
import Derived.WalkKit
set_option linter.all false
namespace Go.Proofs.Abs
open Go Go.RowKit

structure TI where
  d : TypeDesc
  z : Value
  size : Nat
  bytes : Nat
  agg : Bool
  zero : List D
  fields : List (Nat × Nat)
  elem : Option Nat

def ZeroOK : List D → List Value → Prop
  | [], [] => True
  | .v y :: xs, v :: vs => (y = v ∧ v.oneCell' = true) ∧ ZeroOK xs vs
  | .sl t _ n _ :: xs, v :: vs => (t = true ∧ n = 0 ∧ v = .slice none 0 0) ∧ ZeroOK xs vs
  | _, _ => False

def descAgg : TypeDesc → Bool
  | .struct _ | .array _ _ => true
  | _ => false

def FieldsOK (P : Program) : List Field → List (Nat × Nat) → Prop
  | [], [] => True
  | f :: fs, (o, s) :: r => (f.offset = o ∧ s ≠ 0 ∧ (P.info? f.type).map (·.size) = some s) ∧ FieldsOK P fs r
  | _, _ => False

structure TyOK (P : Program) (t : Nat) (i : TI) : Prop where
  und : P.underlying t = some i.d
  info : (P.info? t).map (fun x => (x.zero, x.size, x.bytes)) = some (some i.z, i.size, i.bytes)
  agg : i.agg = descAgg i.d
  zero : ZeroOK i.zero i.z.cells.toList
  size : i.size = i.zero.length
  fields : match i.d with
    | .struct fs => FieldsOK P fs.toList i.fields
    | _ => i.fields = []
  elem : i.elem = match i.d with
    | .slice e => some e
    | _ => none

abbrev Tab := Nat → Option TI
def TabOK (P : Program) (tab : Tab) : Prop := ∀ t i, tab t = some i → TyOK P t i

section
variable {P : Program} {t : Nat} {i : TI} (h : TyOK P t i) (w : World)
include h

theorem TyOK.run_und : (underlying t).run P w = .ok i.d w := run_underlying h.und w

theorem TyOK.inf : ∃ x, P.info? t = some x ∧ x.zero = some i.z ∧ x.size = i.size ∧ x.bytes = i.bytes := by
  obtain ⟨x, hx, e⟩ := Option.map_eq_some_iff.1 h.info
  simp only [Prod.mk.injEq] at e
  exact ⟨x, hx, e.1, e.2.1, e.2.2⟩

theorem TyOK.run_info : ∃ x, (typeInfo t).run P w = .ok x w ∧ x.zero = some i.z ∧ x.size = i.size ∧ x.bytes = i.bytes := by
  obtain ⟨x, hx, e⟩ := h.inf
  exact ⟨x, by simp [typeInfo, hx], e⟩

theorem TyOK.run_size : (sizeOf t).run P w = .ok i.size w := by
  obtain ⟨x, hx, _, hs, _⟩ := h.run_info w
  simp [Go.sizeOf, hx, hs]

theorem TyOK.run_zero : (zeroValue t).run P w = .ok i.z w := by
  obtain ⟨x, hx, hz, _, _⟩ := h.run_info w
  simp [zeroValue, hx, hz]

theorem TyOK.run_agg : (isAgg t).run P w = .ok i.agg w := by
  rw [h.agg]
  simp only [isAgg, Sem.run_bind, h.run_und w, Result.andThen_ok]
  cases i.d <;> rfl
end

theorem ZeroOK.length : ∀ {xs : List D} {vs : List Value}, ZeroOK xs vs → xs.length = vs.length
  | [], [], _ => rfl
  | .v _ :: xs, v :: vs, h => by simp [ZeroOK.length h.2]
  | .sl .. :: xs, v :: vs, h => by simp [ZeroOK.length h.2]
  | [], v :: vs, h => h.elim
  | .v _ :: xs, [], h => h.elim
  | .sl .. :: xs, [], h => h.elim

theorem ZeroOK.rep (w : World) (U : Nat → Prop) : ∀ {xs : List D} {vs : List Value}, ZeroOK xs vs → ∀ (j : Nat) (x : D), xs[j]? = some x → ∃ v, vs[j]? = some v ∧ DRep w U x v
  | [], [], _, j, x, hj => by simp at hj
  | .v y :: xs, v :: vs, h, 0, x, hj => by
    simp only [List.getElem?_cons_zero, Option.some.injEq] at hj
    subst hj
    obtain ⟨⟨rfl, h1⟩, _⟩ := h
    exact ⟨_, rfl, .v _ h1⟩
  | .sl t s n f :: xs, v :: vs, h, 0, x, hj => by
    simp only [List.getElem?_cons_zero, Option.some.injEq] at hj
    subst hj
    obtain ⟨⟨rfl, rfl, rfl⟩, _⟩ := h
    exact ⟨_, rfl, .nil _ _ _ _ _ (fun _ => rfl)⟩
  | .v y :: xs, v :: vs, h, j + 1, x, hj => by
    simp only [List.getElem?_cons_succ] at hj
    obtain ⟨u, hu, hr⟩ := ZeroOK.rep w U h.2 j x hj
    exact ⟨u, by simpa using hu, hr⟩
  | .sl .. :: xs, v :: vs, h, j + 1, x, hj => by
    simp only [List.getElem?_cons_succ] at hj
    obtain ⟨u, hu, hr⟩ := ZeroOK.rep w U h.2 j x hj
    exact ⟨u, by simpa using hu, hr⟩
  | [], v :: vs, h, _, _, _ => h.elim
  | .v _ :: xs, [], h, _, _, _ => h.elim
  | .sl .. :: xs, [], h, _, _, _ => h.elim

/-! ### What is computed, continuation first -/

def dropK {α : Type} : Nat → List α → (List α → Prop) → Prop
  | 0, xs, K => K xs
  | _ + 1, [], _ => False
  | n + 1, _ :: xs, K => dropK n xs K

def takeK {α β : Type} (g : α → β) : Nat → List α → (List β → Prop) → Prop
  | 0, _, K => K []
  | _ + 1, [], _ => False
  | n + 1, x :: xs, K => takeK g n xs fun r => K (g x :: r)

def blkK : Mem → Nat → (Blk → Prop) → Prop
  | [], _, _ => False
  | some B :: _, 0, K => K B
  | none :: _, 0, _ => False
  | _ :: r, k + 1, K => blkK r k K

theorem dropK_sound {α : Type} : ∀ {n : Nat} {xs : List α} {K : List α → Prop}, dropK n xs K → n ≤ xs.length ∧ K (xs.drop n)
  | 0, xs, K, h => ⟨Nat.zero_le _, h⟩
  | n + 1, [], K, h => h.elim
  | n + 1, x :: xs, K, h => by
    obtain ⟨h1, h2⟩ := dropK_sound (n := n) (xs := xs) h
    exact ⟨by simpa using h1, by simpa using h2⟩

theorem takeK_sound {α β : Type} {g : α → β} : ∀ {n : Nat} {xs : List α} {K : List β → Prop}, takeK g n xs K → n ≤ xs.length ∧ K ((xs.take n).map g)
  | 0, xs, K, h => ⟨Nat.zero_le _, by simpa [takeK] using h⟩
  | n + 1, [], K, h => h.elim
  | n + 1, x :: xs, K, h => by
    obtain ⟨h1, h2⟩ := takeK_sound (n := n) (xs := xs) h
    exact ⟨by simpa using h1, by simpa using h2⟩

theorem blkK_sound : ∀ {m : Mem} {k : Nat} {K : Blk → Prop}, blkK m k K → ∃ B, m[k]? = some (some B) ∧ K B
  | [], _, _, h => h.elim
  | some B :: _, 0, K, h => ⟨B, rfl, h⟩
  | none :: _, 0, _, h => h.elim
  | some _ :: r, k + 1, K, h => by simpa [List.getElem?_cons_succ] using blkK_sound (m := r) (k := k) h
  | none :: r, k + 1, K, h => by simpa [List.getElem?_cons_succ] using blkK_sound (m := r) (k := k) h

/-- The cells that a pointer leads to. -/
def readK (m : Mem) (v : AV) (sz : Nat) (K : List Nat → List AV → Prop) : Prop :=
  match v with
  | .own k off => blkK m k fun B => match B with
    | .cells cs => dropK off cs fun r => takeK id sz r (K [k])
    | _ => False
  | .ownE k s i j => blkK m k fun B => match B with
    | .arr s' n f => (s' = s ∧ i < n) ∧ dropK j (f i) fun r => takeK AV.d sz r (K [k])
    | _ => False
  | .dp cs => takeK AV.d sz cs (K [])
  | _ => False

def PtrReads (w : World) (cx : Cx) (L : Nat) (p : Value) (xs : List AV) : Prop :=
  ∃ b o, p = .pointer (some ⟨b, o, none⟩) ∧ ∀ j x, xs[j]? = some x → ∃ y, w.cell? ⟨b, o + j, none⟩ = some y ∧ Rep w cx L x y

theorem cell_arr {w : World} {b : Nat} {arr : Array Value} {t : TypeId} {fr : Nat × Nat} (h : w.heap[b]? = some (.cells arr t fr)) (o : Nat) : w.cell? ⟨b, o, none⟩ = arr[o]? := by
  simp [World.cell?, h]

theorem getElem?_take_map {α β : Type} {g : α → β} {n j : Nat} {xs : List α} {y : β} (h : ((xs.take n).map g)[j]? = some y) : j < n ∧ ∃ x, xs[j]? = some x ∧ g x = y := by
  simp only [List.getElem?_map, Option.map_eq_some_iff] at h
  obtain ⟨x, hx, e⟩ := h
  rw [List.getElem?_take] at hx
  split at hx
  · exact ⟨by assumption, x, hx, e⟩
  · cases hx

theorem readK_sound {m : Mem} {v : AV} {sz : Nat} {K : List Nat → List AV → Prop} (h : readK m v sz K) :
    ∃ rd xs, K rd xs ∧ xs.length = sz ∧ (∀ k, k ∈ rd → ∃ B, m[k]? = some (some B)) ∧ ∀ (w : World) (cx : Cx) (m' : Mem) (p : Value), MemRep w cx m' → (∀ k, k ∈ rd → m'[k]? = m[k]?) → Rep w cx m'.length v p → PtrReads w cx m'.length p xs := by
  cases v with
  | own k off =>
    obtain ⟨B, hB, h⟩ := blkK_sound h
    cases B with
    | arr s n f => exact h.elim
    | cells cs =>
      obtain ⟨h1, h⟩ := dropK_sound h
      obtain ⟨h2, h⟩ := takeK_sound h
      refine ⟨_, _, h, by simp at h2 ⊢; omega, by simpa using ⟨_, hB⟩, fun w cx m' p hm hrd hr => ?_⟩
      have hB' : m'[k]? = some (some (.cells cs)) := by rw [hrd k (by simp)]; exact hB
      obtain ⟨b, o, c, arr, t, e1, e2, e3⟩ := hm.blk k _ hB'
      cases hr with
      | own k off v hk h1 hv =>
        refine ⟨b, o + off, hv b o c e1, fun j x hx => ?_⟩
        obtain ⟨_, x', hx', rfl⟩ := getElem?_take_map hx
        rw [List.getElem?_drop] at hx'
        obtain ⟨y, hy, hr⟩ := e3 _ _ hx'
        exact ⟨y, by rw [cell_arr e2, Nat.add_assoc]; exact hy, hr⟩
  | ownE k s i j =>
    obtain ⟨B, hB, h⟩ := blkK_sound h
    cases B with
    | cells cs => exact h.elim
    | arr s' n f =>
      obtain ⟨⟨hs, hi⟩, h5⟩ := h
      subst hs
      obtain ⟨h1, h6⟩ := dropK_sound h5
      obtain ⟨h2, h7⟩ := takeK_sound h6
      refine ⟨_, _, h7, by simp at h2 ⊢; omega, by simpa using ⟨_, hB⟩, fun w cx m' p hm hrd hr => ?_⟩
      have hB' : m'[k]? = some (some (.arr s' n f)) := by rw [hrd k (by simp)]; exact hB
      obtain ⟨hn, e⟩ := hm.blk k _ hB'
      rcases e with ⟨_, e⟩ | ⟨b, o, c, arr, t, e1, e2, _, _, e3⟩
      · omega
      cases hr with
      | ownE k s i j v hk h1 hv =>
        refine ⟨b, o + (i * s' + j), hv b o c e1, fun q x hx => ?_⟩
        obtain ⟨_, x', hx', rfl⟩ := getElem?_take_map hx
        rw [List.getElem?_drop] at hx'
        obtain ⟨y, hy, hr⟩ := e3 i _ _ hi hx'
        exact ⟨y, by rw [cell_arr e2, show o + (i * s' + j) + q = o + (i * s' + (j + q)) by omega]; exact hy, .d hr⟩
  | dp cs =>
    obtain ⟨h2, h⟩ := takeK_sound h
    refine ⟨_, _, h, by simp at h2 ⊢; omega, by simp, fun w cx m' p _ _ hr => ?_⟩
    cases hr with
    | dp cs b o y hU hb hcell hrep =>
      refine ⟨b, o, rfl, fun j x hx => ?_⟩
      obtain ⟨_, x', hx', rfl⟩ := getElem?_take_map hx
      exact ⟨y j, hcell j _ hx', .d (hrep j _ hx')⟩
  | d | row | fn | agg | tup | junk => exact h.elim

theorem add_plain (b o j : Nat) : (⟨b, o, none⟩ : Addr).add j = ⟨b, o + j, none⟩ := by unfold Addr.add; split <;> simp_all

/-- A load, of a variable of any size. -/
theorem run_loadAt {P : Program} {t : Nat} {i : TI} (ht : TyOK P t i) {w : World} {cx : Cx} {L : Nat} {p : Value} {xs : List AV} (h : PtrReads w cx L p xs) (hl : xs.length = i.size) :
    (i.agg = true → ∃ vs, (Instr.loadAt t p).run P w = .ok (.agg vs) w ∧ Rep w cx L (.agg xs) (.agg vs)) ∧
    (i.agg = false → ∀ x, xs = [x] → ∃ v, (Instr.loadAt t p).run P w = .ok v w ∧ Rep w cx L x v) := by
  obtain ⟨b, o, rfl, hc⟩ := h
  constructor
  · intro ha
    have hy : ∀ j : Nat, ∃ y, ∀ x, xs[j]? = some x → w.cell? ⟨b, o + j, none⟩ = some y ∧ Rep w cx L x y := by
      intro j
      cases hx : xs[j]? with
      | none => exact ⟨undef, by simp⟩
      | some x =>
        obtain ⟨y, hy⟩ := hc j x hx
        exact ⟨y, fun x' e => by injection e with e; subst e; exact hy⟩
    obtain ⟨y, hy⟩ := Classical.axiomOfChoice hy
    have hrun : (loadCells ⟨b, o, none⟩ i.size).run P w = .ok ((List.range i.size).map y).toArray w :=
      run_loadCells w _ _ y fun j hj => by
        rw [add_plain]
        exact (hy j _ (List.getElem?_eq_getElem (by omega))).1
    refine ⟨((List.range i.size).map y).toArray, ?_, .agg _ _ (by simp [hl]) fun j x hx => ?_⟩
    · simp [Instr.loadAt, Instr.sureAddr, loadVar, ht.run_agg, ht.run_size, ha, hrun]
    · have hj := (List.getElem?_eq_some_iff.1 hx).1
      have := (hy j x hx).2
      simpa [Array.getD, show j < i.size by omega] using this
  · intro ha x hx
    subst hx
    obtain ⟨y, hy, hr⟩ := hc 0 x rfl
    refine ⟨y, ?_, hr⟩
    have hy' : w.cell? ⟨b, o, none⟩ = some y := hy
    simp [Instr.loadAt, Instr.sureAddr, loadVar, ht.run_agg, ha, hy']
end Go.Proofs.Abs
