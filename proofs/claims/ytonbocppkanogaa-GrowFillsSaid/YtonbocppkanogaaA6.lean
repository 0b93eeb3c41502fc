/- Values cell by cell: what is stored, built and made. -/
import Derived.Test.YtonbocppkanogaaA5
import Derived.Laws.MakeOwn
import Derived.Laws.StructEq
set_option linter.all false
namespace Go.Proofs.Abs
open Go Go.RowKit

/-- Cells of one value each. -/
def onesK : List AV → Prop → Prop
  | [], K => K
  | .agg _ :: _, _ => False
  | .tup _ :: _, _ => False
  | .junk :: _, _ => False
  | .d _ :: r, K => onesK r K
  | .dp _ :: r, K => onesK r K
  | .own _ _ :: r, K => onesK r K
  | .ownE _ _ _ _ :: r, K => onesK r K
  | .row _ _ _ _ :: r, K => onesK r K
  | .fn _ _ _ :: r, K => onesK r K

theorem onesK_sound : ∀ {cs : List AV} {K : Prop}, onesK cs K → (∀ x, x ∈ cs → x.one = true) ∧ K
  | [], _, h => ⟨by simp, h⟩
  | x :: r, K, h => by
    cases x with
    | agg | tup | junk => exact h.elim
    | d | dp | own | ownE | row | fn =>
      obtain ⟨h1, h2⟩ := onesK_sound (cs := r) (K := K) h
      exact ⟨fun y hy => by
        rcases List.mem_cons.1 hy with rfl | hy
        · rfl
        · exact h1 y hy, h2⟩

def flatK (v : AV) (K : List AV → Prop) : Prop :=
  match v with
  | .agg cs => onesK cs (K cs)
  | .junk => False
  | .tup _ => False
  | .d x => K [.d x]
  | .dp cs => K [.dp cs]
  | .own k o => K [.own k o]
  | .ownE k s i j => K [.ownE k s i j]
  | .row k s st l => K [.row k s st l]
  | .fn f a b => K [.fn f a b]

/-- A value's cells stand for abstract ones. -/
def CellsRep (w : World) (cx : Cx) (L : Nat) (cs : List AV) (vs : List Value) : Prop :=
  vs.length = cs.length ∧ (∀ v, v ∈ vs → v.oneCell' = true) ∧ ∀ (j : Nat) (x : AV), cs[j]? = some x → ∃ y, vs[j]? = some y ∧ Rep w cx L x y

theorem cells_one {v : Value} (h : v.oneCell' = true) : v.cells = #[v] := by
  cases v <;> first | rfl | cases h

theorem flat_one {w : World} {cx : Cx} {L : Nat} {x : AV} {p : Value} (hx : x.one = true) (hr : Rep w cx L x p) : CellsRep w cx L [x] p.cells.toList := by
  have h1 := hr.one hx
  rw [cells_one h1]
  refine ⟨rfl, fun v hv => ?_, fun j y hj => ?_⟩
  · have : v = p := by simpa using hv
    rw [this]; exact h1
  · cases j with
    | zero => simp at hj; subst hj; exact ⟨p, rfl, hr⟩
    | succ j => simp at hj

theorem flatK_sound {v : AV} {K : List AV → Prop} (h : flatK v K) : ∃ cs, K cs ∧ ∀ (w : World) (cx : Cx) (L : Nat) (p : Value), Rep w cx L v p → CellsRep w cx L cs p.cells.toList := by
  cases v with
  | junk | tup => exact h.elim
  | agg cs =>
    obtain ⟨h1, h2⟩ := onesK_sound h
    refine ⟨cs, h2, fun w cx L p hr => ?_⟩
    cases hr with
    | agg _ vs hs hr =>
      have hget : ∀ (j : Nat) (x : AV), cs[j]? = some x → ∃ y, vs.toList[j]? = some y ∧ Rep w cx L x y := by
        intro j x hx
        have hj := (List.getElem?_eq_some_iff.1 hx).1
        refine ⟨vs.getD j undef, ?_, hr j x hx⟩
        simp [Array.getD, show j < vs.size by omega]
      refine ⟨by simpa [Value.cells] using hs, fun v hv => ?_, hget⟩
      obtain ⟨j, hj⟩ := List.mem_iff_getElem?.1 hv
      have hlt := (List.getElem?_eq_some_iff.1 hj).1
      have hx := List.getElem?_eq_getElem (l := cs) (i := j) (by simp [Value.cells] at hlt; omega)
      obtain ⟨y, hy, hr⟩ := hget j _ hx
      have : y = v := by
        have : vs.toList[j]? = some v := hj
        rw [this] at hy; injection hy with hy; exact hy.symm
      subst this
      exact hr.one (h1 _ (List.mem_of_getElem? hx))
  | d | dp | own | ownE | row | fn => exact ⟨_, h, fun w cx L p hr => flat_one rfl hr⟩

/-- Some cells in the place of others. -/
def overK {α : Type} : List α → Nat → List α → (List α → Prop) → Prop
  | [], 0, [], K => K []
  | [], 0, _ :: _, _ => False
  | [], _ + 1, _, _ => False
  | o :: old, 0, [], K => K (o :: old)
  | _ :: old, 0, n :: new, K => overK old 0 new fun r => K (n :: r)
  | o :: old, off + 1, new, K => overK old off new fun r => K (o :: r)

theorem overK_sound {α : Type} : ∀ {old : List α} {off : Nat} {new : List α} {K : List α → Prop}, overK old off new K →
    ∃ r, K r ∧ off + new.length ≤ old.length ∧ r.length = old.length ∧ ∀ j, r[j]? = if off ≤ j ∧ j < off + new.length then new[j - off]? else old[j]?
  | [], 0, [], _, h => ⟨[], h, by simp, rfl, fun j => by simp⟩
  | [], 0, _ :: _, _, h => h.elim
  | [], _ + 1, _, _, h => h.elim
  | o :: old, 0, [], _, h => ⟨o :: old, h, by simp, rfl, fun j => by simp⟩
  | o :: old, 0, n :: new, _, h => by
    obtain ⟨r, hK, h1, h2, h3⟩ := overK_sound (old := old) (off := 0) (new := new) h
    refine ⟨n :: r, hK, by simpa using h1, by simpa using h2, fun j => ?_⟩
    cases j with
    | zero => simp
    | succ j => simpa using h3 j
  | o :: old, off + 1, new, _, h => by
    obtain ⟨r, hK, h1, h2, h3⟩ := overK_sound (old := old) (off := off) (new := new) h
    refine ⟨o :: r, hK, by simp; omega, by simpa using h2, fun j => ?_⟩
    cases j with
    | zero => simp
    | succ j =>
      simp only [List.getElem?_cons_succ]
      rw [h3 j]
      by_cases hc : off ≤ j ∧ j < off + new.length
      · rw [if_pos hc, if_pos (by omega)]; congr 1; omega
      · rw [if_neg hc, if_neg (by omega)]

def memSetK : Mem → Nat → Option Blk → (Mem → Prop) → Prop
  | [], _, _, _ => False
  | _ :: r, 0, B, K => K (B :: r)
  | x :: r, k + 1, B, K => memSetK r k B fun r' => K (x :: r')

theorem memSetK_sound : ∀ {m : Mem} {k : Nat} {B : Option Blk} {K : Mem → Prop}, memSetK m k B K → K (m.set k B)
  | [], _, _, _, h => h.elim
  | x :: r, 0, B, K, h => h
  | x :: r, k + 1, B, K, h => memSetK_sound (m := r) (k := k) (K := fun r' => K (x :: r')) h

def snocK : Mem → Blk → (Mem → Prop) → Prop
  | [], B, K => K [some B]
  | x :: r, B, K => snocK r B fun r' => K (x :: r')

theorem snocK_sound : ∀ {m : Mem} {B : Blk} {K : Mem → Prop}, snocK m B K → K (m ++ [some B])
  | [], _, _, h => h
  | x :: r, B, K, h => snocK_sound (m := r) (K := fun r' => K (x :: r')) h

def lenK : Mem → (Nat → Prop) → Prop
  | [], K => K 0
  | _ :: r, K => lenK r fun n => K (n + 1)

theorem lenK_sound : ∀ {m : Mem} {K : Nat → Prop}, lenK m K → K m.length
  | [], _, h => h
  | _ :: r, K, h => lenK_sound (m := r) (K := fun n => K (n + 1)) h

/-- Data only. -/
def datK : List AV → (List D → Prop) → Prop
  | [], K => K []
  | .d x :: r, K => datK r fun r' => K (x :: r')
  | .dp _ :: _, _ => False
  | .own _ _ :: _, _ => False
  | .ownE _ _ _ _ :: _, _ => False
  | .row _ _ _ _ :: _, _ => False
  | .fn _ _ _ :: _, _ => False
  | .agg _ :: _, _ => False
  | .tup _ :: _, _ => False
  | .junk :: _, _ => False

theorem datK_sound : ∀ {cs : List AV} {K : List D → Prop}, datK cs K → ∃ ds, cs = ds.map AV.d ∧ K ds
  | [], _, h => ⟨[], rfl, h⟩
  | x :: r, K, h => by
    cases x with
    | d x =>
      obtain ⟨ds, h1, h2⟩ := datK_sound (cs := r) (K := fun r' => K (x :: r')) h
      exact ⟨x :: ds, by rw [h1]; rfl, h2⟩
    | dp | own | ownE | row | fn | agg | tup | junk => exact h.elim

section
variable {P : Program} {w : World} {cx : Cx} {m : Mem} {t : Nat} {i : TI}

theorem rep_of_map {ds : List D} {vs : List Value} {L : Nat} (h : CellsRep w cx L (ds.map AV.d) vs) : ∀ (j : Nat) (x : D), ds[j]? = some x → ∃ y, vs[j]? = some y ∧ DRep w cx.U x y := by
  intro j x hx
  obtain ⟨y, hy, hr⟩ := h.2.2 j (.d x) (by simp [hx])
  cases hr with
  | d hr => exact ⟨y, hy, hr⟩

/-- A store. -/
theorem run_storeAt (ht : TyOK P t i) {b o : Nat} {v : Value} (hs : v.cells.size = i.size) (h1 : ∀ y, y ∈ v.cells.toList → y.oneCell' = true) {arr : Array Value} {te : TypeId}
    (hb : w.heap[b]? = some (.cells arr te (0, 0))) (hfit : o + v.cells.size ≤ arr.size) :
    (Instr.storeAt t (.pointer (some ⟨b, o, none⟩)) v).run P w = .ok () (w.setRow b (splice arr o v.cells.toList)) := by
  have h := run_storeCells_at P b o te v.cells.toList 0 arr w hb (by simpa using hfit) h1
  simp only [Nat.add_zero] at h
  have hs' : ¬ (v.cells.size ≠ i.size) := by omega
  simp [Instr.storeAt, Instr.sureAddr, storeVar, ht.run_size w, hs, h, splice]

theorem store_own (hm : MemRep w cx m) (ht : TyOK P t i) {k off : Nat} {p v : Value} {cs new r : List AV} (hk : m[k]? = some (some (.cells cs))) (hp : Rep w cx m.length (.own k off) p)
    (hv : CellsRep w cx m.length new v.cells.toList) (hsz : new.length = i.size) (hfit : off + new.length ≤ cs.length) (hr : r.length = cs.length)
    (hget : ∀ j, r[j]? = if off ≤ j ∧ j < off + new.length then new[j - off]? else cs[j]?) :
    ∃ w', (Instr.storeAt t p v).run P w = .ok () w' ∧ Ext m.length w cx w' cx ∧ MemRep w' cx (m.set k (some (.cells r))) := by
  obtain ⟨b, o, c, arr, te, e1, e2, e3⟩ := hm.blk k _ hk
  cases hp with
  | own k off p hkL hp1 hp =>
    obtain rfl := hp b o c e1
    have hvs : v.cells.size = new.length := by simpa using hv.1
    have harr : o + cs.length ≤ arr.size ∨ cs.length = 0 := by
      rcases Nat.eq_zero_or_pos cs.length with h0 | h0
      · exact .inr h0
      · obtain ⟨y, hy, _⟩ := e3 (cs.length - 1) _ (List.getElem?_eq_getElem (by omega))
        have := (Array.getElem?_eq_some_iff.1 hy).1
        exact .inl (by omega)
    rcases Nat.eq_zero_or_pos new.length with hz | hz
    · -- nothing is stored
      have hnil : v.cells.toList = [] := List.eq_nil_of_length_eq_zero (by simpa [hz] using hv.1)
      have hrun : (Instr.storeAt t (.pointer (some ⟨b, o + off, none⟩)) v).run P w = .ok () w := by
        have h1 : v.cells.size = i.size := by omega
        simp [Instr.storeAt, Instr.sureAddr, storeVar, ht.run_size w, h1, hnil, storeCells]
      have hrcs : r = cs := by
        apply List.ext_getElem?
        intro j
        rw [hget j, if_neg (by omega)]
      subst hrcs
      exact ⟨w, hrun, Ext.refl _ _ _, hm.reset (hm.lt e1) ⟨b, o, c, arr, te, e1, e2, e3⟩⟩
    · have hle : o + off + v.cells.size ≤ arr.size := by omega
      refine ⟨_, run_storeAt ht (by omega) hv.2.1 e2 hle, hm.ext_poke e1 _, hm.poke e1 ⟨b, o, c, _, te, e1, setRow_heap w b arr _ te _ e2, fun j x hx => ?_⟩⟩
      have hE := hm.ext_poke e1 (splice arr (o + off) v.cells.toList)
      rw [hget j] at hx
      have hle' : o + off + v.cells.toList.length ≤ arr.size := by simpa using hle
      split at hx
      · obtain ⟨y, hy, hr'⟩ := hv.2.2 _ x hx
        have hl := (List.getElem?_eq_some_iff.1 hy).1
        refine ⟨y, ?_, hr'.ext hE (Nat.le_refl _)⟩
        rw [splice_in hle' (by omega) (by omega), show o + j - (o + off) = j - off by omega]
        exact hy
      · rename_i hn
        obtain ⟨y, hy, hr'⟩ := e3 j x hx
        refine ⟨y, ?_, hr'.ext hE (Nat.le_refl _)⟩
        have hlen : v.cells.toList.length = new.length := by simpa using hvs
        rw [splice_out hle' (by omega)]
        exact hy

/-- What an array holds where a part of one element is written. -/
def setF (f : Nat → List D) (q : Nat) (x : List D) : Nat → List D := fun i => if i = q then x else f i

theorem store_elem (hm : MemRep w cx m) (ht : TyOK P t i) {k s q jo n : Nat} {p v : Value} {f : Nat → List D} {new r : List D} (hk : m[k]? = some (some (.arr s n f))) (hp : Rep w cx m.length (.ownE k s q jo) p)
    (hv : CellsRep w cx m.length (new.map AV.d) v.cells.toList) (hsz : new.length = i.size) (hq : q < n) (hf : ∀ i, i < n → (f i).length ≤ s) (hfit : jo + new.length ≤ (f q).length) (hr : r.length = (f q).length)
    (hget : ∀ j, r[j]? = if jo ≤ j ∧ j < jo + new.length then new[j - jo]? else (f q)[j]?) :
    ∃ w', (Instr.storeAt t p v).run P w = .ok () w' ∧ Ext m.length w cx w' cx ∧ MemRep w' cx (m.set k (some (.arr s n (setF f q r)))) := by
  obtain ⟨hn, hB⟩ := hm.blk k _ hk
  rcases hB with ⟨_, h0⟩ | ⟨b, o, c, arr, te, e1, e2, e3, e4, e5⟩
  · omega
  have hfq := hf q hq
  cases hp with
  | ownE k s q jo p hkL hp1 hp =>
    obtain rfl := hp b o c e1
    have hvs : v.cells.toList.length = new.length := by simpa using hv.1
    have hqs : (q + 1) * s ≤ c * s := Nat.mul_le_mul_right _ (by omega)
    rw [Nat.add_mul] at hqs
    have hle : o + (q * s + jo) + v.cells.toList.length ≤ arr.size := by omega
    have hE := hm.ext_poke e1 (splice arr (o + (q * s + jo)) v.cells.toList)
    refine ⟨_, run_storeAt ht (by simp at hvs; omega) hv.2.1 e2 (by simpa using hle), hE, hm.poke e1 ⟨hn, .inr ⟨b, o, c, _, te, e1, setRow_heap w b arr _ te _ e2, e3, by rw [splice_size hle]; exact e4, fun i' j x hi hx => ?_⟩⟩⟩
    unfold setF at hx
    by_cases hiq : i' = q
    · subst hiq
      rw [if_pos rfl, hget j] at hx
      split at hx
      · obtain ⟨y, hy, hr'⟩ := rep_of_map hv _ x hx
        have hl := (List.getElem?_eq_some_iff.1 hy).1
        refine ⟨y, ?_, hr'.ext hE⟩
        rw [splice_in hle (by omega) (by omega), show o + (i' * s + j) - (o + (i' * s + jo)) = j - jo by omega]
        exact hy
      · obtain ⟨y, hy, hr'⟩ := e5 i' j x hi hx
        refine ⟨y, ?_, hr'.ext hE⟩
        rw [splice_out hle (by omega)]
        exact hy
    · rw [if_neg hiq] at hx
      obtain ⟨y, hy, hr'⟩ := e5 i' j x hi hx
      have hj : j < s := Nat.lt_of_lt_of_le (List.getElem?_eq_some_iff.1 hx).1 (hf i' hi)
      refine ⟨y, ?_, hr'.ext hE⟩
      rw [splice_out hle]
      · exact hy
      · rcases Nat.lt_or_ge i' q with h1 | h1
        · have := Nat.mul_le_mul_right s (show i' + 1 ≤ q from h1)
          rw [Nat.add_mul] at this
          omega
        · have := Nat.mul_le_mul_right s (show q + 1 ≤ i' by omega)
          rw [Nat.add_mul] at this
          omega

/-- A new variable. -/
theorem run_box (t : Nat) (v : Value) : (Instr.box t v).run P w = .ok (.pointer (some ⟨w.heap.size, 0, none⟩)) (w.alloc (.cells v.cells t)) := by
  simp [Instr.box, newVar, newRow]

theorem run_alloc (ht : TyOK P t i) : (Instr.alloc t true (.tuple #[])).run P w = .ok (.pointer (some ⟨w.heap.size, 0, none⟩)) (w.alloc (.cells i.z.cells t)) := by
  simp [Instr.alloc, ht.run_zero w, newVar, newRow]

theorem push_rep (hm : MemRep w cx m) {cs : List AV} {vs : Array Value} (h : CellsRep w cx m.length cs vs.toList) (t : TypeId) :
    Ext m.length w cx (w.alloc (.cells vs t)) (cx.put m.length (some (.at w.heap.size 0 0))) ∧ MemRep (w.alloc (.cells vs t)) (cx.put m.length (some (.at w.heap.size 0 0))) (m ++ [some (.cells cs)]) ∧
      Rep (w.alloc (.cells vs t)) (cx.put m.length (some (.at w.heap.size 0 0))) (m.length + 1) (.own m.length 0) (.pointer (some ⟨w.heap.size, 0, none⟩)) :=
  ⟨hm.ext_push _ _, hm.push_cells fun j x hx => by simpa using h.2.2 j x hx, rep_own_new _ _ _ _ _⟩

theorem zero_rep (ht : TyOK P t i) (w : World) (cx : Cx) (L : Nat) : CellsRep w cx L (i.zero.map AV.d) i.z.cells.toList := by
  refine ⟨by simpa using ht.zero.length.symm, fun v hv => ?_, fun j x hx => ?_⟩
  · obtain ⟨j, hj⟩ := List.mem_iff_getElem?.1 hv
    have hlt := (List.getElem?_eq_some_iff.1 hj).1
    obtain ⟨v', hv', hr⟩ := ht.zero.rep w cx.U j _ (List.getElem?_eq_getElem (by rw [ht.zero.length]; exact hlt))
    rw [hj] at hv'
    injection hv' with hv'
    subst hv'
    exact hr.one
  · simp only [List.getElem?_map, Option.map_eq_some_iff] at hx
    obtain ⟨y, hy, rfl⟩ := hx
    obtain ⟨v, hv, hr⟩ := ht.zero.rep w cx.U j y hy
    exact ⟨v, hv, .d hr⟩

/-! ### build -/

theorem zip_fold (off : Nat) : ∀ (xs : List Value) (j0 : Nat) (cs : Array Value), off + j0 + xs.length ≤ cs.size →
    ((xs.zipIdx j0).foldl (fun cs (c, j) => cs.setIfInBounds (off + j) c) cs).size = cs.size ∧
    ∀ q, ((xs.zipIdx j0).foldl (fun cs (c, j) => cs.setIfInBounds (off + j) c) cs)[q]? = if off + j0 ≤ q ∧ q < off + j0 + xs.length then xs[q - (off + j0)]? else cs[q]?
  | [], j0, cs, _ => ⟨rfl, fun q => by simp; omega⟩
  | x :: xs, j0, cs, h => by
    simp only [List.length_cons] at h
    obtain ⟨h1, h2⟩ := zip_fold off xs (j0 + 1) (cs.setIfInBounds (off + j0) x) (by simp; omega)
    simp only [List.zipIdx_cons, List.foldl_cons]
    refine ⟨by rw [h1]; simp, fun q => ?_⟩
    rw [h2 q]
    by_cases hq : q = off + j0
    · subst hq
      rw [if_neg (by omega), if_pos (by simp)]
      simp [show off + j0 < cs.size by omega]
    · by_cases hc : off + (j0 + 1) ≤ q ∧ q < off + (j0 + 1) + xs.length
      · rw [if_pos hc, if_pos (by simp; omega), show q - (off + j0) = (q - (off + (j0 + 1))) + 1 by omega]
        simp
      · rw [if_neg hc, if_neg (by simp; omega)]
        rw [Array.getElem?_setIfInBounds_ne (by omega)]

def placeK : List (Nat × Nat) → Nat → (Nat → Nat → Prop) → Prop
  | [], _, _ => False
  | (o, s) :: _, 0, K => K o s
  | _ :: r, j + 1, K => placeK r j K

theorem placeK_sound : ∀ {l : List (Nat × Nat)} {j : Nat} {K : Nat → Nat → Prop}, placeK l j K → ∃ o s, l[j]? = some (o, s) ∧ K o s
  | [], _, _, h => h.elim
  | (o, s) :: _, 0, K, h => ⟨o, s, rfl, h⟩
  | _ :: r, j + 1, K, h => by simpa using placeK_sound (l := r) (j := j) h

/-- Parts laid into cells, one behind the other. -/
def fillK (place : Nat → (Nat → Nat → Prop) → Prop) (ev : Operand → (AV → Prop) → Prop) : List (Nat × Operand) → List AV → (List AV → Prop) → Prop
  | [], cs, K => K cs
  | (j, x) :: r, cs, K => place j fun o s => ev x fun v => flatK v fun new => (new.length = s) ∧ overK cs o new fun cs' => fillK place ev r cs' K

theorem fillK_sound {place : Nat → (Nat → Nat → Prop) → Prop} {pl : Nat → Option (Nat × Nat)} {ev : Operand → (AV → Prop) → Prop} {evF : Operand → AV} (hp : ∀ j K, place j K → ∃ o s, pl j = some (o, s) ∧ K o s) (hev : ∀ x K, ev x K → K (evF x)) :
    ∀ {parts : List (Nat × Operand)} {cs : List AV} {K : List AV → Prop}, fillK place ev parts cs K →
      ∃ cs', K cs' ∧ ∀ (w : World) (cx : Cx) (L : Nat) (ρ : Operand → Value) (arr : Array Value), (∀ q, q ∈ parts → Rep w cx L (evF q.2) (ρ q.2)) → CellsRep w cx L cs arr.toList →
        ∃ arr', Instr.fill pl arr (parts.map fun q => (q.1, ρ q.2)) = some arr' ∧ CellsRep w cx L cs' arr'.toList
  | [], cs, K, h => ⟨cs, h, fun w cx L ρ arr _ ha => ⟨arr, rfl, ha⟩⟩
  | (j, x) :: r, cs, K, h => by
    obtain ⟨o, s, hpl, h⟩ := hp j _ h
    obtain ⟨new, h, hnew⟩ := flatK_sound (hev x _ h)
    obtain ⟨hs, h⟩ := h
    obtain ⟨cs1, h, hfit, hlen, hget⟩ := overK_sound h
    obtain ⟨cs', hK, hrest⟩ := fillK_sound hp hev (parts := r) (cs := cs1) (K := K) h
    refine ⟨cs', hK, fun w cx L ρ arr hparts ha => ?_⟩
    have hv := hnew w cx L _ (hparts (j, x) (by simp))
    have hvs : (ρ x).cells.size = new.length := by simpa using hv.1
    have has : arr.size = cs.length := by simpa using ha.1
    obtain ⟨z1, z2⟩ := zip_fold o (ρ x).cells.toList 0 arr (by simp; omega)
    have hz : (ρ x).cells.zipIdx.foldl (fun cs (c, j) => cs.setIfInBounds (o + j) c) arr = ((ρ x).cells.toList.zipIdx 0).foldl (fun cs (c, j) => cs.setIfInBounds (o + j) c) arr := by
      rw [← Array.foldl_toList, Array.toList_zipIdx]
    have hcr : CellsRep w cx L cs1 (((ρ x).cells.toList.zipIdx 0).foldl (fun cs (c, j) => cs.setIfInBounds (o + j) c) arr).toList := by
      refine ⟨by simp [z1]; omega, fun v hv' => ?_, fun q y hy => ?_⟩
      · obtain ⟨q, hq⟩ := List.mem_iff_getElem?.1 hv'
        rw [Array.getElem?_toList, z2 q] at hq
        split at hq
        · exact hv.2.1 v (List.mem_of_getElem? hq)
        · exact ha.2.1 v (List.mem_of_getElem? (by simpa using hq))
      · rw [hget q] at hy
        rw [Array.getElem?_toList, z2 q]
        have hl : (ρ x).cells.toList.length = new.length := by simpa using hvs
        simp only [Nat.add_zero, hl]
        split at hy
        · rename_i hc
          rw [if_pos hc]
          exact hv.2.2 _ y hy
        · rename_i hc
          rw [if_neg hc]
          simpa using ha.2.2 q y hy
    obtain ⟨arr', h1, h2⟩ := hrest w cx L ρ _ (fun q hq => hparts q (by simp [hq])) hcr
    refine ⟨arr', ?_, h2⟩
    simp only [List.map_cons, Instr.fill, hpl]
    rw [if_neg (by simp; omega), hz]
    exact h1
end
end Go.Proofs.Abs
