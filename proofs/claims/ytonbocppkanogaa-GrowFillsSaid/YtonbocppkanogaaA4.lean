/- Slices: reading, append, copy, make. -/
import Derived.Test.YtonbocppkanogaaA3
import Derived.Laws.AppendOwn
set_option linter.all false
namespace Go.Proofs.Abs
open Go Go.RowKit

def sliceK (m : Mem) (v : AV) (K : List Nat → Nat → Nat → (Nat → List D) → Prop) : Prop :=
  match v with
  | .d (.sl _ s n f) => K [] s n f
  | .row k s st len => blkK m k fun B => match B with
    | .arr s' n f => (s' = s ∧ st + len ≤ n) ∧ K [k] s len (fun i => f (st + i))
    | _ => False
  | _ => False

def SlReads (w : World) (U : Nat → Prop) (p : Value) (s n : Nat) (f : Nat → List D) : Prop :=
  ∃ A c, p = .slice A n c ∧ n ≤ big ∧ n ≤ c ∧ (n = 0 ∨ ∃ b o, A = some ⟨b, o, none⟩ ∧
    ∀ i j x, i < n → (f i)[j]? = some x → ∃ y, w.cell? ⟨b, o + (i * s + j), none⟩ = some y ∧ DRep w U x y)

theorem sliceK_sound {m : Mem} {v : AV} {K : List Nat → Nat → Nat → (Nat → List D) → Prop} (h : sliceK m v K) :
    ∃ rd s n f, K rd s n f ∧ (∀ k, k ∈ rd → ∃ B, m[k]? = some (some B)) ∧ ∀ (w : World) (cx : Cx) (m' : Mem) (p : Value), MemRep w cx m' → (∀ k, k ∈ rd → m'[k]? = m[k]?) → Rep w cx m'.length v p → SlReads w cx.U p s n f := by
  cases v with
  | d x =>
    cases x with
    | v => exact h.elim
    | sl t s n f =>
      refine ⟨_, _, _, _, h, by simp, fun w cx m' p _ _ hr => ?_⟩
      cases hr with
      | d hr =>
        cases hr with
        | nil _ _ _ A c hc => exact ⟨A, c, rfl, Nat.zero_le _, Nat.zero_le _, .inl rfl⟩
        | sl _ _ _ _ b o c y hn hc ht hU hb hcell hrep => exact ⟨_, c, rfl, hn, hc, .inr ⟨b, o, rfl, fun i j x hi hx => ⟨y i j, hcell i j x hi hx, hrep i j x hi hx⟩⟩⟩
  | row k s st len =>
    obtain ⟨B, hB, h⟩ := blkK_sound h
    cases B with
    | cells cs => exact h.elim
    | arr s' n f =>
      obtain ⟨⟨hs, hl⟩, h5⟩ := h
      subst hs
      refine ⟨_, _, _, _, h5, by simpa using ⟨_, hB⟩, fun w cx m' p hm hrd hr => ?_⟩
      have hB' : m'[k]? = some (some (.arr s' n f)) := by rw [hrd k (by simp)]; exact hB
      obtain ⟨hn, e⟩ := hm.blk k _ hB'
      cases hr with
      | row k s st len v hk h1 hv h0 =>
        rcases e with ⟨e, rfl⟩ | ⟨b, o, c, arr, t, e1, e2, e3, e4, e5⟩
        · obtain ⟨rfl, _, A, rfl⟩ := h0 e
          exact ⟨A, 0, rfl, Nat.zero_le _, Nat.zero_le _, .inl rfl⟩
        · obtain ⟨rfl, hc⟩ := hv b o c e1
          refine ⟨_, _, rfl, Nat.le_trans (by omega) hn, by omega, .inr ⟨b, _, rfl, fun i j x hi hx => ?_⟩⟩
          obtain ⟨y, hy, hr⟩ := e5 (st + i) j x (by omega) hx
          exact ⟨y, by rw [cell_arr e2, show o + st * s' + (i * s' + j) = o + ((st + i) * s' + j) by rw [Nat.add_mul]; omega]; exact hy, hr⟩
  | own | ownE | dp | fn | agg | tup | junk => exact h.elim

theorem divmod_lt {q s n : Nat} (h : q < n * s) : q / s < n ∧ q % s < s ∧ q / s * s + q % s = q := by
  have hs : 0 < s := by
    rcases Nat.eq_zero_or_pos s with h0 | h0
    · subst h0; simp at h
    · exact h0
  exact ⟨(Nat.div_lt_iff_lt_mul hs).2 h, Nat.mod_lt _ hs, by rw [Nat.mul_comm]; exact Nat.div_add_mod q s⟩

theorem idx_lt {i j n s : Nat} (hi : i < n) (hj : j < s) : i * s + j < n * s := by
  have : (i + 1) * s ≤ n * s := Nat.mul_le_mul_right _ hi
  rw [Nat.add_mul] at this
  omega

/-- The first k elements' cells, read in a row. -/
theorem SlReads.flat {P : Program} {w : World} {U : Nat → Prop} {p : Value} {s n k : Nat} {f : Nat → List D} (h : SlReads w U p s n f) (hk : k ≤ n) (hlen : ∀ i, i < n → (f i).length = s) :
    ∃ vs : List Value, vs.length = k * s ∧ (Builtin.firstCells s k p).run P w = .ok vs.toArray w ∧ (∀ v, v ∈ vs → v.oneCell' = true) ∧
      ∀ (i j : Nat) (x : D), i < k → (f i)[j]? = some x → ∃ y, vs[i * s + j]? = some y ∧ DRep w U x y := by
  obtain ⟨A, c, rfl, hn, hc, h⟩ := h
  by_cases h0 : k = 0
  · subst h0
    refine ⟨[], by simp, ?_, by simp, fun i _ _ hi => by omega⟩
    cases A <;> simp [Builtin.firstCells, loadCells, loadCellsFrom]
  · rcases h with h | ⟨b, o, rfl, h⟩
    · omega
    have hy : ∀ q : Nat, ∃ y, q < k * s → w.cell? ⟨b, o + q, none⟩ = some y ∧ ∀ x, (f (q / s))[q % s]? = some x → DRep w U x y := by
      intro q
      by_cases hq : q < k * s
      · obtain ⟨h1, h2, h3⟩ := divmod_lt hq
        have hx := List.getElem?_eq_getElem (l := f (q / s)) (i := q % s) (by rw [hlen _ (by omega)]; exact h2)
        obtain ⟨y, hy, hr⟩ := h (q / s) (q % s) _ (by omega) hx
        rw [h3] at hy
        exact ⟨y, fun _ => ⟨hy, fun x e => by rw [hx] at e; injection e with e; subst e; exact hr⟩⟩
      · exact ⟨undef, fun h => absurd h hq⟩
    obtain ⟨y, hy⟩ := Classical.axiomOfChoice hy
    refine ⟨(List.range (k * s)).map y, by simp, ?_, ?_, ?_⟩
    · simp only [Builtin.firstCells]
      exact run_loadCells w _ _ y fun q hq => by rw [add_plain]; exact (hy q hq).1
    · intro v hv
      obtain ⟨q, hq, rfl⟩ := List.mem_map.1 hv
      have hq := List.mem_range.1 hq
      obtain ⟨h1, h2, h3⟩ := divmod_lt hq
      have hx := List.getElem?_eq_getElem (l := f (q / s)) (i := q % s) (by rw [hlen _ (by omega)]; exact h2)
      exact ((hy q hq).2 _ hx).one
    · intro i j x hi hx
      have hj : j < s := by rw [← hlen i (by omega)]; exact (List.getElem?_eq_some_iff.1 hx).1
      have hq := idx_lt hi hj
      refine ⟨y (i * s + j), by simp [hq], (hy _ hq).2 x ?_⟩
      have e1 : (i * s + j) / s = i := by
        rw [Nat.mul_comm, Nat.mul_add_div (by omega), Nat.div_eq_of_lt hj, Nat.add_zero]
      have e2 : (i * s + j) % s = j := by rw [Nat.mul_comm, Nat.mul_add_mod, Nat.mod_eq_of_lt hj]
      rw [e1, e2]; exact hx

section
variable {P : Program} (w : World) {t1 t2 e ty : Nat} {i1 i2 ie : TI}

theorem run_append_fits (h1 : TyOK P t1 i1) (d1 : i1.d = .slice e) (h2 : TyOK P t2 i2) {e2 : Nat} (d2 : i2.d = .slice e2) (he : TyOK P e ie) (A xA : Option Addr) (sLen sCap m c : Nat) (news : List Value)
    (hx : (Builtin.firstCells ie.size m (.slice xA m c)).run P w = .ok news.toArray w) (hroom : sLen + m ≤ sCap) :
    (news = [] → (Builtin.append_ #[t1, t2] ty #[.slice A sLen sCap, .slice xA m c]).run P w = .ok (.slice A (sLen + m) sCap) w) ∧
    (∀ b o arr te, A = some ⟨b, o, none⟩ → w.heap[b]? = some (.cells arr te (0, 0)) → o + sLen * ie.size + news.length ≤ arr.size → (∀ v, v ∈ news → v.oneCell' = true) →
      (Builtin.append_ #[t1, t2] ty #[.slice A sLen sCap, .slice xA m c]).run P w = .ok (.slice A (sLen + m) sCap)
        (w.setRow b (arr.toList.take (o + sLen * ie.size) ++ news ++ arr.toList.drop (o + sLen * ie.size + news.length)).toArray)) := by
  have u1 := h1.run_und w
  have u2 := h2.run_und w
  rw [d1] at u1
  rw [d2] at u2
  constructor
  · rintro rfl
    cases A <;> simp [Builtin.append_, u1, u2, he.run_size w, Builtin.lenOf, hroom, hx, storeCells]
  · rintro b o arr te rfl hb hfit h1c
    have hst := run_storeCells_at P b (o + sLen * ie.size) te news 0 arr w hb (by simpa using hfit) h1c
    simp only [Nat.add_zero] at hst
    simp [Builtin.append_, u1, u2, he.run_size w, Builtin.lenOf, hroom, hx, add_plain, hst]

theorem run_append_new (h1 : TyOK P t1 i1) (d1 : i1.d = .slice e) (h2 : TyOK P t2 i2) {e2 : Nat} (d2 : i2.d = .slice e2) (he : TyOK P e ie) (A xA : Option Addr) (sLen sCap m c : Nat) (olds news : List Value)
    (hs : (Builtin.firstCells ie.size sLen (.slice A sLen sCap)).run P w.drew = .ok olds.toArray w.drew)
    (hx : (Builtin.firstCells ie.size m (.slice xA m c)).run P w.drew = .ok news.toArray w.drew) (hroom : sCap < sLen + m) (hbytes : (sLen + m) * ie.bytes ≤ big) (hlen : sLen + m ≤ big) :
    ∃ (cap : Nat) (rest : Array Value), sLen + m ≤ cap ∧ rest.size = (cap - (sLen + m)) * ie.size ∧
      (Builtin.append_ #[t1, t2] ty #[.slice A sLen sCap, .slice xA m c]).run P w = .ok (.slice (some ⟨w.heap.size, 0, none⟩) (sLen + m) cap) (w.drew.alloc (.cells (olds.toArray ++ news.toArray ++ rest) e)) := by
  have u1 := h1.und
  have u2 := h2.und
  rw [d1] at u1
  rw [d2] at u2
  obtain ⟨x, hi, hz, hsz, hby⟩ := he.inf
  have hfit := growslice_fits (need := sLen + m) (old := sCap) (bytes := ie.bytes) hroom (by simpa [big] using hbytes)
  rw [← hby] at hfit
  have h48 : ¬ (281474976710656 < Builtin.nextslicecap (sLen + m) sCap * x.bytes) := by omega
  have hnr : ¬ (sLen + m ≤ sCap) := by omega
  have h63 : ¬ (9223372036854775807 < ((sLen : Int) + (m : Int))) := by simp only [big] at hlen; omega
  have hzs : ie.z.cells.size = ie.size := by have := he.zero.length; rw [he.size]; simpa using this.symm
  refine ⟨grownCap w (sLen + m) sCap e, Builtin.zeroCells ie.z.cells (grownCap w (sLen + m) sCap e - (sLen + m)), grownCap_ge w _ _ _, by rw [size_zeroCells, hzs], ?_⟩
  rw [← hsz] at hs hx
  simp [Builtin.append_, run_underlying u1, run_underlying u2, sizeOf, typeInfo, zeroValue, hi, hz, Builtin.lenOf, hnr, h63, h48, Question.forced, hs, hx, newRow, grownCap]
  congr 2
  apply Array.ext'
  simp [List.append_assoc]

theorem SlReads.stable {w w' : World} {U U' : Nat → Prop} (hs : w.heap.size ≤ w'.heap.size) (hblk : ∀ b, b < w.heap.size → ¬ U b → w'.heap[b]? = w.heap[b]?) (hU : ∀ b, b < w.heap.size → ¬ U b → ¬ U' b)
    (hc : ∀ a v, w.cell? a = some v → w'.cell? a = some v) {p : Value} {s n : Nat} {f : Nat → List D} (h : SlReads w U p s n f) : SlReads w' U' p s n f := by
  obtain ⟨A, c, rfl, hn, hnc, h⟩ := h
  refine ⟨A, c, rfl, hn, hnc, h.imp id ?_⟩
  rintro ⟨b, o, rfl, h5⟩
  refine ⟨b, o, rfl, fun i j x hi hx => ?_⟩
  obtain ⟨y, hy, hr⟩ := h5 i j x hi hx
  exact ⟨y, hc _ _ hy, hr.stable hs hblk hU⟩

theorem SlReads.drew {w : World} {U : Nat → Prop} {p : Value} {s n : Nat} {f : Nat → List D} (h : SlReads w U p s n f) : SlReads w.drew U p s n f :=
  SlReads.stable (w := w) (w' := w.drew) (Nat.le_refl _) (fun _ _ _ => rfl) (fun _ _ h => h) (fun _ _ h => h) h

theorem SlReads.weaken {w : World} {U U' : Nat → Prop} (hU : ∀ b, U' b → U b) {p : Value} {s n : Nat} {f : Nat → List D} (h : SlReads w U p s n f) : SlReads w U' p s n f :=
  h.stable (Nat.le_refl _) (fun _ _ _ => rfl) (fun _ _ hn hu => hn (hU _ hu)) (fun _ _ h => h)

theorem SlReads.sized {w : World} {U : Nat → Prop} {p : Value} {s s' n : Nat} {f : Nat → List D} (h : SlReads w U p s n f) (he : n = 0 ∨ s = s') : SlReads w U p s' n f := by
  rcases he with rfl | rfl
  · obtain ⟨A, c, rfl, hn, hnc, _⟩ := h
    exact ⟨A, c, rfl, hn, hnc, .inl rfl⟩
  · exact h

/-- What an append lays anew. -/
def appF (n : Nat) (f g : Nat → List D) : Nat → List D := fun i => if i < n then f i else g (i - n)

theorem app_cells {w : World} {U : Nat → Prop} {s n m : Nat} {f g : Nat → List D} {olds news : List Value} (ho : olds.length = n * s)
    (h1 : ∀ (i j : Nat) (x : D), i < n → (f i)[j]? = some x → ∃ y, olds[i * s + j]? = some y ∧ DRep w U x y)
    (h2 : ∀ (i j : Nat) (x : D), i < m → (g i)[j]? = some x → ∃ y, news[i * s + j]? = some y ∧ DRep w U x y) :
    ∀ (i j : Nat) (x : D), i < n + m → (appF n f g i)[j]? = some x → ∃ y, (olds ++ news)[i * s + j]? = some y ∧ DRep w U x y := by
  intro i j x hi hx
  unfold appF at hx
  split at hx
  · rename_i hlt
    obtain ⟨y, hy, hr⟩ := h1 i j x hlt hx
    exact ⟨y, by rw [List.getElem?_append_left (List.getElem?_eq_some_iff.1 hy).1]; exact hy, hr⟩
  · rename_i hge
    obtain ⟨y, hy, hr⟩ := h2 (i - n) j x (by omega) hx
    refine ⟨y, ?_, hr⟩
    have e : i * s = n * s + (i - n) * s := by rw [← Nat.add_mul]; congr 1; omega
    rw [List.getElem?_append_right (by omega), ho, show i * s + j - n * s = (i - n) * s + j by omega]
    exact hy

/-- An append that lays a new array. -/
theorem app_new {w : World} {cx : Cx} {mem : Mem} (hm : MemRep w cx mem) (h1 : TyOK P t1 i1) (d1 : i1.d = .slice e) (h2 : TyOK P t2 i2) {e2 : Nat} (d2 : i2.d = .slice e2) (he : TyOK P e ie)
    {p xp : Value} {n m : Nat} {f g : Nat → List D} (hp : SlReads w cx.U p ie.size n f) (hx : SlReads w cx.U xp ie.size m g) (lf : ∀ i, i < n → (f i).length = ie.size) (lg : ∀ i, i < m → (g i).length = ie.size)
    (hroom : ∀ A n c, p = .slice A n c → c < n + m) (hbytes : (n + m) * ie.bytes ≤ big) (hlen : n + m ≤ big) :
    ∃ v' w' cx', (Builtin.append_ #[t1, t2] ty #[p, xp]).run P w = .ok v' w' ∧ Ext mem.length w cx w' cx' ∧ MemRep w' cx' (mem ++ [some (.arr ie.size (n + m) (appF n f g))]) ∧
      Rep w' cx' (mem.length + 1) (.row mem.length ie.size 0 (n + m)) v' := by
  obtain ⟨olds, lo, ro, _, co⟩ := SlReads.flat (P := P) hp.drew (Nat.le_refl n) lf
  obtain ⟨news, ln, rn, _, cn⟩ := SlReads.flat (P := P) hx.drew (Nat.le_refl m) lg
  obtain ⟨A, c, rfl, _, _, _⟩ := hp
  obtain ⟨xA, xc, rfl, _, _, _⟩ := hx
  obtain ⟨cap, rest, hc, hr, hrun⟩ := run_append_new (ty := ty) w h1 d1 h2 d2 he A xA n c m xc olds news ro rn (hroom A n c rfl) hbytes hlen
  refine ⟨_, _, cx.put mem.length (some (.at w.drew.heap.size 0 cap)), hrun, ?_, ?_, ?_⟩
  · exact (Ext.drew mem.length w cx).trans (fun k pl e => hm.lt e) (hm.drew.ext_push _ cap) (Nat.le_refl _)
  · refine hm.drew.push_arr hc hlen ?_ fun i j x hi hx => ?_
    · simp only [Array.size_append, List.size_toArray, lo, ln, hr]
      rw [← Nat.add_mul, ← Nat.add_mul]
      exact Nat.mul_le_mul_right _ (by omega)
    · obtain ⟨y, hy, hr⟩ := app_cells lo co cn i j x hi hx
      refine ⟨y, ?_, hr⟩
      have hl := (List.getElem?_eq_some_iff.1 hy).1
      rw [Array.getElem?_append_left (by simpa using hl)]
      simpa using hy
  · exact rep_row_new w.drew cx mem _ cap ie.size (n + m) hc
end
end Go.Proofs.Abs
