/- Appends and copies into arrays of one's own; stores. -/
import Derived.Test.YtonbocppkanogaaA4
set_option linter.all false
namespace Go.Proofs.Abs
open Go Go.RowKit

def splice (arr : Array Value) (p : Nat) (news : List Value) : Array Value := (arr.toList.take p ++ news ++ arr.toList.drop (p + news.length)).toArray

theorem splice_size {arr : Array Value} {p : Nat} {news : List Value} (h : p + news.length ≤ arr.size) : (splice arr p news).size = arr.size := by
  simp [splice]; omega

theorem splice_out {arr : Array Value} {p q : Nat} {news : List Value} (h : p + news.length ≤ arr.size) (hq : q < p ∨ p + news.length ≤ q) : (splice arr p news)[q]? = arr[q]? := by
  unfold splice
  rw [List.getElem?_toArray]
  rcases hq with hq | hq
  · rw [List.append_assoc, List.getElem?_append_left (by simp; omega), List.getElem?_take_of_lt hq]
    simp
  · rw [List.getElem?_append_right (by simp; omega)]
    simp only [List.getElem?_drop, List.length_append, List.length_take, Array.length_toList]
    rw [show p + news.length + (q - (min p arr.size + news.length)) = q by omega]
    simp

theorem splice_in {arr : Array Value} {p q : Nat} {news : List Value} (h : p + news.length ≤ arr.size) (hq : p ≤ q) (hq2 : q < p + news.length) : (splice arr p news)[q]? = news[q - p]? := by
  unfold splice
  rw [List.getElem?_toArray, List.append_assoc, List.getElem?_append_right (by simp; omega)]
  simp only [List.length_take, Array.length_toList]
  rw [show min p arr.size = p by omega, List.getElem?_append_left (by omega)]

/-- What an array holds where some elements are written. -/
def putF (st m : Nat) (f g : Nat → List D) : Nat → List D := fun i => if st ≤ i ∧ i < st + m then g (i - st) else f i

section
variable {P : Program} {w : World} {cx : Cx} {mem : Mem} {t1 t2 e ty : Nat} {i1 i2 ie : TI}

/-- An array of one's own, some of whose elements are written. -/
theorem blk_put (hm : MemRep w cx mem) {k b o c s n st m : Nat} {f g : Nat → List D} {arr : Array Value} {t : TypeId} {news : List Value} (hk : cx.μ k = some (.at b o c)) (hb : w.heap[b]? = some (.cells arr t (0, 0)))
    (hn : n ≤ big) (hc : n ≤ c) (hfit : o + c * s ≤ arr.size) (hf : ∀ i j x, i < n → (f i)[j]? = some x → ∃ y, arr[o + (i * s + j)]? = some y ∧ DRep w cx.U x y)
    (lf : ∀ i, i < n → (f i).length ≤ s) (ln : news.length = m * s) (hg : ∀ (i j : Nat) (x : D), i < m → (g i)[j]? = some x → ∃ y, news[i * s + j]? = some y ∧ DRep w cx.U x y) (hst : st + m ≤ c) :
    BlkRep (w.setRow b (splice arr (o + st * s) news)) cx mem.length k (.arr s n (putF st m f g)) := by
  have hE := hm.ext_poke hk (splice arr (o + st * s) news)
  have hle : o + st * s + news.length ≤ arr.size := by
    have := Nat.mul_le_mul_right s hst
    rw [Nat.add_mul] at this
    omega
  refine ⟨hn, .inr ⟨b, o, c, _, t, hk, setRow_heap w b arr _ t _ hb, hc, by rw [splice_size hle]; exact hfit, fun i j x hi hx => ?_⟩⟩
  unfold putF at hx
  split at hx
  · rename_i h
    obtain ⟨y, hy, hr⟩ := hg (i - st) j x (by omega) hx
    have hl := (List.getElem?_eq_some_iff.1 hy).1
    have e1 : i * s = st * s + (i - st) * s := by rw [← Nat.add_mul]; congr 1; omega
    refine ⟨y, ?_, hr.ext hE⟩
    rw [splice_in hle (by omega) (by omega), show o + (i * s + j) - (o + st * s) = (i - st) * s + j by omega]
    exact hy
  · rename_i h
    obtain ⟨y, hy, hr⟩ := hf i j x hi hx
    have hj : j < s := Nat.lt_of_lt_of_le (List.getElem?_eq_some_iff.1 hx).1 (lf i hi)
    refine ⟨y, ?_, hr.ext hE⟩
    rw [splice_out hle]
    · exact hy
    · rcases Nat.lt_or_ge i st with h1 | h1
      · have := Nat.mul_le_mul_right s (show i + 1 ≤ st from h1)
        rw [Nat.add_mul] at this
        omega
      · have := Nat.mul_le_mul_right s (show st + m ≤ i by omega)
        rw [Nat.add_mul] at this
        omega

theorem app_in (hm : MemRep w cx mem) (h1 : TyOK P t1 i1) (d1 : i1.d = .slice e) (h2 : TyOK P t2 i2) {e2 : Nat} (d2 : i2.d = .slice e2) (he : TyOK P e ie)
    {p xp : Value} {k n st len m : Nat} {f g : Nat → List D} (hk : mem[k]? = some (some (.arr ie.size n f))) (hp : Rep w cx mem.length (.row k ie.size st len) p) (hx : SlReads w cx.U xp ie.size m g)
    (lf : ∀ i, i < n → (f i).length ≤ ie.size) (lg : ∀ i, i < m → (g i).length = ie.size) (hin : st + len + m ≤ n) :
    ∃ v' w', (Builtin.append_ #[t1, t2] ty #[p, xp]).run P w = .ok v' w' ∧ Ext mem.length w cx w' cx ∧ MemRep w' cx (mem.set k (some (.arr ie.size n (putF (st + len) m f g)))) ∧
      Rep w' cx mem.length (.row k ie.size st (len + m)) v' := by
  obtain ⟨news, ln, rn, h1c, cn⟩ := SlReads.flat (P := P) hx (Nat.le_refl m) lg
  obtain ⟨xA, xc, rfl, _, _, _⟩ := hx
  have hB := hm.blk k _ hk
  have hlt := (List.getElem?_eq_some_iff.1 hk).1
  obtain ⟨hn, hB⟩ := hB
  cases hp with
  | row k s st len v hkL hv1 hv h0 =>
    rcases hB with ⟨hv0, rfl⟩ | ⟨b, o, c, arr, t, e1, e2', e3, e4, e5⟩
    · obtain ⟨rfl, rfl, A, rfl⟩ := h0 hv0
      obtain rfl : m = 0 := by omega
      obtain rfl : news = [] := List.eq_nil_of_length_eq_zero (by simpa using ln)
      have hrun := (run_append_fits (ty := ty) w h1 d1 h2 d2 he A xA 0 0 0 xc [] rn (Nat.le_refl _)).1 rfl
      refine ⟨_, w, hrun, Ext.refl _ _ _, hm.reset hlt ⟨hn, .inl ⟨hv0, rfl⟩⟩, ?_⟩
      exact .row _ _ _ _ _ hkL rfl (fun b o c e => by rw [hv0] at e; cases e) (fun _ => ⟨rfl, rfl, A, rfl⟩)
    · obtain ⟨rfl, hc⟩ := hv b o c e1
      have hst : st * ie.size + len * ie.size = (st + len) * ie.size := by rw [Nat.add_mul]
      have hle : o + (st + len) * ie.size + news.length ≤ arr.size := by
        have := Nat.mul_le_mul_right ie.size (show st + len + m ≤ c by omega)
        rw [Nat.add_mul] at this
        omega
      have hrun := (run_append_fits (ty := ty) w h1 d1 h2 d2 he (some ⟨b, o + st * ie.size, none⟩) xA len (c - st) m xc news rn (by omega)).2 b _ arr t rfl e2' (by omega) h1c
      have hw : w.setRow b (arr.toList.take (o + st * ie.size + len * ie.size) ++ news ++ arr.toList.drop (o + st * ie.size + len * ie.size + news.length)).toArray = w.setRow b (splice arr (o + (st + len) * ie.size) news) := by
        unfold splice; rw [Nat.add_assoc, hst]
      rw [hw] at hrun
      refine ⟨_, _, hrun, hm.ext_poke e1 _, hm.poke e1 (blk_put hm e1 e2' hn e3 e4 e5 lf ln cn (by omega)), ?_⟩
      refine .row _ _ _ _ _ hkL rfl (fun b' o' c' e' => ?_) (fun e' => by rw [e1] at e'; cases e')
      rw [e1] at e'
      injection e' with e'
      injection e' with q1 q2 q3
      subst q1; subst q2; subst q3
      exact ⟨rfl, by omega⟩

theorem app_end (hm : MemRep w cx mem) (h1 : TyOK P t1 i1) (d1 : i1.d = .slice e) (h2 : TyOK P t2 i2) {e2 : Nat} (d2 : i2.d = .slice e2) (he : TyOK P e ie)
    {p xp : Value} {k n st len m : Nat} {f g : Nat → List D} (hk : mem[k]? = some (some (.arr ie.size n f))) (hp : Rep w cx mem.length (.row k ie.size st len) p) (hx : SlReads w cx.U xp ie.size m g)
    (lf : ∀ i, i < n → (f i).length = ie.size) (lg : ∀ i, i < m → (g i).length = ie.size) (hend : st + len = n) (hbytes : (len + m) * ie.bytes ≤ big) (hlen : len + m ≤ big) :
    ∃ v' w' cx', (Builtin.append_ #[t1, t2] ty #[p, xp]).run P w = .ok v' w' ∧ Ext mem.length w cx w' cx' ∧
      MemRep w' cx' (mem.set k none ++ [some (.arr ie.size (len + m) (appF len (fun i => f (st + i)) g))]) ∧ Rep w' cx' (mem.length + 1) (.row mem.length ie.size 0 (len + m)) v' := by
  have hB := hm.blk k _ hk
  have hlt := (List.getElem?_eq_some_iff.1 hk).1
  -- the old elements, as a slice that reads
  have hsl : SlReads w cx.U p ie.size len (fun i => f (st + i)) := by
    have h := @sliceK_sound mem (.row k ie.size st len) (fun _ s' n' f' => s' = ie.size ∧ n' = len ∧ f' = fun i => f (st + i)) ?_
    · obtain ⟨rd, s', n', f', ⟨rfl, rfl, rfl⟩, _, h⟩ := h
      exact h w cx mem p hm (fun _ _ => rfl) hp
    · unfold sliceK
      have : ∀ (mm : Mem) (q : Nat) (K : Blk → Prop) (B : Blk), mm[q]? = some (some B) → K B → blkK mm q K := by
        intro mm
        induction mm with
        | nil => intro q K B h; simp at h
        | cons x r ih =>
          intro q K B h hK
          cases q with
          | zero =>
            simp at h
            subst h
            exact hK
          | succ q =>
            simp only [List.getElem?_cons_succ] at h
            cases x <;> exact ih q K B h hK
      exact this mem k _ _ hk ⟨⟨rfl, by omega⟩, rfl, rfl, rfl⟩
  have grow : (∀ A n c, p = .slice A n c → c < n + m) → ∃ v' w' cx', (Builtin.append_ #[t1, t2] ty #[p, xp]).run P w = .ok v' w' ∧ Ext mem.length w cx w' cx' ∧
      MemRep w' cx' (mem.set k none ++ [some (.arr ie.size (len + m) (appF len (fun i => f (st + i)) g))]) ∧ Rep w' cx' (mem.length + 1) (.row mem.length ie.size 0 (len + m)) v' := by
    intro hr
    have hU : ∀ b, (cx.put k none).U b → cx.U b := by
      intro b hb
      rcases hb with hb | ⟨q, o, c, e'⟩
      · exact .inl hb
      · by_cases hq : q = k
        · subst hq; rw [Cx.put_same] at e'; cases e'
        · rw [Cx.put_other _ _ hq] at e'; exact .inr ⟨q, o, c, e'⟩
    obtain ⟨v', w', cx', a1, a2, a3, a4⟩ := app_new (ty := ty) (hm.drop k) h1 d1 h2 d2 he (hsl.weaken hU) (hx.weaken hU) (fun i hi => lf (st + i) (by omega)) lg hr hbytes hlen
    rw [List.length_set] at a2 a4
    exact ⟨v', w', cx', a1, (hm.ext_drop k).trans (fun _ _ e' => hm.lt e') a2 (Nat.le_refl _), a3, a4⟩
  obtain ⟨hn, hB⟩ := hB
  cases hp with
  | row k s st len v hkL hv1 hv h0 =>
    rcases hB with ⟨hv0, rfl⟩ | ⟨b, o, c, arr, t, e1, e2', e3, e4, e5⟩
    · obtain ⟨rfl, rfl, A, rfl⟩ := h0 hv0
      rcases Nat.eq_zero_or_pos m with rfl | hpos
      · obtain ⟨news, ln, rn, h1c, cn⟩ := SlReads.flat (P := P) hx (Nat.le_refl 0) lg
        obtain ⟨xA, xc, rfl, _, _, _⟩ := hx
        obtain rfl : news = [] := List.eq_nil_of_length_eq_zero (by simpa using ln)
        have hrun := (run_append_fits (ty := ty) w h1 d1 h2 d2 he A xA 0 0 0 xc [] rn (Nat.le_refl _)).1 rfl
        refine ⟨_, w, (cx.put k none).put mem.length (some .void), hrun, hm.ext_move hv0 (fun _ _ _ h => by cases h), hm.move hv0 (fun _ _ _ h => by cases h) ⟨hlen, .inl ⟨Cx.put_same _ _ _, rfl⟩⟩, ?_⟩
        exact .row _ _ _ _ _ (Nat.lt_succ_self _) rfl (fun b o c e' => by rw [Cx.put_same] at e'; cases e') (fun _ => ⟨rfl, rfl, A, rfl⟩)
      · exact grow fun A' n' c' e' => by injection e' with _ q2 q3; omega
    · obtain ⟨rfl, hc⟩ := hv b o c e1
      by_cases hroom : len + m ≤ c - st
      · obtain ⟨news, ln, rn, h1c, cn⟩ := SlReads.flat (P := P) hx (Nat.le_refl m) lg
        obtain ⟨xA, xc, rfl, _, _, _⟩ := hx
        have hst : st * ie.size + len * ie.size = (st + len) * ie.size := by rw [Nat.add_mul]
        have hle : o + (st + len) * ie.size + news.length ≤ arr.size := by
          have := Nat.mul_le_mul_right ie.size (show st + len + m ≤ c by omega)
          rw [Nat.add_mul] at this
          omega
        have hrun := (run_append_fits (ty := ty) w h1 d1 h2 d2 he (some ⟨b, o + st * ie.size, none⟩) xA len (c - st) m xc news rn hroom).2 b _ arr t rfl e2' (by omega) h1c
        have hw : w.setRow b (arr.toList.take (o + st * ie.size + len * ie.size) ++ news ++ arr.toList.drop (o + st * ie.size + len * ie.size + news.length)).toArray = w.setRow b (splice arr (o + (st + len) * ie.size) news) := by
          unfold splice; rw [Nat.add_assoc, hst]
        rw [hw] at hrun
        have hE := hm.ext_poke e1 (splice arr (o + (st + len) * ie.size) news)
        have hpk := hm.poke e1 (blk_put hm e1 e2' hn e3 e4 e5 (fun i hi => Nat.le_of_eq (lf i hi)) ln cn (st := st + len) (by omega))
        have hpl : ∀ b' o' c', Place.at b (o + st * ie.size) (c - st) = .at b' o' c' → ∃ o'' c'', Place.at b o c = .at b' o'' c'' := fun b' o' c' h => by
          injection h with h _ _; subst h; exact ⟨o, c, rfl⟩
        have hmv := hpk.move e1 hpl (B := .arr ie.size (len + m) (appF len (fun i => f (st + i)) g)) ?_
        · have hE2 := hpk.ext_move e1 hpl
          simp only [List.length_set, List.set_set] at hmv hE2
          refine ⟨_, _, _, hrun, hE.trans (fun _ _ e' => hm.lt e') hE2 (Nat.le_refl _), hmv, ?_⟩
          refine .row _ _ _ _ _ (Nat.lt_succ_self _) rfl (fun b' o' c' e' => ?_) (fun e' => by rw [Cx.put_same] at e'; cases e')
          rw [Cx.put_same] at e'
          injection e' with e'
          injection e' with q1 q2 q3
          subst q1; subst q2; subst q3
          exact ⟨by simp, by omega⟩
        · have hE2 := hpk.ext_move e1 hpl
          simp only [List.length_set] at hE2 ⊢
          refine ⟨hlen, .inr ⟨b, _, _, _, t, Cx.put_same _ _ _, setRow_heap w b arr _ t _ e2', hroom, ?_, fun i j x hi hx => ?_⟩⟩
          · rw [splice_size hle]
            have := Nat.mul_le_mul_right ie.size (show st + (c - st) ≤ c by omega)
            rw [Nat.add_mul] at this
            omega
          · unfold appF at hx
            split at hx
            · rename_i hlt2
              obtain ⟨y, hy, hr⟩ := e5 (st + i) j x (by omega) hx
              have hj : j < ie.size := by rw [← lf (st + i) (by omega)]; exact (List.getElem?_eq_some_iff.1 hx).1
              refine ⟨y, ?_, (hr.ext hE).ext hE2⟩
              have hq := idx_lt (show i < len from hlt2) hj
              rw [splice_out hle (.inl (by omega)), show o + st * ie.size + (i * ie.size + j) = o + ((st + i) * ie.size + j) by rw [Nat.add_mul]; omega]
              exact hy
            · rename_i hge
              obtain ⟨y, hy, hr⟩ := cn (i - len) j x (by omega) hx
              have hl := (List.getElem?_eq_some_iff.1 hy).1
              have e6 : i * ie.size = len * ie.size + (i - len) * ie.size := by rw [← Nat.add_mul]; congr 1; omega
              refine ⟨y, ?_, (hr.ext hE).ext hE2⟩
              rw [splice_in hle (by omega) (by omega), show o + st * ie.size + (i * ie.size + j) - (o + (st + len) * ie.size) = (i - len) * ie.size + j by omega]
              exact hy
      · exact grow fun A' n' c' e' => by injection e' with _ q2 q3; omega

/-- copy into an array of one's own. -/
theorem copy_in (hm : MemRep w cx mem) (h1 : TyOK P t1 i1) (d1 : i1.d = .slice e) (he : TyOK P e ie)
    {p xp : Value} {k n st len m : Nat} {f g : Nat → List D} (hk : mem[k]? = some (some (.arr ie.size n f))) (hp : Rep w cx mem.length (.row k ie.size st len) p) (hx : SlReads w cx.U xp ie.size m g)
    (lf : ∀ i, i < n → (f i).length ≤ ie.size) (lg : ∀ i, i < m → (g i).length = ie.size) (hin : st + len ≤ n) :
    ∃ w', (Builtin.copy_ #[t1, t2] ty #[p, xp]).run P w = .ok (.int .i64 ((min m len : Nat) : Int)) w' ∧ Ext mem.length w cx w' cx ∧ MemRep w' cx (mem.set k (some (.arr ie.size n (putF st (min m len) f g)))) := by
  obtain ⟨news, ln, rn, h1c, cn⟩ := SlReads.flat (P := P) hx (Nat.min_le_left m len) lg
  obtain ⟨xA, xc, rfl, _, _, _⟩ := hx
  have u1 := h1.run_und w
  rw [d1] at u1
  have hB := hm.blk k _ hk
  have hlt := (List.getElem?_eq_some_iff.1 hk).1
  obtain ⟨hn, hB⟩ := hB
  cases hp with
  | row k s st len v hkL hv1 hv h0 =>
    rcases hB with ⟨hv0, rfl⟩ | ⟨b, o, c, arr, t, e1, e2', e3, e4, e5⟩
    · obtain ⟨rfl, rfl, A, rfl⟩ := h0 hv0
      simp only [Nat.min_zero] at ln rn ⊢
      obtain rfl : news = [] := List.eq_nil_of_length_eq_zero (by simpa using ln)
      refine ⟨w, ?_, Ext.refl _ _ _, hm.reset hlt ⟨hn, .inl ⟨hv0, rfl⟩⟩⟩
      have hz : Nat.min m 0 = 0 := Nat.min_zero m
      cases A <;> simp [Builtin.copy_, u1, he.run_size w, Builtin.lenOf, hz, rn, storeCells, goInt]
    · obtain ⟨rfl, hc⟩ := hv b o c e1
      have hle : o + st * ie.size + news.length ≤ arr.size := by
        have := Nat.mul_le_mul_right ie.size (show st + min m len ≤ c by omega)
        rw [Nat.add_mul] at this
        omega
      have hst := run_storeCells_at P b (o + st * ie.size) t news 0 arr w e2' (by simpa using hle) h1c
      simp only [Nat.add_zero] at hst
      refine ⟨w.setRow b (splice arr (o + st * ie.size) news), ?_, hm.ext_poke e1 _, hm.poke e1 (blk_put hm e1 e2' hn e3 e4 e5 lf ln cn (by omega))⟩
      have hmn : Nat.min m len = min m len := rfl
      simp [Builtin.copy_, u1, he.run_size w, Builtin.lenOf, hmn, rn, hst, goInt, splice]
end
end Go.Proofs.Abs
