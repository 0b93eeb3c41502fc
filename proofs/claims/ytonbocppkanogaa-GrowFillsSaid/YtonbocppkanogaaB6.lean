/- A contract over a small memory, in a greater one: the names that the call doesn't know stay as they are. -/
import Derived.Test.YtonbocppkanogaaB5
set_option linter.all false
namespace Go.Proofs.Abs
open Go Go.RowKit

section
variable {w : World} {cx cx0 : Cx} {ks : List Nat} {L L0 : Nat}

theorem le1_in (hμ : ∀ k pl, cx0.μ k = some pl → cx.μ (rn ks k) = some pl) (hU : ∀ b, cx0.U b → cx.U b) {x y : AV} {v : Value} (h : le1 ks L x y) (hr : Rep w cx L0 x v) : Rep w cx0 L y v := by
  unfold le1 at h
  split at h
  · exact .junk _
  · cases hr with
    | d hr => exact .d ((h _ _ _ hr).weaken hU)
  · cases hr with
    | dp cs b o y hn hb hc hrep =>
      refine .dp _ b o y (fun hu => hn (hU b hu)) hb (fun j z hz => ?_) (fun j z hz => ?_)
      · obtain ⟨z', hz', _⟩ := h j z hz
        exact hc j z' hz'
      · obtain ⟨z', hz', e⟩ := h j z hz
        exact (e _ _ _ (hrep j z' hz')).weaken hU
  · obtain ⟨⟨rfl, rfl⟩, hk⟩ := h
    cases hr with
    | own k off v _ h1 hv => exact .own _ _ _ hk h1 fun b o c e => hv b o c (hμ _ _ e)
  · obtain ⟨⟨rfl, rfl, rfl, rfl⟩, hk⟩ := h
    cases hr with
    | ownE k s i j v _ h1 hv => exact .ownE _ _ _ _ _ hk h1 fun b o c e => hv b o c (hμ _ _ e)
  · obtain ⟨⟨rfl, rfl, rfl, rfl⟩, hk⟩ := h
    cases hr with
    | row k s st len v _ h1 hv h0 => exact .row _ _ _ _ _ hk h1 (fun b o c e => hv b o c (hμ _ _ e)) fun e => h0 (hμ _ _ e)
  · exact h.elim

theorem le2_in (hμ : ∀ k pl, cx0.μ k = some pl → cx.μ (rn ks k) = some pl) (hU : ∀ b, cx0.U b → cx.U b) {x y : AV} {v : Value} (h : le2 ks L x y) (hr : Rep w cx L0 x v) : Rep w cx0 L y v := by
  unfold le2 at h
  split at h
  · obtain ⟨h1, h2⟩ := les1_get h
    cases hr with
    | agg _ vs h3 h4 =>
      refine .agg _ _ (by omega) fun j y hy => ?_
      obtain ⟨x, hx, e⟩ := h2 j y hy
      exact le1_in hμ hU e (h4 j x hx)
  · obtain ⟨rfl, ha, hb⟩ := h
    obtain ⟨h1, h2⟩ := les1_get ha
    obtain ⟨g1, g2⟩ := les1_get hb
    cases hr with
    | fn _ _ _ us vs h3 h4 h5 h6 =>
      refine .fn _ _ _ _ _ (by omega) (by omega) (fun j y hy => ?_) (fun j y hy => ?_)
      · obtain ⟨x, hx, e⟩ := h2 j y hy
        exact le1_in hμ hU e (h5 j x hx)
      · obtain ⟨x, hx, e⟩ := g2 j y hy
        exact le1_in hμ hU e (h6 j x hx)
  · exact le1_in hμ hU h hr

theorem le3_in (hμ : ∀ k pl, cx0.μ k = some pl → cx.μ (rn ks k) = some pl) (hU : ∀ b, cx0.U b → cx.U b) {x y : AV} {v : Value} (h : AVle ks L x y) (hr : Rep w cx L0 x v) : Rep w cx0 L y v := by
  unfold AVle at h
  split at h
  · obtain ⟨h1, h2⟩ := les2_get h
    cases hr with
    | tup _ vs h3 h4 =>
      refine .tup _ _ (by omega) fun j y hy => ?_
      obtain ⟨x, hx, e⟩ := h2 j y hy
      exact le2_in hμ hU e (h4 j x hx)
  · exact le2_in hμ hU h hr
end

/-! ### Under other names -/

def ren1 (ks : List Nat) : AV → AV
  | .own k o => .own (rn ks k) o
  | .ownE k s i j => .ownE (rn ks k) s i j
  | .row k s st len => .row (rn ks k) s st len
  | .d x => .d x
  | .dp cs => .dp cs
  | _ => .junk
def rens1 (ks : List Nat) : List AV → List AV
  | [] => []
  | x :: r => ren1 ks x :: rens1 ks r
def ren2 (ks : List Nat) : AV → AV
  | .agg xs => .agg (rens1 ks xs)
  | .fn f a b => .fn f (rens1 ks a) (rens1 ks b)
  | x => ren1 ks x
def rens2 (ks : List Nat) : List AV → List AV
  | [] => []
  | x :: r => ren2 ks x :: rens2 ks r
def ren3 (ks : List Nat) : AV → AV
  | .tup xs => .tup (rens2 ks xs)
  | x => ren2 ks x
def renB (ks : List Nat) : Blk → Blk
  | .cells cs => .cells (rens2 ks cs)
  | .arr s n f => .arr s n f
def renO (ks : List Nat) : Option Blk → Option Blk
  | some B => some (renB ks B)
  | none => none
def renM (ks : List Nat) : Mem → Mem
  | [] => []
  | B :: r => renO ks B :: renM ks r

theorem rens1_map (ks : List Nat) : ∀ xs, rens1 ks xs = xs.map (ren1 ks)
  | [] => rfl
  | x :: r => by rw [rens1, rens1_map ks r]; rfl
theorem rens2_map (ks : List Nat) : ∀ xs, rens2 ks xs = xs.map (ren2 ks)
  | [] => rfl
  | x :: r => by rw [rens2, rens2_map ks r]; rfl
theorem renM_map (ks : List Nat) : ∀ m, renM ks m = m.map (renO ks)
  | [] => rfl
  | x :: r => by rw [renM, renM_map ks r]; rfl

section
variable {w : World} {cx cx0 : Cx} {ks : List Nat} {L L0 : Nat}

theorem ren1_rep (hμ : ∀ k, k < L0 → cx.μ (rn ks k) = cx0.μ k) (hU : ∀ b, cx.U b → cx0.U b) (hL : ∀ k, k < L0 → rn ks k < L) {x : AV} {v : Value} (hr : Rep w cx0 L0 x v) : Rep w cx L (ren1 ks x) v := by
  cases hr with
  | d h => exact .d (h.weaken hU)
  | dp cs b o y hn hb hc hrep => exact .dp _ b o y (fun hu => hn (hU b hu)) hb hc fun j z hz => (hrep j z hz).weaken hU
  | own k off v hk h1 hv => exact .own _ _ _ (hL k hk) h1 fun b o c e => hv b o c ((hμ k hk).symm.trans e)
  | ownE k s i j v hk h1 hv => exact .ownE _ _ _ _ _ (hL k hk) h1 fun b o c e => hv b o c ((hμ k hk).symm.trans e)
  | row k s st len v hk h1 hv h0 => exact .row _ _ _ _ _ (hL k hk) h1 (fun b o c e => hv b o c ((hμ k hk).symm.trans e)) fun e => h0 ((hμ k hk).symm.trans e)
  | fn => exact .junk _
  | agg => exact .junk _
  | tup => exact .junk _
  | junk => exact .junk _

theorem ren2_rep (hμ : ∀ k, k < L0 → cx.μ (rn ks k) = cx0.μ k) (hU : ∀ b, cx.U b → cx0.U b) (hL : ∀ k, k < L0 → rn ks k < L) {x : AV} {v : Value} (hr : Rep w cx0 L0 x v) : Rep w cx L (ren2 ks x) v := by
  cases hr with
  | agg cs vs h1 h2 =>
    refine .agg _ _ (by simp [rens1_map, h1]) fun j y hy => ?_
    rw [rens1_map, List.getElem?_map, Option.map_eq_some_iff] at hy
    obtain ⟨x, hx, rfl⟩ := hy
    exact ren1_rep hμ hU hL (h2 j x hx)
  | fn f xs ys us vs h1 h2 h3 h4 =>
    refine .fn _ _ _ _ _ (by simp [rens1_map, h1]) (by simp [rens1_map, h2]) (fun j y hy => ?_) (fun j y hy => ?_)
    · rw [rens1_map, List.getElem?_map, Option.map_eq_some_iff] at hy
      obtain ⟨x, hx, rfl⟩ := hy
      exact ren1_rep hμ hU hL (h3 j x hx)
    · rw [rens1_map, List.getElem?_map, Option.map_eq_some_iff] at hy
      obtain ⟨x, hx, rfl⟩ := hy
      exact ren1_rep hμ hU hL (h4 j x hx)
  | d h => exact ren1_rep hμ hU hL (.d h)
  | dp cs b o y hn hb hc hrep => exact ren1_rep hμ hU hL (.dp cs b o y hn hb hc hrep)
  | own k off v hk h1 hv => exact ren1_rep hμ hU hL (.own k off v hk h1 hv)
  | ownE k s i j v hk h1 hv => exact ren1_rep hμ hU hL (.ownE k s i j v hk h1 hv)
  | row k s st len v hk h1 hv h0 => exact ren1_rep hμ hU hL (.row k s st len v hk h1 hv h0)
  | tup => exact .junk _
  | junk => exact .junk _

theorem ren3_rep (hμ : ∀ k, k < L0 → cx.μ (rn ks k) = cx0.μ k) (hU : ∀ b, cx.U b → cx0.U b) (hL : ∀ k, k < L0 → rn ks k < L) {x : AV} {v : Value} (hr : Rep w cx0 L0 x v) : Rep w cx L (ren3 ks x) v := by
  cases hr with
  | tup cs vs h1 h2 =>
    refine .tup _ _ (by simp [rens2_map, h1]) fun j y hy => ?_
    rw [rens2_map, List.getElem?_map, Option.map_eq_some_iff] at hy
    obtain ⟨x, hx, rfl⟩ := hy
    exact ren2_rep hμ hU hL (h2 j x hx)
  | d h => exact ren2_rep hμ hU hL (.d h)
  | dp cs b o y hn hb hc hrep => exact ren2_rep hμ hU hL (.dp cs b o y hn hb hc hrep)
  | own k off v hk h1 hv => exact ren2_rep hμ hU hL (.own k off v hk h1 hv)
  | ownE k s i j v hk h1 hv => exact ren2_rep hμ hU hL (.ownE k s i j v hk h1 hv)
  | row k s st len v hk h1 hv h0 => exact ren2_rep hμ hU hL (.row k s st len v hk h1 hv h0)
  | agg cs vs h1 h2 => exact ren2_rep hμ hU hL (.agg cs vs h1 h2)
  | fn f xs ys us vs h1 h2 h3 h4 => exact ren2_rep hμ hU hL (.fn f xs ys us vs h1 h2 h3 h4)
  | junk => exact .junk _

theorem renB_rep (hμ : ∀ k, k < L0 → cx.μ (rn ks k) = cx0.μ k) (hU : ∀ b, cx.U b → cx0.U b) (hL : ∀ k, k < L0 → rn ks k < L) {k i : Nat} (hk : cx.μ k = cx0.μ i) {B : Blk} (h : BlkRep w cx0 L0 i B) : BlkRep w cx L k (renB ks B) := by
  cases B with
  | cells cs =>
    obtain ⟨b, o, c, arr, t, e1, e2, e3⟩ := h
    refine ⟨b, o, c, arr, t, hk.trans e1, e2, fun j y hy => ?_⟩
    rw [rens2_map, List.getElem?_map, Option.map_eq_some_iff] at hy
    obtain ⟨x, hx, rfl⟩ := hy
    obtain ⟨v, hv, hr⟩ := e3 j x hx
    exact ⟨v, hv, ren2_rep hμ hU hL hr⟩
  | arr s n f =>
    obtain ⟨hn, h⟩ := h
    refine ⟨hn, h.imp (fun ⟨e, e'⟩ => ⟨hk.trans e, e'⟩) ?_⟩
    rintro ⟨b, o, c, arr, t, e1, e2, e3, e4, e5⟩
    refine ⟨b, o, c, arr, t, hk.trans e1, e2, e3, e4, fun i j x hi hx => ?_⟩
    obtain ⟨y, hy, hr⟩ := e5 i j x hi hx
    exact ⟨y, hy, hr.weaken hU⟩
end

/-- Memory behind a framed call. -/
def frameM (kk : List Nat) : List Nat → Mem → Mem → Mem
  | k :: ks, B :: r, M => frameM kk ks r (M.set k (renO kk B))
  | _, r, M => M ++ renM kk r
def upFrom (n : Nat) : Nat → List Nat
  | 0 => []
  | k + 1 => n :: upFrom (n + 1) k
def moreNames : List Nat → Mem → Nat → List Nat
  | _ :: ks, _ :: r, n => moreNames ks r n
  | _, r, n => upFrom n r.length
/-- The names behind a framed call. -/
def names2 (ks : List Nat) (m' : Mem) (M : Mem) : List Nat := ks ++ moreNames ks m' M.length

theorem rn_eq : ∀ (ks : List Nat) (i : Nat), rn ks i = ks.getD i 0
  | [], i => by simp [rn]
  | x :: r, 0 => rfl
  | x :: r, i + 1 => by rw [rn, rn_eq r i]; rfl
theorem upFrom_len : ∀ (k n : Nat), (upFrom n k).length = k
  | 0, _ => rfl
  | k + 1, n => by simp [upFrom, upFrom_len k]
theorem upFrom_get : ∀ (k n i : Nat), i < k → (upFrom n k)[i]? = some (n + i)
  | k + 1, n, 0, _ => rfl
  | k + 1, n, i + 1, h => by rw [upFrom, List.getElem?_cons_succ, upFrom_get k _ i (by omega)]; congr 1; omega
theorem moreNames_eq : ∀ (ks : List Nat) (m' : Mem) (n : Nat), ks.length ≤ m'.length → moreNames ks m' n = upFrom n (m'.length - ks.length)
  | [], m', n, _ => by cases m' <;> simp [moreNames]
  | k :: ks, [], n, h => by simp at h
  | k :: ks, B :: m', n, h => by
    rw [moreNames, moreNames_eq ks m' n (by simpa using h)]
    congr 1
    simp
theorem rn_names2 {ks : List Nat} {m' M : Mem} (h : ks.length ≤ m'.length) {i : Nat} (hi : i < m'.length) : rn (names2 ks m' M) i = if i < ks.length then rn ks i else M.length + (i - ks.length) := by
  rw [rn_eq, names2, moreNames_eq _ _ _ h]
  by_cases hk : i < ks.length
  · rw [if_pos hk, rn_eq, List.getD_eq_getElem?_getD, List.getD_eq_getElem?_getD, List.getElem?_append_left hk]
  · rw [if_neg hk, List.getD_eq_getElem?_getD, List.getElem?_append_right (by omega), upFrom_get _ _ _ (by omega)]
    rfl

theorem frameM_get (kk : List Nat) : ∀ (ks : List Nat) (m' M : Mem), ks.length ≤ m'.length → (∀ i, i < ks.length → rn ks i < M.length) → (∀ i j, i < ks.length → j < ks.length → rn ks i = rn ks j → i = j) →
    (frameM kk ks m' M).length = M.length + (m'.length - ks.length) ∧
    (∀ i, i < ks.length → (frameM kk ks m' M)[rn ks i]? = (m'[i]?).map (renO kk)) ∧
    (∀ k, k < M.length → (∀ i, i < ks.length → rn ks i ≠ k) → (frameM kk ks m' M)[k]? = M[k]?) ∧
    (∀ k, M.length ≤ k → (frameM kk ks m' M)[k]? = (m'[ks.length + (k - M.length)]?).map (renO kk))
  | [], m', M, _, _, _ => by
    have e : frameM kk [] m' M = M ++ renM kk m' := by cases m' <;> rfl
    rw [e, renM_map]
    refine ⟨by simp, fun i hi => by simp at hi, fun k hk _ => List.getElem?_append_left hk, fun k hk => ?_⟩
    rw [List.getElem?_append_right hk, List.getElem?_map]
    simp
  | k0 :: ks, [], M, h, _, _ => by simp at h
  | k0 :: ks, B :: m', M, h, hlt, hinj => by
    have hk0 : k0 < M.length := hlt 0 (by simp)
    have hne : ∀ i, i < ks.length → rn ks i ≠ k0 := fun i hi e => by
      have := hinj (i + 1) 0 (by simpa using hi) (by simp) e
      omega
    obtain ⟨g1, g2, g3, g4⟩ := frameM_get kk ks m' (M.set k0 (renO kk B)) (by simpa using h) (fun i hi => by rw [List.length_set]; exact hlt (i + 1) (by simpa using hi))
      (fun i j hi hj e => by have := hinj (i + 1) (j + 1) (by simpa using hi) (by simpa using hj) e; omega)
    rw [List.length_set] at g1 g3 g4
    have e : frameM kk (k0 :: ks) (B :: m') M = frameM kk ks m' (M.set k0 (renO kk B)) := rfl
    rw [e]
    refine ⟨by rw [g1]; simp, fun i hi => ?_, fun k hk hn => ?_, fun k hk => ?_⟩
    · cases i with
      | zero =>
        show (frameM kk ks m' (M.set k0 (renO kk B)))[k0]? = _
        rw [g3 k0 hk0 hne, List.getElem?_set_self hk0]
        rfl
      | succ i =>
        show (frameM kk ks m' (M.set k0 (renO kk B)))[rn ks i]? = _
        rw [g2 i (by simpa using hi)]
        simp
    · rw [g3 k hk fun i hi => hn (i + 1) (by simpa using hi)]
      exact List.getElem?_set_ne (hn 0 (by simp))
    · rw [g4 k hk]
      congr 1
      rw [List.length_cons, show ks.length + 1 + (k - M.length) = (ks.length + (k - M.length)) + 1 by omega, List.getElem?_cons_succ]

def allBelow (n : Nat) : List Nat → Bool
  | [] => true
  | k :: r => match Nat.blt k n with
    | true => allBelow n r
    | false => false
theorem allBelow_rn {n : Nat} : ∀ {ks : List Nat}, allBelow n ks = true → ∀ i, i < ks.length → rn ks i < n
  | k :: r, h, i, hi => by
    unfold allBelow at h
    split at h
    · rename_i hk
      cases i with
      | zero => rw [Nat.blt_eq] at hk; exact hk
      | succ i => exact allBelow_rn h i (by simpa using hi)
    · cases h

open Classical in
/-- The small name of a name. -/
noncomputable def org (ks : List Nat) (n : Nat) (k : Nat) : Option Nat :=
  if k < n then (if h : ∃ i, i < ks.length ∧ rn ks i = k then some h.choose else none) else some (ks.length + (k - n))

section
variable {ks : List Nat} {n : Nat}
theorem org_low {k i : Nat} (h : org ks n k = some i) (hk : k < n) : i < ks.length ∧ rn ks i = k := by
  unfold org at h
  rw [if_pos hk] at h
  split at h
  · rename_i hex
    injection h with h
    subst h
    exact hex.choose_spec
  · cases h
theorem org_high {k i : Nat} (h : org ks n k = some i) (hk : ¬ k < n) : i = ks.length + (k - n) := by
  unfold org at h
  rw [if_neg hk] at h
  injection h with h
  exact h.symm
theorem org_none {k : Nat} (h : org ks n k = none) : k < n ∧ ∀ i, i < ks.length → rn ks i ≠ k := by
  unfold org at h
  split at h
  · rename_i hk
    split at h
    · cases h
    · rename_i hex
      exact ⟨hk, fun i hi e => hex ⟨i, hi, e⟩⟩
  · cases h
theorem org_rn (hlt : ∀ i, i < ks.length → rn ks i < n) (hinj : ∀ i j, i < ks.length → j < ks.length → rn ks i = rn ks j → i = j) {i : Nat} (hi : i < ks.length) : org ks n (rn ks i) = some i := by
  cases h : org ks n (rn ks i) with
  | none => exact absurd rfl ((org_none h).2 i hi)
  | some j =>
    obtain ⟨h1, h2⟩ := org_low h (hlt i hi)
    rw [hinj j i h1 hi h2]
theorem org_inj {k k' i : Nat} (h : org ks n k = some i) (h' : org ks n k' = some i) : k = k' := by
  by_cases hk : k < n <;> by_cases hk' : k' < n
  · rw [← (org_low h hk).2, (org_low h' hk').2]
  · have := org_low h hk; have := org_high h' hk'; omega
  · have := org_low h' hk'; have := org_high h hk; omega
  · have := org_high h hk; have := org_high h' hk'; omega
end

/-- What a framed call knows. -/
def Cx.fr (cx : Cx) (ks : List Nat) (m : Mem) : Cx :=
  { μ := (cx.cut ks m).μ, V := fun b => cx.V b ∨ ∃ k o c, cx.μ k = some (.at b o c) ∧ ∀ i B, m[i]? = some (some B) → rn ks i ≠ k }

theorem AC.frame {P : Program} {f : FuncId} {args : List AV} {m : Mem} {r : AV} {m' : Mem} (h : AC P f args m r m') {ks : List Nat} {args' : List AV} {M : Mem} (hn : args'.length = args.length) (hb : allBelow M.length ks = true)
    (hle : StLe 0 ks (argT 0 args') M (argT 0 args) m) : AC P f args' M (ren3 (names2 ks m' M) r) (frameM (names2 ks m' M) ks m' M) := by
  obtain ⟨⟨hkl, hnd, _, _⟩, hle⟩ := hle
  obtain ⟨hT, hM⟩ := lenK_sound hle
  have hB := MemLe_get hM
  have hlt := allBelow_rn hb
  have hinj := fun i j hi hj e => nodupB_rn hnd i j hi hj e
  have hkm : ks.length ≤ m'.length := by have := h.len; omega
  obtain ⟨f1, f2, f3, f4⟩ := frameM_get (names2 ks m' M) ks m' M hkm hlt hinj
  refine ⟨h.go, by rw [f1]; omega, fun w cx vs hm hv => ?_⟩
  have hcut : ∀ k pl, (cx.fr ks m).μ k = some pl → cx.μ (rn ks k) = some pl := fun k pl e => (cut_some e).1
  have hlive : ∀ k pl, (cx.fr ks m).μ k = some pl → k < ks.length ∧ ∃ B, m[k]? = some (some B) := by
    intro k pl e
    obtain ⟨B, hB⟩ := (cut_some e).2
    exact ⟨by rw [hkl]; exact (List.getElem?_eq_some_iff.1 hB).1, B, hB⟩
  have hUin : ∀ b, (cx.fr ks m).U b → cx.U b := by
    rintro b ((hv | ⟨k, o, c, e, _⟩) | ⟨k, o, c, e⟩)
    · exact .inl hv
    · exact .inr ⟨k, o, c, e⟩
    · exact .inr ⟨_, o, c, hcut _ _ e⟩
  have hold : ∀ k b o c, cx.μ k = some (.at b o c) → b < w.heap.size := by
    intro k b o c e
    obtain ⟨B, hB⟩ := hm.live k _ e
    exact (hm.blk k B hB).lt e
  have hm0 : MemRep w (cx.fr ks m) m := by
    refine ⟨fun k B' hk => ?_, fun k pl e => (cut_some e).2, fun k k' b o c o' c' e e' => ?_, fun k b o c e => ?_, ?_⟩
    · obtain ⟨B, hk', hle⟩ := hB k B' hk
      rw [Nat.zero_add] at hk'
      have hr := hm.blk _ B hk'
      have hμ : (cx.fr ks m).μ k = cx.μ (rn ks k) := by unfold Cx.fr Cx.cut; simp only [hk]
      cases B with
      | cells xs =>
        cases B' with
        | arr => exact hle.elim
        | cells ys =>
          obtain ⟨b, o, c, arr, t, e1, e2, e3⟩ := hr
          refine ⟨b, o, c, arr, t, hμ.trans e1, e2, fun j y hy => ?_⟩
          obtain ⟨x, hx, e⟩ := (les2_get hle).2 j y hy
          obtain ⟨v, hv, hr'⟩ := e3 j x hx
          exact ⟨v, hv, le2_in hcut hUin e hr'⟩
      | arr s n f =>
        cases B' with
        | cells => exact hle.elim
        | arr s' n' g =>
          obtain ⟨⟨rfl, rfl⟩, hfg⟩ := hle
          obtain ⟨hn, hr⟩ := hr
          refine ⟨hn, hr.imp (fun ⟨e, e'⟩ => ⟨hμ.trans e, e'⟩) ?_⟩
          rintro ⟨b, o, c, arr, t, e1, e2, e3, e4, e5⟩
          refine ⟨b, o, c, arr, t, hμ.trans e1, e2, e3, e4, fun i j y hi hy => ?_⟩
          obtain ⟨x, hx, e⟩ := hfg i hi j y hy
          obtain ⟨v, hv, hr'⟩ := e5 i j x hi hx
          exact ⟨v, hv, (e _ _ _ hr').weaken hUin⟩
    · exact hinj k k' (hlive k _ e).1 (hlive k' _ e').1 (hm.inj _ _ b o c o' c' (hcut _ _ e) (hcut _ _ e'))
    · rintro (hv | ⟨k', o', c', e', hne⟩)
      · exact hm.apart _ b o c (hcut _ _ e) hv
      · obtain ⟨_, B, hB⟩ := hlive k _ e
        exact hne k B hB (hm.inj _ _ b o c o' c' (hcut _ _ e) e')
    · rintro b (hv | ⟨k, o, c, e, _⟩)
      · exact hm.there b hv
      · exact hold k b o c e
  have hv0 : RepL w (cx.fr ks m) m.length args vs := by
    refine ⟨hv.1.trans hn, fun j x hx => ?_⟩
    have hj := (List.getElem?_eq_some_iff.1 hx).1
    have hl := TmLe_look hT j
    rw [look_argT, look_argT, if_pos (Nat.zero_le _), if_pos (Nat.zero_le _), Nat.sub_zero, hx] at hl
    have hx' := List.getElem?_eq_getElem (l := args') (i := j) (by omega)
    rw [hx'] at hl
    exact le3_in hcut hUin hl (hv.2 j _ hx')
  refine (h.run w (cx.fr ks m) vs hm0 hv0).mono ?_
  rintro e w' ⟨v, he, cx0', hE, hM0, hr⟩
  -- the context behind the call
  let cx' : Cx := { μ := fun k => match org ks M.length k with | some i => cx0'.μ i | none => cx.μ k, V := cx.V }
  have hsome : ∀ {k i}, org ks M.length k = some i → cx'.μ k = cx0'.μ i := by
    intro k i e
    show (match org ks M.length k with | some i => cx0'.μ i | none => cx.μ k) = _
    rw [e]
  have hnone : ∀ {k}, org ks M.length k = none → cx'.μ k = cx.μ k := by
    intro k e
    show (match org ks M.length k with | some i => cx0'.μ i | none => cx.μ k) = _
    rw [e]
  have hV0 : ∀ b, cx.V b → cx0'.V b := fun b hv => by rw [hE.V]; exact .inl hv
  have hout : ∀ k b o c, org ks M.length k = none → cx.μ k = some (.at b o c) → cx0'.V b := by
    intro k b o c e e'
    rw [hE.V]
    exact .inr ⟨k, o, c, e', fun i B hi => (org_none e).2 i (by rw [hkl]; exact (List.getElem?_eq_some_iff.1 hi).1)⟩
  have hUb : ∀ b, cx'.U b → cx0'.U b := by
    rintro b (hv | ⟨k, o, c, e⟩)
    · exact .inl (hV0 b hv)
    · cases ho : org ks M.length k with
      | some i => exact .inr ⟨i, o, c, (hsome ho).symm.trans e⟩
      | none => exact .inl (hout k b o c ho ((hnone ho).symm.trans e))
  have hfrom : ∀ k b o c, (cx.fr ks m).μ k = some (.at b o c) → ∃ q o' c', cx.μ q = some (.at b o' c') := fun k b o c e => ⟨_, o, c, hcut _ _ e⟩
  have hExt : Ext M.length w cx w' cx' := by
    refine ⟨hE.os, hE.tape, hE.output, hE.size, rfl, fun b hb hne => hE.block b hb fun k o c e => hne _ o c (hcut _ _ e), fun k b o c e => ?_, fun k pl hk e => ?_, fun k hk e => ?_⟩
    · cases ho : org ks M.length k with
      | some i =>
        rcases hE.fresh i b o c ((hsome ho).symm.trans e) with ⟨k0, o0, c0, e0⟩ | h1
        · exact .inl ⟨_, o0, c0, hcut _ _ e0⟩
        · exact .inr h1
      | none => exact .inl ⟨k, o, c, (hnone ho).symm.trans e⟩
    · cases ho : org ks M.length k with
      | some i =>
        obtain ⟨hi, rfl⟩ := org_low ho hk
        rw [hsome ho]
        cases hc : (cx.fr ks m).μ i with
        | some pl' =>
          have e2 := hcut _ _ hc
          rw [e] at e2
          injection e2 with e2
          subst e2
          exact hE.keep i _ (by omega) hc
        | none => exact .inr (hE.dead i (by omega) hc)
      | none => rw [hnone ho]; exact .inl e
    · cases ho : org ks M.length k with
      | some i =>
        obtain ⟨hi, rfl⟩ := org_low ho hk
        rw [hsome ho]
        refine hE.dead i (by omega) ?_
        cases hc : (cx.fr ks m).μ i with
        | some pl' => rw [hcut _ _ hc] at e; cases e
        | none => rfl
      | none => rw [hnone ho]; exact e
  have hget : ∀ k, (frameM (names2 ks m' M) ks m' M)[k]? = match org ks M.length k with | some i => (m'[i]?).map (renO (names2 ks m' M)) | none => M[k]? := by
    intro k
    cases ho : org ks M.length k with
    | some i =>
      by_cases hk : k < M.length
      · obtain ⟨hi, rfl⟩ := org_low ho hk
        exact f2 i hi
      · rw [org_high ho hk]
        exact f4 k (by omega)
    | none => exact f3 k (org_none ho).1 (org_none ho).2
  have hrn : ∀ i, i < m'.length → org ks M.length (rn (names2 ks m' M) i) = some i := by
    intro i hi
    rw [rn_names2 hkm hi]
    split
    · exact org_rn hlt hinj ‹_›
    · unfold org
      rw [if_neg (by omega)]
      congr 1
      omega
  have hμ2 : ∀ i, i < m'.length → cx'.μ (rn (names2 ks m' M) i) = cx0'.μ i := fun i hi => hsome (hrn i hi)
  have hL2 : ∀ i, i < m'.length → rn (names2 ks m' M) i < (frameM (names2 ks m' M) ks m' M).length := by
    intro i hi
    rw [rn_names2 hkm hi, f1]
    split
    · have := hlt i ‹_›; omega
    · omega
  refine ⟨v, he, cx', hExt, ⟨fun k B hk => ?_, fun k pl e => ?_, fun k k' b o c o' c' e e' => ?_, fun k b o c e hv => ?_, fun b hv => Nat.lt_of_lt_of_le (hm.there b hv) hE.size⟩, ren3_rep hμ2 hUb hL2 hr⟩
  · rw [hget] at hk
    cases ho : org ks M.length k with
    | some i =>
      rw [ho] at hk
      simp only at hk
      cases hmi : m'[i]? with
      | none => rw [hmi] at hk; cases hk
      | some B0 =>
        rw [hmi] at hk
        cases B0 with
        | none => cases hk
        | some B0 =>
          injection hk with hk
          injection hk with hk
          subst hk
          exact renB_rep hμ2 hUb hL2 (hsome ho) (hM0.blk i B0 hmi)
    | none =>
      rw [ho] at hk
      refine (hm.blk k B hk).ext hExt (by rw [f1]; omega) (hnone ho) fun b o c e => hE.block b (hold k b o c e) fun j o' c' e' => ?_
      exact (org_none ho).2 j (hlive j _ e').1 (hm.inj _ _ b o' c' o c (hcut _ _ e') e)
  · rw [hget]
    cases ho : org ks M.length k with
    | some i =>
      obtain ⟨B, hB⟩ := hM0.live i pl ((hsome ho).symm.trans e)
      exact ⟨renB (names2 ks m' M) B, by simp only; rw [hB]; rfl⟩
    | none => exact hm.live k pl ((hnone ho).symm.trans e)
  · have mix : ∀ {q q' i b o c o' c'}, org ks M.length q = some i → org ks M.length q' = none → cx'.μ q = some (.at b o c) → cx'.μ q' = some (.at b o' c') → False := by
      intro q q' i b o c o' c' h1 h2 e1 e2
      exact hM0.apart i b o c ((hsome h1).symm.trans e1) (hout q' b o' c' h2 ((hnone h2).symm.trans e2))
    cases ho : org ks M.length k with
    | some i =>
      cases ho' : org ks M.length k' with
      | some i' =>
        have := hM0.inj i i' b o c o' c' ((hsome ho).symm.trans e) ((hsome ho').symm.trans e')
        subst this
        exact org_inj ho ho'
      | none => exact (mix ho ho' e e').elim
    | none =>
      cases ho' : org ks M.length k' with
      | some i' => exact (mix ho' ho e' e).elim
      | none => exact hm.inj k k' b o c o' c' ((hnone ho).symm.trans e) ((hnone ho').symm.trans e')
  · cases ho : org ks M.length k with
    | some i => exact hM0.apart i b o c ((hsome ho).symm.trans e) (hV0 b hv)
    | none => exact hm.apart k b o c ((hnone ho).symm.trans e) hv

/-- A contract over a small memory, to be used under these names. -/
def Framed (P : Program) (f : FuncId) (ks : List Nat) (args : List AV) (m : Mem) (r : AV) (m' : Mem) : Prop := ks = ks ∧ AC P f args m r m'
theorem AC.under {P : Program} {f : FuncId} {args : List AV} {m : Mem} {r : AV} {m' : Mem} (h : AC P f args m r m') (ks : List Nat) : Framed P f ks args m r m' := ⟨rfl, h⟩

def sameLen : List AV → List AV → Bool
  | [], [] => true
  | _ :: a, _ :: b => sameLen a b
  | _, _ => false
theorem sameLen_eq : ∀ {a b : List AV}, sameLen a b = true → a.length = b.length
  | [], [], _ => rfl
  | _ :: a, _ :: b, h => by simp [sameLen_eq (a := a) (b := b) h]
  | [], _ :: _, h => by cases h
  | _ :: _, [], h => by cases h

theorem Framed.on {P : Program} {f : FuncId} {ks : List Nat} {args args' : List AV} {m M m' : Mem} {r : AV} {K : AV → Mem → Prop} (h : Framed P f ks args m r m') (hc : (sameLen args' args && allBelow M.length ks) = true)
    (hle : StLe 0 ks (argT 0 args') M (argT 0 args) m) (k : K (ren3 (names2 ks m' M) r) (frameM (names2 ks m' M) ks m' M)) : ∃ r m', AC P f args' M r m' ∧ K r m' := by
  simp only [Bool.and_eq_true] at hc
  exact ⟨_, _, h.2.frame (sameLen_eq hc.1) hc.2 hle, k⟩

/-! ### What a call lets go -/
section
variable {w : World} {cx cx0 : Cx} {m : Mem} {L : Nat}

theorem frz1_gen (hU : ∀ b, cx0.U b → cx.U b) (hm : MemRep w cx m) {x y : AV} (hrow : ∀ k s st len b o c, x = .row k s st len → cx.μ k = some (.at b o c) → ¬ cx0.U b) {v : Value} (h : frz1 m x y) (hr : Rep w cx m.length x v) : Rep w cx0 L y v := by
  unfold frz1 at h
  split at h
  · exact .junk _
  · cases hr with
    | d hr => exact .d ((h _ _ _ hr).weaken hU)
  · cases hr with
    | dp cs b o y hn hb hc hrep =>
      refine .dp _ b o y (fun hu => hn (hU b hu)) hb (fun j z hz => ?_) (fun j z hz => ?_)
      · obtain ⟨z', hz', _⟩ := h j z hz
        exact hc j z' hz'
      · obtain ⟨z', hz', e⟩ := h j z hz
        exact (e _ _ _ (hrep j z' hz')).weaken hU
  · rename_i k s st len t s' n g
    obtain ⟨rfl, h⟩ := h
    obtain ⟨B, hB, h⟩ := blkK_sound h
    cases B with
    | cells => exact h.elim
    | arr s'' N f =>
      obtain ⟨⟨rfl, hle, rfl, hs⟩, hfg⟩ := h
      obtain ⟨hn, hblk⟩ := hm.blk k _ hB
      cases hr with
      | row k s st len v hk h1 hv h0 =>
        rcases hblk with ⟨e, rfl⟩ | ⟨b, o, c, arr, tt, e1, e2, e3, e4, e5⟩
        · obtain ⟨rfl, rfl, A, rfl⟩ := h0 e
          exact .d (.nil _ _ _ _ _ fun h => by cases h)
        · obtain ⟨rfl, hc⟩ := hv b o c e1
          refine .d ?_
          by_cases hz : len = 0
          · subst hz
            exact .nil _ _ _ _ _ fun h => by cases h
          have hss : s'' = s' := hs.resolve_left hz
          subst hss
          have hy : ∀ q : Nat × Nat, ∃ y, ∀ z, q.1 < len → (g q.1)[q.2]? = some z → arr[o + ((st + q.1) * s'' + q.2)]? = some y ∧ DRep w cx0.U z y := by
            intro q
            by_cases hq : q.1 < len
            · cases hz' : (g q.1)[q.2]? with
              | none => exact ⟨undef, by simp⟩
              | some z =>
                obtain ⟨z', hz2, e⟩ := hfg q.1 hq q.2 z hz'
                obtain ⟨y, hy, hr'⟩ := e5 (st + q.1) q.2 z' (by omega) hz2
                exact ⟨y, fun z2 _ e6 => by injection e6 with e6; subst e6; exact ⟨hy, (e _ _ _ hr').weaken hU⟩⟩
            · exact ⟨undef, fun z h => absurd h hq⟩
          obtain ⟨y, hy⟩ := Classical.axiomOfChoice hy
          refine .sl false s'' len g b (o + st * s'') (c - st) (fun i j => y (i, j)) (Nat.le_trans (by omega) hn) (by omega) (fun h => by cases h) (hrow k s'' st len b o c rfl e1) (Array.getElem?_eq_some_iff.1 e2).1 (fun i j z hi hz' => ?_) (fun i j z hi hz' => (hy (i, j) z hi hz').2)
          rw [cell_arr e2, show o + st * s'' + (i * s'' + j) = o + ((st + i) * s'' + j) by rw [Nat.add_mul]; omega]
          exact (hy (i, j) z hi hz').1
  · exact h.elim

/-- No row of these names. -/
def out1 (ks : List Nat) : AV → Bool
  | .row k _ _ _ => notIn k ks
  | _ => true
def outs1 (ks : List Nat) : List AV → Bool
  | [] => true
  | x :: r => match out1 ks x with
    | true => outs1 ks r
    | false => false
def out2 (ks : List Nat) : AV → Bool
  | .agg xs => outs1 ks xs
  | x => out1 ks x
def outs2 (ks : List Nat) : List AV → Bool
  | [] => true
  | x :: r => match out2 ks x with
    | true => outs2 ks r
    | false => false
def out3 (ks : List Nat) : AV → Bool
  | .tup xs => outs2 ks xs
  | x => out2 ks x
theorem outs1_get {ks : List Nat} : ∀ {xs : List AV}, outs1 ks xs = true → ∀ (j : Nat) (x : AV), xs[j]? = some x → out1 ks x = true
  | x :: r, h, j, z, hz => by
    unfold outs1 at h
    split at h
    · rename_i hx
      cases j with
      | zero => simp at hz; subst hz; exact hx
      | succ j => exact outs1_get h j z (by simpa using hz)
    · cases h
theorem outs2_get {ks : List Nat} : ∀ {xs : List AV}, outs2 ks xs = true → ∀ (j : Nat) (x : AV), xs[j]? = some x → out2 ks x = true
  | x :: r, h, j, z, hz => by
    unfold outs2 at h
    split at h
    · rename_i hx
      cases j with
      | zero => simp at hz; subst hz; exact hx
      | succ j => exact outs2_get h j z (by simpa using hz)
    · cases h

variable {ks : List Nat}
theorem frz1_cut (hU : ∀ b, cx0.U b → cx.U b) (hm : MemRep w cx m) (hout : ∀ k b o c, notIn k ks = true → cx.μ k = some (.at b o c) → ¬ cx0.U b) {x y : AV} (ho : out1 ks x = true) {v : Value} (h : frz1 m x y) (hr : Rep w cx m.length x v) : Rep w cx0 L y v :=
  frz1_gen hU hm (fun k s st len b o c e e' => by subst e; exact hout k b o c ho e') h hr
theorem frz2_cut (hU : ∀ b, cx0.U b → cx.U b) (hm : MemRep w cx m) (hout : ∀ k b o c, notIn k ks = true → cx.μ k = some (.at b o c) → ¬ cx0.U b) {x y : AV} (ho : out2 ks x = true) {v : Value} (h : frz2 m x y) (hr : Rep w cx m.length x v) : Rep w cx0 L y v := by
  unfold frz2 at h
  split at h
  · obtain ⟨h1, h2⟩ := frzs1_get h
    cases hr with
    | agg _ vs h3 h4 =>
      refine .agg _ _ (by omega) fun j y hy => ?_
      obtain ⟨x, hx, e⟩ := h2 j y hy
      exact frz1_cut hU hm hout (outs1_get ho j x hx) e (h4 j x hx)
  · rename_i hne
    refine frz1_cut hU hm hout ?_ h hr
    cases x <;> first | exact ho | rfl
theorem frz3_cut (hU : ∀ b, cx0.U b → cx.U b) (hm : MemRep w cx m) (hout : ∀ k b o c, notIn k ks = true → cx.μ k = some (.at b o c) → ¬ cx0.U b) {x y : AV} (ho : out3 ks x = true) {v : Value} (h : Frz m x y) (hr : Rep w cx m.length x v) : Rep w cx0 L y v := by
  unfold Frz at h
  split at h
  · obtain ⟨h1, h2⟩ := frzs2_get h
    cases hr with
    | tup _ vs h3 h4 =>
      refine .tup _ _ (by omega) fun j y hy => ?_
      obtain ⟨x, hx, e⟩ := h2 j y hy
      exact frz2_cut hU hm hout (outs2_get ho j x hx) e (h4 j x hx)
  · refine frz2_cut hU hm hout ?_ h hr
    cases x <;> first | exact ho | rfl
end

/-- A call that turns memory, out of its body; what it lays anew and answers turns no more. -/
theorem AC_ofF {P : Program} {tab : Tab} (ht : TabOK P tab) (hmx : P.follows .mixedOrders = true) {f : FuncId} {fn : Func} {c : Code} (hf : P.funcs[f]? = some fn) (hb : fn.body = some c) (hn : (fn.name != "runtime.NumGoroutine") = true) {args : List AV} {m m' : Mem} {r : AV} (hN : args.length ≤ fn.ntmps)
    (h : cwp P tab fn.ntmps m.length c (endQ tab fn.results.toList fun r1 m1 => ∃ ks, (out3 ks r1 = true ∧ Frz m1 r1 r) ∧ StLe m.length ks [] m1 [] m') (argT 0 args) m) (hl : m.length ≤ m'.length) : AC P f args m r m' := by
  refine ⟨isGo_of hf hb hn, hl, fun w cx vs hm hv => ?_⟩
  refine (calls_body ht hmx hf hb hN h hm hv).mono ?_
  intro e w' ⟨v, he, r1, m1, cx', ⟨ks, ⟨ho, hfz⟩, hst⟩, hE, hM, hl1, hrep⟩
  have hs : StRep 0 [] m1 { tmps := #[], defers := [] } w' cx' := ⟨fun t => .junk _, hM, rfl, rfl⟩
  obtain ⟨g1, g2, g3⟩ := StLe_rep hst hs
  have hkl := hst.1.1
  refine ⟨v, he, _, hE.trans' g2 (Nat.le_refl _), g1.mem, ?_⟩
  refine frz3_cut (ks := ks) cut_U hM (fun k b o c hk e hu => ?_) ho hfz hrep
  rcases hu with hv | ⟨k', o', c', e'⟩
  · exact hM.apart k b o c e hv
  · obtain ⟨h1, B, hB⟩ := cut_some e'
    have hk' : k' < ks.length := by rw [hkl]; exact (List.getElem?_eq_some_iff.1 hB).1
    exact notIn_rn hk k' hk' (hM.inj _ _ b o' c' o c h1 e)
end Go.Proofs.Abs
