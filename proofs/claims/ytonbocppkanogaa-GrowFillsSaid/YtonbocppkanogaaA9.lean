/- One operation's soundness, the other kinds. -/
import Derived.Test.YtonbocppkanogaaA8
set_option linter.all false
namespace Go.Proofs.Abs
open Go Go.RowKit

section
variable {P : Program} {tab : Tab} {o : Oper} {ev : EvK} {evF : Operand → AV} {m : Mem} {KP : List Nat → AV → Prop} {KI : List Nat → AV → Mem → Prop}

theorem liveK_sound {v : AV} {K : List Nat → Prop} (h : liveK m v K) : ∃ rd, K rd ∧ (∀ k, k ∈ rd → ∃ B, m[k]? = some (some B)) ∧ ∀ (w : World) (cx : Cx) (m' : Mem) (p : Value), MemRep w cx m' → (∀ k, k ∈ rd → m'[k]? = m[k]?) → Rep w cx m'.length v p →
    ∃ b o, p = .pointer (some ⟨b, o, none⟩) := by
  cases v with
  | dp cs =>
    refine ⟨[], h, no_rd, fun w cx m' p _ _ hr => ?_⟩
    cases hr with
    | dp cs b o y => exact ⟨b, o, rfl⟩
  | own k off =>
    obtain ⟨B, hB, h⟩ := blkK_sound h
    cases B with
    | arr => exact h.elim
    | cells cs =>
      refine ⟨[k], h, by simpa using ⟨_, hB⟩, fun w cx m' p hm ha hr => ?_⟩
      obtain ⟨b, o, c, arr, t, e1, _⟩ := hm.blk k _ (by rw [ha k (by simp)]; exact hB)
      cases hr with
      | own k off v _ _ hv => exact ⟨b, _, hv b o c e1⟩
  | ownE k s i j =>
    obtain ⟨B, hB, h⟩ := blkK_sound h
    cases B with
    | cells => exact h.elim
    | arr s' n f =>
      obtain ⟨⟨hs, hi⟩, h⟩ := h
      refine ⟨[k], h, by simpa using ⟨_, hB⟩, fun w cx m' p hm ha hr => ?_⟩
      obtain ⟨_, e⟩ := hm.blk k _ (by rw [ha k (by simp)]; exact hB)
      rcases e with ⟨_, e⟩ | ⟨b, o, c, arr, t, e1, _⟩
      · omega
      cases hr with
      | ownE k s i j v _ _ hv => exact ⟨b, _, hv b o c e1⟩
  | d | row | fn | agg | tup | junk => exact h.elim

theorem run_fieldAt {t : Nat} {i : TI} (hT : TyOK P t i) {f off s : Nat} (hf : i.fields[f]? = some (off, s)) (w : World) (b o : Nat) :
    (Instr.fieldAt t (.pointer (some ⟨b, o, none⟩)) f).run P w = .ok (.pointer (some ⟨b, o + off, none⟩)) w := by
  have hu := hT.run_und w
  have hF := hT.fields
  cases hd : i.d with
  | struct fs =>
    rw [hd] at hu hF
    have key : ∀ (l : List Field) (pl : List (Nat × Nat)) (q : Nat), FieldsOK P l pl → pl[q]? = some (off, s) → ∃ x, l[q]? = some x ∧ x.offset = off ∧ s ≠ 0 ∧ (P.info? x.type).map (·.size) = some s := by
      intro l
      induction l with
      | nil => intro pl q h hq; cases pl with
        | nil => simp at hq
        | cons => exact h.elim
      | cons x l ih =>
        intro pl q h hq
        cases pl with
        | nil => exact h.elim
        | cons p pl =>
          obtain ⟨po, ps⟩ := p
          obtain ⟨⟨h1, h2, h3⟩, h4⟩ := h
          cases q with
          | zero =>
            simp at hq
            obtain ⟨rfl, rfl⟩ := hq
            exact ⟨x, rfl, h1, h2, h3⟩
          | succ q =>
            simp only [List.getElem?_cons_succ] at hq ⊢
            exact ih pl q h4 hq
    obtain ⟨x, hx, ho, hs0, hs⟩ := key fs.toList i.fields f hF hf
    obtain ⟨y, hy, hys⟩ := Option.map_eq_some_iff.1 hs
    have hx' : fs[f]? = some x := by simpa using hx
    subst hys
    subst ho
    simp [Instr.fieldAt, hu, hx', Instr.sureAddr, fieldPlace, sizeOf, typeInfo, hy, hs0, add_plain]
  | _ => rw [hd] at hF; simp only at hF; rw [hF] at hf; simp at hf

theorem elem_slice {t e : Nat} {i : TI} (hT : TyOK P t i) (he : i.elem = some e) : i.d = .slice e := by
  have hel := hT.elem
  rw [he] at hel
  cases hdd : i.d <;> rw [hdd] at hel <;> simp at hel
  rw [hel]

theorem run_indexAt {t e : Nat} {i ie : TI} (hT : TyOK P t i) (he : i.elem = some e) (hE : TyOK P e ie) (w : World) (b o n c : Nat) (k : IntKind) {q : Nat} (hq : q < n) :
    (Instr.indexAt t (.slice (some ⟨b, o, none⟩) n c) (.int k (q : Int))).run P w = .ok (.pointer (some ⟨b, o + q * ie.size, none⟩)) w := by
  have hu := hT.run_und w
  rw [elem_slice hT he] at hu
  have hq' : (0 : Int) ≤ (q : Int) ∧ (q : Int) < (n : Int) := by omega
  simp [Instr.indexAt, asIntOf, hu, hE.run_size w, add_plain]
  omega

variable (hev : ∀ x K, ev x K → K (evF x))
include hev

theorem sound_load (ht : TabOK P tab) {t : Nat} {p : Operand} (ho : o.op = .load t p) (h : tabK tab t fun i => ev p fun v => readK m v i.size fun rd xs => match i.agg with
    | true => KP rd (.agg xs)
    | false => match xs with
      | [x] => KP rd x
      | _ => False) : Sound P o evF m KP KI := by
  obtain ⟨i, hi, h⟩ := tabK_sound h
  have hT := ht t i hi
  obtain ⟨rd, xs, h, hl, hrd, hread⟩ := readK_sound (hev p _ h)
  cases ha : i.agg with
  | true =>
    rw [ha] at h
    refine .inl ⟨rd, _, h, pure_of hrd fun ρ w cx m' hm hag hr => ?_⟩
    obtain ⟨vs, h1, h2⟩ := (run_loadAt hT (hread w cx m' _ hm hag (hr p (by simp [ho, Op.operands]))) hl).1 ha
    exact ⟨_, by simp [execOp, ho, h1], h2⟩
  | false =>
    rw [ha] at h
    simp only at h
    split at h
    · rename_i x
      refine .inl ⟨rd, _, h, pure_of hrd fun ρ w cx m' hm hag hr => ?_⟩
      obtain ⟨v, h1, h2⟩ := (run_loadAt hT (hread w cx m' _ hm hag (hr p (by simp [ho, Op.operands]))) hl).2 ha x rfl
      exact ⟨_, by simp [execOp, ho, h1], h2⟩
    · exact h.elim

theorem sound_store (ht : TabOK P tab) {t : Nat} {p x : Operand} (ho : o.op = .store t p x) (h : tabK tab t fun i => ev p fun pv => ev x fun xv => flatK xv fun new => new.length = i.size ∧ storeK m pv new fun k m' => KI [k] .junk m') : Sound P o evF m KP KI := by
  obtain ⟨i, hi, h⟩ := tabK_sound h
  have hT := ht t i hi
  have h := hev x _ (hev p _ h)
  obtain ⟨new, ⟨hsz, h⟩, hnew⟩ := flatK_sound h
  have hsame : ∀ (k : Nat) (B : Option Blk), m.length ≤ (m.set k B).length ∧ (∀ q, q < m.length → q ∉ [k] → (m.set k B)[q]? = m[q]?) ∧ (∀ q, m.length ≤ q → q < (m.set k B).length → q ∈ [k]) := fun k B =>
    ⟨by simp, fun q _ hq => List.getElem?_set_ne (fun e => hq (by simp [e])), fun q h1 h2 => by simp at h2; omega⟩
  generalize hpe : evF p = pe at h
  cases pe with
  | own k off =>
    obtain ⟨B, hB, h⟩ := blkK_sound h
    cases B with
    | arr => exact h.elim
    | cells cs =>
      obtain ⟨r, h, hfit, hlen, hget⟩ := overK_sound h
      have h := memSetK_sound h
      refine .inr ⟨_, _, _, h, (hsame k _).1, (hsame k _).2.1, (hsame k _).2.2, fun ρ w cx hm hr => ?_⟩
      have hp := hr p (by simp [ho, Op.operands])
      rw [hpe] at hp
      obtain ⟨w', h1, h2, h3⟩ := store_own hm hT hB hp (hnew w cx m.length _ (hr x (by simp [ho, Op.operands]))) hsz hfit hlen hget
      exact Upon.skip (w' := w') (by simp [execOp, ho, h1]) ⟨cx, h2, h3, .junk _⟩
  | ownE k s q j =>
    obtain ⟨B, hB, h⟩ := blkK_sound h
    cases B with
    | cells => exact h.elim
    | arr s' n f =>
      obtain ⟨⟨⟨hs, hq⟩, hf⟩, h⟩ := h
      subst hs
      obtain ⟨nd, hnd, h5⟩ := datK_sound h
      subst hnd
      obtain ⟨r, h6, hfit, hlen, hget⟩ := overK_sound h5
      have h7 := memSetK_sound h6
      refine .inr ⟨_, _, _, h7, (hsame k _).1, (hsame k _).2.1, (hsame k _).2.2, fun ρ w cx hm hr => ?_⟩
      have hp := hr p (by simp [ho, Op.operands])
      rw [hpe] at hp
      obtain ⟨w', h1, h2, h3⟩ := store_elem hm hT hB hp (hnew w cx m.length _ (hr x (by simp [ho, Op.operands]))) (by simpa using hsz) hq hf hfit hlen hget
      exact Upon.skip (w' := w') (by simp [execOp, ho, h1]) ⟨cx, h2, h3, .junk _⟩
  | d | dp | row | fn | agg | tup | junk => exact h.elim

theorem sound_nilCheck {x : Operand} (ho : o.op = .nilCheck x) (h : ev x fun v => match v with
    | .fn (.func _) _ _ => KP [] v
    | _ => liveK m v fun rd => KP rd v) : Sound P o evF m KP KI := by
  have h := hev x _ h
  split at h
  · rename_i g a b hv
    refine .inl ⟨_, _, h, pure_of no_rd fun ρ w cx m' hm _ hr => ⟨ρ x, ?_, ?_⟩⟩
    · have hx := hr x (by simp [ho, Op.operands])
      rw [hv] at hx
      generalize hpx : ρ x = px at hx
      cases hx with
      | fn f xs ys us vs => simp [execOp, ho, hpx]
    · exact hr x (by simp [ho, Op.operands])
  · obtain ⟨rd, h, hrd, hl⟩ := liveK_sound h
    refine .inl ⟨rd, _, h, pure_of hrd fun ρ w cx m' hm hag hr => ⟨ρ x, ?_, hr x (by simp [ho, Op.operands])⟩⟩
    obtain ⟨b, oo, hp⟩ := hl w cx m' _ hm hag (hr x (by simp [ho, Op.operands]))
    simp [execOp, ho, hp]

theorem sound_binOp (ht : TabOK P tab) {op : BinOp} {t yt : Nat} {x y : Operand} (ho : o.op = .binOp op t x y yt) (h : ev x fun a => ev y fun b => binK P tab op t a b fun v => KP [] v) : Sound P o evF m KP KI := by
  have h := hev y _ (hev x _ h)
  have hguard : ∀ (op : BinOp) (a b : Value) (w : World), (∀ xs, a ≠ .agg xs) → a ≠ .nilIface → (eqGuard op t x y a b).run P w = .ok () w := by
    intro op a b w h1 h2
    unfold eqGuard
    cases op <;> cases a <;> first | rfl | exact absurd rfl h2 | exact absurd rfl (h1 _)
  unfold binK at h
  split at h
  · rename_i k a k' b hx hy
    have run : ∀ {v : AV} {vv : Value}, KP [] v → (∀ w cx L, Rep w cx L v vv) → (∀ w, (binOp op t (.int k a) (.int k' b)).run P w = .ok vv w) → Sound P o evF m KP KI := by
      intro v vv hK hv hrun
      refine .inl ⟨_, _, hK, pure_of no_rd fun ρ w cx m' hm _ hr => ⟨vv, ?_, hv _ _ _⟩⟩
      have h1 := rep_int (hx ▸ hr x (by simp [ho, Op.operands]))
      have h2 := rep_int (hy ▸ hr y (by simp [ho, Op.operands]))
      simp [execOp, ho, h1, h2, hguard op (.int k a) (.int k' b) w (by simp) (by simp), hrun w]
    cases op <;> simp only at h
    case add => obtain ⟨rfl, z, rfl, h⟩ := h; exact run h (fun _ _ _ => rep_int_mk _ _ _ _ _) fun w => by simp [binOp, Op.intArith]
    case sub => obtain ⟨rfl, z, rfl, h⟩ := h; exact run h (fun _ _ _ => rep_int_mk _ _ _ _ _) fun w => by simp [binOp, Op.intArith]
    case mul => obtain ⟨rfl, z, rfl, h⟩ := h; exact run h (fun _ _ _ => rep_int_mk _ _ _ _ _) fun w => by simp [binOp, Op.intArith]
    case quo => obtain ⟨⟨rfl, hb⟩, z, rfl, h⟩ := h; exact run h (fun _ _ _ => rep_int_mk _ _ _ _ _) fun w => by simp [binOp, Op.intDiv, hb]
    case rem => obtain ⟨⟨rfl, hb⟩, z, rfl, h⟩ := h; exact run h (fun _ _ _ => rep_int_mk _ _ _ _ _) fun w => by simp [binOp, Op.intDiv, hb]
    case shr => obtain ⟨hb, z, rfl, h⟩ := h; exact run h (fun _ _ _ => rep_int_mk _ _ _ _ _) fun w => by simp [binOp, Op.shift, show ¬ b < 0 by omega]
    case shl => obtain ⟨hb, z, rfl, h⟩ := h; exact run h (fun _ _ _ => rep_int_mk _ _ _ _ _) fun w => by simp [binOp, Op.shift, show ¬ b < 0 by omega]
    case eql => obtain ⟨rfl, h⟩ := h; exact run h (fun _ _ _ => rep_bool_mk _ _ _ _) fun w => by simp [binOp, Op.intCmp]
    case neq => obtain ⟨rfl, h⟩ := h; exact run h (fun _ _ _ => rep_bool_mk _ _ _ _) fun w => by simp [binOp, Op.intCmp]
    case lss => obtain ⟨rfl, h⟩ := h; exact run h (fun _ _ _ => rep_bool_mk _ _ _ _) fun w => by simp [binOp, Op.intCmp]
    case leq => obtain ⟨rfl, h⟩ := h; exact run h (fun _ _ _ => rep_bool_mk _ _ _ _) fun w => by simp [binOp, Op.intCmp]
    case gtr => obtain ⟨rfl, h⟩ := h; exact run h (fun _ _ _ => rep_bool_mk _ _ _ _) fun w => by simp [binOp, Op.intCmp]
    case geq => obtain ⟨rfl, h⟩ := h; exact run h (fun _ _ _ => rep_bool_mk _ _ _ _) fun w => by simp [binOp, Op.intCmp]
    all_goals exact h.elim
  · rename_i a b hx hy
    have run : ∀ {v : AV} {vv : Value}, KP [] v → (∀ w cx L, Rep w cx L v vv) → (∀ w, (binOp op t (.bool a) (.bool b)).run P w = .ok vv w) → Sound P o evF m KP KI := by
      intro v vv hK hv hrun
      refine .inl ⟨_, _, hK, pure_of no_rd fun ρ w cx m' hm _ hr => ⟨vv, ?_, hv _ _ _⟩⟩
      have h1 := rep_bool (hx ▸ hr x (by simp [ho, Op.operands]))
      have h2 := rep_bool (hy ▸ hr y (by simp [ho, Op.operands]))
      simp [execOp, ho, h1, h2, hguard op (.bool a) (.bool b) w (by simp) (by simp), hrun w]
    cases op <;> simp only at h
    case eql =>
      obtain ⟨i, hi, h⟩ := tabK_sound h
      split at h
      · rename_i hd
        refine run h (fun _ _ _ => rep_bool_mk _ _ _ _) fun w => ?_
        have hu := (ht t i hi).und
        rw [hd] at hu
        simp [binOp, Op.equal, Op.maxDepth, run_equalIn_bool' w 9999 t a b hu]
      · exact h.elim
    case neq =>
      obtain ⟨i, hi, h⟩ := tabK_sound h
      split at h
      · rename_i hd
        refine run h (fun _ _ _ => rep_bool_mk _ _ _ _) fun w => ?_
        have hu := (ht t i hi).und
        rw [hd] at hu
        simp [binOp, Op.equal, Op.maxDepth, run_equalIn_bool' w 9999 t a b hu]
      · exact h.elim
    all_goals exact h.elim
  · rename_i xs ys hx hy
    have ints : ∀ {xs : List AV} {K : List Int → Prop}, intsK xs K → ∃ ns, xs = ns.map (aint .i64) ∧ K ns := by
      intro xs
      induction xs with
      | nil => intro K h; exact ⟨[], rfl, h⟩
      | cons x xs ih =>
        intro K h
        unfold intsK at h
        split at h
        · rename_i he; cases he
        · rename_i n r he
          injection he with he1 he2
          subst he1; subst he2
          obtain ⟨ns, h1, h2⟩ := ih h
          exact ⟨n :: ns, by rw [h1]; rfl, h2⟩
        · exact h.elim
    have repA : ∀ {w : World} {cx : Cx} {L : Nat} {ns : List Int} {p : Value}, Rep w cx L (.agg (ns.map (aint .i64))) p → p = .agg (ns.map (Value.int .i64)).toArray := by
      intro w cx L ns p h
      cases h with
      | agg _ vs h1 h2 =>
        congr 1
        apply Array.ext
        · simpa using h1
        · intro j hj hj2
          have hj' : j < ns.length := by simpa using hj2
          have := rep_int (h2 j (aint .i64 ns[j]) (by simp [hj']))
          simpa [hj] using this
    have run : ∀ {v : AV} {vv : Value} {ns ms : List Int}, KP [] v → evF x = .agg (ns.map (aint .i64)) → evF y = .agg (ms.map (aint .i64)) → (∀ w cx L, Rep w cx L v vv) →
        (∀ w, (do eqGuard op t x y (.agg (ns.map (Value.int .i64)).toArray) (.agg (ms.map (Value.int .i64)).toArray); binOp op t (.agg (ns.map (Value.int .i64)).toArray) (.agg (ms.map (Value.int .i64)).toArray)).run P w = .ok vv w) → Sound P o evF m KP KI := by
      intro v vv ns ms hK hx hy hv hrun
      refine .inl ⟨_, _, hK, pure_of no_rd fun ρ w cx m' hm _ hr => ⟨vv, ?_, hv _ _ _⟩⟩
      have h1 := repA (hx ▸ hr x (by simp [ho, Op.operands]))
      have h2 := repA (hy ▸ hr y (by simp [ho, Op.operands]))
      have h3 := hrun w
      simp only [execOp, ho, h1, h2]
      rw [Sem.run_bind, h3]
      rfl
    cases op <;> simp only at h
    case eql =>
      obtain ⟨ns, e1, h5⟩ := ints h
      obtain ⟨ms, e2, ⟨hE, hl⟩, h6⟩ := ints h5
      exact run h6 (by rw [hx, e1]) (by rw [hy, e2]) (fun _ _ _ => rep_bool_mk _ _ _ _) fun w => (hE x y (List.replicate ns.length .i64) ns ms w (by simp) rfl hl.symm).1
    case neq =>
      obtain ⟨ns, e1, h5⟩ := ints h
      obtain ⟨ms, e2, ⟨hE, hl⟩, h6⟩ := ints h5
      exact run h6 (by rw [hx, e1]) (by rw [hy, e2]) (fun _ _ _ => rep_bool_mk _ _ _ _) fun w => (hE x y (List.replicate ns.length .i64) ns ms w (by simp) rfl hl.symm).2
    all_goals exact h.elim
  · exact h.elim

theorem sound_unOp {op : UnOp} {t : Nat} {x : Operand} (ho : o.op = .unOp op t x) (h : match op with
    | .not => ev x fun v => boolK v fun b => KP [] (abool (!b))
    | .neg => ev x fun v => intK v fun k n => ∃ z, k.wrap (0 - n) = z ∧ KP [] (aint k z)
    | _ => False) : Sound P o evF m KP KI := by
  cases op <;> simp only at h
  case not =>
    obtain ⟨b, hb, h⟩ := boolK_sound (hev x _ h)
    refine .inl ⟨_, _, h, pure_of no_rd fun ρ w cx m' hm _ hr => ⟨.bool (!b), ?_, rep_bool_mk _ _ _ _⟩⟩
    have h1 := rep_bool (hb ▸ hr x (by simp [ho, Op.operands]))
    simp [execOp, ho, h1, Op.unary]
  case neg =>
    obtain ⟨k, n, hn, z, rfl, h⟩ := intK_sound (hev x _ h)
    refine .inl ⟨_, _, h, pure_of no_rd fun ρ w cx m' hm _ hr => ⟨.int k (k.wrap (0 - n)), ?_, rep_int_mk _ _ _ _ _⟩⟩
    have h1 := rep_int (hn ▸ hr x (by simp [ho, Op.operands]))
    simp [execOp, ho, h1, Op.unary, Op.intArith]
  all_goals exact h.elim

theorem sound_convert (ht : TabOK P tab) {s d : Nat} {x : Operand} (ho : o.op = .convert s d x) (h : tabK tab s fun _ => tabK tab d fun i => match i.d with
    | .int k => ev x fun v => intK v fun _ n => ∃ z, k.wrap n = z ∧ KP [] (aint k z)
    | _ => False) : Sound P o evF m KP KI := by
  obtain ⟨is, his, h⟩ := tabK_sound h
  obtain ⟨i, hi, h⟩ := tabK_sound h
  have hS := (ht s is his)
  have hT := (ht d i hi)
  split at h
  · rename_i k hd
    obtain ⟨k', n, hn, z, rfl, h⟩ := intK_sound (hev x _ h)
    refine .inl ⟨_, _, h, pure_of no_rd fun ρ w cx m' hm _ hr => ⟨.int k (k.wrap n), ?_, rep_int_mk _ _ _ _ _⟩⟩
    have h1 := rep_int (hn ▸ hr x (by simp [ho, Op.operands]))
    have hu := hT.run_und w
    rw [hd] at hu
    simp [execOp, ho, h1, convert, hS.run_und w, hu, Conv.intToInt]
  · exact h.elim

omit hev in
theorem evsK_sound (hev : ∀ x K, ev x K → K (evF x)) : ∀ {xs : List Operand} {K : List AV → Prop}, evsK ev xs K → K (xs.map evF)
  | [], _, h => h
  | x :: xs, K, h => by
    have h := hev x _ h
    exact evsK_sound hev (xs := xs) (K := fun vs => K (evF x :: vs)) h

omit hev in
theorem repL_map {w : World} {cx : Cx} {L : Nat} {xs : Array Operand} {ρ : Operand → Value} (h : ∀ x, x ∈ xs → Rep w cx L (evF x) (ρ x)) : RepL w cx L (xs.toList.map evF) (xs.map ρ) := by
  refine ⟨by simp, fun j x hx => ?_⟩
  simp only [List.getElem?_map, Option.map_eq_some_iff] at hx
  obtain ⟨q, hq, rfl⟩ := hx
  have hq' : xs[j]? = some q := by simpa using hq
  have hj := (Array.getElem?_eq_some_iff.1 hq').1
  have := h q (Array.mem_of_getElem? hq')
  simpa [Array.getD, hj, (Array.getElem?_eq_some_iff.1 hq').2] using this

theorem sound_makeFunc {fn : Fn} {first captured : Array Operand} (ho : o.op = .makeFunc fn first captured) (h : evsK ev first.toList fun a => evsK ev captured.toList fun b => KP [] (.fn fn a b)) : Sound P o evF m KP KI := by
  have h := evsK_sound hev (evsK_sound hev h)
  refine .inl ⟨_, _, h, pure_of no_rd fun ρ w cx m' hm _ hr => ⟨.func fn (first.map ρ) (captured.map ρ), by simp [execOp, ho, Instr.makeFunc], ?_⟩⟩
  have h1 := repL_map (evF := evF) (ρ := ρ) (xs := first) (w := w) (cx := cx) (L := m'.length) fun x hx => hr x (by simp [ho, Op.operands, hx])
  have h2 := repL_map (evF := evF) (ρ := ρ) (xs := captured) (w := w) (cx := cx) (L := m'.length) fun x hx => hr x (by simp [ho, Op.operands, hx])
  exact .fn _ _ _ _ _ h1.1 h2.1 h1.2 h2.2

theorem sound_makeSlice (ht : TabOK P tab) {t : Nat} {l c : Operand} (ho : o.op = .makeSlice t l c) (h : tabK tab t fun i => match i.elem with
    | some e => tabK tab e fun ie => ev l fun lv => ev c fun cv => intK lv fun _ ln => intK cv fun _ cn => ∃ n q : Nat, (ln = (n : Int) ∧ cn = (q : Int) ∧ n ≤ q ∧ q * ie.bytes ≤ big ∧ q ≤ big ∧ 0 < ie.size) ∧
        lenK m fun k => snocK m (.arr ie.size q (fun _ => ie.zero)) fun m' => KI [k] (.row k ie.size 0 n) m'
    | none => False) : Sound P o evF m KP KI := by
  obtain ⟨i, hi, h⟩ := tabK_sound h
  have hT := ht t i hi
  split at h
  · rename_i e he
    obtain ⟨ie, hie, h⟩ := tabK_sound h
    have hE := ht e ie hie
    have h := hev c _ (hev l _ h)
    obtain ⟨k1, ln, hl, h5⟩ := intK_sound h
    obtain ⟨k2, cn, hc, h6⟩ := intK_sound h5
    obtain ⟨n, q, ⟨rfl, rfl, hnq, hb, hq, _⟩, h7⟩ := h6
    have h8 := snocK_sound (lenK_sound h7)
    refine .inr ⟨_, _, _, h8, snoc_imp fun ρ w cx hm hr => ?_⟩
    have h1 := rep_int (hl ▸ hr l (by simp [ho, Op.operands]))
    have h2 := rep_int (hc ▸ hr c (by simp [ho, Op.operands]))
    obtain ⟨x, hx, hxz, hxs, hxb⟩ := hE.inf
    have hu := hT.und
    rw [elem_slice hT he] at hu
    have hbi : (x.bytes : Int) * (q : Int) ≤ 281474976710656 := by
      rw [hxb]
      have : ((ie.bytes * q : Nat) : Int) ≤ 281474976710656 := by rw [Nat.mul_comm]; simp only [big] at hb; omega
      rwa [Int.natCast_mul] at this
    have hrun := run_make w t e x ie.z hu hx hxz k1 k2 (n : Int) (q : Int) (by omega) (by omega) hbi (by simp only [big] at hq; omega)
    simp only [Int.toNat_natCast] at hrun
    have hzs : ie.z.cells.size = ie.size := by have := hE.zero.length; rw [hE.size]; simpa using this.symm
    refine Upon.value (v := .slice (some ⟨w.heap.size, 0, none⟩) n q) (w' := w.alloc (.cells (madeCells ie.z.cells (q * x.size)) e)) (by simp [execOp, ho, h1, h2, hrun]) ?_
    refine ⟨_, hm.ext_push _ q, hm.push_arr (Nat.le_refl q) hq ?_ fun a b y ha hy => ?_, rep_row_new w cx m _ q ie.size n hnq⟩
    · simp [madeCells, hxs]
    · obtain ⟨v, hv, hr'⟩ := hE.zero.rep w cx.U b y hy
      have hb' : b < ie.size := by
        have := (List.getElem?_eq_some_iff.1 hy).1
        rw [hE.size]; exact this
      have hlt := idx_lt ha hb'
      have hmod : (a * ie.size + b) % ie.size = b := by rw [Nat.mul_comm, Nat.mul_add_mod, Nat.mod_eq_of_lt hb']
      refine ⟨v, ?_, hr'⟩
      have hv' : ie.z.cells[b]? = some v := by simpa using hv
      have hbz : b < ie.z.cells.size := by omega
      have hve : ie.z.cells[b]! = v := by rw [getElem!_pos ie.z.cells b hbz]; exact (Array.getElem?_eq_some_iff.1 hv').2
      simp [madeCells, hxs, hlt, hzs, hmod, hve]
  · exact h.elim

omit hev in
theorem boundK_sound (hev : ∀ x K, ev x K → K (evF x)) {x : Option Operand} {dflt : Nat} {K : Nat → Prop} (h : boundK ev x dflt K) : ∃ n, K n ∧ (x = none → n = dflt) ∧ ∀ q, x = some q → ∃ k, evF q = aint k (n : Int) := by
  cases x with
  | none => exact ⟨dflt, h, fun _ => rfl, by simp⟩
  | some x =>
    obtain ⟨k, z, hz, n, rfl, h⟩ := intK_sound (hev x _ h)
    exact ⟨n, h, by simp, fun q hq => by injection hq with hq; subst hq; exact ⟨k, hz⟩⟩

omit hev in
theorem run_sliceBounds {w : World} {len cap l h q : Nat} {lo hi mx : Option Value} (hm : (mx = none ∧ q = cap) ∨ ∃ k, mx = some (.int k (q : Int)) ∧ q ≤ cap)
    (hh : (hi = none ∧ mx = none ∧ h = len) ∨ ∃ k, hi = some (.int k (h : Int)) ∧ h ≤ q) (hl : (lo = none ∧ l = 0) ∨ ∃ k, lo = some (.int k (l : Int)) ∧ l ≤ h) :
    (Instr.sliceBounds true len cap lo hi mx).run P w = .ok (l, h, q) w := by
  have hb : ∀ (k : IntKind) (a b : Nat) (c : BoundsCode), a ≤ b → (Instr.sliceBound (.int k (a : Int)) b c).run P w = .ok a w := by
    intro k a b c hab
    simp [Instr.sliceBound, asIntOf, hab]
  rcases hm with ⟨rfl, rfl⟩ | ⟨k1, rfl, h1⟩
  · rcases hh with ⟨rfl, _, rfl⟩ | ⟨k2, rfl, h2⟩
    · rcases hl with ⟨rfl, rfl⟩ | ⟨k3, rfl, h3⟩
      · simp [Instr.sliceBounds]
      · simp [Instr.sliceBounds, hb _ _ _ _ h3]
    · rcases hl with ⟨rfl, rfl⟩ | ⟨k3, rfl, h3⟩
      · simp [Instr.sliceBounds, hb _ _ _ _ h2]
      · simp [Instr.sliceBounds, hb _ _ _ _ h2, hb _ _ _ _ h3]
  · rcases hh with ⟨_, h, _⟩ | ⟨k2, rfl, h2⟩
    · cases h
    · rcases hl with ⟨rfl, rfl⟩ | ⟨k3, rfl, h3⟩
      · simp [Instr.sliceBounds, hb _ _ _ _ h1, hb _ _ _ _ h2]
      · simp [Instr.sliceBounds, hb _ _ _ _ h1, hb _ _ _ _ h2, hb _ _ _ _ h3]

omit hev in
/-- A slice of data cut. -/
theorem drep_cut {w : World} {U : Nat → Prop} {t t' : Bool} {s n l h q : Nat} {f : Nat → List D} {A : Option Addr} {c : Nat} (hr : DRep w U (.sl t s n f) (.slice A n c)) (hl : l ≤ h) (hh : h ≤ n) (hq : h ≤ q) (ht : t' = true → q = h) :
    DRep w U (.sl t' s (h - l) (fun i => f (l + i))) (.slice (if q = l then A else A.map (·.add (l * s))) (h - l) (q - l)) := by
  by_cases h0 : h - l = 0
  · rw [h0]
    exact .nil _ _ _ _ _ fun e => by have := ht e; omega
  · have hql : q ≠ l := by omega
    cases hr with
    | nil => omega
    | sl _ _ _ _ b o c y hn hc htt hU hb hcell hrep =>
      simp only [hql, if_false, Option.map_some, add_plain]
      refine .sl t' s (h - l) _ b (o + l * s) (q - l) (fun i j => y (l + i) j) (by omega) (by omega) (fun e => by have := ht e; omega) hU hb (fun i j x hi hx => ?_) (fun i j x hi hx => hrep (l + i) j x (by omega) hx)
      rw [show o + l * s + (i * s + j) = o + ((l + i) * s + j) by rw [Nat.add_mul]; omega]
      exact hcell (l + i) j x (by omega) hx

theorem sound_slice (ht : TabOK P tab) {t : Nat} {x : Operand} {lo hi mx : Option Operand} (ho : o.op = .slice t x lo hi mx) (h : tabK tab t fun i => match i.elem with
    | some e => tabK tab e fun ie => ev x fun v => sliceOpK ev m ie v lo hi mx KP
    | none => False) : Sound P o evF m KP KI := by
  obtain ⟨i, hi', h⟩ := tabK_sound h
  have hT := ht t i hi'
  split at h
  · rename_i e he
    obtain ⟨ie, hie, h⟩ := tabK_sound h
    have hE := ht e ie hie
    have h := hev x _ h
    have hopx : x ∈ o.op.operands := by simp [ho, Op.operands]
    have hoplo : ∀ q, lo = some q → q ∈ o.op.operands := fun q hq => by simp [ho, Op.operands, hq]
    have hophi : ∀ q, hi = some q → q ∈ o.op.operands := fun q hq => by simp [ho, Op.operands, hq]
    have hopmx : ∀ q, mx = some q → q ∈ o.op.operands := fun q hq => by simp [ho, Op.operands, hq]
    have hu := hT.und
    rw [elem_slice hT he] at hu
    unfold sliceOpK at h
    split at h
    · rename_i tt s n f hx
      cases mx with
      | none =>
        obtain ⟨hn, h, hh1, hh2⟩ := boundK_sound hev h
        obtain ⟨l, ⟨⟨⟨hlh, hhn⟩, hs⟩, hK⟩, hl1, hl2⟩ := boundK_sound hev h
        refine .inl ⟨_, _, hK, pure_of no_rd fun ρ w cx m' hm _ hr => ?_⟩
        have hv := hr x hopx
        rw [hx] at hv
        generalize hp : ρ x = p at hv
        cases hv with
        | d hv =>
          have hform : ∃ A c, p = .slice A n c ∧ n ≤ c ∧ (tt = true → c = n) := by
            cases hv with
            | nil _ _ _ A c hc => exact ⟨A, c, rfl, Nat.zero_le _, hc⟩
            | sl _ _ _ _ b o c y _ hc ht' => exact ⟨_, c, rfl, hc, ht'⟩
          obtain ⟨A, c, rfl, hnc, htc⟩ := hform
          have hb := run_sliceBounds (P := P) (w := w) (len := n) (cap := c) (l := l) (h := hn) (q := c) (lo := lo.map ρ) (hi := hi.map ρ) (mx := none) (.inl ⟨rfl, rfl⟩)
            (by
              cases hi with
              | none => exact .inl ⟨rfl, rfl, hh1 rfl⟩
              | some q =>
                obtain ⟨k, hk⟩ := hh2 q rfl
                exact .inr ⟨k, by have := rep_int (hk ▸ hr q (hophi q rfl)); simp [this], by omega⟩)
            (by
              cases lo with
              | none => exact .inl ⟨rfl, hl1 rfl⟩
              | some q =>
                obtain ⟨k, hk⟩ := hl2 q rfl
                exact .inr ⟨k, by have := rep_int (hk ▸ hr q (hoplo q rfl)); simp [this], hlh⟩)
          refine ⟨.slice (if c = l then A else A.map (·.add (l * ie.size))) (hn - l) (c - l), ?_, .d ?_⟩
          · simp [execOp, ho, hp, Instr.sliceAt, Instr.slice, run_underlying hu, hb, hE.run_size w]
          · rcases hs with hs | hs
            · obtain rfl : n = 0 := hs
              have h0 : hn - l = 0 := by omega
              rw [h0]
              refine .nil _ _ _ _ _ fun e' => ?_
              simp only [Bool.and_eq_true] at e'
              have := htc e'.1
              omega
            · rw [← hs]
              refine drep_cut hv hlh hhn (by omega) (fun e' => ?_)
              simp only [Bool.and_eq_true] at e'
              have h1 := htc e'.1
              cases hz : hi with
              | none =>
                have h3 := hh1 hz
                omega
              | some hq =>
                have e2 := e'.2
                rw [hz] at e2
                cases n with
                | zero => omega
                | succ n => cases e2
      | some mq =>
        obtain ⟨hn, h, hh1, hh2⟩ := boundK_sound hev h
        obtain ⟨l, h, hl1, hl2⟩ := boundK_sound hev h
        obtain ⟨q, ⟨⟨⟨hlh, hhn, hqh, hsome⟩, hs⟩, hK⟩, hm1, hm2⟩ := boundK_sound hev h
        subst hqh
        refine .inl ⟨_, _, hK, pure_of no_rd fun ρ w cx m' hm _ hr => ?_⟩
        have hv := hr x hopx
        rw [hx] at hv
        generalize hp : ρ x = p at hv
        cases hv with
        | d hv =>
          have hform : ∃ A c, p = .slice A n c ∧ n ≤ c ∧ (tt = true → c = n) := by
            cases hv with
            | nil _ _ _ A c hc => exact ⟨A, c, rfl, Nat.zero_le _, hc⟩
            | sl _ _ _ _ b o c y _ hc ht' => exact ⟨_, c, rfl, hc, ht'⟩
          obtain ⟨A, c, rfl, hnc, htc⟩ := hform
          obtain ⟨km, hkm⟩ := hm2 mq rfl
          have hmv := rep_int (hkm ▸ hr mq (hopmx mq rfl))
          have hb := run_sliceBounds (P := P) (w := w) (len := n) (cap := c) (l := l) (h := q) (q := q) (lo := lo.map ρ) (hi := hi.map ρ) (mx := some (ρ mq)) (.inr ⟨km, by rw [hmv], by omega⟩)
            (by
              cases hi with
              | none => simp at hsome
              | some q' =>
                obtain ⟨k, hk⟩ := hh2 q' rfl
                exact .inr ⟨k, by have := rep_int (hk ▸ hr q' (hophi q' rfl)); simp [this], Nat.le_refl _⟩)
            (by
              cases lo with
              | none => exact .inl ⟨rfl, hl1 rfl⟩
              | some q' =>
                obtain ⟨k, hk⟩ := hl2 q' rfl
                exact .inr ⟨k, by have := rep_int (hk ▸ hr q' (hoplo q' rfl)); simp [this], hlh⟩)
          refine ⟨.slice (if q = l then A else A.map (·.add (l * ie.size))) (q - l) (q - l), ?_, .d ?_⟩
          · simp [execOp, ho, hp, Instr.sliceAt, Instr.slice, run_underlying hu, hb, hE.run_size w]
          · rcases hs with hs | hs
            · obtain rfl : n = 0 := hs
              have h0 : q - l = 0 := by omega
              rw [h0]
              exact .nil _ _ _ _ _ fun _ => rfl
            · rw [← hs]
              exact drep_cut hv hlh hhn (Nat.le_refl _) (fun _ => rfl)
    · rename_i k s st len hx
      split at h
      · obtain ⟨hn, h, hh1, hh2⟩ := boundK_sound hev h
        obtain ⟨B, hB, h⟩ := blkK_sound h
        cases B with
        | cells => exact h.elim
        | arr s' n f =>
          obtain ⟨⟨hhn, hs, hs'⟩, hK⟩ := h
          refine .inl ⟨_, _, hK, pure_of (by simpa using ⟨_, hB⟩) fun ρ w cx m' hm ha hr => ?_⟩
          have hv := hr x hopx
          rw [hx] at hv
          have hB' : m'[k]? = some (some (.arr s' n f)) := by rw [ha k (by simp)]; exact hB
          obtain ⟨hnb, e5⟩ := hm.blk k _ hB'
          generalize hp : ρ x = p at hv
          cases hv with
          | row k s st len v hkL hv1 hv h0 =>
            have hform : ∃ A c, p = .slice A len c ∧ len ≤ c ∧ ((cx.μ k = some .void ∧ c = 0 ∧ n = 0 ∧ st = 0) ∨ ∃ b o cc, cx.μ k = some (.at b o cc) ∧ A = some ⟨b, o + st * s, none⟩ ∧ c = cc - st ∧ n ≤ cc ∧ st + len ≤ cc) := by
              rcases e5 with ⟨e6, e7⟩ | ⟨b, oo, cc, arr, te, e1, e2, e3, _⟩
              · obtain ⟨rfl, rfl, A, rfl⟩ := h0 e6
                exact ⟨A, 0, rfl, Nat.le_refl _, .inl ⟨e6, rfl, e7, rfl⟩⟩
              · obtain ⟨rfl, hc⟩ := hv b oo cc e1
                exact ⟨_, _, rfl, by omega, .inr ⟨b, oo, cc, e1, rfl, rfl, e3, hc⟩⟩
            obtain ⟨A, c, rfl, hlc, hcase⟩ := hform
            have hhc : hn ≤ c := by
              rcases hcase with ⟨_, h1, h2, h3⟩ | ⟨b, oo, cc, _, _, h1, h2, _⟩ <;> omega
            have hb := run_sliceBounds (P := P) (w := w) (len := len) (cap := c) (l := 0) (h := hn) (q := c) (lo := none) (hi := hi.map ρ) (mx := none) (.inl ⟨rfl, rfl⟩)
              (by
                cases hi with
                | none => exact .inl ⟨rfl, rfl, hh1 rfl⟩
                | some q =>
                  obtain ⟨k, hk⟩ := hh2 q rfl
                  exact .inr ⟨k, by have := rep_int (hk ▸ hr q (hophi q rfl)); simp [this], by omega⟩)
              (.inl ⟨rfl, rfl⟩)
            refine ⟨.slice A hn c, ?_, ?_⟩
            · have hA : (if c = 0 then A else A.map (fun x => x.add (0 * ie.size))) = A := by
                split
                · rfl
                · cases A <;> simp [Addr.add]
              simp only [Nat.zero_mul] at hA
              simp [execOp, ho, hp, Instr.sliceAt, Instr.slice, run_underlying hu, hb, hE.run_size w, hA]
            · refine .row _ _ _ _ _ hkL rfl (fun b' o' c' e' => ?_) (fun e' => ?_)
              · rcases hcase with ⟨hc1, _⟩ | ⟨b, oo, cc, e1, rfl, rfl, e3, e4⟩
                · rw [hc1] at e'; cases e'
                · rw [e1] at e'
                  injection e' with e'
                  injection e' with q1 q2 q3
                  subst q1; subst q2; subst q3
                  exact ⟨rfl, by omega⟩
              · rcases hcase with ⟨hc1, rfl, rfl, rfl⟩ | ⟨b, oo, cc, e1, _⟩
                · exact ⟨by omega, rfl, A, by rw [show hn = 0 by omega]⟩
                · rw [e1] at e'; cases e'
      · exact h.elim
    · exact h.elim
  · exact h.elim
end
end Go.Proofs.Abs
