/- One operation: what is computed of it, and that its run is so in every world that fits. -/
import Derived.Test.YtonbocppkanogaaA6
set_option linter.all false
namespace Go.Proofs.Abs
open Go Go.RowKit

def Upon (P : Program) (o : Oper) (ρ : Operand → Value) (w : World) (R : Value → World → Prop) : Prop :=
  match (execOp ρ o).run P w with
  | .ok (.value v) w' => R v w'
  | .ok .skip w' => R undef w'
  | .ok (.enter f args) w' => Calls P f args w' fun e w'' => ∃ v, e = .returned v ∧ R v w''
  | _ => False

theorem Upon.wp {P : Program} {o : Oper} {a : Act} {w : World} {R : Value → World → Prop} {next : Act → World → Prop} {Q : Exit → Act → World → Prop} (h : Upon P o a.eval w R)
    (hn : ∀ v w', R v w' → next (a.put o.dst v) w') : o.wp P a w next Q := by
  unfold Upon at h
  unfold Oper.wp Oper.upon
  generalize (execOp a.eval o).run P w = r at *
  cases r with
  | ok n w' =>
    cases n with
    | value v => exact hn _ _ h
    | skip => exact hn _ _ h
    | enter f args =>
      refine Calls.mono h fun e w'' he => ?_
      obtain ⟨v, rfl, hr⟩ := he
      exact hn _ _ hr
    | _ => exact h.elim
  | halt x w' => exact h.elim

theorem Upon.value {P : Program} {o : Oper} {ρ : Operand → Value} {w w' : World} {R : Value → World → Prop} {v : Value} (h : (execOp ρ o).run P w = .ok (.value v) w') (hr : R v w') : Upon P o ρ w R := by
  unfold Upon; rw [h]; exact hr

theorem Upon.skip {P : Program} {o : Oper} {ρ : Operand → Value} {w w' : World} {R : Value → World → Prop} (h : (execOp ρ o).run P w = .ok .skip w') (hr : R undef w') : Upon P o ρ w R := by
  unfold Upon; rw [h]; exact hr

/-- It only reads (and lays what nobody tracks): its value is so in whatever memory agrees where it reads. -/
def PureOp (P : Program) (o : Oper) (ev : Operand → AV) (m : Mem) (rd : List Nat) (v : AV) : Prop :=
  (∀ k, k ∈ rd → ∃ B, m[k]? = some (some B)) ∧
  ∀ (ρ : Operand → Value) (w : World) (cx : Cx) (m' : Mem), MemRep w cx m' → (∀ k, k ∈ rd → m'[k]? = m[k]?) → (∀ x, x ∈ o.op.operands → Rep w cx m'.length (ev x) (ρ x)) →
    Upon P o ρ w fun v' w' => Ext m'.length w cx w' cx ∧ MemRep w' cx m' ∧ Rep w' cx m'.length v v'

/-- It turns memory: only the names of wr, and new ones. -/
def ImpOp (P : Program) (o : Oper) (ev : Operand → AV) (m : Mem) (wr : List Nat) (v : AV) (m' : Mem) : Prop :=
  m.length ≤ m'.length ∧ (∀ k, k < m.length → k ∉ wr → m'[k]? = m[k]?) ∧ (∀ k, m.length ≤ k → k < m'.length → k ∈ wr) ∧
  ∀ (ρ : Operand → Value) (w : World) (cx : Cx), MemRep w cx m → (∀ x, x ∈ o.op.operands → Rep w cx m.length (ev x) (ρ x)) →
    Upon P o ρ w fun v' w' => ∃ cx', Ext m.length w cx w' cx' ∧ MemRep w' cx' m' ∧ Rep w' cx' m'.length v v'

def isGo (P : Program) (f : FuncId) : Bool :=
  match P.funcs[f]? with
  | some fn => fn.name != "runtime.NumGoroutine" && fn.body.isSome
  | none => false

def RepL (w : World) (cx : Cx) (L : Nat) (xs : List AV) (vs : Array Value) : Prop := vs.size = xs.length ∧ ∀ (j : Nat) (x : AV), xs[j]? = some x → Rep w cx L x (vs.getD j undef)

/-- A call that turns memory. -/
structure AC (P : Program) (f : FuncId) (args : List AV) (m : Mem) (r : AV) (m' : Mem) : Prop where
  go : isGo P f = true
  len : m.length ≤ m'.length
  run : ∀ (w : World) (cx : Cx) (vs : Array Value), MemRep w cx m → RepL w cx m.length args vs →
    Calls P f vs w fun e w' => ∃ v, e = .returned v ∧ ∃ cx', Ext m.length w cx w' cx' ∧ MemRep w' cx' m' ∧ Rep w' cx' m'.length r v

/-- A call that turns nothing that is tracked. -/
structure PC (P : Program) (f : FuncId) (args : List AV) (r : AV) : Prop where
  go : isGo P f = true
  run : ∀ (w : World) (cx : Cx) (m : Mem) (vs : Array Value), MemRep w cx m → RepL w cx m.length args vs →
    Calls P f vs w fun e w' => ∃ v, e = .returned v ∧ Ext m.length w cx w' cx ∧ MemRep w' cx m ∧ Rep w' cx m.length r v

theorem PC.ac {P : Program} {f : FuncId} {args : List AV} {r : AV} (h : PC P f args r) (m : Mem) : AC P f args m r m :=
  ⟨h.go, Nat.le_refl _, fun w cx vs hm hv => (h.run w cx m vs hm hv).mono fun _ _ ⟨v, e, h1, h2, h3⟩ => ⟨v, e, cx, h1, h2, h3⟩⟩

/-! ### What is computed -/

def isD : AV → Bool
  | .d _ => true
  | _ => false

def AV.imm : AV → Bool
  | .d _ | .dp _ => true
  | .agg cs => cs.all isD
  | .fn _ a b => a.isEmpty && b.isEmpty
  | _ => false

def intK (v : AV) (K : IntKind → Int → Prop) : Prop := match v with | .d (.v (.int k n)) => K k n | _ => False
def boolK (v : AV) (K : Bool → Prop) : Prop := match v with | .d (.v (.bool b)) => K b | _ => False
def tabK (tab : Tab) (t : Nat) (K : TI → Prop) : Prop := match tab t with | some i => K i | none => False
abbrev EvK := Operand → (AV → Prop) → Prop

def evsK (ev : EvK) : List Operand → (List AV → Prop) → Prop
  | [], K => K []
  | x :: r, K => ev x fun v => evsK ev r fun vs => K (v :: vs)

def nthK : List AV → Nat → (AV → Prop) → Prop
  | [], _, _ => False
  | x :: _, 0, K => K x
  | _ :: r, j + 1, K => nthK r j K

def aint (k : IntKind) (n : Int) : AV := .d (.v (.int k n))
def abool (b : Bool) : AV := .d (.v (.bool b))

/-- Equality of structs of so many integers is as the integers'. -/
def EqOK (P : Program) (t : Nat) (n : Nat) : Prop :=
  ∀ (x y : Operand) (ks : List IntKind) (xs ys : List Int) (w : World), ks.length = n → xs.length = n → ys.length = n →
    ((do eqGuard .eql t x y (.agg (xs.map (Value.int .i64)).toArray) (.agg (ys.map (Value.int .i64)).toArray); binOp .eql t (.agg (xs.map (Value.int .i64)).toArray) (.agg (ys.map (Value.int .i64)).toArray)).run P w = .ok (.bool (xs == ys)) w) ∧
    ((do eqGuard .neq t x y (.agg (xs.map (Value.int .i64)).toArray) (.agg (ys.map (Value.int .i64)).toArray); binOp .neq t (.agg (xs.map (Value.int .i64)).toArray) (.agg (ys.map (Value.int .i64)).toArray)).run P w = .ok (.bool (!(xs == ys))) w)

def intsK : List AV → (List Int → Prop) → Prop
  | [], K => K []
  | .d (.v (.int .i64 n)) :: r, K => intsK r fun ns => K (n :: ns)
  | _ :: _, _ => False

def binK (P : Program) (tab : Tab) (op : BinOp) (t : Nat) (a b : AV) (K : AV → Prop) : Prop :=
  match a, b with
  | .d (.v (.int k x)), .d (.v (.int k' y)) =>
    match op with
    | .add => k = k' ∧ ∃ z, k.wrap (x + y) = z ∧ K (aint k z)
    | .sub => k = k' ∧ ∃ z, k.wrap (x - y) = z ∧ K (aint k z)
    | .mul => k = k' ∧ ∃ z, k.wrap (x * y) = z ∧ K (aint k z)
    | .quo => (k = k' ∧ y ≠ 0) ∧ ∃ z, k.wrap (x.tdiv y) = z ∧ K (aint k z)
    | .rem => (k = k' ∧ y ≠ 0) ∧ ∃ z, x.tmod y = z ∧ K (aint k z)
    | .shr => 0 ≤ y ∧ ∃ z, x.fdiv (2 ^ (min y.toNat k.bits)) = z ∧ K (aint k z)
    | .shl => 0 ≤ y ∧ ∃ z, k.wrap (x * 2 ^ (min y.toNat k.bits)) = z ∧ K (aint k z)
    | .eql => k = k' ∧ K (abool (x == y))
    | .neq => k = k' ∧ K (abool (x != y))
    | .lss => k = k' ∧ K (abool (decide (x < y)))
    | .leq => k = k' ∧ K (abool (decide (x ≤ y)))
    | .gtr => k = k' ∧ K (abool (decide (x > y)))
    | .geq => k = k' ∧ K (abool (decide (x ≥ y)))
    | _ => False
  | .d (.v (.bool x)), .d (.v (.bool y)) =>
    match op with
    | .eql => tabK tab t fun i => match i.d with | .bool => K (abool (x == y)) | _ => False
    | .neq => tabK tab t fun i => match i.d with | .bool => K (abool (!(x == y))) | _ => False
    | _ => False
  | .agg xs, .agg ys =>
    match op with
    | .eql => intsK xs fun ns => intsK ys fun ms => (EqOK P t ns.length ∧ ns.length = ms.length) ∧ K (abool (ns == ms))
    | .neq => intsK xs fun ns => intsK ys fun ms => (EqOK P t ns.length ∧ ns.length = ms.length) ∧ K (abool (!(ns == ms)))
    | _ => False
  | _, _ => False

def repK {α : Type} : Nat → List α → (List α → Prop) → Prop
  | 0, _, K => K []
  | n + 1, xs, K => repK n xs fun r => K (xs ++ r)

def storeK (m : Mem) (p : AV) (new : List AV) (K : Nat → Mem → Prop) : Prop :=
  match p with
  | .own k off => blkK m k fun B => match B with
    | .cells cs => overK cs off new fun r => memSetK m k (some (.cells r)) (K k)
    | _ => False
  | .ownE k s q j => blkK m k fun B => match B with
    | .arr s' n f => ((s' = s ∧ q < n) ∧ ∀ i, i < n → (f i).length ≤ s) ∧ datK new fun nd => overK (f q) j nd fun r => memSetK m k (some (.arr s n (setF f q r))) (K k)
    | _ => False
  | _ => False

/-- A pointer that leads somewhere, whatever it leads to. -/
def liveK (m : Mem) (v : AV) (K : List Nat → Prop) : Prop :=
  match v with
  | .dp _ => K []
  | .own k _ => blkK m k fun B => match B with | .cells _ => K [k] | _ => False
  | .ownE k s i _ => blkK m k fun B => match B with | .arr s' n _ => (s' = s ∧ i < n) ∧ K [k] | _ => False
  | _ => False

def boundK (ev : EvK) (x : Option Operand) (dflt : Nat) (K : Nat → Prop) : Prop :=
  match x with
  | none => K dflt
  | some x => ev x fun v => intK v fun _ z => ∃ n : Nat, z = (n : Int) ∧ K n

def appendK (m : Mem) (ie : TI) (base : AV) (src : AV) (KI : List Nat → AV → Mem → Prop) : Prop :=
  sliceK m src fun _ sx mx g => ((mx = 0 ∨ sx = ie.size) ∧ ∀ i, i < mx → (g i).length = ie.size) ∧
  match base with
  | .d (.sl t s n f) => ((t = true ∧ (n = 0 ∨ 0 < mx)) ∧ (n = 0 ∨ s = ie.size) ∧ (∀ i, i < n → (f i).length = ie.size) ∧ (n + mx) * ie.bytes ≤ big ∧ n + mx ≤ big) ∧
      lenK m fun k => snocK m (.arr ie.size (n + mx) (appF n f g)) fun m' => KI [k] (.row k ie.size 0 (n + mx)) m'
  | .row k s st len => blkK m k fun B => match B with
    | .arr s' n f => (s = ie.size ∧ s' = ie.size ∧ ∀ i, i < n → (f i).length = ie.size) ∧
        ((st + len + mx ≤ n ∧ memSetK m k (some (.arr ie.size n (putF (st + len) mx f g))) fun m' => KI [k] (.row k ie.size st (len + mx)) m') ∨
         ((st + len = n ∧ (len + mx) * ie.bytes ≤ big ∧ len + mx ≤ big) ∧ lenK m fun k' => memSetK m k none fun m1 => snocK m1 (.arr ie.size (len + mx) (appF len (fun i => f (st + i)) g)) fun m' => KI [k, k'] (.row k' ie.size 0 (len + mx)) m'))
    | _ => False
  | _ => False

def plusK : Nat → Nat → (Nat → Prop) → Prop
  | q, 0, K => K q
  | q, st + 1, K => K (q + (st + 1))
theorem plusK_sound {q st : Nat} {K : Nat → Prop} (h : plusK q st K) : K (q + st) := by
  cases st <;> exact h

/-- Zeros that are appended to nothing. -/
def roomK (m : Mem) (ie : TI) (base : AV) (src : AV) (KI : List Nat → AV → Mem → Prop) : Prop :=
  match base with
  | .d (.sl t _ n _) => intK src fun _ z => ∃ q : Nat, (z = (q : Int) ∧ t = true ∧ n = 0 ∧ 0 < q ∧ q * ie.bytes ≤ big ∧ q ≤ big ∧ 0 < ie.size) ∧
      lenK m fun k => snocK m (.arr ie.size q (fun _ => ie.zero)) fun m' => KI [k] (.row k ie.size 0 q) m'
  | _ => False

def copyK (m : Mem) (ie : TI) (dst : AV) (src : AV) (KI : List Nat → AV → Mem → Prop) : Prop :=
  sliceK m src fun _ sx mx g => ((mx = 0 ∨ sx = ie.size) ∧ ∀ i, i < mx → (g i).length = ie.size) ∧
  match dst with
  | .row k s st len => blkK m k fun B => match B with
    | .arr s' n f => (s = ie.size ∧ s' = ie.size ∧ st + len ≤ n ∧ ∀ i, i < n → (f i).length ≤ ie.size) ∧
        memSetK m k (some (.arr ie.size n (putF st (min mx len) f g))) fun m' => KI [k] (aint .i64 ((min mx len : Nat) : Int)) m'
    | _ => False
  | _ => False

def builtinK (tab : Tab) (m : Mem) (b : Builtin) (ats : List Nat) (args : List AV) (KP : List Nat → AV → Prop) (KI : List Nat → AV → Mem → Prop) : Prop :=
  match b, ats, args with
  | .len, [t], [v] => tabK tab t fun i => match i.elem with
    | some _ => sliceK m v fun rd _ n _ => KP rd (aint .i64 (n : Int))
    | none => False
  | .cap, [t], [v] => tabK tab t fun i => match i.elem with
    | some _ => match v with
      | .d (.sl tt _ n _) => tt = true ∧ KP [] (aint .i64 (n : Int))
      | _ => False
    | none => False
  | .append, [t1, t2], [s, x] => tabK tab t1 fun i1 => tabK tab t2 fun i2 => match i1.elem, i2.elem with
    | some e, some _ => tabK tab e fun ie => appendK m ie s x KI
    | some e, none => match i2.d with
      | .int _ => tabK tab e fun ie => roomK m ie s x KI
      | _ => False
    | _, _ => False
  | .copy, [t1, _], [s, x] => tabK tab t1 fun i1 => match i1.elem with
    | some e => tabK tab e fun ie => copyK m ie s x KI
    | none => False
  | .max, _, [a, b] => intK a fun k x => intK b fun _ y => KP [] (aint k (if y > x then y else x))
  | .min, _, [a, b] => intK a fun k x => intK b fun _ y => KP [] (aint k (if y < x then y else x))
  | _, _, _ => False

def zB : Nat → Bool
  | 0 => true
  | _ + 1 => false

def sliceOpK (ev : EvK) (m : Mem) (ie : TI) (v : AV) (lo hi mx : Option Operand) (KP : List Nat → AV → Prop) : Prop :=
  match v with
  | .d (.sl t s n f) =>
    match mx with
    | none => boundK ev hi n fun h => boundK ev lo 0 fun l => ((l ≤ h ∧ h ≤ n) ∧ (n = 0 ∨ s = ie.size)) ∧ KP [] (.d (.sl (t && (hi.isNone || zB n)) s (h - l) (fun i => f (l + i))))
    | some _ => boundK ev hi n fun h => boundK ev lo 0 fun l => boundK ev mx n fun q => ((l ≤ h ∧ h ≤ n ∧ q = h ∧ hi.isSome = true) ∧ (n = 0 ∨ s = ie.size)) ∧ KP [] (.d (.sl true s (h - l) (fun i => f (l + i))))
  | .row k s st len =>
    match mx, lo with
    | none, none => boundK ev hi len fun h => blkK m k fun B => match B with
      | .arr s' n _ => (st + h ≤ n ∧ s = ie.size ∧ s' = s) ∧ KP [k] (.row k s st h)
      | _ => False
    | _, _ => False
  | _ => False

def allNames (m : Mem) (m' : Mem) : List Nat := List.range (max m.length m'.length)

/-- One operation. -/
def opK (P : Program) (tab : Tab) (o : Oper) (ev : EvK) (m : Mem) (KP : List Nat → AV → Prop) (KI : List Nat → AV → Mem → Prop) : Prop :=
  match o.op with
  | .move x => ev x fun v => KP [] v
  | .assign x => ev x fun v => KP [] v
  | .pick c a b => ev c fun vc => ev a fun va => ev b fun vb => boolK vc fun t => (t = true → KP [] va) ∧ (t = false → KP [] vb)
  | .alloc e => tabK tab e fun i => takeK AV.d i.size i.zero fun cs => lenK m fun k => snocK m (.cells cs) fun m' => KI [k] (.own k 0) m'
  | .box _ x => ev x fun v => flatK v fun cs => lenK m fun k => snocK m (.cells cs) fun m' => KI [k] (.own k 0) m'
  | .build t parts => tabK tab t fun i => match i.d with
    | .struct _ => takeK AV.d i.size i.zero fun cs => fillK (placeK i.fields) ev parts.toList cs fun cs' => KP [] (.agg cs')
    | _ => False
  | .buildSlice t len parts => tabK tab t fun i => match i.elem with
    | some e => tabK tab e fun ie => (len * ie.size ≤ 16777216 ∧ len ≤ big) ∧ repK len ie.zero fun z => takeK AV.d (len * ie.size) z fun cs => fillK (fun j K => K (j * ie.size) ie.size) ev parts.toList cs fun cs' => datK cs' fun ds =>
        KP [] (.d (.sl true ie.size len (fun q => (ds.drop (q * ie.size)).take ie.size)))
    | none => False
  | .load t p => tabK tab t fun i => ev p fun v => readK m v i.size fun rd xs => match i.agg with
    | true => KP rd (.agg xs)
    | false => match xs with
      | [x] => KP rd x
      | _ => False
  | .store t p x => tabK tab t fun i => ev p fun pv => ev x fun xv => flatK xv fun new => new.length = i.size ∧ storeK m pv new fun k m' => KI [k] .junk m'
  | .nilCheck x => ev x fun v => match v with
    | .fn (.func _) _ _ => KP [] v
    | _ => liveK m v fun rd => KP rd v
  | .binOp op t x y _ => ev x fun a => ev y fun b => binK P tab op t a b fun v => KP [] v
  | .unOp op _ x => match op with
    | .not => ev x fun v => boolK v fun b => KP [] (abool (!b))
    | .neg => ev x fun v => intK v fun k n => ∃ z, k.wrap (0 - n) = z ∧ KP [] (aint k z)
    | _ => False
  | .convert s d x => tabK tab s fun _ => tabK tab d fun i => match i.d with
    | .int k => ev x fun v => intK v fun _ n => ∃ z, k.wrap n = z ∧ KP [] (aint k z)
    | _ => False
  | .makeFunc fn first captured => evsK ev first.toList fun a => evsK ev captured.toList fun b => KP [] (.fn fn a b)
  | .makeSlice t l c => tabK tab t fun i => match i.elem with
    | some e => tabK tab e fun ie => ev l fun lv => ev c fun cv => intK lv fun _ ln => intK cv fun _ cn => ∃ n q : Nat, (ln = (n : Int) ∧ cn = (q : Int) ∧ n ≤ q ∧ q * ie.bytes ≤ big ∧ q ≤ big ∧ 0 < ie.size) ∧
        lenK m fun k => snocK m (.arr ie.size q (fun _ => ie.zero)) fun m' => KI [k] (.row k ie.size 0 n) m'
    | none => False
  | .slice t x lo hi mx => tabK tab t fun i => match i.elem with
    | some e => tabK tab e fun ie => ev x fun v => sliceOpK ev m ie v lo hi mx KP
    | none => False
  | .fieldAddr t x f => tabK tab t fun i => placeK i.fields f fun off _ => ev x fun v => liveK m v fun rd => match v with
    | .own k o => KP rd (.own k (o + off))
    | .ownE k s q j => KP rd (.ownE k s q (j + off))
    | .dp cs => dropK off cs fun r => KP rd (.dp r)
    | _ => False
  | .indexAddr t x ix => tabK tab t fun i => match i.elem with
    | some e => tabK tab e fun ie => ev x fun v => ev ix fun iv => intK iv fun _ z => match v with
      | .d (.sl _ s n f) => ∃ q : Nat, (z = (q : Int) ∧ q < n ∧ s = ie.size) ∧ KP [] (.dp (f q))
      | .row k s st len => blkK m k fun B => match B with
        | .arr s' n _ => ∃ q : Nat, (z = (q : Int) ∧ q < len ∧ st + len ≤ n ∧ s = ie.size ∧ s' = s) ∧ plusK q st fun j => KP [k] (.ownE k s j 0)
        | _ => False
      | _ => False
    | none => False
  | .call c => match c.callee with
    | .builtin b => evsK ev c.args.toList fun args => builtinK tab m b c.argTypes.toList args KP KI
    | .value f => ev f fun fv => match fv with
      | .fn (.func g) a b => evsK ev c.args.toList fun args => match (a ++ args ++ b).all AV.imm with
        | true => (∃ r, PC P g (a ++ args ++ b) r ∧ KP [] r) ∨ ∃ r m', AC P g (a ++ args ++ b) m r m' ∧ KI (allNames m m') r m'
        | false => ∃ r m', AC P g (a ++ args ++ b) m r m' ∧ KI (allNames m m') r m'
      | _ => False
    | .invoke _ _ => False
  | .extract x j => ev x fun v => match v with
    | .tup vs => nthK vs j fun v => KP [] v
    | _ => False
  | _ => False
end Go.Proofs.Abs
