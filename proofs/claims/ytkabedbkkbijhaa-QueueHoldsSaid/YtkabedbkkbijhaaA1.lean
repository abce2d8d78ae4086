/-
  AN ABSTRACT INTERPRETER FOR THE MODEL'S CODE: definitions. (Own work: a weakest precondition over an abstract heap; its soundness is proved in the texts that follow.)
-/
import Derived.RangeFuncIn
import Derived.RangeFuncLeaves
import Derived.LoopNIn
import Derived.Below
import Derived.KernelRfl
namespace Go.AI

/-! ### types, by what the interpreter asks of them -/
inductive UD where
  | bool | int (k : IntKind) | string | struct (fs : List (Nat × TypeId × Bool))
  | array (n : Nat) (e : TypeId) | slice (e : TypeId) | map (k e : TypeId) | pointer (e : TypeId) | func | iface | other
structure TI where
  ud : UD
  size : Nat
  bytes : Nat
  zero : Value
  eqok : Bool
abbrev Tab := TypeId → Option TI
def udOf : TypeDesc → UD
  | .bool => .bool
  | .int k => .int k
  | .string => .string
  | .struct fs => .struct (fs.toList.map fun f => (f.offset, f.type, f.name == "_"))
  | .array n e => .array n e
  | .slice e => .slice e
  | .map k e => .map k e
  | .pointer e => .pointer e
  | .func _ _ _ => .func
  | .interface _ => .iface
  | _ => .other
/-- A value of one cell that holds no address. -/
def simpleV : Value → Bool
  | .bool _ | .int _ _ | .float _ _ | .complex _ _ _ | .string _ | .pointer none | .slice none 0 0 | .map none | .chan none | .nilFunc | .nilIface => true
  | _ => false
def flatV : Value → Bool
  | .agg cs => cs.toList.all simpleV
  | v => simpleV v
def UD.agg : UD → Bool
  | .struct _ | .array _ _ => true
  | _ => false
def Value.isAggV : Value → Bool
  | .agg _ => true
  | _ => false
def tabOf (P : Program) (t : TypeId) : Option TI :=
  match P.info? t, P.underlying t with
  | some I, some d =>
    match I.zero with
    | some z => if flatV z && z.cells.size == I.size && (udOf d).agg == Value.isAggV z && decide (I.bytes ≤ 1048576) then some ⟨udOf d, I.size, I.bytes, z, !(P.stoodInHeld t) && !(P.eqGuardType P.depth t)⟩ else none
    | none => none
  | _, _ => none

/-! ### the abstract heap -/
abbrev Fr := Nat → Value
def Fr.put (fr : Fr) (d : Option Tmp) (v : Value) : Fr :=
  match d with
  | some d => fun i => if i = d then v else fr i
  | none => fr
def ev (fr : Fr) : Operand → Value
  | .tmp t => fr t
  | .const v => v
  | .global g => .pointer (some ⟨g, 0, none⟩)
  | .func f => .func (.func f) #[] #[]
structure XOp where
  dst : Option Tmp
  op : Op
  guard : Option (Tmp × Bool) := none
  chk : List (Option Tmp × Op × Option (Tmp × Bool)) := []
inductive XC where
  | skip
  | region (ops : List XOp)
  | seq (a b : XC)
  | cond (c : Operand) (a b : XC)
  | block (id : Nat) (b : XC)
  | loop (b : XC)
  | exit (id : Nat)
  | ret
  | range (f : Operand) (ps : List Tmp) (assign body : XC)
inductive AX where
  | norm | exit (id : Nat) | ret | panic (v : Value)
structure ALoop where
  st : LoopState
  pend : Option AX
  fr : Fr
  ps : List Tmp
  assign : XC
  body : XC
inductive AObj where
  | row (cs : List Value) (rw : Bool) (sz : Nat)
  | map (es : List (Value × Value)) (bs : List Nat) (clk : Nat)
  | iter (m : Option Nat) (since : Nat) (seen : List Nat) (stepped : Nat)
  | loop (l : ALoop)
  | dead
structure AH where
  n : Nat
  objs : List AObj
def AH.get (h : AH) (b : Nat) : Option AObj := if b < h.n then h.objs[h.n - 1 - b]? else none
def AH.push (h : AH) (o : AObj) : AH := ⟨h.n + 1, o :: h.objs⟩
def AH.set (h : AH) (b : Nat) (o : AObj) : AH := if b < h.n then ⟨h.n, h.objs.set (h.n - 1 - b) o⟩ else h

theorem AH.get_push (h : AH) (o : AObj) (b : Nat) : (h.push o).get b = if b = h.n then some o else h.get b := by
  unfold AH.get AH.push
  dsimp only
  by_cases e : b = h.n
  · subst e; simp
  · by_cases lt : b < h.n
    · have e1 : h.n + 1 - 1 - b = (h.n - 1 - b) + 1 := by omega
      rw [if_pos (by omega), if_neg e, if_pos lt, e1]; rfl
    · rw [if_neg (by omega), if_neg e, if_neg lt]
theorem AH.get_push_new (h : AH) (o : AObj) : (h.push o).get h.n = some o := by rw [AH.get_push, if_pos rfl]
theorem AH.get_lt {h : AH} {b : Nat} {o : AObj} (e : h.get b = some o) : b < h.n := by
  unfold AH.get at e
  by_cases lt : b < h.n
  · exact lt
  · rw [if_neg lt] at e; cases e
theorem AH.get_push_old {h : AH} {b : Nat} {o : AObj} (e : h.get b = some o) (p : AObj) : (h.push p).get b = some o := by
  have := AH.get_lt e
  rw [AH.get_push, if_neg (by omega), e]
theorem AH.get_set {h : AH} {b : Nat} {o : AObj} (e : h.get b = some o) (p : AObj) (c : Nat) : (h.set b p).get c = if c = b then some p else h.get c := by
  have lt := AH.get_lt e
  unfold AH.get at e
  rw [if_pos lt] at e
  have hl : h.n - 1 - b < h.objs.length := (List.getElem?_eq_some_iff.1 e).1
  unfold AH.get AH.set
  rw [if_pos lt]
  dsimp only
  by_cases ec : c = b
  · subst ec; simp [lt, hl]
  · by_cases ltc : c < h.n
    · rw [if_pos ltc, if_neg ec, if_pos ltc, List.getElem?_set_ne (by omega)]
    · rw [if_neg ltc, if_neg ec, if_neg ltc]
@[simp] theorem AH.n_push (h : AH) (o : AObj) : (h.push o).n = h.n + 1 := rfl
@[simp] theorem AH.n_set (h : AH) (b : Nat) (o : AObj) : (h.set b o).n = h.n := by unfold AH.set; split <;> rfl

/-! ### memory -/
def AH.row (h : AH) (a : Addr) : Option (List Value) :=
  match h.get a.block with
  | some (.row cs _ _) => if a.spot.isSome then none else some cs
  | _ => none
def AH.cell (h : AH) (a : Addr) : Option Value := (h.row a).bind (·[a.off]?)
def AH.cells (h : AH) (a : Addr) (n : Nat) : Option (List Value) :=
  (h.row a).bind fun cs => if a.off + n ≤ cs.length then some ((cs.drop a.off).take n) else none
def putAt (cs : List Value) (i : Nat) (vs : List Value) : List Value :=
  match vs with
  | [] => cs
  | v :: r => putAt (cs.set i v) (i + 1) r
def AH.store (h : AH) (a : Addr) (vs : List Value) : Option AH :=
  match h.get a.block with
  | some (.row cs true sz) => if a.spot.isSome then none else if a.off + vs.length ≤ cs.length then some (h.set a.block (.row (putAt cs a.off vs) true sz)) else none
  | _ => none
def notTup : Value → Bool
  | .tuple _ => false
  | _ => true
def pureOf {α : Type} : Sem α → Option α
  | .pure a => some a
  | _ => none
def pureV (s : Sem Value) : Option Value :=
  match s with
  | .pure v => if simpleV v then some v else none
  | _ => none

/-! ### what no one turns any more: a slice by its elements, a place by what lies there -/
def PS (k : Nat) (els : List Value) : Value := .func (.yield 0) #[.int .i64 k] els.toArray
def PP (v : Value) : Value := .func (.yield 0) #[.int .i64 1, v] #[]
def psOf : Value → Option (Nat × List Value)
  | .func (.yield _) p q =>
    match p.toList with
    | [.int _ k] => some (k.toNat, q.toList)
    | _ => none
  | _ => none
def ppOf : Value → Option Value
  | .func (.yield _) p _ => p[1]?
  | _ => none
/-- The same, with no room behind it. -/
def PSC (k : Nat) (els : List Value) : Value := .func (.yield 1) #[.int .i64 k] els.toArray
def clipOf : Value → Bool
  | .func (.yield l) p q => l == 1 && (psOf (.func (.yield l) p q)).isSome
  | _ => false
theorem psOf_PS (k : Nat) (els : List Value) : psOf (PS k els) = some (k, els) := rfl
theorem ppOf_PP (v : Value) : ppOf (PP v) = some v := rfl
def oneCellV : Value → Bool
  | .agg _ | .tuple _ => false
  | _ => true
/-! ### operations -/
inductive AR where
  | val (v : Value) (h : AH)
  | call (f : FuncId) (args : List Value)
  | yield (l : Nat) (args : List Value)
  | panic (v : Value)
  | any (l : List (Value × AH))

section
variable (T : Tab)
def aLoad (h : AH) (t : TypeId) (a : Value) : Option Value :=
  match T t, a with
  | some i, .pointer (some a) => if i.ud.agg then (h.cells a i.size).map fun l => .agg l.toArray else h.cell a
  | some i, a =>
    match ppOf a with
    | some (.agg cs) => if i.ud.agg = true ∧ cs.size = i.size then some (.agg cs) else none
    | some v => if i.ud.agg = false ∧ oneCellV v = true then some v else none
    | none => none
  | _, _ => none
def aStore (h : AH) (t : TypeId) (a v : Value) : Option AH :=
  match T t, a with
  | some i, .pointer (some a) => if v.cells.size = i.size ∧ notTup v = true then h.store a v.cells.toList else none
  | _, _ => none
/-- Equality of two values of one type, prims and nil checks. -/
def aEq1 (u : UD) (x y : Value) : Option Bool :=
  match u, x, y with
  | .bool, .bool a, .bool b => some (a == b)
  | .int _, .int k a, .int k' b => if k = k' then some (a == b) else none
  | .string, .string a, .string b => some (a == b)
  | .pointer _, .pointer none, .pointer b => some b.isNone
  | .pointer _, .pointer (some _), .pointer none => some false
  | .slice _, .slice none _ _, .slice b _ _ => some b.isNone
  | .slice _, .slice (some _) _ _, .slice none _ _ => some false
  | .map _ _, .map none, .map b => some b.isNone
  | .map _ _, .map (some _), .map none => some false
  | .func, .nilFunc, .nilFunc => some true
  | .func, .nilFunc, .func (.func _) _ _ => some false
  | .func, .func (.func _) _ _, .nilFunc => some false
  | .slice _, .func (.yield l) p q, .slice none _ _ => if (psOf (.func (.yield l) p q)).isSome ∧ 0 < q.size then some false else none
  | .slice _, .slice none _ _, .func (.yield l) p q => if (psOf (.func (.yield l) p q)).isSome ∧ 0 < q.size then some false else none
  | .pointer _, .func (.yield _) p _, .pointer none => if p.size = 2 then some false else none
  | .pointer _, .pointer none, .func (.yield _) p _ => if p.size = 2 then some false else none
  | _, _, _ => none
def primUD : UD → Bool
  | .bool | .int _ | .string => true
  | _ => false
def aEqFields (xs ys : Array Value) : List (Nat × TypeId × Bool) → Option Bool
  | [] => some true
  | (off, t, blank) :: r =>
    if blank then none else
    match T t, xs[off]?, ys[off]? with
    | some i, some x, some y =>
      if primUD i.ud then
        match aEq1 i.ud x y with
        | some true => aEqFields xs ys r
        | some false => some false
        | none => none
      else none
    | _, _, _ => none
def aEq (t : TypeId) (x y : Value) : Option Bool :=
  match T t with
  | some i =>
    match i.ud, x, y with
    | .struct fs, .agg xs, .agg ys => if i.eqok then aEqFields T xs ys fs else none
    | u, x, y => aEq1 u x y
  | none => none
def aBin (op : BinOp) (t : TypeId) (x y : Value) : Option Value :=
  match x, y with
  | .int _ _, .int _ _ => pureV (binOp op t x y)
  | .string _, .string _ => pureV (binOp op t x y)
  | _, _ =>
    match op with
    | .eql => (aEq T t x y).map .bool
    | .neq => (aEq T t x y).map fun b => .bool !b
    | _ => none
def aBuild (t : TypeId) (parts : List (Nat × Value)) : Option Value :=
  if parts.all (fun p => notTup p.2) then
  match T t with
  | some i =>
    match i.ud with
    | .struct fs => if fs.all (fun f => (T f.2.1).isSome) then (Instr.fill (fun j => (fs[j]?).bind fun f => (T f.2.1).map fun g => (f.1, g.size)) i.zero.cells parts).map .agg else none
    | .array _ e => (T e).bind fun g => (Instr.fill (fun j => some (j * g.size, g.size)) i.zero.cells parts).map .agg
    | _ => none
  | none => none
  else none
def newRowV (h : AH) (cs : List Value) (sz len c : Nat) : Value × AH := (.slice (some ⟨h.n, 0, none⟩) len c, h.push (.row cs true sz))
/-- n elements' zero cells -/
def zeros (z : List Value) : Nat → List Value
  | 0 => []
  | n + 1 => z ++ zeros z n
def aBuildSlice (h : AH) (t : TypeId) (len : Nat) (parts : List (Nat × Value)) : Option (Value × AH) :=
  match T t with
  | some i =>
    match i.ud with
    | .slice e =>
      match T e with
      | some g => if len * g.size > 16777216 ∨ parts.all (fun p => notTup p.2) = false then none else
        (Instr.fill (fun j => some (j * g.size, g.size)) (zeros g.zero.cells.toList len).toArray parts).map fun cs => newRowV h cs.toList g.size len (len + 1)
      | none => none
    | _ => none
  | none => none
def elemOfSlice (t : TypeId) : Option TI :=
  match T t with
  | some i => match i.ud with | .slice e => T e | _ => none
  | none => none
def aMakeSlice (h : AH) (t : TypeId) (len cap : Value) : Option (Value × AH) :=
  match elemOfSlice T t, len, cap with
  | some g, .int .i64 l, .int .i64 c => if 0 ≤ l ∧ l ≤ c ∧ c * g.bytes ≤ 70368744177664 ∧ c ≤ 70368744177664 then some (newRowV h (zeros g.zero.cells.toList c.toNat) g.size l.toNat (c.toNat + 1)) else none
  | _, _, _ => none
def boundV : Value → Option Int
  | .int _ n => some n
  | _ => none
def optBound (d : Int) : Option Value → Option Int
  | none => some d
  | some v => boundV v
/-- x[lo:hi:mx]; a slice's capacity c: 0 unknown, k + 1 known to be k. -/
def sliceable (h : AH) (a : Addr) (size : Nat) : Bool :=
  match h.get a.block with
  | some (.row _ rw sz) => !rw || sz == size
  | _ => false
def aSlice (hp : AH) (t : TypeId) (x : Value) (lo hi mx : Option Value) : Option Value :=
  match T t, x with
  | some i, .string s =>
    match i.ud, optBound 0 lo, optBound s.size hi, mx with
    | .string, some l, some h, none => if 0 ≤ l ∧ l ≤ h ∧ h ≤ s.size then some (.string (s.extract l.toNat h.toNat)) else none
    | _, _, _, _ => none
  | some i, .slice none 0 0 =>
    match i.ud, optBound 0 lo, optBound 0 hi with
    | .slice e, some l, some h =>
      if l = 0 ∧ h = 0 ∧ (T e).isSome = true then
        match mx with
        | none => some (.slice none 0 0)
        | some v =>
          match boundV v with
          | some m => if m = 0 ∧ hi.isSome = true then some (.slice none 0 0) else none
          | none => none
      else none
    | _, _, _ => none
  | some i, .slice (some a) len c =>
    match i.ud, optBound 0 lo, optBound len hi with
    | .slice e, some l, some h =>
      match T e with
      | some g =>
        let top : Int := if c = 0 then (len : Int) else ((c - 1 : Nat) : Int)
        if sliceable hp a g.size = true ∧ 0 ≤ l ∧ l ≤ h ∧ h ≤ top then
          match mx with
          | none => some (.slice (some (a.add (l.toNat * g.size))) (h - l).toNat (if c = 0 then 0 else c - l.toNat))
          | some v =>
            match boundV v with
            | some m => if h ≤ m ∧ m ≤ top ∧ hi.isSome = true then some (.slice (some (a.add (l.toNat * g.size))) (h - l).toNat ((m - l).toNat + 1)) else none
            | none => none
        else none
      | none => none
    | _, _, _ => none
  | some i, x =>
    match psOf x with
    | some (k, els) =>
      match i.ud, optBound 0 lo, optBound els.length hi with
      | .slice e, some l, some h =>
        match T e with
        | some g =>
          if 0 ≤ l ∧ l ≤ h ∧ h ≤ els.length ∧ k = g.size then
            match mx with
            | none => some (PS k ((els.take h.toNat).drop l.toNat))
            | some v =>
              match boundV v with
              | some m => if m = h ∧ hi.isSome = true then some (PSC k ((els.take h.toNat).drop l.toNat)) else none
              | none => none
          else none
        | none => none
      | _, _, _ => none
    | none => none
  | _, _ => none
def partOf (i : TI) (cs : Array Value) (off : Nat) : Option Value :=
  if i.ud.agg then some (.agg (cs.extract off (off + i.size))) else cs[off]?
def aFieldAddr (t : TypeId) (a : Value) (f : Nat) : Option Value :=
  match T t, a with
  | some i, .pointer (some a) =>
    match i.ud with
    | .struct fs => (fs[f]?).bind fun x => (T x.2.1).bind fun g => if g.size = 0 then none else some (.pointer (some (a.add x.1)))
    | _ => none
  | some i, a =>
    match ppOf a, i.ud with
    | some (.agg cs), .struct fs => (fs[f]?).bind fun x => (T x.2.1).bind fun g => if g.size = 0 ∨ cs.size < x.1 + g.size then none else (partOf g cs x.1).map PP
    | _, _ => none
  | _, _ => none
def aField (t : TypeId) (x : Value) (f : Nat) : Option Value :=
  match T t, x with
  | some i, .agg cs =>
    match i.ud with
    | .struct fs => (fs[f]?).bind fun x => (T x.2.1).bind fun g => partOf g cs x.1
    | _ => none
  | _, _ => none
def aIndexAddr (t : TypeId) (x ix : Value) : Option Value :=
  match T t, ix with
  | some i, .int _ n =>
    match i.ud, x with
    | .array len e, .pointer (some a) => (T e).bind fun g => if 0 ≤ n ∧ n < len then some (.pointer (some (a.add (n.toNat * g.size)))) else none
    | .slice e, .slice (some a) len _ => (T e).bind fun g => if 0 ≤ n ∧ n < len then some (.pointer (some (a.add (n.toNat * g.size)))) else none
    | .slice e, x =>
      match T e, psOf x with
      | some g, some (k, els) => if 0 ≤ n ∧ n < els.length ∧ k = g.size then (els[n.toNat]?).map PP else none
      | _, _ => none
    | _, _ => none
  | _, _ => none
def aIndex (t : TypeId) (x ix : Value) : Option Value :=
  match T t, ix with
  | some i, .int _ n =>
    match i.ud, x with
    | .array len e, .agg cs => (T e).bind fun g => if 0 ≤ n ∧ n < len then partOf g cs (n.toNat * g.size) else none
    | .string, .string s => if 0 ≤ n then (s[n.toNat]?).map fun b => .int .u8 b.toNat else none
    | _, _ => none
  | _, _ => none
/-- One key against another: the keys that the interpreter takes are whole numbers, strings and bools. -/
def keyEq (u : UD) (k x : Value) : Option Bool :=
  match u, k, x with
  | .int _, .int a n, .int b m => if a = b then some (n == m) else none
  | .string, .string a, .string b => some (a == b)
  | .bool, .bool a, .bool b => some (a == b)
  | _, _, _ => none
def aFind (u : UD) (k : Value) : List (Value × Value) → Nat → Option (Option (Nat × Value))
  | [], _ => some none
  | e :: es, i =>
    match keyEq u k e.1 with
    | some true => some (some (i, e.2))
    | some false => aFind u k es (i + 1)
    | none => none
def entriesOf (h : AH) : Value → Option (List (Value × Value))
  | .map none => some []
  | .map (some b) => match h.get b with | some (.map es _ _) => some es | _ => none
  | _ => none
def aLookup (h : AH) (t : TypeId) (m k : Value) (ok : Bool) : Option Value :=
  match T t with
  | some i =>
    match i.ud with
    | .map kt e =>
      match T kt, T e, entriesOf h m with
      | some ki, some g, some es =>
        if primUD ki.ud then
          match aFind ki.ud k es 0 with
          | some (some (_, v)) => some (if ok then .tuple #[v, .bool true] else v)
          | some none => some (if ok then .tuple #[g.zero, .bool false] else g.zero)
          | none => none
        else none
      | _, _, _ => none
    | _ => none
  | none => none
def aMapUpdate (h : AH) (t : TypeId) (m k v : Value) : Option AH :=
  match T t, m with
  | some i, .map (some b) =>
    match i.ud, h.get b with
    | .map kt _, some (.map es bs clk) =>
      match T kt with
      | some ki =>
        if primUD ki.ud then
          match aFind ki.ud k es 0 with
          | some (some (j, _)) => some (h.set b (.map (es.modify j fun e => (e.1, v)) bs clk))
          | some none => some (h.set b (.map (es ++ [(k, v)]) (bs ++ [clk]) (clk + 1)))
          | none => none
        else none
      | none => none
    | _, _ => none
  | _, _ => none
def aDelete (h : AH) (t : TypeId) (m k : Value) : Option AH :=
  match T t, m with
  | some i, .map (some b) =>
    match i.ud, h.get b with
    | .map kt _, some (.map es bs clk) =>
      match T kt with
      | some ki =>
        if primUD ki.ud then
          match aFind ki.ud k es 0 with
          | some (some (j, _)) => some (h.set b (.map (es.eraseIdx j) (bs.eraseIdx j) clk))
          | some none => some h
          | none => none
        else none
      | none => none
    | _, _ => none
  | _, _ => none
/-- The cells of what is appended, and how many elements they are. -/
def srcCells (h : AH) (g : TI) : Value → Option (List Value × Nat)
  | .slice none 0 _ => some ([], 0)
  | .slice (some a) n _ => (h.cells a (n * g.size)).map fun l => (l, n)
  | .string s => if g.size = 1 then some (s.data.toList.map fun b => .int .u8 b.toNat, s.size) else none
  | x =>
    match psOf x with
    | some (k, els) => if k = g.size then some (els.flatMap (fun v => v.cells.toList), els.length) else none
    | none => none
def roomOk (n bytes : Nat) : Bool := decide (n * bytes ≤ 70368744177664) && decide (n ≤ 70368744177664)
def aAppend (h : AH) (t xt : TypeId) (s x : Value) : Option (Value × AH) :=
  match elemOfSlice T t, T xt with
  | some g, some xi =>
    match xi.ud, srcCells h g x, s with
    | .int _, _, _ => none
    | _, some (new, n), .slice none 0 0 =>
      if n = 0 then some (s, h) else if roomOk n g.bytes then some (newRowV h new g.size n 0) else none
    | _, some (new, n), .slice (some a) len c =>
      if n = 0 then some (s, h) else
      if roomOk (len + n) g.bytes then
        match h.cells a (len * g.size) with
        | some old =>
          if c ≠ 0 ∧ len + n > c - 1 then some (newRowV h (old ++ new) g.size (len + n) 0)
          else match h.get a.block with
            | some (.row _ true sz) => if sz = g.size then some (newRowV (h.set a.block .dead) (old ++ new) g.size (len + n) c) else none
            | _ => none
        | none => none
      else none
    | _, some (new, n), s =>
      match clipOf s, srcCells h g s with
      | true, some (old, len) => if n = 0 then some (s, h) else if roomOk (len + n) g.bytes then some (newRowV h (old ++ new) g.size (len + n) 0) else none
      | _, _ => none
    | _, _, _ => none
  | _, _ => none
def aLen (h : AH) (t : TypeId) (x : Value) : Option Value :=
  match T t, x with
  | some i, x =>
    match i.ud, x with
    | .string, .string s => some (goInt s.size)
    | .array n _, _ => some (goInt n)
    | .slice _, .slice _ n _ => some (goInt n)
    | .map _ _, .map none => some (goInt 0)
    | .map _ _, .map (some b) => match h.get b with | some (.map es _ _) => some (goInt es.length) | _ => none
    | .slice _, x => (psOf x).map fun els => goInt els.2.length
    | _, _ => none
  | none, _ => none
def aMinMax (mx : Bool) : List Value → Option Value
  | [.int k x, .int _ y] => some (.int k (if mx then (if y > x then y else x) else (if y < x then y else x)))
  | _ => none
/-! ### a walk over a map -/
def aRange (h : AH) (t : TypeId) (x : Value) : Option AR :=
  match T t, x with
  | some i, .map none => match i.ud with | .map _ _ => some (.val (.pointer (some ⟨h.n, 0, none⟩)) (h.push (.iter none 0 [] 0))) | _ => none
  | some i, .map (some b) =>
    match i.ud, h.get b with
    | .map _ _, some (.map _ _ clk) => some (.val (.pointer (some ⟨h.n, 0, none⟩)) (h.push (.iter (some b) clk [] clk)))
    | _, _ => none
  | _, _ => none
def overV : Value := .tuple #[.bool false]
def stepV (e : Value × Value) : Value := .tuple #[.bool true, e.1, e.2]
def aNext (h : AH) (x : Value) : Option AR :=
  match x with
  | .pointer (some a) =>
    if a.off ≠ 0 then none else
    match h.get a.block with
    | some (.iter none _ _ _) => some (.any [(overV, h)])
    | some (.iter (some m) since seen last) =>
      match h.get m with
      | some (.map es bs clk) =>
        if !seen.isEmpty && !es.isEmpty && bs.all (fun b => decide (b ≥ last)) then none
        else
          let left := (es.zip bs).filter fun e => !seen.contains e.2
          some (.any ((if (left.filter fun e => decide (e.2 < since)).isEmpty then [(overV, h)] else []) ++ left.map fun e => (stepV e.1, h.set a.block (.iter (some m) since (seen ++ [e.2]) clk))))
      | _ => none
    | _ => none
  | _ => none
def aEntry (h : AH) (x : Value) : Option AR :=
  match x with
  | .pointer (some a) =>
    if a.off ≠ 0 then none else
    match h.get a.block with
    | some (.iter (some m) _ seen stepped) =>
      match h.get m, seen.getLast? with
      | some (.map es bs clk), some stamp =>
        if clk ≠ stepped then none
        else ((es.zip bs).find? fun e => e.2 == stamp).map fun e => .val (.tuple #[e.1.1, e.1.2]) h
      | _, _ => none
    | _ => none
  | _ => none
def vh (x : Option (Value × AH)) : Option AR := x.map fun p => .val p.1 p.2
def vv (h : AH) (x : Option Value) : Option AR := x.map fun v => .val v h
def uh (x : Option AH) : Option AR := x.map fun h => .val undef h
def aBuiltin (h : AH) (b : Builtin) (ts : Array TypeId) (args : List Value) : Option AR :=
  match b, ts.toList, args with
  | .append, [t, xt], [s, x] => vh (aAppend T h t xt s x)
  | .len, [t], [x] => vv h (aLen T h t x)
  | .delete, [t, _], [m, k] => (aDelete T h t m k).map fun h => .val (.tuple #[]) h
  | .min, _, args => vv h (aMinMax false args)
  | .max, _, args => vv h (aMinMax true args)
  | _, _, _ => none
def aConvert (src dst : TypeId) (x : Value) : Option Value :=
  match T src, T dst with
  | some i, some j =>
    match i.ud, j.ud, x with
    | .int _, .int k, .int _ n => some (.int k (k.wrap n))
    | .string, .string, .string _ => some x
    | _, _, _ => none
  | _, _ => none
def callV (f : Value) (args : List Value) : Option AR :=
  match f with
  | .func (.func g) first cap => some (.call g (first.toList ++ args ++ cap.toList))
  | .func (.yield l) first cap => if first.size = 0 ∧ cap.size = 0 then some (.yield l args) else none
  | _ => none
def aOp (fr : Fr) (h : AH) (op : Op) : Option AR :=
  match op with
  | .move x | .assign x => some (.val (ev fr x) h)
  | .pick c a b => match ev fr c with | .bool t => some (.val (if t then ev fr a else ev fr b) h) | _ => none
  | .alloc t => (T t).map fun i => .val (.pointer (some ⟨h.n, 0, none⟩)) (h.push (.row i.zero.cells.toList true 0))
  | .box _ x => if notTup (ev fr x) then some (.val (.pointer (some ⟨h.n, 0, none⟩)) (h.push (.row (ev fr x).cells.toList true 0))) else none
  | .build t parts => vv h (aBuild T t (parts.toList.map fun p => (p.1, ev fr p.2)))
  | .buildSlice t len parts => vh (aBuildSlice T h t len (parts.toList.map fun p => (p.1, ev fr p.2)))
  | .load t a => vv h (aLoad T h t (ev fr a))
  | .store t a v => uh (aStore T h t (ev fr a) (ev fr v))
  | .nilCheck x => match ev fr x with | .pointer (some a) => some (.val (.pointer (some a)) h) | .func (.func f) p q => some (.val (.func (.func f) p q) h) | y => (ppOf y).map fun _ => .val y h
  | .binOp op t x y _ => vv h (aBin T op t (ev fr x) (ev fr y))
  | .unOp op _ x => vv h (pureV (Op.unary op (ev fr x)))
  | .convert s d x => vv h (aConvert T s d (ev fr x))
  | .makeInterface t x => match T t with | some i => (match i.ud with | .iface => none | _ => some (.val (.iface t (ev fr x)) h)) | none => none
  | .makeFunc fn first cap => match fn with | .func f => some (.val (.func (.func f) (first.map (ev fr)) (cap.map (ev fr))) h) | _ => none
  | .makeMap _ none => some (.val (.map (some h.n)) (h.push (.map [] [] 0)))
  | .makeSlice t l c => vh (aMakeSlice T h t (ev fr l) (ev fr c))
  | .slice t x lo hi mx => vv h (aSlice T h t (ev fr x) (lo.map (ev fr)) (hi.map (ev fr)) (mx.map (ev fr)))
  | .fieldAddr t x f => vv h (aFieldAddr T t (ev fr x) f)
  | .field t x f => vv h (aField T t (ev fr x) f)
  | .indexAddr t x i => vv h (aIndexAddr T t (ev fr x) (ev fr i))
  | .index t x i => vv h (aIndex T t (ev fr x) (ev fr i))
  | .lookup t m k ok => vv h (aLookup T h t (ev fr m) (ev fr k) ok)
  | .mapUpdate t m k v => uh (aMapUpdate T h t (ev fr m) (ev fr k) (ev fr v))
  | .extract x i => match ev fr x with | .tuple vs => vv h vs[i]? | _ => none
  | .call c =>
    match c.callee with
    | .value f => callV (ev fr f) (c.args.toList.map (ev fr))
    | .builtin b => aBuiltin T h b c.argTypes (c.args.toList.map (ev fr))
    | .invoke _ _ => none
  | .range t x => aRange T h t (ev fr x)
  | .next x str => if str then none else aNext h (ev fr x)
  | .entry x => aEntry h (ev fr x)
  | .panic x => match ev fr x with | .iface t v => some (.panic (.iface t v)) | _ => none
  | _ => none
end

/-! ### the weakest precondition -/
inductive AO where
  | ret (v : Value) | panic (v : Value)
abbrev CT := FuncId → List Value → AH → (AO → AH → Prop) → Prop
abbrev YT := Nat → List Value → AH → (AO → AH → Prop) → Prop
def wanted (fr : Fr) : Option (Tmp × Bool) → Bool
  | none => true
  | some (t, b) => match fr t with | .bool x => x == b | _ => false
/-- A new variable, as it was laid. -/
def fresh (T : Tab) (h : AH) (t : TypeId) (v : Value) : Prop :=
  match T t, v with
  | some i, .pointer (some a) => h.get a.block = some (.row i.zero.cells.toList true 0)
  | _, _ => False
def stays (T : Tab) (fr : Fr) (h : AH) (c : Option Tmp × Op × Option (Tmp × Bool)) : Prop :=
  match c.1 with
  | some d => match c.2.1 with
    | .alloc t => fresh T h t (fr d)
    | op => wanted fr c.2.2 = true → aOp T fr h op = some (.val (fr d) h)
  | none => False
def allP {α : Type} (p : α → Prop) : List α → Prop
  | [] => True
  | x :: r => p x ∧ allP p r
def outK (K : Value → AH → Prop) (Kp : Value → AH → Prop) : AO → AH → Prop
  | .ret v, h => K v h
  | .panic v, h => Kp v h
def xR (C : CT) (Y : YT) (h : AH) (K : Value → AH → Prop) (Kp : Value → AH → Prop) : Option AR → Prop
  | some (.val v h') => K v h'
  | some (.call f args) => C f args h (outK K Kp)
  | some (.yield l args) => Y l args h (outK K Kp)
  | some (.panic v) => Kp v h
  | some (.any l) => ∀ p ∈ l, K p.1 p.2
  | none => False
def xOps (T : Tab) (C : CT) (Y : YT) (Kp : Value → AH → Prop) : List XOp → Fr → AH → (Fr → AH → Prop) → Prop
  | [], fr, h, K => K fr h
  | o :: r, fr, h, K =>
    if wanted fr o.guard then xR C Y h (fun v h' => allP (stays T fr h') o.chk ∧ xOps T C Y Kp r (fr.put o.dst v) h' K) Kp (aOp T fr h o.op)
    else xOps T C Y Kp r (fr.put o.dst undef) h K
abbrev XQ := AX → Fr → AH → Prop
/-- A loop: an invariant with a rank. -/
def LI (B : Fr → AH → XQ → Prop) (fr : Fr) (h : AH) (Q : XQ) : Prop :=
  ∃ I : Nat → Fr → AH → Prop, (∃ n, I n fr h) ∧ ∀ n fr h, I n fr h → B fr h fun
    | .norm, fr', h' => ∃ m, m < n ∧ I m fr' h'
    | e, fr', h' => Q e fr' h'
def thenQ (B : Fr → AH → XQ → Prop) (Q : XQ) : XQ
  | .norm, fr, h => B fr h Q
  | e, fr, h => Q e fr h
def blockQ (id : Nat) (Q : XQ) : XQ
  | .exit j, fr, h => if j = id then Q .norm fr h else Q (.exit j) fr h
  | e, fr, h => Q e fr h
def setFrs (fr : Fr) : List Tmp → List Value → Fr
  | p :: ps, v :: vs => setFrs (fr.put (some p) v) ps vs
  | _, _ => fr
def loopAt (h : AH) (l : Nat) (K : ALoop → Prop) : Prop :=
  match h.get l with
  | some (.loop r) => K r
  | _ => False
def endRange (Q : XQ) (fr : Fr) (l : Nat) : AO → AH → Prop
  | .ret _, h => loopAt h l fun r => r.st ≠ .busy ∧
      match r.pend with
      | none => Q .norm fr (h.set l .dead)
      | some e => Q e fr (h.set l .dead)
  | .panic v, h => Q (.panic v) fr h
/-! ### a row of one's own that is given up: its slices go by their elements -/
inductive FZ (b : Nat) (cs : List Value) (k : Nat) : Value → Value → Prop
  | refl (v : Value) : FZ b cs k v v
  | nil (k' : Nat) : FZ b cs k (.slice none 0 0) (PS k' [])
  | sl {off n c : Nat} {els : List Value} (hl : els.length = n) (hb : off + n * k ≤ cs.length)
      (hk : ∀ (i : Nat) (v : Value), els[i]? = some v → v.cells.size = k ∧ notTup v = true ∧ (cs.drop (off + i * k)).take k = v.cells.toList) : FZ b cs k (.slice (some ⟨b, off, none⟩) n c) (PS k els)
  | agg {p q : Array Value} (hl : p.size = q.size) (h : ∀ (i : Nat) (x y : Value), p[i]? = some x → q[i]? = some y → FZ b cs k x y) : FZ b cs k (.agg p) (.agg q)
  | tuple {p q : Array Value} (hl : p.size = q.size) (h : ∀ (i : Nat) (x y : Value), p[i]? = some x → q[i]? = some y → FZ b cs k x y) : FZ b cs k (.tuple p) (.tuple q)
inductive OFZ (b : Nat) (cs : List Value) (k : Nat) : AObj → AObj → Prop
  | refl (o : AObj) : OFZ b cs k o o
  | row {xs ys : List Value} {rw : Bool} {sz : Nat} (hl : xs.length = ys.length) (h : ∀ (i : Nat) (x y : Value), xs[i]? = some x → ys[i]? = some y → FZ b cs k x y) : OFZ b cs k (.row xs rw sz) (.row ys rw sz)
inductive Gs : Fr → AH → Fr → AH → Prop
  | refl (fr : Fr) (h : AH) : Gs fr h fr h
  | conv {fr fr1 fr2 : Fr} {h h1 h2 : AH} {b k : Nat} {cs : List Value} (hb : h.n ≤ b) (hf : ∀ t, FZ b cs k (fr t) (fr1 t)) (hn : h1.n = h.n)
      (ho : ∀ (B : Nat) (o' : AObj), h1.get B = some o' → ∃ o, h.get B = some o ∧ OFZ b cs k o o') (rest : Gs fr1 h1 fr2 h2) : Gs fr h fr2 h2
  | step {fr fr1 fr2 : Fr} {h h1 h2 : AH} {b sz k : Nat} {cs : List Value} (hb : h.get b = some (.row cs true sz)) (hf : ∀ t, FZ b cs k (fr t) (fr1 t)) (hn : h1.n = h.n + 1)
      (ho : ∀ (B : Nat) (o' : AObj), B ≠ b → B < h.n → h1.get B = some o' → ∃ o, h.get B = some o ∧ OFZ b cs k o o') (hd : h1.get b = some .dead) (hd2 : h1.get h.n = some .dead) (rest : Gs fr1 h1 fr2 h2) : Gs fr h fr2 h2
def xw (T : Tab) (C : CT) (Y : YT) : XC → Fr → AH → XQ → Prop
  | .skip, fr, h, Q => Q .norm fr h
  | .region ops, fr, h, Q => xOps T C Y (fun v h' => Q (.panic v) fr h') ops fr h fun fr' h' => Q .norm fr' h'
  | .seq a b, fr, h, Q => ∃ fr' h', Gs fr h fr' h' ∧ xw T C Y a fr' h' (thenQ (xw T C Y b) Q)
  | .cond c a b, fr, h, Q => match ev fr c with | .bool t => (t = true → xw T C Y a fr h Q) ∧ (t = false → xw T C Y b fr h Q) | _ => False
  | .block id b, fr, h, Q => xw T C Y b fr h (blockQ id Q)
  | .loop b, fr, h, Q => LI (xw T C Y b) fr h Q
  | .exit id, fr, h, Q => Q (.exit id) fr h
  | .ret, fr, h, Q => Q .ret fr h
  | .range g ps assign body, fr, h, Q =>
    match ev fr g with
    | .func (.func f) first cap => C f (first.toList ++ [.func (.yield h.n) #[] #[]] ++ cap.toList) (h.push (.loop ⟨.ready, none, fr, ps, assign, body⟩)) (endRange Q fr h.n)
    | _ => False
end Go.AI
