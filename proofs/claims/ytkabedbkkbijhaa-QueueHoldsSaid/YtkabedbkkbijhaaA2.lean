/-
  FROM THE MODEL'S CODE TO THE INTERPRETER'S: regions that draw their order are laid in one order, with what must stay checked. (Own work.)
-/
import Derived.Test.YtkabedbkkbijhaaA1
namespace Go.AI

/-- Does an operation turn the heap, or call? -/
def effOp : Op → Bool
  | .move _ | .assign _ | .pick .. | .build .. | .load .. | .nilCheck _ | .binOp .. | .unOp .. | .convert .. | .makeInterface .. | .makeFunc .. | .slice .. | .fieldAddr .. | .field ..
  | .indexAddr .. | .index .. | .lookup .. | .extract .. => false
  | .call c => match c.callee with | .builtin .len | .builtin .min | .builtin .max => false | _ => true
  | _ => true
/-- Does a quiet operation read the heap? -/
def readOp : Op → Bool
  | .load .. | .lookup .. | .slice .. => true
  | .call c => match c.callee with | .builtin .len => true | _ => false
  | _ => false
def guardOf (ops : Array Oper) (o : Oper) : Option (Tmp × Bool) :=
  match o.guard with
  | none => none
  | some (j, b) => some ((((ops[j]?).bind (·.dst)).getD 1000000), b)
/-- The operations that must come ahead of operation i: its edges, closed. -/
def preds (ops : Array Oper) : Nat → List Nat → List Nat → List Nat
  | 0, _, acc => acc
  | _ + 1, [], acc => acc
  | k + 1, i :: todo, acc =>
    if acc.contains i then preds ops k todo acc
    else preds ops k (((ops[i]?).map fun o => (o.after.toList.filter (Region.binds .any)).map (·.on)).getD [] ++ todo) (i :: acc)
def before (ops : Array Oper) (i : Nat) : List Nat :=
  preds ops 100000 (((ops[i]?).map fun o => (o.after.toList.filter (Region.binds .any)).map (·.on)).getD []) []
/-- A new variable that may be laid at any time. -/
def freeAlloc (o : Oper) : Bool := (match o.op with | .alloc _ => true | _ => false) && o.guard.isNone && o.dst.isSome && o.after.all fun e => !Region.binds .any e
def isFree (ops : Array Oper) (i : Nat) : Bool := ((ops[i]?).map freeAlloc).getD false
def isEff (ops : Array Oper) (i : Nat) : Bool := ((ops[i]?).map fun o => effOp o.op).getD true
def isRead (ops : Array Oper) (i : Nat) : Bool := ((ops[i]?).map fun o => readOp o.op).getD true
/-- Quiet operations as early as may be. -/
def asap (ops : Array Oper) (bs : List (List Nat)) : Nat → List Nat → List Nat → List Nat
  | 0, _, acc => acc.reverse
  | k + 1, todo, acc =>
    let free := todo.filter fun i => (bs.getD i []).all acc.contains
    match free.find? (fun i => !isEff ops i) with
    | some i => asap ops bs k (todo.erase i) (i :: acc)
    | none =>
      match free with
      | i :: _ => asap ops bs k (todo.erase i) (i :: acc)
      | [] => acc.reverse
def order (ops : Array Oper) : List Nat :=
  let fs := (List.range ops.size).filter (isFree ops)
  fs ++ (asap ops ((List.range ops.size).map (before ops)) ops.size ((List.range ops.size).filter fun i => !isFree ops i) fs.reverse).drop fs.length
/-- What must stay behind an operation: the reads laid ahead of it that need not be. -/
def checks (ops : Array Oper) : List Nat → List Nat → List (Nat × List Nat)
  | [], _ => []
  | i :: r, done => (i, if isEff ops i && !isFree ops i then (done.filter fun j => (isFree ops j || (!isEff ops j && isRead ops j)) && !(before ops i).contains j).reverse else []) :: checks ops r (i :: done)
def xopOf (ops : Array Oper) (i : Nat) (ck : List Nat) : Option XOp :=
  (ops[i]?).map fun o => { dst := o.dst, op := o.op, guard := guardOf ops o, chk := ck.filterMap fun j => (ops[j]?).map fun p => (p.dst, p.op, guardOf ops p) }
def regionOf (ops : Array Oper) (draw : Bool) : List XOp :=
  if draw then (checks ops (order ops) []).filterMap fun p => xopOf ops p.1 p.2
  else (List.range ops.size).filterMap fun i => xopOf ops i []
/-! ### what is asked of the code, once, by the kernel -/
def okOperand (ng : Nat) : Operand → Bool
  | .tmp _ => true
  | .const v => simpleV v
  | .global g => decide (g < ng)
  | .func _ => true
def okOp (ng : Nat) (op : Op) : Bool := op.operands.toList.all (okOperand ng)
def looks (ops : Array Oper) (o : Oper) : List Tmp :=
  (o.op.operands.toList.filterMap fun x => match x with | .tmp t => some t | _ => none) ++ (guardOf ops o).toList.map (·.1)
def okGuard (ops : Array Oper) (nt : Nat) (o : Oper) : Bool :=
  match o.guard with
  | none => true
  | some (j, _) => match (ops[j]?).bind (·.dst) with | some d => decide (d < nt) | none => false
def okOper (ng nt : Nat) (ops : Array Oper) (o : Oper) : Bool :=
  okOp ng o.op && (match o.dst with | some d => decide (d < nt) | none => true) && okGuard ops nt o
def unlike (x y : Option Tmp) : Bool :=
  match x, y with
  | some a, some b => a != b
  | _, _ => true
def notIn (x : Option Tmp) (l : List Tmp) : Bool :=
  match x with
  | some a => !l.contains a
  | none => true
def effAt (o : Oper) : Bool := effOp o.op && !freeAlloc o
/-- x stands ahead of y in the order that is walked. -/
def pairOk (ops : Array Oper) (bs : List (List Nat)) (effs : List Nat) (x y : Nat × List Nat) : Bool :=
  match ops[x.1]?, ops[y.1]? with
  | some i, some j =>
    !(bs.getD x.1 []).contains y.1 && unlike i.dst j.dst &&
    (((bs.getD y.1 []).contains x.1 && (notIn j.dst (looks ops i) || effAt j || effs.all fun e => e == y.1 || (bs.getD y.1 []).contains e)) ||
      (!effAt i && (!(readOp i.op || freeAlloc i) || !effAt j || y.2.contains x.1) && notIn i.dst (looks ops j) && notIn j.dst (looks ops i)))
  | _, _ => false
def allPairs {α : Type} (p : α → α → Bool) : List α → Bool
  | [] => true
  | x :: r => r.all (p x) && allPairs p r
def drawOk (ops : Array Oper) : Bool :=
  let ps := checks ops (order ops) []
  let bs := (List.range ops.size).map (before ops)
  let effs := (List.range ops.size).filter fun i => ((ops[i]?).map effAt).getD false
  (List.range ops.size).all (fun i => (ps.map (·.1)).contains i) && ps.all (fun p => decide (p.1 < ops.size)) && allPairs (fun x y => x.1 != y.1) ps && allPairs (pairOk ops bs effs) ps &&
    ops.all (fun o => notIn o.dst (looks ops o)) &&
    (List.range ops.size).all (fun i => ((ops[i]?).map fun o => o.after.all fun e => !Region.binds .any e || ((bs.getD i []).contains e.on && decide (e.on < ops.size))).getD false) &&
    (List.range ops.size).all (fun i => (bs.getD i []).all fun j => ((ops[i]?).map fun o => o.after.any fun e => Region.binds .any e && (e.on == j || (bs.getD e.on []).contains j)).getD false) &&
    ps.all (fun p => ((ops[p.1]?).map fun o => effAt o || p.2.isEmpty).getD false) &&
    (List.range ops.size).all (fun i => !(bs.getD i []).contains i)
def okCode (ng nt : Nat) : Code → Bool
  | .skip | .label _ | .ret | .exit _ => true
  | .region _ ops d => ops.all (okOper ng nt ops) && (!d || drawOk ops)
  | .seq a b => okCode ng nt a && okCode ng nt b
  | .cond c a b => okOperand ng c && okCode ng nt a && okCode ng nt b
  | .block _ b => okCode ng nt b
  | .loop b => okCode ng nt b
  | .rangeFunc g ps a b => okOperand ng g && ps.all (fun p => decide (p < nt)) && okCode ng nt a && okCode ng nt b
  | _ => false
def xOf : Code → XC
  | .skip => .skip
  | .label _ => .skip
  | .region _ ops d => .region (regionOf ops d)
  | .seq a b => .seq (xOf a) (xOf b)
  | .cond c a b => .cond c (xOf a) (xOf b)
  | .block id b => .block id (xOf b)
  | .loop b => .loop (xOf b)
  | .exit id => .exit id
  | .ret => .ret
  | .scope _ => .exit 1000000
  | .rangeFunc g ps a b => .range g ps.toList (xOf a) (xOf b)
  | .goto _ => .exit 1000000
  | .refuse _ => .exit 1000000
end Go.AI
