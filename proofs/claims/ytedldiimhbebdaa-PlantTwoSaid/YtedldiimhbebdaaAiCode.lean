/- The model's code made ready. -/
import Derived.Test.YtedldiimhbebdaaAiRun
namespace Go.Proofs.Ytedldiimhbebdaa.Ai
noncomputable section
open Go.RowKit

def opdsO : Option Opd → List Opd
  | some x => [x]
  | none => []

def opdsParts : List (Nat × Nat × Opd) → List Opd
  | [] => []
  | (_, _, x) :: r => x :: opdsParts r

def opdsP : POp → List Opd
  | .mov x => [x]
  | .pick c a b => [c, a, b]
  | .bin _ _ x y => [x, y]
  | .eqNil _ _ x => [x]
  | .not x => [x]
  | .neg x => [x]
  | .conv _ x => [x]
  | .fieldAddr _ x => [x]
  | .field1 _ x => [x]
  | .fieldN _ _ x => [x]
  | .idxS _ x i => [x, i]
  | .idxA _ _ x i => [x, i]
  | .idxStr x i => [x, i]
  | .ext _ x => [x]
  | .len _ x => [x]
  | .nilchk x => [x]
  | .build _ ps => opdsParts ps
  | .mx x y => [x, y]
  | .mn x y => [x, y]
  | .eqS _ _ x y => [x, y]
  | .mkFunc _ fs cs => fs ++ cs
  | .mkIface _ x => [x]
  | .tyAs _ _ x => [x]
  | .idxV1 _ _ x i => [x, i]
  | .idxVN _ _ x i => [x, i]
  | .bad => []

def opdsR : ROp → List Opd
  | .load1 x => [x]
  | .loadN _ x => [x]
  | .slice _ x lo hi mx => x :: (opdsO lo ++ opdsO hi ++ opdsO mx)
  | .cap x => [x]

def opdsE : EOp → List Opd
  | .store _ a x => [a, x]
  | .box _ x => [x]
  | .alloc _ => []
  | .buildS _ _ _ ps => opdsParts ps
  | .mkS _ _ _ l c => [l, c]
  | .app _ _ x y => [x, y]
  | .appZ _ _ _ x y => [x, y]

def opds : AOp → List Opd
  | .p q => opdsP q
  | .r q => opdsR q
  | .e q => opdsE q
  | .call _ l => l
  | .callv x l => x :: l
  | .invoke _ x l => x :: l
  | .bad => []

def tmpsOf : List Opd → List Nat
  | [] => []
  | .t i :: r => i :: tmpsOf r
  | .c _ :: r => tmpsOf r

/-- the slots that an operation looks at -/
def reads (o : AOper) : List Nat := (match o.guard with
  | some (t, _) => [t]
  | none => []) ++ tmpsOf (opds o.op)

/-- upon which operations one waits -/
def edges (o : Oper) : List Nat := (o.after.toList.filter (Region.binds .any ·)).map (·.on)

def maskOf (tbl : List Nat) (es : List Nat) : Nat := es.foldl (fun m j => m ||| (2 ^ j ||| tbl.getD j 0)) 0

def mkTbl (tbl : List Nat) : List (List Nat) → List Nat
  | [] => tbl
  | es :: r => mkTbl (tbl ++ [maskOf tbl es]) r

/-- must j have been behind one when i runs? -/
def anc (tbl : List Nat) (i j : Nat) : Bool := (tbl.getD i 0).testBit j

def isEat (l : List AOper) (i : Nat) : Bool := match l[i]? with
  | some o => isE o.op
  | none => false

/-- it lays a new row and looks at none -/
def newOp : AOp → Bool
  | .e (.alloc _) => true
  | .e (.buildS _ _ _ _) => true
  | .e (.mkS _ _ _ _ _) => true
  | _ => false

/-- F: one that may run ahead of its place -/
def okPair (tbl : List Nat) (l : List AOper) (F : Nat) (i j : Nat) : Bool := match l[i]?, l[j]? with
  | some oi, some oj => Nat.beq i j || ((match oi.dst, oj.dst with
      | some d, some d' => !(Nat.beq d d')
      | _, _ => true) && (match oj.dst with
      | some d => !((reads oi).any (Nat.beq d)) || anc tbl i j || anc tbl j i
      | none => true) && (!(isE oi.op && isE oj.op) || anc tbl i j || anc tbl j i || (Nat.beq i F && Nat.blt j F) || (Nat.beq j F && Nat.blt i F)))
  | _, _ => true

/-- what comes behind it comes behind all that turn the heap ahead of its place -/
def okFl (tbl : List Nat) (l : List AOper) (eds : List (List Nat)) (F : Nat) : Bool := match l[F]? with
  | none => true
  | some o => newOp o.op && o.guard.isNone && o.dst.isSome && (List.range l.length).all fun i => (!(anc tbl i F) && !(((eds[i]?).getD []).any (Nat.beq F))) || (List.range F).all fun e => !(isEat l e) || anc tbl i e

/-- which one is it? -/
def findFl (tbl : List Nat) (l : List AOper) : Nat := ((List.range l.length).find? fun j => isEat l j && (List.range j).any fun i => isEat l i && !(anc tbl i j) && !(anc tbl j i)).getD l.length

def okEdges : Nat → List (List Nat) → Bool
  | _, [] => true
  | i, es :: r => es.all (Nat.blt · i) && okEdges (i + 1) r

def effs (l : List AOper) : List Nat := (List.range l.length).filter fun i => match l[i]? with
  | some o => isE o.op
  | none => false

def winOf (tbl : List Nat) (es : List Nat) (i : Nat) : Nat × Nat := ((es.filter fun e => anc tbl i e).length, (es.filter fun e => !(anc tbl e i)).length)

def okDraw (tbl : List Nat) (l : List AOper) (eds : List (List Nat)) : Bool :=
  okEdges 0 eds && Nat.beq eds.length l.length && okFl tbl l eds (findFl tbl l) && (List.range l.length).all fun i => (List.range l.length).all fun j => okPair tbl l (findFl tbl l) i j

def dstOk (N : Nat) : Option Nat → Bool
  | some d => Nat.blt d N
  | none => true

def compOper (P : Program) (N : Nat) (ops : Array Oper) (o : Oper) : Option AOper := bif dstOk N o.dst then (match o.guard with
  | none => some { dst := o.dst, op := comp P o.op, guard := none }
  | some (j, want) => match (ops.toList[j]?).bind (·.dst) with
    | some d => bif Nat.blt d N then some { dst := o.dst, op := comp P o.op, guard := some (d, want) } else none
    | none => none) else none

def compOpers (P : Program) (N : Nat) (ops : Array Oper) : List Oper → Option (List AOper)
  | [] => some []
  | o :: r => match compOper P N ops o, compOpers P N ops r with
    | some o, some r => some (o :: r)
    | _, _ => none

def compCode (P : Program) (N : Nat) : Code → ACode
  | .skip => .skip
  | .ret => .ret
  | .exit id => .exit id
  | .region _ ops false => match compOpers P N ops ops.toList with
    | some l => .ops l
    | none => .bad
  | .region _ ops true => match compOpers P N ops ops.toList with
    | some l => (let eds := ops.toList.map edges
      let tbl := mkTbl [] eds
      bif P.follows .mixedOrders && okDraw tbl l eds then .draw l (winsOf l ((List.range l.length).map (winOf tbl (effs l)))) else .bad)
    | none => .bad
  | .seq a b => .seq (compCode P N a) (compCode P N b)
  | .cond c a b => match compOpd c with
    | some c => .cond c (compCode P N a) (compCode P N b)
    | none => .bad
  | .block id b => .block id (compCode P N b)
  | .loop b => .loop (compCode P N b)
  | .rangeFunc g ps asg body => match compOpd g with
    | some g => bif ps.toList.all (Nat.blt · N) then .rangeF g N ps.toList (compCode P N asg) (compCode P N body) else .bad
    | none => .bad
  | _ => .bad

def compRes1 (P : Program) : ResultVar → Option ARes
  | .tmp t => some (.tmp t)
  | .cell a t => match P.underlying t, P.info? t with
    | some (.struct _), some i => some (.cellN a i.size)
    | some (.array _ _), some i => some (.cellN a i.size)
    | some _, some _ => some (.cell1 a)
    | _, _ => none

def compRes (P : Program) : List ResultVar → Option (List ARes)
  | [] => some []
  | r :: rs => match compRes1 P r, compRes P rs with
    | some r, some rs => some (r :: rs)
    | _, _ => none

def compFunc (P : Program) (fn : Func) : Option AFunc := match fn.body, compRes P fn.results.toList with
  | some c, some res => bif fn.name == "runtime.NumGoroutine" then none else some { n := fn.ntmps, body := compCode P fn.ntmps c, res := res }
  | _, _ => none

def tabOf (P : Program) (f : Nat) : Option AFunc := match P.funcs.toList[f]? with
  | some fn => compFunc P fn
  | none => none

end
end Go.Proofs.Ytedldiimhbebdaa.Ai
