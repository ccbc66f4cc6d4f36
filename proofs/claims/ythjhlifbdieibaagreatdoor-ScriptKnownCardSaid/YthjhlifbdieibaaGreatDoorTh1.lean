/- A run of the program's code over an abstract heap, and that it is the model's: part Th1 of the theory. -/
import Derived.Test.YthjhlifbdieibaaGreatDoorTh0
import Derived.RangeFuncNested
import Derived.OrdersIn
/- Code, run over the abstract heap. -/
namespace Go.Proofs.YthjhlifbdieibaaGreatDoor.Ai
noncomputable section
open Go.RowKit

inductive ARes where
  | tmp (t : Nat)
  | cell1 (t : Nat)
  | cellN (t n : Nat)

structure AFunc where
  n : Nat
  body : ACode
  res : List ARes

/-- what may be called: a function, a loop's round -/
inductive Tgt where
  | fn (f : Nat)
  | yield (b : Nat)

abbrev CallF := Tgt → List Value → Heap → Option (Value × Heap)

def isB (v : Value) (want : Bool) : Bool := match v with
  | .bool b => bif want then b else !b
  | _ => false

def wantedA (ts : T Value) : Option (Nat × Bool) → Bool
  | none => true
  | some (t, b) => isB (look ts t) b

def lookT (t : Nat) : List (Nat × Nat) → Option Nat
  | [] => none
  | (u, f) :: r => bif Nat.beq u t then some f else lookT t r

def step1Q (q : AOp) : CallF → T Value → Heap → Option (Value × Heap) := match q with
  | .p q => fun _ ts h => match pop ts q with
    | some v => some (v, h)
    | none => none
  | .r q => fun _ ts h => match rop ts h q with
    | some v => some (v, h)
    | none => none
  | .e q => fun _ ts h => eop ts h q
  | .call f l => fun callF ts h => callF (.fn f) (evs ts l) h
  | .callv x l => fun callF ts h => match ev ts x with
    | .func (.func f) fs cs => callF (.fn f) (fs.toList ++ evs ts l ++ cs.toList) h
    | .func (.yield b) _ _ => callF (.yield b) (evs ts l) h
    | _ => none
  | .invoke tbl x l => fun callF ts h => match ev ts x with
    | .iface t v => (match lookT t tbl with
      | some f => callF (.fn f) (v :: evs ts l) h
      | none => none)
    | _ => none
  | .bad => fun _ _ _ => none

def step1 (callF : CallF) (ts : T Value) (h : Heap) (q : AOp) : Option (Value × Heap) := step1Q q callF ts h

def putA (ts : T Value) (dst : Option Nat) (v : Value) : T Value := match dst with
  | some d => ts.put d v
  | none => ts

def runOps (cf : CallF) (l : List AOper) : T Value → Heap → Option (T Value × Heap) := List.rec (motive := fun _ => T Value → Heap → Option (T Value × Heap)) (fun ts h => some (ts, h))
  (fun o _ ih ts h => match wantedA ts o.guard with
    | true => match step1 cf ts h o.op with
      | some (v, h') => ih (putA ts o.dst v) h'
      | none => none
    | false => ih (putA ts o.dst undef) h) l

theorem runOps_nil (cf : CallF) (ts : T Value) (h : Heap) : runOps cf [] ts h = some (ts, h) := rfl
theorem runOps_cons (cf : CallF) (o : AOper) (r : List AOper) (ts : T Value) (h : Heap) : runOps cf (o :: r) ts h = match wantedA ts o.guard with
    | true => match step1 cf ts h o.op with
      | some (v, h') => runOps cf r (putA ts o.dst v) h'
      | none => none
    | false => runOps cf r (putA ts o.dst undef) h := rfl

def isE : AOp → Bool
  | .e _ => true
  | .call _ _ => true
  | .callv _ _ => true
  | .invoke _ _ _ => true
  | _ => false

structure Rec where
  o : AOper
  ts : T Value
  v : Value

/-- the text's order; the heaps behind each turning; what each operation came to -/
def runTrace (callF : CallF) (l : List AOper) : T Value → Heap → Option (List Rec × List Heap × T Value × Heap) := List.rec (motive := fun _ => T Value → Heap → Option (List Rec × List Heap × T Value × Heap)) (fun ts h => some ([], [], ts, h))
  (fun o _ ih ts h => match (match wantedA ts o.guard with
      | true => step1 callF ts h o.op
      | false => some (undef, h)) with
    | some (v, h1) => (match ih (putA ts o.dst v) h1 with
      | some (recs, hs, ts', h') => some (⟨o, ts, v⟩ :: recs, (bif isE o.op then h1 :: hs else hs), ts', h')
      | none => none)
    | none => none) l

theorem runTrace_nil (cf : CallF) (ts : T Value) (h : Heap) : runTrace cf [] ts h = some ([], [], ts, h) := rfl
theorem runTrace_cons (callF : CallF) (o : AOper) (r : List AOper) (ts : T Value) (h : Heap) : runTrace callF (o :: r) ts h = match (match wantedA ts o.guard with
      | true => step1 callF ts h o.op
      | false => some (undef, h)) with
    | some (v, h1) => (match runTrace callF r (putA ts o.dst v) h1 with
      | some (recs, hs, ts', h') => some (⟨o, ts, v⟩ :: recs, (bif isE o.op then h1 :: hs else hs), ts', h')
      | none => none)
    | none => none := rfl

def veq1 : Value → Value → Bool
  | .int k a, .int k' b => decide (k = k') && decide (a = b)
  | .bool a, .bool b => a == b
  | .pointer a, .pointer b => decide (a = b)
  | .slice a n c, .slice a' n' c' => decide (a = a') && Nat.beq n n' && Nat.beq c c'
  | .nilFunc, .nilFunc => true
  | .nilIface, .nilIface => true
  | _, _ => false

def veqs : List Value → List Value → Bool
  | [], [] => true
  | a :: l, b :: r => veq1 a b && veqs l r
  | _, _ => false

def veq : Value → Value → Bool
  | .agg a, .agg b => veqs a.toList b.toList
  | .func (.func f) a b, .func (.func g) a' b' => Nat.beq f g && veqs a.toList a'.toList && veqs b.toList b'.toList
  | .func (.yield f) a b, .func (.yield g) a' b' => Nat.beq f g && veqs a.toList a'.toList && veqs b.toList b'.toList
  | .iface t a, .iface t' a' => Nat.beq t t' && veq1 a a'
  | a, b => veq1 a b

theorem veq1_eq {a b : Value} (h : veq1 a b = true) : a = b := by
  unfold veq1 at h
  split at h <;> simp_all

theorem veqs_eq : ∀ {a b : List Value}, veqs a b = true → a = b
  | [], [], _ => rfl
  | a :: l, b :: r, h => by
    simp only [veqs, Bool.and_eq_true] at h
    rw [veq1_eq h.1, veqs_eq h.2]
  | [], _ :: _, h => by cases h
  | _ :: _, [], h => by cases h

theorem veq_eq {a b : Value} (h : veq a b = true) : a = b := by
  unfold veq at h
  split at h
  · have := veqs_eq h
    congr 1
    exact Array.ext' this
  · simp only [Bool.and_eq_true] at h
    rw [Nat.eq_of_beq_eq_true h.1.1, Array.ext' (veqs_eq h.1.2), Array.ext' (veqs_eq h.2)]
  · simp only [Bool.and_eq_true] at h
    rw [Nat.eq_of_beq_eq_true h.1.1, Array.ext' (veqs_eq h.1.2), Array.ext' (veqs_eq h.2)]
  · simp only [Bool.and_eq_true] at h
    rw [Nat.eq_of_beq_eq_true h.1, veq1_eq h.2]
  · exact veq1_eq h

/-- a reading is the same over all these heaps -/
def chkR (ts : T Value) (q : ROp) (v : Value) : List Heap → Bool
  | [] => true
  | h :: r => (match rop ts h q with
    | some u => veq u v
    | none => false) && chkR ts q v r

def chk1 (hs : List Heap) (r : Rec) (lo hi : Nat) : Bool := match r.o.op with
    | .r q => (bif Nat.beq lo hi then true else match wantedA r.ts r.o.guard with
      | true => chkR r.ts q r.v ((hs.drop lo).take (hi + 1 - lo))
      | false => true)
    | _ => true

def chkAll (hs : List Heap) (l : List Rec) : List (Nat × Nat) → Bool := List.rec (motive := fun _ => List (Nat × Nat) → Bool) (fun _ => true) (fun r _ ih w => match w with
  | (lo, hi) :: ws => chk1 hs r lo hi && ih ws
  | [] => true) l

theorem chkAll_cons (hs : List Heap) (r : Rec) (rs : List Rec) (lo hi : Nat) (ws : List (Nat × Nat)) : chkAll hs (r :: rs) ((lo, hi) :: ws) = (chk1 hs r lo hi && chkAll hs rs ws) := rfl
theorem chkAll_nil (hs : List Heap) (ws : List (Nat × Nat)) : chkAll hs [] ws = true := rfl
theorem chkAll_nil' (hs : List Heap) (rs : List Rec) : chkAll hs rs [] = true := by cases rs <;> rfl

/-- no reading may run at more than one place -/
def trivW : List AOper → List (Nat × Nat) → Bool
  | o :: l, (lo, hi) :: ws => (match o.op with
    | .r _ => Nat.beq lo hi
    | _ => true) && trivW l ws
  | _, _ => true

def winsOf (l : List AOper) (ws : List (Nat × Nat)) : List (Nat × Nat) := bif trivW l ws then [] else ws

def runDraw (callF : CallF) (l : List AOper) (win : List (Nat × Nat)) (ts : T Value) (h : Heap) : Option (T Value × Heap) := match win with
  | [] => runOps callF l ts h
  | w :: ws => match runTrace callF l ts h with
    | some (recs, hs, ts', h') => bif chkAll (h :: hs) recs (w :: ws) then some (ts', h') else none
    | none => none

def putArgs (ts : T Value) (i : Nat) : List Value → T Value
  | [] => ts
  | v :: r => putArgs (ts.put i v) (i + 1) r

def resA (ts : T Value) (h : Heap) : ARes → Option Value
  | .tmp t => some (look ts t)
  | .cell1 t => match look ts t with
    | .pointer (some ⟨b, o, none⟩) => h.rd b o
    | _ => none
  | .cellN t n => match look ts t with
    | .pointer (some ⟨b, o, none⟩) => (match h.rds b o n with
      | some l => some (.agg l.toArray)
      | none => none)
    | _ => none

def resAll (ts : T Value) (h : Heap) : List ARes → Option (List Value)
  | [] => some []
  | r :: rs => match resA ts h r, resAll ts h rs with
    | some v, some vs => some (v :: vs)
    | _, _ => none

def mkRes : List Value → Value
  | [v] => v
  | vs => .tuple vs.toArray

def putPs (ts : T Value) : List Nat → List Value → T Value
  | p :: ps, v :: vs => putPs (ts.put p v) ps vs
  | _, _ => ts

def isN : AExit → Bool
  | .normal => true
  | _ => false

/-- how a round has ended is written into the loop's record -/
def endR (e : AExit) (b : Nat) (M : List Nat) (h : Heap) : Option (Value × Heap) := match h.loops.get b with
  | some k => some (.bool (isN e), { h with loops := h.loops.put b { k with st := (bif isN e then 0 else 2), pend := (bif isN e then none else some e) }, marks := M })
  | none => none

/-- a round begins -/
def beginR (b : Nat) (h : Heap) : Option Heap := match h.loops.get b with
  | some k => bif Nat.beq k.st 0 then some { h with loops := h.loops.put b { k with st := 1 } } else none
  | none => none

abbrev ExF := Option Nat → ACode → T Value → Heap → Option (AExit × T Value × Heap)

/-- calls of which it is known what they come to -/
abbrev Memo := Nat → List Value → Heap → Option (Value × Heap)

def callF (mm : Memo) (tab : Nat → Option AFunc) (ex : ExF) : CallF := fun t args h => match t with
  | .fn f => match mm f args h with
    | some r => some r
    | none => match tab f with
    | none => none
    | some af => bif Nat.ble args.length af.n then (match ex none af.body (putArgs .nil 0 args) h with
      | some (.exit _, _, _) => none
      | some (_, ts', h') => (match resAll ts' h' af.res with
        | some vs => some (mkRes vs, { h' with marks := h.marks })
        | none => none)
      | none => none) else none
  | .yield b => match h.loops.get b with
    | none => none
    | some k => bif Nat.beq args.length k.ps.length && k.ps.all (Nat.blt · k.n) then (match ex (some b) k.asg (putPs k.ts k.ps args) h with
      | some (.normal, ts1, h1) => (match beginR b h1 with
        | some h2 => (match ex (some b) k.body ts1 h2 with
          | some (e, _, h3) => endR e b h.marks h3
          | none => none)
        | none => none)
      | _ => none) else none

/-- the loop's record is laid, and, outside of a round, the block for the rounds' deferred calls -/
def enterL (ro : Option Nat) (k : LRec) (h : Heap) : Option (Nat × Heap) := match ro with
  | none => some (h.next + 1, { h with next := h.next + 2, loops := h.loops.put (h.next + 1) k, marks := h.next :: h.marks })
  | some b0 => match h.loops.get b0 with
    | none => none
    | some _ => some (h.next, { h with next := h.next + 1, loops := h.loops.put h.next k })

/-- the function has come back -/
def endL (b : Nat) (ts : T Value) (h : Heap) : Option (AExit × T Value × Heap) := match h.loops.get b with
  | some k => bif Nat.beq k.st 1 then none else (match k.pend with
    | none => some (.normal, ts, { h with loops := h.loops.put b { k with st := 3 } })
    | some .normal => none
    | some e => some (e, ts, { h with loops := h.loops.put b { k with st := 3 } }))
  | none => none

def execQ (c : ACode) : ExF → CallF → Option Nat → T Value → Heap → Option (AExit × T Value × Heap) := match c with
  | .skip => fun _ _ _ ts h => some (.normal, ts, h)
  | .ret => fun _ _ _ ts h => some (.ret, ts, h)
  | .exit id => fun _ _ _ ts h => some (.exit id, ts, h)
  | .ops l => fun _ cf _ ts h => (match runOps cf l ts h with
    | some (ts', h') => some (.normal, ts', h')
    | none => none)
  | .draw l win => fun _ cf _ ts h => (match runDraw cf l win ts h with
    | some (ts', h') => some (.normal, ts', h')
    | none => none)
  | .seq a b => fun ex _ ro ts h => (match ex ro a ts h with
    | some (.normal, ts', h') => ex ro b ts' h'
    | r => r)
  | .cond c a b => fun ex _ ro ts h => (match ev ts c with
    | .bool true => ex ro a ts h
    | .bool false => ex ro b ts h
    | _ => none)
  | .block id b => fun ex _ ro ts h => (match ex ro b ts h with
    | some (.exit id', ts', h') => bif Nat.beq id' id then some (.normal, ts', h') else some (.exit id', ts', h')
    | r => r)
  | .loop b => fun ex _ ro ts h => (match ex ro b ts h with
    | some (.normal, ts', h') => ex ro (.loop b) ts' h'
    | r => r)
  | .rangeF g N ps asg body => fun _ cf ro ts h => (match ev ts g with
    | .func (.func f) fs cs => (match enterL ro { ts := ts, n := N, ps := ps, asg := asg, body := body, st := 0, pend := none } h with
      | some (b, h1) => (match cf (.fn f) (fs.toList ++ [.func (.yield b) #[] #[]] ++ cs.toList) h1 with
        | some (_, h2) => endL b ts h2
        | none => none)
      | none => none)
    | _ => none)
  | .bad => fun _ _ _ _ _ => none

def exec (mm : Memo) (tab : Nat → Option AFunc) (n : Nat) : ExF := Nat.rec (motive := fun _ => ExF) (fun _ _ _ _ => none) (fun _ ih ro c ts h => execQ c ih (callF mm tab ih) ro ts h) n

theorem exec_zero (mm : Memo) (tab : Nat → Option AFunc) (ro : Option Nat) (c : ACode) (ts : T Value) (h : Heap) : exec mm tab 0 ro c ts h = none := rfl
theorem exec_succ (mm : Memo) (tab : Nat → Option AFunc) (n : Nat) (ro : Option Nat) (c : ACode) (ts : T Value) (h : Heap) : exec mm tab (n + 1) ro c ts h = execQ c (exec mm tab n) (callF mm tab (exec mm tab n)) ro ts h := rfl

/-- a call, with so much fuel -/
def call (tab : Nat → Option AFunc) (n f : Nat) (args : List Value) (h : Heap) : Option (Value × Heap) := callF (fun _ _ _ => none) tab (exec (fun _ _ _ => none) tab n) (.fn f) args h

end
end Go.Proofs.YthjhlifbdieibaaGreatDoor.Ai
/- The model's code made ready. -/
namespace Go.Proofs.YthjhlifbdieibaaGreatDoor.Ai
noncomputable section
open Go.RowKit

def opdsO : Option Opd → List Opd
  | some x => [x]
  | none => []

def opdsParts : List (Nat × Nat × Opd) → List Opd
  | [] => []
  | (_, _, x) :: r => x :: opdsParts r

def opdsP : POp → List Opd
  | .mov x => [x]
  | .pick c a b => [c, a, b]
  | .bin _ _ x y => [x, y]
  | .eqNil _ _ x => [x]
  | .not x => [x]
  | .neg x => [x]
  | .conv _ x => [x]
  | .fieldAddr _ x => [x]
  | .field1 _ x => [x]
  | .fieldN _ _ x => [x]
  | .idxS _ x i => [x, i]
  | .idxA _ _ x i => [x, i]
  | .idxStr x i => [x, i]
  | .ext _ x => [x]
  | .len _ x => [x]
  | .nilchk x => [x]
  | .build _ ps => opdsParts ps
  | .mx x y => [x, y]
  | .mn x y => [x, y]
  | .eqS _ _ x y => [x, y]
  | .mkFunc _ fs cs => fs ++ cs
  | .mkIface _ x => [x]
  | .tyAs _ _ x => [x]
  | .idxV1 _ _ x i => [x, i]
  | .idxVN _ _ x i => [x, i]
  | .usd x => [x]
  | .bad => []

def opdsR : ROp → List Opd
  | .load1 x => [x]
  | .loadN _ x => [x]
  | .slice _ x lo hi mx => x :: (opdsO lo ++ opdsO hi ++ opdsO mx)
  | .cap x => [x]
  | .bts x => [x]

def opdsE : EOp → List Opd
  | .store _ a x => [a, x]
  | .box _ x => [x]
  | .alloc _ _ => []
  | .buildS _ _ _ ps => opdsParts ps
  | .mkS _ _ _ l c => [l, c]
  | .app _ _ _ _ x y => [x, y]
  | .appZ _ _ _ x y => [x, y]
  | .ust _ x n => [x, n]

def opds : AOp → List Opd
  | .p q => opdsP q
  | .r q => opdsR q
  | .e q => opdsE q
  | .call _ l => l
  | .callv x l => x :: l
  | .invoke _ x l => x :: l
  | .bad => []

def tmpsOf : List Opd → List Nat
  | [] => []
  | .t i :: r => i :: tmpsOf r
  | .c _ :: r => tmpsOf r

/-- the slots that an operation looks at -/
def reads (o : AOper) : List Nat := (match o.guard with
  | some (t, _) => [t]
  | none => []) ++ tmpsOf (opds o.op)

/-- upon which operations one waits -/
def edges (o : Oper) : List Nat := (o.after.toList.filter (Region.binds .any ·)).map (·.on)

def maskOf (tbl : List Nat) (es : List Nat) : Nat := es.foldl (fun m j => m ||| (2 ^ j ||| tbl.getD j 0)) 0

def mkTbl (tbl : List Nat) : List (List Nat) → List Nat
  | [] => tbl
  | es :: r => mkTbl (tbl ++ [maskOf tbl es]) r

/-- must j have been behind one when i runs? -/
def anc (tbl : List Nat) (i j : Nat) : Bool := (tbl.getD i 0).testBit j

def isEat (l : List AOper) (i : Nat) : Bool := match l[i]? with
  | some o => isE o.op
  | none => false

/-- it lays a new row and looks at none -/
def newOp : AOp → Bool
  | .e (.alloc _ _) => true
  | .e (.buildS _ _ _ _) => true
  | .e (.mkS _ _ _ _ _) => true
  | _ => false

/-- F: one that may run ahead of its place -/
def okPair (tbl : List Nat) (l : List AOper) (F : Nat) (i j : Nat) : Bool := match l[i]?, l[j]? with
  | some oi, some oj => Nat.beq i j || ((match oi.dst, oj.dst with
      | some d, some d' => !(Nat.beq d d')
      | _, _ => true) && (match oj.dst with
      | some d => !((reads oi).any (Nat.beq d)) || anc tbl i j || anc tbl j i
      | none => true) && (!(isE oi.op && isE oj.op) || anc tbl i j || anc tbl j i || (Nat.beq i F && Nat.blt j F) || (Nat.beq j F && Nat.blt i F)))
  | _, _ => true

/-- what comes behind it comes behind all that turn the heap ahead of its place -/
def okFl (tbl : List Nat) (l : List AOper) (eds : List (List Nat)) (F : Nat) : Bool := match l[F]? with
  | none => true
  | some o => newOp o.op && o.guard.isNone && o.dst.isSome && (List.range l.length).all fun i => (!(anc tbl i F) && !(((eds[i]?).getD []).any (Nat.beq F))) || (List.range F).all fun e => !(isEat l e) || anc tbl i e

/-- which one is it? -/
def findFl (tbl : List Nat) (l : List AOper) : Nat := ((List.range l.length).find? fun j => isEat l j && (List.range j).any fun i => isEat l i && !(anc tbl i j) && !(anc tbl j i)).getD l.length

def okEdges : Nat → List (List Nat) → Bool
  | _, [] => true
  | i, es :: r => es.all (Nat.blt · i) && okEdges (i + 1) r

def effs (l : List AOper) : List Nat := (List.range l.length).filter fun i => match l[i]? with
  | some o => isE o.op
  | none => false

def winOf (tbl : List Nat) (es : List Nat) (i : Nat) : Nat × Nat := ((es.filter fun e => anc tbl i e).length, (es.filter fun e => !(anc tbl e i)).length)

def okDraw (tbl : List Nat) (l : List AOper) (eds : List (List Nat)) : Bool :=
  okEdges 0 eds && Nat.beq eds.length l.length && okFl tbl l eds (findFl tbl l) && (List.range l.length).all fun i => (List.range l.length).all fun j => okPair tbl l (findFl tbl l) i j

def dstOk (N : Nat) : Option Nat → Bool
  | some d => Nat.blt d N
  | none => true

def compOper (P : Program) (N : Nat) (ops : Array Oper) (o : Oper) : Option AOper := bif dstOk N o.dst then (match o.guard with
  | none => some { dst := o.dst, op := comp P o.op, guard := none }
  | some (j, want) => match (ops.toList[j]?).bind (·.dst) with
    | some d => bif Nat.blt d N then some { dst := o.dst, op := comp P o.op, guard := some (d, want) } else none
    | none => none) else none

def compOpers (P : Program) (N : Nat) (ops : Array Oper) : List Oper → Option (List AOper)
  | [] => some []
  | o :: r => match compOper P N ops o, compOpers P N ops r with
    | some o, some r => some (o :: r)
    | _, _ => none

def compCode (P : Program) (N : Nat) : Code → ACode
  | .skip => .skip
  | .ret => .ret
  | .exit id => .exit id
  | .region _ ops false => match compOpers P N ops ops.toList with
    | some l => .ops l
    | none => .bad
  | .region _ ops true => match compOpers P N ops ops.toList with
    | some l => (let eds := ops.toList.map edges
      let tbl := mkTbl [] eds
      bif P.follows .mixedOrders && okDraw tbl l eds then .draw l (winsOf l ((List.range l.length).map (winOf tbl (effs l)))) else .bad)
    | none => .bad
  | .seq a b => .seq (compCode P N a) (compCode P N b)
  | .cond c a b => match compOpd c with
    | some c => .cond c (compCode P N a) (compCode P N b)
    | none => .bad
  | .block id b => .block id (compCode P N b)
  | .loop b => .loop (compCode P N b)
  | .rangeFunc g ps asg body => match compOpd g with
    | some g => bif ps.toList.all (Nat.blt · N) then .rangeF g N ps.toList (compCode P N asg) (compCode P N body) else .bad
    | none => .bad
  | _ => .bad

def compRes1 (P : Program) : ResultVar → Option ARes
  | .tmp t => some (.tmp t)
  | .cell a t => match P.underlying t, P.info? t with
    | some (.struct _), some i => some (.cellN a i.size)
    | some (.array _ _), some i => some (.cellN a i.size)
    | some _, some _ => some (.cell1 a)
    | _, _ => none

def compRes (P : Program) : List ResultVar → Option (List ARes)
  | [] => some []
  | r :: rs => match compRes1 P r, compRes P rs with
    | some r, some rs => some (r :: rs)
    | _, _ => none

def compFunc (P : Program) (fn : Func) : Option AFunc := match fn.body, compRes P fn.results.toList with
  | some c, some res => bif fn.name == "runtime.NumGoroutine" then none else some { n := fn.ntmps, body := compCode P fn.ntmps c, res := res }
  | _, _ => none

def tabOf (P : Program) (f : Nat) : Option AFunc := match P.funcs.toList[f]? with
  | some fn => compFunc P fn
  | none => none

end
end Go.Proofs.YthjhlifbdieibaaGreatDoor.Ai
/- One operation after the other. -/
namespace Go.Proofs.YthjhlifbdieibaaGreatDoor.Ai
noncomputable section
open Go.RowKit

def FnOk (P : Program) (f : Nat) : Prop := ∃ fn, P.funcs[f]? = some fn ∧ fn.name ≠ "runtime.NumGoroutine" ∧ fn.body.isSome = true

/-- what the model's code is told by -/
abbrev Cc (P : Program) : CRel := fun N c ac => compCode P N c = ac

def CallPost (P : Program) (μ : Map) (h' : Heap) (B : Fr) (w0 : World) (v : Value) : Ending → World → Prop := fun e w' => ∃ μ' v', e = .returned v' ∧ μ.le μ' ∧ Rel (Cc P) μ' h' B w0 w' ∧ VRel μ' v v'

/-- the calls of a run are the model's -/
structure CallsOk (P : Program) (cf : CallF) (B : Fr) (w0 : World) : Prop where
  fn : ∀ f args h v h', cf (.fn f) args h = some (v, h') → FnOk P f ∧ ∀ μ w args', Rel (Cc P) μ h B w0 w → VsRel μ args args' → Calls P f args'.toArray w (CallPost P μ h' B w0 v)
  yield : ∀ b args h v h', cf (.yield b) args h = some (v, h') → ∀ μ w args' e, Rel (Cc P) μ h B w0 w → VsRel μ args args' → μ b = some e →
    ∃ f tmps asg body, (Instr.yield e.blk args'.toArray).run P w = .ok (.round e.blk f tmps asg body) w ∧ RoundIn Fence.wide 0 P e.blk f tmps asg body w (CallPost P μ h' B w0 v)
  marks : ∀ t args h v h', cf t args h = some (v, h') → h'.marks = h.marks

/-- a fence about nothing: of a function's activation, or of a round's -/
def FW (ro : Option Nat) : Fence := { Fence.wide with round := ro }

theorem callsIn_FW {ro : Option Nat} {n : Nat} {P : Program} {f : FuncId} {args : Array Value} {w : World} {R : Ending → World → Prop} (h : Calls P f args w R) : CallsIn (FW ro) n P f args w R := (callsIn_wide (n := n)).2 h
theorem calls_FW {ro : Option Nat} {n : Nat} {P : Program} {f : FuncId} {args : Array Value} {w : World} {R : Ending → World → Prop} (h : CallsIn (FW ro) n P f args w R) : Calls P f args w R := (callsIn_wide (n := n)).1 h
theorem roundIn_FW {ro ro' : Option Nat} {n : Nat} {P : Program} {l : Nat} {f : FuncId} {tmps : Array Value} {assign body : Code} {w : World} {R : Ending → World → Prop} (h : RoundIn (FW ro) n P l f tmps assign body w R) : RoundIn (FW ro') n P l f tmps assign body w R := h

theorem depth_FW {ro : Option Nat} {n : Nat} : (FW ro).depth.isSome = true → 1 ≤ n := fun h => by cases h

theorem op_in {ro : Option Nat} {P : Program} {o : Oper} {a : Act} {w : World} {K : Act → World → Prop} {Q : Exit → Act → World → Prop} (hd : ∀ c, o.op ≠ .defer c) (h : o.uponIn (FW ro) 0 P a K Q ((execOp a.eval o).run P w)) : o.wpIn (FW ro) 0 P a w K Q := by
  refine ⟨fun _ _ => trivial, ?_⟩
  have : Oper.semAt (FW ro).round a.eval o = execOp a.eval o := by
    cases ro with
    | none => rfl
    | some l => exact Oper.semAt_some l _ o hd
  rw [this]; exact h

theorem callFunc_run {P : Program} {f : Nat} (h : FnOk P f) (args : Array Value) (w : World) : (callFunc f args).run P w = .ok (.enter f args) w := by
  obtain ⟨fn, h1, h2, h3⟩ := h
  simp [callFunc, h1, h2]
  intro hn; rw [hn] at h3; cases h3

section
variable {P : Program} {μ : Map} {h h' : Heap} {B : Fr} {w0 : World} {ts : T Value} {a : Act} {w : World} {o : Oper} {v : Value} {cf : CallF}

/-- one that lays a new row -/
theorem new_did {q : AOp} (f : Form P o q) (hn : newOp q = true) (r : TsRel μ ts a) (hv : step1 cf ts h q = some (v, h')) : DidN P μ h h' a w o v := by
  cases q with
  | e q =>
    have f : EForm P o q := f
    simp only [step1, step1Q] at hv
    cases f with
    | alloc t z ho hz => exact n_alloc ho hz hv
    | buildS t e len s q parts ps z ho he hz h1 h2 hp => exact n_buildS r ho he hz h1 h2 hp hv
    | mkS t e s q l c l' c' z ho he hz h2 hl hc => exact n_mkS r ho he hz h2 hl hc hv
    | _ => cases hn
  | _ => cases hn


theorem lookT_mem {t f : Nat} : ∀ {l : List (Nat × Nat)}, lookT t l = some f → (t, f) ∈ l
  | [], h => by cases h
  | (u, g) :: r, h => by
    simp only [lookT] at h
    rcases beq_cases u t with ⟨b1, b2⟩ | ⟨b1, b2⟩
    · rw [b1] at h; simp only [cond_true, Option.some.injEq] at h; subst h; subst b2; simp
    · rw [b1] at h; simp only [cond_false] at h; exact List.mem_cons_of_mem _ (lookT_mem h)

theorem methTbl_mem {name : String} {t f : Nat} : ∀ {l : List Nat}, (t, f) ∈ methTbl P name l → ∃ i e m, P.info? t = some i ∧ P.underlying t = some (.pointer e) ∧ i.methods.find? (fun m => m.name == name) = some m ∧ m.path.toList = [] ∧ m.func = some (f, true)
  | [], h => by cases h
  | u :: r, h => by
    simp only [methTbl] at h
    split at h
    · rename_i i e hi hu
      split at h
      · rename_i m hm
        split at h
        · rename_i g hp hg
          rcases List.mem_cons.1 h with h | h
          · cases h; exact ⟨i, e, m, hi, hu, hm, hp, hg⟩
          · exact methTbl_mem h
        · exact methTbl_mem h
      · exact methTbl_mem h
    · exact methTbl_mem h

theorem callMethod_run {name : String} {t f : Nat} {l : List Nat} (h : (t, f) ∈ methTbl P name l) (hf : FnOk P f) (v : Value) (args : Array Value) (w : World) : (callMethod (.iface t v) name args).run P w = .ok (.enter f (#[v] ++ args)) w := by
  obtain ⟨i, e, m, hi, hu, hm, hp, hg⟩ := methTbl_mem h
  have hp' : m.path = #[] := Array.ext' (by simpa using hp)
  have hmeth : ∀ k, (method (k + 1) t v name).run P w = .ok (f, v) w := by
    intro k
    simp [method, typeInfo, hi, hm, hp', follow, hg, receiverAt, run_underlying hu, Place.get]
  have hd : P.types.size + Made.depth = (P.types.size + 99) + 1 := rfl
  simp only [callMethod, Sem.run_bind, run_program, Result.andThen_ok, hd, hmeth, callFunc_run hf]

theorem op_wp {ro : Option Nat} {A : AOp} {K : Act → World → Prop} {Q : Exit → Act → World → Prop} (hf : Form P o A) (hb : ∀ c, o.op = .defer c → A = .bad) (hc : CallsOk P cf B w0) (R : Rel (Cc P) μ h B w0 w) (r : TsRel μ ts a) (hv : step1 cf ts h A = some (v, h'))
    (hK : ∀ μ' v' w', μ.le μ' → Rel (Cc P) μ' h' B w0 w' → VRel μ' v v' → K (a.put o.dst v') w') : o.wpIn (FW ro) 0 P a w K Q := by
  have hnd : ∀ c, o.op ≠ .defer c := fun c h => by rw [hb c h] at hv; simp [step1, step1Q] at hv
  refine op_in hnd ?_
  cases A with
  | p q =>
    simp only [step1, step1Q] at hv
    split at hv
    · rename_i u hu
      simp only [Option.some.injEq, Prod.mk.injEq] at hv; obtain ⟨rfl, rfl⟩ := hv
      obtain ⟨v', h1, h2⟩ := pop_sound (w := w) (show comp P o.op = .p q from hf) r hu
      rw [h1, Oper.uponIn_value]
      exact hK μ v' w μ.le_refl R h2
    · cases hv
  | r q =>
    simp only [step1, step1Q] at hv
    split at hv
    · rename_i u hu
      simp only [Option.some.injEq, Prod.mk.injEq] at hv; obtain ⟨rfl, rfl⟩ := hv
      obtain ⟨v', h1, h2⟩ := rop_sound (show RForm P o q from hf) R r hu
      rw [h1, Oper.uponIn_value]
      exact hK μ v' w μ.le_refl R h2
    · cases hv
  | e q =>
    simp only [step1, step1Q] at hv
    obtain ⟨μ', v', w', h1, h2, h3, h4⟩ := eop_sound (show EForm P o q from hf) R r hv
    rcases h1 with h1 | ⟨h1, h5⟩
    · rw [h1, Oper.uponIn_value]; exact hK μ' v' w' h2 h3 h4
    · rw [h1, Oper.uponIn_skip]; subst h5; exact hK μ' undef w' h2 h3 h4
  | call f l =>
    simp only [step1, step1Q] at hv
    have hf' : CForm o f l := hf
    cases hf' with
    | call c _ _ ho hcal hl =>
      obtain ⟨g1, g2⟩ := hc.fn f _ h v h' hv
      have g3 := g2 μ w _ R (oL_rel r hl)
      have hrun : (execOp a.eval o).run P w = .ok (.enter f (c.args.map a.eval)) w := by
        have := callFunc_run g1 (c.args.map a.eval) w
        simp [execOp, ho, resolve, hcal, Deferred.ofValue, Act.eval, invoke, this]
      rw [hrun, Oper.uponIn_enter]
      have e1 : (c.args.toList.map a.eval).toArray = c.args.map a.eval := by apply Array.ext'; simp
      rw [e1] at g3
      refine ⟨depth_FW, callsIn_FW (g3.mono ?_)⟩
      rintro e w' ⟨μ', v', rfl, h2, h3, h4⟩
      exact hK μ' v' w' h2 h3 h4
  | callv x l =>
    simp only [step1, step1Q] at hv
    have hf' : VForm o x l := hf
    cases hf' with
    | callv c t _ ho hcal hl =>
      have hx : VRel μ (ev ts (.t t)) (a.eval (.tmp t)) := r t
      split at hv
      · rename_i f fs cs hfn
        rw [hfn] at hx
        obtain ⟨g1, g2⟩ := hc.fn f _ h v h' hv
        have hX : ∃ fs' cs' : Array Value, a.eval (.tmp t) = .func (.func f) fs' cs' ∧ VsRel μ fs.toList fs'.toList ∧ VsRel μ cs.toList cs'.toList := by
          generalize a.eval (.tmp t) = X at hx
          cases hx with
          | same _ hp => simp [plain] at hp
          | func _ _ fs' _ cs' q0 q1 q2 q3 q4 => exact ⟨fs', cs', rfl, ⟨q1, q2⟩, ⟨q3, q4⟩⟩
        obtain ⟨fs', cs', hX, k1, k2⟩ := hX
        have g3 := g2 μ w _ R ((k1.append (oL_rel r hl)).append k2)
        have hrun : (execOp a.eval o).run P w = .ok (.enter f (fs' ++ (c.args.map a.eval ++ cs'))) w := by
          have := callFunc_run g1 (fs' ++ (c.args.map a.eval ++ cs')) w
          simp [execOp, ho, resolve, hcal, hX, Deferred.ofValue, invoke, this]
        rw [hrun, Oper.uponIn_enter]
        have e1 : (fs'.toList ++ c.args.toList.map a.eval ++ cs'.toList).toArray = fs' ++ (c.args.map a.eval ++ cs') := by apply Array.ext'; simp
        rw [e1] at g3
        refine ⟨depth_FW, callsIn_FW (g3.mono ?_)⟩
        rintro e w' ⟨μ', v', rfl, h2, h3, h4⟩
        exact hK μ' v' w' h2 h3 h4
      · rename_i b fs cs hfn
        rw [hfn] at hx
        have hX : ∃ e : Ent, μ b = some e ∧ a.eval (.tmp t) = .func (.yield e.blk) #[] #[] := by
          generalize a.eval (.tmp t) = X at hx
          cases hx with
          | same _ hp => simp [plain] at hp
          | yield _ e he => exact ⟨e, he, rfl⟩
          | func _ _ _ _ _ q0 => exact absurd rfl (q0 _)
        obtain ⟨e, he, hX⟩ := hX
        obtain ⟨f, tmps, asg, body, g1, g2⟩ := hc.yield b _ h v h' hv μ w _ e R (oL_rel r hl) he
        have e1 : (c.args.toList.map a.eval).toArray = c.args.map a.eval := by apply Array.ext'; simp
        rw [e1] at g1
        have hrun : (execOp a.eval o).run P w = .ok (.round e.blk f tmps asg body) w := by
          simp [execOp, ho, resolve, hcal, hX, Deferred.ofValue, invoke, g1]
        rw [hrun, Oper.uponIn_round]
        refine ⟨depth_FW, roundIn_FW (ro := none) (g2.mono ?_)⟩
        rintro e w' ⟨μ', v', rfl, h2, h3, h4⟩
        exact hK μ' v' w' h2 h3 h4
      · cases hv
  | invoke tbl x l =>
    simp only [step1, step1Q] at hv
    have hf' : IForm P o tbl x l := hf
    cases hf' with
    | invoke c x' y name _ ho hcal hx hl =>
      have hx := compOpd_rel r hx
      split at hv
      · rename_i t u hiv
        rw [hiv] at hx
        split at hv
        · rename_i f hlk
          obtain ⟨g1, g2⟩ := hc.fn f _ h v h' hv
          have hX : ∃ u', a.eval x' = .iface t u' ∧ VRel μ u u' := by
            generalize a.eval x' = X at hx
            cases hx with
            | same _ hp => simp [plain] at hp
            | iface _ _ u' q => exact ⟨u', rfl, q⟩
          obtain ⟨u', hX, k1⟩ := hX
          have g3 := g2 μ w _ R (VsRel.cons k1 (oL_rel r hl))
          have hrun : (execOp a.eval o).run P w = .ok (.enter f (#[u'] ++ c.args.map a.eval)) w := by
            have := callMethod_run (lookT_mem hlk) g1 u' (c.args.map a.eval) w
            have e2 : (#[Value.iface t u'] ++ c.args.map a.eval).extract 1 (#[Value.iface t u'] ++ c.args.map a.eval).size = c.args.map a.eval := by
              apply Array.ext'
              simp [List.take_of_length_le]
            simp only [execOp, ho, resolve, hcal, hX, Sem.run_bind, Sem.run_pure, Result.andThen_ok, invoke]
            rw [e2]
            have e3 : (#[Value.iface t u'] ++ c.args.map a.eval)[0]? = some (Value.iface t u') := by rw [Array.getElem?_append_left (by simp)]; rfl
            rw [e3]
            exact this
          rw [hrun, Oper.uponIn_enter]
          have e1 : (u' :: c.args.toList.map a.eval).toArray = #[u'] ++ c.args.map a.eval := by apply Array.ext'; simp
          rw [e1] at g3
          refine ⟨depth_FW, callsIn_FW (g3.mono ?_)⟩
          rintro e w' ⟨μ', v', rfl, h2, h3, h4⟩
          exact hK μ' v' w' h2 h3 h4
        · cases hv
      · cases hv
  | bad => simp [step1, step1Q] at hv

theorem tsrel_put (r : TsRel μ ts a) {v v' : Value} (hv : VRel μ v v') {d : Option Nat} (hd : dstOk a.tmps.size d = true) : TsRel μ (putA ts d v) (a.put d v') := by
  cases d with
  | none => exact r
  | some d =>
    have hlt : d < a.tmps.size := by
      have : Nat.ble (d + 1) a.tmps.size = true := hd
      have := ble_true this; omega
    intro t
    by_cases ht : t = d
    · subst ht
      simp only [putA, look, T.get_put_same, Act.put, Array.getD_eq_getD_getElem?, Array.getElem?_setIfInBounds]
      simp only [if_true, if_pos hlt, Option.getD_some]
      exact hv
    · have := r t
      simp only [putA, look, T.get_put_other _ _ ht, Act.put, Array.getD_eq_getD_getElem?, Array.getElem?_setIfInBounds] at this ⊢
      rw [if_neg (fun q => ht q.symm)]
      exact this

theorem put_size (d : Option Nat) (v : Value) : (a.put d v).tmps.size = a.tmps.size := by cases d <;> simp [Act.put]
theorem put_defers (d : Option Nat) (v : Value) : (a.put d v).defers = a.defers := by cases d <;> rfl

structure OperOk (P : Program) (N : Nat) (ops : Array Oper) (o : Oper) (ao : AOper) : Prop where
  dst : ao.dst = o.dst
  dok : dstOk N o.dst = true
  form : Form P o ao.op
  nod : ∀ c, o.op = .defer c → ao.op = .bad
  guard : (o.guard = none ∧ ao.guard = none) ∨ ∃ j want d, o.guard = some (j, want) ∧ (ops.toList[j]?).bind (·.dst) = some d ∧ d < N ∧ ao.guard = some (d, want)

theorem compOper_ok {N : Nat} {ops : Array Oper} {ao : AOper} (h : compOper P N ops o = some ao) : OperOk P N ops o ao := by
  unfold compOper at h
  cases hd : dstOk N o.dst with
  | false => rw [hd] at h; cases h
  | true =>
    rw [hd] at h; simp only [cond_true] at h
    split at h
    · rename_i hg
      simp only [Option.some.injEq] at h; subst h
      exact ⟨rfl, hd, form_of rfl, fun c hc => by rw [hc]; rfl, .inl ⟨hg, rfl⟩⟩
    · rename_i j want hg
      split at h
      · rename_i d hj
        cases hlt : Nat.blt d N with
        | false => rw [hlt] at h; cases h
        | true =>
          rw [hlt] at h; simp only [cond_true, Option.some.injEq] at h; subst h
          have : Nat.ble (d + 1) N = true := hlt
          have := ble_true this
          exact ⟨rfl, hd, form_of rfl, fun c hc => by rw [hc]; rfl, .inr ⟨j, want, d, hg, hj, Nat.lt_of_succ_le this, rfl⟩⟩
      · cases h

def asB : Value → Option Bool
  | .bool b => some b
  | _ => none

theorem isB_rel {x x' : Value} (h : VRel μ x x') (want : Bool) : isB x want = (asB x' == some want) := by
  cases h with
  | same x hp => cases x <;> first | (cases hp; done) | rfl | (rename_i b; cases b <;> cases want <;> rfl)
  | top _ hv => rcases hv with ⟨a, rfl⟩ | ⟨a, n, c, rfl⟩ <;> rfl
  | _ => rfl

theorem wanted_eq {N : Nat} {ops : Array Oper} {ao : AOper} (k : OperOk P N ops o ao) (r : TsRel μ ts a) (hN : a.tmps.size = N) : Region.wanted o (yielded ops a.tmps) = wantedA ts ao.guard := by
  rcases k.guard with ⟨h1, h2⟩ | ⟨j, want, d, h1, h2, h3, h4⟩
  · simp [Region.wanted, h1, h2, wantedA]
  · have hr := r d
    have hlt : d < a.tmps.size := by rw [hN]; exact h3
    have h2' : (ops[j]?).bind (·.dst) = some d := by simpa using h2
    simp only [Region.wanted, h1, h4, wantedA, yielded, h2', Option.bind_some, Array.getElem?_eq_getElem hlt]
    rw [Array.getD_eq_getD_getElem?, Array.getElem?_eq_getElem hlt, Option.getD_some] at hr
    rw [isB_rel hr]
    generalize a.tmps[d] = X
    cases X <;> rfl

/-- what is known behind code -/
def Post (P : Program) (μ : Map) (N : Nat) (ds : List Deferred) (ts' : T Value) (h' : Heap) (B : Fr) (w0 : World) (a' : Act) (w' : World) : Prop :=
  a'.tmps.size = N ∧ a'.defers = ds ∧ ∃ μ', μ.le μ' ∧ Rel (Cc P) μ' h' B w0 w' ∧ TsRel μ' ts' a'

theorem runOps_sound {ro : Option Nat} {N : Nat} {ops : Array Oper} {Q : Exit → Act → World → Prop} (hc : CallsOk P cf B w0) : ∀ (l : List Oper) (l' : List AOper), compOpers P N ops l = some l' →
    ∀ (μ : Map) (h h' : Heap) (ts ts' : T Value) (a : Act) (w : World), Rel (Cc P) μ h B w0 w → TsRel μ ts a → a.tmps.size = N → runOps cf l' ts h = some (ts', h') → (∀ a' w', Post P μ N a.defers ts' h' B w0 a' w' → Q .normal a' w') →
    wpListIn (FW ro) 0 P ops Q l a w := by
  intro l
  induction l with
  | nil =>
    intro l' hl μ h h' ts ts' a w R r hN hv hQ
    simp only [compOpers, Option.some.injEq] at hl; subst hl
    simp only [runOps_nil, Option.some.injEq, Prod.mk.injEq] at hv; obtain ⟨rfl, rfl⟩ := hv
    exact hQ a w ⟨hN, rfl, μ, μ.le_refl, R, r⟩
  | cons o l ih =>
    intro l' hl μ h h' ts ts' a w R r hN hv hQ
    simp only [compOpers] at hl
    split at hl
    · rename_i ao l2 hao hl2
      simp only [Option.some.injEq] at hl; subst hl
      have k := compOper_ok hao
      have hw := wanted_eq k r hN
      simp only [runOps_cons] at hv
      refine wpListIn_step (fun K hK => ?_)
      cases hwa : wantedA ts ao.guard with
      | true =>
        rw [hwa] at hv hw; simp only at hv
        rw [if_pos hw]
        split at hv
        · rename_i v h1 hs
          refine op_wp k.form k.nod hc R r hs (fun μ' v' w' hle R' hv' => hK _ _ ?_)
          have hd : dstOk a.tmps.size o.dst = true := by rw [hN]; exact k.dok
          refine ih l2 hl2 μ' h1 h' _ ts' _ w' R' (tsrel_put (r.mono hle) hv' hd) (by rw [put_size]; exact hN) (by rw [← k.dst]; exact hv) (fun a' w'' hp => hQ a' w'' ?_)
          obtain ⟨p1, p2, μ2, p3, p4, p5⟩ := hp
          exact ⟨p1, by rw [p2, put_defers], μ2, hle.trans p3, p4, p5⟩
        · cases hv
      | false =>
        rw [hwa] at hv hw; simp only at hv
        rw [if_neg (by rw [hw]; simp)]
        refine ⟨fun _ _ => trivial, hK _ _ ?_⟩
        have hd : dstOk a.tmps.size o.dst = true := by rw [hN]; exact k.dok
        refine ih l2 hl2 μ h h' _ ts' _ w R (tsrel_put r (undef_rel μ) hd) (by rw [put_size]; exact hN) (by rw [← k.dst]; exact hv) (fun a' w'' hp => hQ a' w'' ?_)
        obtain ⟨p1, p2, μ2, p3, p4, p5⟩ := hp
        exact ⟨p1, by rw [p2, put_defers], μ2, p3, p4, p5⟩
    · cases hl

end
end
end Go.Proofs.YthjhlifbdieibaaGreatDoor.Ai
/- A region whose order is open: whatever order its edges allow, it comes to what the text's order comes to. -/
namespace Go.Proofs.YthjhlifbdieibaaGreatDoor.Ai
noncomputable section
open Go.RowKit

/-! ### what must have been behind what -/

def Anc (E : Nat → List Nat) (i j : Nat) : Prop := ∀ S : Nat → Prop, (∀ x y, S x → y ∈ E x → S y) → S i → S j

theorem mask_bit (tbl : List Nat) (j : Nat) : ∀ (es : List Nat) (m : Nat), (es.foldl (fun m j => m ||| (2 ^ j ||| tbl.getD j 0)) m).testBit j = true →
    m.testBit j = true ∨ ∃ e ∈ es, j = e ∨ (tbl.getD e 0).testBit j = true := by
  intro es
  induction es with
  | nil => intro m h; exact .inl h
  | cons e es ih =>
    intro m h
    simp only [List.foldl_cons] at h
    rcases ih _ h with h1 | ⟨e', h1, h2⟩
    · simp only [Nat.testBit_or, Bool.or_eq_true, Nat.testBit_two_pow] at h1
      rcases h1 with h1 | h1 | h1
      · exact .inl h1
      · exact .inr ⟨e, by simp, .inl (of_decide_eq_true h1).symm⟩
      · exact .inr ⟨e, by simp, .inr h1⟩
    · exact .inr ⟨e', by simp [h1], h2⟩

theorem mkTbl_anc (E : Nat → List Nat) : ∀ (eds : List (List Nat)) (tbl : List Nat), (∀ k es, eds[k]? = some es → E (tbl.length + k) = es) → (∀ i j, anc tbl i j = true → Anc E i j) →
    ∀ i j, anc (mkTbl tbl eds) i j = true → Anc E i j := by
  intro eds
  induction eds with
  | nil => intro tbl _ h; exact h
  | cons es eds ih =>
    intro tbl hE h
    simp only [mkTbl]
    refine ih _ ?_ ?_
    · intro k es' hk
      have := hE (k + 1) es' (by simpa using hk)
      rw [List.length_append]; simpa [Nat.add_assoc, Nat.add_comm 1 k] using this
    · intro i j hij
      unfold anc at hij
      by_cases hi : i < tbl.length
      · rw [List.getD_eq_getElem?_getD, List.getElem?_append_left hi, ← List.getD_eq_getElem?_getD] at hij
        exact h i j hij
      · by_cases hi2 : i = tbl.length
        · subst hi2
          rw [List.getD_eq_getElem?_getD, List.getElem?_append_right (Nat.le_refl _)] at hij
          simp only [Nat.sub_self, List.getElem?_cons_zero, Option.getD_some] at hij
          have e0 := hE 0 es (by simp)
          simp only [Nat.add_zero] at e0
          rcases mask_bit tbl j es 0 hij with h1 | ⟨e, h1, h2⟩
          · simp at h1
          · intro S hS hi
            have he : S e := hS _ e hi (by rw [e0]; exact h1)
            rcases h2 with rfl | h2
            · exact he
            · exact h e j h2 S hS he
        · rw [List.getD_eq_getElem?_getD, List.getElem?_eq_none (by simp; omega)] at hij
          simp at hij

theorem okEdges_lt : ∀ (eds : List (List Nat)) (i : Nat), okEdges i eds = true → ∀ k es, eds[k]? = some es → ∀ e ∈ es, e < i + k
  | [], i, _, k, es, hk, e, he => by simp at hk
  | es0 :: eds, i, h, k, es, hk, e, he => by
    simp only [okEdges, Bool.and_eq_true] at h
    cases k with
    | zero =>
      simp only [List.getElem?_cons_zero, Option.some.injEq] at hk; subst hk
      have : Nat.ble (e + 1) i = true := List.all_eq_true.1 h.1 e he
      have := ble_true this; omega
    | succ k =>
      have := okEdges_lt eds (i + 1) h.2 k es (by simpa using hk) e he
      omega

/-! ### an operation looks at its slots alone -/

section congr
variable {ts ts' : T Value}

theorem ev_congr {x : Opd} (h : ∀ t ∈ tmpsOf [x], look ts t = look ts' t) : ev ts x = ev ts' x := by
  cases x with
  | t i => exact h i (by simp [tmpsOf])
  | c v => rfl

theorem tmpsOf_append : ∀ (l r : List Opd), tmpsOf (l ++ r) = tmpsOf l ++ tmpsOf r
  | [], r => rfl
  | .t i :: l, r => by simp [tmpsOf, tmpsOf_append l r]
  | .c v :: l, r => by simp [tmpsOf, tmpsOf_append l r]

theorem tmpsOf_mem {l : List Opd} {i : Nat} (h : Opd.t i ∈ l) : i ∈ tmpsOf l := by
  induction l with
  | nil => cases h
  | cons x l ih =>
    cases x with
    | t j =>
      simp only [tmpsOf, List.mem_cons]
      rcases List.mem_cons.1 h with h | h
      · cases h; exact .inl rfl
      · exact .inr (ih h)
    | c v =>
      simp only [tmpsOf]
      rcases List.mem_cons.1 h with h | h
      · cases h
      · exact ih h

theorem evl_congr {l : List Opd} (h : ∀ t ∈ tmpsOf l, look ts t = look ts' t) : ∀ x ∈ l, ev ts x = ev ts' x := by
  intro x hx
  cases x with
  | t i => exact h i (tmpsOf_mem hx)
  | c v => rfl

theorem evP_congr : ∀ {ps : List (Nat × Nat × Opd)}, (∀ x ∈ opdsParts ps, ev ts x = ev ts' x) → evP ts ps = evP ts' ps
  | [], _ => rfl
  | (a, b, x) :: ps, h => by
    simp only [evP]
    rw [h x (by simp [opdsParts]), evP_congr (ps := ps) (fun y hy => h y (by simp [opdsParts, hy]))]

theorem evs_congr : ∀ {l : List Opd}, (∀ x ∈ l, ev ts x = ev ts' x) → evs ts l = evs ts' l
  | [], _ => rfl
  | x :: l, h => by
    simp only [evs]
    rw [h x (by simp), evs_congr (l := l) (fun y hy => h y (by simp [hy]))]

theorem pop_congr {q : POp} (h : ∀ x ∈ opdsP q, ev ts x = ev ts' x) : pop ts q = pop ts' q := by
  cases q <;> simp only [opdsP, List.mem_cons, List.not_mem_nil, or_false, forall_eq_or_imp, forall_eq] at h <;> simp only [pop, popQ] <;> first
    | rfl
    | (rw [h]; done)
    | (rw [h.1, h.2]; done)
    | (rw [h.1, h.2.1, h.2.2]; done)
    | (rw [evP_congr h])
    | (rw [evs_congr (fun x hx => h x (by simp only [List.mem_append]; exact .inl hx)), evs_congr (fun x hx => h x (by simp only [List.mem_append]; exact .inr hx))])

theorem asNO_congr {o : Option Opd} {d : Nat} (h : ∀ x ∈ opdsO o, ev ts x = ev ts' x) : asNO ts d o = asNO ts' d o := by
  cases o with
  | none => rfl
  | some x => simp only [asNO]; rw [h x (by simp [opdsO])]

theorem rop_congr {q : ROp} {h : Heap} (hx : ∀ x ∈ opdsR q, ev ts x = ev ts' x) : rop ts h q = rop ts' h q := by
  cases q with
  | load1 x => simp only [rop, ropQ]; rw [hx x (by simp [opdsR])]
  | loadN n x => simp only [rop, ropQ]; rw [hx x (by simp [opdsR])]
  | cap x => simp only [rop, ropQ]; rw [hx x (by simp [opdsR])]
  | bts x => simp only [rop, ropQ]; rw [hx x (by simp [opdsR])]
  | slice s x lo hi mx =>
    have h0 := hx x (by simp [opdsR])
    have h1 : ∀ d, asNO ts d lo = asNO ts' d lo := fun d => asNO_congr (fun y hy => hx y (by simp [opdsR, hy]))
    have h2 : ∀ d, asNO ts d hi = asNO ts' d hi := fun d => asNO_congr (fun y hy => hx y (by simp [opdsR, hy]))
    have h3 : ∀ d, asNO ts d mx = asNO ts' d mx := fun d => asNO_congr (fun y hy => hx y (by simp [opdsR, hy]))
    simp only [rop, ropQ, h0, h1, h2, h3]

theorem eop_congr {q : EOp} {h : Heap} (hx : ∀ x ∈ opdsE q, ev ts x = ev ts' x) : eop ts h q = eop ts' h q := by
  cases q <;> simp only [opdsE, List.mem_cons, List.not_mem_nil, or_false, forall_eq_or_imp, forall_eq] at hx <;> simp only [eop, eopQ] <;> first
    | rfl
    | (rw [hx]; done)
    | (rw [hx.1, hx.2]; done)
    | (rw [evP_congr hx])

theorem step1_congr {cf : CallF} {h : Heap} {A : AOp} (hx : ∀ x ∈ opds A, ev ts x = ev ts' x) : step1 cf ts h A = step1 cf ts' h A := by
  cases A with
  | p q => simp only [step1, step1Q]; rw [pop_congr hx]
  | r q => simp only [step1, step1Q]; rw [rop_congr hx]
  | e q => simp only [step1, step1Q]; rw [eop_congr hx]
  | call f l => simp only [step1, step1Q]; rw [evs_congr (l := l) hx]
  | callv x l =>
    simp only [step1, step1Q]
    rw [hx x (by simp [opds]), evs_congr (l := l) (fun y hy => hx y (by simp [opds, hy]))]
  | invoke tbl x l =>
    simp only [step1, step1Q]
    rw [hx x (by simp [opds]), evs_congr (l := l) (fun y hy => hx y (by simp [opds, hy]))]
  | bad => rfl

theorem oper_congr {cf : CallF} {o : AOper} (hx : ∀ t ∈ reads o, look ts t = look ts' t) : wantedA ts o.guard = wantedA ts' o.guard ∧ ∀ h, step1 cf ts h o.op = step1 cf ts' h o.op := by
  constructor
  · cases hg : o.guard with
    | none => rfl
    | some p =>
      obtain ⟨t, b⟩ := p
      simp only [wantedA]
      rw [hx t (by simp [reads, hg])]
  · intro h
    exact step1_congr (evl_congr (fun t ht => hx t (by simp [reads, ht])))

end congr

end
end Go.Proofs.YthjhlifbdieibaaGreatDoor.Ai
/- The text's order of a region, told operation by operation. -/
namespace Go.Proofs.YthjhlifbdieibaaGreatDoor.Ai
noncomputable section
open Go.RowKit

/-- how many operations that turn the heap stand ahead of one -/
def cE (l : List AOper) (i : Nat) : Nat := (List.range i).countP (isEat l)

theorem cE_cons (o : AOper) (l : List AOper) : ∀ i, cE (o :: l) (i + 1) = (bif isE o.op then 1 else 0) + cE l i := by
  intro i
  unfold cE
  rw [List.range_succ_eq_map, List.countP_cons, List.countP_map]
  have e1 : (isEat (o :: l) ∘ Nat.succ) = isEat l := by
    funext j; simp [isEat]
  rw [e1]
  have e2 : isEat (o :: l) 0 = isE o.op := by simp [isEat]
  rw [e2]
  cases isE o.op <;> simp <;> omega

theorem cE_succ (l : List AOper) (i : Nat) : cE l (i + 1) = cE l i + (bif isEat l i then 1 else 0) := by
  unfold cE
  rw [List.range_succ, List.countP_append]
  cases h : isEat l i <;> simp [h]

theorem step1_pure {cf : CallF} {ts : T Value} {h h1 : Heap} {A : AOp} {v : Value} (he : isE A = false) (hv : step1 cf ts h A = some (v, h1)) : h1 = h := by
  cases A with
  | p q => simp only [step1, step1Q] at hv; split at hv <;> simp at hv; exact hv.2.symm
  | r q => simp only [step1, step1Q] at hv; split at hv <;> simp at hv; exact hv.2.symm
  | e q => cases he
  | call f l => cases he
  | callv x l => cases he
  | invoke tbl x l => cases he
  | bad => simp [step1, step1Q] at hv

def ran (cf : CallF) (ts : T Value) (h : Heap) (o : AOper) : Option (Value × Heap) := match wantedA ts o.guard with
  | true => step1 cf ts h o.op
  | false => some (undef, h)

theorem ran_pure {cf : CallF} {ts : T Value} {h h1 : Heap} {o : AOper} {v : Value} (he : isE o.op = false) (hv : ran cf ts h o = some (v, h1)) : h1 = h := by
  unfold ran at hv
  split at hv
  · exact step1_pure he hv
  · simp only [Option.some.injEq, Prod.mk.injEq] at hv; exact hv.2.symm

structure TraceOk (cf : CallF) (l : List AOper) (ts : T Value) (h : Heap) (recs : List Rec) (hs : List Heap) (ts' : T Value) (h' : Heap) : Prop where
  len : recs.length = l.length
  hlen : hs.length = cE l l.length
  step : ∀ (i : Nat) (o : AOper), l[i]? = some o → ∃ r, recs[i]? = some r ∧ r.o = o ∧ ∃ ha hb, (h :: hs)[cE l i]? = some ha ∧ (h :: hs)[cE l (i + 1)]? = some hb ∧ ran cf r.ts ha o = some (r.v, hb)
  last : (h :: hs)[cE l l.length]? = some h'
  old : ∀ (i : Nat) (r : Rec) (t : Nat), recs[i]? = some r → (∀ (j : Nat) (o : AOper), j < i → l[j]? = some o → o.dst ≠ some t) → look r.ts t = look ts t
  new : ∀ (i : Nat) (r : Rec) (j : Nat) (o : AOper) (rj : Rec) (t : Nat), recs[i]? = some r → j < i → l[j]? = some o → recs[j]? = some rj → o.dst = some t → (∀ (j' : Nat) (o' : AOper), j < j' → j' < i → l[j']? = some o' → o'.dst ≠ some t) → look r.ts t = rj.v
  old' : ∀ (t : Nat), (∀ (j : Nat) (o : AOper), l[j]? = some o → o.dst ≠ some t) → look ts' t = look ts t
  new' : ∀ (j : Nat) (o : AOper) (rj : Rec) (t : Nat), l[j]? = some o → recs[j]? = some rj → o.dst = some t → (∀ (j' : Nat) (o' : AOper), j < j' → l[j']? = some o' → o'.dst ≠ some t) → look ts' t = rj.v

theorem look_put_same (ts : T Value) (d : Nat) (v : Value) : look (ts.put d v) d = v := by simp [look, T.get_put_same]
theorem look_put_other (ts : T Value) {d t : Nat} (v : Value) (h : t ≠ d) : look (ts.put d v) t = look ts t := by simp [look, T.get_put_other _ _ h]
theorem look_putA_other (ts : T Value) {d : Option Nat} {t : Nat} (v : Value) (h : d ≠ some t) : look (putA ts d v) t = look ts t := by
  cases d with
  | none => rfl
  | some d => exact look_put_other ts v (fun e => h (by rw [e]))

theorem trace_ok (cf : CallF) : ∀ (l : List AOper) (ts : T Value) (h : Heap) (recs : List Rec) (hs : List Heap) (ts' : T Value) (h' : Heap), runTrace cf l ts h = some (recs, hs, ts', h') → TraceOk cf l ts h recs hs ts' h' := by
  intro l
  induction l with
  | nil =>
    intro ts h recs hs ts' h' hv
    simp only [runTrace_nil, Option.some.injEq, Prod.mk.injEq] at hv
    obtain ⟨rfl, rfl, rfl, rfl⟩ := hv
    exact ⟨rfl, by simp [cE], fun i o hi => by simp at hi, by simp [cE], fun i r t hr => by simp at hr, fun i r j o rj t hr => by simp at hr, fun t _ => rfl, fun j o rj t hj => by simp at hj⟩
  | cons o l ih =>
    intro ts h recs hs ts' h' hv
    simp only [runTrace_cons] at hv
    split at hv
    · rename_i v h1 hran
      have hran : ran cf ts h o = some (v, h1) := hran
      split at hv
      · rename_i recs2 hs2 ts2 h2 htr
        simp only [Option.some.injEq, Prod.mk.injEq] at hv
        obtain ⟨rfl, rfl, rfl, rfl⟩ := hv
        have k := ih _ _ _ _ _ _ htr
        -- the heaps
        have heaps : ∀ i, (h :: (bif isE o.op then h1 :: hs2 else hs2))[cE (o :: l) (i + 1)]? = (h1 :: hs2)[cE l i]? := by
          intro i
          rw [cE_cons]
          cases he : isE o.op with
          | true => simp only [cond_true]; rw [Nat.add_comm, List.getElem?_cons_succ]
          | false =>
            have := ran_pure he hran
            subst this
            simp
        have heap0 : (h :: (bif isE o.op then h1 :: hs2 else hs2))[cE (o :: l) 0]? = some h := by simp [cE]
        refine ⟨by simp [k.len], ?_, ?_, ?_, ?_, ?_, ?_, ?_⟩
        · have := k.hlen
          rw [List.length_cons, cE_cons]
          cases isE o.op <;> simp <;> omega
        · intro i oi hi
          cases i with
          | zero =>
            simp only [List.getElem?_cons_zero, Option.some.injEq] at hi; subst hi
            exact ⟨⟨o, ts, v⟩, by simp, rfl, h, h1, heap0, by rw [heaps 0]; simp [cE], hran⟩
          | succ i =>
            obtain ⟨r, g1, g2, ha, hb, g3, g4, g5⟩ := k.step i oi (by simpa using hi)
            exact ⟨r, by simpa using g1, g2, ha, hb, by rw [heaps i]; exact g3, by rw [heaps (i + 1)]; exact g4, g5⟩
        · rw [List.length_cons, heaps l.length]; exact k.last
        · intro i r t hr hno
          cases i with
          | zero => simp only [List.getElem?_cons_zero, Option.some.injEq] at hr; subst hr; rfl
          | succ i =>
            rw [k.old i r t (by simpa using hr) (fun j o' hj ho' => hno (j + 1) o' (by omega) (by simpa using ho'))]
            exact look_putA_other _ _ (hno 0 o (by omega) (by simp))
        · intro i r j oj rj t hr hj hoj hrj hd hno
          cases i with
          | zero => omega
          | succ i =>
            cases j with
            | zero =>
              simp only [List.getElem?_cons_zero, Option.some.injEq] at hoj hrj; subst hoj; subst hrj
              rw [k.old i r t (by simpa using hr) (fun j o' hj ho' => hno (j + 1) o' (by omega) (by omega) (by simpa using ho'))]
              simp only [hd, putA]; exact look_put_same _ _ _
            | succ j =>
              exact k.new i r j oj rj t (by simpa using hr) (by omega) (by simpa using hoj) (by simpa using hrj) hd (fun j' o' a b c => hno (j' + 1) o' (by omega) (by omega) (by simpa using c))
        · intro t hno
          rw [k.old' t (fun j o' ho' => hno (j + 1) o' (by simpa using ho'))]
          exact look_putA_other _ _ (hno 0 o (by simp))
        · intro j oj rj t hoj hrj hd hno
          cases j with
          | zero =>
            simp only [List.getElem?_cons_zero, Option.some.injEq] at hoj hrj; subst hoj; subst hrj
            rw [k.old' t (fun j o' ho' => hno (j + 1) o' (by omega) (by simpa using ho'))]
            simp only [hd, putA]; exact look_put_same _ _ _
          | succ j => exact k.new' j oj rj t (by simpa using hoj) (by simpa using hrj) hd (fun j' o' a c => hno (j' + 1) o' (by omega) (by simpa using c))
      · cases hv
    · cases hv

theorem chkAll_get {hs : List Heap} : ∀ {recs : List Rec} {win : List (Nat × Nat)}, chkAll hs recs win = true → ∀ (i : Nat) (r : Rec) (lo hi : Nat), recs[i]? = some r → win[i]? = some (lo, hi) → ∀ (q : ROp), r.o.op = .r q → lo ≠ hi → wantedA r.ts r.o.guard = true → chkR r.ts q r.v ((hs.drop lo).take (hi + 1 - lo)) = true
  | [], _, _, i, r, lo, hi, hr, _, _, _, _, _ => by simp at hr
  | _ :: _, [], _, i, r, lo, hi, _, hw, _, _, _, _ => by simp at hw
  | r0 :: recs, (lo0, hi0) :: win, h, i, r, lo, hi, hr, hw, q, hq, hne, hwa => by
    simp only [chkAll_cons, chk1, Bool.and_eq_true] at h
    cases i with
    | zero =>
      simp only [List.getElem?_cons_zero, Option.some.injEq] at hr hw
      subst hr; cases hw
      have h1 := h.1
      rw [hq] at h1
      simp only at h1
      rcases beq_cases lo0 hi0 with ⟨b1, b2⟩ | ⟨b1, b2⟩
      · exact absurd b2 hne
      · rw [b1] at h1; simp only [cond_false, hwa] at h1; exact h1
    | succ i => exact chkAll_get h.2 i r lo hi (by simpa using hr) (by simpa using hw) q hq hne hwa

theorem chkR_get {ts : T Value} {q : ROp} {v : Value} : ∀ {hs : List Heap}, chkR ts q v hs = true → ∀ h ∈ hs, rop ts h q = some v
  | [], _, h, hm => by cases hm
  | h0 :: hs, hc, h, hm => by
    simp only [chkR, Bool.and_eq_true] at hc
    rcases List.mem_cons.1 hm with rfl | hm
    · have := hc.1
      split at this
      · rename_i u hu; rw [hu, veq_eq this]
      · cases this
    · exact chkR_get hc.2 h hm

theorem runOps_trace (cf : CallF) : ∀ (l : List AOper) (ts ts' : T Value) (h h' : Heap), runOps cf l ts h = some (ts', h') → ∃ recs hs, runTrace cf l ts h = some (recs, hs, ts', h') ∧ recs.map (·.o) = l
  | [], ts, ts', h, h', hv => by
    simp only [runOps_nil, Option.some.injEq, Prod.mk.injEq] at hv
    obtain ⟨rfl, rfl⟩ := hv
    exact ⟨[], [], by rw [runTrace_nil], rfl⟩
  | o :: r, ts, ts', h, h', hv => by
    simp only [runOps_cons] at hv
    rw [runTrace_cons]
    split at hv
    · split at hv
      · rename_i v h1 hs1
        obtain ⟨recs, hs, g1, g2⟩ := runOps_trace cf r _ _ _ _ hv
        simp only [hs1, g1]
        exact ⟨_, _, rfl, by simp [g2]⟩
      · cases hv
    · obtain ⟨recs, hs, g1, g2⟩ := runOps_trace cf r _ _ _ _ hv
      simp only [g1]
      exact ⟨_, _, rfl, by simp [g2]⟩

theorem chk_triv (hs : List Heap) : ∀ (l : List AOper) (ws : List (Nat × Nat)) (recs : List Rec), trivW l ws = true → recs.map (·.o) = l → chkAll hs recs ws = true
  | _, [], recs, _, _ => chkAll_nil' hs recs
  | l, _ :: _, [], _, _ => chkAll_nil hs _
  | [], _ :: _, _ :: _, _, hm => by simp at hm
  | o :: l, (lo, hi) :: ws, r :: recs, ht, hm => by
    simp only [trivW, Bool.and_eq_true] at ht
    simp only [List.map_cons, List.cons.injEq] at hm
    rw [chkAll_cons, chk_triv hs l ws recs ht.2 hm.2, Bool.and_true]
    have h1 := ht.1
    rw [← hm.1] at h1
    unfold chk1
    split at h1
    · simp only [h1, cond_true]
    · rfl

theorem draw_trace {cf : CallF} {l : List AOper} {ws : List (Nat × Nat)} {ts ts' : T Value} {h h' : Heap} (hv : runDraw cf l (winsOf l ws) ts h = some (ts', h')) : ∃ recs hs, runTrace cf l ts h = some (recs, hs, ts', h') ∧ chkAll (h :: hs) recs ws = true := by
  unfold winsOf at hv
  cases ht : trivW l ws with
  | true =>
    rw [ht] at hv; simp only [cond_true, runDraw] at hv
    obtain ⟨recs, hs, g1, g2⟩ := runOps_trace cf l _ _ _ _ hv
    exact ⟨recs, hs, g1, chk_triv _ l ws recs ht g2⟩
  | false =>
    rw [ht] at hv; simp only [cond_false] at hv
    unfold runDraw at hv
    split at hv
    · obtain ⟨recs, hs, g1, g2⟩ := runOps_trace cf l _ _ _ _ hv
      exact ⟨recs, hs, g1, chkAll_nil' _ _⟩
    · split at hv
      · rename_i recs hs t3 h3 htr
        cases hck : chkAll (h :: hs) recs _ with
        | false => rw [hck] at hv; cases hv
        | true =>
          rw [hck] at hv; simp only [cond_true, Option.some.injEq, Prod.mk.injEq] at hv
          obtain ⟨rfl, rfl⟩ := hv
          exact ⟨recs, hs, htr, hck⟩
      · cases hv

end
end Go.Proofs.YthjhlifbdieibaaGreatDoor.Ai
/- A region whose order is open. -/
namespace Go.Proofs.YthjhlifbdieibaaGreatDoor.Ai
noncomputable section
open Go.RowKit

theorem countP_lt {α : Type} (p q : α → Bool) : ∀ (l : List α), (∀ x ∈ l, q x = true → p x = true) → (∃ x ∈ l, p x = true ∧ q x = false) → l.countP q < l.countP p
  | [], _, ⟨x, hx, _⟩ => by cases hx
  | y :: l, h, ⟨x, hx, h1, h2⟩ => by
    have hm : l.countP q ≤ l.countP p := List.countP_mono_left (fun z hz => h z (List.mem_cons_of_mem _ hz))
    simp only [List.countP_cons]
    rcases List.mem_cons.1 hx with rfl | hx
    · rw [h1, h2]; simp; omega
    · have := countP_lt p q l (fun z hz => h z (List.mem_cons_of_mem _ hz)) ⟨x, hx, h1, h2⟩
      have hy := h y (by simp)
      cases hq : q y with
      | true => rw [hy hq]; simp; omega
      | false => cases p y <;> simp <;> omega

theorem countP_below (p : Nat → Bool) (n : Nat) : ∀ i, i ≤ n → (List.range n).countP (fun e => p e && Nat.blt e i) = (List.range i).countP p := by
  induction n with
  | zero => intro i hi; have : i = 0 := by omega
            subst this; simp
  | succ n ih =>
    intro i hi
    rw [List.range_succ, List.countP_append]
    by_cases h : i = n + 1
    · subst h
      rw [List.range_succ, List.countP_append]
      have e1 : (List.range n).countP (fun e => p e && Nat.blt e (n + 1)) = (List.range n).countP p := by
        refine List.countP_congr (fun x hx => ?_)
        have : Nat.blt x (n + 1) = true := Nat.ble_eq_true_of_le (by have := List.mem_range.1 hx; omega)
        simp [this]
      have e2 : Nat.blt n (n + 1) = true := Nat.ble_eq_true_of_le (by omega)
      rw [e1]; simp [e2]
    · rw [ih i (by omega)]
      have e2 : Nat.blt n i = false := by
        cases hb : Nat.blt n i with
        | false => rfl
        | true => have := Nat.le_of_ble_eq_true hb; omega
      simp [e2]

structure Statics (tbl : List Nat) (l : List AOper) (E : Nat → List Nat) (n F : Nat) : Prop where
  len : l.length = n
  lt : ∀ i, i < n → ∀ e ∈ E i, e < i
  ancE : ∀ i j, anc tbl i j = true → Anc E i j
  dst : ∀ (i j : Nat) (oi oj : AOper) (d : Nat), l[i]? = some oi → l[j]? = some oj → oi.dst = some d → oj.dst = some d → i = j
  rd : ∀ (i j : Nat) (oi oj : AOper) (d : Nat), l[i]? = some oi → l[j]? = some oj → oj.dst = some d → d ∈ reads oi → i = j ∨ anc tbl i j = true ∨ anc tbl j i = true
  ef : ∀ (i j : Nat), i < n → j < n → isEat l i = true → isEat l j = true → i = j ∨ anc tbl i j = true ∨ anc tbl j i = true ∨ (i = F ∧ j < F) ∨ (j = F ∧ i < F)
  fl : ∀ o, l[F]? = some o → newOp o.op = true ∧ o.guard = none ∧ ∃ d, o.dst = some d
  beh : ∀ o, l[F]? = some o → ∀ i, i < n → anc tbl i F = true ∨ F ∈ E i → ∀ e, e < F → isEat l e = true → anc tbl i e = true

theorem blt_true {a b : Nat} (h : Nat.blt a b = true) : a < b := Nat.lt_of_succ_le (Nat.le_of_ble_eq_true h)
theorem blt_iff {a b : Nat} : Nat.blt a b = true ↔ a < b := ⟨blt_true, fun h => Nat.ble_eq_true_of_le h⟩

theorem Statics.of {tbl : List Nat} {l : List AOper} {eds : List (List Nat)} (h : okDraw tbl l eds = true) (ht : tbl = mkTbl [] eds) : Statics tbl l (fun i => (eds[i]?).getD []) l.length (findFl tbl l) := by
  unfold okDraw at h
  simp only [Bool.and_eq_true] at h
  obtain ⟨⟨⟨h1, h2⟩, hfl⟩, h3⟩ := h
  have h2 := Nat.eq_of_beq_eq_true h2
  have pair : ∀ (i j : Nat) (oi oj : AOper), l[i]? = some oi → l[j]? = some oj → okPair tbl l (findFl tbl l) i j = true := by
    intro i j oi oj hi hj
    have hi' := (List.getElem?_eq_some_iff.1 hi).1
    have hj' := (List.getElem?_eq_some_iff.1 hj).1
    exact List.all_eq_true.1 (List.all_eq_true.1 h3 i (List.mem_range.2 hi')) j (List.mem_range.2 hj')
  refine ⟨rfl, ?_, ?_, ?_, ?_, ?_, ?_, ?_⟩
  · intro i hi e he
    have hi' : i < eds.length := by omega
    rw [List.getElem?_eq_getElem hi'] at he
    have := okEdges_lt eds 0 h1 i _ (List.getElem?_eq_getElem hi') e he
    omega
  · rw [ht]
    refine mkTbl_anc _ eds [] (fun k es hk => by simp [hk]) (fun i j hij => ?_)
    simp [anc] at hij
  · intro i j oi oj d hi hj d1 d2
    have hp := pair i j oi oj hi hj
    unfold okPair at hp
    simp only [hi, hj, d1, d2, Bool.or_eq_true, Bool.and_eq_true] at hp
    rcases hp with hp | ⟨⟨hp, _⟩, _⟩
    · exact Nat.eq_of_beq_eq_true hp
    · simp at hp
  · intro i j oi oj d hi hj d2 hr
    have hp := pair i j oi oj hi hj
    unfold okPair at hp
    simp only [hi, hj, d2, Bool.or_eq_true, Bool.and_eq_true] at hp
    rcases hp with hp | ⟨⟨_, hp⟩, _⟩
    · exact .inl (Nat.eq_of_beq_eq_true hp)
    · have hany : (reads oi).any (Nat.beq d) = true := List.any_eq_true.2 ⟨d, hr, Nat.beq_refl d⟩
      rw [hany] at hp
      simp at hp
      exact .inr hp
  · intro i j hi hj ei ej
    have hp := pair i j _ _ (List.getElem?_eq_getElem hi) (List.getElem?_eq_getElem hj)
    unfold okPair at hp
    simp only [isEat, List.getElem?_eq_getElem hi] at ei
    simp only [isEat, List.getElem?_eq_getElem hj] at ej
    simp only [List.getElem?_eq_getElem hi, List.getElem?_eq_getElem hj, Bool.or_eq_true, Bool.and_eq_true, ei, ej] at hp
    rcases hp with hp | ⟨_, hp⟩
    · exact .inl (Nat.eq_of_beq_eq_true hp)
    · rcases hp with (((hp | hp) | hp) | hp) | hp
      · simp at hp
      · exact .inr (.inl hp)
      · exact .inr (.inr (.inl hp))
      · exact .inr (.inr (.inr (.inl ⟨Nat.eq_of_beq_eq_true hp.1, blt_true hp.2⟩)))
      · exact .inr (.inr (.inr (.inr ⟨Nat.eq_of_beq_eq_true hp.1, blt_true hp.2⟩)))
  · intro o ho
    unfold okFl at hfl
    rw [ho] at hfl
    simp only [Bool.and_eq_true] at hfl
    exact ⟨hfl.1.1.1, Option.isNone_iff_eq_none.1 hfl.1.1.2, Option.isSome_iff_exists.1 hfl.1.2⟩
  · intro o ho i hi ha e he hE
    unfold okFl at hfl
    rw [ho] at hfl
    simp only [Bool.and_eq_true] at hfl
    have := List.all_eq_true.1 hfl.2 i (List.mem_range.2 hi)
    have hz : (!(anc tbl i (findFl tbl l)) && !(((eds[i]?).getD []).any (Nat.beq (findFl tbl l)))) = false := by
      rcases ha with ha | ha
      · rw [ha]; rfl
      · have : ((eds[i]?).getD []).any (Nat.beq (findFl tbl l)) = true := List.any_eq_true.2 ⟨_, ha, Nat.beq_refl _⟩
        rw [this]; simp
    rw [hz, Bool.false_or] at this
    have := List.all_eq_true.1 this e (List.mem_range.2 he)
    rw [hE] at this
    simpa using this

section
variable {P : Program} {B : Fr} {w0 : World} {cf : CallF} {N n : Nat} {ops : Array Oper} {l : List AOper} {tbl : List Nat} {E : Nat → List Nat}
  {recs : List Rec} {hs : List Heap} {ts ts' : T Value} {h h' : Heap} {Q : Exit → Act → World → Prop}

theorem compOpers_get : ∀ (l1 : List Oper) (l2 : List AOper), compOpers P N ops l1 = some l2 → l2.length = l1.length ∧ ∀ (i : Nat) (o : Oper), l1[i]? = some o → ∃ ao, l2[i]? = some ao ∧ OperOk P N ops o ao
  | [], l2, hc => by
    simp only [compOpers, Option.some.injEq] at hc; subst hc
    exact ⟨rfl, fun i o hi => by simp at hi⟩
  | o :: l1, l2, hc => by
    simp only [compOpers] at hc
    split at hc
    · rename_i ao l3 h1 h2
      simp only [Option.some.injEq] at hc; subst hc
      obtain ⟨g1, g2⟩ := compOpers_get l1 l3 h2
      refine ⟨by simp [g1], fun i oi hi => ?_⟩
      cases i with
      | zero => simp only [List.getElem?_cons_zero, Option.some.injEq] at hi; subst hi; exact ⟨ao, by simp, compOper_ok h1⟩
      | succ i => obtain ⟨a1, a2, a3⟩ := g2 i oi (by simpa using hi); exact ⟨a1, by simpa using a2, a3⟩
    · cases hc

/-- where a region stands: what has run, what that came to -/
structure Stand (P : Program) (B : Fr) (w0 : World) (N : Nat) (l : List AOper) (E : Nat → List Nat) (n : Nat) (recs : List Rec) (hall : List Heap) (ts : T Value) (μ : Map) (ds : List Deferred) (x : Option Nat) (listed : Array Bool) (a : Act) (w : World) : Prop where
  size : listed.size = n
  closed : ∀ i j, listed.getD i false = true → j ∈ E i → listed.getD j false = true
  tsz : a.tmps.size = N
  dfs : a.defers = ds
  st : ∃ μ' tsS hh, μ.le μ' ∧ hall[(List.range n).countP (fun e => isEat l e && listed.getD e false)]? = some hh ∧ Rel (Cc P) μ' hh B w0 w ∧ TsRel μ' tsS a ∧
    (∀ (j : Nat) (o : AOper) (r : Rec) (t : Nat), x ≠ some t → l[j]? = some o → recs[j]? = some r → listed.getD j false = true → o.dst = some t → look tsS t = r.v) ∧
    (∀ (t : Nat), x ≠ some t → (∀ (j : Nat) (o : AOper), l[j]? = some o → listed.getD j false = true → o.dst ≠ some t) → look tsS t = look ts t)

theorem getD_set {listed : Array Bool} {i j : Nat} (hi : i < listed.size) : (listed.setIfInBounds i true).getD j false = (decide (j = i) || listed.getD j false) := by
  simp only [Array.getD_eq_getD_getElem?, Array.getElem?_setIfInBounds]
  by_cases h : i = j
  · subst h; simp [hi]
  · simp [h, Ne.symm h]

/-- the slots that an operation looks at that may run now -/
theorem ready_look {F : Nat} (S : Statics tbl l E n F) (tr : TraceOk cf l ts h recs hs ts' h')
    {listed : Array Bool} (hcl : ∀ i j, listed.getD i false = true → j ∈ E i → listed.getD j false = true) {i : Nat} (hi : i < n) (hno : listed.getD i false = false) (hrd : ∀ j ∈ E i, listed.getD j false = true)
    {o : AOper} (ho : l[i]? = some o) {tsS : T Value} (h1 : ∀ (j : Nat) (oj : AOper) (r : Rec) (t : Nat), t ∈ reads o → l[j]? = some oj → recs[j]? = some r → listed.getD j false = true → oj.dst = some t → look tsS t = r.v)
    (h2 : ∀ (t : Nat), t ∈ reads o → (∀ (j : Nat) (o : AOper), l[j]? = some o → listed.getD j false = true → o.dst ≠ some t) → look tsS t = look ts t) :
    ∃ r ha hb, recs[i]? = some r ∧ (h :: hs)[cE l i]? = some ha ∧ (h :: hs)[cE l (i + 1)]? = some hb ∧ ran cf r.ts ha o = some (r.v, hb) ∧ ∀ t ∈ reads o, look tsS t = look r.ts t := by
  obtain ⟨r, hr, _, ha, hb, g1, g2, g3⟩ := tr.step i o ho
  -- what is behind and ahead of i
  have ancIn : ∀ j, anc tbl i j = true → listed.getD j false = true ∨ j = i := by
    intro j hj
    have := S.ancE i j hj (fun x => listed.getD x false = true ∨ x = i) (fun x y hx hy => by
      rcases hx with hx | rfl
      · exact .inl (hcl x y hx hy)
      · exact .inl (hrd y hy)) (.inr rfl)
    exact this
  have ancLe : ∀ x y, x < n → anc tbl x y = true → y ≤ x := by
    intro x y hx hxy
    exact S.ancE x y hxy (fun z => z ≤ x) (fun a b ha hb => by
      have := S.lt a (by omega) b hb; omega) (Nat.le_refl _)
  have ancOut : ∀ j, j < n → anc tbl j i = true → listed.getD j false = true → False := by
    intro j hj hji hl
    have := S.ancE j i hji (fun x => listed.getD x false = true) (fun x y hx hy => hcl x y hx hy) hl
    rw [hno] at this; cases this
  have lens := S.len
  -- the slots that it looks at
  have hlook : ∀ t ∈ reads o, look tsS t = look r.ts t := by
    intro t ht
    by_cases hw : ∃ (j : Nat) (oj : AOper), l[j]? = some oj ∧ oj.dst = some t
    · obtain ⟨j, oj, hj, hd⟩ := hw
      have hjn : j < n := by rw [← lens]; exact (List.getElem?_eq_some_iff.1 hj).1
      have uniq : ∀ (j' : Nat) (o' : AOper), l[j']? = some o' → o'.dst = some t → j' = j := fun j' o' hj' hd' => S.dst j' j o' oj t hj' hj hd' hd
      obtain ⟨rj, hrj, _⟩ := tr.step j oj hj
      have notS : listed.getD j false = false → look tsS t = look ts t := fun hf => h2 t ht (fun j' o' hj' hl hd' => by
        rw [uniq j' o' hj' hd', hf] at hl; cases hl)
      have notB : ¬ (j < i) → look r.ts t = look ts t := fun hf => tr.old i r t hr (fun j' o' hlt hj' hd' => hf (by rw [← uniq j' o' hj' hd']; exact hlt))
      rcases S.rd i j o oj t ho hj hd ht with hij | hij | hij
      · subst hij
        rw [notS hno, notB (Nat.lt_irrefl _)]
      · by_cases hji : j = i
        · subst hji; rw [notS hno, notB (Nat.lt_irrefl _)]
        · have hlt : j < i := by have := ancLe i j hi hij; omega
          have hl : listed.getD j false = true := (ancIn j hij).resolve_right hji
          rw [h1 j oj rj t ht hj hrj hl hd]
          exact (tr.new i r j oj rj t hr hlt hj hrj hd (fun j' o' a b c hd' => by have := uniq j' o' c hd'; omega)).symm
      · by_cases hji : j = i
        · subst hji; rw [notS hno, notB (Nat.lt_irrefl _)]
        · have hge : ¬ (j < i) := by have := ancLe j i hjn hij; omega
          have hl : listed.getD j false = false := by
            cases hq : listed.getD j false with
            | false => rfl
            | true => exact (ancOut j hjn hij hq).elim
          rw [notS hl, notB hge]
    · rw [h2 t ht (fun j' o' hj' _ hd' => hw ⟨j', o', hj', hd'⟩), tr.old i r t hr (fun j' o' _ hj' hd' => hw ⟨j', o', hj', hd'⟩)]
  exact ⟨r, ha, hb, hr, g1, g2, g3, hlook⟩

/-- one operation that may run now: it comes to what it came to in the text's order -/
theorem ready_step {F : Nat} (S : Statics tbl l E n F) (tr : TraceOk cf l ts h recs hs ts' h') (hck : chkAll (h :: hs) recs ((List.range n).map (winOf tbl (effs l))) = true)
    {listed : Array Bool} (_hsz : listed.size = n) (hcl : ∀ i j, listed.getD i false = true → j ∈ E i → listed.getD j false = true) {i : Nat} (hi : i < n) (hno : listed.getD i false = false) (hrd : ∀ j ∈ E i, listed.getD j false = true)
    {o : AOper} (ho : l[i]? = some o) {tsS : T Value} (h1 : ∀ (j : Nat) (oj : AOper) (r : Rec) (t : Nat), t ∈ reads o → l[j]? = some oj → recs[j]? = some r → listed.getD j false = true → oj.dst = some t → look tsS t = r.v)
    (h2 : ∀ (t : Nat), t ∈ reads o → (∀ (j : Nat) (o : AOper), l[j]? = some o → listed.getD j false = true → o.dst ≠ some t) → look tsS t = look ts t) (hord : isE o.op = true → ∀ e, e < n → isEat l e = true → e ≠ i → (listed.getD e false = true ↔ e < i)) {hh : Heap}
    (hhh : (h :: hs)[(List.range n).countP (fun e => isEat l e && listed.getD e false)]? = some hh) :
    ∃ r h2, recs[i]? = some r ∧ ran cf tsS hh o = some (r.v, h2) ∧ (h :: hs)[(List.range n).countP (fun e => isEat l e && (decide (e = i) || listed.getD e false))]? = some h2 := by
  obtain ⟨r, hr, hro, ha, hb, g1, g2, g3⟩ := tr.step i o ho
  -- what is behind and ahead of i
  have ancIn : ∀ j, anc tbl i j = true → listed.getD j false = true ∨ j = i := by
    intro j hj
    have := S.ancE i j hj (fun x => listed.getD x false = true ∨ x = i) (fun x y hx hy => by
      rcases hx with hx | rfl
      · exact .inl (hcl x y hx hy)
      · exact .inl (hrd y hy)) (.inr rfl)
    exact this
  have ancLe : ∀ x y, x < n → anc tbl x y = true → y ≤ x := by
    intro x y hx hxy
    exact S.ancE x y hxy (fun z => z ≤ x) (fun a b ha hb => by
      have := S.lt a (by omega) b hb; omega) (Nat.le_refl _)
  have ancOut : ∀ j, j < n → anc tbl j i = true → listed.getD j false = true → False := by
    intro j hj hji hl
    have := S.ancE j i hji (fun x => listed.getD x false = true) (fun x y hx hy => hcl x y hx hy) hl
    rw [hno] at this; cases this
  have lens := S.len
  -- the slots that it looks at
  have hlook : ∀ t ∈ reads o, look tsS t = look r.ts t := by
    intro t ht
    by_cases hw : ∃ (j : Nat) (oj : AOper), l[j]? = some oj ∧ oj.dst = some t
    · obtain ⟨j, oj, hj, hd⟩ := hw
      have hjn : j < n := by rw [← lens]; exact (List.getElem?_eq_some_iff.1 hj).1
      have uniq : ∀ (j' : Nat) (o' : AOper), l[j']? = some o' → o'.dst = some t → j' = j := fun j' o' hj' hd' => S.dst j' j o' oj t hj' hj hd' hd
      obtain ⟨rj, hrj, _⟩ := tr.step j oj hj
      have notS : listed.getD j false = false → look tsS t = look ts t := fun hf => h2 t ht (fun j' o' hj' hl hd' => by
        rw [uniq j' o' hj' hd', hf] at hl; cases hl)
      have notB : ¬ (j < i) → look r.ts t = look ts t := fun hf => tr.old i r t hr (fun j' o' hlt hj' hd' => hf (by rw [← uniq j' o' hj' hd']; exact hlt))
      rcases S.rd i j o oj t ho hj hd ht with hij | hij | hij
      · subst hij
        rw [notS hno, notB (Nat.lt_irrefl _)]
      · by_cases hji : j = i
        · subst hji; rw [notS hno, notB (Nat.lt_irrefl _)]
        · have hlt : j < i := by have := ancLe i j hi hij; omega
          have hl : listed.getD j false = true := (ancIn j hij).resolve_right hji
          rw [h1 j oj rj t ht hj hrj hl hd]
          exact (tr.new i r j oj rj t hr hlt hj hrj hd (fun j' o' a b c hd' => by have := uniq j' o' c hd'; omega)).symm
      · by_cases hji : j = i
        · subst hji; rw [notS hno, notB (Nat.lt_irrefl _)]
        · have hge : ¬ (j < i) := by have := ancLe j i hjn hij; omega
          have hl : listed.getD j false = false := by
            cases hq : listed.getD j false with
            | false => rfl
            | true => exact (ancOut j hjn hij hq).elim
          rw [notS hl, notB hge]
    · rw [h2 t ht (fun j' o' hj' _ hd' => hw ⟨j', o', hj', hd'⟩), tr.old i r t hr (fun j' o' _ hj' hd' => hw ⟨j', o', hj', hd'⟩)]
  have cong := oper_congr (cf := cf) hlook
  have ranEq : ∀ H, ran cf tsS H o = ran cf r.ts H o := by
    intro H; unfold ran; rw [cong.1, cong.2]
  have hE : isEat l i = isE o.op := by simp [isEat, ho]
  have hiN : i ≤ n := Nat.le_of_lt hi
  refine ⟨r, ?_⟩
  cases he : isE o.op with
  | true =>
    -- it turns the heap: those ahead of it have run, those behind it have not
    have same : (List.range n).countP (fun e => isEat l e && listed.getD e false) = cE l i := by
      unfold cE
      rw [← countP_below (isEat l) n i hiN]
      refine List.countP_congr (fun e hen => ?_)
      have hen := List.mem_range.1 hen
      cases hq : isEat l e with
      | false => simp
      | true =>
        simp only [Bool.true_and]
        by_cases hei : e = i
        · subst hei; rw [hno]; simp
        · rw [hord he e hen hq hei, blt_iff]
    have next : (List.range n).countP (fun e => isEat l e && (decide (e = i) || listed.getD e false)) = cE l (i + 1) := by
      unfold cE
      rw [← countP_below (isEat l) n (i + 1) hi]
      refine List.countP_congr (fun e hen => ?_)
      have hen := List.mem_range.1 hen
      cases hq : isEat l e with
      | false => simp
      | true =>
        simp only [Bool.true_and]
        by_cases hei : e = i
        · subst hei; simp
        · rw [Bool.or_eq_true, hord he e hen hq hei, blt_iff]
          simp [hei]; omega
    rw [same, g1] at hhh
    simp only [Option.some.injEq] at hhh
    subst hhh
    exact ⟨hb, hr, by rw [ranEq]; exact g3, by rw [next]; exact g2⟩
  | false =>
    have next : (List.range n).countP (fun e => isEat l e && (decide (e = i) || listed.getD e false)) = (List.range n).countP (fun e => isEat l e && listed.getD e false) := by
      refine List.countP_congr (fun e _ => ?_)
      by_cases hei : e = i
      · subst hei; rw [hE, he]; simp
      · simp [hei]
    have hab : hb = ha := ran_pure he g3
    subst hab
    refine ⟨hh, hr, ?_, by rw [next]; exact hhh⟩
    rw [ranEq]
    unfold ran at g3 ⊢
    cases hwa : wantedA r.ts o.guard with
    | false =>
      rw [hwa] at g3; simp only [Option.some.injEq, Prod.mk.injEq] at g3 ⊢
      exact ⟨g3.1, trivial⟩
    | true =>
      rw [hwa] at g3; simp only at g3 ⊢
      cases hop : o.op with
      | p q =>
        rw [hop] at g3; simp only [step1, step1Q] at g3 ⊢
        split at g3
        · rename_i u hu; simp only [Option.some.injEq, Prod.mk.injEq] at g3; rw [g3.1]
        · cases g3
      | e q => rw [hop] at he; cases he
      | call f q => rw [hop] at he; cases he
      | callv x q => rw [hop] at he; cases he
      | invoke tbl x q => rw [hop] at he; cases he
      | bad => rw [hop] at g3; simp [step1, step1Q] at g3
      | r q =>
        rw [hop] at g3; simp only [step1, step1Q] at g3 ⊢
        have g4 : rop r.ts hb q = some r.v := by
          split at g3
          · rename_i u hu; simp only [Option.some.injEq, Prod.mk.injEq] at g3; rw [hu, g3.1]
          · cases g3
        -- between which numbers of turnings
        have key : rop r.ts hh q = some r.v := by
          have lo : (winOf tbl (effs l) i).1 ≤ (List.range n).countP (fun e => isEat l e && listed.getD e false) := by
            simp only [winOf, effs, List.filter_filter, ← List.countP_eq_length_filter, lens]
            refine List.countP_mono_left (fun e _ hx => ?_)
            simp only [Bool.and_eq_true] at hx ⊢
            refine ⟨hx.2, (ancIn e hx.1).resolve_right (fun hei => ?_)⟩
            subst hei
            have := hx.2
            rw [ho] at this; simp only at this; rw [this] at he; cases he
          have hi' : (List.range n).countP (fun e => isEat l e && listed.getD e false) ≤ (winOf tbl (effs l) i).2 := by
            simp only [winOf, effs, List.filter_filter, ← List.countP_eq_length_filter, lens]
            refine List.countP_mono_left (fun e hen hx => ?_)
            simp only [Bool.and_eq_true] at hx ⊢
            refine ⟨?_, hx.1⟩
            cases hq : anc tbl e i with
            | false => rfl
            | true => exact (ancOut e (List.mem_range.1 hen) hq hx.2).elim
          have lo2 : (winOf tbl (effs l) i).1 ≤ cE l i := by
            unfold cE
            rw [← countP_below (isEat l) n i hiN]
            simp only [winOf, effs, List.filter_filter, ← List.countP_eq_length_filter, lens]
            refine List.countP_mono_left (fun e _ hx => ?_)
            simp only [Bool.and_eq_true] at hx ⊢
            refine ⟨hx.2, blt_iff.2 ?_⟩
            have := ancLe i e hi hx.1
            have hne : e ≠ i := fun hei => by
              subst hei
              have := hx.2
              rw [ho] at this; simp only at this; rw [this] at he; cases he
            omega
          have hi2 : cE l i ≤ (winOf tbl (effs l) i).2 := by
            unfold cE
            rw [← countP_below (isEat l) n i hiN]
            simp only [winOf, effs, List.filter_filter, ← List.countP_eq_length_filter, lens]
            refine List.countP_mono_left (fun e hen hx => ?_)
            simp only [Bool.and_eq_true] at hx ⊢
            refine ⟨?_, hx.1⟩
            cases hq : anc tbl e i with
            | false => rfl
            | true =>
              have := ancLe e i (List.mem_range.1 hen) hq
              have := blt_true hx.2
              omega
          by_cases heq : (winOf tbl (effs l) i).1 = (winOf tbl (effs l) i).2
          · have : (List.range n).countP (fun e => isEat l e && listed.getD e false) = cE l i := by omega
            rw [this, g1] at hhh
            simp only [Option.some.injEq] at hhh
            subst hhh
            exact g4
          · have hwin : ((List.range n).map (winOf tbl (effs l)))[i]? = some ((winOf tbl (effs l) i).1, (winOf tbl (effs l) i).2) := by
              rw [List.getElem?_map, List.getElem?_range hi]; rfl
            have hc := chkAll_get hck i r _ _ hr hwin q (by rw [hro]; exact hop) heq (by rw [hro]; exact hwa)
            refine chkR_get hc hh ?_
            refine List.mem_of_getElem? (i := (List.range n).countP (fun e => isEat l e && listed.getD e false) - (winOf tbl (effs l) i).1) ?_
            rw [List.getElem?_take, if_pos (by omega), List.getElem?_drop]
            rw [show (winOf tbl (effs l) i).1 + ((List.range n).countP (fun e => isEat l e && listed.getD e false) - (winOf tbl (effs l) i).1) = (List.range n).countP (fun e => isEat l e && listed.getD e false) by omega]
            exact hhh
        rw [key]

end
end
end Go.Proofs.YthjhlifbdieibaaGreatDoor.Ai
/- The marks are the activation's own: no operation turns them. -/
namespace Go.Proofs.YthjhlifbdieibaaGreatDoor.Ai
noncomputable section
open Go.RowKit

/-- a call leaves the marks as they were -/
def MarksOk (cf : CallF) : Prop := ∀ t args h v h', cf t args h = some (v, h') → h'.marks = h.marks

theorem wrs_marks {h h' : Heap} {b o : Nat} {vs : List Value} (hw : h.wrs b o vs = some h') : h'.marks = h.marks := by
  unfold Heap.wrs at hw
  split at hw
  · simp only [Bool.cond_eq_ite] at hw
    split at hw
    · cases hw; rfl
    · cases hw
  · cases hw

theorem appA_marks {h h' : Heap} {s bytes ty : Nat} {base : Option Addr} {len cap : Nat} {news : List Value} {n : Nat} {v : Value} (hv : appA h s bytes ty base len cap news n = some (v, h')) : h'.marks = h.marks := by
  unfold appA at hv
  simp only [Bool.cond_eq_ite] at hv
  repeat' split at hv
  all_goals first
    | (cases hv; done)
    | (simp only [Option.some.injEq, Prod.mk.injEq] at hv; obtain ⟨_, rfl⟩ := hv; first | rfl | exact wrs_marks (by assumption))

theorem ustV_marks {h h' : Heap} {ty : Nat} {x y v : Value} (hv : ustV h ty x y = some (v, h')) : h'.marks = h.marks := by
  unfold ustV at hv
  simp only [Bool.cond_eq_ite] at hv
  repeat' split at hv
  all_goals first
    | (cases hv; done)
    | (simp only [Option.some.injEq, Prod.mk.injEq] at hv; obtain ⟨_, rfl⟩ := hv; rfl)

theorem eop_marks {ts : T Value} {h h' : Heap} {q : EOp} {v : Value} (hv : eop ts h q = some (v, h')) : h'.marks = h.marks := by
  cases q <;> simp only [eop, eopQ, Bool.cond_eq_ite] at hv
  all_goals (repeat' split at hv)
  all_goals first
    | (cases hv; done)
    | exact appA_marks hv
    | exact ustV_marks hv
    | (simp only [Option.some.injEq, Prod.mk.injEq] at hv; obtain ⟨_, rfl⟩ := hv; first | rfl | exact wrs_marks (by assumption))

theorem step1_marks {cf : CallF} (hm : MarksOk cf) {ts : T Value} {h h' : Heap} {A : AOp} {v : Value} (hv : step1 cf ts h A = some (v, h')) : h'.marks = h.marks := by
  cases A <;> simp only [step1, step1Q] at hv
  case e q => exact eop_marks hv
  case call f l => exact hm _ _ _ _ _ hv
  all_goals (repeat' split at hv)
  all_goals first
    | (cases hv; done)
    | exact hm _ _ _ _ _ hv
    | (simp only [Option.some.injEq, Prod.mk.injEq] at hv; obtain ⟨_, rfl⟩ := hv; rfl)

theorem runOps_marks {cf : CallF} (hm : MarksOk cf) : ∀ (l : List AOper) (ts ts' : T Value) (h h' : Heap), runOps cf l ts h = some (ts', h') → h'.marks = h.marks
  | [], ts, ts', h, h', hv => by simp only [runOps_nil, Option.some.injEq, Prod.mk.injEq] at hv; obtain ⟨_, rfl⟩ := hv; rfl
  | o :: r, ts, ts', h, h', hv => by
    simp only [runOps_cons] at hv
    split at hv
    · split at hv
      · rename_i v h1 hs
        rw [runOps_marks hm r _ _ _ _ hv, step1_marks hm hs]
      · cases hv
    · exact runOps_marks hm r _ _ _ _ hv

theorem runTrace_marks {cf : CallF} (hm : MarksOk cf) : ∀ (l : List AOper) (ts ts' : T Value) (h h' : Heap) (recs : List Rec) (hs : List Heap), runTrace cf l ts h = some (recs, hs, ts', h') → h'.marks = h.marks
  | [], ts, ts', h, h', recs, hs, hv => by simp only [runTrace_nil, Option.some.injEq, Prod.mk.injEq] at hv; obtain ⟨_, _, _, rfl⟩ := hv; rfl
  | o :: r, ts, ts', h, h', recs, hs, hv => by
    simp only [runTrace_cons] at hv
    split at hv
    · rename_i v h1 hs1
      split at hv
      · rename_i recs2 hs2 t2 h2 hr
        simp only [Option.some.injEq, Prod.mk.injEq] at hv
        obtain ⟨_, _, _, rfl⟩ := hv
        rw [runTrace_marks hm r _ _ _ _ _ _ hr]
        split at hs1
        · exact step1_marks hm hs1
        · simp only [Option.some.injEq, Prod.mk.injEq] at hs1; obtain ⟨_, rfl⟩ := hs1; rfl
      · cases hv
    · cases hv

theorem endR_marks {e : AExit} {b : Nat} {M : List Nat} {h h' : Heap} {v : Value} (hv : endR e b M h = some (v, h')) : h'.marks = M := by
  unfold endR at hv
  split at hv
  · simp only [Option.some.injEq, Prod.mk.injEq] at hv; obtain ⟨_, rfl⟩ := hv; rfl
  · cases hv

theorem callF_marks {mm : Memo} (hmm : ∀ f args h v h', mm f args h = some (v, h') → h'.marks = h.marks) (tab : Nat → Option AFunc) (ex : ExF) : MarksOk (callF mm tab ex) := by
  intro t args h v h' hv
  unfold callF at hv
  simp only [Bool.cond_eq_ite] at hv
  repeat' split at hv
  all_goals first
    | (cases hv; done)
    | exact endR_marks hv
    | (simp only [Option.some.injEq] at hv; exact hmm _ _ _ _ _ (by rw [← hv]; assumption))
    | (simp only [Option.some.injEq, Prod.mk.injEq] at hv; obtain ⟨_, rfl⟩ := hv; rfl)

end
end Go.Proofs.YthjhlifbdieibaaGreatDoor.Ai
/- The records of loops over functions, and the marks. -/
namespace Go.Proofs.YthjhlifbdieibaaGreatDoor.Ai
noncomputable section
open Go.RowKit

section
variable {C : CRel} {P : Program} {μ : Map} {h : Heap} {B : Fr} {w0 w : World}

theorem Rel.setAux (R : Rel C μ h B w0 w) {L : T LRec} {M : List Nat} (x : AuxOk C μ L M B w) : Rel C μ { h with loops := L, marks := M } B w0 w :=
  ⟨R.below, R.size, R.zk, R.fresh, R.blk, R.apart, x⟩

theorem putObj_other {l : Nat} {o : Obj} {i : Nat} (hne : i ≠ l) : (w.putObj l o).heap[i]? = w.heap[i]? := World.putObj_heap_other hne

/-- a block that is no row is turned -/
theorem Rel.putX (R : Rel C μ h B w0 w) {l : Nat} {o o' : Obj} (hl : w.heap[l]? = some o) (ho : isRow o = false) (hB : B.own l) {L : T LRec} {M : List Nat} (x : AuxOk C μ L M B (w.putObj l o')) :
    Rel C μ { h with loops := L, marks := M } B w0 (w.putObj l o') := by
  have hne : ∀ {i : Nat} {cc : Array Value} {el : TypeId} {fr : Nat × Nat}, w.heap[i]? = some (.cells cc el fr) → i ≠ l := fun hi hil => by
    subst hil; rw [hl] at hi; cases hi; cases ho
  refine ⟨R.below.trans ⟨rfl, rfl, rfl, by simp, fun i hi => putObj_other (by have := hB.1; omega)⟩, by have := R.size; simp; omega, fun i o hz => by rw [putObj_other (hB.ne hz)]; exact R.zk i o hz, R.fresh, fun b k hb => ?_, R.apart, x⟩
  obtain ⟨e, he, y⟩ := R.blk b k hb
  refine ⟨e, he, y.s, y.n, y.len, y.grown, fun hw => ?_, y.ro, fun i v hi => ?_, fun hw ht cc el fr hq => ?_⟩
  · obtain ⟨g1, g2, cc, el, g3, g4⟩ := y.own hw
    exact ⟨g1, g2, cc, el, by rw [putObj_other (hne g3)]; exact g3, g4⟩
  · obtain ⟨cc, el, fr, v', g1, g2, g3⟩ := y.cell i v hi
    exact ⟨cc, el, fr, v', by rw [putObj_other (hne g1)]; exact g1, g2, g3⟩
  · obtain ⟨_, _, cc', el', g3, _⟩ := y.own hw
    rw [putObj_other (hne g3)] at hq
    exact y.ty hw ht _ _ _ hq

/-- a block is laid that is no row -/
theorem Rel.allocX (R : Rel C μ h B w0 w) (o : Obj) : Rel C (μ.put h.next ⟨w.heap.size, 0, 0, 0, 0⟩) { h with next := h.next + 1 } B w0 (w.alloc o) ∧ μ.le (μ.put h.next ⟨w.heap.size, 0, 0, 0, 0⟩) := by
  have hle : μ.le (μ.put h.next ⟨w.heap.size, 0, 0, 0, 0⟩) := Map.le_put (R.next_none (Nat.le_refl _))
  have hold : ∀ i, i < w.heap.size → (w.alloc o).heap[i]? = w.heap[i]? := fun i hi => Below.heap_alloc _ _ _ hi
  refine ⟨⟨R.below.alloc R.size _, by have := R.size; simp; omega, R.zk_old hold, fun b e hb => ?_, fun b k hb => ?_, fun b b' k k' e e' hb hb' hn o1 o2 he he' => ?_, R.aux.keep hle (keeps_of_old hold)⟩, hle⟩
  · by_cases hbn : b = h.next
    · subst hbn; simp
    · rw [Map.put_other hbn] at hb
      have := R.fresh b e hb; simp; omega
  · obtain ⟨e, he, y⟩ := R.blk b k hb
    exact ⟨e, hle _ _ he, y.mono hle hold⟩
  · obtain ⟨f, hf, _⟩ := R.blk b k hb
    obtain ⟨f', hf', _⟩ := R.blk b' k' hb'
    rw [hle _ _ hf] at he; cases he
    rw [hle _ _ hf'] at he'; cases he'
    exact R.apart b b' k k' _ _ hb hb' hn o1 o2 hf hf'

theorem AuxOk.addMark {L : T LRec} {M : List Nat} (x : AuxOk C μ L M B w) {m : Nat} {e : Ent} (he : μ m = some e) (hB : B.own e.blk) (hw : w.heap[e.blk]? = some (.deferred (some [])))
    (hd : ∀ m' ∈ M, ∀ e', μ m' = some e' → e.blk ≠ e'.blk) : AuxOk C μ L (m :: M) B w := by
  refine ⟨x.loop, x.lapart, fun m' hm' => ?_, List.pairwise_cons.2 ⟨fun m' hm' f f' hf hf' => ?_, x.mapart⟩⟩
  · rcases List.mem_cons.1 hm' with hm' | hm'
    · subst hm'; exact ⟨e, he, hB, hw⟩
    · exact x.mark m' hm'
  · rw [he] at hf; cases hf
    exact hd m' hm' f' hf'

theorem AuxOk.addLoop {L : T LRec} {M : List Nat} (x : AuxOk C μ L M B w) {b : Nat} {k : LRec} {e : Ent} (he : μ b = some e) (hk : LRel C μ B w k e)
    (hd : ∀ b' k' e', L.get b' = some k' → μ b' = some e' → e.blk ≠ e'.blk) : AuxOk C μ (L.put b k) M B w := by
  refine ⟨fun b' k' hb' => ?_, fun b1 b2 k1 k2 e1 e2 h1 h2 hn m1 m2 => ?_, x.mark, x.mapart⟩
  · by_cases hb : b' = b
    · subst hb; rw [T.get_put_same] at hb'; cases hb'; exact ⟨e, he, hk⟩
    · rw [T.get_put_other _ _ hb] at hb'; exact x.loop b' k' hb'
  · by_cases c1 : b1 = b
    · subst c1
      rw [he] at m1; cases m1
      rw [T.get_put_other _ _ (Ne.symm hn)] at h2
      exact hd b2 k2 e2 h2 m2
    · rw [T.get_put_other _ _ c1] at h1
      by_cases c2 : b2 = b
      · subst c2
        rw [he] at m2; cases m2
        exact fun hc => hd b1 k1 e1 h1 m1 hc.symm
      · rw [T.get_put_other _ _ c2] at h2
        exact x.lapart b1 b2 k1 k2 e1 e2 h1 h2 hn m1 m2

theorem AuxOk.sub {L : T LRec} {M M' : List Nat} (x : AuxOk C μ L M B w) (hs : M'.Sublist M) : AuxOk C μ L M' B w :=
  ⟨x.loop, x.lapart, fun m hm => x.mark m (hs.subset hm), x.mapart.sublist hs⟩

/-- a loop's record is turned -/
theorem Rel.setSt (R : Rel C μ h B w0 w) {b : Nat} {k : LRec} {e : Ent} {r : Loop} (hb : h.loops.get b = some k) (he : μ b = some e) (hr : w.heap[e.blk]? = some (.loop r)) {st : Nat} {pend : Option AExit} {S : LoopState} {Pn : Option Code}
    (hS : S = stX st) (hP : Pn = pend.map codeX) {M : List Nat} (hM : M.Sublist h.marks) :
    Rel C μ { h with loops := h.loops.put b { k with st := st, pend := pend }, marks := M } B w0 (w.putObj e.blk (.loop { r with state := S, pending := Pn })) := by
  obtain ⟨e', he', old, r', h1, h2, h3, h4, h5, h6, h7, h8⟩ := R.aux.loop b k hb
  rw [he] at he'; cases he'
  rw [hr] at h1; cases h1
  have hlt : e.blk < w.heap.size := (Array.getElem?_eq_some_iff.1 hr).1
  have hx := R.aux.sub hM
  refine R.putX hr rfl old ⟨fun b1 k1 hb1 => ?_, fun b1 b2 k1 k2 e1 e2 g1 g2 hn m1 m2 => ?_, fun m hm => ?_, hx.mapart⟩
  · by_cases hbb : b1 = b
    · subst hbb
      rw [T.get_put_same] at hb1; cases hb1
      exact ⟨e, he, old, _, World.putObj_heap_same hlt, hS, hP, h4, h5, h6, h7, h8⟩
    · rw [T.get_put_other _ _ hbb] at hb1
      obtain ⟨e1, he1, o1, r1, x1, x2⟩ := R.aux.loop b1 k1 hb1
      exact ⟨e1, he1, o1, r1, by rw [putObj_other (R.aux.lapart b1 b k1 k e1 e hb1 hb hbb he1 he)]; exact x1, x2⟩
  · have hx : ∀ b3 k3, (h.loops.put b { k with st := st, pend := pend }).get b3 = some k3 → ∃ k4, h.loops.get b3 = some k4 := by
      intro b3 k3 g
      by_cases hbb : b3 = b
      · subst hbb; exact ⟨k, hb⟩
      · rw [T.get_put_other _ _ hbb] at g; exact ⟨k3, g⟩
    obtain ⟨k3, g3⟩ := hx b1 k1 g1
    obtain ⟨k4, g4⟩ := hx b2 k2 g2
    exact R.aux.lapart b1 b2 k3 k4 e1 e2 g3 g4 hn m1 m2
  · obtain ⟨e1, he1, o1, x1⟩ := hx.mark m hm
    refine ⟨e1, he1, o1, ?_⟩
    rw [putObj_other (fun hc => by rw [hc, hr] at x1; cases x1)]; exact x1

/-- a block for deferred calls is come to -/
theorem Rel.takeMark (R : Rel C μ h B w0 w) {m : Nat} {M : List Nat} (hm : h.marks = m :: M) : ∃ e, μ m = some e ∧ (Instr.takeDeferred e.blk).run P w = .ok [] (w.putObj e.blk (.deferred none)) ∧
    Rel C μ { h with marks := M } B w0 (w.putObj e.blk (.deferred none)) := by
  obtain ⟨e, he, hB, hw⟩ := R.aux.mark m (by rw [hm]; simp)
  refine ⟨e, he, run_takeDeferred hw, ?_⟩
  have hp := R.aux.mapart
  rw [hm] at hp
  obtain ⟨hp1, hp2⟩ := List.pairwise_cons.1 hp
  refine R.putX (L := h.loops) hw rfl hB ⟨fun b k hb => ?_, R.aux.lapart, fun m' hm' => ?_, hp2⟩
  · obtain ⟨e1, he1, o1, r1, x1, x2⟩ := R.aux.loop b k hb
    exact ⟨e1, he1, o1, r1, by rw [putObj_other (fun hc => by rw [hc, hw] at x1; cases x1)]; exact x1, x2⟩
  · obtain ⟨e1, he1, o1, x1⟩ := R.aux.mark m' (by rw [hm]; exact List.mem_cons_of_mem _ hm')
    exact ⟨e1, he1, o1, by rw [putObj_other (fun hc => hp1 m' hm' e e1 he he1 hc.symm)]; exact x1⟩

/-- the deferred call that a mark is -/
def mkD (μ : Map) (m : Nat) : Deferred := { target := .collected (((μ m).map (·.blk)).getD 0), args := #[] }

/-- the marks of an activation -/
def Mk (μ : Map) (M0 : List Nat) (h : Heap) (a : Act) : Prop := ∃ new, h.marks = new ++ M0 ∧ a.defers = new.map (mkD μ)

theorem mkD_le {μ' : Map} (hle : μ.le μ') {m : Nat} {e : Ent} (he : μ m = some e) : mkD μ' m = mkD μ m := by simp [mkD, he, hle _ _ he]

theorem Mk.step {μ' : Map} {M0 : List Nat} {h' : Heap} {a a' : Act} (x : Mk μ M0 h a) (R : Rel C μ h B w0 w) (hle : μ.le μ') (hm : h'.marks = h.marks) (hd : a'.defers = a.defers) : Mk μ' M0 h' a' := by
  obtain ⟨new, h1, h2⟩ := x
  refine ⟨new, hm.trans h1, ?_⟩
  rw [hd, h2]
  refine List.map_congr_left (fun m hmm => ?_)
  obtain ⟨e, he, _⟩ := R.aux.mark m (by rw [h1]; exact List.mem_append_left _ hmm)
  exact (mkD_le hle he).symm

theorem leaves_marks {F : Fence} {n : Nat} {fn : Func} {tmps : Array Value} {Q : Ending → World → Prop} {M0 : List Nat} : ∀ (new : List Nat) (h : Heap) (w : World), h.marks = new ++ M0 → Rel C μ h B w0 w →
    (∀ w', Rel C μ { h with marks := M0 } B w0 w' → ∃ v, (results fn tmps).run P w' = .ok v w' ∧ Q (.returned v) w') → LeavesInM F n P fn tmps Q (new.map (mkD μ)) .returning w
  | [], h, w, hm, R, hQ => by
    have : { h with marks := M0 } = h := by cases h; simp_all
    exact hQ w (by rw [this]; exact R)
  | m :: new, h, w, hm, R, hQ => by
    obtain ⟨e, he, h1, h2⟩ := R.takeMark (P := P) (m := m) (M := new ++ M0) (by simpa using hm)
    refine ⟨by simp, .inl ⟨e.blk, _, by simp [mkD, he], h1, ?_⟩⟩
    exact leaves_marks new { h with marks := new ++ M0 } _ rfl h2 hQ

/-- the round's loop, told and in the model -/
def RoRel (μ : Map) : Option Nat → Option Nat → Prop
  | none, none => True
  | some b, some l => ∃ e, μ b = some e ∧ e.blk = l
  | _, _ => False

theorem RoRel.mono {μ' : Map} {ro l : Option Nat} (hle : μ.le μ') (x : RoRel μ ro l) : RoRel μ' ro l := by
  match ro, l, x with
  | none, none, _ => trivial
  | some b, some l, ⟨e, he, h⟩ => exact ⟨e, hle _ _ he, h⟩

theorem enterL_sound (R : Rel C μ h B w0 w) {ro l : Option Nat} (hro : RoRel μ ro l) {k : LRec} {b : Nat} {h1 : Heap} (hv : enterL ro k h = some (b, h1)) {a : Act} {ps : Array Tmp} {assign body : Code} (hst : k.st = 0) (hpe : k.pend = none)
    (hts : TsRel μ k.ts a) (hN : a.tmps.size = k.n) (hps : ps.toList = k.ps) (hasg : C k.n assign k.asg) (hbody : C k.n body k.body) (fn : FuncId) :
    ∃ μ1 e mark w1, (Instr.enterLoop fn a.tmps ps assign body l).run P w = .ok (e.blk, mark) w1 ∧ μ.le μ1 ∧ μ1 b = some e ∧ Rel C μ1 h1 B w0 w1 ∧ (∀ M0, Mk μ M0 h a → Mk μ1 M0 h1 { a with defers := mark ++ a.defers }) := by
  cases ro with
  | none =>
    cases l with
    | some l => exact hro.elim
    | none =>
      simp only [enterL, Option.some.injEq, Prod.mk.injEq] at hv
      obtain ⟨rfl, rfl⟩ := hv
      obtain ⟨R1, hle1⟩ := R.allocX (.deferred (some []))
      have hnew1 := World.alloc_heap_new w (.deferred (some []))
      have R1' := R1.setAux (R1.aux.addMark (m := h.next) (e := ⟨w.heap.size, 0, 0, 0, 0⟩) (Map.put_same _ _ _) R.own_size hnew1 (fun m' hm' e' he' => by
        obtain ⟨f, hf, _, hw⟩ := R.aux.mark m' hm'
        rw [hle1 _ _ hf] at he'; cases he'
        have := (Array.getElem?_eq_some_iff.1 hw).1
        exact fun hc => by simp at hc; omega))
      obtain ⟨R2, hle2⟩ := R1'.allocX (.loop { state := .ready, pending := none, fn, tmps := a.tmps, params := ps, assign, body, defers := w.heap.size })
      have hnew2 := World.alloc_heap_new (w.alloc (.deferred (some []))) (.loop { state := .ready, pending := none, fn, tmps := a.tmps, params := ps, assign, body, defers := w.heap.size })
      have hb1 := R1'.aux
      refine ⟨_, ⟨(w.alloc (.deferred (some []))).heap.size, 0, 0, 0, 0⟩, [{ target := .collected w.heap.size, args := #[] }], _, ?_, hle1.trans hle2, Map.put_same _ _ _, R2.setAux (R2.aux.addLoop (b := h.next + 1) (k := k) (Map.put_same _ _ _) ⟨R1'.own_size, _, hnew2, by rw [hst]; rfl, by rw [hpe]; rfl, hps, hN, hts.mono (hle1.trans hle2), hasg, hbody⟩ ?_), ?_⟩
      · have := run_enterLoop_outer (P := P) (w := w) fn a.tmps ps assign body
        simpa using this
      · intro b' k' e' hb' he'
        obtain ⟨f, hf, _, r1, hw, _⟩ := hb1.loop b' k' hb'
        rw [hle2 _ _ hf] at he'; cases he'
        have := (Array.getElem?_eq_some_iff.1 hw).1
        exact fun hc => by rw [← hc] at this; simp at this
      · rintro M0 ⟨new, g1, g2⟩
        refine ⟨h.next :: new, by simp [g1], ?_⟩
        have hh : ∀ m ∈ new, mkD ((μ.put h.next ⟨w.heap.size, 0, 0, 0, 0⟩).put (h.next + 1) ⟨(w.alloc (.deferred (some []))).heap.size, 0, 0, 0, 0⟩) m = mkD μ m := fun m hm => by
          obtain ⟨e, he, _⟩ := R.aux.mark m (by rw [g1]; exact List.mem_append_left _ hm)
          exact mkD_le (hle1.trans hle2) he
        have h0 : mkD ((μ.put h.next ⟨w.heap.size, 0, 0, 0, 0⟩).put (h.next + 1) ⟨(w.alloc (.deferred (some []))).heap.size, 0, 0, 0, 0⟩) h.next = { target := .collected w.heap.size, args := #[] } := by
          simp [mkD, Map.put_other (show h.next ≠ h.next + 1 by omega), Map.put_same]
        rw [List.map_cons, List.map_congr_left hh, ← g2]
        simp only [List.cons_append, List.nil_append]
        rw [← h0]
  | some b0 =>
    cases l with
    | none => exact hro.elim
    | some l =>
      obtain ⟨e0, he0, rfl⟩ := hro
      simp only [enterL] at hv
      split at hv
      · cases hv
      · rename_i k0 hk0
        simp only [Option.some.injEq, Prod.mk.injEq] at hv
        obtain ⟨rfl, rfl⟩ := hv
        obtain ⟨e1, he1, old, r0, hr0, _⟩ := R.aux.loop b0 k0 hk0
        rw [he0] at he1; cases he1
        obtain ⟨R2, hle2⟩ := R.allocX (.loop { state := .ready, pending := none, fn, tmps := a.tmps, params := ps, assign, body, defers := r0.defers })
        have hnew2 := World.alloc_heap_new w (.loop { state := .ready, pending := none, fn, tmps := a.tmps, params := ps, assign, body, defers := r0.defers })
        refine ⟨_, ⟨w.heap.size, 0, 0, 0, 0⟩, [], _, run_enterLoop_inner hr0 fn a.tmps ps assign body, hle2, Map.put_same _ _ _, R2.setAux (R2.aux.addLoop (b := h.next) (k := k) (Map.put_same _ _ _) ⟨R.own_size, _, hnew2, by rw [hst]; rfl, by rw [hpe]; rfl, hps, hN, hts.mono hle2, hasg, hbody⟩ ?_), ?_⟩
        · intro b' k' e' hb' he'
          obtain ⟨f, hf, _, r1, hw, _⟩ := R.aux.loop b' k' hb'
          rw [hle2 _ _ hf] at he'; cases he'
          have := (Array.getElem?_eq_some_iff.1 hw).1
          exact fun hc => by rw [← hc] at this; simp at this
        · intro M0 x
          exact x.step R hle2 rfl rfl

end
end
end Go.Proofs.YthjhlifbdieibaaGreatDoor.Ai
/- A region whose order is open, as a whole; code; calls. -/
namespace Go.Proofs.YthjhlifbdieibaaGreatDoor.Ai
noncomputable section
open Go.RowKit

section
variable {P : Program} {B : Fr} {w0 : World} {cf : CallF} {N n : Nat} {ops : Array Oper} {l : List AOper} {tbl : List Nat} {E : Nat → List Nat}
  {recs : List Rec} {hs : List Heap} {ts ts' : T Value} {h h' : Heap} {Q : Exit → Act → World → Prop} {μ : Map} {ds : List Deferred}

theorem ready_mem {listed : Array Bool} {i : Nat} (hm : i ∈ Region.ready .any ops listed) : i < ops.size ∧ listed.getD i true = false ∧ ∀ o, ops[i]? = some o → ∀ e ∈ o.after, Region.binds .any e = true → listed.getD e.on false = true := by
  simp only [Region.ready, List.mem_filter, List.mem_range, Bool.and_eq_true, Bool.not_eq_true'] at hm
  obtain ⟨h1, h2, h3⟩ := hm
  refine ⟨h1, h2, fun o ho e he hb => ?_⟩
  rw [ho] at h3
  simp only [Option.map_some, Option.getD_some, Array.all_eq_true_iff_forall_mem] at h3
  have := h3 e he
  rw [hb] at this
  simpa using this

theorem ready_nil {listed : Array Bool} (hsz : listed.size = ops.size) (hE : ∀ i o, ops[i]? = some o → E i = edges o) (hlt : ∀ i, i < ops.size → ∀ e ∈ E i, e < i) (hn : Region.ready .any ops listed = []) : ∀ i, i < ops.size → listed.getD i false = true := by
  intro i
  induction i using Nat.strongRecOn with
  | _ i ih =>
    intro hi
    cases hq : listed.getD i false with
    | true => rfl
    | false =>
      exfalso
      have hmem : i ∈ Region.ready .any ops listed := by
        simp only [Region.ready, List.mem_filter, List.mem_range, Bool.and_eq_true, Bool.not_eq_true']
        have ho : ops[i]? = some ops[i] := Array.getElem?_eq_getElem hi
        refine ⟨hi, ?_, ?_⟩
        · have hi' : i < listed.size := by omega
          simp only [Array.getD_eq_getD_getElem?, Array.getElem?_eq_getElem hi', Option.getD_some] at hq ⊢
          exact hq
        · rw [ho]
          simp only [Option.map_some, Option.getD_some, Array.all_eq_true_iff_forall_mem]
          intro e he
          cases hb : Region.binds .any e with
          | false => rfl
          | true =>
            have hin : e.on ∈ E i := by
              rw [hE i _ ho]
              simp only [edges, List.mem_map, List.mem_filter]
              exact ⟨e, ⟨by simpa using he, hb⟩, rfl⟩
            have := hlt i hi e.on hin
            simp [ih e.on this (by omega)]
      rw [hn] at hmem
      cases hmem

theorem run_step {ro : Option Nat} {F : Nat} (S : Statics tbl l E n F) (tr : TraceOk cf l ts h recs hs ts' h') (hck : chkAll (h :: hs) recs ((List.range n).map (winOf tbl (effs l))) = true) (hc : CallsOk P cf B w0)
    {x : Option Nat} {listed : Array Bool} {a : Act} {w : World} (st : Stand P B w0 N l E n recs (h :: hs) ts μ ds x listed a w) {i : Nat} (hi : i < n) (hno : listed.getD i false = false) (hrd : ∀ j ∈ E i, listed.getD j false = true)
    {o : Oper} (ho : ops[i]? = some o) {ao : AOper} (hao : l[i]? = some ao) (k : OperOk P N ops o ao) (hx : ∀ t, x = some t → t ∉ reads ao ∧ ao.dst ≠ some t)
    (hord : isE ao.op = true → ∀ e, e < n → isEat l e = true → e ≠ i → (listed.getD e false = true ↔ e < i)) {K : Act → World → Prop}
    (hK : ∀ a' w', Stand P B w0 N l E n recs (h :: hs) ts μ ds x (listed.setIfInBounds i true) a' w' → (∀ t, x = some t → a'.tmps.getD t undef = a.tmps.getD t undef) → K a' w') : wpOpIn (FW ro) 0 P ops Q i K a w := by
  have hisz : i < listed.size := by rw [st.size]; exact hi
  obtain ⟨μ', tsS, hh, g1, g2, g3, g4, g5, g6⟩ := st.st
  obtain ⟨r, hh2, r1, r2, r3⟩ := ready_step S tr hck st.size st.closed hi hno hrd hao (fun j oj rj t ht => g5 j oj rj t (fun he => (hx t he).1 ht)) (fun t ht => g6 t (fun he => (hx t he).1 ht)) hord g2
  -- where it stands then
  have stand : ∀ (a' : Act) (w' : World) (μ2 : Map) (v' : Value), a' = a.put o.dst v' → μ'.le μ2 → Rel (Cc P) μ2 hh2 B w0 w' → VRel μ2 r.v v' → Stand P B w0 N l E n recs (h :: hs) ts μ ds x (listed.setIfInBounds i true) a' w' ∧ (∀ t, x = some t → a'.tmps.getD t undef = a.tmps.getD t undef) := by
    intro a' w' μ2 v' ha' hle R' hv'
    subst ha'
    have gd := fun j => getD_set (j := j) hisz
    refine ⟨⟨by simp [st.size], ?_, by rw [put_size]; exact st.tsz, by rw [put_defers]; exact st.dfs, μ2, putA tsS ao.dst r.v, hh2, g1.trans hle, ?_, R', ?_, ?_, ?_⟩, ?_⟩
    · intro x y hx hy
      rw [gd, Bool.or_eq_true] at hx ⊢
      rcases hx with hx | hx
      · have := of_decide_eq_true hx
        subst this
        exact .inr (hrd y hy)
      · exact .inr (st.closed x y hx hy)
    · have : (fun e => isEat l e && (listed.setIfInBounds i true).getD e false) = fun e => isEat l e && (decide (e = i) || listed.getD e false) := by
        funext e; rw [gd]
      rw [this]; exact r3
    · rw [k.dst]
      exact tsrel_put (g4.mono hle) hv' (by rw [st.tsz]; exact k.dok)
    · intro j o rj t hxt hj hrj hl hd
      rw [gd, Bool.or_eq_true] at hl
      by_cases hji : j = i
      · subst hji
        rw [hao] at hj; cases hj
        rw [r1] at hrj; cases hrj
        simp only [hd, putA]; exact look_put_same _ _ _
      · have hl := hl.resolve_left (by simpa using hji)
        have hne : ao.dst ≠ some t := fun hd' => hji (S.dst j i o ao t hj hao hd hd')
        rw [look_putA_other _ _ hne]
        exact g5 j o rj t hxt hj hrj hl hd
    · intro t hxt hno'
      have hne : ao.dst ≠ some t := hno' i ao hao (by rw [gd]; simp)
      rw [look_putA_other _ _ hne]
      exact g6 t hxt (fun j o hj hl => hno' j o hj (by rw [gd, hl]; simp))
    · intro t ht
      have hne := (hx t ht).2
      rw [k.dst] at hne
      cases hd : o.dst with
      | none => rfl
      | some d =>
        have hdt : d ≠ t := fun he => hne (by rw [hd, he])
        simp only [Act.put, Array.getD_eq_getD_getElem?, Array.getElem?_setIfInBounds, if_neg hdt]
  unfold wpOpIn
  rw [ho]
  simp only
  have hw := wanted_eq k g4 st.tsz
  unfold ran at r2
  cases hwa : wantedA tsS ao.guard with
  | true =>
    rw [hwa] at hw r2; simp only at r2
    rw [if_pos hw]
    exact op_wp k.form k.nod hc g3 g4 r2 (fun μ2 v' w' hle R' hv' => hK _ _ (stand _ _ μ2 v' rfl hle R' hv').1 (stand _ _ μ2 v' rfl hle R' hv').2)
  | false =>
    rw [hwa] at hw r2; simp only [Option.some.injEq, Prod.mk.injEq] at r2
    rw [if_neg (by rw [hw]; simp)]
    have hs := stand _ _ μ' undef rfl μ'.le_refl (by rw [← r2.2]; exact g3) (by rw [← r2.1]; exact undef_rel μ')
    exact ⟨fun _ _ => trivial, hK _ _ hs.1 hs.2⟩

/-- one has run ahead of its place: its row is there, and is not told of yet -/
structure StandP (P : Program) (B : Fr) (w0 : World) (N : Nat) (l : List AOper) (E : Nat → List Nat) (n F : Nat) (recs : List Rec) (hall : List Heap) (ts : T Value) (μ : Map) (ds : List Deferred) (listed : Array Bool) (a : Act) (w : World) : Prop where
  lf : listed.getD F false = true
  clF : ∀ j ∈ E F, listed.getD j false = true
  st : ∃ (c : Nat) (cc : Array Value) (el : TypeId) (V : Value) (k : Blk) (tF : Nat) (rF : Rec) (ha : Heap) (oF : AOper) (μ1 : Map),
    l[F]? = some oF ∧ oF.dst = some tF ∧ recs[F]? = some rF ∧ hall[cE l F]? = some ha ∧ hall[cE l (F + 1)]? = some (ha.new k) ∧ k.own = true ∧ k.cells.length ≤ k.n ∧ cc.size = k.n ∧
    (∀ (i : Nat) (v : Value), k.cells[i]? = some v → ∃ v', cc[i]? = some v' ∧ VRel μ1 v v') ∧ (k.ty ≠ 0 → el + 1 = k.ty) ∧ (∀ ν : Map, VRel (ν.put ha.next ⟨c, 0, 0, k.s, k.n⟩) rF.v V) ∧ B.own c ∧ μ.le μ1 ∧ a.tmps.getD tF undef = V ∧
    Stand P (B.with c (.cells cc el (0, 0))) w0 N l E n recs hall ts μ1 ds (some tF) (listed.setIfInBounds F false) a w

theorem getD_unset {listed : Array Bool} {i j : Nat} (hi : i < listed.size) : (listed.setIfInBounds i false).getD j false = (!(decide (j = i)) && listed.getD j false) := by
  simp only [Array.getD_eq_getD_getElem?, Array.getElem?_setIfInBounds]
  by_cases h : i = j
  · subst h; simp [hi]
  · simp [h, Ne.symm h]

theorem absorb_stand {F : Nat} (S : Statics tbl l E n F) (hF : F < n) {listed : Array Bool} {a : Act} {w : World} (p : StandP P B w0 N l E n F recs (h :: hs) ts μ ds listed a w) (hall : ∀ e, e < F → isEat l e = true → listed.getD e false = true) :
    Stand P B w0 N l E n recs (h :: hs) ts μ ds none listed a w := by
  obtain ⟨c, cc, el, V, k, tF, rF, ha, oF, μ1, p1, p2, p3, p4, p5, p6, p7, p8, p9, pty, p10, p11, p12, p13, st⟩ := p.st
  have hsz : F < listed.size := by have := st.size; simp at this; omega
  have gd := fun j => getD_unset (j := j) hsz
  have hEF : isEat l F = true := by
    obtain ⟨q1, _⟩ := S.fl oF p1
    simp only [isEat, p1]
    cases hop : oF.op <;> rw [hop] at q1 <;> first | rfl | cases q1
  have ancLe : ∀ x y, x < n → anc tbl x y = true → y ≤ x := by
    intro x y hx hxy
    exact S.ancE x y hxy (fun z => z ≤ x) (fun a b ha hb => by
      have := S.lt a (by omega) b hb; omega) (Nat.le_refl _)
  -- which have run, but it
  have key : ∀ e, e < n → isEat l e = true → ((listed.setIfInBounds F false).getD e false = true ↔ e < F) := by
    intro e he hE
    constructor
    · intro hl
      rcases S.ef e F he hF hE hEF with hx | hx | hx | hx | hx
      · subst hx; rw [gd] at hl; simp at hl
      · have := S.ancE e F hx (fun z => (listed.setIfInBounds F false).getD z false = true) (fun x y hx hy => st.closed x y hx hy) hl
        rw [gd] at this; simp at this
      · have := ancLe F e hF hx
        by_cases hef : e = F
        · subst hef; rw [gd] at hl; simp at hl
        · omega
      · omega
      · exact hx.2
    · intro hlt
      rw [gd, hall e hlt hE]; simp; omega
  have cnt : (List.range n).countP (fun e => isEat l e && (listed.setIfInBounds F false).getD e false) = cE l F := by
    unfold cE
    rw [← countP_below (isEat l) n F (by omega)]
    refine List.countP_congr (fun e hen => ?_)
    have hen := List.mem_range.1 hen
    cases hq : isEat l e with
    | false => simp
    | true => simp only [Bool.true_and]; rw [key e hen hq, blt_iff]
  have cnt2 : (List.range n).countP (fun e => isEat l e && listed.getD e false) = cE l (F + 1) := by
    unfold cE
    rw [← countP_below (isEat l) n (F + 1) hF]
    refine List.countP_congr (fun e hen => ?_)
    have hen := List.mem_range.1 hen
    cases hq : isEat l e with
    | false => simp
    | true =>
      simp only [Bool.true_and]; rw [blt_iff]
      by_cases hef : e = F
      · subst hef; rw [p.lf]; simp
      · have := key e hen hq
        rw [gd] at this
        simp only [hef, decide_false, Bool.not_false, Bool.true_and] at this
        rw [this]; omega
  obtain ⟨μ', tsS, hh, g1, g2, g3, g4, g5, g6⟩ := st.st
  rw [cnt, p4] at g2; simp only [Option.some.injEq] at g2; subst g2
  obtain ⟨R', hle⟩ := g3.absorb p11 k p6 p7 p8 (fun i v hi => by obtain ⟨v', q1, q2⟩ := p9 i v hi; exact ⟨v', q1, q2.mono g1⟩) pty
  refine ⟨by have := st.size; simpa using this, ?_, st.tsz, st.dfs, _, tsS.put tF rF.v, ha.new k, (p12.trans g1).trans hle, by rw [cnt2]; exact p5, R', ?_, ?_, ?_⟩
  · intro i j hi hj
    by_cases hiF : i = F
    · subst hiF; exact p.clF j hj
    · have := st.closed i j (by rw [gd, hi]; simp [hiF]) hj
      rw [gd, Bool.and_eq_true] at this; exact this.2
  · intro t
    by_cases ht : t = tF
    · subst ht; rw [look_put_same, p13]; exact p10 μ'
    · rw [look_put_other _ _ ht]; exact (g4 t).mono hle
  · intro j o rj t _ hj hrj hl hd
    by_cases hjF : j = F
    · subst hjF
      rw [p1] at hj; cases hj
      rw [p3] at hrj; cases hrj
      rw [p2] at hd; cases hd
      exact look_put_same _ _ _
    · have hne : t ≠ tF := fun ht => hjF (S.dst j F o oF t hj p1 hd (by rw [p2, ht]))
      rw [look_put_other _ _ hne]
      exact g5 j o rj t (fun he => hne (by cases he; rfl)) hj hrj (by rw [gd, hl]; simp [hjF]) hd
  · intro t _ hno'
    have hne : t ≠ tF := fun ht => hno' F oF p1 p.lf (by rw [p2, ht])
    rw [look_put_other _ _ hne]
    exact g6 t (fun he => hne (by cases he; rfl)) (fun j o hj hl => hno' j o hj (by rw [gd, Bool.and_eq_true] at hl; exact hl.2))

/-- it runs ahead of its place -/
theorem run_early {ro : Option Nat} {F : Nat} (S : Statics tbl l E n F) (hF : F < n) (tr : TraceOk cf l ts h recs hs ts' h')
    {listed : Array Bool} {a : Act} {w : World} (st : Stand P B w0 N l E n recs (h :: hs) ts μ ds none listed a w) (hno : listed.getD F false = false) (hrd : ∀ j ∈ E F, listed.getD j false = true)
    {o : Oper} (ho : ops[F]? = some o) {ao : AOper} (hao : l[F]? = some ao) (k : OperOk P N ops o ao) {K : Act → World → Prop}
    (hK : ∀ a' w', StandP P B w0 N l E n F recs (h :: hs) ts μ ds (listed.setIfInBounds F true) a' w' → K a' w') : wpOpIn (FW ro) 0 P ops Q F K a w := by
  have hsz : F < listed.size := by rw [st.size]; exact hF
  obtain ⟨μ', tsS, hh, g1, g2, g3, g4, g5, g6⟩ := st.st
  obtain ⟨r, ha, hb, r1, r2, r3, r4, r5⟩ := ready_look S tr st.closed hF hno hrd hao (fun j oj rj t _ => g5 j oj rj t (by simp)) (fun t _ => g6 t (by simp))
  obtain ⟨q1, q2, tF, q3⟩ := S.fl ao hao
  have cong := oper_congr (cf := cf) r5
  have hw := wanted_eq k g4 st.tsz
  rw [q2] at hw
  have hs1 : step1 cf tsS ha ao.op = some (r.v, hb) := by
    rw [cong.2 ha]
    unfold ran at r4
    rw [q2] at r4
    exact r4
  have hdid : DidN P μ' ha hb a w o r.v ∧ ∀ c, o.op ≠ .defer c := by
    refine ⟨new_did k.form q1 g4 hs1, fun c hcq => ?_⟩
    have := k.nod c hcq
    rw [this] at q1; cases q1
  obtain ⟨⟨kb, cc, el, V, d0, d1, _, d3, d4, d5, d6, dty, d7, d8⟩, hnd⟩ := hdid
  subst d0
  unfold wpOpIn
  rw [ho]
  simp only
  have hw1 : Region.wanted o (yielded ops a.tmps) = true := hw
  rw [if_pos hw1]
  refine op_in hnd ?_
  rw [d6, Oper.uponIn_value]
  have hd : o.dst = some tF := by rw [← k.dst]; exact q3
  have hlt : tF < a.tmps.size := by
    have := k.dok
    rw [hd, ← st.tsz] at this
    have : Nat.ble (tF + 1) a.tmps.size = true := this
    have := ble_true this; omega
  have eqS : (listed.setIfInBounds F true).setIfInBounds F false = listed := by
    apply Array.ext_getElem?
    intro i
    simp only [Array.getElem?_setIfInBounds, Array.size_setIfInBounds]
    by_cases hi : F = i
    · subst hi
      rw [if_pos rfl, if_pos hsz, Array.getElem?_eq_getElem hsz]
      simp only [Array.getD_eq_getD_getElem?, Array.getElem?_eq_getElem hsz, Option.getD_some] at hno
      rw [hno]
    · rw [if_neg hi, if_neg hi]
  refine hK _ _ ⟨by rw [getD_set hsz]; simp, fun j hj => by rw [getD_set hsz, hrd j hj]; simp, w.heap.size, cc, el, V, kb, tF, r, ha, ao, μ', hao, q3, r1, r2, r3, d1, d3, d4, d5, dty, d7, g3.own_size, g1, ?_, ?_⟩
  · rw [hd]
    show (a.tmps.setIfInBounds tF V).getD tF undef = V
    simp only [Array.getD_eq_getD_getElem?, Array.getElem?_setIfInBounds]
    simp [hlt]
  · rw [eqS]
    refine ⟨st.size, st.closed, by rw [put_size]; exact st.tsz, by rw [put_defers]; exact st.dfs, μ', tsS.put tF (.map (some 0)), hh, μ'.le_refl, g2, g3.ahead cc el, ?_, ?_, ?_⟩
    · have := tsrel_put g4 (v := .map (some 0)) (v' := V) (.top V d8) (d := o.dst) (by rw [st.tsz]; exact k.dok)
      rw [hd] at this ⊢
      exact this
    · intro j oj rj t hxt hj hrj hl hdj
      rw [look_put_other _ _ (fun he => hxt (by rw [he]))]
      exact g5 j oj rj t (by simp) hj hrj hl hdj
    · intro t hxt hno'
      rw [look_put_other _ _ (fun he => hxt (by rw [he]))]
      exact g6 t (by simp) hno'

theorem draw_any {ro : Option Nat} {F : Nat} (S : Statics tbl l E n F) (hnn : n = ops.size) (hops : ∀ (i : Nat) (o : Oper), ops[i]? = some o → ∃ ao, l[i]? = some ao ∧ OperOk P N ops o ao) (hE : ∀ i o, ops[i]? = some o → E i = edges o) (tr : TraceOk cf l ts h recs hs ts' h')
    (hck : chkAll (h :: hs) recs ((List.range n).map (winOf tbl (effs l))) = true) (hc : ∀ B' : Fr, B'.n = B.n → CallsOk P cf B' w0) (hQ : ∀ a' w', Post P μ N ds ts' h' B w0 a' w' → Q .normal a' w') :
    ∀ (fuel : Nat) (listed : Array Bool) (a : Act) (w : World), (Stand P B w0 N l E n recs (h :: hs) ts μ ds none listed a w ∧ (F < n → listed.getD F false = true → ∀ e, e < F → isEat l e = true → listed.getD e false = true)) ∨
      (F < n ∧ (∃ e, e < F ∧ isEat l e = true ∧ listed.getD e false = false) ∧ StandP P B w0 N l E n F recs (h :: hs) ts μ ds listed a w) →
      (List.range n).countP (fun e => !listed.getD e false) ≤ fuel → wpAnyIn (FW ro) 0 P .any ops Q fuel listed a w := by
  have done : ∀ (listed : Array Bool) (a : Act) (w : World), Stand P B w0 N l E n recs (h :: hs) ts μ ds none listed a w → (∀ i, i < ops.size → listed.getD i false = true) → Q .normal a w := by
    intro listed a w st hall
    obtain ⟨μ', tsS, hh, h1, h2, h3, h4, h5, h6⟩ := st.st
    refine hQ a w ⟨st.tsz, st.dfs, μ', h1, ?_, ?_⟩
    · have : (List.range n).countP (fun e => isEat l e && listed.getD e false) = cE l l.length := by
        unfold cE
        rw [S.len]
        refine List.countP_congr (fun e he => ?_)
        rw [hall e (by rw [← hnn]; exact List.mem_range.1 he)]
        simp
      rw [this, tr.last] at h2
      simp only [Option.some.injEq] at h2
      rw [h2]; exact h3
    · intro t
      have hl : look ts' t = look tsS t := by
        by_cases hw : ∃ (j : Nat) (oj : AOper), l[j]? = some oj ∧ oj.dst = some t
        · obtain ⟨j, oj, hj, hd⟩ := hw
          obtain ⟨rj, hrj, _⟩ := tr.step j oj hj
          have hjn : j < n := by rw [← S.len]; exact (List.getElem?_eq_some_iff.1 hj).1
          rw [h5 j oj rj t (by simp) hj hrj (hall j (by omega)) hd]
          exact tr.new' j oj rj t hj hrj hd (fun j' o' hlt hj' hd' => by have := S.dst j' j o' oj t hj' hj hd' hd; omega)
        · rw [h6 t (by simp) (fun j' o' hj' _ hd' => hw ⟨j', o', hj', hd'⟩)]
          exact tr.old' t (fun j' o' hj' hd' => hw ⟨j', o', hj', hd'⟩)
      rw [hl]; exact h4 t
  have hlt : ∀ i, i < ops.size → ∀ e ∈ E i, e < i := fun i hi => S.lt i (by omega)
  have ancLe : ∀ x y, x < n → anc tbl x y = true → y ≤ x := by
    intro x y hx hxy
    exact S.ancE x y hxy (fun z => z ≤ x) (fun a b ha hb => by
      have := S.lt a (by omega) b hb; omega) (Nat.le_refl _)
  intro fuel
  induction fuel with
  | zero =>
    intro listed a w st hf
    have hall : ∀ i, i < n → listed.getD i false = true := by
      intro i hi
      cases hq : listed.getD i false with
      | true => rfl
      | false =>
        have : 0 < (List.range n).countP (fun e => !listed.getD e false) := List.countP_pos_iff.2 ⟨i, List.mem_range.2 hi, by simp [hq]⟩
        omega
    rcases st with ⟨st, _⟩ | ⟨hF, ⟨e, e1, _, e3⟩, _⟩
    · refine ⟨?_, done listed a w st (fun i hi => hall i (by omega))⟩
      apply List.eq_nil_iff_forall_not_mem.2
      intro i hm
      obtain ⟨h1, h2, _⟩ := ready_mem hm
      have := hall i (by omega)
      have hi' : i < listed.size := by rw [st.size]; omega
      simp only [Array.getD_eq_getD_getElem?, Array.getElem?_eq_getElem hi', Option.getD_some] at this h2
      rw [this] at h2; cases h2
    · rw [hall e (by omega)] at e3; cases e3
  | succ fuel ih =>
    intro listed a w st hf
    have hsize : listed.size = n := by
      rcases st with ⟨st, _⟩ | ⟨_, _, st⟩
      · exact st.size
      · obtain ⟨c, cc, el, V, k, tF, rF, ha, oF, μ1, p1, p2, p3, p4, p5, p6, p7, p8, p9, pty, p10, p11, p12, p13, st⟩ := st.st
        have := st.size; simpa using this
    refine ⟨fun hnil => ?_, fun i hm => ?_⟩
    · have hall := ready_nil (by rw [hsize, hnn]) hE hlt hnil
      rcases st with ⟨st, _⟩ | ⟨hF, ⟨e, e1, _, e3⟩, _⟩
      · exact done listed a w st hall
      · rw [hall e (by omega)] at e3; cases e3
    obtain ⟨h1, h2, h3⟩ := ready_mem hm
    have hi : i < n := by omega
    have hisz : i < listed.size := by rw [hsize]; exact hi
    have hno : listed.getD i false = false := by
      simp only [Array.getD_eq_getD_getElem?, Array.getElem?_eq_getElem hisz, Option.getD_some] at h2 ⊢
      exact h2
    have ho : ops[i]? = some ops[i] := Array.getElem?_eq_getElem h1
    obtain ⟨ao, hao, k⟩ := hops i _ ho
    have hrd : ∀ j ∈ E i, listed.getD j false = true := by
      intro j hj
      rw [hE i _ ho] at hj
      simp only [edges, List.mem_map, List.mem_filter] at hj
      obtain ⟨e, ⟨e1, e2⟩, rfl⟩ := hj
      exact h3 _ ho e (by simpa using e1) e2
    have hcnt : (List.range n).countP (fun e => !(listed.setIfInBounds i true).getD e false) ≤ fuel := by
      have := countP_lt (fun e => !listed.getD e false) (fun e => !(listed.setIfInBounds i true).getD e false) (List.range n) (fun e _ he => by
        rw [getD_set hisz] at he
        simp only [Bool.not_or, Bool.and_eq_true] at he
        exact he.2) ⟨i, List.mem_range.2 hi, by simp [hno], by rw [getD_set hisz]; simp⟩
      omega
    have hE' : isEat l i = isE ao.op := by simp [isEat, hao]
    rcases st with ⟨st, nf⟩ | ⟨hF, mis, p⟩
    · -- what must have run, must not have
      have ancIn : ∀ j, anc tbl i j = true → listed.getD j false = true ∨ j = i := fun j hj => S.ancE i j hj (fun x => listed.getD x false = true ∨ x = i) (fun x y hx hy => by
        rcases hx with hx | rfl
        · exact .inl (st.closed x y hx hy)
        · exact .inl (hrd y hy)) (.inr rfl)
      have ancOut : ∀ j, anc tbl j i = true → listed.getD j false = true → False := fun j hji hl => by
        have := S.ancE j i hji (fun x => listed.getD x false = true) (fun x y hx hy => st.closed x y hx hy) hl
        rw [hno] at this; cases this
      by_cases hearly : i = F ∧ ∃ e, e < F ∧ isEat l e = true ∧ listed.getD e false = false
      · obtain ⟨rfl, e, e1, e2, e3⟩ := hearly
        refine run_early S hi tr st hno hrd ho hao k (fun a' w' p => ih _ _ _ (.inr ⟨hi, ⟨e, e1, e2, ?_⟩, p⟩) hcnt)
        rw [getD_set hisz, e3]; simp; omega
      · refine run_step S tr hck (hc B rfl) st hi hno hrd ho hao k (fun t ht => by cases ht) (fun he e hen hq hei => ?_) (fun a' w' st' _ => ih _ _ _ (.inl ⟨st', fun hF hl e heF hq => ?_⟩) hcnt)
        · rcases S.ef i e hi hen (by rw [hE', he]) hq with hx | hx | hx | hx | hx
          · exact absurd hx.symm hei
          · have h1 := (ancIn e hx).resolve_right hei
            have h2 := ancLe i e hi hx
            exact ⟨fun _ => by omega, fun _ => h1⟩
          · have h2 := ancLe e i hen hx
            exact ⟨fun hl => (ancOut e hx hl).elim, fun hlt => by omega⟩
          · refine ⟨fun _ => by omega, fun _ => ?_⟩
            cases hl : listed.getD e false with
            | true => rfl
            | false => exact (hearly ⟨hx.1, e, hx.2, hq, hl⟩).elim
          · refine ⟨fun hl => ?_, fun hlt => by omega⟩
            have := nf (by omega) (by rw [← hx.1]; exact hl) i hx.2 (by rw [hE', he])
            rw [hno] at this; cases this
        · rw [getD_set hisz] at hl ⊢
          simp only [Bool.or_eq_true, decide_eq_true_eq] at hl ⊢
          by_cases hFi : F = i
          · right
            cases hl2 : listed.getD e false with
            | true => rfl
            | false => exact (hearly ⟨hFi.symm, e, heF, hq, hl2⟩).elim
          · exact .inr (nf hF (hl.resolve_left hFi) e heF hq)
    · -- one is ahead of its place
      have hiF : i ≠ F := fun he => by subst he; rw [p.lf] at hno; cases hno
      obtain ⟨c, cc, el, V, kb, tF, rF, ha, oF, μ1, p1, p2, p3, p4, p5, p6, p7, p8, p9, pty, p10, p11, p12, p13, st⟩ := p.st
      have hszF : F < listed.size := by rw [hsize]; exact hF
      have gd := fun j => getD_unset (j := j) hszF
      obtain ⟨e0, m1, m2, m3⟩ := mis
      have closed : ∀ x y, listed.getD x false = true → y ∈ E x → listed.getD y false = true := fun x y hx hy => by
        by_cases hxF : x = F
        · subst hxF; exact p.clF y hy
        · have := st.closed x y (by rw [gd, hx]; simp [hxF]) hy
          rw [gd, Bool.and_eq_true] at this; exact this.2
      have ancIn : ∀ j, anc tbl i j = true → listed.getD j false = true ∨ j = i := fun j hj => S.ancE i j hj (fun x => listed.getD x false = true ∨ x = i) (fun x y hx hy => by
        rcases hx with hx | rfl
        · exact .inl (closed x y hx hy)
        · exact .inl (hrd y hy)) (.inr rfl)
      have ancOut : ∀ j, anc tbl j i = true → listed.getD j false = true → False := fun j hji hl => by
        have := S.ancE j i hji (fun x => listed.getD x false = true) (fun x y hx hy => closed x y hx hy) hl
        rw [hno] at this; cases this
      have notBeh : ¬ (anc tbl i F = true ∨ F ∈ E i) := fun hb => by
        have h0 := S.beh oF p1 i hi hb e0 m1 m2
        rcases ancIn e0 h0 with hl | hl
        · rw [hl] at m3; cases m3
        · subst hl
          rcases hb with hb | hb
          · have := ancLe e0 F hi hb; omega
          · have := S.lt e0 hi F hb; omega
      have hno' : (listed.setIfInBounds F false).getD i false = false := by rw [gd, hno]; simp
      have hrd' : ∀ j ∈ E i, (listed.setIfInBounds F false).getD j false = true := fun j hj => by
        rw [gd, hrd j hj]
        have : j ≠ F := fun he => notBeh (.inr (by rw [← he]; exact hj))
        simp [this]
      have comm : (listed.setIfInBounds F false).setIfInBounds i true = (listed.setIfInBounds i true).setIfInBounds F false := Array.setIfInBounds_comm _ _ (Ne.symm hiF)
      have hx : ∀ t, some tF = some t → t ∉ reads ao ∧ ao.dst ≠ some t := fun t ht => by
        cases ht
        refine ⟨fun hr => ?_, fun hd => hiF (S.dst i F ao oF tF hao p1 hd p2)⟩
        rcases S.rd i F ao oF tF hao p1 p2 hr with hx | hx | hx
        · exact hiF hx
        · exact notBeh (.inl hx)
        · exact ancOut F hx p.lf
      refine run_step S tr hck (hc (B.with c (.cells cc el (0, 0))) rfl) st hi hno' hrd' ho hao k hx (fun he e hen hq hei => ?_) (fun a' w' st' hV => ?_)
      · rw [gd]
        rcases S.ef i e hi hen (by rw [hE', he]) hq with hx | hx | hx | hx | hx
        · exact absurd hx.symm hei
        · have g1 := (ancIn e hx).resolve_right hei
          have g2 := ancLe i e hi hx
          have g3 : e ≠ F := fun heF => notBeh (.inl (by rw [← heF]; exact hx))
          rw [g1]; simp [g3]; omega
        · have g2 := ancLe e i hen hx
          have g3 : listed.getD e false = false := by
            cases hl : listed.getD e false with
            | false => rfl
            | true => exact (ancOut e hx hl).elim
          rw [g3]; simp; omega
        · exact absurd hx.1 hiF
        · rw [hx.1]; simp; omega
      · rw [comm] at st'
        have p' : StandP P B w0 N l E n F recs (h :: hs) ts μ ds (listed.setIfInBounds i true) a' w' :=
          ⟨by rw [getD_set hisz, p.lf]; simp, fun j hj => by rw [getD_set hisz, p.clF j hj]; simp, c, cc, el, V, kb, tF, rF, ha, oF, μ1, p1, p2, p3, p4, p5, p6, p7, p8, p9, pty, p10, p11, p12, by rw [hV tF rfl]; exact p13, st'⟩
        by_cases hmis : ∃ e, e < F ∧ isEat l e = true ∧ (listed.setIfInBounds i true).getD e false = false
        · exact ih _ _ _ (.inr ⟨hF, hmis, p'⟩) hcnt
        · have hall : ∀ e, e < F → isEat l e = true → (listed.setIfInBounds i true).getD e false = true := fun e he hq => by
            cases hl : (listed.setIfInBounds i true).getD e false with
            | true => rfl
            | false => exact (hmis ⟨e, he, hq, hl⟩).elim
          exact ih _ _ _ (.inl ⟨absorb_stand S hF p' hall, fun _ _ => hall⟩) hcnt

end

/-! ### code -/

def concE : AExit → Exit
  | .normal => .normal
  | .exit id => .exit id
  | .ret => .ret

theorem wpIn_loop_fuel {F : Fence} {n0 : Nat} {P : Program} {c : Code} {Q : Exit → Act → World → Prop} (I : Nat → Act → World → Prop) (round : ∀ n a w, I n a w → c.wpIn F n0 P (Exit.then (fun a' w' => ∃ m, m < n ∧ I m a' w') Q) a w) :
    ∀ n a w, I n a w → (Code.loop c).wpIn F n0 P Q a w := by
  intro n a w h₀ b k cs hro hb hr
  have key : ∀ n a w, I n a w → ∃ e a' w', Q e a' w' ∧ ArrivesIn (Machine.fenced P F) P (lone (b.atR a (.code c :: .inLoop c :: k)) cs w) b k cs e a' w' := by
    intro n
    induction n using Nat.strongRecOn with
    | _ n ih =>
      intro a w hI
      obtain ⟨e, a₁, w₁, hq, harr⟩ := round n a w hI b (.inLoop c :: k) cs hro hb hr
      cases e with
      | normal =>
        obtain ⟨m, hlt, hI₁⟩ := hq
        obtain ⟨e₂, a₂, w₂, hq₂, harr₂⟩ := ih m hlt a₁ w₁ hI₁
        exact ⟨e₂, a₂, w₂, hq₂, .of_steps (StepsIn.trans harr (.one (fenced_calm hb hr rfl) stepR_inLoop)) harr₂⟩
      | exit id => exact ⟨_, a₁, w₁, hq, .pass (x := .inLoop c) rfl (fun _ _ => .inl (by simp)) harr⟩
      | goto l => exact ⟨_, a₁, w₁, hq, .pass (x := .inLoop c) rfl (fun _ _ => .inl (by simp)) harr⟩
      | ret => exact ⟨_, a₁, w₁, hq, .pass (x := .inLoop c) rfl (fun _ _ => .inl (by simp)) harr⟩
      | panic ch => exact ⟨_, a₁, w₁, hq, .pass (x := .inLoop c) rfl (fun _ _ => .inl (by simp)) harr⟩
      | outgrown => exact ⟨_, a₁, w₁, hq, .pass (x := .inLoop c) rfl (fun _ _ => .inl (by simp)) harr⟩
  obtain ⟨e, a', w', hq, harr⟩ := key n a w h₀
  exact ⟨e, a', w', hq, .of_steps (.one (fenced_calm hb hr rfl) stepR_loop) harr⟩

/-- a table of the program's functions, made ready -/
def TabOk (P : Program) (tab : Nat → Option AFunc) : Prop := ∀ f af, tab f = some af → tabOf P f = some af

/-- what is known behind code -/
def XPost (P : Program) (μ : Map) (N : Nat) (M0 : List Nat) (ts' : T Value) (h' : Heap) (B : Fr) (w0 : World) (a' : Act) (w' : World) : Prop :=
  a'.tmps.size = N ∧ ∃ μ', μ.le μ' ∧ Rel (Cc P) μ' h' B w0 w' ∧ TsRel μ' ts' a' ∧ Mk μ' M0 h' a'

def CodePost (P : Program) (μ : Map) (N : Nat) (M0 : List Nat) (e : AExit) (ts' : T Value) (h' : Heap) (B : Fr) (w0 : World) : Exit → Act → World → Prop :=
  fun x a' w' => x = concE e ∧ XPost P μ N M0 ts' h' B w0 a' w'

theorem XPost.le {P : Program} {μ μ' : Map} {N : Nat} {M0 : List Nat} {ts' : T Value} {h' : Heap} {B : Fr} {w0 : World} {a' : Act} {w' : World} (hle : μ.le μ') (p : XPost P μ' N M0 ts' h' B w0 a' w') : XPost P μ N M0 ts' h' B w0 a' w' :=
  let ⟨p1, μ2, p3, p4, p5, p6⟩ := p
  ⟨p1, μ2, hle.trans p3, p4, p5, p6⟩

theorem Post.x {P : Program} {μ : Map} {N : Nat} {M0 : List Nat} {ts' : T Value} {h h' : Heap} {B : Fr} {w0 w : World} {a a' : Act} {w' : World} (p : Post P μ N a.defers ts' h' B w0 a' w') (R : Rel (Cc P) μ h B w0 w) (k : Mk μ M0 h a) (hm : h'.marks = h.marks) : XPost P μ N M0 ts' h' B w0 a' w' :=
  let ⟨p1, p2, μ2, p3, p4, p5⟩ := p
  ⟨p1, μ2, p3, p4, p5, k.step R p3 hm p2⟩

theorem endL_sound {C : CRel} {P : Program} {μ : Map} {h h' : Heap} {B : Fr} {w0 w : World} (R : Rel C μ h B w0 w) {b : Nat} {ts ts' : T Value} {e : AExit} {E : Ent} (he : μ b = some E) (hv : endL b ts h = some (e, ts', h')) :
    ts' = ts ∧ ∃ jump w', (Instr.endLoop E.blk).run P w = .ok jump w' ∧ Rel C μ h' B w0 w' ∧ h'.marks = h.marks ∧ ((jump = none ∧ e = .normal) ∨ (jump = some .ret ∧ e = .ret) ∨ ∃ id, jump = some (.exit id) ∧ e = .exit id) := by
  unfold endL at hv
  split at hv
  · rename_i k hk
    obtain ⟨e', he', old, r, h1, h2, h3, h4⟩ := R.aux.loop b k hk
    rw [he] at he'; cases he'
    rcases beq_cases k.st 1 with ⟨b1, b2⟩ | ⟨b1, b2⟩
    · rw [b1] at hv; cases hv
    · rw [b1] at hv; simp only [cond_false] at hv
      have hnb : r.state ≠ .busy := by
        rw [h2]; intro hc
        match hs : k.st, hc with
        | 0, hc => simp [stX] at hc
        | 1, _ => exact b2 hs
        | 2, hc => simp [stX] at hc
        | _ + 3, hc => simp [stX] at hc
      have hend := run_endLoop (P := P) h1 hnb
      have R' := R.setSt hk he h1 (st := 3) (pend := k.pend) (S := .exhausted) (Pn := r.pending) rfl h3 (List.Sublist.refl _)
      split at hv
      · rename_i hp
        simp only [Option.some.injEq, Prod.mk.injEq] at hv; obtain ⟨rfl, rfl, rfl⟩ := hv
        exact ⟨rfl, r.pending, _, hend, R', rfl, .inl ⟨by rw [h3, hp]; rfl, rfl⟩⟩
      · cases hv
      · rename_i x hx hp
        simp only [Option.some.injEq, Prod.mk.injEq] at hv; obtain ⟨rfl, rfl, rfl⟩ := hv
        refine ⟨rfl, r.pending, _, hend, R', rfl, .inr ?_⟩
        cases x with
        | normal => exact absurd rfl hx
        | ret => exact .inl ⟨by rw [h3, hp]; rfl, rfl⟩
        | exit id => exact .inr ⟨id, by rw [h3, hp]; rfl, rfl⟩
  · cases hv

theorem range_sound {P : Program} {mm : Memo} {tab : Nat → Option AFunc} {B : Fr} {w0 : World} {m N : Nat} (hcm : CallsOk P (callF mm tab (exec mm tab m)) B w0) {g : Operand} {ps : Array Tmp} {asg body : Code} {ro l : Option Nat} {ts ts' : T Value} {h h' : Heap} {e : AExit} {μ : Map} {M0 : List Nat} {a : Act} {w : World}
    (hv : exec mm tab (m + 1) ro (compCode P N (.rangeFunc g ps asg body)) ts h = some (e, ts', h')) (R : Rel (Cc P) μ h B w0 w) (r : TsRel μ ts a) (hN : a.tmps.size = N) (hro : RoRel μ ro l) (hk : Mk μ M0 h a) :
    (Code.rangeFunc g ps asg body).wpIn (FW l) 0 P (CodePost P μ N M0 e ts' h' B w0) a w := by
  simp only [compCode] at hv
  split at hv
  · rename_i g' hg
    cases hps : ps.toList.all (Nat.blt · N) with
    | false => rw [hps] at hv; simp [exec_succ, execQ] at hv
    | true =>
      rw [hps] at hv; simp only [cond_true, exec_succ, execQ] at hv
      have hr := compOpd_rel r hg
      split at hv
      · rename_i f fs cs hfn
        rw [hfn] at hr
        split at hv
        · rename_i b h1 hen
          split at hv
          · rename_i u h2 hcl
            obtain ⟨g1, g2⟩ := hcm.fn f _ h1 u h2 hcl
            have hX : ∃ fs' cs' : Array Value, a.eval g = .func (.func f) fs' cs' ∧ VsRel μ fs.toList fs'.toList ∧ VsRel μ cs.toList cs'.toList := by
              generalize a.eval g = X at hr
              cases hr with
              | same _ hp => simp [plain] at hp
              | func _ _ fs' _ cs' q0 q1 q2 q3 q4 => exact ⟨fs', cs', rfl, ⟨q1, q2⟩, ⟨q3, q4⟩⟩
            obtain ⟨fs', cs', hX, k1, k2⟩ := hX
            refine wpIn_rangeFunc (fun fn _ => ?_)
            obtain ⟨μ1, E, mark, w1, en1, en2, en3, en4, en5⟩ := enterL_sound (P := P) R hro hen (a := a) (ps := ps) (assign := asg) (body := body) rfl rfl r hN rfl rfl rfl fn
            have hy : VRel μ1 (.func (.yield b) #[] #[]) (.func (.yield E.blk) #[] #[]) := .yield b E en3
            have g3 := g2 μ1 w1 (fs'.toList ++ [.func (.yield E.blk) #[] #[]] ++ cs'.toList) en4 (((k1.mono en2).append (.single hy)).append (k2.mono en2))
            have e1 : (fs'.toList ++ [Value.func (.yield E.blk) #[] #[]] ++ cs'.toList).toArray = fs' ++ (#[.func (.yield E.blk) #[] #[]] ++ cs') := by apply Array.ext'; simp
            rw [e1] at g3
            have hinv := callFunc_run g1 (fs' ++ (#[.func (.yield E.blk) #[] #[]] ++ cs')) w1
            refine ⟨E.blk, mark, w1, { target := .fn (.func f) cs', args := fs' ++ #[.func (.yield E.blk) #[] #[]] }, w1, f, fs' ++ (#[.func (.yield E.blk) #[] #[]] ++ cs'), w1, en1, ?_, ?_, ?_, depth_FW, ?_⟩
            · simp [resolve, hX, Deferred.ofValue, show ∀ v, a.eval (.const v) = v from fun _ => rfl]
            · intro _ _; trivial
            · rw [← Array.append_assoc] at hinv ⊢
              simpa only [invoke] using hinv
            · refine callsIn_FW (g3.mono ?_)
              rintro x w' ⟨μ2, v', rfl, q1, q2, _⟩
              obtain ⟨rfl, jump, w'', j1, j2, j3, j4⟩ := endL_sound (P := P) q2 (q1 _ _ en3) hv
              have hm2 : h2.marks = h1.marks := hcm.marks _ _ _ _ _ hcl
              have hk2 : Mk μ2 M0 h' { a with defers := mark ++ a.defers } := (en5 M0 hk).step en4 q1 (by rw [j3, hm2]) rfl
              have hp : XPost P μ N M0 ts' h' B w0 { a with defers := mark ++ a.defers } w'' := ⟨hN, μ2, en2.trans q1, j2, r.mono (en2.trans q1), hk2⟩
              refine ⟨jump, w'', j1, ?_⟩
              rcases j4 with ⟨rfl, rfl⟩ | ⟨rfl, rfl⟩ | ⟨id, rfl, rfl⟩
              · exact ⟨rfl, hp⟩
              · exact wpIn_ret ⟨rfl, hp⟩
              · exact wpIn_exit ⟨rfl, hp⟩
          · cases hv
        · cases hv
      · cases hv
  · simp [exec_succ, execQ] at hv

theorem exec_sound {P : Program} {mm : Memo} {tab : Nat → Option AFunc} {B : Fr} {w0 : World} (n : Nat) (hcall : ∀ m, m < n → ∀ B' : Fr, B'.n = B.n → CallsOk P (callF mm tab (exec mm tab m)) B' w0) :
    ∀ m, m ≤ n → ∀ (N : Nat) (c : Code) (ro l : Option Nat) (ts ts' : T Value) (h h' : Heap) (e : AExit) (μ : Map) (M0 : List Nat) (a : Act) (w : World), exec mm tab m ro (compCode P N c) ts h = some (e, ts', h') → Rel (Cc P) μ h B w0 w → TsRel μ ts a → a.tmps.size = N →
      RoRel μ ro l → Mk μ M0 h a → c.wpIn (FW l) 0 P (CodePost P μ N M0 e ts' h' B w0) a w := by
  intro m0
  induction m0 using Nat.strongRecOn with
  | _ m0 ih0 =>
  cases m0 with
  | zero => intro _ N c ro l ts ts' h h' e μ M0 a w hv; simp [exec_zero] at hv
  | succ m =>
    intro hm N c
    have ih := ih0 m (by omega) (by omega)
    have hcm := hcall m (by omega)
    cases c with
    | skip =>
      intro ro l ts ts' h h' e μ M0 a w hv R r hN hro hk
      simp only [compCode, exec_succ, execQ, Option.some.injEq, Prod.mk.injEq] at hv
      obtain ⟨rfl, rfl, rfl⟩ := hv
      exact wpIn_skip ⟨rfl, hN, μ, μ.le_refl, R, r, hk⟩
    | ret =>
      intro ro l ts ts' h h' e μ M0 a w hv R r hN hro hk
      simp only [compCode, exec_succ, execQ, Option.some.injEq, Prod.mk.injEq] at hv
      obtain ⟨rfl, rfl, rfl⟩ := hv
      exact wpIn_ret ⟨rfl, hN, μ, μ.le_refl, R, r, hk⟩
    | exit id =>
      intro ro l ts ts' h h' e μ M0 a w hv R r hN hro hk
      simp only [compCode, exec_succ, execQ, Option.some.injEq, Prod.mk.injEq] at hv
      obtain ⟨rfl, rfl, rfl⟩ := hv
      exact wpIn_exit ⟨rfl, hN, μ, μ.le_refl, R, r, hk⟩
    | region id ops d =>
      intro ro l ts ts' h h' e μ M0 a w hv R r hN hro hk
      cases d with
      | false =>
        simp only [compCode] at hv
        split at hv
        · rename_i l hl
          simp only [exec_succ, execQ] at hv
          split at hv
          · rename_i t2 h2 hr
            simp only [Option.some.injEq, Prod.mk.injEq] at hv
            obtain ⟨rfl, rfl, rfl⟩ := hv
            exact wpIn_region_list (runOps_sound (hcm B rfl) ops.toList l hl μ h h2 ts t2 a w R r hN hr (fun a' w' hp => ⟨rfl, hp.x R hk (runOps_marks (hcm B rfl).marks _ _ _ _ _ hr)⟩))
          · cases hv
        · simp [exec_succ, execQ] at hv
      | true =>
        simp only [compCode] at hv
        split at hv
        · rename_i l hl
          cases hok : (P.follows .mixedOrders && okDraw (mkTbl [] (ops.toList.map edges)) l (ops.toList.map edges)) with
          | false => rw [hok] at hv; simp [exec_succ, execQ] at hv
          | true =>
            rw [hok] at hv; simp only [cond_true, exec_succ, execQ] at hv
            simp only [Bool.and_eq_true] at hok
            split at hv
            · rename_i t2 h2 hr
              simp only [Option.some.injEq, Prod.mk.injEq] at hv
              obtain ⟨rfl, rfl, rfl⟩ := hv
              obtain ⟨recs, hs, htr, hck⟩ := draw_trace hr
              obtain ⟨hlen, hops⟩ := compOpers_get (P := P) (N := N) (ops := ops) ops.toList l hl
              have S := Statics.of hok.2 rfl
              have tr := trace_ok _ _ _ _ _ _ _ _ htr
              refine wpIn_region_any hok.1 ?_
              refine draw_any (Q := CodePost P μ N M0 .normal t2 h2 B w0) (μ := μ) (ds := a.defers) S (by rw [hlen]; simp) (fun i o ho => hops i o (by simpa using ho)) (fun i o ho => ?_) tr hck hcm (fun a' w' hp => ⟨rfl, hp.x R hk (runTrace_marks (hcm B rfl).marks _ _ _ _ _ _ _ htr)⟩) ops.size _ a _ ?_ ?_
              · have : ops.toList[i]? = some o := by simpa using ho
                simp [this]
              · refine .inl ⟨⟨by rw [hlen]; simp, ?_, hN, rfl, μ, ts, h, μ.le_refl, ?_, R.drew, r, ?_, fun t _ _ => rfl⟩, fun _ hq => ?_⟩
                · intro i j hi
                  simp only [Array.getD_eq_getD_getElem?, Array.getElem?_replicate] at hi
                  split at hi <;> simp at hi
                · have : (List.range l.length).countP (fun e => isEat l e && (Array.replicate ops.size false).getD e false) = 0 := by
                    apply List.countP_eq_zero.2
                    intro e _
                    simp only [Array.getD_eq_getD_getElem?, Array.getElem?_replicate]
                    split <;> simp
                  rw [this]; rfl
                · intro j o rj t _ _ _ hl'
                  simp only [Array.getD_eq_getD_getElem?, Array.getElem?_replicate] at hl'
                  split at hl' <;> simp at hl'
                · simp only [Array.getD_eq_getD_getElem?, Array.getElem?_replicate] at hq
                  split at hq <;> simp at hq
              · refine Nat.le_trans List.countP_le_length ?_
                rw [List.length_range, hlen]; simp
            · cases hv
        · simp [exec_succ, execQ] at hv
    | seq x y =>
      intro ro l ts ts' h h' e μ M0 a w hv R r hN hro hk
      simp only [compCode, exec_succ, execQ] at hv
      refine wpIn_seq ?_
      split at hv
      · rename_i t2 h2 hx
        refine wpIn_mono (ih N x ro l ts t2 h h2 .normal μ M0 a w hx R r hN hro hk) ?_
        rintro e1 a1 w1 ⟨rfl, p1, μ2, p3, p4, p5, p6⟩
        simp only [concE, Exit.then]
        have := ih N y ro l t2 ts' h2 h' e μ2 M0 a1 w1 hv p4 p5 p1 (hro.mono p3) p6
        refine wpIn_mono this ?_
        rintro e2 a2 w2 ⟨q1, q2⟩
        exact ⟨q1, q2.le p3⟩
      · rename_i hnn
        have hx : exec mm tab m ro (compCode P N x) ts h = some (e, ts', h') := hv
        refine wpIn_mono (ih N x ro l ts ts' h h' e μ M0 a w hx R r hN hro hk) ?_
        rintro e1 a1 w1 ⟨rfl, hp⟩
        cases e with
        | normal => exact (hnn _ _ hx).elim
        | exit id => exact ⟨rfl, hp⟩
        | ret => exact ⟨rfl, hp⟩
    | cond c x y =>
      intro ro l ts ts' h h' e μ M0 a w hv R r hN hro hk
      simp only [compCode] at hv
      split at hv
      · rename_i c' hcc
        simp only [exec_succ, execQ] at hv
        have hr := compOpd_rel r hcc
        split at hv
        · rename_i hb
          rw [hb] at hr
          exact wpIn_cond_true hr.bool (ih N x ro l ts ts' h h' e μ M0 a w hv R r hN hro hk)
        · rename_i hb
          rw [hb] at hr
          exact wpIn_cond_false hr.bool (ih N y ro l ts ts' h h' e μ M0 a w hv R r hN hro hk)
        · cases hv
      · simp [exec_succ, execQ] at hv
    | block id x =>
      intro ro l ts ts' h h' e μ M0 a w hv R r hN hro hk
      simp only [compCode, exec_succ, execQ] at hv
      refine wpIn_block ?_
      split at hv
      · rename_i id' t2 h2 hx
        refine wpIn_mono (ih N x ro l ts t2 h h2 (.exit id') μ M0 a w hx R r hN hro hk) ?_
        rintro e1 a1 w1 ⟨rfl, hp⟩
        simp only [concE, Exit.inBlock]
        rcases beq_cases id' id with ⟨b1, b2⟩ | ⟨b1, b2⟩
        · rw [b1] at hv; simp only [cond_true, Option.some.injEq, Prod.mk.injEq] at hv
          obtain ⟨rfl, rfl, rfl⟩ := hv
          rw [if_pos b2]; exact ⟨rfl, hp⟩
        · rw [b1] at hv; simp only [cond_false, Option.some.injEq, Prod.mk.injEq] at hv
          obtain ⟨rfl, rfl, rfl⟩ := hv
          rw [if_neg b2]; exact ⟨rfl, hp⟩
      · rename_i hnn
        have hx : exec mm tab m ro (compCode P N x) ts h = some (e, ts', h') := hv
        refine wpIn_mono (ih N x ro l ts ts' h h' e μ M0 a w hx R r hN hro hk) ?_
        rintro e1 a1 w1 ⟨rfl, hp⟩
        cases e with
        | normal => exact ⟨rfl, hp⟩
        | exit id' => exact (hnn _ _ _ hx).elim
        | ret => exact ⟨rfl, hp⟩
    | loop x =>
      intro ro l ts ts' h h' e μ M0 a w hv R r hN hro hk
      -- a round after the other
      refine wpIn_loop_fuel (fun k a' w' => k ≤ m + 1 ∧ a'.tmps.size = N ∧ ∃ ts1 h1 μ1, μ.le μ1 ∧ Rel (Cc P) μ1 h1 B w0 w' ∧ TsRel μ1 ts1 a' ∧ Mk μ1 M0 h1 a' ∧ exec mm tab k ro (compCode P N (.loop x)) ts1 h1 = some (e, ts', h')) ?_ (m + 1) a w ⟨Nat.le_refl _, hN, ts, h, μ, μ.le_refl, R, r, hk, hv⟩
      rintro k a1 w1 ⟨hk', hN1, ts1, h1, μ1, hle1, R1, r1, hk1, hv1⟩
      cases k with
      | zero => simp [exec_zero] at hv1
      | succ k =>
        simp only [compCode, exec_succ, execQ] at hv1
        have ihk := ih0 k (by omega) (by omega) N x ro l
        split at hv1
        · rename_i t2 h2 hx
          refine wpIn_mono (ihk _ _ _ _ _ μ1 M0 a1 w1 hx R1 r1 hN1 (hro.mono hle1) hk1) ?_
          rintro e1 a2 w2 ⟨rfl, p1, μ2, p3, p4, p5, p6⟩
          exact ⟨k, by omega, by omega, p1, t2, h2, μ2, hle1.trans p3, p4, p5, p6, hv1⟩
        · rename_i hnn
          refine wpIn_mono (ihk _ _ _ _ _ μ1 M0 a1 w1 hv1 R1 r1 hN1 (hro.mono hle1) hk1) ?_
          rintro e1 a2 w2 ⟨rfl, hp⟩
          cases e with
          | normal => exact (hnn _ _ hv1).elim
          | exit id => exact ⟨rfl, hp.le hle1⟩
          | ret => exact ⟨rfl, hp.le hle1⟩
    | rangeFunc g ps asg body =>
      intro ro l ts ts' h h' e μ M0 a w hv R r hN hro hk
      exact range_sound (hcm B rfl) hv R r hN hro hk
    | _ =>
      intro ro l ts ts' h h' e μ M0 a w hv
      simp [compCode, exec_succ, execQ] at hv

/-! ### calls -/

theorem putArgs_look : ∀ (l : List Value) (ts : T Value) (i t : Nat), look (putArgs ts i l) t = if t < i then look ts t else if t < i + l.length then (l[t - i]?).getD undef else look ts t
  | [], ts, i, t => by simp [putArgs]; intro a b; omega
  | v :: l, ts, i, t => by
    simp only [putArgs]
    rw [putArgs_look l _ (i + 1) t]
    by_cases h1 : t < i
    · rw [if_pos (by omega), if_pos h1]; exact look_put_other _ _ (by omega)
    · rw [if_neg h1]
      by_cases h2 : t = i
      · subst h2
        rw [if_pos (by omega), if_pos (by simp)]; simp [look_put_same]
      · rw [if_neg (by omega)]
        simp only [List.length_cons]
        by_cases h3 : t < i + 1 + l.length
        · rw [if_pos h3, if_pos (by omega)]
          rw [show t - i = (t - (i + 1)) + 1 by omega, List.getElem?_cons_succ]
        · rw [if_neg h3, if_neg (by omega)]; exact look_put_other _ _ h2

theorem results_run {P : Program} {w : World} {tmps : Array Value} : ∀ (rs : List ResultVar) (vs' : List Value), (∀ (i : Nat) (r : ResultVar), rs[i]? = some r → ∃ v', vs'[i]? = some v' ∧ (match r with
      | .tmp t => (pure (tmps.getD t undef) : Sem Value)
      | .cell a t => do loadVar t (← asAddr (tmps.getD a undef))).run P w = .ok v' w) → vs'.length = rs.length →
    (rs.mapM (fun (r : ResultVar) => (match r with
      | .tmp t => (pure (tmps.getD t undef) : Sem Value)
      | .cell a t => do loadVar t (← asAddr (tmps.getD a undef))))).run P w = .ok vs' w
  | [], vs', _, hl => by
    have : vs' = [] := List.eq_nil_of_length_eq_zero hl
    subst this; simp
  | r :: rs, vs', h, hl => by
    cases vs' with
    | nil => simp at hl
    | cons v' vs' =>
      obtain ⟨v'', h1, h2⟩ := h 0 r (by simp)
      simp only [List.getElem?_cons_zero, Option.some.injEq] at h1; subst h1
      have ih := results_run rs vs' (fun i r hi => by
        obtain ⟨x, x1, x2⟩ := h (i + 1) r (by simpa using hi)
        exact ⟨x, by simpa using x1, x2⟩) (by simpa using hl)
      simp only [List.mapM_cons, Sem.run_bind, h2, Result.andThen_ok, ih, Sem.run_pure]

theorem resAll_rel {P : Program} {μ : Map} {h : Heap} {B : Fr} {w0 w : World} {ts : T Value} {a : Act} (R : Rel (Cc P) μ h B w0 w) (r : TsRel μ ts a) : ∀ (rs : List ResultVar) (res : List ARes) (vs : List Value), compRes P rs = some res → resAll ts h res = some vs →
    ∃ vs' : List Value, VsRel μ vs vs' ∧ vs'.length = rs.length ∧ ∀ (i : Nat) (x : ResultVar), rs[i]? = some x → ∃ v', vs'[i]? = some v' ∧ (match x with
      | .tmp t => (pure (a.tmps.getD t undef) : Sem Value)
      | .cell a' t => do loadVar t (← asAddr (a.tmps.getD a' undef))).run P w = .ok v' w
  | [], res, vs, h1, h2 => by
    simp only [compRes, Option.some.injEq] at h1; subst h1
    simp only [resAll, Option.some.injEq] at h2; subst h2
    exact ⟨[], .nil μ, rfl, fun i x hx => by simp at hx⟩
  | x :: rs, res, vs, h1, h2 => by
    simp only [compRes] at h1
    split at h1
    · rename_i y res2 hy hrs
      simp only [Option.some.injEq] at h1; subst h1
      simp only [resAll] at h2
      split at h2
      · rename_i v vs2 hv hvs
        simp only [Option.some.injEq] at h2; subst h2
        obtain ⟨vs', g1, g2, g3⟩ := resAll_rel R r rs res2 vs2 hrs hvs
        have one : ∃ v', VRel μ v v' ∧ (match x with
            | .tmp t => (pure (a.tmps.getD t undef) : Sem Value)
            | .cell a' t => do loadVar t (← asAddr (a.tmps.getD a' undef))).run P w = .ok v' w := by
          cases x with
          | tmp t =>
            simp only [compRes1, Option.some.injEq] at hy; subst hy
            simp only [resA, Option.some.injEq] at hv; subst hv
            exact ⟨_, r t, rfl⟩
          | cell a' t =>
            have hr := r a'
            simp only [compRes1] at hy
            split at hy
            · rename_i q i hq hi
              simp only [Option.some.injEq] at hy; subst hy
              simp only [resA] at hv
              split at hv
              · rename_i b o' hb
                rw [hb] at hr
                obtain ⟨e, he, hX⟩ := hr.ptr_inv
                split at hv
                · rename_i l hl
                  simp only [Option.some.injEq] at hv; subst hv
                  obtain ⟨l', k1, k2, k3⟩ := R.rds hl he
                  have hload := run_loadCells_list (P := P) w ⟨e.blk, e.base + o', none⟩ l' k2
                  rw [k1] at hload
                  refine ⟨.agg l'.toArray, .agg _ _ (by simpa using k3.1) (by simpa using k3.2), ?_⟩
                  simp [hX, asAddr, loadVar, isAgg_true (.inl ⟨q, hq⟩), sizeOf, typeInfo, hi, hload]
                · cases hv
              · cases hv
            · rename_i q q' i hq hi
              simp only [Option.some.injEq] at hy; subst hy
              simp only [resA] at hv
              split at hv
              · rename_i b o' hb
                rw [hb] at hr
                obtain ⟨e, he, hX⟩ := hr.ptr_inv
                split at hv
                · rename_i l hl
                  simp only [Option.some.injEq] at hv; subst hv
                  obtain ⟨l', k1, k2, k3⟩ := R.rds hl he
                  have hload := run_loadCells_list (P := P) w ⟨e.blk, e.base + o', none⟩ l' k2
                  rw [k1] at hload
                  refine ⟨.agg l'.toArray, .agg _ _ (by simpa using k3.1) (by simpa using k3.2), ?_⟩
                  simp [hX, asAddr, loadVar, isAgg_true (.inr ⟨q, q', hq⟩), sizeOf, typeInfo, hi, hload]
                · cases hv
              · cases hv
            · rename_i d i hn1 hn2 hd hi
              simp only [Option.some.injEq] at hy; subst hy
              simp only [resA] at hv
              split at hv
              · rename_i b o' hb
                rw [hb] at hr
                obtain ⟨e, he, hX⟩ := hr.ptr_inv
                obtain ⟨v', k1, k2⟩ := R.rd hv he
                have hd1 : ∀ q, d ≠ .struct q := fun q hq => hn1 q (by rw [← hq])
                have hd2 : ∀ q q', d ≠ .array q q' := fun q q' hq => hn2 q q' (by rw [← hq])
                refine ⟨v', k2, ?_⟩
                have ha : (isAgg t).run P w = .ok false w := by
                  unfold isAgg
                  cases d <;> first | (exact absurd rfl (hd1 _)) | (exact absurd rfl (hd2 _ _)) | simp [run_underlying hd]
                simp [hX, asAddr, loadVar, ha, k1]
              · cases hv
            · cases hy
        obtain ⟨v', o1, o2⟩ := one
        refine ⟨v' :: vs', .cons o1 g1, by simp [g2], fun i z hz => ?_⟩
        cases i with
        | zero => simp only [List.getElem?_cons_zero, Option.some.injEq] at hz; subst hz; exact ⟨v', by simp, o2⟩
        | succ i => obtain ⟨q, q1, q2⟩ := g3 i z (by simpa using hz); exact ⟨q, by simpa using q1, q2⟩
      · cases h2
    · cases h1

theorem mkRes_rel {μ : Map} {vs vs' : List Value} (h : VsRel μ vs vs') : VRel μ (mkRes vs) (mkRes vs') := by
  match vs, vs', h with
  | [v], [v'], h => exact h.2 0 v v' rfl rfl
  | [], [], h => exact .tuple _ _ (by simp) (fun i v v' a _ => by simp at a)
  | v :: u :: r, v' :: u' :: r', h => exact .tuple _ _ (by simpa using h.1) (by simpa using h.2)
  | [], _ :: _, h => simp [VsRel] at h
  | _ :: _, [], h => simp [VsRel] at h
  | [_], _ :: _ :: _, h => simp [VsRel] at h
  | _ :: _ :: _, [_], h => simp [VsRel] at h

theorem mkRes_eq (vs : List Value) : (if h : vs.toArray.size = 1 then vs.toArray[0] else Value.tuple vs.toArray) = mkRes vs := by
  match vs with
  | [v] => rfl
  | [] => rfl
  | v :: u :: r =>
    rw [dif_neg (by simp)]; rfl

theorem resA_marks {ts : T Value} {h : Heap} {M : List Nat} (x : ARes) : resA ts { h with marks := M } x = resA ts h x := by cases x <;> rfl

theorem resAll_marks {ts : T Value} {h : Heap} {M : List Nat} : ∀ (l : List ARes), resAll ts { h with marks := M } l = resAll ts h l
  | [] => rfl
  | x :: l => by simp only [resAll, resA_marks, resAll_marks l]

theorem putPs_size : ∀ (ps : List Nat) (vs' : List Value) (tmps : Array Value), ((ps.zip vs').foldl (fun (t : Array Value) (x : Tmp × Value) => t.setIfInBounds x.1 x.2) tmps).size = tmps.size
  | [], _, _ => rfl
  | _ :: _, [], _ => rfl
  | p :: ps, v :: vs', tmps => by simp only [List.zip_cons_cons, List.foldl_cons]; rw [putPs_size ps vs']; simp

theorem putPs_rel {μ : Map} : ∀ (ps : List Nat) (vs vs' : List Value) (ts : T Value) (tmps : Array Value), VsRel μ vs vs' → vs.length = ps.length → ps.all (Nat.blt · tmps.size) = true → TsRel μ ts { tmps := tmps, defers := [] } →
    TsRel μ (putPs ts ps vs) { tmps := (ps.zip vs').foldl (fun (t : Array Value) (x : Tmp × Value) => t.setIfInBounds x.1 x.2) tmps, defers := [] }
  | [], vs, vs', ts, tmps, _, hl, _, r => by
    have : vs = [] := List.eq_nil_of_length_eq_zero hl
    subst this
    simpa [putPs] using r
  | p :: ps, [], _, _, _, _, hl, _, _ => by simp at hl
  | p :: ps, v :: vs, [], _, _, hv, _, _, _ => by simp [VsRel] at hv
  | p :: ps, v :: vs, v' :: vs', ts, tmps, hv, hl, hp, r => by
    simp only [List.all_cons, Bool.and_eq_true] at hp
    have hd : dstOk tmps.size (some p) = true := hp.1
    have h0 := tsrel_put (a := { tmps := tmps, defers := [] }) r (hv.2 0 v v' rfl rfl) hd
    have := putPs_rel ps vs vs' (putA ts (some p) v) (tmps.setIfInBounds p v') ⟨by simpa using hv.1, fun i x x' a b => hv.2 (i + 1) x x' (by simpa using a) (by simpa using b)⟩ (by simpa using hl) (by simpa using hp.2) h0
    simpa only [List.zip_cons_cons, List.foldl_cons, putPs, putA] using this

/-- what is known of a call -/
structure Fact (P : Program) (f : Nat) (args : List Value) (h : Heap) (v : Value) (h' : Heap) : Prop where
  ok : FnOk P f
  marks : h'.marks = h.marks
  calls : ∀ B w0 μ w args', Rel (Cc P) μ h B w0 w → VsRel μ args args' → Calls P f args'.toArray w (CallPost P μ h' B w0 v)

def MemoOk (P : Program) (mm : Memo) : Prop := ∀ f args h v h', mm f args h = some (v, h') → Fact P f args h v h'

/-- the same, in a run that began in this world -/
def MemoAt (P : Program) (mm : Memo) (n0 : Nat) (w0 : World) : Prop := ∀ f args h v h', mm f args h = some (v, h') → FnOk P f ∧ h'.marks = h.marks ∧ ∀ (B : Fr) μ w args', B.n = n0 → Rel (Cc P) μ h B w0 w → VsRel μ args args' → Calls P f args'.toArray w (CallPost P μ h' B w0 v)

theorem MemoOk.at {P : Program} {mm : Memo} (h : MemoOk P mm) (n0 : Nat) (w0 : World) : MemoAt P mm n0 w0 := fun f args k v k' hq => ⟨(h f args k v k' hq).ok, (h f args k v k' hq).marks, fun B μ w args' _ R ha => (h f args k v k' hq).calls B w0 μ w args' R ha⟩

theorem fn_sound {P : Program} {mm : Memo} {tab : Nat → Option AFunc} {B : Fr} {w0 : World} (hT : TabOk P tab) (hM : MemoAt P mm B.n w0) (m : Nat) (ih : ∀ k, k < m → ∀ B' : Fr, B'.n = B.n → CallsOk P (callF mm tab (exec mm tab k)) B' w0) (f : Nat) (args : List Value) (h : Heap) (v : Value) (h' : Heap)
    (hv : callF mm tab (exec mm tab m) (.fn f) args h = some (v, h')) : FnOk P f ∧ ∀ μ w args', Rel (Cc P) μ h B w0 w → VsRel μ args args' → Calls P f args'.toArray w (CallPost P μ h' B w0 v) := by
  unfold callF at hv
  simp only at hv
  split at hv
  · rename_i r hr
    simp only [Option.some.injEq] at hv
    obtain ⟨m1, m2, m3⟩ := hM f args h v h' (by rw [← hv]; exact hr)
    exact ⟨m1, fun μ w args' => m3 B μ w args' rfl⟩
  split at hv
  · cases hv
  · rename_i af haf
    have ht := hT f af haf
    unfold tabOf at ht
    split at ht
    · rename_i fn hfn
      have hfn' : P.funcs[f]? = some fn := by simpa using hfn
      unfold compFunc at ht
      split at ht
      · rename_i c res hbody hres
        cases hname : fn.name == "runtime.NumGoroutine" with
        | true => rw [hname] at ht; cases ht
        | false =>
          rw [hname] at ht; simp only [cond_false, Option.some.injEq] at ht
          subst ht
          have hok : FnOk P f := ⟨fn, hfn', by simpa using hname, by simp [hbody]⟩
          refine ⟨hok, fun μ w args' R hargs => ?_⟩
          cases hle : Nat.ble args.length fn.ntmps with
          | false => simp only [hle] at hv; cases hv
          | true =>
            simp only [hle, cond_true] at hv
            have hle := ble_true hle
            have hsz : (args'.toArray ++ Array.replicate (fn.ntmps - args'.toArray.size) undef).size = fn.ntmps := by
              have := hargs.1
              simp; omega
            have r0 : TsRel μ (putArgs .nil 0 args) { tmps := args'.toArray ++ Array.replicate (fn.ntmps - args'.toArray.size) undef, defers := [] } := by
              intro t
              rw [putArgs_look]
              simp only [Nat.not_lt_zero, if_false, Nat.zero_add, Nat.sub_zero, Array.getD_eq_getD_getElem?]
              by_cases hlt : t < args.length
              · rw [if_pos hlt, List.getElem?_eq_getElem hlt]
                have hlt' : t < args'.length := by rw [← hargs.1]; exact hlt
                rw [Array.getElem?_append_left (by simpa using hlt')]
                simp only [List.getElem?_toArray, List.getElem?_eq_getElem hlt', Option.getD_some]
                exact hargs.2 t _ _ (List.getElem?_eq_getElem hlt) (List.getElem?_eq_getElem hlt')
              · rw [if_neg hlt]
                rw [Array.getElem?_append_right (by have := hargs.1; simp; omega), Array.getElem?_replicate]
                have : look T.nil t = undef := rfl
                rw [this]
                split <;> exact undef_rel μ
            split at hv
            · cases hv
            · rename_i e ts' h2 hnx hex
              split at hv
              · rename_i vs hvs
                simp only [Option.some.injEq, Prod.mk.injEq] at hv
                obtain ⟨rfl, rfl⟩ := hv
                have hwp := exec_sound (P := P) (B := B) (w0 := w0) m (fun k hk => ih k hk) m (Nat.le_refl _) fn.ntmps c none none _ ts' h h2 e μ h.marks _ w hex R r0 hsz trivial ⟨[], rfl, rfl⟩
                refine calls_FW (ro := none) (n := 0) (callsIn_of_wp_marks hfn' hbody trivial (wpIn_mono hwp ?_))
                rintro x a' w' ⟨rfl, p1, μ2, p3, p4, p5, new, m1, m2⟩
                have fin : LeavesInM (FW none) 0 P fn a'.tmps (CallPost P μ { h2 with marks := h.marks } B w0 (mkRes vs)) a'.defers .returning w' := by
                  rw [m2]
                  refine leaves_marks new h2 w' m1 p4 (fun w3 R3 => ?_)
                  have hvs3 : resAll ts' { h2 with marks := h.marks } res = some vs := by
                    rw [← hvs]; exact (resAll_marks res)
                  obtain ⟨vs', g1, g2, g3⟩ := resAll_rel R3 p5 fn.results.toList res vs hres hvs3
                  have hrun := results_run fn.results.toList vs' g3 g2
                  refine ⟨mkRes vs', ?_, μ2, mkRes vs', rfl, p3, R3, mkRes_rel g1⟩
                  unfold results
                  rw [Array.mapM_eq_mapM_toList]
                  simp only [Sem.run_bind, Sem.run_map]
                  erw [hrun]
                  simp only [Result.andThen_ok, Sem.run_pure]
                  rw [mkRes_eq]
                cases e with
                | normal => exact fin
                | ret => exact fin
                | exit id => exact (hnx id rfl).elim
              · cases hv
            · cases hv
      · cases ht
    · cases ht

theorem beginR_sound {C : CRel} {P : Program} {μ : Map} {h h' : Heap} {B : Fr} {w0 w : World} (R : Rel C μ h B w0 w) {b : Nat} {E : Ent} (he : μ b = some E) (hv : beginR b h = some h') :
    ∃ w', (Instr.beginRound E.blk).run P w = .ok () w' ∧ Rel C μ h' B w0 w' ∧ h'.marks = h.marks := by
  unfold beginR at hv
  split at hv
  · rename_i k hk
    obtain ⟨e', he', old, r, h1, h2, h3, h4⟩ := R.aux.loop b k hk
    rw [he] at he'; cases he'
    rcases beq_cases k.st 0 with ⟨b1, b2⟩ | ⟨b1, b2⟩
    · rw [b1] at hv; simp only [cond_true, Option.some.injEq] at hv; subst hv
      exact ⟨_, run_beginRound h1 (by rw [h2, b2]; rfl), R.setSt hk he h1 (st := 1) (pend := k.pend) (S := .busy) (Pn := r.pending) rfl h3 (List.Sublist.refl _), rfl⟩
    · rw [b1] at hv; cases hv
  · cases hv

theorem endR_sound {C : CRel} {P : Program} {μ : Map} {h h' : Heap} {B : Fr} {w0 w : World} (R : Rel C μ h B w0 w) {b : Nat} {E : Ent} (he : μ b = some E) {e : AExit} {M : List Nat} (hM : M.Sublist h.marks) {v : Value} (hv : endR e b M h = some (v, h')) :
    ∃ w', (Instr.endRound E.blk (bif isN e then none else some (codeX e))).run P w = .ok v w' ∧ Rel C μ h' B w0 w' ∧ VRel μ v v := by
  unfold endR at hv
  split at hv
  · rename_i k hk
    obtain ⟨e', he', old, r, h1, h2, h3, h4⟩ := R.aux.loop b k hk
    rw [he] at he'; cases he'
    simp only [Option.some.injEq, Prod.mk.injEq] at hv
    obtain ⟨rfl, rfl⟩ := hv
    have hrun := run_endRound (P := P) (bif isN e then none else some (codeX e)) h1
    have R' := R.setSt hk he h1 (st := bif isN e then 0 else 2) (pend := bif isN e then none else some e) (S := if (bif isN e then none else some (codeX e) : Option Code).isNone then .ready else .done) (Pn := bif isN e then none else some (codeX e)) (by cases e <;> rfl) (by cases e <;> rfl) hM
    refine ⟨_, ?_, R', .same _ rfl⟩
    rw [hrun]
    cases e <;> rfl
  · cases hv

theorem yield_sound {P : Program} {mm : Memo} {tab : Nat → Option AFunc} {B : Fr} {w0 : World} (m : Nat) (ih : ∀ k, k < m → ∀ B' : Fr, B'.n = B.n → CallsOk P (callF mm tab (exec mm tab k)) B' w0) (b : Nat) (args : List Value) (h : Heap) (v : Value) (h' : Heap)
    (hv : callF mm tab (exec mm tab m) (.yield b) args h = some (v, h')) (μ : Map) (w : World) (args' : List Value) (E : Ent) (R : Rel (Cc P) μ h B w0 w) (hargs : VsRel μ args args') (hE : μ b = some E) :
    ∃ f tmps asg body, (Instr.yield E.blk args'.toArray).run P w = .ok (.round E.blk f tmps asg body) w ∧ RoundIn Fence.wide 0 P E.blk f tmps asg body w (CallPost P μ h' B w0 v) := by
  unfold callF at hv
  simp only at hv
  split at hv
  · cases hv
  · rename_i k hk
    obtain ⟨e', he', old, r, h1, h2, h3, h4, h5, h6, h7, h8⟩ := R.aux.loop b k hk
    rw [hE] at he'; cases he'
    cases hc : (Nat.beq args.length k.ps.length && k.ps.all (Nat.blt · k.n)) with
    | false => rw [hc] at hv; cases hv
    | true =>
      rw [hc] at hv; simp only [cond_true] at hv
      simp only [Bool.and_eq_true] at hc
      have hlen : args.length = k.ps.length := Nat.eq_of_beq_eq_true hc.1
      have hsz : args'.toArray.size = r.params.size := by
        rw [← Array.length_toList (xs := r.params), h4, ← hlen, hargs.1]; simp
      refine ⟨r.fn, _, r.assign, r.body, run_yield h1 hsz, ?_⟩
      have hfold : (r.params.zip args'.toArray).foldl (fun (tmps : Array Value) (x : Tmp × Value) => tmps.setIfInBounds x.1 x.2) r.tmps = (k.ps.zip args').foldl (fun (t : Array Value) (x : Tmp × Value) => t.setIfInBounds x.1 x.2) r.tmps := by
        rw [← Array.foldl_toList, Array.toList_zip, h4]
      rw [hfold]
      split at hv
      · rename_i ts1 h1' hasg
        split at hv
        · rename_i h2' hbeg
          split at hv
          · rename_i e ts2 h3' hbody
            rw [← h7] at hasg
            rw [← h8] at hbody
            have r0 := putPs_rel k.ps args args' k.ts r.tmps hargs hlen (by rw [h5]; exact hc.2) h6
            have hwp := exec_sound (P := P) (B := B) (w0 := w0) m (fun k hk => ih k hk) m (Nat.le_refl _) k.n r.assign (some b) (some E.blk) _ ts1 h h1' .normal μ h.marks _ w hasg R r0 (by rw [putPs_size]; exact h5) ⟨E, hE, rfl⟩ ⟨[], rfl, rfl⟩
            refine roundIn_of_wpIn (F := FW none) trivial (wpIn_mono hwp ?_)
            rintro x a1 w1 ⟨rfl, p1, μ1, p3, p4, p5, p6⟩
            obtain ⟨w2, q1, q2, q3⟩ := beginR_sound (P := P) p4 (p3 _ _ hE) hbeg
            refine ⟨w2, q1, ?_⟩
            have hk1 : Mk μ1 h.marks h2' a1 := p6.step p4 μ1.le_refl q3 rfl
            have hwp2 := exec_sound (P := P) (B := B) (w0 := w0) m (fun k hk => ih k hk) m (Nat.le_refl _) k.n r.body (some b) (some E.blk) _ ts2 h2' h3' e μ1 h.marks a1 w2 hbody q2 p5 p1 ⟨E, p3 _ _ hE, rfl⟩ hk1
            refine wpIn_mono hwp2 ?_
            rintro x a2 w3 ⟨rfl, s1, μ2, s3, s4, s5, new, s6, s7⟩
            have hsub : h.marks.Sublist h3'.marks := by rw [s6]; exact List.sublist_append_right _ _
            obtain ⟨w4, u1, u2, u3⟩ := endR_sound (P := P) s4 (s3 _ _ (p3 _ _ hE)) hsub hv
            cases e with
            | normal => exact ⟨v, w4, u1, μ2, v, rfl, p3.trans s3, u2, u3⟩
            | ret => exact ⟨v, w4, u1, μ2, v, rfl, p3.trans s3, u2, u3⟩
            | exit id => exact ⟨v, w4, u1, μ2, v, rfl, p3.trans s3, u2, u3⟩
          · cases hv
        · cases hv
      · cases hv

theorem calls_all {P : Program} {mm : Memo} {tab : Nat → Option AFunc} {w0 : World} {n0 : Nat} (hT : TabOk P tab) (hM : MemoAt P mm n0 w0) : ∀ m (B : Fr), B.n = n0 → CallsOk P (callF mm tab (exec mm tab m)) B w0 := by
  intro m
  induction m using Nat.strongRecOn with
  | _ m ih => exact fun B hB => ⟨fun f args h v h' hv => fn_sound hT (by rw [hB]; exact hM) m (fun k hk B' hB' => ih k hk B' (hB'.trans hB)) f args h v h' hv, fun b args h v h' hv μ w args' e R ha he => yield_sound m (fun k hk B' hB' => ih k hk B' (hB'.trans hB)) b args h v h' hv μ w args' e R ha he, callF_marks (fun f args h v h' hq => (hM f args h v h' hq).2.1) _ _⟩

theorem calls_sound {P : Program} {mm : Memo} {tab : Nat → Option AFunc} {B : Fr} {w0 : World} (hT : TabOk P tab) (hM : MemoOk P mm) (m : Nat) : CallsOk P (callF mm tab (exec mm tab m)) B w0 := calls_all hT (hM.at B.n w0) m B rfl

/-- a call that was run is known -/
theorem fact_of {P : Program} {mm : Memo} {tab : Nat → Option AFunc} (hT : TabOk P tab) (hM : MemoOk P mm) {m f : Nat} {args : List Value} {h : Heap} {v : Value} {h' : Heap} (hv : callF mm tab (exec mm tab m) (.fn f) args h = some (v, h')) : Fact P f args h v h' :=
  ⟨((calls_sound (B := ⟨0, fun _ => none⟩) (w0 := default) hT hM m).fn f args h v h' hv).1, (calls_sound (B := ⟨0, fun _ => none⟩) (w0 := default) hT hM m).marks _ _ _ _ _ hv,
    fun B w0 μ w args' R ha => ((calls_sound (B := B) (w0 := w0) hT hM m).fn f args h v h' hv).2 μ w args' R ha⟩

theorem memo0 (P : Program) : MemoOk P (fun _ _ _ => none) := fun _ _ _ _ _ h => by cases h

/-! ### a run with nothing given -/

def okTrue : Option (Value × Heap) → Bool
  | some (.bool true, _) => true
  | _ => false

def heap0 : Heap := ⟨.nil, 0, .nil, []⟩

theorem rel0 {C : CRel} (w : World) : Rel C (fun _ => none) heap0 ⟨w.heap.size, fun _ => none⟩ w w :=
  { below := Below.refl _ _, size := Nat.le_refl _, zk := fun i o h => (by cases h), fresh := fun b e h => by simp at h, blk := fun b k h => by simp [heap0, T.get_nil] at h, apart := fun b b' k k' e e' h => by simp [heap0, T.get_nil] at h, aux := ⟨fun b k h => by simp [heap0, T.get_nil] at h, fun b b' k k' e e' h => by simp [heap0, T.get_nil] at h, fun m h => by simp [heap0] at h, List.Pairwise.nil⟩ }

theorem closed_run {P : Program} {tab : Nat → Option AFunc} (hT : TabOk P tab) {n f : Nat} (h : okTrue (call tab n f [] heap0) = true) (w : World) :
    Calls P f #[] w fun e w' => e = .returned (.bool true) ∧ Below w.heap.size w w' := by
  unfold okTrue at h
  split at h
  · rename_i h' hc
    have := ((calls_sound (B := ⟨w.heap.size, fun _ => none⟩) (w0 := w) hT (memo0 P) n).fn f [] heap0 _ h' hc).2 _ w [] (rel0 w) (.nil _)
    refine this.mono ?_
    rintro e w' ⟨μ', v', rfl, _, R, hv⟩
    exact ⟨by rw [hv.bool], R.below⟩
  · cases h

end
end Go.Proofs.YthjhlifbdieibaaGreatDoor.Ai
