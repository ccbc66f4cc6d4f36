/- The operations of the model's code, made ready for a run over the abstract heap; each does what the run says. -/
import Derived.Test.YtedldiimhbebdaaAiOps
namespace Go.Proofs.Ytedldiimhbebdaa.Ai
noncomputable section
open Go.RowKit

def o1 (x : Operand) (f : Opd → AOp) : AOp := match compOpd x with
  | some x => f x
  | none => .bad

def oO (x : Option Operand) (f : Option Opd → AOp) : AOp := match x with
  | none => f none
  | some x => match compOpd x with
    | some x => f (some x)
    | none => .bad

def oL : List Operand → Option (List Opd)
  | [] => some []
  | x :: r => match compOpd x, oL r with
    | some x, some r => some (x :: r)
    | _, _ => none

def nilKind (P : Program) (t : TypeId) : Operand → Option Nat
  | .const (.pointer none) => match P.underlying t with
    | some (.pointer _) => some 0
    | _ => none
  | .const (.slice none 0 0) => match P.underlying t with
    | some (.slice _) => some 1
    | _ => none
  | .const .nilFunc => match P.underlying t with
    | some (.func _ _ _) => some 2
    | _ => none
  | .const .nilIface => match P.underlying t with
    | some (.interface _) => some 3
    | _ => none
  | _ => none

def isBool (P : Program) (t : TypeId) : Bool := match P.underlying t with
  | some .bool => true
  | _ => false

def isAggT (P : Program) (t : TypeId) : Option Bool := match P.underlying t with
  | some (.struct _) => some true
  | some (.array _ _) => some true
  | some _ => some false
  | none => none

def compFs (P : Program) (f : TypeId → Option ET) : List Field → Option ET
  | [] => some .done
  | fl :: r => bif fl.name == "_" then none else match P.info? fl.type, isAggT P fl.type, f fl.type, compFs P f r with
    | some i, some ag, some sub, some rest => some (.fld ag fl.offset i.size sub rest)
    | _, _, _, _ => none

def compET (P : Program) : Nat → TypeId → Option ET
  | 0, _ => none
  | n + 1, t => match P.underlying t with
    | some (.int _) => some .int
    | some .bool => some .bool
    | some .string => some .str
    | some (.struct fields) => bif P.stoodInHeld t then none else compFs P (compET P n) fields.toList
    | _ => none

/-- a struct's type, whose values may be held against one another -/
def structET (P : Program) (t : TypeId) : Option ET := match P.underlying t with
  | some (.struct _) => bif P.eqGuardType P.depth t then none else compET P 6 t
  | _ => none

/-- the types that have a method of this name, straight on a pointer, and the function that it is -/
def methTbl (P : Program) (name : String) : List Nat → List (Nat × Nat)
  | [] => []
  | t :: r => match P.info? t, P.underlying t with
    | some i, some (.pointer _) => (match i.methods.find? (fun m => m.name == name) with
      | some m => (match m.path.toList, m.func with
        | [], some (f, true) => (t, f) :: methTbl P name r
        | _, _ => methTbl P name r)
      | none => methTbl P name r)
    | _, _ => methTbl P name r

/-- parts of a struct or an array: where each lies, how many cells it has -/
def compParts (place : Nat → Option (Nat × Nat)) : List (Nat × Operand) → Option (List (Nat × Nat × Opd))
  | [] => some []
  | (i, x) :: r => match place i, compOpd x, compParts place r with
    | some (o, s), some x, some r => some ((o, s, x) :: r)
    | _, _, _ => none

def zeroCells (P : Program) (t : TypeId) : Option (List Value) := match P.info? t with
  | some i => match i.zero with
    | some z => bif z.cells.toList.all plain && Nat.beq z.cells.toList.length i.size then some z.cells.toList else none
    | none => none
  | none => none

def elemOf' (P : Program) (t : TypeId) : Option (TypeId × Nat × Nat) := match P.underlying t with
  | some (.slice e) => match P.info? e with
    | some i => some (e, i.size, i.bytes)
    | none => none
  | _ => none

def compBuiltin (P : Program) (b : Builtin) (ats : Array TypeId) (args : List Operand) : AOp := match b, args with
  | .len, [x] => match ats.toList with
    | [t] => match P.underlying t with
      | some (.slice _) => o1 x fun x => .p (.len false x)
      | some .string => o1 x fun x => .p (.len true x)
      | _ => .bad
    | _ => .bad
  | .cap, [x] => match ats.toList with
    | [t] => match P.underlying t with
      | some (.slice _) => o1 x fun x => .r (.cap x)
      | _ => .bad
    | _ => .bad
  | .max, [x, y] => o1 x fun x => o1 y fun y => .p (.mx x y)
  | .min, [x, y] => o1 x fun x => o1 y fun y => .p (.mn x y)
  | .append, [x, y] => match ats.toList with
    | [t, u] => match elemOf' P t with
      | some (e, s, bytes) => match P.underlying u with
        | some (.slice _) => o1 x fun x => o1 y fun y => match zeroCells P e with
          | some _ => .e (.app s bytes x y)
          | none => .bad
        | some (.int _) => match zeroCells P e with
          | some z => o1 x fun x => o1 y fun y => .e (.appZ s bytes z x y)
          | none => .bad
        | _ => .bad
      | none => .bad
    | _ => .bad
  | _, _ => .bad

def comp (P : Program) : Go.Op → AOp
  | .move x => o1 x fun x => .p (.mov x)
  | .assign x => o1 x fun x => .p (.mov x)
  | .pick c a b => o1 c fun c => o1 a fun a => o1 b fun b => .p (.pick c a b)
  | .binOp op t x y _ => match op, nilKind P t y with
    | .eql, some k => o1 x fun x => .p (.eqNil k false x)
    | .neq, some k => o1 x fun x => .p (.eqNil k true x)
    | .eql, none => match structET P t with
      | some et => o1 x fun x => o1 y fun y => .p (.eqS false et x y)
      | none => o1 x fun x => o1 y fun y => .p (.bin .eql (isBool P t) x y)
    | .neq, none => match structET P t with
      | some et => o1 x fun x => o1 y fun y => .p (.eqS true et x y)
      | none => o1 x fun x => o1 y fun y => .p (.bin .neq (isBool P t) x y)
    | op, _ => o1 x fun x => o1 y fun y => .p (.bin op (isBool P t) x y)
  | .unOp op _ x => match op with
    | .not => o1 x fun x => .p (.not x)
    | .neg => o1 x fun x => .p (.neg x)
    | _ => .bad
  | .convert src dst x => match P.underlying src, P.underlying dst with
    | some _, some (.int k) => o1 x fun x => .p (.conv k x)
    | _, _ => .bad
  | .fieldAddr s x f => match P.underlying s with
    | some (.struct fields) => match fields.toList[f]? with
      | some fl => match P.info? fl.type with
        | some i => bif Nat.beq i.size 0 then .bad else o1 x fun x => .p (.fieldAddr fl.offset x)
        | none => .bad
      | none => .bad
    | _ => .bad
  | .field s x f => match P.underlying s with
    | some (.struct fields) => match fields.toList[f]? with
      | some fl => match P.underlying fl.type, P.info? fl.type with
        | some (.struct _), some i => o1 x fun x => .p (.fieldN fl.offset i.size x)
        | some (.array _ _), some i => o1 x fun x => .p (.fieldN fl.offset i.size x)
        | some _, some _ => o1 x fun x => .p (.field1 fl.offset x)
        | _, _ => .bad
      | none => .bad
    | _ => .bad
  | .indexAddr t x i => match P.underlying t with
    | some (.slice e) => match P.info? e with
      | some inf => o1 x fun x => o1 i fun i => .p (.idxS inf.size x i)
      | none => .bad
    | some (.array len e) => match P.info? e with
      | some inf => o1 x fun x => o1 i fun i => .p (.idxA len inf.size x i)
      | none => .bad
    | _ => .bad
  | .index t x i => match P.underlying t with
    | some .string => o1 x fun x => o1 i fun i => .p (.idxStr x i)
    | some (.array len e) => match P.underlying e, P.info? e with
      | some (.struct _), some inf => o1 x fun x => o1 i fun i => .p (.idxVN len inf.size x i)
      | some (.array _ _), some inf => o1 x fun x => o1 i fun i => .p (.idxVN len inf.size x i)
      | some _, some inf => o1 x fun x => o1 i fun i => .p (.idxV1 len inf.size x i)
      | _, _ => .bad
    | _ => .bad
  | .slice t x lo hi mx => match P.underlying t with
    | some (.slice e) => match P.info? e with
      | some inf => o1 x fun x => oO lo fun lo => oO hi fun hi => oO mx fun mx => .r (.slice inf.size x lo hi mx)
      | none => .bad
    | _ => .bad
  | .load t x => match P.underlying t, P.info? t with
    | some (.struct _), some i => o1 x fun x => .r (.loadN i.size x)
    | some (.array _ _), some i => o1 x fun x => .r (.loadN i.size x)
    | some _, some _ => o1 x fun x => .r (.load1 x)
    | _, _ => .bad
  | .store t x y => match P.info? t with
    | some i => o1 x fun x => o1 y fun y => .e (.store i.size x y)
    | none => .bad
  | .alloc t => match zeroCells P t with
    | some z => .e (.alloc z)
    | none => .bad
  | .box t x => match P.info? t with
    | some i => o1 x fun x => .e (.box i.size x)
    | none => .bad
  | .build t parts => match P.underlying t, zeroCells P t with
    | some (.struct fields), some z => match fields.toList.mapM (fun f => (P.info? f.type).map fun i => (f.offset, i.size)) with
      | some places => match compParts (places.toArray[·]?) parts.toList with
        | some ps => .p (.build z ps)
        | none => .bad
      | none => .bad
    | some (.array _ e), some z => match P.info? e with
      | some ie => match compParts (fun i => some (i * ie.size, ie.size)) parts.toList with
        | some ps => .p (.build z ps)
        | none => .bad
      | none => .bad
    | _, _ => .bad
  | .buildSlice t len parts => match elemOf' P t with
    | some (e, s, _) => match zeroCells P e with
      | some z => bif Nat.ble (len * s) 1000000 && Nat.ble 1 s then (match compParts (fun i => some (i * s, s)) parts.toList with
        | some ps => .e (.buildS s len (rep z len) ps)
        | none => .bad) else .bad
      | none => .bad
    | none => .bad
  | .makeSlice t l c => match elemOf' P t with
    | some (e, s, bytes) => match zeroCells P e with
      | some z => bif Nat.ble 1 s then o1 l fun l => o1 c fun c => .e (.mkS s bytes z l c) else .bad
      | none => .bad
    | none => .bad
  | .nilCheck x => o1 x fun x => .p (.nilchk x)
  | .extract x i => o1 x fun x => .p (.ext i x)
  | .call c => match c.callee with
    | .builtin b => compBuiltin P b c.argTypes c.args.toList
    | .value (.func f) => match oL c.args.toList with
      | some l => .call f l
      | none => .bad
    | .value (.tmp t) => match oL c.args.toList with
      | some l => .callv (.t t) l
      | none => .bad
    | .invoke x name => match oL c.args.toList with
      | some l => o1 x fun x => .invoke (methTbl P name (List.range P.types.size)) x l
      | none => .bad
    | _ => .bad
  | .makeFunc fn fs cs => match fn, oL fs.toList, oL cs.toList with
    | .func f, some fs, some cs => .p (.mkFunc f fs cs)
    | _, _, _ => .bad
  | .makeInterface t x => match P.underlying t with
    | some (.interface _) => .bad
    | some _ => o1 x fun x => .p (.mkIface t x)
    | none => .bad
  | .typeAssert x _ t ok => match ok, P.underlying t, P.info? t with
    | true, some (.interface _), _ => .bad
    | true, some _, some i => (match i.zero with
      | some z => bif selfOk z then o1 x fun x => .p (.tyAs t z x) else .bad
      | none => .bad)
    | _, _, _ => .bad
  | _ => .bad

theorem o1_inv {x : Operand} {f : Opd → AOp} {A : AOp} (h : o1 x f = A) (hA : A ≠ .bad) : ∃ y, compOpd x = some y ∧ f y = A := by
  unfold o1 at h
  split at h
  · exact ⟨_, by assumption, h⟩
  · exact absurd h.symm hA

theorem cond_inv {c : Bool} {x A : AOp} (h : (bif c then x else .bad) = A) (hA : A ≠ .bad) : c = true ∧ x = A := by
  cases c
  · exact absurd h.symm hA
  · exact ⟨rfl, h⟩

theorem oO_inv {x : Option Operand} {f : Option Opd → AOp} {A : AOp} (h : oO x f = A) (hA : A ≠ .bad) :
    (x = none ∧ f none = A) ∨ ∃ X y, x = some X ∧ compOpd X = some y ∧ f (some y) = A := by
  unfold oO at h
  split at h
  · exact .inl ⟨rfl, h⟩
  · split at h
    · exact .inr ⟨_, _, rfl, by assumption, h⟩
    · exact absurd h.symm hA

end
end Go.Proofs.Ytedldiimhbebdaa.Ai
