/- What a run is of: operations and code, as data. -/
import Derived.WalkKit
import Derived.IntWalk
namespace Go.Proofs.Ytedldiimhbebdaa.Ai
open Go.RowKit

inductive Opd where
  | t (i : Nat)
  | c (v : Value)

/-- how values of a type are held against one another -/
inductive ET where
  | int
  | bool
  | str
  | done
  | fld (agg : Bool) (off size : Nat) (sub rest : ET)

/-- an operation that asks the frame alone -/
inductive POp where
  | mov (x : Opd)
  | pick (c a b : Opd)
  | bin (op : BinOp) (boolType : Bool) (x y : Opd)
  | eqNil (kind : Nat) (neg : Bool) (x : Opd)
  | not (x : Opd)
  | neg (x : Opd)
  | conv (k : IntKind) (x : Opd)
  | fieldAddr (off : Nat) (x : Opd)
  | field1 (off : Nat) (x : Opd)
  | fieldN (off n : Nat) (x : Opd)
  | idxS (s : Nat) (x i : Opd)
  | idxA (len s : Nat) (x i : Opd)
  | idxStr (x i : Opd)
  | ext (i : Nat) (x : Opd)
  | len (str : Bool) (x : Opd)
  | nilchk (x : Opd)
  | build (zero : List Value) (parts : List (Nat × Nat × Opd))
  | mx (x y : Opd)
  | mn (x y : Opd)
  | eqS (neg : Bool) (et : ET) (x y : Opd)
  | mkFunc (f : Nat) (fs cs : List Opd)
  | mkIface (t : Nat) (x : Opd)
  | tyAs (t : Nat) (zero : Value) (x : Opd)
  | idxV1 (len s : Nat) (x i : Opd)
  | idxVN (len s : Nat) (x i : Opd)
  | bad

/-- one that reads the heap -/
inductive ROp where
  | load1 (x : Opd)
  | loadN (n : Nat) (x : Opd)
  | slice (s : Nat) (x : Opd) (lo hi mx : Option Opd)
  | cap (x : Opd)

/-- one that turns it -/
inductive EOp where
  | store (n : Nat) (a x : Opd)
  | box (n : Nat) (x : Opd)
  | alloc (zero : List Value)
  | buildS (s len : Nat) (zero : List Value) (parts : List (Nat × Nat × Opd))
  | mkS (s bytes : Nat) (zero : List Value) (l c : Opd)
  | app (s bytes : Nat) (x y : Opd)
  | appZ (s bytes : Nat) (zero : List Value) (x y : Opd)

inductive AOp where
  | p (o : POp)
  | r (o : ROp)
  | e (o : EOp)
  | call (f : Nat) (args : List Opd)
  | callv (f : Opd) (args : List Opd)
  | invoke (tbl : List (Nat × Nat)) (x : Opd) (args : List Opd)
  | bad

structure AOper where
  dst : Option Nat
  op : AOp
  guard : Option (Nat × Bool)

inductive ACode where
  | skip
  | ret
  | exit (id : Nat)
  | ops (l : List AOper)
  /-- in whatever order its edges allow: to each operation between which numbers of turnings it may run -/
  | draw (l : List AOper) (win : List (Nat × Nat))
  | seq (a b : ACode)
  | cond (c : Opd) (a b : ACode)
  | block (id : Nat) (b : ACode)
  | loop (b : ACode)
  /-- over a function -/
  | rangeF (g : Opd) (n : Nat) (ps : List Nat) (asg body : ACode)
  | bad

inductive AExit where
  | normal
  | exit (id : Nat)
  | ret

end Go.Proofs.Ytedldiimhbebdaa.Ai
