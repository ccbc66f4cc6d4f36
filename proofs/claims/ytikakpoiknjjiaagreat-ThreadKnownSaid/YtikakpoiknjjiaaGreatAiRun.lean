/- Code, run over the abstract heap. -/
import Derived.Test.YtikakpoiknjjiaaGreatAiSoundS
namespace Go.Proofs.YtikakpoiknjjiaaGreat.Ai
open Go.RowKit

structure AOper where
  dst : Option Nat
  op : AOp
  guard : Option (Nat × Bool)

inductive ACode where
  | skip
  | ret
  | exit (id : Nat)
  | ops (l : List AOper)
  /-- in whatever order its edges allow: to each operation between which numbers of turnings it may run -/
  | draw (l : List AOper) (win : List (Nat × Nat))
  | seq (a b : ACode)
  | cond (c : Opd) (a b : ACode)
  | block (id : Nat) (b : ACode)
  | loop (b : ACode)
  | bad

inductive ARes where
  | tmp (t : Nat)
  | cell1 (t : Nat)
  | cellN (t n : Nat)

structure AFunc where
  n : Nat
  body : ACode
  res : List ARes

inductive AExit where
  | normal
  | exit (id : Nat)
  | ret

abbrev CallF := Nat → List Value → Heap → Option (Value × Heap)

def isB (v : Value) (want : Bool) : Bool := match v with
  | .bool b => bif want then b else !b
  | _ => false

def wantedA (ts : T Value) : Option (Nat × Bool) → Bool
  | none => true
  | some (t, b) => isB (look ts t) b

def lookT (t : Nat) : List (Nat × Nat) → Option Nat
  | [] => none
  | (u, f) :: r => bif Nat.beq u t then some f else lookT t r

def step1 (callF : CallF) (ts : T Value) (h : Heap) : AOp → Option (Value × Heap)
  | .p q => match pop ts q with
    | some v => some (v, h)
    | none => none
  | .r q => match rop ts h q with
    | some v => some (v, h)
    | none => none
  | .e q => eop ts h q
  | .call f l => callF f (evs ts l) h
  | .callv x l => match ev ts x with
    | .func (.func f) fs cs => callF f (fs.toList ++ evs ts l ++ cs.toList) h
    | _ => none
  | .invoke tbl x l => match ev ts x with
    | .iface t v => (match lookT t tbl with
      | some f => callF f (v :: evs ts l) h
      | none => none)
    | _ => none
  | .bad => none

def putA (ts : T Value) (dst : Option Nat) (v : Value) : T Value := match dst with
  | some d => ts.put d v
  | none => ts

def runOps (callF : CallF) : List AOper → T Value → Heap → Option (T Value × Heap)
  | [], ts, h => some (ts, h)
  | o :: r, ts, h => match wantedA ts o.guard with
    | true => match step1 callF ts h o.op with
      | some (v, h') => runOps callF r (putA ts o.dst v) h'
      | none => none
    | false => runOps callF r (putA ts o.dst undef) h

def isE : AOp → Bool
  | .e _ => true
  | .call _ _ => true
  | .callv _ _ => true
  | .invoke _ _ _ => true
  | _ => false

structure Rec where
  o : AOper
  ts : T Value
  v : Value

/-- the text's order; the heaps behind each turning; what each operation came to -/
def runTrace (callF : CallF) : List AOper → T Value → Heap → Option (List Rec × List Heap × T Value × Heap)
  | [], ts, h => some ([], [], ts, h)
  | o :: r, ts, h => match (match wantedA ts o.guard with
      | true => step1 callF ts h o.op
      | false => some (undef, h)) with
    | some (v, h1) => (match runTrace callF r (putA ts o.dst v) h1 with
      | some (recs, hs, ts', h') => some (⟨o, ts, v⟩ :: recs, (bif isE o.op then h1 :: hs else hs), ts', h')
      | none => none)
    | none => none

def veq1 : Value → Value → Bool
  | .int k a, .int k' b => decide (k = k') && decide (a = b)
  | .bool a, .bool b => a == b
  | .pointer a, .pointer b => decide (a = b)
  | .slice a n c, .slice a' n' c' => decide (a = a') && Nat.beq n n' && Nat.beq c c'
  | .nilFunc, .nilFunc => true
  | .nilIface, .nilIface => true
  | _, _ => false

def veqs : List Value → List Value → Bool
  | [], [] => true
  | a :: l, b :: r => veq1 a b && veqs l r
  | _, _ => false

def veq : Value → Value → Bool
  | .agg a, .agg b => veqs a.toList b.toList
  | a, b => veq1 a b

theorem veq1_eq {a b : Value} (h : veq1 a b = true) : a = b := by
  unfold veq1 at h
  split at h <;> simp_all

theorem veqs_eq : ∀ {a b : List Value}, veqs a b = true → a = b
  | [], [], _ => rfl
  | a :: l, b :: r, h => by
    simp only [veqs, Bool.and_eq_true] at h
    rw [veq1_eq h.1, veqs_eq h.2]
  | [], _ :: _, h => by cases h
  | _ :: _, [], h => by cases h

theorem veq_eq {a b : Value} (h : veq a b = true) : a = b := by
  unfold veq at h
  split at h
  · have := veqs_eq h
    congr 1
    exact Array.ext' this
  · exact veq1_eq h

/-- a reading is the same over all these heaps -/
def chkR (ts : T Value) (q : ROp) (v : Value) : List Heap → Bool
  | [] => true
  | h :: r => (match rop ts h q with
    | some u => veq u v
    | none => false) && chkR ts q v r

def chkAll (hs : List Heap) : List Rec → List (Nat × Nat) → Bool
  | r :: rs, (lo, hi) :: ws => (match r.o.op with
    | .r q => (bif Nat.beq lo hi then true else match wantedA r.ts r.o.guard with
      | true => chkR r.ts q r.v ((hs.drop lo).take (hi + 1 - lo))
      | false => true)
    | _ => true) && chkAll hs rs ws
  | _, _ => true

def runDraw (callF : CallF) (l : List AOper) (win : List (Nat × Nat)) (ts : T Value) (h : Heap) : Option (T Value × Heap) := match runTrace callF l ts h with
  | some (recs, hs, ts', h') => bif chkAll (h :: hs) recs win then some (ts', h') else none
  | none => none

def putArgs (ts : T Value) (i : Nat) : List Value → T Value
  | [] => ts
  | v :: r => putArgs (ts.put i v) (i + 1) r

def resA (ts : T Value) (h : Heap) : ARes → Option Value
  | .tmp t => some (look ts t)
  | .cell1 t => match look ts t with
    | .pointer (some ⟨b, o, none⟩) => h.rd b o
    | _ => none
  | .cellN t n => match look ts t with
    | .pointer (some ⟨b, o, none⟩) => (match h.rds b o n with
      | some l => some (.agg l.toArray)
      | none => none)
    | _ => none

def resAll (ts : T Value) (h : Heap) : List ARes → Option (List Value)
  | [] => some []
  | r :: rs => match resA ts h r, resAll ts h rs with
    | some v, some vs => some (v :: vs)
    | _, _ => none

def mkRes : List Value → Value
  | [v] => v
  | vs => .tuple vs.toArray

def callF (tab : Nat → Option AFunc) (ex : ACode → T Value → Heap → Option (AExit × T Value × Heap)) : CallF := fun f args h =>
  match tab f with
  | none => none
  | some af => bif Nat.ble args.length af.n then (match ex af.body (putArgs .nil 0 args) h with
    | some (.exit _, _, _) => none
    | some (_, ts', h') => (match resAll ts' h' af.res with
      | some vs => some (mkRes vs, h')
      | none => none)
    | none => none) else none

def exec (tab : Nat → Option AFunc) : Nat → ACode → T Value → Heap → Option (AExit × T Value × Heap)
  | 0, _, _, _ => none
  | n + 1, c, ts, h => match c with
    | .skip => some (.normal, ts, h)
    | .ret => some (.ret, ts, h)
    | .exit id => some (.exit id, ts, h)
    | .ops l => (match runOps (callF tab (exec tab n)) l ts h with
      | some (ts', h') => some (.normal, ts', h')
      | none => none)
    | .draw l win => (match runDraw (callF tab (exec tab n)) l win ts h with
      | some (ts', h') => some (.normal, ts', h')
      | none => none)
    | .seq a b => (match exec tab n a ts h with
      | some (.normal, ts', h') => exec tab n b ts' h'
      | r => r)
    | .cond c a b => (match ev ts c with
      | .bool true => exec tab n a ts h
      | .bool false => exec tab n b ts h
      | _ => none)
    | .block id b => (match exec tab n b ts h with
      | some (.exit id', ts', h') => bif Nat.beq id' id then some (.normal, ts', h') else some (.exit id', ts', h')
      | r => r)
    | .loop b => (match exec tab n b ts h with
      | some (.normal, ts', h') => exec tab n (.loop b) ts' h'
      | r => r)
    | .bad => none

/-- a call, with so much fuel -/
def call (tab : Nat → Option AFunc) (n : Nat) : CallF := callF tab (exec tab n)

end Go.Proofs.YtikakpoiknjjiaaGreat.Ai
