/- Code, run over the abstract heap. -/
import Derived.Test.YtedldiimhbebdaaAiSoundS
namespace Go.Proofs.Ytedldiimhbebdaa.Ai
noncomputable section
open Go.RowKit

inductive ARes where
  | tmp (t : Nat)
  | cell1 (t : Nat)
  | cellN (t n : Nat)

structure AFunc where
  n : Nat
  body : ACode
  res : List ARes

/-- what may be called: a function, a loop's round -/
inductive Tgt where
  | fn (f : Nat)
  | yield (b : Nat)

abbrev CallF := Tgt → List Value → Heap → Option (Value × Heap)

def isB (v : Value) (want : Bool) : Bool := match v with
  | .bool b => bif want then b else !b
  | _ => false

def wantedA (ts : T Value) : Option (Nat × Bool) → Bool
  | none => true
  | some (t, b) => isB (look ts t) b

def lookT (t : Nat) : List (Nat × Nat) → Option Nat
  | [] => none
  | (u, f) :: r => bif Nat.beq u t then some f else lookT t r

def step1Q (q : AOp) : CallF → T Value → Heap → Option (Value × Heap) := match q with
  | .p q => fun _ ts h => match pop ts q with
    | some v => some (v, h)
    | none => none
  | .r q => fun _ ts h => match rop ts h q with
    | some v => some (v, h)
    | none => none
  | .e q => fun _ ts h => eop ts h q
  | .call f l => fun callF ts h => callF (.fn f) (evs ts l) h
  | .callv x l => fun callF ts h => match ev ts x with
    | .func (.func f) fs cs => callF (.fn f) (fs.toList ++ evs ts l ++ cs.toList) h
    | .func (.yield b) _ _ => callF (.yield b) (evs ts l) h
    | _ => none
  | .invoke tbl x l => fun callF ts h => match ev ts x with
    | .iface t v => (match lookT t tbl with
      | some f => callF (.fn f) (v :: evs ts l) h
      | none => none)
    | _ => none
  | .bad => fun _ _ _ => none

def step1 (callF : CallF) (ts : T Value) (h : Heap) (q : AOp) : Option (Value × Heap) := step1Q q callF ts h

def putA (ts : T Value) (dst : Option Nat) (v : Value) : T Value := match dst with
  | some d => ts.put d v
  | none => ts

def runOps (cf : CallF) (l : List AOper) : T Value → Heap → Option (T Value × Heap) := List.rec (motive := fun _ => T Value → Heap → Option (T Value × Heap)) (fun ts h => some (ts, h))
  (fun o _ ih ts h => match wantedA ts o.guard with
    | true => match step1 cf ts h o.op with
      | some (v, h') => ih (putA ts o.dst v) h'
      | none => none
    | false => ih (putA ts o.dst undef) h) l

theorem runOps_nil (cf : CallF) (ts : T Value) (h : Heap) : runOps cf [] ts h = some (ts, h) := rfl
theorem runOps_cons (cf : CallF) (o : AOper) (r : List AOper) (ts : T Value) (h : Heap) : runOps cf (o :: r) ts h = match wantedA ts o.guard with
    | true => match step1 cf ts h o.op with
      | some (v, h') => runOps cf r (putA ts o.dst v) h'
      | none => none
    | false => runOps cf r (putA ts o.dst undef) h := rfl

def isE : AOp → Bool
  | .e _ => true
  | .call _ _ => true
  | .callv _ _ => true
  | .invoke _ _ _ => true
  | _ => false

structure Rec where
  o : AOper
  ts : T Value
  v : Value

/-- the text's order; the heaps behind each turning; what each operation came to -/
def runTrace (callF : CallF) (l : List AOper) : T Value → Heap → Option (List Rec × List Heap × T Value × Heap) := List.rec (motive := fun _ => T Value → Heap → Option (List Rec × List Heap × T Value × Heap)) (fun ts h => some ([], [], ts, h))
  (fun o _ ih ts h => match (match wantedA ts o.guard with
      | true => step1 callF ts h o.op
      | false => some (undef, h)) with
    | some (v, h1) => (match ih (putA ts o.dst v) h1 with
      | some (recs, hs, ts', h') => some (⟨o, ts, v⟩ :: recs, (bif isE o.op then h1 :: hs else hs), ts', h')
      | none => none)
    | none => none) l

theorem runTrace_nil (cf : CallF) (ts : T Value) (h : Heap) : runTrace cf [] ts h = some ([], [], ts, h) := rfl
theorem runTrace_cons (callF : CallF) (o : AOper) (r : List AOper) (ts : T Value) (h : Heap) : runTrace callF (o :: r) ts h = match (match wantedA ts o.guard with
      | true => step1 callF ts h o.op
      | false => some (undef, h)) with
    | some (v, h1) => (match runTrace callF r (putA ts o.dst v) h1 with
      | some (recs, hs, ts', h') => some (⟨o, ts, v⟩ :: recs, (bif isE o.op then h1 :: hs else hs), ts', h')
      | none => none)
    | none => none := rfl

def veq1 : Value → Value → Bool
  | .int k a, .int k' b => decide (k = k') && decide (a = b)
  | .bool a, .bool b => a == b
  | .pointer a, .pointer b => decide (a = b)
  | .slice a n c, .slice a' n' c' => decide (a = a') && Nat.beq n n' && Nat.beq c c'
  | .nilFunc, .nilFunc => true
  | .nilIface, .nilIface => true
  | _, _ => false

def veqs : List Value → List Value → Bool
  | [], [] => true
  | a :: l, b :: r => veq1 a b && veqs l r
  | _, _ => false

def veq : Value → Value → Bool
  | .agg a, .agg b => veqs a.toList b.toList
  | .func (.func f) a b, .func (.func g) a' b' => Nat.beq f g && veqs a.toList a'.toList && veqs b.toList b'.toList
  | .func (.yield f) a b, .func (.yield g) a' b' => Nat.beq f g && veqs a.toList a'.toList && veqs b.toList b'.toList
  | .iface t a, .iface t' a' => Nat.beq t t' && veq1 a a'
  | a, b => veq1 a b

theorem veq1_eq {a b : Value} (h : veq1 a b = true) : a = b := by
  unfold veq1 at h
  split at h <;> simp_all

theorem veqs_eq : ∀ {a b : List Value}, veqs a b = true → a = b
  | [], [], _ => rfl
  | a :: l, b :: r, h => by
    simp only [veqs, Bool.and_eq_true] at h
    rw [veq1_eq h.1, veqs_eq h.2]
  | [], _ :: _, h => by cases h
  | _ :: _, [], h => by cases h

theorem veq_eq {a b : Value} (h : veq a b = true) : a = b := by
  unfold veq at h
  split at h
  · have := veqs_eq h
    congr 1
    exact Array.ext' this
  · simp only [Bool.and_eq_true] at h
    rw [Nat.eq_of_beq_eq_true h.1.1, Array.ext' (veqs_eq h.1.2), Array.ext' (veqs_eq h.2)]
  · simp only [Bool.and_eq_true] at h
    rw [Nat.eq_of_beq_eq_true h.1.1, Array.ext' (veqs_eq h.1.2), Array.ext' (veqs_eq h.2)]
  · simp only [Bool.and_eq_true] at h
    rw [Nat.eq_of_beq_eq_true h.1, veq1_eq h.2]
  · exact veq1_eq h

/-- a reading is the same over all these heaps -/
def chkR (ts : T Value) (q : ROp) (v : Value) : List Heap → Bool
  | [] => true
  | h :: r => (match rop ts h q with
    | some u => veq u v
    | none => false) && chkR ts q v r

def chk1 (hs : List Heap) (r : Rec) (lo hi : Nat) : Bool := match r.o.op with
    | .r q => (bif Nat.beq lo hi then true else match wantedA r.ts r.o.guard with
      | true => chkR r.ts q r.v ((hs.drop lo).take (hi + 1 - lo))
      | false => true)
    | _ => true

def chkAll (hs : List Heap) (l : List Rec) : List (Nat × Nat) → Bool := List.rec (motive := fun _ => List (Nat × Nat) → Bool) (fun _ => true) (fun r _ ih w => match w with
  | (lo, hi) :: ws => chk1 hs r lo hi && ih ws
  | [] => true) l

theorem chkAll_cons (hs : List Heap) (r : Rec) (rs : List Rec) (lo hi : Nat) (ws : List (Nat × Nat)) : chkAll hs (r :: rs) ((lo, hi) :: ws) = (chk1 hs r lo hi && chkAll hs rs ws) := rfl
theorem chkAll_nil (hs : List Heap) (ws : List (Nat × Nat)) : chkAll hs [] ws = true := rfl
theorem chkAll_nil' (hs : List Heap) (rs : List Rec) : chkAll hs rs [] = true := by cases rs <;> rfl

/-- no reading may run at more than one place -/
def trivW : List AOper → List (Nat × Nat) → Bool
  | o :: l, (lo, hi) :: ws => (match o.op with
    | .r _ => Nat.beq lo hi
    | _ => true) && trivW l ws
  | _, _ => true

def winsOf (l : List AOper) (ws : List (Nat × Nat)) : List (Nat × Nat) := bif trivW l ws then [] else ws

def runDraw (callF : CallF) (l : List AOper) (win : List (Nat × Nat)) (ts : T Value) (h : Heap) : Option (T Value × Heap) := match win with
  | [] => runOps callF l ts h
  | w :: ws => match runTrace callF l ts h with
    | some (recs, hs, ts', h') => bif chkAll (h :: hs) recs (w :: ws) then some (ts', h') else none
    | none => none

def putArgs (ts : T Value) (i : Nat) : List Value → T Value
  | [] => ts
  | v :: r => putArgs (ts.put i v) (i + 1) r

def resA (ts : T Value) (h : Heap) : ARes → Option Value
  | .tmp t => some (look ts t)
  | .cell1 t => match look ts t with
    | .pointer (some ⟨b, o, none⟩) => h.rd b o
    | _ => none
  | .cellN t n => match look ts t with
    | .pointer (some ⟨b, o, none⟩) => (match h.rds b o n with
      | some l => some (.agg l.toArray)
      | none => none)
    | _ => none

def resAll (ts : T Value) (h : Heap) : List ARes → Option (List Value)
  | [] => some []
  | r :: rs => match resA ts h r, resAll ts h rs with
    | some v, some vs => some (v :: vs)
    | _, _ => none

def mkRes : List Value → Value
  | [v] => v
  | vs => .tuple vs.toArray

def putPs (ts : T Value) : List Nat → List Value → T Value
  | p :: ps, v :: vs => putPs (ts.put p v) ps vs
  | _, _ => ts

def isN : AExit → Bool
  | .normal => true
  | _ => false

/-- how a round has ended is written into the loop's record -/
def endR (e : AExit) (b : Nat) (M : List Nat) (h : Heap) : Option (Value × Heap) := match h.loops.get b with
  | some k => some (.bool (isN e), { h with loops := h.loops.put b { k with st := (bif isN e then 0 else 2), pend := (bif isN e then none else some e) }, marks := M })
  | none => none

/-- a round begins -/
def beginR (b : Nat) (h : Heap) : Option Heap := match h.loops.get b with
  | some k => bif Nat.beq k.st 0 then some { h with loops := h.loops.put b { k with st := 1 } } else none
  | none => none

abbrev ExF := Option Nat → ACode → T Value → Heap → Option (AExit × T Value × Heap)

/-- calls of which it is known what they come to -/
abbrev Memo := Nat → List Value → Heap → Option (Value × Heap)

def callF (mm : Memo) (tab : Nat → Option AFunc) (ex : ExF) : CallF := fun t args h => match t with
  | .fn f => match mm f args h with
    | some r => some r
    | none => match tab f with
    | none => none
    | some af => bif Nat.ble args.length af.n then (match ex none af.body (putArgs .nil 0 args) h with
      | some (.exit _, _, _) => none
      | some (_, ts', h') => (match resAll ts' h' af.res with
        | some vs => some (mkRes vs, { h' with marks := h.marks })
        | none => none)
      | none => none) else none
  | .yield b => match h.loops.get b with
    | none => none
    | some k => bif Nat.beq args.length k.ps.length && k.ps.all (Nat.blt · k.n) then (match ex (some b) k.asg (putPs k.ts k.ps args) h with
      | some (.normal, ts1, h1) => (match beginR b h1 with
        | some h2 => (match ex (some b) k.body ts1 h2 with
          | some (e, _, h3) => endR e b h.marks h3
          | none => none)
        | none => none)
      | _ => none) else none

/-- the loop's record is laid, and, outside of a round, the block for the rounds' deferred calls -/
def enterL (ro : Option Nat) (k : LRec) (h : Heap) : Option (Nat × Heap) := match ro with
  | none => some (h.next + 1, { h with next := h.next + 2, loops := h.loops.put (h.next + 1) k, marks := h.next :: h.marks })
  | some b0 => match h.loops.get b0 with
    | none => none
    | some _ => some (h.next, { h with next := h.next + 1, loops := h.loops.put h.next k })

/-- the function has come back -/
def endL (b : Nat) (ts : T Value) (h : Heap) : Option (AExit × T Value × Heap) := match h.loops.get b with
  | some k => bif Nat.beq k.st 1 then none else (match k.pend with
    | none => some (.normal, ts, { h with loops := h.loops.put b { k with st := 3 } })
    | some .normal => none
    | some e => some (e, ts, { h with loops := h.loops.put b { k with st := 3 } }))
  | none => none

def execQ (c : ACode) : ExF → CallF → Option Nat → T Value → Heap → Option (AExit × T Value × Heap) := match c with
  | .skip => fun _ _ _ ts h => some (.normal, ts, h)
  | .ret => fun _ _ _ ts h => some (.ret, ts, h)
  | .exit id => fun _ _ _ ts h => some (.exit id, ts, h)
  | .ops l => fun _ cf _ ts h => (match runOps cf l ts h with
    | some (ts', h') => some (.normal, ts', h')
    | none => none)
  | .draw l win => fun _ cf _ ts h => (match runDraw cf l win ts h with
    | some (ts', h') => some (.normal, ts', h')
    | none => none)
  | .seq a b => fun ex _ ro ts h => (match ex ro a ts h with
    | some (.normal, ts', h') => ex ro b ts' h'
    | r => r)
  | .cond c a b => fun ex _ ro ts h => (match ev ts c with
    | .bool true => ex ro a ts h
    | .bool false => ex ro b ts h
    | _ => none)
  | .block id b => fun ex _ ro ts h => (match ex ro b ts h with
    | some (.exit id', ts', h') => bif Nat.beq id' id then some (.normal, ts', h') else some (.exit id', ts', h')
    | r => r)
  | .loop b => fun ex _ ro ts h => (match ex ro b ts h with
    | some (.normal, ts', h') => ex ro (.loop b) ts' h'
    | r => r)
  | .rangeF g N ps asg body => fun _ cf ro ts h => (match ev ts g with
    | .func (.func f) fs cs => (match enterL ro { ts := ts, n := N, ps := ps, asg := asg, body := body, st := 0, pend := none } h with
      | some (b, h1) => (match cf (.fn f) (fs.toList ++ [.func (.yield b) #[] #[]] ++ cs.toList) h1 with
        | some (_, h2) => endL b ts h2
        | none => none)
      | none => none)
    | _ => none)
  | .bad => fun _ _ _ _ _ => none

def exec (mm : Memo) (tab : Nat → Option AFunc) (n : Nat) : ExF := Nat.rec (motive := fun _ => ExF) (fun _ _ _ _ => none) (fun _ ih ro c ts h => execQ c ih (callF mm tab ih) ro ts h) n

theorem exec_zero (mm : Memo) (tab : Nat → Option AFunc) (ro : Option Nat) (c : ACode) (ts : T Value) (h : Heap) : exec mm tab 0 ro c ts h = none := rfl
theorem exec_succ (mm : Memo) (tab : Nat → Option AFunc) (n : Nat) (ro : Option Nat) (c : ACode) (ts : T Value) (h : Heap) : exec mm tab (n + 1) ro c ts h = execQ c (exec mm tab n) (callF mm tab (exec mm tab n)) ro ts h := rfl

/-- a call, with so much fuel -/
def call (tab : Nat → Option AFunc) (n f : Nat) (args : List Value) (h : Heap) : Option (Value × Heap) := callF (fun _ _ _ => none) tab (exec (fun _ _ _ => none) tab n) (.fn f) args h

end
end Go.Proofs.Ytedldiimhbebdaa.Ai
