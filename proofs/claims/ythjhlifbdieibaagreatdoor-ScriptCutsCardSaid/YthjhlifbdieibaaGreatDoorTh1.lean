/- A run of the program's code over an abstract heap, and that it is the model's: part Th1 of the theory. -/
import Derived.Test.YthjhlifbdieibaaGreatDoorTh0
import Derived.RangeFuncNested
import Derived.OrdersIn
namespace Go.Proofs.YthjhlifbdieibaaGreatDoor.Ai
noncomputable section
set_option linter.all false
open Go.RowKit
inductive Al2 where
 | tmp (t : Nat)
 | cell1 (t : Nat)
 | cellN (t n : Nat)
structure Aac where
 n : Nat
 body : Abi
 res : List Al2
inductive Tgt where
 | fn (f : Nat)
 | yield (b : Nat)
abbrev Aas := Tgt -> List Value -> Aaa -> Option (Value × Aaa)
def isB (v : Value) (want : Bool) : Bool := match v with
 | .bool b => bif want then b else !b
 | _ => false
def Aa2 (ts : T Value) : Option (Nat × Bool) -> Bool
 | none => true
 | some (t, b) => isB (Aax ts t) b
def Akt (t : Nat) : List (Nat × Nat) -> Option Nat
 | [] => none
 | (u, f) :: r => bif Nat.beq u t then some f else Akt t r
def Aa8 (q : AOp) : Aas -> T Value -> Aaa -> Option (Value × Aaa) := match q with
 | .p q => fun _ ts h => match pop ts q with
  | some v => some (v, h)
  | none => none
 | .r q => fun _ ts h => match rop ts h q with
  | some v => some (v, h)
  | none => none
 | .e q => fun _ ts h => eop ts h q
 | .call f l => fun Abg ts h => Abg (.fn f) (evs ts l) h
 | .callv x l => fun Abg ts h => match ev ts x with
  | .func (.func f) fs cs => Abg (.fn f) (fs.toList ++ evs ts l ++ cs.toList) h
  | .func (.yield b) _ _ => Abg (.yield b) (evs ts l) h
  | _ => none
 | .invoke tbl x l => fun Abg ts h => match ev ts x with
  | .iface t v => (match Akt t tbl with
   | some f => Abg (.fn f) (v :: evs ts l) h
   | none => none)
  | _ => none
 | .bad => fun _ _ _ => none
def Aa5 (Abg : Aas) (ts : T Value) (h : Aaa) (q : AOp) : Option (Value × Aaa) := Aa8 q Abg ts h
def Abr (ts : T Value) (dst : Option Nat) (v : Value) : T Value := match dst with
 | some d => ts.put d v
 | none => ts
def Ad3 (cf : Aas) (l : List Aah) : T Value → Aaa → Option (T Value × Aaa) := List.rec (motive := fun _ => T Value → Aaa → Option (T Value × Aaa)) (fun ts h => some (ts, h))
  (fun o _ ih ts h => match Aa2 ts o.guard with
    | true => match Aa5 cf ts h o.op with
      | some (v, h') => ih (Abr ts o.dst v) h'
      | none => none
    | false => ih (Abr ts o.dst undef) h) l
theorem Aes (cf : Aas) (ts : T Value) (h : Aaa) : Ad3 cf [] ts h = some (ts, h) := rfl
theorem Acd (cf : Aas) (o : Aah) (r : List Aah) (ts : T Value) (h : Aaa) : Ad3 cf (o :: r) ts h = match Aa2 ts o.guard with
  | true => match Aa5 cf ts h o.op with
   | some (v, h') => Ad3 cf r (Abr ts o.dst v) h'
   | none => none
  | false => Ad3 cf r (Abr ts o.dst undef) h := rfl
def isE : AOp -> Bool
 | .e _ => true
 | .call _ _ => true
 | .callv _ _ => true
 | .invoke _ _ _ => true
 | _ => false
structure Rec where
 o : Aah
 ts : T Value
 v : Value
def Abz (Abg : Aas) (l : List Aah) : T Value → Aaa → Option (List Rec × List Aaa × T Value × Aaa) := List.rec (motive := fun _ => T Value → Aaa → Option (List Rec × List Aaa × T Value × Aaa)) (fun ts h => some ([], [], ts, h))
  (fun o _ ih ts h => match (match Aa2 ts o.guard with
      | true => Aa5 Abg ts h o.op
      | false => some (undef, h)) with
    | some (v, h1) => (match ih (Abr ts o.dst v) h1 with
      | some (recs, hs, ts', h') => some (⟨o, ts, v⟩ :: recs, (bif isE o.op then h1 :: hs else hs), ts', h')
      | none => none)
    | none => none) l
theorem Acn (cf : Aas) (ts : T Value) (h : Aaa) : Abz cf [] ts h = some ([], [], ts, h) := rfl
theorem Ab9 (Abg : Aas) (o : Aah) (r : List Aah) (ts : T Value) (h : Aaa) : Abz Abg (o :: r) ts h = match (match Aa2 ts o.guard with
   | true => Aa5 Abg ts h o.op
   | false => some (undef, h)) with
  | some (v, h1) => (match Abz Abg r (Abr ts o.dst v) h1 with
   | some (recs, hs, ts', h') => some (⟨o, ts, v⟩ :: recs, (bif isE o.op then h1 :: hs else hs), ts', h')
   | none => none)
  | none => none := rfl
def Aom : Value -> Value -> Bool
 | .int k a, .int k' b => decide (k = k') && decide (a = b)
 | .bool a, .bool b => a == b
 | .pointer a, .pointer b => decide (a = b)
 | .slice a n c, .slice a' n' c' => decide (a = a') && Nat.beq n n' && Nat.beq c c'
 | .nilFunc, .nilFunc => true
 | .nilIface, .nilIface => true
 | _, _ => false
def Aoe : List Value -> List Value -> Bool
 | [], [] => true
 | a :: l, b :: r => Aom a b && Aoe l r
 | _, _ => false
def veq : Value -> Value -> Bool
 | .agg a, .agg b => Aoe a.toList b.toList
 | .func (.func f) a b, .func (.func g) a' b' => Nat.beq f g && Aoe a.toList a'.toList && Aoe b.toList b'.toList
 | .func (.yield f) a b, .func (.yield g) a' b' => Nat.beq f g && Aoe a.toList a'.toList && Aoe b.toList b'.toList
 | .iface t a, .iface t' a' => Nat.beq t t' && Aom a a'
 | a, b => Aom a b
theorem Aif {a b : Value} (h : Aom a b = true) : a = b := by
 unfold Aom at h
 split at h <;> simp_all
theorem Aet : ∀ {a b : List Value}, Aoe a b = true -> a = b
 | [], [], _ => rfl
 | a :: l, b :: r, h => by
  simp only [Aoe, Bool.and_eq_true] at h
  rw [Aif h.1, Aet h.2]
 | [], _ :: _, h => by cases h
 | _ :: _, [], h => by cases h
theorem Ak9 {a b : Value} (h : veq a b = true) : a = b := by
 unfold veq at h
 split at h
 ·have := Aet h
  congr 1
  exact Array.ext' this
 ·simp only [Bool.and_eq_true] at h
  rw [Nat.eq_of_beq_eq_true h.1.1, Array.ext' (Aet h.1.2), Array.ext' (Aet h.2)]
 ·simp only [Bool.and_eq_true] at h
  rw [Nat.eq_of_beq_eq_true h.1.1, Array.ext' (Aet h.1.2), Array.ext' (Aet h.2)]
 ·simp only [Bool.and_eq_true] at h
  rw [Nat.eq_of_beq_eq_true h.1, Aif h.2]
 ·exact Aif h
def Apj (ts : T Value) (q : ROp) (v : Value) : List Aaa -> Bool
 | [] => true
 | h :: r => (match rop ts h q with
  | some u => veq u v
  | none => false) && Apj ts q v r
def Are (hs : List Aaa) (r : Rec) (lo hi : Nat) : Bool := match r.o.op with
  | .r q => (bif Nat.beq lo hi then true else match Aa2 r.ts r.o.guard with
   | true => Apj r.ts q r.v ((hs.drop lo).take (hi + 1 - lo))
   | false => true)
  | _ => true
def Ac2 (hs : List Aaa) (l : List Rec) : List (Nat × Nat) → Bool := List.rec (motive := fun _ => List (Nat × Nat) → Bool) (fun _ => true) (fun r _ ih w => match w with
  | (lo, hi) :: ws => Are hs r lo hi && ih ws
  | [] => true) l
theorem Ad8 (hs : List Aaa) (r : Rec) (rs : List Rec) (lo hi : Nat) (ws : List (Nat × Nat)) : Ac2 hs (r :: rs) ((lo, hi) :: ws) = (Are hs r lo hi && Ac2 hs rs ws) := rfl
theorem Af4 (hs : List Aaa) (ws : List (Nat × Nat)) : Ac2 hs [] ws = true := rfl
theorem Ad7 (hs : List Aaa) (rs : List Rec) : Ac2 hs rs [] = true := by cases rs <;> rfl
def Al9 : List Aah -> List (Nat × Nat) -> Bool
 | o :: l, (lo, hi) :: ws => (match o.op with
  | .r _ => Nat.beq lo hi
  | _ => true) && Al9 l ws
 | _, _ => true
def Amj (l : List Aah) (ws : List (Nat × Nat)) : List (Nat × Nat) := bif Al9 l ws then [] else ws
def Aep (Abg : Aas) (l : List Aah) (win : List (Nat × Nat)) (ts : T Value) (h : Aaa) : Option (T Value × Aaa) := match win with
 | [] => Ad3 Abg l ts h
 | w :: ws => match Abz Abg l ts h with
  | some (recs, hs, ts', h') => bif Ac2 (h :: hs) recs (w :: ws) then some (ts', h') else none
  | none => none
def Ab3 (ts : T Value) (i : Nat) : List Value -> T Value
 | [] => ts
 | v :: r => Ab3 (ts.put i v) (i + 1) r
def Am6 (ts : T Value) (h : Aaa) : Al2 -> Option Value
 | .tmp t => some (Aax ts t)
 | .cell1 t => match Aax ts t with
  | .pointer (some ⟨b, o, none⟩) => h.rd b o
  | _ => none
 | .cellN t n => match Aax ts t with
  | .pointer (some ⟨b, o, none⟩) => (match h.rds b o n with
   | some l => some (.agg l.toArray)
   | none => none)
  | _ => none
def Ab1 (ts : T Value) (h : Aaa) : List Al2 -> Option (List Value)
 | [] => some []
 | r :: rs => match Am6 ts h r, Ab1 ts h rs with
  | some v, some vs => some (v :: vs)
  | _, _ => none
def Adj : List Value -> Value
 | [v] => v
 | vs => .tuple vs.toArray
def Amv (ts : T Value) : List Nat -> List Value -> T Value
 | p :: ps, v :: vs => Amv (ts.put p v) ps vs
 | _, _ => ts
def isN : Aa6 -> Bool
 | .normal => true
 | _ => false
def Aqz (e : Aa6) (b : Nat) (M : List Nat) (h : Aaa) : Option (Value × Aaa) := match h.lqs.get b with
 | some k => some (.bool (isN e), { h with lqs := h.lqs.put b { k with st := (bif isN e then 0 else 2), pend := (bif isN e then none else some e) }, mq := M })
 | none => none
def Alo (b : Nat) (h : Aaa) : Option Aaa := match h.lqs.get b with
 | some k => bif Nat.beq k.st 0 then some { h with lqs := h.lqs.put b { k with st := 1 } } else none
 | none => none
abbrev ExF := Option Nat -> Abi -> T Value -> Aaa -> Option (Aa6 × T Value × Aaa)
abbrev Agw := Nat -> List Value -> Aaa -> Option (Value × Aaa)
def Abg (mm : Agw) (tab : Nat -> Option Aac) (ex : ExF) : Aas := fun t args h => match t with
 | .fn f => match mm f args h with
  | some r => some r
  | none => match tab f with
  | none => none
  | some af => bif Nat.ble args.length af.n then (match ex none af.body (Ab3 .nil 0 args) h with
   | some (.exit _, _, _) => none
   | some (_, ts', h') => (match Ab1 ts' h' af.res with
    | some vs => some (Adj vs, { h' with mq := h.mq })
    | none => none)
   | none => none) else none
 | .yield b => match h.lqs.get b with
  | none => none
  | some k => bif Nat.beq args.length k.ps.length && k.ps.all (Nat.blt · k.n) then (match ex (some b) k.asg (Amv k.ts k.ps args) h with
   | some (.normal, ts1, h1) => (match Alo b h1 with
    | some h2 => (match ex (some b) k.body ts1 h2 with
     | some (e, _, h3) => Aqz e b h.mq h3
     | none => none)
    | none => none)
   | _ => none) else none
def Ai0 (ro : Option Nat) (k : Ah9) (h : Aaa) : Option (Nat × Aaa) := match ro with
 | none => some (h.nq + 1, { h with nq := h.nq + 2, lqs := h.lqs.put (h.nq + 1) k, mq := h.nq :: h.mq })
 | some b0 => match h.lqs.get b0 with
  | none => none
  | some _ => some (h.nq, { h with nq := h.nq + 1, lqs := h.lqs.put h.nq k })
def Ass (b : Nat) (ts : T Value) (h : Aaa) : Option (Aa6 × T Value × Aaa) := match h.lqs.get b with
 | some k => bif Nat.beq k.st 1 then none else (match k.pend with
  | none => some (.normal, ts, { h with lqs := h.lqs.put b { k with st := 3 } })
  | some .normal => none
  | some e => some (e, ts, { h with lqs := h.lqs.put b { k with st := 3 } }))
 | none => none
def Ac3 (c : Abi) : ExF -> Aas -> Option Nat -> T Value -> Aaa -> Option (Aa6 × T Value × Aaa) := match c with
 | .skip => fun _ _ _ ts h => some (.normal, ts, h)
 | .ret => fun _ _ _ ts h => some (.ret, ts, h)
 | .exit id => fun _ _ _ ts h => some (.exit id, ts, h)
 | .ops l => fun _ cf _ ts h => (match Ad3 cf l ts h with
  | some (ts', h') => some (.normal, ts', h')
  | none => none)
 | .draw l win => fun _ cf _ ts h => (match Aep cf l win ts h with
  | some (ts', h') => some (.normal, ts', h')
  | none => none)
 | .seq a b => fun ex _ ro ts h => (match ex ro a ts h with
  | some (.normal, ts', h') => ex ro b ts' h'
  | r => r)
 | .cond c a b => fun ex _ ro ts h => (match ev ts c with
  | .bool true => ex ro a ts h
  | .bool false => ex ro b ts h
  | _ => none)
 | .block id b => fun ex _ ro ts h => (match ex ro b ts h with
  | some (.exit id', ts', h') => bif Nat.beq id' id then some (.normal, ts', h') else some (.exit id', ts', h')
  | r => r)
 | .loop b => fun ex _ ro ts h => (match ex ro b ts h with
  | some (.normal, ts', h') => ex ro (.loop b) ts' h'
  | r => r)
 | .rangeF g N ps asg body => fun _ cf ro ts h => (match ev ts g with
  | .func (.func f) fs cs => (match Ai0 ro { ts := ts, n := N, ps := ps, asg := asg, body := body, st := 0, pend := none } h with
   | some (b, h1) => (match cf (.fn f) (fs.toList ++ [.func (.yield b) #[] #[]] ++ cs.toList) h1 with
    | some (_, h2) => Ass b ts h2
    | none => none)
   | none => none)
  | _ => none)
 | .bad => fun _ _ _ _ _ => none
def Aek (mm : Agw) (tab : Nat → Option Aac) (n : Nat) : ExF := Nat.rec (motive := fun _ => ExF) (fun _ _ _ _ => none) (fun _ ih ro c ts h => Ac3 c ih (Abg mm tab ih) ro ts h) n
theorem Ahi (mm : Agw) (tab : Nat -> Option Aac) (ro : Option Nat) (c : Abi) (ts : T Value) (h : Aaa) : Aek mm tab 0 ro c ts h = none := rfl
theorem Aaz (mm : Agw) (tab : Nat -> Option Aac) (n : Nat) (ro : Option Nat) (c : Abi) (ts : T Value) (h : Aaa) : Aek mm tab (n + 1) ro c ts h = Ac3 c (Aek mm tab n) (Abg mm tab (Aek mm tab n)) ro ts h := rfl
def call (tab : Nat -> Option Aac) (n f : Nat) (args : List Value) (h : Aaa) : Option (Value × Aaa) := Abg (fun _ _ _ => none) tab (Aek (fun _ _ _ => none) tab n) (.fn f) args h
open Go.RowKit
def Amp : Option Opd -> List Opd
 | some x => [x]
 | none => []
def Acy : List (Nat × Nat × Opd) -> List Opd
 | [] => []
 | (_, _, x) :: r => x :: Acy r
def Aoz : POp -> List Opd
 | .mov x => [x]
 | .pick c a b => [c, a, b]
 | .bin _ _ x y => [x, y]
 | .eqNil _ _ x => [x]
 | .not x => [x]
 | .neg x => [x]
 | .conv _ x => [x]
 | .fieldAddr _ x => [x]
 | .field1 _ x => [x]
 | .fieldN _ _ x => [x]
 | .idxS _ x i => [x, i]
 | .idxA _ _ x i => [x, i]
 | .idxStr x i => [x, i]
 | .ext _ x => [x]
 | .len _ x => [x]
 | .nilchk x => [x]
 | .build _ ps => Acy ps
 | .mx x y => [x, y]
 | .mn x y => [x, y]
 | .eqS _ _ x y => [x, y]
 | .mkFunc _ fs cs => fs ++ cs
 | .mkIface _ x => [x]
 | .tyAs _ _ x => [x]
 | .idxV1 _ _ x i => [x, i]
 | .idxVN _ _ x i => [x, i]
 | .usd x => [x]
 | .ust x n => [x, n]
 | .bad => []
def Afy : ROp -> List Opd
 | .load1 x => [x]
 | .loadN _ x => [x]
 | .slice _ x lo hi mx => x :: (Amp lo ++ Amp hi ++ Amp mx)
 | .cap x => [x]
 | .bts x => [x]
def Ao3 : EOp -> List Opd
 | .store _ a x => [a, x]
 | .box _ x => [x]
 | .alloc _ => []
 | .buildS _ _ _ ps => Acy ps
 | .mkS _ _ _ l c => [l, c]
 | .app _ _ x y => [x, y]
 | .appZ _ _ _ x y => [x, y]
def Aqh : AOp -> List Opd
 | .p q => Aoz q
 | .r q => Afy q
 | .e q => Ao3 q
 | .call _ l => l
 | .callv x l => x :: l
 | .invoke _ x l => x :: l
 | .bad => []
def Afp : List Opd -> List Nat
 | [] => []
 | .t i :: r => i :: Afp r
 | .c _ :: r => Afp r
def reads (o : Aah) : List Nat := (match o.guard with
 | some (t, _) => [t]
 | none => []) ++ Afp (Aqh o.op)
def Ack (o : Oper) : List Nat := (o.after.toList.filter (Region.binds .any ·)).map (·.on)
def Arg (tbl : List Nat) (es : List Nat) : Nat := es.foldl (fun m j => m ||| (2 ^ j ||| tbl.getD j 0)) 0
def Aef (tbl : List Nat) : List (List Nat) -> List Nat
 | [] => tbl
 | es :: r => Aef (tbl ++ [Arg tbl es]) r
def anc (tbl : List Nat) (i j : Nat) : Bool := (tbl.getD i 0).testBit j
def Aat (l : List Aah) (i : Nat) : Bool := match l[i]? with
 | some o => isE o.op
 | none => false
def Ao9 : AOp -> Bool
 | .e (.alloc _) => true
 | .e (.buildS _ _ _ _) => true
 | .e (.mkS _ _ _ _ _) => true
 | _ => false
def Ahg (tbl : List Nat) (l : List Aah) (F : Nat) (i j : Nat) : Bool := match l[i]?, l[j]? with
 | some oi, some oj => Nat.beq i j || ((match oi.dst, oj.dst with
   | some d, some d' => !(Nat.beq d d')
   | _, _ => true) && (match oj.dst with
   | some d => !((reads oi).any (Nat.beq d)) || anc tbl i j || anc tbl j i
   | none => true) && (!(isE oi.op && isE oj.op) || anc tbl i j || anc tbl j i || (Nat.beq i F && Nat.blt j F) || (Nat.beq j F && Nat.blt i F)))
 | _, _ => true
def Aso (tbl : List Nat) (l : List Aah) (eds : List (List Nat)) (F : Nat) : Bool := match l[F]? with
 | none => true
 | some o => Ao9 o.op && o.guard.isNone && o.dst.isSome && (List.range l.length).all fun i => (!(anc tbl i F) && !(((eds[i]?).getD []).any (Nat.beq F))) || (List.range F).all fun e => !(Aat l e) || anc tbl i e
def Afb (tbl : List Nat) (l : List Aah) : Nat := ((List.range l.length).find? fun j => Aat l j && (List.range j).any fun i => Aat l i && !(anc tbl i j) && !(anc tbl j i)).getD l.length
def Agp : Nat -> List (List Nat) -> Bool
 | _, [] => true
 | i, es :: r => es.all (Nat.blt · i) && Agp (i + 1) r
def Af1 (l : List Aah) : List Nat := (List.range l.length).filter fun i => match l[i]? with
 | some o => isE o.op
 | none => false
def Acw (tbl : List Nat) (es : List Nat) (i : Nat) : Nat × Nat := ((es.filter fun e => anc tbl i e).length, (es.filter fun e => !(anc tbl e i)).length)
def Adh (tbl : List Nat) (l : List Aah) (eds : List (List Nat)) : Bool :=
 Agp 0 eds && Nat.beq eds.length l.length && Aso tbl l eds (Afb tbl l) && (List.range l.length).all fun i => (List.range l.length).all fun j => Ahg tbl l (Afb tbl l) i j
def Aho (N : Nat) : Option Nat -> Bool
 | some d => Nat.blt d N
 | none => true
def Agk (P : Program) (N : Nat) (ops : Array Oper) (o : Oper) : Option Aah := bif Aho N o.dst then (match o.guard with
 | none => some { dst := o.dst, op := Abv P o.op, guard := none }
 | some (j, want) => match (ops.toList[j]?).bind (·.dst) with
  | some d => bif Nat.blt d N then some { dst := o.dst, op := Abv P o.op, guard := some (d, want) } else none
  | none => none) else none
def Abe (P : Program) (N : Nat) (ops : Array Oper) : List Oper -> Option (List Aah)
 | [] => some []
 | o :: r => match Agk P N ops o, Abe P N ops r with
  | some o, some r => some (o :: r)
  | _, _ => none
def Aaf (P : Program) (N : Nat) : Code -> Abi
 | .skip => .skip
 | .ret => .ret
 | .exit id => .exit id
 | .region _ ops false => match Abe P N ops ops.toList with
  | some l => .ops l
  | none => .bad
 | .region _ ops true => match Abe P N ops ops.toList with
  | some l => (let eds := ops.toList.map Ack
   let tbl := Aef [] eds
   bif P.follows .mixedOrders && Adh tbl l eds then .draw l (Amj l ((List.range l.length).map (Acw tbl (Af1 l)))) else .bad)
  | none => .bad
 | .seq a b => .seq (Aaf P N a) (Aaf P N b)
 | .cond c a b => match Aad c with
  | some c => .cond c (Aaf P N a) (Aaf P N b)
  | none => .bad
 | .block id b => .block id (Aaf P N b)
 | .loop b => .loop (Aaf P N b)
 | .rangeFunc g ps asg body => match Aad g with
  | some g => bif ps.toList.all (Nat.blt · N) then .rangeF g N ps.toList (Aaf P N asg) (Aaf P N body) else .bad
  | none => .bad
 | _ => .bad
def Agt (P : Program) : ResultVar -> Option Al2
 | .tmp t => some (.tmp t)
 | .cell a t => match P.underlying t, P.info? t with
  | some (.struct _), some i => some (.cellN a i.size)
  | some (.array _ _), some i => some (.cellN a i.size)
  | some _, some _ => some (.cell1 a)
  | _, _ => none
def Afa (P : Program) : List ResultVar -> Option (List Al2)
 | [] => some []
 | r :: rs => match Agt P r, Afa P rs with
  | some r, some rs => some (r :: rs)
  | _, _ => none
def Ae7 (P : Program) (fn : Func) : Option Aac := match fn.body, Afa P fn.results.toList with
 | some c, some res => bif fn.name == "runtime.NumGoroutine" then none else some { n := fn.ntmps, body := Aaf P fn.ntmps c, res := res }
 | _, _ => none
def Aag (P : Program) (f : Nat) : Option Aac := match P.funcs.toList[f]? with
 | some fn => Ae7 P fn
 | none => none
open Go.RowKit
def Aoj (P : Program) (f : Nat) : Prop := ∃ fn, P.funcs[f]? = some fn /\ fn.name ≠ "runtime.NumGoroutine" /\ fn.body.isSome = true
abbrev Cc (P : Program) : Af2 := fun N c ac => Aaf P N c = ac
def Ab5 (P : Program) (μ : Map) (h' : Aaa) (B : Fr) (w0 : World) (v : Value) : Ending -> World -> Prop := fun e w' => ∃ μ' v', e = .returned v' /\ μ.le μ' /\ Rel (Cc P) μ' h' B w0 w' /\ Aa3 μ' v v'
structure Acj (P : Program) (cf : Aas) (B : Fr) (w0 : World) : Prop where
 fn : ∀ f args h v h', cf (.fn f) args h = some (v, h') -> Aoj P f /\ ∀ μ w args', Rel (Cc P) μ h B w0 w -> Aam μ args args' -> Calls P f args'.toArray w (Ab5 P μ h' B w0 v)
 yield : ∀ b args h v h', cf (.yield b) args h = some (v, h') -> ∀ μ w args' e, Rel (Cc P) μ h B w0 w -> Aam μ args args' -> μ b = some e ->
  ∃ f tmps asg body, (Instr.yield e.blk args'.toArray).run P w = .ok (.round e.blk f tmps asg body) w /\ RoundIn Fence.wide 0 P e.blk f tmps asg body w (Ab5 P μ h' B w0 v)
 mq : ∀ t args h v h', cf t args h = some (v, h') -> h'.mq = h.mq
def FW (ro : Option Nat) : Fence := { Fence.wide with round := ro }
theorem Adx {ro : Option Nat} {n : Nat} {P : Program} {f : FuncId} {args : Array Value} {w : World} {R : Ending -> World -> Prop} (h : Calls P f args w R) : CallsIn (FW ro) n P f args w R := (callsIn_wide (n := n)).2 h
theorem Aiw {ro : Option Nat} {n : Nat} {P : Program} {f : FuncId} {args : Array Value} {w : World} {R : Ending -> World -> Prop} (h : CallsIn (FW ro) n P f args w R) : Calls P f args w R := (callsIn_wide (n := n)).1 h
theorem Aj3 {ro ro' : Option Nat} {n : Nat} {P : Program} {l : Nat} {f : FuncId} {tmps : Array Value} {assign body : Code} {w : World} {R : Ending -> World -> Prop} (h : RoundIn (FW ro) n P l f tmps assign body w R) : RoundIn (FW ro') n P l f tmps assign body w R := h
theorem Aea {ro : Option Nat} {n : Nat} : (FW ro).depth.isSome = true -> 1 <= n := fun h => by cases h
theorem Aqt {ro : Option Nat} {P : Program} {o : Oper} {a : Act} {w : World} {K : Act -> World -> Prop} {Q : Exit -> Act -> World -> Prop} (hd : ∀ c, o.op ≠ .defer c) (h : o.uponIn (FW ro) 0 P a K Q ((execOp a.eval o).run P w)) : o.wpIn (FW ro) 0 P a w K Q := by
 refine ⟨fun _ _ => trivial, ?_⟩
 have : Oper.semAt (FW ro).round a.eval o = execOp a.eval o := by
  cases ro with
  | none => rfl
  | some l => exact Oper.semAt_some l _ o hd
 rw [this]; exact h
theorem Aco {P : Program} {f : Nat} (h : Aoj P f) (args : Array Value) (w : World) : (callFunc f args).run P w = .ok (.enter f args) w := by
 obtain ⟨fn, h1, h2, h3⟩ := h
 simp [callFunc, h1, h2]
 intro hn; rw [hn] at h3; cases h3
section
variable {P : Program} {μ : Map} {h h' : Aaa} {B : Fr} {w0 : World} {ts : T Value} {a : Act} {w : World} {o : Oper} {v : Value} {cf : Aas}
theorem Ao1 {q : AOp} (f : Akp P o q) (hn : Ao9 q = true) (r : Aap μ ts a) (hv : Aa5 cf ts h q = some (v, h')) : Apr P μ h h' a w o v := by
 cases q with
 | e q =>
  have f : Afi P o q := f
  simp only [Aa5, Aa8] at hv
  cases f with
  | alloc t z ho hz => exact Ak6 ho hz hv
  | buildS t e len s q parts ps z ho he hz h1 h2 hp => exact Ai6 r ho he hz h1 h2 hp hv
  | mkS t e s q l c l' c' z ho he hz h2 hl hc => exact Aq8 r ho he hz h2 hl hc hv
  | _ => cases hn
 | _ => cases hn
theorem Ahx {t f : Nat} : ∀ {l : List (Nat × Nat)}, Akt t l = some f -> (t, f) ∈ l
 | [], h => by cases h
 | (u, g) :: r, h => by
  simp only [Akt] at h
  rcases Aan u t with ⟨b1, b2⟩ | ⟨b1, b2⟩
  ·rw [b1] at h; simp only [cond_true, Option.some.injEq] at h; subst h; subst b2; simp
  ·rw [b1] at h; simp only [cond_false] at h; exact List.mem_cons_of_mem _ (Ahx h)
theorem Acl {name : String} {t f : Nat} : ∀ {l : List Nat}, (t, f) ∈ Adb P name l -> ∃ i e m, P.info? t = some i /\ P.underlying t = some (.pointer e) /\ i.methods.find? (fun m => m.name == name) = some m /\ m.path.toList = [] /\ m.func = some (f, true)
 | [], h => by cases h
 | u :: r, h => by
  simp only [Adb] at h
  split at h
  ·rename_i i e hi hu
   split at h
   ·rename_i m hm
    split at h
    ·rename_i g hp hg
     rcases List.mem_cons.1 h with h | h
     ·cases h; exact ⟨i, e, m, hi, hu, hm, hp, hg⟩
     ·exact Acl h
    ·exact Acl h
   ·exact Acl h
  ·exact Acl h
theorem Afx {name : String} {t f : Nat} {l : List Nat} (h : (t, f) ∈ Adb P name l) (hf : Aoj P f) (v : Value) (args : Array Value) (w : World) : (callMethod (.iface t v) name args).run P w = .ok (.enter f (#[v] ++ args)) w := by
 obtain ⟨i, e, m, hi, hu, hm, hp, hg⟩ := Acl h
 have hp' : m.path = #[] := Array.ext' (by simpa using hp)
 have hmeth : ∀ k, (method (k + 1) t v name).run P w = .ok (f, v) w := by
  intro k
  simp [method, typeInfo, hi, hm, hp', follow, hg, receiverAt, run_underlying hu, Place.get]
 have hd : P.types.size + Made.depth = (P.types.size + 99) + 1 := rfl
 simp only [callMethod, Sem.run_bind, run_program, Result.andThen_ok, hd, hmeth, Aco hf]
theorem Ap6 {ro : Option Nat} {A : AOp} {K : Act -> World -> Prop} {Q : Exit -> Act -> World -> Prop} (hf : Akp P o A) (hb : ∀ c, o.op = .defer c -> A = .bad) (hc : Acj P cf B w0) (R : Rel (Cc P) μ h B w0 w) (r : Aap μ ts a) (hv : Aa5 cf ts h A = some (v, h'))
  (hK : ∀ μ' v' w', μ.le μ' -> Rel (Cc P) μ' h' B w0 w' -> Aa3 μ' v v' -> K (a.put o.dst v') w') : o.wpIn (FW ro) 0 P a w K Q := by
 have hnd : ∀ c, o.op ≠ .defer c := fun c h => by rw [hb c h] at hv; simp [Aa5, Aa8] at hv
 refine Aqt hnd ?_
 cases A with
 | p q =>
  simp only [Aa5, Aa8] at hv
  split at hv
  ·rename_i u hu
   simp only [Option.some.injEq, Prod.mk.injEq] at hv; obtain ⟨rfl, rfl⟩ := hv
   obtain ⟨v', h1, h2⟩ := Al0 (w := w) (show Abv P o.op = .p q from hf) r hu
   rw [h1, Oper.uponIn_value]
   exact hK μ v' w μ.le_refl R h2
  ·cases hv
 | r q =>
  simp only [Aa5, Aa8] at hv
  split at hv
  ·rename_i u hu
   simp only [Option.some.injEq, Prod.mk.injEq] at hv; obtain ⟨rfl, rfl⟩ := hv
   obtain ⟨v', h1, h2⟩ := Amb (show Ahw P o q from hf) R r hu
   rw [h1, Oper.uponIn_value]
   exact hK μ v' w μ.le_refl R h2
  ·cases hv
 | e q =>
  simp only [Aa5, Aa8] at hv
  obtain ⟨μ', v', w', h1, h2, h3, h4⟩ := Al5 (show Afi P o q from hf) R r hv
  rcases h1 with h1 | ⟨h1, h5⟩
  ·rw [h1, Oper.uponIn_value]; exact hK μ' v' w' h2 h3 h4
  ·rw [h1, Oper.uponIn_skip]; subst h5; exact hK μ' undef w' h2 h3 h4
 | call f l =>
  simp only [Aa5, Aa8] at hv
  have hf' : Ao6 o f l := hf
  cases hf' with
  | call c _ _ ho hcal hl =>
   obtain ⟨g1, g2⟩ := hc.fn f _ h v h' hv
   have g3 := g2 μ w _ R (Afq r hl)
   have hrun : (execOp a.eval o).run P w = .ok (.enter f (c.args.map a.eval)) w := by
    have := Aco g1 (c.args.map a.eval) w
    simp [execOp, ho, resolve, hcal, Deferred.ofValue, Act.eval, invoke, this]
   rw [hrun, Oper.uponIn_enter]
   have e1 : (c.args.toList.map a.eval).toArray = c.args.map a.eval := by apply Array.ext'; simp
   rw [e1] at g3
   refine ⟨Aea, Adx (g3.mono ?_)⟩
   rintro e w' ⟨μ', v', rfl, h2, h3, h4⟩
   exact hK μ' v' w' h2 h3 h4
 | callv x l =>
  simp only [Aa5, Aa8] at hv
  have hf' : Ao2 o x l := hf
  cases hf' with
  | callv c t _ ho hcal hl =>
   have hx : Aa3 μ (ev ts (.t t)) (a.eval (.tmp t)) := r t
   split at hv
   ·rename_i f fs cs hfn
    rw [hfn] at hx
    obtain ⟨g1, g2⟩ := hc.fn f _ h v h' hv
    have hX : ∃ fs' cs' : Array Value, a.eval (.tmp t) = .func (.func f) fs' cs' /\ Aam μ fs.toList fs'.toList /\ Aam μ cs.toList cs'.toList := by
     generalize a.eval (.tmp t) = X at hx
     cases hx with
     | same _ hp => simp [Aa9] at hp
     | func _ _ fs' _ cs' q0 q1 q2 q3 q4 => exact ⟨fs', cs', rfl, ⟨q1, q2⟩, ⟨q3, q4⟩⟩
    obtain ⟨fs', cs', hX, k1, k2⟩ := hX
    have g3 := g2 μ w _ R ((k1.append (Afq r hl)).append k2)
    have hrun : (execOp a.eval o).run P w = .ok (.enter f (fs' ++ (c.args.map a.eval ++ cs'))) w := by
     have := Aco g1 (fs' ++ (c.args.map a.eval ++ cs')) w
     simp [execOp, ho, resolve, hcal, hX, Deferred.ofValue, invoke, this]
    rw [hrun, Oper.uponIn_enter]
    have e1 : (fs'.toList ++ c.args.toList.map a.eval ++ cs'.toList).toArray = fs' ++ (c.args.map a.eval ++ cs') := by apply Array.ext'; simp
    rw [e1] at g3
    refine ⟨Aea, Adx (g3.mono ?_)⟩
    rintro e w' ⟨μ', v', rfl, h2, h3, h4⟩
    exact hK μ' v' w' h2 h3 h4
   ·rename_i b fs cs hfn
    rw [hfn] at hx
    have hX : ∃ e : Ent, μ b = some e /\ a.eval (.tmp t) = .func (.yield e.blk) #[] #[] := by
     generalize a.eval (.tmp t) = X at hx
     cases hx with
     | same _ hp => simp [Aa9] at hp
     | yield _ e he => exact ⟨e, he, rfl⟩
     | func _ _ _ _ _ q0 => exact absurd rfl (q0 _)
    obtain ⟨e, he, hX⟩ := hX
    obtain ⟨f, tmps, asg, body, g1, g2⟩ := hc.yield b _ h v h' hv μ w _ e R (Afq r hl) he
    have e1 : (c.args.toList.map a.eval).toArray = c.args.map a.eval := by apply Array.ext'; simp
    rw [e1] at g1
    have hrun : (execOp a.eval o).run P w = .ok (.round e.blk f tmps asg body) w := by
     simp [execOp, ho, resolve, hcal, hX, Deferred.ofValue, invoke, g1]
    rw [hrun, Oper.uponIn_round]
    refine ⟨Aea, Aj3 (ro := none) (g2.mono ?_)⟩
    rintro e w' ⟨μ', v', rfl, h2, h3, h4⟩
    exact hK μ' v' w' h2 h3 h4
   ·cases hv
 | invoke tbl x l =>
  simp only [Aa5, Aa8] at hv
  have hf' : Ao0 P o tbl x l := hf
  cases hf' with
  | invoke c x' y name _ ho hcal hx hl =>
   have hx := Aab r hx
   split at hv
   ·rename_i t u hiv
    rw [hiv] at hx
    split at hv
    ·rename_i f hlk
     obtain ⟨g1, g2⟩ := hc.fn f _ h v h' hv
     have hX : ∃ u', a.eval x' = .iface t u' /\ Aa3 μ u u' := by
      generalize a.eval x' = X at hx
      cases hx with
      | same _ hp => simp [Aa9] at hp
      | iface _ _ u' q => exact ⟨u', rfl, q⟩
     obtain ⟨u', hX, k1⟩ := hX
     have g3 := g2 μ w _ R (Aam.cons k1 (Afq r hl))
     have hrun : (execOp a.eval o).run P w = .ok (.enter f (#[u'] ++ c.args.map a.eval)) w := by
      have := Afx (Ahx hlk) g1 u' (c.args.map a.eval) w
      have e2 : (#[Value.iface t u'] ++ c.args.map a.eval).extract 1 (#[Value.iface t u'] ++ c.args.map a.eval).size = c.args.map a.eval := by
       apply Array.ext'
       simp [List.take_of_length_le]
      simp only [execOp, ho, resolve, hcal, hX, Sem.run_bind, Sem.run_pure, Result.andThen_ok, invoke]
      rw [e2]
      have e3 : (#[Value.iface t u'] ++ c.args.map a.eval)[0]? = some (Value.iface t u') := by rw [Array.getElem?_append_left (by simp)]; rfl
      rw [e3]
      exact this
     rw [hrun, Oper.uponIn_enter]
     have e1 : (u' :: c.args.toList.map a.eval).toArray = #[u'] ++ c.args.map a.eval := by apply Array.ext'; simp
     rw [e1] at g3
     refine ⟨Aea, Adx (g3.mono ?_)⟩
     rintro e w' ⟨μ', v', rfl, h2, h3, h4⟩
     exact hK μ' v' w' h2 h3 h4
    ·cases hv
   ·cases hv
 | bad => simp [Aa5, Aa8] at hv
theorem Ace (r : Aap μ ts a) {v v' : Value} (hv : Aa3 μ v v') {d : Option Nat} (hd : Aho a.tmps.size d = true) : Aap μ (Abr ts d v) (a.put d v') := by
 cases d with
 | none => exact r
 | some d =>
  have hlt : d < a.tmps.size := by
   have : Nat.ble (d + 1) a.tmps.size = true := hd
   have := Aao this; omega
  intro t
  by_cases ht : t = d
  ·subst ht
   simp only [Abr, Aax, T.get_put_same, Act.put, Array.getD_eq_getD_getElem?, Array.getElem?_setIfInBounds]
   simp only [if_true, if_pos hlt, Option.getD_some]
   exact hv
  ·have := r t
   simp only [Abr, Aax, T.get_put_other _ _ ht, Act.put, Array.getD_eq_getD_getElem?, Array.getElem?_setIfInBounds] at this ⊢
   rw [if_neg (fun q => ht q.symm)]
   exact this
theorem Adw (d : Option Nat) (v : Value) : (a.put d v).tmps.size = a.tmps.size := by cases d <;> simp [Act.put]
theorem Acc (d : Option Nat) (v : Value) : (a.put d v).defers = a.defers := by cases d <;> rfl
structure Afz (P : Program) (N : Nat) (ops : Array Oper) (o : Oper) (ao : Aah) : Prop where
 dst : ao.dst = o.dst
 dok : Aho N o.dst = true
 form : Akp P o ao.op
 nod : ∀ c, o.op = .defer c -> ao.op = .bad
 guard : (o.guard = none /\ ao.guard = none) \/ ∃ j want d, o.guard = some (j, want) /\ (ops.toList[j]?).bind (·.dst) = some d /\ d < N /\ ao.guard = some (d, want)
theorem Ad6 {N : Nat} {ops : Array Oper} {ao : Aah} (h : Agk P N ops o = some ao) : Afz P N ops o ao := by
 unfold Agk at h
 cases hd : Aho N o.dst with
 | false => rw [hd] at h; cases h
 | true =>
  rw [hd] at h; simp only [cond_true] at h
  split at h
  ·rename_i hg
   simp only [Option.some.injEq] at h; subst h
   exact ⟨rfl, hd, Akx rfl, fun c hc => by rw [hc]; rfl, .inl ⟨hg, rfl⟩⟩
  ·rename_i j want hg
   split at h
   ·rename_i d hj
    cases hlt : Nat.blt d N with
    | false => rw [hlt] at h; cases h
    | true =>
     rw [hlt] at h; simp only [cond_true, Option.some.injEq] at h; subst h
     have : Nat.ble (d + 1) N = true := hlt
     have := Aao this
     exact ⟨rfl, hd, Akx rfl, fun c hc => by rw [hc]; rfl, .inr ⟨j, want, d, hg, hj, Nat.lt_of_succ_le this, rfl⟩⟩
   ·cases h
def asB : Value -> Option Bool
 | .bool b => some b
 | _ => none
theorem Aou {x x' : Value} (h : Aa3 μ x x') (want : Bool) : isB x want = (asB x' == some want) := by
 cases h with
 | same x hp => cases x <;> first | (cases hp; done) | rfl | (rename_i b; cases b <;> cases want <;> rfl)
 | top _ hv => rcases hv with ⟨a, rfl⟩ | ⟨a, n, c, rfl⟩ <;> rfl
 | _ => rfl
theorem Aee {N : Nat} {ops : Array Oper} {ao : Aah} (k : Afz P N ops o ao) (r : Aap μ ts a) (hN : a.tmps.size = N) : Region.wanted o (yielded ops a.tmps) = Aa2 ts ao.guard := by
 rcases k.guard with ⟨h1, h2⟩ | ⟨j, want, d, h1, h2, h3, h4⟩
 ·simp [Region.wanted, h1, h2, Aa2]
 ·have hr := r d
  have hlt : d < a.tmps.size := by rw [hN]; exact h3
  have h2' : (ops[j]?).bind (·.dst) = some d := by simpa using h2
  simp only [Region.wanted, h1, h4, Aa2, yielded, h2', Option.bind_some, Array.getElem?_eq_getElem hlt]
  rw [Array.getD_eq_getD_getElem?, Array.getElem?_eq_getElem hlt, Option.getD_some] at hr
  rw [Aou hr]
  generalize a.tmps[d] = X
  cases X <;> rfl
def Arc (P : Program) (μ : Map) (N : Nat) (ds : List Deferred) (ts' : T Value) (h' : Aaa) (B : Fr) (w0 : World) (a' : Act) (w' : World) : Prop :=
 a'.tmps.size = N /\ a'.defers = ds /\ ∃ μ', μ.le μ' /\ Rel (Cc P) μ' h' B w0 w' /\ Aap μ' ts' a'
theorem Ah1 {ro : Option Nat} {N : Nat} {ops : Array Oper} {Q : Exit -> Act -> World -> Prop} (hc : Acj P cf B w0) : ∀ (l : List Oper) (l' : List Aah), Abe P N ops l = some l' ->
  ∀ (μ : Map) (h h' : Aaa) (ts ts' : T Value) (a : Act) (w : World), Rel (Cc P) μ h B w0 w -> Aap μ ts a -> a.tmps.size = N -> Ad3 cf l' ts h = some (ts', h') -> (∀ a' w', Arc P μ N a.defers ts' h' B w0 a' w' -> Q .normal a' w') ->
  wpListIn (FW ro) 0 P ops Q l a w := by
 intro l
 induction l with
 | nil =>
  intro l' hl μ h h' ts ts' a w R r hN hv hQ
  simp only [Abe, Option.some.injEq] at hl; subst hl
  simp only [Aes, Option.some.injEq, Prod.mk.injEq] at hv; obtain ⟨rfl, rfl⟩ := hv
  exact hQ a w ⟨hN, rfl, μ, μ.le_refl, R, r⟩
 | cons o l ih =>
  intro l' hl μ h h' ts ts' a w R r hN hv hQ
  simp only [Abe] at hl
  split at hl
  ·rename_i ao l2 hao hl2
   simp only [Option.some.injEq] at hl; subst hl
   have k := Ad6 hao
   have hw := Aee k r hN
   simp only [Acd] at hv
   refine wpListIn_step (fun K hK => ?_)
   cases hwa : Aa2 ts ao.guard with
   | true =>
    rw [hwa] at hv hw; simp only at hv
    rw [if_pos hw]
    split at hv
    ·rename_i v h1 hs
     refine Ap6 k.form k.nod hc R r hs (fun μ' v' w' hle R' hv' => hK _ _ ?_)
     have hd : Aho a.tmps.size o.dst = true := by rw [hN]; exact k.dok
     refine ih l2 hl2 μ' h1 h' _ ts' _ w' R' (Ace (r.mono hle) hv' hd) (by rw [Adw]; exact hN) (by rw [<- k.dst]; exact hv) (fun a' w'' hp => hQ a' w'' ?_)
     obtain ⟨p1, p2, μ2, p3, p4, p5⟩ := hp
     exact ⟨p1, by rw [p2, Acc], μ2, hle.trans p3, p4, p5⟩
    ·cases hv
   | false =>
    rw [hwa] at hv hw; simp only at hv
    rw [if_neg (by rw [hw]; simp)]
    refine ⟨fun _ _ => trivial, hK _ _ ?_⟩
    have hd : Aho a.tmps.size o.dst = true := by rw [hN]; exact k.dok
    refine ih l2 hl2 μ h h' _ ts' _ w R (Ace r (Ac1 μ) hd) (by rw [Adw]; exact hN) (by rw [<- k.dst]; exact hv) (fun a' w'' hp => hQ a' w'' ?_)
    obtain ⟨p1, p2, μ2, p3, p4, p5⟩ := hp
    exact ⟨p1, by rw [p2, Acc], μ2, p3, p4, p5⟩
  ·cases hl
end
open Go.RowKit
def Anc (E : Nat -> List Nat) (i j : Nat) : Prop := ∀ S : Nat -> Prop, (∀ x y, S x -> y ∈ E x -> S y) -> S i -> S j
theorem Anj (tbl : List Nat) (j : Nat) : ∀ (es : List Nat) (m : Nat), (es.foldl (fun m j => m ||| (2 ^ j ||| tbl.getD j 0)) m).testBit j = true ->
  m.testBit j = true \/ ∃ e ∈ es, j = e \/ (tbl.getD e 0).testBit j = true := by
 intro es
 induction es with
 | nil => intro m h; exact .inl h
 | cons e es ih =>
  intro m h
  simp only [List.foldl_cons] at h
  rcases ih _ h with h1 | ⟨e', h1, h2⟩
  ·simp only [Nat.testBit_or, Bool.or_eq_true, Nat.testBit_two_pow] at h1
   rcases h1 with h1 | h1 | h1
   ·exact .inl h1
   ·exact .inr ⟨e, by simp, .inl (of_decide_eq_true h1).symm⟩
   ·exact .inr ⟨e, by simp, .inr h1⟩
  ·exact .inr ⟨e', by simp [h1], h2⟩
theorem Aky (E : Nat -> List Nat) : ∀ (eds : List (List Nat)) (tbl : List Nat), (∀ k es, eds[k]? = some es -> E (tbl.length + k) = es) -> (∀ i j, anc tbl i j = true -> Anc E i j) ->
  ∀ i j, anc (Aef tbl eds) i j = true -> Anc E i j := by
 intro eds
 induction eds with
 | nil => intro tbl _ h; exact h
 | cons es eds ih =>
  intro tbl hE h
  simp only [Aef]
  refine ih _ ?_ ?_
  ·intro k es' hk
   have := hE (k + 1) es' (by simpa using hk)
   rw [List.length_append]; simpa [Nat.add_assoc, Nat.add_comm 1 k] using this
  ·intro i j hij
   unfold anc at hij
   by_cases hi : i < tbl.length
   ·rw [List.getD_eq_getElem?_getD, List.getElem?_append_left hi, <- List.getD_eq_getElem?_getD] at hij
    exact h i j hij
   ·by_cases hi2 : i = tbl.length
    ·subst hi2
     rw [List.getD_eq_getElem?_getD, List.getElem?_append_right (Nat.le_refl _)] at hij
     simp only [Nat.sub_self, List.getElem?_cons_zero, Option.getD_some] at hij
     have e0 := hE 0 es (by simp)
     simp only [Nat.add_zero] at e0
     rcases Anj tbl j es 0 hij with h1 | ⟨e, h1, h2⟩
     ·simp at h1
     ·intro S hS hi
      have he : S e := hS _ e hi (by rw [e0]; exact h1)
      rcases h2 with rfl | h2
      ·exact he
      ·exact h e j h2 S hS he
    ·rw [List.getD_eq_getElem?_getD, List.getElem?_eq_none (by simp; omega)] at hij
     simp at hij
theorem Af3 : ∀ (eds : List (List Nat)) (i : Nat), Agp i eds = true -> ∀ k es, eds[k]? = some es -> ∀ e ∈ es, e < i + k
 | [], i, _, k, es, hk, e, he => by simp at hk
 | es0 :: eds, i, h, k, es, hk, e, he => by
  simp only [Agp, Bool.and_eq_true] at h
  cases k with
  | zero =>
   simp only [List.getElem?_cons_zero, Option.some.injEq] at hk; subst hk
   have : Nat.ble (e + 1) i = true := List.all_eq_true.1 h.1 e he
   have := Aao this; omega
  | succ k =>
   have := Af3 eds (i + 1) h.2 k es (by simpa using hk) e he
   omega
section congr
variable {ts ts' : T Value}
theorem Akn {l : List Opd} {i : Nat} (h : Opd.t i ∈ l) : i ∈ Afp l := by
 induction l with
 | nil => cases h
 | cons x l ih =>
  cases x with
  | t j =>
   simp only [Afp, List.mem_cons]
   rcases List.mem_cons.1 h with h | h
   ·cases h; exact .inl rfl
   ·exact .inr (ih h)
  | c v =>
   simp only [Afp]
   rcases List.mem_cons.1 h with h | h
   ·cases h
   ·exact ih h
theorem Amf {l : List Opd} (h : ∀ t ∈ Afp l, Aax ts t = Aax ts' t) : ∀ x ∈ l, ev ts x = ev ts' x := by
 intro x hx
 cases x with
 | t i => exact h i (Akn hx)
 | c v => rfl
theorem Afo : ∀ {ps : List (Nat × Nat × Opd)}, (∀ x ∈ Acy ps, ev ts x = ev ts' x) -> evP ts ps = evP ts' ps
 | [], _ => rfl
 | (a, b, x) :: ps, h => by
  simp only [evP]
  rw [h x (by simp [Acy]), Afo (ps := ps) (fun y hy => h y (by simp [Acy, hy]))]
theorem Acs : ∀ {l : List Opd}, (∀ x ∈ l, ev ts x = ev ts' x) -> evs ts l = evs ts' l
 | [], _ => rfl
 | x :: l, h => by
  simp only [evs]
  rw [h x (by simp), Acs (l := l) (fun y hy => h y (by simp [hy]))]
theorem Amm {q : POp} (h : ∀ x ∈ Aoz q, ev ts x = ev ts' x) : pop ts q = pop ts' q := by
 cases q <;> simp only [Aoz, List.mem_cons, List.not_mem_nil, or_false, forall_eq_or_imp, forall_eq] at h <;> simp only [pop, Aby] <;> first
  | rfl
  | (rw [h]; done)
  | (rw [h.1, h.2]; done)
  | (rw [h.1, h.2.1, h.2.2]; done)
  | (rw [Afo h])
  | (rw [Acs (fun x hx => h x (by simp only [List.mem_append]; exact .inl hx)), Acs (fun x hx => h x (by simp only [List.mem_append]; exact .inr hx))])
theorem Aen {o : Option Opd} {d : Nat} (h : ∀ x ∈ Amp o, ev ts x = ev ts' x) : Ae4 ts d o = Ae4 ts' d o := by
 cases o with
 | none => rfl
 | some x => simp only [Ae4]; rw [h x (by simp [Amp])]
theorem Alg {q : ROp} {h : Aaa} (hx : ∀ x ∈ Afy q, ev ts x = ev ts' x) : rop ts h q = rop ts' h q := by
 cases q with
 | load1 x => simp only [rop, Alj]; rw [hx x (by simp [Afy])]
 | loadN n x => simp only [rop, Alj]; rw [hx x (by simp [Afy])]
 | cap x => simp only [rop, Alj]; rw [hx x (by simp [Afy])]
 | bts x => simp only [rop, Alj]; rw [hx x (by simp [Afy])]
 | slice s x lo hi mx =>
  have h0 := hx x (by simp [Afy])
  have h1 : ∀ d, Ae4 ts d lo = Ae4 ts' d lo := fun d => Aen (fun y hy => hx y (by simp [Afy, hy]))
  have h2 : ∀ d, Ae4 ts d hi = Ae4 ts' d hi := fun d => Aen (fun y hy => hx y (by simp [Afy, hy]))
  have h3 : ∀ d, Ae4 ts d mx = Ae4 ts' d mx := fun d => Aen (fun y hy => hx y (by simp [Afy, hy]))
  simp only [rop, Alj, h0, h1, h2, h3]
theorem Alu {q : EOp} {h : Aaa} (hx : ∀ x ∈ Ao3 q, ev ts x = ev ts' x) : eop ts h q = eop ts' h q := by
 cases q <;> simp only [Ao3, List.mem_cons, List.not_mem_nil, or_false, forall_eq_or_imp, forall_eq] at hx <;> simp only [eop, Am7] <;> first
  | rfl
  | (rw [hx]; done)
  | (rw [hx.1, hx.2]; done)
  | (rw [Afo hx])
theorem Aih {cf : Aas} {h : Aaa} {A : AOp} (hx : ∀ x ∈ Aqh A, ev ts x = ev ts' x) : Aa5 cf ts h A = Aa5 cf ts' h A := by
 cases A with
 | p q => simp only [Aa5, Aa8]; rw [Amm hx]
 | r q => simp only [Aa5, Aa8]; rw [Alg hx]
 | e q => simp only [Aa5, Aa8]; rw [Alu hx]
 | call f l => simp only [Aa5, Aa8]; rw [Acs (l := l) hx]
 | callv x l =>
  simp only [Aa5, Aa8]
  rw [hx x (by simp [Aqh]), Acs (l := l) (fun y hy => hx y (by simp [Aqh, hy]))]
 | invoke tbl x l =>
  simp only [Aa5, Aa8]
  rw [hx x (by simp [Aqh]), Acs (l := l) (fun y hy => hx y (by simp [Aqh, hy]))]
 | bad => rfl
theorem Agc {cf : Aas} {o : Aah} (hx : ∀ t ∈ reads o, Aax ts t = Aax ts' t) : Aa2 ts o.guard = Aa2 ts' o.guard /\ ∀ h, Aa5 cf ts h o.op = Aa5 cf ts' h o.op := by
 constructor
 ·cases hg : o.guard with
  | none => rfl
  | some p =>
   obtain ⟨t, b⟩ := p
   simp only [Aa2]
   rw [hx t (by simp [reads, hg])]
 ·intro h
  exact Aih (Amf (fun t ht => hx t (by simp [reads, ht])))
end congr
open Go.RowKit
def cE (l : List Aah) (i : Nat) : Nat := (List.range i).countP (Aat l)
theorem Am0 (o : Aah) (l : List Aah) : ∀ i, cE (o :: l) (i + 1) = (bif isE o.op then 1 else 0) + cE l i := by
 intro i
 unfold cE
 rw [List.range_succ_eq_map, List.countP_cons, List.countP_map]
 have e1 : (Aat (o :: l) ∘ Nat.succ) = Aat l := by
  funext j; simp [Aat]
 rw [e1]
 have e2 : Aat (o :: l) 0 = isE o.op := by simp [Aat]
 rw [e2]
 cases isE o.op <;> simp <;> omega
theorem Akg {cf : Aas} {ts : T Value} {h h1 : Aaa} {A : AOp} {v : Value} (he : isE A = false) (hv : Aa5 cf ts h A = some (v, h1)) : h1 = h := by
 cases A with
 | p q => simp only [Aa5, Aa8] at hv; split at hv <;> simp at hv; exact hv.2.symm
 | r q => simp only [Aa5, Aa8] at hv; split at hv <;> simp at hv; exact hv.2.symm
 | e q => cases he
 | call f l => cases he
 | callv x l => cases he
 | invoke tbl x l => cases he
 | bad => simp [Aa5, Aa8] at hv
def ran (cf : Aas) (ts : T Value) (h : Aaa) (o : Aah) : Option (Value × Aaa) := match Aa2 ts o.guard with
 | true => Aa5 cf ts h o.op
 | false => some (undef, h)
theorem Ai2 {cf : Aas} {ts : T Value} {h h1 : Aaa} {o : Aah} {v : Value} (he : isE o.op = false) (hv : ran cf ts h o = some (v, h1)) : h1 = h := by
 unfold ran at hv
 split at hv
 ·exact Akg he hv
 ·simp only [Option.some.injEq, Prod.mk.injEq] at hv; exact hv.2.symm
structure Aer (cf : Aas) (l : List Aah) (ts : T Value) (h : Aaa) (recs : List Rec) (hs : List Aaa) (ts' : T Value) (h' : Aaa) : Prop where
 len : recs.length = l.length
 hlen : hs.length = cE l l.length
 step : ∀ (i : Nat) (o : Aah), l[i]? = some o -> ∃ r, recs[i]? = some r /\ r.o = o /\ ∃ ha hb, (h :: hs)[cE l i]? = some ha /\ (h :: hs)[cE l (i + 1)]? = some hb /\ ran cf r.ts ha o = some (r.v, hb)
 last : (h :: hs)[cE l l.length]? = some h'
 old : ∀ (i : Nat) (r : Rec) (t : Nat), recs[i]? = some r -> (∀ (j : Nat) (o : Aah), j < i -> l[j]? = some o -> o.dst ≠ some t) -> Aax r.ts t = Aax ts t
 new : ∀ (i : Nat) (r : Rec) (j : Nat) (o : Aah) (rj : Rec) (t : Nat), recs[i]? = some r -> j < i -> l[j]? = some o -> recs[j]? = some rj -> o.dst = some t -> (∀ (j' : Nat) (o' : Aah), j < j' -> j' < i -> l[j']? = some o' -> o'.dst ≠ some t) -> Aax r.ts t = rj.v
 old' : ∀ (t : Nat), (∀ (j : Nat) (o : Aah), l[j]? = some o -> o.dst ≠ some t) -> Aax ts' t = Aax ts t
 new' : ∀ (j : Nat) (o : Aah) (rj : Rec) (t : Nat), l[j]? = some o -> recs[j]? = some rj -> o.dst = some t -> (∀ (j' : Nat) (o' : Aah), j < j' -> l[j']? = some o' -> o'.dst ≠ some t) -> Aax ts' t = rj.v
theorem Abc (ts : T Value) (d : Nat) (v : Value) : Aax (ts.put d v) d = v := by simp [Aax, T.get_put_same]
theorem Aay (ts : T Value) {d t : Nat} (v : Value) (h : t ≠ d) : Aax (ts.put d v) t = Aax ts t := by simp [Aax, T.get_put_other _ _ h]
theorem Abu (ts : T Value) {d : Option Nat} {t : Nat} (v : Value) (h : d ≠ some t) : Aax (Abr ts d v) t = Aax ts t := by
 cases d with
 | none => rfl
 | some d => exact Aay ts v (fun e => h (by rw [e]))
theorem Ai9 (cf : Aas) : ∀ (l : List Aah) (ts : T Value) (h : Aaa) (recs : List Rec) (hs : List Aaa) (ts' : T Value) (h' : Aaa), Abz cf l ts h = some (recs, hs, ts', h') -> Aer cf l ts h recs hs ts' h' := by
 intro l
 induction l with
 | nil =>
  intro ts h recs hs ts' h' hv
  simp only [Acn, Option.some.injEq, Prod.mk.injEq] at hv
  obtain ⟨rfl, rfl, rfl, rfl⟩ := hv
  exact ⟨rfl, by simp [cE], fun i o hi => by simp at hi, by simp [cE], fun i r t hr => by simp at hr, fun i r j o rj t hr => by simp at hr, fun t _ => rfl, fun j o rj t hj => by simp at hj⟩
 | cons o l ih =>
  intro ts h recs hs ts' h' hv
  simp only [Ab9] at hv
  split at hv
  ·rename_i v h1 hran
   have hran : ran cf ts h o = some (v, h1) := hran
   split at hv
   ·rename_i recs2 hs2 ts2 h2 htr
    simp only [Option.some.injEq, Prod.mk.injEq] at hv
    obtain ⟨rfl, rfl, rfl, rfl⟩ := hv
    have k := ih _ _ _ _ _ _ htr
    have heaps : ∀ i, (h :: (bif isE o.op then h1 :: hs2 else hs2))[cE (o :: l) (i + 1)]? = (h1 :: hs2)[cE l i]? := by
     intro i
     rw [Am0]
     cases he : isE o.op with
     | true => simp only [cond_true]; rw [Nat.add_comm, List.getElem?_cons_succ]
     | false =>
      have := Ai2 he hran
      subst this
      simp
    have Aeb : (h :: (bif isE o.op then h1 :: hs2 else hs2))[cE (o :: l) 0]? = some h := by simp [cE]
    refine ⟨by simp [k.len], ?_, ?_, ?_, ?_, ?_, ?_, ?_⟩
    ·have := k.hlen
     rw [List.length_cons, Am0]
     cases isE o.op <;> simp <;> omega
    ·intro i oi hi
     cases i with
     | zero =>
      simp only [List.getElem?_cons_zero, Option.some.injEq] at hi; subst hi
      exact ⟨⟨o, ts, v⟩, by simp, rfl, h, h1, Aeb, by rw [heaps 0]; simp [cE], hran⟩
     | succ i =>
      obtain ⟨r, g1, g2, ha, hb, g3, g4, g5⟩ := k.step i oi (by simpa using hi)
      exact ⟨r, by simpa using g1, g2, ha, hb, by rw [heaps i]; exact g3, by rw [heaps (i + 1)]; exact g4, g5⟩
    ·rw [List.length_cons, heaps l.length]; exact k.last
    ·intro i r t hr hno
     cases i with
     | zero => simp only [List.getElem?_cons_zero, Option.some.injEq] at hr; subst hr; rfl
     | succ i =>
      rw [k.old i r t (by simpa using hr) (fun j o' hj ho' => hno (j + 1) o' (by omega) (by simpa using ho'))]
      exact Abu _ _ (hno 0 o (by omega) (by simp))
    ·intro i r j oj rj t hr hj hoj hrj hd hno
     cases i with
     | zero => omega
     | succ i =>
      cases j with
      | zero =>
       simp only [List.getElem?_cons_zero, Option.some.injEq] at hoj hrj; subst hoj; subst hrj
       rw [k.old i r t (by simpa using hr) (fun j o' hj ho' => hno (j + 1) o' (by omega) (by omega) (by simpa using ho'))]
       simp only [hd, Abr]; exact Abc _ _ _
      | succ j =>
       exact k.new i r j oj rj t (by simpa using hr) (by omega) (by simpa using hoj) (by simpa using hrj) hd (fun j' o' a b c => hno (j' + 1) o' (by omega) (by omega) (by simpa using c))
    ·intro t hno
     rw [k.old' t (fun j o' ho' => hno (j + 1) o' (by simpa using ho'))]
     exact Abu _ _ (hno 0 o (by simp))
    ·intro j oj rj t hoj hrj hd hno
     cases j with
     | zero =>
      simp only [List.getElem?_cons_zero, Option.some.injEq] at hoj hrj; subst hoj; subst hrj
      rw [k.old' t (fun j o' ho' => hno (j + 1) o' (by omega) (by simpa using ho'))]
      simp only [hd, Abr]; exact Abc _ _ _
     | succ j => exact k.new' j oj rj t (by simpa using hoj) (by simpa using hrj) hd (fun j' o' a c => hno (j' + 1) o' (by omega) (by simpa using c))
   ·cases hv
  ·cases hv
theorem Agf {hs : List Aaa} : ∀ {recs : List Rec} {win : List (Nat × Nat)}, Ac2 hs recs win = true -> ∀ (i : Nat) (r : Rec) (lo hi : Nat), recs[i]? = some r -> win[i]? = some (lo, hi) -> ∀ (q : ROp), r.o.op = .r q -> lo ≠ hi -> Aa2 r.ts r.o.guard = true -> Apj r.ts q r.v ((hs.drop lo).take (hi + 1 - lo)) = true
 | [], _, _, i, r, lo, hi, hr, _, _, _, _, _ => by simp at hr
 | _ :: _, [], _, i, r, lo, hi, _, hw, _, _, _, _ => by simp at hw
 | r0 :: recs, (lo0, hi0) :: win, h, i, r, lo, hi, hr, hw, q, hq, hne, hwa => by
  simp only [Ad8, Are, Bool.and_eq_true] at h
  cases i with
  | zero =>
   simp only [List.getElem?_cons_zero, Option.some.injEq] at hr hw
   subst hr; cases hw
   have h1 := h.1
   rw [hq] at h1
   simp only at h1
   rcases Aan lo0 hi0 with ⟨b1, b2⟩ | ⟨b1, b2⟩
   ·exact absurd b2 hne
   ·rw [b1] at h1; simp only [cond_false, hwa] at h1; exact h1
  | succ i => exact Agf h.2 i r lo hi (by simpa using hr) (by simpa using hw) q hq hne hwa
theorem Ai3 {ts : T Value} {q : ROp} {v : Value} : ∀ {hs : List Aaa}, Apj ts q v hs = true -> ∀ h ∈ hs, rop ts h q = some v
 | [], _, h, hm => by cases hm
 | h0 :: hs, hc, h, hm => by
  simp only [Apj, Bool.and_eq_true] at hc
  rcases List.mem_cons.1 hm with rfl | hm
  ·have := hc.1
   split at this
   ·rename_i u hu; rw [hu, Ak9 this]
   ·cases this
  ·exact Ai3 hc.2 h hm
theorem Acp (cf : Aas) : ∀ (l : List Aah) (ts ts' : T Value) (h h' : Aaa), Ad3 cf l ts h = some (ts', h') -> ∃ recs hs, Abz cf l ts h = some (recs, hs, ts', h') /\ recs.map (·.o) = l
 | [], ts, ts', h, h', hv => by
  simp only [Aes, Option.some.injEq, Prod.mk.injEq] at hv
  obtain ⟨rfl, rfl⟩ := hv
  exact ⟨[], [], by rw [Acn], rfl⟩
 | o :: r, ts, ts', h, h', hv => by
  simp only [Acd] at hv
  rw [Ab9]
  split at hv
  ·split at hv
   ·rename_i v h1 hs1
    obtain ⟨recs, hs, g1, g2⟩ := Acp cf r _ _ _ _ hv
    simp only [hs1, g1]
    exact ⟨_, _, rfl, by simp [g2]⟩
   ·cases hv
  ·obtain ⟨recs, hs, g1, g2⟩ := Acp cf r _ _ _ _ hv
   simp only [g1]
   exact ⟨_, _, rfl, by simp [g2]⟩
theorem Ai8 (hs : List Aaa) : ∀ (l : List Aah) (ws : List (Nat × Nat)) (recs : List Rec), Al9 l ws = true -> recs.map (·.o) = l -> Ac2 hs recs ws = true
 | _, [], recs, _, _ => Ad7 hs recs
 | l, _ :: _, [], _, _ => Af4 hs _
 | [], _ :: _, _ :: _, _, hm => by simp at hm
 | o :: l, (lo, hi) :: ws, r :: recs, ht, hm => by
  simp only [Al9, Bool.and_eq_true] at ht
  simp only [List.map_cons, List.cons.injEq] at hm
  rw [Ad8, Ai8 hs l ws recs ht.2 hm.2, Bool.and_true]
  have h1 := ht.1
  rw [<- hm.1] at h1
  unfold Are
  split at h1
  ·simp only [h1, cond_true]
  ·rfl
theorem Af9 {cf : Aas} {l : List Aah} {ws : List (Nat × Nat)} {ts ts' : T Value} {h h' : Aaa} (hv : Aep cf l (Amj l ws) ts h = some (ts', h')) : ∃ recs hs, Abz cf l ts h = some (recs, hs, ts', h') /\ Ac2 (h :: hs) recs ws = true := by
 unfold Amj at hv
 cases ht : Al9 l ws with
 | true =>
  rw [ht] at hv; simp only [cond_true, Aep] at hv
  obtain ⟨recs, hs, g1, g2⟩ := Acp cf l _ _ _ _ hv
  exact ⟨recs, hs, g1, Ai8 _ l ws recs ht g2⟩
 | false =>
  rw [ht] at hv; simp only [cond_false] at hv
  unfold Aep at hv
  split at hv
  ·obtain ⟨recs, hs, g1, g2⟩ := Acp cf l _ _ _ _ hv
   exact ⟨recs, hs, g1, Ad7 _ _⟩
  ·split at hv
   ·rename_i recs hs t3 h3 htr
    cases hck : Ac2 (h :: hs) recs _ with
    | false => rw [hck] at hv; cases hv
    | true =>
     rw [hck] at hv; simp only [cond_true, Option.some.injEq, Prod.mk.injEq] at hv
     obtain ⟨rfl, rfl⟩ := hv
     exact ⟨recs, hs, htr, hck⟩
   ·cases hv
open Go.RowKit
theorem Ahp {α : Type} (p q : α -> Bool) : ∀ (l : List α), (∀ x ∈ l, q x = true -> p x = true) -> (∃ x ∈ l, p x = true /\ q x = false) -> l.countP q < l.countP p
  | [], _, ⟨x, hx, _⟩ => by cases hx
  | y :: l, h, ⟨x, hx, h1, h2⟩ => by
    have hm : l.countP q <= l.countP p := List.countP_mono_left (fun z hz => h z (List.mem_cons_of_mem _ hz))
    simp only [List.countP_cons]
    rcases List.mem_cons.1 hx with rfl | hx
    · rw [h1, h2]; simp; omega
    · have := Ahp p q l (fun z hz => h z (List.mem_cons_of_mem _ hz)) ⟨x, hx, h1, h2⟩
      have hy := h y (by simp)
      cases hq : q y with
      | true => rw [hy hq]; simp; omega
      | false => cases p y <;> simp <;> omega
theorem Abt (p : Nat -> Bool) (n : Nat) : ∀ i, i <= n -> (List.range n).countP (fun e => p e && Nat.blt e i) = (List.range i).countP p := by
  induction n with
  | zero => intro i hi; have : i = 0 := by omega
            subst this; simp
  | succ n ih =>
    intro i hi
    rw [List.range_succ, List.countP_append]
    by_cases h : i = n + 1
    · subst h
      rw [List.range_succ, List.countP_append]
      have e1 : (List.range n).countP (fun e => p e && Nat.blt e (n + 1)) = (List.range n).countP p := by
        refine List.countP_congr (fun x hx => ?_)
        have : Nat.blt x (n + 1) = true := Nat.ble_eq_true_of_le (by have := List.mem_range.1 hx; omega)
        simp [this]
      have e2 : Nat.blt n (n + 1) = true := Nat.ble_eq_true_of_le (by omega)
      rw [e1]; simp [e2]
    · rw [ih i (by omega)]
      have e2 : Nat.blt n i = false := by
        cases hb : Nat.blt n i with
        | false => rfl
        | true => have := Nat.le_of_ble_eq_true hb; omega
      simp [e2]
structure Acq (tbl : List Nat) (l : List Aah) (E : Nat -> List Nat) (n F : Nat) : Prop where
  len : l.length = n
  lt : ∀ i, i < n -> ∀ e ∈ E i, e < i
  ancE : ∀ i j, anc tbl i j = true -> Anc E i j
  dst : ∀ (i j : Nat) (oi oj : Aah) (d : Nat), l[i]? = some oi -> l[j]? = some oj -> oi.dst = some d -> oj.dst = some d -> i = j
  rd : ∀ (i j : Nat) (oi oj : Aah) (d : Nat), l[i]? = some oi -> l[j]? = some oj -> oj.dst = some d -> d ∈ reads oi -> i = j \/ anc tbl i j = true \/ anc tbl j i = true
  ef : ∀ (i j : Nat), i < n -> j < n -> Aat l i = true -> Aat l j = true -> i = j \/ anc tbl i j = true \/ anc tbl j i = true \/ (i = F /\ j < F) \/ (j = F /\ i < F)
  fl : ∀ o, l[F]? = some o -> Ao9 o.op = true /\ o.guard = none /\ ∃ d, o.dst = some d
  beh : ∀ o, l[F]? = some o -> ∀ i, i < n -> anc tbl i F = true \/ F ∈ E i -> ∀ e, e < F -> Aat l e = true -> anc tbl i e = true
theorem Ae9 {a b : Nat} (h : Nat.blt a b = true) : a < b := Nat.lt_of_succ_le (Nat.le_of_ble_eq_true h)
theorem Afl {a b : Nat} : Nat.blt a b = true ↔ a < b := ⟨Ae9, fun h => Nat.ble_eq_true_of_le h⟩
theorem Acq.of {tbl : List Nat} {l : List Aah} {eds : List (List Nat)} (h : Adh tbl l eds = true) (ht : tbl = Aef [] eds) : Acq tbl l (fun i => (eds[i]?).getD []) l.length (Afb tbl l) := by
  unfold Adh at h
  simp only [Bool.and_eq_true] at h
  obtain ⟨⟨⟨h1, h2⟩, hfl⟩, h3⟩ := h
  have h2 := Nat.eq_of_beq_eq_true h2
  have pair : ∀ (i j : Nat) (oi oj : Aah), l[i]? = some oi -> l[j]? = some oj -> Ahg tbl l (Afb tbl l) i j = true := by
    intro i j oi oj hi hj
    have hi' := (List.getElem?_eq_some_iff.1 hi).1
    have hj' := (List.getElem?_eq_some_iff.1 hj).1
    exact List.all_eq_true.1 (List.all_eq_true.1 h3 i (List.mem_range.2 hi')) j (List.mem_range.2 hj')
  refine ⟨rfl, ?_, ?_, ?_, ?_, ?_, ?_, ?_⟩
  · intro i hi e he
    have hi' : i < eds.length := by omega
    rw [List.getElem?_eq_getElem hi'] at he
    have := Af3 eds 0 h1 i _ (List.getElem?_eq_getElem hi') e he
    omega
  · rw [ht]
    refine Aky _ eds [] (fun k es hk => by simp [hk]) (fun i j hij => ?_)
    simp [anc] at hij
  · intro i j oi oj d hi hj d1 d2
    have hp := pair i j oi oj hi hj
    unfold Ahg at hp
    simp only [hi, hj, d1, d2, Bool.or_eq_true, Bool.and_eq_true] at hp
    rcases hp with hp | ⟨⟨hp, _⟩, _⟩
    · exact Nat.eq_of_beq_eq_true hp
    · simp at hp
  · intro i j oi oj d hi hj d2 hr
    have hp := pair i j oi oj hi hj
    unfold Ahg at hp
    simp only [hi, hj, d2, Bool.or_eq_true, Bool.and_eq_true] at hp
    rcases hp with hp | ⟨⟨_, hp⟩, _⟩
    · exact .inl (Nat.eq_of_beq_eq_true hp)
    · have hany : (reads oi).any (Nat.beq d) = true := List.any_eq_true.2 ⟨d, hr, Nat.beq_refl d⟩
      rw [hany] at hp
      simp at hp
      exact .inr hp
  · intro i j hi hj ei ej
    have hp := pair i j _ _ (List.getElem?_eq_getElem hi) (List.getElem?_eq_getElem hj)
    unfold Ahg at hp
    simp only [Aat, List.getElem?_eq_getElem hi] at ei
    simp only [Aat, List.getElem?_eq_getElem hj] at ej
    simp only [List.getElem?_eq_getElem hi, List.getElem?_eq_getElem hj, Bool.or_eq_true, Bool.and_eq_true, ei, ej] at hp
    rcases hp with hp | ⟨_, hp⟩
    · exact .inl (Nat.eq_of_beq_eq_true hp)
    · rcases hp with (((hp | hp) | hp) | hp) | hp
      · simp at hp
      · exact .inr (.inl hp)
      · exact .inr (.inr (.inl hp))
      · exact .inr (.inr (.inr (.inl ⟨Nat.eq_of_beq_eq_true hp.1, Ae9 hp.2⟩)))
      · exact .inr (.inr (.inr (.inr ⟨Nat.eq_of_beq_eq_true hp.1, Ae9 hp.2⟩)))
  · intro o ho
    unfold Aso at hfl
    rw [ho] at hfl
    simp only [Bool.and_eq_true] at hfl
    exact ⟨hfl.1.1.1, Option.isNone_iff_eq_none.1 hfl.1.1.2, Option.isSome_iff_exists.1 hfl.1.2⟩
  · intro o ho i hi ha e he hE
    unfold Aso at hfl
    rw [ho] at hfl
    simp only [Bool.and_eq_true] at hfl
    have := List.all_eq_true.1 hfl.2 i (List.mem_range.2 hi)
    have hz : (!(anc tbl i (Afb tbl l)) && !(((eds[i]?).getD []).any (Nat.beq (Afb tbl l)))) = false := by
      rcases ha with ha | ha
      · rw [ha]; rfl
      · have : ((eds[i]?).getD []).any (Nat.beq (Afb tbl l)) = true := List.any_eq_true.2 ⟨_, ha, Nat.beq_refl _⟩
        rw [this]; simp
    rw [hz, Bool.false_or] at this
    have := List.all_eq_true.1 this e (List.mem_range.2 he)
    rw [hE] at this
    simpa using this
section
variable {P : Program} {B : Fr} {w0 : World} {cf : Aas} {N n : Nat} {ops : Array Oper} {l : List Aah} {tbl : List Nat} {E : Nat -> List Nat}
  {recs : List Rec} {hs : List Aaa} {ts ts' : T Value} {h h' : Aaa} {Q : Exit -> Act -> World -> Prop}
theorem Ada : ∀ (l1 : List Oper) (l2 : List Aah), Abe P N ops l1 = some l2 -> l2.length = l1.length /\ ∀ (i : Nat) (o : Oper), l1[i]? = some o -> ∃ ao, l2[i]? = some ao /\ Afz P N ops o ao
  | [], l2, hc => by
    simp only [Abe, Option.some.injEq] at hc; subst hc
    exact ⟨rfl, fun i o hi => by simp at hi⟩
  | o :: l1, l2, hc => by
    simp only [Abe] at hc
    split at hc
    · rename_i ao l3 h1 h2
      simp only [Option.some.injEq] at hc; subst hc
      obtain ⟨g1, g2⟩ := Ada l1 l3 h2
      refine ⟨by simp [g1], fun i oi hi => ?_⟩
      cases i with
      | zero => simp only [List.getElem?_cons_zero, Option.some.injEq] at hi; subst hi; exact ⟨ao, by simp, Ad6 h1⟩
      | succ i => obtain ⟨a1, a2, a3⟩ := g2 i oi (by simpa using hi); exact ⟨a1, by simpa using a2, a3⟩
    · cases hc
structure Ag8 (P : Program) (B : Fr) (w0 : World) (N : Nat) (l : List Aah) (E : Nat -> List Nat) (n : Nat) (recs : List Rec) (hall : List Aaa) (ts : T Value) (μ : Map) (ds : List Deferred) (x : Option Nat) (listed : Array Bool) (a : Act) (w : World) : Prop where
  size : listed.size = n
  closed : ∀ i j, listed.getD i false = true -> j ∈ E i -> listed.getD j false = true
  tsz : a.tmps.size = N
  dfs : a.defers = ds
  st : ∃ μ' tsS hh, μ.le μ' /\ hall[(List.range n).countP (fun e => Aat l e && listed.getD e false)]? = some hh /\ Rel (Cc P) μ' hh B w0 w /\ Aap μ' tsS a /\
    (∀ (j : Nat) (o : Aah) (r : Rec) (t : Nat), x ≠ some t -> l[j]? = some o -> recs[j]? = some r -> listed.getD j false = true -> o.dst = some t -> Aax tsS t = r.v) /\
    (∀ (t : Nat), x ≠ some t -> (∀ (j : Nat) (o : Aah), l[j]? = some o -> listed.getD j false = true -> o.dst ≠ some t) -> Aax tsS t = Aax ts t)
theorem Ab7 {listed : Array Bool} {i j : Nat} (hi : i < listed.size) : (listed.setIfInBounds i true).getD j false = (decide (j = i) || listed.getD j false) := by
  simp only [Array.getD_eq_getD_getElem?, Array.getElem?_setIfInBounds]
  by_cases h : i = j
  · subst h; simp [hi]
  · simp [h, Ne.symm h]
theorem Ajq {F : Nat} (S : Acq tbl l E n F) (tr : Aer cf l ts h recs hs ts' h')
    {listed : Array Bool} (hcl : ∀ i j, listed.getD i false = true -> j ∈ E i -> listed.getD j false = true) {i : Nat} (hi : i < n) (hno : listed.getD i false = false) (hrd : ∀ j ∈ E i, listed.getD j false = true)
    {o : Aah} (ho : l[i]? = some o) {tsS : T Value} (h1 : ∀ (j : Nat) (oj : Aah) (r : Rec) (t : Nat), t ∈ reads o -> l[j]? = some oj -> recs[j]? = some r -> listed.getD j false = true -> oj.dst = some t -> Aax tsS t = r.v)
    (h2 : ∀ (t : Nat), t ∈ reads o -> (∀ (j : Nat) (o : Aah), l[j]? = some o -> listed.getD j false = true -> o.dst ≠ some t) -> Aax tsS t = Aax ts t) :
    ∃ r ha hb, recs[i]? = some r /\ (h :: hs)[cE l i]? = some ha /\ (h :: hs)[cE l (i + 1)]? = some hb /\ ran cf r.ts ha o = some (r.v, hb) /\ ∀ t ∈ reads o, Aax tsS t = Aax r.ts t := by
  obtain ⟨r, hr, _, ha, hb, g1, g2, g3⟩ := tr.step i o ho
  have ancIn : ∀ j, anc tbl i j = true -> listed.getD j false = true \/ j = i := by
    intro j hj
    have := S.ancE i j hj (fun x => listed.getD x false = true \/ x = i) (fun x y hx hy => by
      rcases hx with hx | rfl
      · exact .inl (hcl x y hx hy)
      · exact .inl (hrd y hy)) (.inr rfl)
    exact this
  have ancLe : ∀ x y, x < n -> anc tbl x y = true -> y <= x := by
    intro x y hx hxy
    exact S.ancE x y hxy (fun z => z <= x) (fun a b ha hb => by
      have := S.lt a (by omega) b hb; omega) (Nat.le_refl _)
  have ancOut : ∀ j, j < n -> anc tbl j i = true -> listed.getD j false = true -> False := by
    intro j hj hji hl
    have := S.ancE j i hji (fun x => listed.getD x false = true) (fun x y hx hy => hcl x y hx hy) hl
    rw [hno] at this; cases this
  have lens := S.len
  have hlook : ∀ t ∈ reads o, Aax tsS t = Aax r.ts t := by
    intro t ht
    by_cases hw : ∃ (j : Nat) (oj : Aah), l[j]? = some oj /\ oj.dst = some t
    · obtain ⟨j, oj, hj, hd⟩ := hw
      have hjn : j < n := by rw [<- lens]; exact (List.getElem?_eq_some_iff.1 hj).1
      have uniq : ∀ (j' : Nat) (o' : Aah), l[j']? = some o' -> o'.dst = some t -> j' = j := fun j' o' hj' hd' => S.dst j' j o' oj t hj' hj hd' hd
      obtain ⟨rj, hrj, _⟩ := tr.step j oj hj
      have notS : listed.getD j false = false -> Aax tsS t = Aax ts t := fun hf => h2 t ht (fun j' o' hj' hl hd' => by
        rw [uniq j' o' hj' hd', hf] at hl; cases hl)
      have notB : ¬ (j < i) -> Aax r.ts t = Aax ts t := fun hf => tr.old i r t hr (fun j' o' hlt hj' hd' => hf (by rw [<- uniq j' o' hj' hd']; exact hlt))
      rcases S.rd i j o oj t ho hj hd ht with hij | hij | hij
      · subst hij
        rw [notS hno, notB (Nat.lt_irrefl _)]
      · by_cases hji : j = i
        · subst hji; rw [notS hno, notB (Nat.lt_irrefl _)]
        · have hlt : j < i := by have := ancLe i j hi hij; omega
          have hl : listed.getD j false = true := (ancIn j hij).resolve_right hji
          rw [h1 j oj rj t ht hj hrj hl hd]
          exact (tr.new i r j oj rj t hr hlt hj hrj hd (fun j' o' a b c hd' => by have := uniq j' o' c hd'; omega)).symm
      · by_cases hji : j = i
        · subst hji; rw [notS hno, notB (Nat.lt_irrefl _)]
        · have hge : ¬ (j < i) := by have := ancLe j i hjn hij; omega
          have hl : listed.getD j false = false := by
            cases hq : listed.getD j false with
            | false => rfl
            | true => exact (ancOut j hjn hij hq).elim
          rw [notS hl, notB hge]
    · rw [h2 t ht (fun j' o' hj' _ hd' => hw ⟨j', o', hj', hd'⟩), tr.old i r t hr (fun j' o' _ hj' hd' => hw ⟨j', o', hj', hd'⟩)]
  exact ⟨r, ha, hb, hr, g1, g2, g3, hlook⟩
theorem Akb {F : Nat} (S : Acq tbl l E n F) (tr : Aer cf l ts h recs hs ts' h') (hck : Ac2 (h :: hs) recs ((List.range n).map (Acw tbl (Af1 l))) = true)
    {listed : Array Bool} (_hsz : listed.size = n) (hcl : ∀ i j, listed.getD i false = true -> j ∈ E i -> listed.getD j false = true) {i : Nat} (hi : i < n) (hno : listed.getD i false = false) (hrd : ∀ j ∈ E i, listed.getD j false = true)
    {o : Aah} (ho : l[i]? = some o) {tsS : T Value} (h1 : ∀ (j : Nat) (oj : Aah) (r : Rec) (t : Nat), t ∈ reads o -> l[j]? = some oj -> recs[j]? = some r -> listed.getD j false = true -> oj.dst = some t -> Aax tsS t = r.v)
    (h2 : ∀ (t : Nat), t ∈ reads o -> (∀ (j : Nat) (o : Aah), l[j]? = some o -> listed.getD j false = true -> o.dst ≠ some t) -> Aax tsS t = Aax ts t) (hord : isE o.op = true -> ∀ e, e < n -> Aat l e = true -> e ≠ i -> (listed.getD e false = true ↔ e < i)) {hh : Aaa}
    (hhh : (h :: hs)[(List.range n).countP (fun e => Aat l e && listed.getD e false)]? = some hh) :
    ∃ r h2, recs[i]? = some r /\ ran cf tsS hh o = some (r.v, h2) /\ (h :: hs)[(List.range n).countP (fun e => Aat l e && (decide (e = i) || listed.getD e false))]? = some h2 := by
  obtain ⟨r, hr, hro, ha, hb, g1, g2, g3⟩ := tr.step i o ho
  have ancIn : ∀ j, anc tbl i j = true -> listed.getD j false = true \/ j = i := by
    intro j hj
    have := S.ancE i j hj (fun x => listed.getD x false = true \/ x = i) (fun x y hx hy => by
      rcases hx with hx | rfl
      · exact .inl (hcl x y hx hy)
      · exact .inl (hrd y hy)) (.inr rfl)
    exact this
  have ancLe : ∀ x y, x < n -> anc tbl x y = true -> y <= x := by
    intro x y hx hxy
    exact S.ancE x y hxy (fun z => z <= x) (fun a b ha hb => by
      have := S.lt a (by omega) b hb; omega) (Nat.le_refl _)
  have ancOut : ∀ j, j < n -> anc tbl j i = true -> listed.getD j false = true -> False := by
    intro j hj hji hl
    have := S.ancE j i hji (fun x => listed.getD x false = true) (fun x y hx hy => hcl x y hx hy) hl
    rw [hno] at this; cases this
  have lens := S.len
  have hlook : ∀ t ∈ reads o, Aax tsS t = Aax r.ts t := by
    intro t ht
    by_cases hw : ∃ (j : Nat) (oj : Aah), l[j]? = some oj /\ oj.dst = some t
    · obtain ⟨j, oj, hj, hd⟩ := hw
      have hjn : j < n := by rw [<- lens]; exact (List.getElem?_eq_some_iff.1 hj).1
      have uniq : ∀ (j' : Nat) (o' : Aah), l[j']? = some o' -> o'.dst = some t -> j' = j := fun j' o' hj' hd' => S.dst j' j o' oj t hj' hj hd' hd
      obtain ⟨rj, hrj, _⟩ := tr.step j oj hj
      have notS : listed.getD j false = false -> Aax tsS t = Aax ts t := fun hf => h2 t ht (fun j' o' hj' hl hd' => by
        rw [uniq j' o' hj' hd', hf] at hl; cases hl)
      have notB : ¬ (j < i) -> Aax r.ts t = Aax ts t := fun hf => tr.old i r t hr (fun j' o' hlt hj' hd' => hf (by rw [<- uniq j' o' hj' hd']; exact hlt))
      rcases S.rd i j o oj t ho hj hd ht with hij | hij | hij
      · subst hij
        rw [notS hno, notB (Nat.lt_irrefl _)]
      · by_cases hji : j = i
        · subst hji; rw [notS hno, notB (Nat.lt_irrefl _)]
        · have hlt : j < i := by have := ancLe i j hi hij; omega
          have hl : listed.getD j false = true := (ancIn j hij).resolve_right hji
          rw [h1 j oj rj t ht hj hrj hl hd]
          exact (tr.new i r j oj rj t hr hlt hj hrj hd (fun j' o' a b c hd' => by have := uniq j' o' c hd'; omega)).symm
      · by_cases hji : j = i
        · subst hji; rw [notS hno, notB (Nat.lt_irrefl _)]
        · have hge : ¬ (j < i) := by have := ancLe j i hjn hij; omega
          have hl : listed.getD j false = false := by
            cases hq : listed.getD j false with
            | false => rfl
            | true => exact (ancOut j hjn hij hq).elim
          rw [notS hl, notB hge]
    · rw [h2 t ht (fun j' o' hj' _ hd' => hw ⟨j', o', hj', hd'⟩), tr.old i r t hr (fun j' o' _ hj' hd' => hw ⟨j', o', hj', hd'⟩)]
  have cong := Agc (cf := cf) hlook
  have ranEq : ∀ H, ran cf tsS H o = ran cf r.ts H o := by
    intro H; unfold ran; rw [cong.1, cong.2]
  have hE : Aat l i = isE o.op := by simp [Aat, ho]
  have hiN : i <= n := Nat.le_of_lt hi
  refine ⟨r, ?_⟩
  cases he : isE o.op with
  | true =>
    have same : (List.range n).countP (fun e => Aat l e && listed.getD e false) = cE l i := by
      unfold cE
      rw [<- Abt (Aat l) n i hiN]
      refine List.countP_congr (fun e hen => ?_)
      have hen := List.mem_range.1 hen
      cases hq : Aat l e with
      | false => simp
      | true =>
        simp only [Bool.true_and]
        by_cases hei : e = i
        · subst hei; rw [hno]; simp
        · rw [hord he e hen hq hei, Afl]
    have nq : (List.range n).countP (fun e => Aat l e && (decide (e = i) || listed.getD e false)) = cE l (i + 1) := by
      unfold cE
      rw [<- Abt (Aat l) n (i + 1) hi]
      refine List.countP_congr (fun e hen => ?_)
      have hen := List.mem_range.1 hen
      cases hq : Aat l e with
      | false => simp
      | true =>
        simp only [Bool.true_and]
        by_cases hei : e = i
        · subst hei; simp
        · rw [Bool.or_eq_true, hord he e hen hq hei, Afl]
          simp [hei]; omega
    rw [same, g1] at hhh
    simp only [Option.some.injEq] at hhh
    subst hhh
    exact ⟨hb, hr, by rw [ranEq]; exact g3, by rw [nq]; exact g2⟩
  | false =>
    have nq : (List.range n).countP (fun e => Aat l e && (decide (e = i) || listed.getD e false)) = (List.range n).countP (fun e => Aat l e && listed.getD e false) := by
      refine List.countP_congr (fun e _ => ?_)
      by_cases hei : e = i
      · subst hei; rw [hE, he]; simp
      · simp [hei]
    have hab : hb = ha := Ai2 he g3
    subst hab
    refine ⟨hh, hr, ?_, by rw [nq]; exact hhh⟩
    rw [ranEq]
    unfold ran at g3 ⊢
    cases hwa : Aa2 r.ts o.guard with
    | false =>
      rw [hwa] at g3; simp only [Option.some.injEq, Prod.mk.injEq] at g3 ⊢
      exact ⟨g3.1, trivial⟩
    | true =>
      rw [hwa] at g3; simp only at g3 ⊢
      cases hop : o.op with
      | p q =>
        rw [hop] at g3; simp only [Aa5, Aa8] at g3 ⊢
        split at g3
        · rename_i u hu; simp only [Option.some.injEq, Prod.mk.injEq] at g3; rw [g3.1]
        · cases g3
      | e q => rw [hop] at he; cases he
      | call f q => rw [hop] at he; cases he
      | callv x q => rw [hop] at he; cases he
      | invoke tbl x q => rw [hop] at he; cases he
      | bad => rw [hop] at g3; simp [Aa5, Aa8] at g3
      | r q =>
        rw [hop] at g3; simp only [Aa5, Aa8] at g3 ⊢
        have g4 : rop r.ts hb q = some r.v := by
          split at g3
          · rename_i u hu; simp only [Option.some.injEq, Prod.mk.injEq] at g3; rw [hu, g3.1]
          · cases g3
        have key : rop r.ts hh q = some r.v := by
          have lo : (Acw tbl (Af1 l) i).1 <= (List.range n).countP (fun e => Aat l e && listed.getD e false) := by
            simp only [Acw, Af1, List.filter_filter, <- List.countP_eq_length_filter, lens]
            refine List.countP_mono_left (fun e _ hx => ?_)
            simp only [Bool.and_eq_true] at hx ⊢
            refine ⟨hx.2, (ancIn e hx.1).resolve_right (fun hei => ?_)⟩
            subst hei
            have := hx.2
            rw [ho] at this; simp only at this; rw [this] at he; cases he
          have hi' : (List.range n).countP (fun e => Aat l e && listed.getD e false) <= (Acw tbl (Af1 l) i).2 := by
            simp only [Acw, Af1, List.filter_filter, <- List.countP_eq_length_filter, lens]
            refine List.countP_mono_left (fun e hen hx => ?_)
            simp only [Bool.and_eq_true] at hx ⊢
            refine ⟨?_, hx.1⟩
            cases hq : anc tbl e i with
            | false => rfl
            | true => exact (ancOut e (List.mem_range.1 hen) hq hx.2).elim
          have lo2 : (Acw tbl (Af1 l) i).1 <= cE l i := by
            unfold cE
            rw [<- Abt (Aat l) n i hiN]
            simp only [Acw, Af1, List.filter_filter, <- List.countP_eq_length_filter, lens]
            refine List.countP_mono_left (fun e _ hx => ?_)
            simp only [Bool.and_eq_true] at hx ⊢
            refine ⟨hx.2, Afl.2 ?_⟩
            have := ancLe i e hi hx.1
            have hne : e ≠ i := fun hei => by
              subst hei
              have := hx.2
              rw [ho] at this; simp only at this; rw [this] at he; cases he
            omega
          have hi2 : cE l i <= (Acw tbl (Af1 l) i).2 := by
            unfold cE
            rw [<- Abt (Aat l) n i hiN]
            simp only [Acw, Af1, List.filter_filter, <- List.countP_eq_length_filter, lens]
            refine List.countP_mono_left (fun e hen hx => ?_)
            simp only [Bool.and_eq_true] at hx ⊢
            refine ⟨?_, hx.1⟩
            cases hq : anc tbl e i with
            | false => rfl
            | true =>
              have := ancLe e i (List.mem_range.1 hen) hq
              have := Ae9 hx.2
              omega
          by_cases heq : (Acw tbl (Af1 l) i).1 = (Acw tbl (Af1 l) i).2
          · have : (List.range n).countP (fun e => Aat l e && listed.getD e false) = cE l i := by omega
            rw [this, g1] at hhh
            simp only [Option.some.injEq] at hhh
            subst hhh
            exact g4
          · have hwin : ((List.range n).map (Acw tbl (Af1 l)))[i]? = some ((Acw tbl (Af1 l) i).1, (Acw tbl (Af1 l) i).2) := by
              rw [List.getElem?_map, List.getElem?_range hi]; rfl
            have hc := Agf hck i r _ _ hr hwin q (by rw [hro]; exact hop) heq (by rw [hro]; exact hwa)
            refine Ai3 hc hh ?_
            refine List.mem_of_getElem? (i := (List.range n).countP (fun e => Aat l e && listed.getD e false) - (Acw tbl (Af1 l) i).1) ?_
            rw [List.getElem?_take, if_pos (by omega), List.getElem?_drop]
            rw [show (Acw tbl (Af1 l) i).1 + ((List.range n).countP (fun e => Aat l e && listed.getD e false) - (Acw tbl (Af1 l) i).1) = (List.range n).countP (fun e => Aat l e && listed.getD e false) by omega]
            exact hhh
        rw [key]
end
open Go.RowKit
def Agg (cf : Aas) : Prop := ∀ t args h v h', cf t args h = some (v, h') -> h'.mq = h.mq
theorem Ahm {h h' : Aaa} {b o : Nat} {vs : List Value} (hw : h.wrs b o vs = some h') : h'.mq = h.mq := by
 unfold Aaa.wrs at hw
 split at hw
 ·simp only [Bool.cond_eq_ite] at hw
  split at hw
  ·cases hw; rfl
  ·cases hw
 ·cases hw
theorem Ajl {h h' : Aaa} {s bytes : Nat} {base : Option Addr} {len cap : Nat} {news : List Value} {n : Nat} {v : Value} (hv : Alr h s bytes base len cap news n = some (v, h')) : h'.mq = h.mq := by
 unfold Alr at hv
 simp only [Bool.cond_eq_ite] at hv
 repeat' split at hv
 all_goals first
  | (cases hv; done)
  | (simp only [Option.some.injEq, Prod.mk.injEq] at hv; obtain ⟨_, rfl⟩ := hv; first | rfl | exact Ahm (by assumption))
theorem Akq {ts : T Value} {h h' : Aaa} {q : EOp} {v : Value} (hv : eop ts h q = some (v, h')) : h'.mq = h.mq := by
 cases q <;> simp only [eop, Am7, Bool.cond_eq_ite] at hv
 all_goals (repeat' split at hv)
 all_goals first
  | (cases hv; done)
  | exact Ajl hv
  | (simp only [Option.some.injEq, Prod.mk.injEq] at hv; obtain ⟨_, rfl⟩ := hv; first | rfl | exact Ahm (by assumption))
theorem Ad9 {cf : Aas} (hm : Agg cf) {ts : T Value} {h h' : Aaa} {A : AOp} {v : Value} (hv : Aa5 cf ts h A = some (v, h')) : h'.mq = h.mq := by
 cases A <;> simp only [Aa5, Aa8] at hv
 case e q => exact Akq hv
 case call f l => exact hm _ _ _ _ _ hv
 all_goals (repeat' split at hv)
 all_goals first
  | (cases hv; done)
  | exact hm _ _ _ _ _ hv
  | (simp only [Option.some.injEq, Prod.mk.injEq] at hv; obtain ⟨_, rfl⟩ := hv; rfl)
theorem Adn {cf : Aas} (hm : Agg cf) : ∀ (l : List Aah) (ts ts' : T Value) (h h' : Aaa), Ad3 cf l ts h = some (ts', h') -> h'.mq = h.mq
 | [], ts, ts', h, h', hv => by simp only [Aes, Option.some.injEq, Prod.mk.injEq] at hv; obtain ⟨_, rfl⟩ := hv; rfl
 | o :: r, ts, ts', h, h', hv => by
  simp only [Acd] at hv
  split at hv
  ·split at hv
   ·rename_i v h1 hs
    rw [Adn hm r _ _ _ _ hv, Ad9 hm hs]
   ·cases hv
  ·exact Adn hm r _ _ _ _ hv
theorem Acr {cf : Aas} (hm : Agg cf) : ∀ (l : List Aah) (ts ts' : T Value) (h h' : Aaa) (recs : List Rec) (hs : List Aaa), Abz cf l ts h = some (recs, hs, ts', h') -> h'.mq = h.mq
 | [], ts, ts', h, h', recs, hs, hv => by simp only [Acn, Option.some.injEq, Prod.mk.injEq] at hv; obtain ⟨_, _, _, rfl⟩ := hv; rfl
 | o :: r, ts, ts', h, h', recs, hs, hv => by
  simp only [Ab9] at hv
  split at hv
  ·rename_i v h1 hs1
   split at hv
   ·rename_i recs2 hs2 t2 h2 hr
    simp only [Option.some.injEq, Prod.mk.injEq] at hv
    obtain ⟨_, _, _, rfl⟩ := hv
    rw [Acr hm r _ _ _ _ _ _ hr]
    split at hs1
    ·exact Ad9 hm hs1
    ·simp only [Option.some.injEq, Prod.mk.injEq] at hs1; obtain ⟨_, rfl⟩ := hs1; rfl
   ·cases hv
  ·cases hv
theorem Aj4 {e : Aa6} {b : Nat} {M : List Nat} {h h' : Aaa} {v : Value} (hv : Aqz e b M h = some (v, h')) : h'.mq = M := by
 unfold Aqz at hv
 split at hv
 ·simp only [Option.some.injEq, Prod.mk.injEq] at hv; obtain ⟨_, rfl⟩ := hv; rfl
 ·cases hv
theorem Aik {mm : Agw} (hmm : ∀ f args h v h', mm f args h = some (v, h') -> h'.mq = h.mq) (tab : Nat -> Option Aac) (ex : ExF) : Agg (Abg mm tab ex) := by
 intro t args h v h' hv
 unfold Abg at hv
 simp only [Bool.cond_eq_ite] at hv
 repeat' split at hv
 all_goals first
  | (cases hv; done)
  | exact Aj4 hv
  | (simp only [Option.some.injEq] at hv; exact hmm _ _ _ _ _ (by rw [<- hv]; assumption))
  | (simp only [Option.some.injEq, Prod.mk.injEq] at hv; obtain ⟨_, rfl⟩ := hv; rfl)
open Go.RowKit
section
variable {C : Af2} {P : Program} {μ : Map} {h : Aaa} {B : Fr} {w0 w : World}
theorem Rel.setAux (R : Rel C μ h B w0 w) {L : T Ah9} {M : List Nat} (x : Adk C μ L M B w) : Rel C μ { h with lqs := L, mq := M } B w0 w :=
 ⟨R.below, R.size, R.zk, R.fresh, R.blk, R.apart, x⟩
theorem Abb {l : Nat} {o : Obj} {i : Nat} (hne : i ≠ l) : (w.putObj l o).heap[i]? = w.heap[i]? := World.putObj_heap_other hne
theorem Rel.putX (R : Rel C μ h B w0 w) {l : Nat} {o o' : Obj} (hl : w.heap[l]? = some o) (ho : Arm o = false) (hB : B.own l) {L : T Ah9} {M : List Nat} (x : Adk C μ L M B (w.putObj l o')) :
  Rel C μ { h with lqs := L, mq := M } B w0 (w.putObj l o') := by
 have hne : ∀ {i : Nat} {cc : Array Value} {el : TypeId} {fr : Nat × Nat}, w.heap[i]? = some (.cells cc el fr) -> i ≠ l := fun hi hil => by
  subst hil; rw [hl] at hi; cases hi; cases ho
 refine ⟨R.below.trans ⟨rfl, rfl, rfl, by simp, fun i hi => Abb (by have := hB.1; omega)⟩, by have := R.size; simp; omega, fun i o hz => by rw [Abb (hB.ne hz)]; exact R.zk i o hz, R.fresh, fun b k hb => ?_, R.apart, x⟩
 obtain ⟨e, he, y⟩ := R.blk b k hb
 refine ⟨e, he, y.s, y.n, y.len, y.grown, fun hw => ?_, y.ro, fun i v hi => ?_⟩
 ·obtain ⟨g1, g2, cc, el, g3, g4⟩ := y.own hw
  exact ⟨g1, g2, cc, el, by rw [Abb (hne g3)]; exact g3, g4⟩
 ·obtain ⟨cc, el, fr, v', g1, g2, g3⟩ := y.cell i v hi
  exact ⟨cc, el, fr, v', by rw [Abb (hne g1)]; exact g1, g2, g3⟩
theorem Rel.allocX (R : Rel C μ h B w0 w) (o : Obj) : Rel C (μ.put h.nq ⟨w.heap.size, 0, 0, 0, 0⟩) { h with nq := h.nq + 1 } B w0 (w.alloc o) /\ μ.le (μ.put h.nq ⟨w.heap.size, 0, 0, 0, 0⟩) := by
 have hle : μ.le (μ.put h.nq ⟨w.heap.size, 0, 0, 0, 0⟩) := Map.le_put (R.next_none (Nat.le_refl _))
 have hold : ∀ i, i < w.heap.size -> (w.alloc o).heap[i]? = w.heap[i]? := fun i hi => Below.heap_alloc _ _ _ hi
 refine ⟨⟨R.below.alloc R.size _, by have := R.size; simp; omega, R.zk_old hold, fun b e hb => ?_, fun b k hb => ?_, fun b b' k k' e e' hb hb' hn o1 o2 n1 n2 he he' => ?_, R.aux.keep hle (Ads hold)⟩, hle⟩
 ·by_cases hbn : b = h.nq
  ·subst hbn; simp
  ·rw [Map.put_other hbn] at hb
   have := R.fresh b e hb; simp; omega
 ·obtain ⟨e, he, y⟩ := R.blk b k hb
  exact ⟨e, hle _ _ he, y.mono hle hold⟩
 ·obtain ⟨f, hf, _⟩ := R.blk b k hb
  obtain ⟨f', hf', _⟩ := R.blk b' k' hb'
  rw [hle _ _ hf] at he; cases he
  rw [hle _ _ hf'] at he'; cases he'
  exact R.apart b b' k k' _ _ hb hb' hn o1 o2 n1 n2 hf hf'
theorem Adk.addMark {L : T Ah9} {M : List Nat} (x : Adk C μ L M B w) {m : Nat} {e : Ent} (he : μ m = some e) (hB : B.own e.blk) (hw : w.heap[e.blk]? = some (.deferred (some [])))
  (hd : ∀ m' ∈ M, ∀ e', μ m' = some e' -> e.blk ≠ e'.blk) : Adk C μ L (m :: M) B w := by
 refine ⟨x.loop, x.lapart, fun m' hm' => ?_, List.pairwise_cons.2 ⟨fun m' hm' f f' hf hf' => ?_, x.mapart⟩⟩
 ·rcases List.mem_cons.1 hm' with hm' | hm'
  ·subst hm'; exact ⟨e, he, hB, hw⟩
  ·exact x.mark m' hm'
 ·rw [he] at hf; cases hf
  exact hd m' hm' f' hf'
theorem Adk.addLoop {L : T Ah9} {M : List Nat} (x : Adk C μ L M B w) {b : Nat} {k : Ah9} {e : Ent} (he : μ b = some e) (hk : Atk C μ B w k e)
  (hd : ∀ b' k' e', L.get b' = some k' -> μ b' = some e' -> e.blk ≠ e'.blk) : Adk C μ (L.put b k) M B w := by
 refine ⟨fun b' k' hb' => ?_, fun b1 b2 k1 k2 e1 e2 h1 h2 hn m1 m2 => ?_, x.mark, x.mapart⟩
 ·by_cases hb : b' = b
  ·subst hb; rw [T.get_put_same] at hb'; cases hb'; exact ⟨e, he, hk⟩
  ·rw [T.get_put_other _ _ hb] at hb'; exact x.loop b' k' hb'
 ·by_cases c1 : b1 = b
  ·subst c1
   rw [he] at m1; cases m1
   rw [T.get_put_other _ _ (Ne.symm hn)] at h2
   exact hd b2 k2 e2 h2 m2
  ·rw [T.get_put_other _ _ c1] at h1
   by_cases c2 : b2 = b
   ·subst c2
    rw [he] at m2; cases m2
    exact fun hc => hd b1 k1 e1 h1 m1 hc.symm
   ·rw [T.get_put_other _ _ c2] at h2
    exact x.lapart b1 b2 k1 k2 e1 e2 h1 h2 hn m1 m2
theorem Adk.sub {L : T Ah9} {M M' : List Nat} (x : Adk C μ L M B w) (hs : M'.Sublist M) : Adk C μ L M' B w :=
 ⟨x.loop, x.lapart, fun m hm => x.mark m (hs.subset hm), x.mapart.sublist hs⟩
theorem Rel.setSt (R : Rel C μ h B w0 w) {b : Nat} {k : Ah9} {e : Ent} {r : Loop} (hb : h.lqs.get b = some k) (he : μ b = some e) (hr : w.heap[e.blk]? = some (.loop r)) {st : Nat} {pend : Option Aa6} {S : LoopState} {Pn : Option Code}
  (hS : S = stX st) (hP : Pn = pend.map Ajr) {M : List Nat} (hM : M.Sublist h.mq) :
  Rel C μ { h with lqs := h.lqs.put b { k with st := st, pend := pend }, mq := M } B w0 (w.putObj e.blk (.loop { r with state := S, pending := Pn })) := by
 obtain ⟨e', he', old, r', h1, h2, h3, h4, h5, h6, h7, h8⟩ := R.aux.loop b k hb
 rw [he] at he'; cases he'
 rw [hr] at h1; cases h1
 have hlt : e.blk < w.heap.size := (Array.getElem?_eq_some_iff.1 hr).1
 have hx := R.aux.sub hM
 refine R.putX hr rfl old ⟨fun b1 k1 hb1 => ?_, fun b1 b2 k1 k2 e1 e2 g1 g2 hn m1 m2 => ?_, fun m hm => ?_, hx.mapart⟩
 ·by_cases hbb : b1 = b
  ·subst hbb
   rw [T.get_put_same] at hb1; cases hb1
   exact ⟨e, he, old, _, World.putObj_heap_same hlt, hS, hP, h4, h5, h6, h7, h8⟩
  ·rw [T.get_put_other _ _ hbb] at hb1
   obtain ⟨e1, he1, o1, r1, x1, x2⟩ := R.aux.loop b1 k1 hb1
   exact ⟨e1, he1, o1, r1, by rw [Abb (R.aux.lapart b1 b k1 k e1 e hb1 hb hbb he1 he)]; exact x1, x2⟩
 ·have hx : ∀ b3 k3, (h.lqs.put b { k with st := st, pend := pend }).get b3 = some k3 -> ∃ k4, h.lqs.get b3 = some k4 := by
   intro b3 k3 g
   by_cases hbb : b3 = b
   ·subst hbb; exact ⟨k, hb⟩
   ·rw [T.get_put_other _ _ hbb] at g; exact ⟨k3, g⟩
  obtain ⟨k3, g3⟩ := hx b1 k1 g1
  obtain ⟨k4, g4⟩ := hx b2 k2 g2
  exact R.aux.lapart b1 b2 k3 k4 e1 e2 g3 g4 hn m1 m2
 ·obtain ⟨e1, he1, o1, x1⟩ := hx.mark m hm
  refine ⟨e1, he1, o1, ?_⟩
  rw [Abb (fun hc => by rw [hc, hr] at x1; cases x1)]; exact x1
theorem Rel.takeMark (R : Rel C μ h B w0 w) {m : Nat} {M : List Nat} (hm : h.mq = m :: M) : ∃ e, μ m = some e /\ (Instr.takeDeferred e.blk).run P w = .ok [] (w.putObj e.blk (.deferred none)) /\
  Rel C μ { h with mq := M } B w0 (w.putObj e.blk (.deferred none)) := by
 obtain ⟨e, he, hB, hw⟩ := R.aux.mark m (by rw [hm]; simp)
 refine ⟨e, he, run_takeDeferred hw, ?_⟩
 have hp := R.aux.mapart
 rw [hm] at hp
 obtain ⟨hp1, hp2⟩ := List.pairwise_cons.1 hp
 refine R.putX (L := h.lqs) hw rfl hB ⟨fun b k hb => ?_, R.aux.lapart, fun m' hm' => ?_, hp2⟩
 ·obtain ⟨e1, he1, o1, r1, x1, x2⟩ := R.aux.loop b k hb
  exact ⟨e1, he1, o1, r1, by rw [Abb (fun hc => by rw [hc, hw] at x1; cases x1)]; exact x1, x2⟩
 ·obtain ⟨e1, he1, o1, x1⟩ := R.aux.mark m' (by rw [hm]; exact List.mem_cons_of_mem _ hm')
  exact ⟨e1, he1, o1, by rw [Abb (fun hc => hp1 m' hm' e e1 he he1 hc.symm)]; exact x1⟩
def mkD (μ : Map) (m : Nat) : Deferred := { target := .collected (((μ m).map (·.blk)).getD 0), args := #[] }
def Mk (μ : Map) (M0 : List Nat) (h : Aaa) (a : Act) : Prop := ∃ new, h.mq = new ++ M0 /\ a.defers = new.map (mkD μ)
theorem Aol {μ' : Map} (hle : μ.le μ') {m : Nat} {e : Ent} (he : μ m = some e) : mkD μ' m = mkD μ m := by simp [mkD, he, hle _ _ he]
theorem Mk.step {μ' : Map} {M0 : List Nat} {h' : Aaa} {a a' : Act} (x : Mk μ M0 h a) (R : Rel C μ h B w0 w) (hle : μ.le μ') (hm : h'.mq = h.mq) (hd : a'.defers = a.defers) : Mk μ' M0 h' a' := by
 obtain ⟨new, h1, h2⟩ := x
 refine ⟨new, hm.trans h1, ?_⟩
 rw [hd, h2]
 refine List.map_congr_left (fun m hmm => ?_)
 obtain ⟨e, he, _⟩ := R.aux.mark m (by rw [h1]; exact List.mem_append_left _ hmm)
 exact (Aol hle he).symm
theorem Adm {F : Fence} {n : Nat} {fn : Func} {tmps : Array Value} {Q : Ending -> World -> Prop} {M0 : List Nat} : ∀ (new : List Nat) (h : Aaa) (w : World), h.mq = new ++ M0 -> Rel C μ h B w0 w ->
  (∀ w', Rel C μ { h with mq := M0 } B w0 w' -> ∃ v, (results fn tmps).run P w' = .ok v w' /\ Q (.returned v) w') -> LeavesInM F n P fn tmps Q (new.map (mkD μ)) .returning w
 | [], h, w, hm, R, hQ => by
  have : { h with mq := M0 } = h := by cases h; simp_all
  exact hQ w (by rw [this]; exact R)
 | m :: new, h, w, hm, R, hQ => by
  obtain ⟨e, he, h1, h2⟩ := R.takeMark (P := P) (m := m) (M := new ++ M0) (by simpa using hm)
  refine ⟨by simp, .inl ⟨e.blk, _, by simp [mkD, he], h1, ?_⟩⟩
  exact Adm new { h with mq := new ++ M0 } _ rfl h2 hQ
def Aij (μ : Map) : Option Nat -> Option Nat -> Prop
 | none, none => True
 | some b, some l => ∃ e, μ b = some e /\ e.blk = l
 | _, _ => False
theorem Aij.mono {μ' : Map} {ro l : Option Nat} (hle : μ.le μ') (x : Aij μ ro l) : Aij μ' ro l := by
 match ro, l, x with
 | none, none, _ => trivial
 | some b, some l, ⟨e, he, h⟩ => exact ⟨e, hle _ _ he, h⟩
theorem Ahd (R : Rel C μ h B w0 w) {ro l : Option Nat} (hro : Aij μ ro l) {k : Ah9} {b : Nat} {h1 : Aaa} (hv : Ai0 ro k h = some (b, h1)) {a : Act} {ps : Array Tmp} {assign body : Code} (hst : k.st = 0) (hpe : k.pend = none)
  (hts : Aap μ k.ts a) (hN : a.tmps.size = k.n) (hps : ps.toList = k.ps) (hasg : C k.n assign k.asg) (hbody : C k.n body k.body) (fn : FuncId) :
  ∃ μ1 e mark w1, (Instr.enterLoop fn a.tmps ps assign body l).run P w = .ok (e.blk, mark) w1 /\ μ.le μ1 /\ μ1 b = some e /\ Rel C μ1 h1 B w0 w1 /\ (∀ M0, Mk μ M0 h a -> Mk μ1 M0 h1 { a with defers := mark ++ a.defers }) := by
 cases ro with
 | none =>
  cases l with
  | some l => exact hro.elim
  | none =>
   simp only [Ai0, Option.some.injEq, Prod.mk.injEq] at hv
   obtain ⟨rfl, rfl⟩ := hv
   obtain ⟨R1, hle1⟩ := R.allocX (.deferred (some []))
   have hnew1 := World.alloc_heap_new w (.deferred (some []))
   have R1' := R1.setAux (R1.aux.addMark (m := h.nq) (e := ⟨w.heap.size, 0, 0, 0, 0⟩) (Map.put_same _ _ _) R.own_size hnew1 (fun m' hm' e' he' => by
    obtain ⟨f, hf, _, hw⟩ := R.aux.mark m' hm'
    rw [hle1 _ _ hf] at he'; cases he'
    have := (Array.getElem?_eq_some_iff.1 hw).1
    exact fun hc => by simp at hc; omega))
   obtain ⟨R2, hle2⟩ := R1'.allocX (.loop { state := .ready, pending := none, fn, tmps := a.tmps, params := ps, assign, body, defers := w.heap.size })
   have hnew2 := World.alloc_heap_new (w.alloc (.deferred (some []))) (.loop { state := .ready, pending := none, fn, tmps := a.tmps, params := ps, assign, body, defers := w.heap.size })
   have hb1 := R1'.aux
   refine ⟨_, ⟨(w.alloc (.deferred (some []))).heap.size, 0, 0, 0, 0⟩, [{ target := .collected w.heap.size, args := #[] }], _, ?_, hle1.trans hle2, Map.put_same _ _ _, R2.setAux (R2.aux.addLoop (b := h.nq + 1) (k := k) (Map.put_same _ _ _) ⟨R1'.own_size, _, hnew2, by rw [hst]; rfl, by rw [hpe]; rfl, hps, hN, hts.mono (hle1.trans hle2), hasg, hbody⟩ ?_), ?_⟩
   ·have := run_enterLoop_outer (P := P) (w := w) fn a.tmps ps assign body
    simpa using this
   ·intro b' k' e' hb' he'
    obtain ⟨f, hf, _, r1, hw, _⟩ := hb1.loop b' k' hb'
    rw [hle2 _ _ hf] at he'; cases he'
    have := (Array.getElem?_eq_some_iff.1 hw).1
    exact fun hc => by rw [<- hc] at this; simp at this
   ·rintro M0 ⟨new, g1, g2⟩
    refine ⟨h.nq :: new, by simp [g1], ?_⟩
    have hh : ∀ m ∈ new, mkD ((μ.put h.nq ⟨w.heap.size, 0, 0, 0, 0⟩).put (h.nq + 1) ⟨(w.alloc (.deferred (some []))).heap.size, 0, 0, 0, 0⟩) m = mkD μ m := fun m hm => by
     obtain ⟨e, he, _⟩ := R.aux.mark m (by rw [g1]; exact List.mem_append_left _ hm)
     exact Aol (hle1.trans hle2) he
    have h0 : mkD ((μ.put h.nq ⟨w.heap.size, 0, 0, 0, 0⟩).put (h.nq + 1) ⟨(w.alloc (.deferred (some []))).heap.size, 0, 0, 0, 0⟩) h.nq = { target := .collected w.heap.size, args := #[] } := by
     simp [mkD, Map.put_other (show h.nq ≠ h.nq + 1 by omega), Map.put_same]
    rw [List.map_cons, List.map_congr_left hh, <- g2]
    simp only [List.cons_append, List.nil_append]
    rw [<- h0]
 | some b0 =>
  cases l with
  | none => exact hro.elim
  | some l =>
   obtain ⟨e0, he0, rfl⟩ := hro
   simp only [Ai0] at hv
   split at hv
   ·cases hv
   ·rename_i k0 hk0
    simp only [Option.some.injEq, Prod.mk.injEq] at hv
    obtain ⟨rfl, rfl⟩ := hv
    obtain ⟨e1, he1, old, r0, hr0, _⟩ := R.aux.loop b0 k0 hk0
    rw [he0] at he1; cases he1
    obtain ⟨R2, hle2⟩ := R.allocX (.loop { state := .ready, pending := none, fn, tmps := a.tmps, params := ps, assign, body, defers := r0.defers })
    have hnew2 := World.alloc_heap_new w (.loop { state := .ready, pending := none, fn, tmps := a.tmps, params := ps, assign, body, defers := r0.defers })
    refine ⟨_, ⟨w.heap.size, 0, 0, 0, 0⟩, [], _, run_enterLoop_inner hr0 fn a.tmps ps assign body, hle2, Map.put_same _ _ _, R2.setAux (R2.aux.addLoop (b := h.nq) (k := k) (Map.put_same _ _ _) ⟨R.own_size, _, hnew2, by rw [hst]; rfl, by rw [hpe]; rfl, hps, hN, hts.mono hle2, hasg, hbody⟩ ?_), ?_⟩
    ·intro b' k' e' hb' he'
     obtain ⟨f, hf, _, r1, hw, _⟩ := R.aux.loop b' k' hb'
     rw [hle2 _ _ hf] at he'; cases he'
     have := (Array.getElem?_eq_some_iff.1 hw).1
     exact fun hc => by rw [<- hc] at this; simp at this
    ·intro M0 x
     exact x.step R hle2 rfl rfl
end
open Go.RowKit
section
variable {P : Program} {B : Fr} {w0 : World} {cf : Aas} {N n : Nat} {ops : Array Oper} {l : List Aah} {tbl : List Nat} {E : Nat -> List Nat}
 {recs : List Rec} {hs : List Aaa} {ts ts' : T Value} {h h' : Aaa} {Q : Exit -> Act -> World -> Prop} {μ : Map} {ds : List Deferred}
theorem Ahy {listed : Array Bool} {i : Nat} (hm : i ∈ Region.ready .any ops listed) : i < ops.size /\ listed.getD i true = false /\ ∀ o, ops[i]? = some o -> ∀ e ∈ o.after, Region.binds .any e = true -> listed.getD e.on false = true := by
 simp only [Region.ready, List.mem_filter, List.mem_range, Bool.and_eq_true, Bool.not_eq_true'] at hm
 obtain ⟨h1, h2, h3⟩ := hm
 refine ⟨h1, h2, fun o ho e he hb => ?_⟩
 rw [ho] at h3
 simp only [Option.map_some, Option.getD_some, Array.all_eq_true_iff_forall_mem] at h3
 have := h3 e he
 rw [hb] at this
 simpa using this
theorem Akr {listed : Array Bool} (hsz : listed.size = ops.size) (hE : ∀ i o, ops[i]? = some o -> E i = Ack o) (hlt : ∀ i, i < ops.size -> ∀ e ∈ E i, e < i) (hn : Region.ready .any ops listed = []) : ∀ i, i < ops.size -> listed.getD i false = true := by
 intro i
 induction i using Nat.strongRecOn with
 | _ i ih =>
  intro hi
  cases hq : listed.getD i false with
  | true => rfl
  | false =>
   exfalso
   have hmem : i ∈ Region.ready .any ops listed := by
    simp only [Region.ready, List.mem_filter, List.mem_range, Bool.and_eq_true, Bool.not_eq_true']
    have ho : ops[i]? = some ops[i] := Array.getElem?_eq_getElem hi
    refine ⟨hi, ?_, ?_⟩
    ·have hi' : i < listed.size := by omega
     simp only [Array.getD_eq_getD_getElem?, Array.getElem?_eq_getElem hi', Option.getD_some] at hq ⊢
     exact hq
    ·rw [ho]
     simp only [Option.map_some, Option.getD_some, Array.all_eq_true_iff_forall_mem]
     intro e he
     cases hb : Region.binds .any e with
     | false => rfl
     | true =>
      have hin : e.on ∈ E i := by
       rw [hE i _ ho]
       simp only [Ack, List.mem_map, List.mem_filter]
       exact ⟨e, ⟨by simpa using he, hb⟩, rfl⟩
      have := hlt i hi e.on hin
      simp [ih e.on this (by omega)]
   rw [hn] at hmem
   cases hmem
theorem Aiu {ro : Option Nat} {F : Nat} (S : Acq tbl l E n F) (tr : Aer cf l ts h recs hs ts' h') (hck : Ac2 (h :: hs) recs ((List.range n).map (Acw tbl (Af1 l))) = true) (hc : Acj P cf B w0)
  {x : Option Nat} {listed : Array Bool} {a : Act} {w : World} (st : Ag8 P B w0 N l E n recs (h :: hs) ts μ ds x listed a w) {i : Nat} (hi : i < n) (hno : listed.getD i false = false) (hrd : ∀ j ∈ E i, listed.getD j false = true)
  {o : Oper} (ho : ops[i]? = some o) {ao : Aah} (hao : l[i]? = some ao) (k : Afz P N ops o ao) (hx : ∀ t, x = some t -> t ∉ reads ao /\ ao.dst ≠ some t)
  (hord : isE ao.op = true -> ∀ e, e < n -> Aat l e = true -> e ≠ i -> (listed.getD e false = true ↔ e < i)) {K : Act -> World -> Prop}
  (hK : ∀ a' w', Ag8 P B w0 N l E n recs (h :: hs) ts μ ds x (listed.setIfInBounds i true) a' w' -> (∀ t, x = some t -> a'.tmps.getD t undef = a.tmps.getD t undef) -> K a' w') : wpOpIn (FW ro) 0 P ops Q i K a w := by
 have hisz : i < listed.size := by rw [st.size]; exact hi
 obtain ⟨μ', tsS, hh, g1, g2, g3, g4, g5, g6⟩ := st.st
 obtain ⟨r, hh2, r1, r2, r3⟩ := Akb S tr hck st.size st.closed hi hno hrd hao (fun j oj rj t ht => g5 j oj rj t (fun he => (hx t he).1 ht)) (fun t ht => g6 t (fun he => (hx t he).1 ht)) hord g2
 have stand : ∀ (a' : Act) (w' : World) (μ2 : Map) (v' : Value), a' = a.put o.dst v' -> μ'.le μ2 -> Rel (Cc P) μ2 hh2 B w0 w' -> Aa3 μ2 r.v v' -> Ag8 P B w0 N l E n recs (h :: hs) ts μ ds x (listed.setIfInBounds i true) a' w' /\ (∀ t, x = some t -> a'.tmps.getD t undef = a.tmps.getD t undef) := by
  intro a' w' μ2 v' ha' hle R' hv'
  subst ha'
  have gd := fun j => Ab7 (j := j) hisz
  refine ⟨⟨by simp [st.size], ?_, by rw [Adw]; exact st.tsz, by rw [Acc]; exact st.dfs, μ2, Abr tsS ao.dst r.v, hh2, g1.trans hle, ?_, R', ?_, ?_, ?_⟩, ?_⟩
  ·intro x y hx hy
   rw [gd, Bool.or_eq_true] at hx ⊢
   rcases hx with hx | hx
   ·have := of_decide_eq_true hx
    subst this
    exact .inr (hrd y hy)
   ·exact .inr (st.closed x y hx hy)
  ·have : (fun e => Aat l e && (listed.setIfInBounds i true).getD e false) = fun e => Aat l e && (decide (e = i) || listed.getD e false) := by
    funext e; rw [gd]
   rw [this]; exact r3
  ·rw [k.dst]
   exact Ace (g4.mono hle) hv' (by rw [st.tsz]; exact k.dok)
  ·intro j o rj t hxt hj hrj hl hd
   rw [gd, Bool.or_eq_true] at hl
   by_cases hji : j = i
   ·subst hji
    rw [hao] at hj; cases hj
    rw [r1] at hrj; cases hrj
    simp only [hd, Abr]; exact Abc _ _ _
   ·have hl := hl.resolve_left (by simpa using hji)
    have hne : ao.dst ≠ some t := fun hd' => hji (S.dst j i o ao t hj hao hd hd')
    rw [Abu _ _ hne]
    exact g5 j o rj t hxt hj hrj hl hd
  ·intro t hxt hno'
   have hne : ao.dst ≠ some t := hno' i ao hao (by rw [gd]; simp)
   rw [Abu _ _ hne]
   exact g6 t hxt (fun j o hj hl => hno' j o hj (by rw [gd, hl]; simp))
  ·intro t ht
   have hne := (hx t ht).2
   rw [k.dst] at hne
   cases hd : o.dst with
   | none => rfl
   | some d =>
    have hdt : d ≠ t := fun he => hne (by rw [hd, he])
    simp only [Act.put, Array.getD_eq_getD_getElem?, Array.getElem?_setIfInBounds, if_neg hdt]
 unfold wpOpIn
 rw [ho]
 simp only
 have hw := Aee k g4 st.tsz
 unfold ran at r2
 cases hwa : Aa2 tsS ao.guard with
 | true =>
  rw [hwa] at hw r2; simp only at r2
  rw [if_pos hw]
  exact Ap6 k.form k.nod hc g3 g4 r2 (fun μ2 v' w' hle R' hv' => hK _ _ (stand _ _ μ2 v' rfl hle R' hv').1 (stand _ _ μ2 v' rfl hle R' hv').2)
 | false =>
  rw [hwa] at hw r2; simp only [Option.some.injEq, Prod.mk.injEq] at r2
  rw [if_neg (by rw [hw]; simp)]
  have hs := stand _ _ μ' undef rfl μ'.le_refl (by rw [<- r2.2]; exact g3) (by rw [<- r2.1]; exact Ac1 μ')
  exact ⟨fun _ _ => trivial, hK _ _ hs.1 hs.2⟩
structure Ai4 (P : Program) (B : Fr) (w0 : World) (N : Nat) (l : List Aah) (E : Nat -> List Nat) (n F : Nat) (recs : List Rec) (hall : List Aaa) (ts : T Value) (μ : Map) (ds : List Deferred) (listed : Array Bool) (a : Act) (w : World) : Prop where
 lf : listed.getD F false = true
 clF : ∀ j ∈ E F, listed.getD j false = true
 st : ∃ (c : Nat) (cc : Array Value) (el : TypeId) (V : Value) (k : Blk) (tF : Nat) (rF : Rec) (ha : Aaa) (oF : Aah) (μ1 : Map),
  l[F]? = some oF /\ oF.dst = some tF /\ recs[F]? = some rF /\ hall[cE l F]? = some ha /\ hall[cE l (F + 1)]? = some (ha.new k) /\ k.own = true /\ k.cells.length <= k.n /\ cc.size = k.n /\
  (∀ (i : Nat) (v : Value), k.cells[i]? = some v -> ∃ v', cc[i]? = some v' /\ Aa3 μ1 v v') /\ (∀ ν : Map, Aa3 (ν.put ha.nq ⟨c, 0, 0, k.s, k.n⟩) rF.v V) /\ B.own c /\ μ.le μ1 /\ a.tmps.getD tF undef = V /\
  Ag8 P (B.with c (.cells cc el (0, 0))) w0 N l E n recs hall ts μ1 ds (some tF) (listed.setIfInBounds F false) a w
theorem Af0 {listed : Array Bool} {i j : Nat} (hi : i < listed.size) : (listed.setIfInBounds i false).getD j false = (!(decide (j = i)) && listed.getD j false) := by
 simp only [Array.getD_eq_getD_getElem?, Array.getElem?_setIfInBounds]
 by_cases h : i = j
 ·subst h; simp [hi]
 ·simp [h, Ne.symm h]
theorem Ahj {F : Nat} (S : Acq tbl l E n F) (hF : F < n) {listed : Array Bool} {a : Act} {w : World} (p : Ai4 P B w0 N l E n F recs (h :: hs) ts μ ds listed a w) (hall : ∀ e, e < F -> Aat l e = true -> listed.getD e false = true) :
  Ag8 P B w0 N l E n recs (h :: hs) ts μ ds none listed a w := by
 obtain ⟨c, cc, el, V, k, tF, rF, ha, oF, μ1, p1, p2, p3, p4, p5, p6, p7, p8, p9, p10, p11, p12, p13, st⟩ := p.st
 have hsz : F < listed.size := by have := st.size; simp at this; omega
 have gd := fun j => Af0 (j := j) hsz
 have hEF : Aat l F = true := by
  obtain ⟨q1, _⟩ := S.fl oF p1
  simp only [Aat, p1]
  cases hop : oF.op <;> rw [hop] at q1 <;> first | rfl | cases q1
 have ancLe : ∀ x y, x < n -> anc tbl x y = true -> y <= x := by
  intro x y hx hxy
  exact S.ancE x y hxy (fun z => z <= x) (fun a b ha hb => by
   have := S.lt a (by omega) b hb; omega) (Nat.le_refl _)
 have key : ∀ e, e < n -> Aat l e = true -> ((listed.setIfInBounds F false).getD e false = true ↔ e < F) := by
  intro e he hE
  constructor
  ·intro hl
   rcases S.ef e F he hF hE hEF with hx | hx | hx | hx | hx
   ·subst hx; rw [gd] at hl; simp at hl
   ·have := S.ancE e F hx (fun z => (listed.setIfInBounds F false).getD z false = true) (fun x y hx hy => st.closed x y hx hy) hl
    rw [gd] at this; simp at this
   ·have := ancLe F e hF hx
    by_cases hef : e = F
    ·subst hef; rw [gd] at hl; simp at hl
    ·omega
   ·omega
   ·exact hx.2
  ·intro hlt
   rw [gd, hall e hlt hE]; simp; omega
 have cnt : (List.range n).countP (fun e => Aat l e && (listed.setIfInBounds F false).getD e false) = cE l F := by
  unfold cE
  rw [<- Abt (Aat l) n F (by omega)]
  refine List.countP_congr (fun e hen => ?_)
  have hen := List.mem_range.1 hen
  cases hq : Aat l e with
  | false => simp
  | true => simp only [Bool.true_and]; rw [key e hen hq, Afl]
 have cnt2 : (List.range n).countP (fun e => Aat l e && listed.getD e false) = cE l (F + 1) := by
  unfold cE
  rw [<- Abt (Aat l) n (F + 1) hF]
  refine List.countP_congr (fun e hen => ?_)
  have hen := List.mem_range.1 hen
  cases hq : Aat l e with
  | false => simp
  | true =>
   simp only [Bool.true_and]; rw [Afl]
   by_cases hef : e = F
   ·subst hef; rw [p.lf]; simp
   ·have := key e hen hq
    rw [gd] at this
    simp only [hef, decide_false, Bool.not_false, Bool.true_and] at this
    rw [this]; omega
 obtain ⟨μ', tsS, hh, g1, g2, g3, g4, g5, g6⟩ := st.st
 rw [cnt, p4] at g2; simp only [Option.some.injEq] at g2; subst g2
 obtain ⟨R', hle⟩ := g3.absorb p11 k p6 p7 p8 (fun i v hi => by obtain ⟨v', q1, q2⟩ := p9 i v hi; exact ⟨v', q1, q2.mono g1⟩)
 refine ⟨by have := st.size; simpa using this, ?_, st.tsz, st.dfs, _, tsS.put tF rF.v, ha.new k, (p12.trans g1).trans hle, by rw [cnt2]; exact p5, R', ?_, ?_, ?_⟩
 ·intro i j hi hj
  by_cases hiF : i = F
  ·subst hiF; exact p.clF j hj
  ·have := st.closed i j (by rw [gd, hi]; simp [hiF]) hj
   rw [gd, Bool.and_eq_true] at this; exact this.2
 ·intro t
  by_cases ht : t = tF
  ·subst ht; rw [Abc, p13]; exact p10 μ'
  ·rw [Aay _ _ ht]; exact (g4 t).mono hle
 ·intro j o rj t _ hj hrj hl hd
  by_cases hjF : j = F
  ·subst hjF
   rw [p1] at hj; cases hj
   rw [p3] at hrj; cases hrj
   rw [p2] at hd; cases hd
   exact Abc _ _ _
  ·have hne : t ≠ tF := fun ht => hjF (S.dst j F o oF t hj p1 hd (by rw [p2, ht]))
   rw [Aay _ _ hne]
   exact g5 j o rj t (fun he => hne (by cases he; rfl)) hj hrj (by rw [gd, hl]; simp [hjF]) hd
 ·intro t _ hno'
  have hne : t ≠ tF := fun ht => hno' F oF p1 p.lf (by rw [p2, ht])
  rw [Aay _ _ hne]
  exact g6 t (fun he => hne (by cases he; rfl)) (fun j o hj hl => hno' j o hj (by rw [gd, Bool.and_eq_true] at hl; exact hl.2))
theorem Alb {ro : Option Nat} {F : Nat} (S : Acq tbl l E n F) (hF : F < n) (tr : Aer cf l ts h recs hs ts' h')
  {listed : Array Bool} {a : Act} {w : World} (st : Ag8 P B w0 N l E n recs (h :: hs) ts μ ds none listed a w) (hno : listed.getD F false = false) (hrd : ∀ j ∈ E F, listed.getD j false = true)
  {o : Oper} (ho : ops[F]? = some o) {ao : Aah} (hao : l[F]? = some ao) (k : Afz P N ops o ao) {K : Act -> World -> Prop}
  (hK : ∀ a' w', Ai4 P B w0 N l E n F recs (h :: hs) ts μ ds (listed.setIfInBounds F true) a' w' -> K a' w') : wpOpIn (FW ro) 0 P ops Q F K a w := by
 have hsz : F < listed.size := by rw [st.size]; exact hF
 obtain ⟨μ', tsS, hh, g1, g2, g3, g4, g5, g6⟩ := st.st
 obtain ⟨r, ha, hb, r1, r2, r3, r4, r5⟩ := Ajq S tr st.closed hF hno hrd hao (fun j oj rj t _ => g5 j oj rj t (by simp)) (fun t _ => g6 t (by simp))
 obtain ⟨q1, q2, tF, q3⟩ := S.fl ao hao
 have cong := Agc (cf := cf) r5
 have hw := Aee k g4 st.tsz
 rw [q2] at hw
 have hs1 : Aa5 cf tsS ha ao.op = some (r.v, hb) := by
  rw [cong.2 ha]
  unfold ran at r4
  rw [q2] at r4
  exact r4
 have hdid : Apr P μ' ha hb a w o r.v /\ ∀ c, o.op ≠ .defer c := by
  refine ⟨Ao1 k.form q1 g4 hs1, fun c hcq => ?_⟩
  have := k.nod c hcq
  rw [this] at q1; cases q1
 obtain ⟨⟨kb, cc, el, V, d0, d1, _, d3, d4, d5, d6, d7, d8⟩, hnd⟩ := hdid
 subst d0
 unfold wpOpIn
 rw [ho]
 simp only
 have hw1 : Region.wanted o (yielded ops a.tmps) = true := hw
 rw [if_pos hw1]
 refine Aqt hnd ?_
 rw [d6, Oper.uponIn_value]
 have hd : o.dst = some tF := by rw [<- k.dst]; exact q3
 have hlt : tF < a.tmps.size := by
  have := k.dok
  rw [hd, <- st.tsz] at this
  have : Nat.ble (tF + 1) a.tmps.size = true := this
  have := Aao this; omega
 have eqS : (listed.setIfInBounds F true).setIfInBounds F false = listed := by
  apply Array.ext_getElem?
  intro i
  simp only [Array.getElem?_setIfInBounds, Array.size_setIfInBounds]
  by_cases hi : F = i
  ·subst hi
   rw [if_pos rfl, if_pos hsz, Array.getElem?_eq_getElem hsz]
   simp only [Array.getD_eq_getD_getElem?, Array.getElem?_eq_getElem hsz, Option.getD_some] at hno
   rw [hno]
  ·rw [if_neg hi, if_neg hi]
 refine hK _ _ ⟨by rw [Ab7 hsz]; simp, fun j hj => by rw [Ab7 hsz, hrd j hj]; simp, w.heap.size, cc, el, V, kb, tF, r, ha, ao, μ', hao, q3, r1, r2, r3, d1, d3, d4, d5, d7, g3.own_size, g1, ?_, ?_⟩
 ·rw [hd]
  show (a.tmps.setIfInBounds tF V).getD tF undef = V
  simp only [Array.getD_eq_getD_getElem?, Array.getElem?_setIfInBounds]
  simp [hlt]
 ·rw [eqS]
  refine ⟨st.size, st.closed, by rw [Adw]; exact st.tsz, by rw [Acc]; exact st.dfs, μ', tsS.put tF (.map (some 0)), hh, μ'.le_refl, g2, g3.ahead cc el, ?_, ?_, ?_⟩
  ·have := Ace g4 (v := .map (some 0)) (v' := V) (.top V d8) (d := o.dst) (by rw [st.tsz]; exact k.dok)
   rw [hd] at this ⊢
   exact this
  ·intro j oj rj t hxt hj hrj hl hdj
   rw [Aay _ _ (fun he => hxt (by rw [he]))]
   exact g5 j oj rj t (by simp) hj hrj hl hdj
  ·intro t hxt hno'
   rw [Aay _ _ (fun he => hxt (by rw [he]))]
   exact g6 t (by simp) hno'
theorem Aiz {ro : Option Nat} {F : Nat} (S : Acq tbl l E n F) (hnn : n = ops.size) (hops : ∀ (i : Nat) (o : Oper), ops[i]? = some o -> ∃ ao, l[i]? = some ao /\ Afz P N ops o ao) (hE : ∀ i o, ops[i]? = some o -> E i = Ack o) (tr : Aer cf l ts h recs hs ts' h')
  (hck : Ac2 (h :: hs) recs ((List.range n).map (Acw tbl (Af1 l))) = true) (hc : ∀ B, Acj P cf B w0) (hQ : ∀ a' w', Arc P μ N ds ts' h' B w0 a' w' -> Q .normal a' w') :
  ∀ (fuel : Nat) (listed : Array Bool) (a : Act) (w : World), (Ag8 P B w0 N l E n recs (h :: hs) ts μ ds none listed a w /\ (F < n -> listed.getD F false = true -> ∀ e, e < F -> Aat l e = true -> listed.getD e false = true)) \/
   (F < n /\ (∃ e, e < F /\ Aat l e = true /\ listed.getD e false = false) /\ Ai4 P B w0 N l E n F recs (h :: hs) ts μ ds listed a w) ->
   (List.range n).countP (fun e => !listed.getD e false) <= fuel -> wpAnyIn (FW ro) 0 P .any ops Q fuel listed a w := by
 have done : ∀ (listed : Array Bool) (a : Act) (w : World), Ag8 P B w0 N l E n recs (h :: hs) ts μ ds none listed a w -> (∀ i, i < ops.size -> listed.getD i false = true) -> Q .normal a w := by
  intro listed a w st hall
  obtain ⟨μ', tsS, hh, h1, h2, h3, h4, h5, h6⟩ := st.st
  refine hQ a w ⟨st.tsz, st.dfs, μ', h1, ?_, ?_⟩
  ·have : (List.range n).countP (fun e => Aat l e && listed.getD e false) = cE l l.length := by
    unfold cE
    rw [S.len]
    refine List.countP_congr (fun e he => ?_)
    rw [hall e (by rw [<- hnn]; exact List.mem_range.1 he)]
    simp
   rw [this, tr.last] at h2
   simp only [Option.some.injEq] at h2
   rw [h2]; exact h3
  ·intro t
   have hl : Aax ts' t = Aax tsS t := by
    by_cases hw : ∃ (j : Nat) (oj : Aah), l[j]? = some oj /\ oj.dst = some t
    ·obtain ⟨j, oj, hj, hd⟩ := hw
     obtain ⟨rj, hrj, _⟩ := tr.step j oj hj
     have hjn : j < n := by rw [<- S.len]; exact (List.getElem?_eq_some_iff.1 hj).1
     rw [h5 j oj rj t (by simp) hj hrj (hall j (by omega)) hd]
     exact tr.new' j oj rj t hj hrj hd (fun j' o' hlt hj' hd' => by have := S.dst j' j o' oj t hj' hj hd' hd; omega)
    ·rw [h6 t (by simp) (fun j' o' hj' _ hd' => hw ⟨j', o', hj', hd'⟩)]
     exact tr.old' t (fun j' o' hj' hd' => hw ⟨j', o', hj', hd'⟩)
   rw [hl]; exact h4 t
 have hlt : ∀ i, i < ops.size -> ∀ e ∈ E i, e < i := fun i hi => S.lt i (by omega)
 have ancLe : ∀ x y, x < n -> anc tbl x y = true -> y <= x := by
  intro x y hx hxy
  exact S.ancE x y hxy (fun z => z <= x) (fun a b ha hb => by
   have := S.lt a (by omega) b hb; omega) (Nat.le_refl _)
 intro fuel
 induction fuel with
 | zero =>
  intro listed a w st hf
  have hall : ∀ i, i < n -> listed.getD i false = true := by
   intro i hi
   cases hq : listed.getD i false with
   | true => rfl
   | false =>
    have : 0 < (List.range n).countP (fun e => !listed.getD e false) := List.countP_pos_iff.2 ⟨i, List.mem_range.2 hi, by simp [hq]⟩
    omega
  rcases st with ⟨st, _⟩ | ⟨hF, ⟨e, e1, _, e3⟩, _⟩
  ·refine ⟨?_, done listed a w st (fun i hi => hall i (by omega))⟩
   apply List.eq_nil_iff_forall_not_mem.2
   intro i hm
   obtain ⟨h1, h2, _⟩ := Ahy hm
   have := hall i (by omega)
   have hi' : i < listed.size := by rw [st.size]; omega
   simp only [Array.getD_eq_getD_getElem?, Array.getElem?_eq_getElem hi', Option.getD_some] at this h2
   rw [this] at h2; cases h2
  ·rw [hall e (by omega)] at e3; cases e3
 | succ fuel ih =>
  intro listed a w st hf
  have hsize : listed.size = n := by
   rcases st with ⟨st, _⟩ | ⟨_, _, st⟩
   ·exact st.size
   ·obtain ⟨c, cc, el, V, k, tF, rF, ha, oF, μ1, p1, p2, p3, p4, p5, p6, p7, p8, p9, p10, p11, p12, p13, st⟩ := st.st
    have := st.size; simpa using this
  refine ⟨fun hnil => ?_, fun i hm => ?_⟩
  ·have hall := Akr (by rw [hsize, hnn]) hE hlt hnil
   rcases st with ⟨st, _⟩ | ⟨hF, ⟨e, e1, _, e3⟩, _⟩
   ·exact done listed a w st hall
   ·rw [hall e (by omega)] at e3; cases e3
  obtain ⟨h1, h2, h3⟩ := Ahy hm
  have hi : i < n := by omega
  have hisz : i < listed.size := by rw [hsize]; exact hi
  have hno : listed.getD i false = false := by
   simp only [Array.getD_eq_getD_getElem?, Array.getElem?_eq_getElem hisz, Option.getD_some] at h2 ⊢
   exact h2
  have ho : ops[i]? = some ops[i] := Array.getElem?_eq_getElem h1
  obtain ⟨ao, hao, k⟩ := hops i _ ho
  have hrd : ∀ j ∈ E i, listed.getD j false = true := by
   intro j hj
   rw [hE i _ ho] at hj
   simp only [Ack, List.mem_map, List.mem_filter] at hj
   obtain ⟨e, ⟨e1, e2⟩, rfl⟩ := hj
   exact h3 _ ho e (by simpa using e1) e2
  have hcnt : (List.range n).countP (fun e => !(listed.setIfInBounds i true).getD e false) <= fuel := by
   have := Ahp (fun e => !listed.getD e false) (fun e => !(listed.setIfInBounds i true).getD e false) (List.range n) (fun e _ he => by
    rw [Ab7 hisz] at he
    simp only [Bool.not_or, Bool.and_eq_true] at he
    exact he.2) ⟨i, List.mem_range.2 hi, by simp [hno], by rw [Ab7 hisz]; simp⟩
   omega
  have hE' : Aat l i = isE ao.op := by simp [Aat, hao]
  rcases st with ⟨st, nf⟩ | ⟨hF, mis, p⟩
  ·-- what must have run, must not have
   have ancIn : ∀ j, anc tbl i j = true -> listed.getD j false = true \/ j = i := fun j hj => S.ancE i j hj (fun x => listed.getD x false = true \/ x = i) (fun x y hx hy => by
    rcases hx with hx | rfl
    ·exact .inl (st.closed x y hx hy)
    ·exact .inl (hrd y hy)) (.inr rfl)
   have ancOut : ∀ j, anc tbl j i = true -> listed.getD j false = true -> False := fun j hji hl => by
    have := S.ancE j i hji (fun x => listed.getD x false = true) (fun x y hx hy => st.closed x y hx hy) hl
    rw [hno] at this; cases this
   by_cases hearly : i = F /\ ∃ e, e < F /\ Aat l e = true /\ listed.getD e false = false
   ·obtain ⟨rfl, e, e1, e2, e3⟩ := hearly
    refine Alb S hi tr st hno hrd ho hao k (fun a' w' p => ih _ _ _ (.inr ⟨hi, ⟨e, e1, e2, ?_⟩, p⟩) hcnt)
    rw [Ab7 hisz, e3]; simp; omega
   ·refine Aiu S tr hck (hc B) st hi hno hrd ho hao k (fun t ht => by cases ht) (fun he e hen hq hei => ?_) (fun a' w' st' _ => ih _ _ _ (.inl ⟨st', fun hF hl e heF hq => ?_⟩) hcnt)
    ·rcases S.ef i e hi hen (by rw [hE', he]) hq with hx | hx | hx | hx | hx
     ·exact absurd hx.symm hei
     ·have h1 := (ancIn e hx).resolve_right hei
      have h2 := ancLe i e hi hx
      exact ⟨fun _ => by omega, fun _ => h1⟩
     ·have h2 := ancLe e i hen hx
      exact ⟨fun hl => (ancOut e hx hl).elim, fun hlt => by omega⟩
     ·refine ⟨fun _ => by omega, fun _ => ?_⟩
      cases hl : listed.getD e false with
      | true => rfl
      | false => exact (hearly ⟨hx.1, e, hx.2, hq, hl⟩).elim
     ·refine ⟨fun hl => ?_, fun hlt => by omega⟩
      have := nf (by omega) (by rw [<- hx.1]; exact hl) i hx.2 (by rw [hE', he])
      rw [hno] at this; cases this
    ·rw [Ab7 hisz] at hl ⊢
     simp only [Bool.or_eq_true, decide_eq_true_eq] at hl ⊢
     by_cases hFi : F = i
     ·right
      cases hl2 : listed.getD e false with
      | true => rfl
      | false => exact (hearly ⟨hFi.symm, e, heF, hq, hl2⟩).elim
     ·exact .inr (nf hF (hl.resolve_left hFi) e heF hq)
  ·-- one is ahead of its place
   have hiF : i ≠ F := fun he => by subst he; rw [p.lf] at hno; cases hno
   obtain ⟨c, cc, el, V, kb, tF, rF, ha, oF, μ1, p1, p2, p3, p4, p5, p6, p7, p8, p9, p10, p11, p12, p13, st⟩ := p.st
   have hszF : F < listed.size := by rw [hsize]; exact hF
   have gd := fun j => Af0 (j := j) hszF
   obtain ⟨e0, m1, m2, m3⟩ := mis
   have closed : ∀ x y, listed.getD x false = true -> y ∈ E x -> listed.getD y false = true := fun x y hx hy => by
    by_cases hxF : x = F
    ·subst hxF; exact p.clF y hy
    ·have := st.closed x y (by rw [gd, hx]; simp [hxF]) hy
     rw [gd, Bool.and_eq_true] at this; exact this.2
   have ancIn : ∀ j, anc tbl i j = true -> listed.getD j false = true \/ j = i := fun j hj => S.ancE i j hj (fun x => listed.getD x false = true \/ x = i) (fun x y hx hy => by
    rcases hx with hx | rfl
    ·exact .inl (closed x y hx hy)
    ·exact .inl (hrd y hy)) (.inr rfl)
   have ancOut : ∀ j, anc tbl j i = true -> listed.getD j false = true -> False := fun j hji hl => by
    have := S.ancE j i hji (fun x => listed.getD x false = true) (fun x y hx hy => closed x y hx hy) hl
    rw [hno] at this; cases this
   have notBeh : ¬ (anc tbl i F = true \/ F ∈ E i) := fun hb => by
    have h0 := S.beh oF p1 i hi hb e0 m1 m2
    rcases ancIn e0 h0 with hl | hl
    ·rw [hl] at m3; cases m3
    ·subst hl
     rcases hb with hb | hb
     ·have := ancLe e0 F hi hb; omega
     ·have := S.lt e0 hi F hb; omega
   have hno' : (listed.setIfInBounds F false).getD i false = false := by rw [gd, hno]; simp
   have hrd' : ∀ j ∈ E i, (listed.setIfInBounds F false).getD j false = true := fun j hj => by
    rw [gd, hrd j hj]
    have : j ≠ F := fun he => notBeh (.inr (by rw [<- he]; exact hj))
    simp [this]
   have comm : (listed.setIfInBounds F false).setIfInBounds i true = (listed.setIfInBounds i true).setIfInBounds F false := Array.setIfInBounds_comm _ _ (Ne.symm hiF)
   have hx : ∀ t, some tF = some t -> t ∉ reads ao /\ ao.dst ≠ some t := fun t ht => by
    cases ht
    refine ⟨fun hr => ?_, fun hd => hiF (S.dst i F ao oF tF hao p1 hd p2)⟩
    rcases S.rd i F ao oF tF hao p1 p2 hr with hx | hx | hx
    ·exact hiF hx
    ·exact notBeh (.inl hx)
    ·exact ancOut F hx p.lf
   refine Aiu S tr hck (hc _) st hi hno' hrd' ho hao k hx (fun he e hen hq hei => ?_) (fun a' w' st' hV => ?_)
   ·rw [gd]
    rcases S.ef i e hi hen (by rw [hE', he]) hq with hx | hx | hx | hx | hx
    ·exact absurd hx.symm hei
    ·have g1 := (ancIn e hx).resolve_right hei
     have g2 := ancLe i e hi hx
     have g3 : e ≠ F := fun heF => notBeh (.inl (by rw [<- heF]; exact hx))
     rw [g1]; simp [g3]; omega
    ·have g2 := ancLe e i hen hx
     have g3 : listed.getD e false = false := by
      cases hl : listed.getD e false with
      | false => rfl
      | true => exact (ancOut e hx hl).elim
     rw [g3]; simp; omega
    ·exact absurd hx.1 hiF
    ·rw [hx.1]; simp; omega
   ·rw [comm] at st'
    have p' : Ai4 P B w0 N l E n F recs (h :: hs) ts μ ds (listed.setIfInBounds i true) a' w' :=
     ⟨by rw [Ab7 hisz, p.lf]; simp, fun j hj => by rw [Ab7 hisz, p.clF j hj]; simp, c, cc, el, V, kb, tF, rF, ha, oF, μ1, p1, p2, p3, p4, p5, p6, p7, p8, p9, p10, p11, p12, by rw [hV tF rfl]; exact p13, st'⟩
    by_cases hmis : ∃ e, e < F /\ Aat l e = true /\ (listed.setIfInBounds i true).getD e false = false
    ·exact ih _ _ _ (.inr ⟨hF, hmis, p'⟩) hcnt
    ·have hall : ∀ e, e < F -> Aat l e = true -> (listed.setIfInBounds i true).getD e false = true := fun e he hq => by
      cases hl : (listed.setIfInBounds i true).getD e false with
      | true => rfl
      | false => exact (hmis ⟨e, he, hq, hl⟩).elim
     exact ih _ _ _ (.inl ⟨Ahj S hF p' hall, fun _ _ => hall⟩) hcnt
end
def Aj0 : Aa6 -> Exit
 | .normal => .normal
 | .exit id => .exit id
 | .ret => .ret
theorem Ad0 {F : Fence} {n0 : Nat} {P : Program} {c : Code} {Q : Exit -> Act -> World -> Prop} (I : Nat -> Act -> World -> Prop) (round : ∀ n a w, I n a w -> c.wpIn F n0 P (Exit.then (fun a' w' => ∃ m, m < n /\ I m a' w') Q) a w) :
  ∀ n a w, I n a w -> (Code.loop c).wpIn F n0 P Q a w := by
 intro n a w h₀ b k cs hro hb hr
 have key : ∀ n a w, I n a w -> ∃ e a' w', Q e a' w' /\ ArrivesIn (Machine.fenced P F) P (lone (b.atR a (.code c :: .inLoop c :: k)) cs w) b k cs e a' w' := by
  intro n
  induction n using Nat.strongRecOn with
  | _ n ih =>
   intro a w hI
   obtain ⟨e, a₁, w₁, hq, harr⟩ := round n a w hI b (.inLoop c :: k) cs hro hb hr
   cases e with
   | normal =>
    obtain ⟨m, hlt, hI₁⟩ := hq
    obtain ⟨e₂, a₂, w₂, hq₂, harr₂⟩ := ih m hlt a₁ w₁ hI₁
    exact ⟨e₂, a₂, w₂, hq₂, .of_steps (StepsIn.trans harr (.one (fenced_calm hb hr rfl) stepR_inLoop)) harr₂⟩
   | exit id => exact ⟨_, a₁, w₁, hq, .pass (x := .inLoop c) rfl (fun _ _ => .inl (by simp)) harr⟩
   | goto l => exact ⟨_, a₁, w₁, hq, .pass (x := .inLoop c) rfl (fun _ _ => .inl (by simp)) harr⟩
   | ret => exact ⟨_, a₁, w₁, hq, .pass (x := .inLoop c) rfl (fun _ _ => .inl (by simp)) harr⟩
   | panic ch => exact ⟨_, a₁, w₁, hq, .pass (x := .inLoop c) rfl (fun _ _ => .inl (by simp)) harr⟩
   | outgrown => exact ⟨_, a₁, w₁, hq, .pass (x := .inLoop c) rfl (fun _ _ => .inl (by simp)) harr⟩
 obtain ⟨e, a', w', hq, harr⟩ := key n a w h₀
 exact ⟨e, a', w', hq, .of_steps (.one (fenced_calm hb hr rfl) stepR_loop) harr⟩
def Abk (P : Program) (tab : Nat -> Option Aac) : Prop := ∀ f af, tab f = some af -> Aag P f = some af
def Ajt (P : Program) (μ : Map) (N : Nat) (M0 : List Nat) (ts' : T Value) (h' : Aaa) (B : Fr) (w0 : World) (a' : Act) (w' : World) : Prop :=
 a'.tmps.size = N /\ ∃ μ', μ.le μ' /\ Rel (Cc P) μ' h' B w0 w' /\ Aap μ' ts' a' /\ Mk μ' M0 h' a'
def Aed (P : Program) (μ : Map) (N : Nat) (M0 : List Nat) (e : Aa6) (ts' : T Value) (h' : Aaa) (B : Fr) (w0 : World) : Exit -> Act -> World -> Prop :=
 fun x a' w' => x = Aj0 e /\ Ajt P μ N M0 ts' h' B w0 a' w'
theorem Ajt.le {P : Program} {μ μ' : Map} {N : Nat} {M0 : List Nat} {ts' : T Value} {h' : Aaa} {B : Fr} {w0 : World} {a' : Act} {w' : World} (hle : μ.le μ') (p : Ajt P μ' N M0 ts' h' B w0 a' w') : Ajt P μ N M0 ts' h' B w0 a' w' :=
 let ⟨p1, μ2, p3, p4, p5, p6⟩ := p
 ⟨p1, μ2, hle.trans p3, p4, p5, p6⟩
theorem Arc.x {P : Program} {μ : Map} {N : Nat} {M0 : List Nat} {ts' : T Value} {h h' : Aaa} {B : Fr} {w0 w : World} {a a' : Act} {w' : World} (p : Arc P μ N a.defers ts' h' B w0 a' w') (R : Rel (Cc P) μ h B w0 w) (k : Mk μ M0 h a) (hm : h'.mq = h.mq) : Ajt P μ N M0 ts' h' B w0 a' w' :=
 let ⟨p1, p2, μ2, p3, p4, p5⟩ := p
 ⟨p1, μ2, p3, p4, p5, k.step R p3 hm p2⟩
theorem Akh {C : Af2} {P : Program} {μ : Map} {h h' : Aaa} {B : Fr} {w0 w : World} (R : Rel C μ h B w0 w) {b : Nat} {ts ts' : T Value} {e : Aa6} {E : Ent} (he : μ b = some E) (hv : Ass b ts h = some (e, ts', h')) :
  ts' = ts /\ ∃ jump w', (Instr.endLoop E.blk).run P w = .ok jump w' /\ Rel C μ h' B w0 w' /\ h'.mq = h.mq /\ ((jump = none /\ e = .normal) \/ (jump = some .ret /\ e = .ret) \/ ∃ id, jump = some (.exit id) /\ e = .exit id) := by
 unfold Ass at hv
 split at hv
 ·rename_i k hk
  obtain ⟨e', he', old, r, h1, h2, h3, h4⟩ := R.aux.loop b k hk
  rw [he] at he'; cases he'
  rcases Aan k.st 1 with ⟨b1, b2⟩ | ⟨b1, b2⟩
  ·rw [b1] at hv; cases hv
  ·rw [b1] at hv; simp only [cond_false] at hv
   have hnb : r.state ≠ .busy := by
    rw [h2]; intro hc
    match hs : k.st, hc with
    | 0, hc => simp [stX] at hc
    | 1, _ => exact b2 hs
    | 2, hc => simp [stX] at hc
    | _ + 3, hc => simp [stX] at hc
   have hend := run_endLoop (P := P) h1 hnb
   have R' := R.setSt hk he h1 (st := 3) (pend := k.pend) (S := .exhausted) (Pn := r.pending) rfl h3 (List.Sublist.refl _)
   split at hv
   ·rename_i hp
    simp only [Option.some.injEq, Prod.mk.injEq] at hv; obtain ⟨rfl, rfl, rfl⟩ := hv
    exact ⟨rfl, r.pending, _, hend, R', rfl, .inl ⟨by rw [h3, hp]; rfl, rfl⟩⟩
   ·cases hv
   ·rename_i x hx hp
    simp only [Option.some.injEq, Prod.mk.injEq] at hv; obtain ⟨rfl, rfl, rfl⟩ := hv
    refine ⟨rfl, r.pending, _, hend, R', rfl, .inr ?_⟩
    cases x with
    | normal => exact absurd rfl hx
    | ret => exact .inl ⟨by rw [h3, hp]; rfl, rfl⟩
    | exit id => exact .inr ⟨id, by rw [h3, hp]; rfl, rfl⟩
 ·cases hv
theorem Aic {P : Program} {mm : Agw} {tab : Nat -> Option Aac} {B : Fr} {w0 : World} {m N : Nat} (hcm : Acj P (Abg mm tab (Aek mm tab m)) B w0) {g : Operand} {ps : Array Tmp} {asg body : Code} {ro l : Option Nat} {ts ts' : T Value} {h h' : Aaa} {e : Aa6} {μ : Map} {M0 : List Nat} {a : Act} {w : World}
  (hv : Aek mm tab (m + 1) ro (Aaf P N (.rangeFunc g ps asg body)) ts h = some (e, ts', h')) (R : Rel (Cc P) μ h B w0 w) (r : Aap μ ts a) (hN : a.tmps.size = N) (hro : Aij μ ro l) (hk : Mk μ M0 h a) :
  (Code.rangeFunc g ps asg body).wpIn (FW l) 0 P (Aed P μ N M0 e ts' h' B w0) a w := by
 simp only [Aaf] at hv
 split at hv
 ·rename_i g' hg
  cases hps : ps.toList.all (Nat.blt · N) with
  | false => rw [hps] at hv; simp [Aaz, Ac3] at hv
  | true =>
   rw [hps] at hv; simp only [cond_true, Aaz, Ac3] at hv
   have hr := Aab r hg
   split at hv
   ·rename_i f fs cs hfn
    rw [hfn] at hr
    split at hv
    ·rename_i b h1 hen
     split at hv
     ·rename_i u h2 hcl
      obtain ⟨g1, g2⟩ := hcm.fn f _ h1 u h2 hcl
      have hX : ∃ fs' cs' : Array Value, a.eval g = .func (.func f) fs' cs' /\ Aam μ fs.toList fs'.toList /\ Aam μ cs.toList cs'.toList := by
       generalize a.eval g = X at hr
       cases hr with
       | same _ hp => simp [Aa9] at hp
       | func _ _ fs' _ cs' q0 q1 q2 q3 q4 => exact ⟨fs', cs', rfl, ⟨q1, q2⟩, ⟨q3, q4⟩⟩
      obtain ⟨fs', cs', hX, k1, k2⟩ := hX
      refine wpIn_rangeFunc (fun fn _ => ?_)
      obtain ⟨μ1, E, mark, w1, en1, en2, en3, en4, en5⟩ := Ahd (P := P) R hro hen (a := a) (ps := ps) (assign := asg) (body := body) rfl rfl r hN rfl rfl rfl fn
      have hy : Aa3 μ1 (.func (.yield b) #[] #[]) (.func (.yield E.blk) #[] #[]) := .yield b E en3
      have g3 := g2 μ1 w1 (fs'.toList ++ [.func (.yield E.blk) #[] #[]] ++ cs'.toList) en4 (((k1.mono en2).append (.single hy)).append (k2.mono en2))
      have e1 : (fs'.toList ++ [Value.func (.yield E.blk) #[] #[]] ++ cs'.toList).toArray = fs' ++ (#[.func (.yield E.blk) #[] #[]] ++ cs') := by apply Array.ext'; simp
      rw [e1] at g3
      have hinv := Aco g1 (fs' ++ (#[.func (.yield E.blk) #[] #[]] ++ cs')) w1
      refine ⟨E.blk, mark, w1, { target := .fn (.func f) cs', args := fs' ++ #[.func (.yield E.blk) #[] #[]] }, w1, f, fs' ++ (#[.func (.yield E.blk) #[] #[]] ++ cs'), w1, en1, ?_, ?_, ?_, Aea, ?_⟩
      ·simp [resolve, hX, Deferred.ofValue, show ∀ v, a.eval (.const v) = v from fun _ => rfl]
      ·intro _ _; trivial
      ·rw [<- Array.append_assoc] at hinv ⊢
       simpa only [invoke] using hinv
      ·refine Adx (g3.mono ?_)
       rintro x w' ⟨μ2, v', rfl, q1, q2, _⟩
       obtain ⟨rfl, jump, w'', j1, j2, j3, j4⟩ := Akh (P := P) q2 (q1 _ _ en3) hv
       have hm2 : h2.mq = h1.mq := hcm.mq _ _ _ _ _ hcl
       have hk2 : Mk μ2 M0 h' { a with defers := mark ++ a.defers } := (en5 M0 hk).step en4 q1 (by rw [j3, hm2]) rfl
       have hp : Ajt P μ N M0 ts' h' B w0 { a with defers := mark ++ a.defers } w'' := ⟨hN, μ2, en2.trans q1, j2, r.mono (en2.trans q1), hk2⟩
       refine ⟨jump, w'', j1, ?_⟩
       rcases j4 with ⟨rfl, rfl⟩ | ⟨rfl, rfl⟩ | ⟨id, rfl, rfl⟩
       ·exact ⟨rfl, hp⟩
       ·exact wpIn_ret ⟨rfl, hp⟩
       ·exact wpIn_exit ⟨rfl, hp⟩
     ·cases hv
    ·cases hv
   ·cases hv
 ·simp [Aaz, Ac3] at hv
theorem Adt {P : Program} {mm : Agw} {tab : Nat -> Option Aac} {B : Fr} {w0 : World} (n : Nat) (hcall : ∀ m, m < n -> ∀ B, Acj P (Abg mm tab (Aek mm tab m)) B w0) :
  ∀ m, m <= n -> ∀ (N : Nat) (c : Code) (ro l : Option Nat) (ts ts' : T Value) (h h' : Aaa) (e : Aa6) (μ : Map) (M0 : List Nat) (a : Act) (w : World), Aek mm tab m ro (Aaf P N c) ts h = some (e, ts', h') -> Rel (Cc P) μ h B w0 w -> Aap μ ts a -> a.tmps.size = N ->
   Aij μ ro l -> Mk μ M0 h a -> c.wpIn (FW l) 0 P (Aed P μ N M0 e ts' h' B w0) a w := by
 intro m0
 induction m0 using Nat.strongRecOn with
 | _ m0 ih0 =>
 cases m0 with
 | zero => intro _ N c ro l ts ts' h h' e μ M0 a w hv; simp [Ahi] at hv
 | succ m =>
  intro hm N c
  have ih := ih0 m (by omega) (by omega)
  have hcm := hcall m (by omega)
  cases c with
  | skip =>
   intro ro l ts ts' h h' e μ M0 a w hv R r hN hro hk
   simp only [Aaf, Aaz, Ac3, Option.some.injEq, Prod.mk.injEq] at hv
   obtain ⟨rfl, rfl, rfl⟩ := hv
   exact wpIn_skip ⟨rfl, hN, μ, μ.le_refl, R, r, hk⟩
  | ret =>
   intro ro l ts ts' h h' e μ M0 a w hv R r hN hro hk
   simp only [Aaf, Aaz, Ac3, Option.some.injEq, Prod.mk.injEq] at hv
   obtain ⟨rfl, rfl, rfl⟩ := hv
   exact wpIn_ret ⟨rfl, hN, μ, μ.le_refl, R, r, hk⟩
  | exit id =>
   intro ro l ts ts' h h' e μ M0 a w hv R r hN hro hk
   simp only [Aaf, Aaz, Ac3, Option.some.injEq, Prod.mk.injEq] at hv
   obtain ⟨rfl, rfl, rfl⟩ := hv
   exact wpIn_exit ⟨rfl, hN, μ, μ.le_refl, R, r, hk⟩
  | region id ops d =>
   intro ro l ts ts' h h' e μ M0 a w hv R r hN hro hk
   cases d with
   | false =>
    simp only [Aaf] at hv
    split at hv
    ·rename_i l hl
     simp only [Aaz, Ac3] at hv
     split at hv
     ·rename_i t2 h2 hr
      simp only [Option.some.injEq, Prod.mk.injEq] at hv
      obtain ⟨rfl, rfl, rfl⟩ := hv
      exact wpIn_region_list (Ah1 (hcm B) ops.toList l hl μ h h2 ts t2 a w R r hN hr (fun a' w' hp => ⟨rfl, hp.x R hk (Adn (hcm B).mq _ _ _ _ _ hr)⟩))
     ·cases hv
    ·simp [Aaz, Ac3] at hv
   | true =>
    simp only [Aaf] at hv
    split at hv
    ·rename_i l hl
     cases hok : (P.follows .mixedOrders && Adh (Aef [] (ops.toList.map Ack)) l (ops.toList.map Ack)) with
     | false => rw [hok] at hv; simp [Aaz, Ac3] at hv
     | true =>
      rw [hok] at hv; simp only [cond_true, Aaz, Ac3] at hv
      simp only [Bool.and_eq_true] at hok
      split at hv
      ·rename_i t2 h2 hr
       simp only [Option.some.injEq, Prod.mk.injEq] at hv
       obtain ⟨rfl, rfl, rfl⟩ := hv
       obtain ⟨recs, hs, htr, hck⟩ := Af9 hr
       obtain ⟨hlen, hops⟩ := Ada (P := P) (N := N) (ops := ops) ops.toList l hl
       have S := Acq.of hok.2 rfl
       have tr := Ai9 _ _ _ _ _ _ _ _ htr
       refine wpIn_region_any hok.1 ?_
       refine Aiz (Q := Aed P μ N M0 .normal t2 h2 B w0) (μ := μ) (ds := a.defers) S (by rw [hlen]; simp) (fun i o ho => hops i o (by simpa using ho)) (fun i o ho => ?_) tr hck hcm (fun a' w' hp => ⟨rfl, hp.x R hk (Acr (hcm B).mq _ _ _ _ _ _ _ htr)⟩) ops.size _ a _ ?_ ?_
       ·have : ops.toList[i]? = some o := by simpa using ho
        simp [this]
       ·refine .inl ⟨⟨by rw [hlen]; simp, ?_, hN, rfl, μ, ts, h, μ.le_refl, ?_, R.drew, r, ?_, fun t _ _ => rfl⟩, fun _ hq => ?_⟩
        ·intro i j hi
         simp only [Array.getD_eq_getD_getElem?, Array.getElem?_replicate] at hi
         split at hi <;> simp at hi
        ·have : (List.range l.length).countP (fun e => Aat l e && (Array.replicate ops.size false).getD e false) = 0 := by
          apply List.countP_eq_zero.2
          intro e _
          simp only [Array.getD_eq_getD_getElem?, Array.getElem?_replicate]
          split <;> simp
         rw [this]; rfl
        ·intro j o rj t _ _ _ hl'
         simp only [Array.getD_eq_getD_getElem?, Array.getElem?_replicate] at hl'
         split at hl' <;> simp at hl'
        ·simp only [Array.getD_eq_getD_getElem?, Array.getElem?_replicate] at hq
         split at hq <;> simp at hq
       ·refine Nat.le_trans List.countP_le_length ?_
        rw [List.length_range, hlen]; simp
      ·cases hv
    ·simp [Aaz, Ac3] at hv
  | seq x y =>
   intro ro l ts ts' h h' e μ M0 a w hv R r hN hro hk
   simp only [Aaf, Aaz, Ac3] at hv
   refine wpIn_seq ?_
   split at hv
   ·rename_i t2 h2 hx
    refine wpIn_mono (ih N x ro l ts t2 h h2 .normal μ M0 a w hx R r hN hro hk) ?_
    rintro e1 a1 w1 ⟨rfl, p1, μ2, p3, p4, p5, p6⟩
    simp only [Aj0, Exit.then]
    have := ih N y ro l t2 ts' h2 h' e μ2 M0 a1 w1 hv p4 p5 p1 (hro.mono p3) p6
    refine wpIn_mono this ?_
    rintro e2 a2 w2 ⟨q1, q2⟩
    exact ⟨q1, q2.le p3⟩
   ·rename_i hnn
    have hx : Aek mm tab m ro (Aaf P N x) ts h = some (e, ts', h') := hv
    refine wpIn_mono (ih N x ro l ts ts' h h' e μ M0 a w hx R r hN hro hk) ?_
    rintro e1 a1 w1 ⟨rfl, hp⟩
    cases e with
    | normal => exact (hnn _ _ hx).elim
    | exit id => exact ⟨rfl, hp⟩
    | ret => exact ⟨rfl, hp⟩
  | cond c x y =>
   intro ro l ts ts' h h' e μ M0 a w hv R r hN hro hk
   simp only [Aaf] at hv
   split at hv
   ·rename_i c' hcc
    simp only [Aaz, Ac3] at hv
    have hr := Aab r hcc
    split at hv
    ·rename_i hb
     rw [hb] at hr
     exact wpIn_cond_true hr.bool (ih N x ro l ts ts' h h' e μ M0 a w hv R r hN hro hk)
    ·rename_i hb
     rw [hb] at hr
     exact wpIn_cond_false hr.bool (ih N y ro l ts ts' h h' e μ M0 a w hv R r hN hro hk)
    ·cases hv
   ·simp [Aaz, Ac3] at hv
  | block id x =>
   intro ro l ts ts' h h' e μ M0 a w hv R r hN hro hk
   simp only [Aaf, Aaz, Ac3] at hv
   refine wpIn_block ?_
   split at hv
   ·rename_i id' t2 h2 hx
    refine wpIn_mono (ih N x ro l ts t2 h h2 (.exit id') μ M0 a w hx R r hN hro hk) ?_
    rintro e1 a1 w1 ⟨rfl, hp⟩
    simp only [Aj0, Exit.inBlock]
    rcases Aan id' id with ⟨b1, b2⟩ | ⟨b1, b2⟩
    ·rw [b1] at hv; simp only [cond_true, Option.some.injEq, Prod.mk.injEq] at hv
     obtain ⟨rfl, rfl, rfl⟩ := hv
     rw [if_pos b2]; exact ⟨rfl, hp⟩
    ·rw [b1] at hv; simp only [cond_false, Option.some.injEq, Prod.mk.injEq] at hv
     obtain ⟨rfl, rfl, rfl⟩ := hv
     rw [if_neg b2]; exact ⟨rfl, hp⟩
   ·rename_i hnn
    have hx : Aek mm tab m ro (Aaf P N x) ts h = some (e, ts', h') := hv
    refine wpIn_mono (ih N x ro l ts ts' h h' e μ M0 a w hx R r hN hro hk) ?_
    rintro e1 a1 w1 ⟨rfl, hp⟩
    cases e with
    | normal => exact ⟨rfl, hp⟩
    | exit id' => exact (hnn _ _ _ hx).elim
    | ret => exact ⟨rfl, hp⟩
  | loop x =>
   intro ro l ts ts' h h' e μ M0 a w hv R r hN hro hk
   refine Ad0 (fun k a' w' => k <= m + 1 /\ a'.tmps.size = N /\ ∃ ts1 h1 μ1, μ.le μ1 /\ Rel (Cc P) μ1 h1 B w0 w' /\ Aap μ1 ts1 a' /\ Mk μ1 M0 h1 a' /\ Aek mm tab k ro (Aaf P N (.loop x)) ts1 h1 = some (e, ts', h')) ?_ (m + 1) a w ⟨Nat.le_refl _, hN, ts, h, μ, μ.le_refl, R, r, hk, hv⟩
   rintro k a1 w1 ⟨hk', hN1, ts1, h1, μ1, hle1, R1, r1, hk1, hv1⟩
   cases k with
   | zero => simp [Ahi] at hv1
   | succ k =>
    simp only [Aaf, Aaz, Ac3] at hv1
    have ihk := ih0 k (by omega) (by omega) N x ro l
    split at hv1
    ·rename_i t2 h2 hx
     refine wpIn_mono (ihk _ _ _ _ _ μ1 M0 a1 w1 hx R1 r1 hN1 (hro.mono hle1) hk1) ?_
     rintro e1 a2 w2 ⟨rfl, p1, μ2, p3, p4, p5, p6⟩
     exact ⟨k, by omega, by omega, p1, t2, h2, μ2, hle1.trans p3, p4, p5, p6, hv1⟩
    ·rename_i hnn
     refine wpIn_mono (ihk _ _ _ _ _ μ1 M0 a1 w1 hv1 R1 r1 hN1 (hro.mono hle1) hk1) ?_
     rintro e1 a2 w2 ⟨rfl, hp⟩
     cases e with
     | normal => exact (hnn _ _ hv1).elim
     | exit id => exact ⟨rfl, hp.le hle1⟩
     | ret => exact ⟨rfl, hp.le hle1⟩
  | rangeFunc g ps asg body =>
   intro ro l ts ts' h h' e μ M0 a w hv R r hN hro hk
   exact Aic (hcm B) hv R r hN hro hk
  | _ =>
   intro ro l ts ts' h h' e μ M0 a w hv
   simp [Aaf, Aaz, Ac3] at hv
theorem Adq : ∀ (l : List Value) (ts : T Value) (i t : Nat), Aax (Ab3 ts i l) t = if t < i then Aax ts t else if t < i + l.length then (l[t - i]?).getD undef else Aax ts t
 | [], ts, i, t => by simp [Ab3]; intro a b; omega
 | v :: l, ts, i, t => by
  simp only [Ab3]
  rw [Adq l _ (i + 1) t]
  by_cases h1 : t < i
  ·rw [if_pos (by omega), if_pos h1]; exact Aay _ _ (by omega)
  ·rw [if_neg h1]
   by_cases h2 : t = i
   ·subst h2
    rw [if_pos (by omega), if_pos (by simp)]; simp [Abc]
   ·rw [if_neg (by omega)]
    simp only [List.length_cons]
    by_cases h3 : t < i + 1 + l.length
    ·rw [if_pos h3, if_pos (by omega)]
     rw [show t - i = (t - (i + 1)) + 1 by omega, List.getElem?_cons_succ]
    ·rw [if_neg h3, if_neg (by omega)]; exact Aay _ _ h2
theorem Ad5 {P : Program} {w : World} {tmps : Array Value} : ∀ (rs : List ResultVar) (vs' : List Value), (∀ (i : Nat) (r : ResultVar), rs[i]? = some r -> ∃ v', vs'[i]? = some v' /\ (match r with
   | .tmp t => (pure (tmps.getD t undef) : Sem Value)
   | .cell a t => do loadVar t (<- asAddr (tmps.getD a undef))).run P w = .ok v' w) -> vs'.length = rs.length ->
  (rs.mapM (fun (r : ResultVar) => (match r with
   | .tmp t => (pure (tmps.getD t undef) : Sem Value)
   | .cell a t => do loadVar t (<- asAddr (tmps.getD a undef))))).run P w = .ok vs' w
 | [], vs', _, hl => by
  have : vs' = [] := List.eq_nil_of_length_eq_zero hl
  subst this; simp
 | r :: rs, vs', h, hl => by
  cases vs' with
  | nil => simp at hl
  | cons v' vs' =>
   obtain ⟨v'', h1, h2⟩ := h 0 r (by simp)
   simp only [List.getElem?_cons_zero, Option.some.injEq] at h1; subst h1
   have ih := Ad5 rs vs' (fun i r hi => by
    obtain ⟨x, x1, x2⟩ := h (i + 1) r (by simpa using hi)
    exact ⟨x, by simpa using x1, x2⟩) (by simpa using hl)
   simp only [List.mapM_cons, Sem.run_bind, h2, Result.andThen_ok, ih, Sem.run_pure]
theorem Aem {P : Program} {μ : Map} {h : Aaa} {B : Fr} {w0 w : World} {ts : T Value} {a : Act} (R : Rel (Cc P) μ h B w0 w) (r : Aap μ ts a) : ∀ (rs : List ResultVar) (res : List Al2) (vs : List Value), Afa P rs = some res -> Ab1 ts h res = some vs ->
  ∃ vs' : List Value, Aam μ vs vs' /\ vs'.length = rs.length /\ ∀ (i : Nat) (x : ResultVar), rs[i]? = some x -> ∃ v', vs'[i]? = some v' /\ (match x with
   | .tmp t => (pure (a.tmps.getD t undef) : Sem Value)
   | .cell a' t => do loadVar t (<- asAddr (a.tmps.getD a' undef))).run P w = .ok v' w
 | [], res, vs, h1, h2 => by
  simp only [Afa, Option.some.injEq] at h1; subst h1
  simp only [Ab1, Option.some.injEq] at h2; subst h2
  exact ⟨[], .nil μ, rfl, fun i x hx => by simp at hx⟩
 | x :: rs, res, vs, h1, h2 => by
  simp only [Afa] at h1
  split at h1
  ·rename_i y res2 hy hrs
   simp only [Option.some.injEq] at h1; subst h1
   simp only [Ab1] at h2
   split at h2
   ·rename_i v vs2 hv hvs
    simp only [Option.some.injEq] at h2; subst h2
    obtain ⟨vs', g1, g2, g3⟩ := Aem R r rs res2 vs2 hrs hvs
    have one : ∃ v', Aa3 μ v v' /\ (match x with
      | .tmp t => (pure (a.tmps.getD t undef) : Sem Value)
      | .cell a' t => do loadVar t (<- asAddr (a.tmps.getD a' undef))).run P w = .ok v' w := by
     cases x with
     | tmp t =>
      simp only [Agt, Option.some.injEq] at hy; subst hy
      simp only [Am6, Option.some.injEq] at hv; subst hv
      exact ⟨_, r t, rfl⟩
     | cell a' t =>
      have hr := r a'
      simp only [Agt] at hy
      split at hy
      ·rename_i q i hq hi
       simp only [Option.some.injEq] at hy; subst hy
       simp only [Am6] at hv
       split at hv
       ·rename_i b o' hb
        rw [hb] at hr
        obtain ⟨e, he, hX⟩ := hr.ptr_inv
        split at hv
        ·rename_i l hl
         simp only [Option.some.injEq] at hv; subst hv
         obtain ⟨l', k1, k2, k3⟩ := R.rds hl he
         have hload := run_loadCells_list (P := P) w ⟨e.blk, e.base + o', none⟩ l' k2
         rw [k1] at hload
         refine ⟨.agg l'.toArray, .agg _ _ (by simpa using k3.1) (by simpa using k3.2), ?_⟩
         simp [hX, asAddr, loadVar, Acv (.inl ⟨q, hq⟩), sizeOf, typeInfo, hi, hload]
        ·cases hv
       ·cases hv
      ·rename_i q q' i hq hi
       simp only [Option.some.injEq] at hy; subst hy
       simp only [Am6] at hv
       split at hv
       ·rename_i b o' hb
        rw [hb] at hr
        obtain ⟨e, he, hX⟩ := hr.ptr_inv
        split at hv
        ·rename_i l hl
         simp only [Option.some.injEq] at hv; subst hv
         obtain ⟨l', k1, k2, k3⟩ := R.rds hl he
         have hload := run_loadCells_list (P := P) w ⟨e.blk, e.base + o', none⟩ l' k2
         rw [k1] at hload
         refine ⟨.agg l'.toArray, .agg _ _ (by simpa using k3.1) (by simpa using k3.2), ?_⟩
         simp [hX, asAddr, loadVar, Acv (.inr ⟨q, q', hq⟩), sizeOf, typeInfo, hi, hload]
        ·cases hv
       ·cases hv
      ·rename_i d i hn1 hn2 hd hi
       simp only [Option.some.injEq] at hy; subst hy
       simp only [Am6] at hv
       split at hv
       ·rename_i b o' hb
        rw [hb] at hr
        obtain ⟨e, he, hX⟩ := hr.ptr_inv
        obtain ⟨v', k1, k2⟩ := R.rd hv he
        have hd1 : ∀ q, d ≠ .struct q := fun q hq => hn1 q (by rw [<- hq])
        have hd2 : ∀ q q', d ≠ .array q q' := fun q q' hq => hn2 q q' (by rw [<- hq])
        refine ⟨v', k2, ?_⟩
        have ha : (isAgg t).run P w = .ok false w := by
         unfold isAgg
         cases d <;> first | (exact absurd rfl (hd1 _)) | (exact absurd rfl (hd2 _ _)) | simp [run_underlying hd]
        simp [hX, asAddr, loadVar, ha, k1]
       ·cases hv
      ·cases hy
    obtain ⟨v', o1, o2⟩ := one
    refine ⟨v' :: vs', .cons o1 g1, by simp [g2], fun i z hz => ?_⟩
    cases i with
    | zero => simp only [List.getElem?_cons_zero, Option.some.injEq] at hz; subst hz; exact ⟨v', by simp, o2⟩
    | succ i => obtain ⟨q, q1, q2⟩ := g3 i z (by simpa using hz); exact ⟨q, by simpa using q1, q2⟩
   ·cases h2
  ·cases h1
theorem Ag1 {μ : Map} {vs vs' : List Value} (h : Aam μ vs vs') : Aa3 μ (Adj vs) (Adj vs') := by
 match vs, vs', h with
 | [v], [v'], h => exact h.2 0 v v' rfl rfl
 | [], [], h => exact .tuple _ _ (by simp) (fun i v v' a _ => by simp at a)
 | v :: u :: r, v' :: u' :: r', h => exact .tuple _ _ (by simpa using h.1) (by simpa using h.2)
 | [], _ :: _, h => simp [Aam] at h
 | _ :: _, [], h => simp [Aam] at h
 | [_], _ :: _ :: _, h => simp [Aam] at h
 | _ :: _ :: _, [_], h => simp [Aam] at h
theorem Ajb (vs : List Value) : (if h : vs.toArray.size = 1 then vs.toArray[0] else Value.tuple vs.toArray) = Adj vs := by
 match vs with
 | [v] => rfl
 | [] => rfl
 | v :: u :: r =>
  rw [dif_neg (by simp)]; rfl
theorem Ajo {ts : T Value} {h : Aaa} {M : List Nat} (x : Al2) : Am6 ts { h with mq := M } x = Am6 ts h x := by cases x <;> rfl
theorem Ado {ts : T Value} {h : Aaa} {M : List Nat} : ∀ (l : List Al2), Ab1 ts { h with mq := M } l = Ab1 ts h l
 | [] => rfl
 | x :: l => by simp only [Ab1, Ajo, Ado l]
theorem Af6 : ∀ (ps : List Nat) (vs' : List Value) (tmps : Array Value), ((ps.zip vs').foldl (fun (t : Array Value) (x : Tmp × Value) => t.setIfInBounds x.1 x.2) tmps).size = tmps.size
 | [], _, _ => rfl
 | _ :: _, [], _ => rfl
 | p :: ps, v :: vs', tmps => by simp only [List.zip_cons_cons, List.foldl_cons]; rw [Af6 ps vs']; simp
theorem Ag9 {μ : Map} : ∀ (ps : List Nat) (vs vs' : List Value) (ts : T Value) (tmps : Array Value), Aam μ vs vs' -> vs.length = ps.length -> ps.all (Nat.blt · tmps.size) = true -> Aap μ ts { tmps := tmps, defers := [] } ->
  Aap μ (Amv ts ps vs) { tmps := (ps.zip vs').foldl (fun (t : Array Value) (x : Tmp × Value) => t.setIfInBounds x.1 x.2) tmps, defers := [] }
 | [], vs, vs', ts, tmps, _, hl, _, r => by
  have : vs = [] := List.eq_nil_of_length_eq_zero hl
  subst this
  simpa [Amv] using r
 | p :: ps, [], _, _, _, _, hl, _, _ => by simp at hl
 | p :: ps, v :: vs, [], _, _, hv, _, _, _ => by simp [Aam] at hv
 | p :: ps, v :: vs, v' :: vs', ts, tmps, hv, hl, hp, r => by
  simp only [List.all_cons, Bool.and_eq_true] at hp
  have hd : Aho tmps.size (some p) = true := hp.1
  have h0 := Ace (a := { tmps := tmps, defers := [] }) r (hv.2 0 v v' rfl rfl) hd
  have := Ag9 ps vs vs' (Abr ts (some p) v) (tmps.setIfInBounds p v') ⟨by simpa using hv.1, fun i x x' a b => hv.2 (i + 1) x x' (by simpa using a) (by simpa using b)⟩ (by simpa using hl) (by simpa using hp.2) h0
  simpa only [List.zip_cons_cons, List.foldl_cons, Amv, Abr] using this
structure Af5 (P : Program) (f : Nat) (args : List Value) (h : Aaa) (v : Value) (h' : Aaa) : Prop where
 ok : Aoj P f
 mq : h'.mq = h.mq
 calls : ∀ B w0 μ w args', Rel (Cc P) μ h B w0 w -> Aam μ args args' -> Calls P f args'.toArray w (Ab5 P μ h' B w0 v)
def Ad1 (P : Program) (mm : Agw) : Prop := ∀ f args h v h', mm f args h = some (v, h') -> Af5 P f args h v h'
theorem Ank {P : Program} {mm : Agw} {tab : Nat -> Option Aac} {B : Fr} {w0 : World} (hT : Abk P tab) (hM : Ad1 P mm) (m : Nat) (ih : ∀ k, k < m -> ∀ B, Acj P (Abg mm tab (Aek mm tab k)) B w0) (f : Nat) (args : List Value) (h : Aaa) (v : Value) (h' : Aaa)
  (hv : Abg mm tab (Aek mm tab m) (.fn f) args h = some (v, h')) : Aoj P f /\ ∀ μ w args', Rel (Cc P) μ h B w0 w -> Aam μ args args' -> Calls P f args'.toArray w (Ab5 P μ h' B w0 v) := by
 unfold Abg at hv
 simp only at hv
 split at hv
 ·rename_i r hr
  simp only [Option.some.injEq] at hv
  have := hM f args h v h' (by rw [<- hv]; exact hr)
  exact ⟨this.ok, this.calls B w0⟩
 split at hv
 ·cases hv
 ·rename_i af haf
  have ht := hT f af haf
  unfold Aag at ht
  split at ht
  ·rename_i fn hfn
   have hfn' : P.funcs[f]? = some fn := by simpa using hfn
   unfold Ae7 at ht
   split at ht
   ·rename_i c res hbody hres
    cases hname : fn.name == "runtime.NumGoroutine" with
    | true => rw [hname] at ht; cases ht
    | false =>
     rw [hname] at ht; simp only [cond_false, Option.some.injEq] at ht
     subst ht
     have hok : Aoj P f := ⟨fn, hfn', by simpa using hname, by simp [hbody]⟩
     refine ⟨hok, fun μ w args' R hargs => ?_⟩
     cases hle : Nat.ble args.length fn.ntmps with
     | false => simp only [hle] at hv; cases hv
     | true =>
      simp only [hle, cond_true] at hv
      have hle := Aao hle
      have hsz : (args'.toArray ++ Array.replicate (fn.ntmps - args'.toArray.size) undef).size = fn.ntmps := by
       have := hargs.1
       simp; omega
      have r0 : Aap μ (Ab3 .nil 0 args) { tmps := args'.toArray ++ Array.replicate (fn.ntmps - args'.toArray.size) undef, defers := [] } := by
       intro t
       rw [Adq]
       simp only [Nat.not_lt_zero, if_false, Nat.zero_add, Nat.sub_zero, Array.getD_eq_getD_getElem?]
       by_cases hlt : t < args.length
       ·rw [if_pos hlt, List.getElem?_eq_getElem hlt]
        have hlt' : t < args'.length := by rw [<- hargs.1]; exact hlt
        rw [Array.getElem?_append_left (by simpa using hlt')]
        simp only [List.getElem?_toArray, List.getElem?_eq_getElem hlt', Option.getD_some]
        exact hargs.2 t _ _ (List.getElem?_eq_getElem hlt) (List.getElem?_eq_getElem hlt')
       ·rw [if_neg hlt]
        rw [Array.getElem?_append_right (by have := hargs.1; simp; omega), Array.getElem?_replicate]
        have : Aax T.nil t = undef := rfl
        rw [this]
        split <;> exact Ac1 μ
      split at hv
      ·cases hv
      ·rename_i e ts' h2 hnx hex
       split at hv
       ·rename_i vs hvs
        simp only [Option.some.injEq, Prod.mk.injEq] at hv
        obtain ⟨rfl, rfl⟩ := hv
        have hwp := Adt (P := P) (B := B) (w0 := w0) m (fun k hk => ih k hk) m (Nat.le_refl _) fn.ntmps c none none _ ts' h h2 e μ h.mq _ w hex R r0 hsz trivial ⟨[], rfl, rfl⟩
        refine Aiw (ro := none) (n := 0) (callsIn_of_wp_marks hfn' hbody trivial (wpIn_mono hwp ?_))
        rintro x a' w' ⟨rfl, p1, μ2, p3, p4, p5, new, m1, m2⟩
        have fin : LeavesInM (FW none) 0 P fn a'.tmps (Ab5 P μ { h2 with mq := h.mq } B w0 (Adj vs)) a'.defers .returning w' := by
         rw [m2]
         refine Adm new h2 w' m1 p4 (fun w3 R3 => ?_)
         have hvs3 : Ab1 ts' { h2 with mq := h.mq } res = some vs := by
          rw [<- hvs]; exact (Ado res)
         obtain ⟨vs', g1, g2, g3⟩ := Aem R3 p5 fn.results.toList res vs hres hvs3
         have hrun := Ad5 fn.results.toList vs' g3 g2
         refine ⟨Adj vs', ?_, μ2, Adj vs', rfl, p3, R3, Ag1 g1⟩
         unfold results
         rw [Array.mapM_eq_mapM_toList]
         simp only [Sem.run_bind, Sem.run_map]
         erw [hrun]
         simp only [Result.andThen_ok, Sem.run_pure]
         rw [Ajb]
        cases e with
        | normal => exact fin
        | ret => exact fin
        | exit id => exact (hnx id rfl).elim
       ·cases hv
      ·cases hv
   ·cases ht
  ·cases ht
theorem Ahe {C : Af2} {P : Program} {μ : Map} {h h' : Aaa} {B : Fr} {w0 w : World} (R : Rel C μ h B w0 w) {b : Nat} {E : Ent} (he : μ b = some E) (hv : Alo b h = some h') :
  ∃ w', (Instr.beginRound E.blk).run P w = .ok () w' /\ Rel C μ h' B w0 w' /\ h'.mq = h.mq := by
 unfold Alo at hv
 split at hv
 ·rename_i k hk
  obtain ⟨e', he', old, r, h1, h2, h3, h4⟩ := R.aux.loop b k hk
  rw [he] at he'; cases he'
  rcases Aan k.st 0 with ⟨b1, b2⟩ | ⟨b1, b2⟩
  ·rw [b1] at hv; simp only [cond_true, Option.some.injEq] at hv; subst hv
   exact ⟨_, run_beginRound h1 (by rw [h2, b2]; rfl), R.setSt hk he h1 (st := 1) (pend := k.pend) (S := .busy) (Pn := r.pending) rfl h3 (List.Sublist.refl _), rfl⟩
  ·rw [b1] at hv; cases hv
 ·cases hv
theorem Ajx {C : Af2} {P : Program} {μ : Map} {h h' : Aaa} {B : Fr} {w0 w : World} (R : Rel C μ h B w0 w) {b : Nat} {E : Ent} (he : μ b = some E) {e : Aa6} {M : List Nat} (hM : M.Sublist h.mq) {v : Value} (hv : Aqz e b M h = some (v, h')) :
  ∃ w', (Instr.endRound E.blk (bif isN e then none else some (Ajr e))).run P w = .ok v w' /\ Rel C μ h' B w0 w' /\ Aa3 μ v v := by
 unfold Aqz at hv
 split at hv
 ·rename_i k hk
  obtain ⟨e', he', old, r, h1, h2, h3, h4⟩ := R.aux.loop b k hk
  rw [he] at he'; cases he'
  simp only [Option.some.injEq, Prod.mk.injEq] at hv
  obtain ⟨rfl, rfl⟩ := hv
  have hrun := run_endRound (P := P) (bif isN e then none else some (Ajr e)) h1
  have R' := R.setSt hk he h1 (st := bif isN e then 0 else 2) (pend := bif isN e then none else some e) (S := if (bif isN e then none else some (Ajr e) : Option Code).isNone then .ready else .done) (Pn := bif isN e then none else some (Ajr e)) (by cases e <;> rfl) (by cases e <;> rfl) hM
  refine ⟨_, ?_, R', .same _ rfl⟩
  rw [hrun]
  cases e <;> rfl
 ·cases hv
theorem Ain {P : Program} {mm : Agw} {tab : Nat -> Option Aac} {B : Fr} {w0 : World} (m : Nat) (ih : ∀ k, k < m -> ∀ B, Acj P (Abg mm tab (Aek mm tab k)) B w0) (b : Nat) (args : List Value) (h : Aaa) (v : Value) (h' : Aaa)
  (hv : Abg mm tab (Aek mm tab m) (.yield b) args h = some (v, h')) (μ : Map) (w : World) (args' : List Value) (E : Ent) (R : Rel (Cc P) μ h B w0 w) (hargs : Aam μ args args') (hE : μ b = some E) :
  ∃ f tmps asg body, (Instr.yield E.blk args'.toArray).run P w = .ok (.round E.blk f tmps asg body) w /\ RoundIn Fence.wide 0 P E.blk f tmps asg body w (Ab5 P μ h' B w0 v) := by
 unfold Abg at hv
 simp only at hv
 split at hv
 ·cases hv
 ·rename_i k hk
  obtain ⟨e', he', old, r, h1, h2, h3, h4, h5, h6, h7, h8⟩ := R.aux.loop b k hk
  rw [hE] at he'; cases he'
  cases hc : (Nat.beq args.length k.ps.length && k.ps.all (Nat.blt · k.n)) with
  | false => rw [hc] at hv; cases hv
  | true =>
   rw [hc] at hv; simp only [cond_true] at hv
   simp only [Bool.and_eq_true] at hc
   have hlen : args.length = k.ps.length := Nat.eq_of_beq_eq_true hc.1
   have hsz : args'.toArray.size = r.params.size := by
    rw [<- Array.length_toList (xs := r.params), h4, <- hlen, hargs.1]; simp
   refine ⟨r.fn, _, r.assign, r.body, run_yield h1 hsz, ?_⟩
   have hfold : (r.params.zip args'.toArray).foldl (fun (tmps : Array Value) (x : Tmp × Value) => tmps.setIfInBounds x.1 x.2) r.tmps = (k.ps.zip args').foldl (fun (t : Array Value) (x : Tmp × Value) => t.setIfInBounds x.1 x.2) r.tmps := by
    rw [<- Array.foldl_toList, Array.toList_zip, h4]
   rw [hfold]
   split at hv
   ·rename_i ts1 h1' hasg
    split at hv
    ·rename_i h2' hbeg
     split at hv
     ·rename_i e ts2 h3' hbody
      rw [<- h7] at hasg
      rw [<- h8] at hbody
      have r0 := Ag9 k.ps args args' k.ts r.tmps hargs hlen (by rw [h5]; exact hc.2) h6
      have hwp := Adt (P := P) (B := B) (w0 := w0) m (fun k hk => ih k hk) m (Nat.le_refl _) k.n r.assign (some b) (some E.blk) _ ts1 h h1' .normal μ h.mq _ w hasg R r0 (by rw [Af6]; exact h5) ⟨E, hE, rfl⟩ ⟨[], rfl, rfl⟩
      refine roundIn_of_wpIn (F := FW none) trivial (wpIn_mono hwp ?_)
      rintro x a1 w1 ⟨rfl, p1, μ1, p3, p4, p5, p6⟩
      obtain ⟨w2, q1, q2, q3⟩ := Ahe (P := P) p4 (p3 _ _ hE) hbeg
      refine ⟨w2, q1, ?_⟩
      have hk1 : Mk μ1 h.mq h2' a1 := p6.step p4 μ1.le_refl q3 rfl
      have hwp2 := Adt (P := P) (B := B) (w0 := w0) m (fun k hk => ih k hk) m (Nat.le_refl _) k.n r.body (some b) (some E.blk) _ ts2 h2' h3' e μ1 h.mq a1 w2 hbody q2 p5 p1 ⟨E, p3 _ _ hE, rfl⟩ hk1
      refine wpIn_mono hwp2 ?_
      rintro x a2 w3 ⟨rfl, s1, μ2, s3, s4, s5, new, s6, s7⟩
      have hsub : h.mq.Sublist h3'.mq := by rw [s6]; exact List.sublist_append_right _ _
      obtain ⟨w4, u1, u2, u3⟩ := Ajx (P := P) s4 (s3 _ _ (p3 _ _ hE)) hsub hv
      cases e with
      | normal => exact ⟨v, w4, u1, μ2, v, rfl, p3.trans s3, u2, u3⟩
      | ret => exact ⟨v, w4, u1, μ2, v, rfl, p3.trans s3, u2, u3⟩
      | exit id => exact ⟨v, w4, u1, μ2, v, rfl, p3.trans s3, u2, u3⟩
     ·cases hv
    ·cases hv
   ·cases hv
theorem Ahs {P : Program} {mm : Agw} {tab : Nat -> Option Aac} {w0 : World} (hT : Abk P tab) (hM : Ad1 P mm) : ∀ m B, Acj P (Abg mm tab (Aek mm tab m)) B w0 := by
 intro m
 induction m using Nat.strongRecOn with
 | _ m ih => exact fun B => ⟨fun f args h v h' hv => Ank hT hM m ih f args h v h' hv, fun b args h v h' hv μ w args' e R ha he => Ain m ih b args h v h' hv μ w args' e R ha he, Aik (fun f args h v h' hq => (hM f args h v h' hq).mq) _ _⟩
theorem Acm {P : Program} {mm : Agw} {tab : Nat -> Option Aac} {B : Fr} {w0 : World} (hT : Abk P tab) (hM : Ad1 P mm) (m : Nat) : Acj P (Abg mm tab (Aek mm tab m)) B w0 := Ahs hT hM m B
theorem Ame {P : Program} {mm : Agw} {tab : Nat -> Option Aac} (hT : Abk P tab) (hM : Ad1 P mm) {m f : Nat} {args : List Value} {h : Aaa} {v : Value} {h' : Aaa} (hv : Abg mm tab (Aek mm tab m) (.fn f) args h = some (v, h')) : Af5 P f args h v h' :=
 ⟨((Acm (B := ⟨0, fun _ => none⟩) (w0 := default) hT hM m).fn f args h v h' hv).1, (Acm (B := ⟨0, fun _ => none⟩) (w0 := default) hT hM m).mq _ _ _ _ _ hv,
  fun B w0 μ w args' R ha => ((Acm (B := B) (w0 := w0) hT hM m).fn f args h v h' hv).2 μ w args' R ha⟩
theorem Ard (P : Program) : Ad1 P (fun _ _ _ => none) := fun _ _ _ _ _ h => by cases h
def Age : Option (Value × Aaa) -> Bool
 | some (.bool true, _) => true
 | _ => false
def Aeb : Aaa := ⟨.nil, 0, .nil, []⟩
theorem Aq1 {C : Af2} (w : World) : Rel C (fun _ => none) Aeb ⟨w.heap.size, fun _ => none⟩ w w :=
 { below := Below.refl _ _, size := Nat.le_refl _, zk := fun i o h => (by cases h), fresh := fun b e h => by simp at h, blk := fun b k h => by simp [Aeb, T.get_nil] at h, apart := fun b b' k k' e e' h => by simp [Aeb, T.get_nil] at h, aux := ⟨fun b k h => by simp [Aeb, T.get_nil] at h, fun b b' k k' e e' h => by simp [Aeb, T.get_nil] at h, fun m h => by simp [Aeb] at h, List.Pairwise.nil⟩ }
theorem Aqf {P : Program} {tab : Nat -> Option Aac} (hT : Abk P tab) {n f : Nat} (h : Age (call tab n f [] Aeb) = true) (w : World) :
  Calls P f #[] w fun e w' => e = .returned (.bool true) /\ Below w.heap.size w w' := by
 unfold Age at h
 split at h
 ·rename_i h' hc
  have := ((Acm (B := ⟨w.heap.size, fun _ => none⟩) (w0 := w) hT (Ard P) n).fn f [] Aeb _ h' hc).2 _ w [] (Aq1 w) (.nil _)
  refine this.mono ?_
  rintro e w' ⟨μ', v', rfl, _, R, hv⟩
  exact ⟨by rw [hv.bool], R.below⟩
 ·cases h
end
end Go.Proofs.YthjhlifbdieibaaGreatDoor.Ai
