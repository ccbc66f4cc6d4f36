/- A run of the program's code over an abstract heap, and that it is the model's: part Th0 of the theory. -/
import Derived.WalkKit
import Derived.IntWalk
import Derived.Lib.UnsafeStr
/- What a run is of: operations and code, as data. -/
namespace Go.Proofs.YthjhlifbdieibaaGreatDoor.Ai
open Go.RowKit

inductive Opd where
  | t (i : Nat)
  | c (v : Value)

/-- how values of a type are held against one another -/
inductive ET where
  | int
  | bool
  | str
  | done
  | fld (agg : Bool) (off size : Nat) (sub rest : ET)

/-- an operation that asks the frame alone -/
inductive POp where
  | mov (x : Opd)
  | pick (c a b : Opd)
  | bin (op : BinOp) (boolType : Bool) (x y : Opd)
  | eqNil (kind : Nat) (neg : Bool) (x : Opd)
  | not (x : Opd)
  | neg (x : Opd)
  | conv (k : IntKind) (x : Opd)
  | fieldAddr (off : Nat) (x : Opd)
  | field1 (off : Nat) (x : Opd)
  | fieldN (off n : Nat) (x : Opd)
  | idxS (s : Nat) (x i : Opd)
  | idxA (len s : Nat) (x i : Opd)
  | idxStr (x i : Opd)
  | ext (i : Nat) (x : Opd)
  | len (str : Bool) (x : Opd)
  | nilchk (x : Opd)
  | build (zero : List Value) (parts : List (Nat × Nat × Opd))
  | mx (x y : Opd)
  | mn (x y : Opd)
  | eqS (neg : Bool) (et : ET) (x y : Opd)
  | mkFunc (f : Nat) (fs cs : List Opd)
  | mkIface (t : Nat) (x : Opd)
  | tyAs (t : Nat) (zero : Value) (x : Opd)
  | idxV1 (len s : Nat) (x i : Opd)
  | idxVN (len s : Nat) (x i : Opd)
  | usd (x : Opd)
  | bad

/-- one that reads the heap -/
inductive ROp where
  | load1 (x : Opd)
  | loadN (n : Nat) (x : Opd)
  | slice (s : Nat) (x : Opd) (lo hi mx : Option Opd)
  | cap (x : Opd)
  | bts (x : Opd)

/-- one that turns it -/
inductive EOp where
  | store (n : Nat) (a x : Opd)
  | box (n : Nat) (x : Opd)
  /-- ty: the elements' type and one more -/
  | alloc (zero : List Value) (ty : Nat)
  | buildS (s len : Nat) (zero : List Value) (parts : List (Nat × Nat × Opd))
  | mkS (s bytes : Nat) (zero : List Value) (l c : Opd)
  | app (s bytes ty : Nat) (str : Bool) (x y : Opd)
  | appZ (s bytes : Nat) (zero : List Value) (x y : Opd)
  /-- bytes of the type ty become a string's, and turn no more -/
  | ust (ty : Nat) (x n : Opd)

inductive AOp where
  | p (o : POp)
  | r (o : ROp)
  | e (o : EOp)
  | call (f : Nat) (args : List Opd)
  | callv (f : Opd) (args : List Opd)
  | invoke (tbl : List (Nat × Nat)) (x : Opd) (args : List Opd)
  | bad

structure AOper where
  dst : Option Nat
  op : AOp
  guard : Option (Nat × Bool)

inductive ACode where
  | skip
  | ret
  | exit (id : Nat)
  | ops (l : List AOper)
  /-- in whatever order its edges allow: to each operation between which numbers of turnings it may run -/
  | draw (l : List AOper) (win : List (Nat × Nat))
  | seq (a b : ACode)
  | cond (c : Opd) (a b : ACode)
  | block (id : Nat) (b : ACode)
  | loop (b : ACode)
  /-- over a function -/
  | rangeF (g : Opd) (n : Nat) (ps : List Nat) (asg body : ACode)
  | bad

inductive AExit where
  | normal
  | exit (id : Nat)
  | ret

end Go.Proofs.YthjhlifbdieibaaGreatDoor.Ai
/- The abstract heap of a run, and what it says of the model's world. -/
namespace Go.Proofs.YthjhlifbdieibaaGreatDoor.Ai
noncomputable section
open Go.RowKit

/-- a tree of places -/
inductive T (α : Type) where
  | nil : T α
  | node (l : T α) (v : Option α) (r : T α) : T α

theorem cond2 {β : Type} (c d : Bool) (x y z : β) : (Bool.rec (motive := fun _ => β) (Bool.rec (motive := fun _ => β) z y d) x c) = bif c then x else bif d then y else z := by cases c <;> cases d <;> rfl

def T.get {α : Type} (t : T α) : Nat → Option α := T.rec (motive := fun _ => Nat → Option α) (fun _ => none) (fun _ v _ gl gr k => Bool.rec (motive := fun _ => Option α) (Bool.rec (motive := fun _ => Option α) (gr (Nat.sub (Nat.div k 2) 1)) (gl (Nat.div k 2)) (Nat.beq (Nat.mod k 2) 1)) v (Nat.beq k 0)) t

theorem T.get_node {α : Type} (l : T α) (v : Option α) (r : T α) (k : Nat) : (T.node l v r).get k = bif Nat.beq k 0 then v else bif Nat.beq (k % 2) 1 then l.get (k / 2) else r.get (k / 2 - 1) :=
  cond2 (Nat.beq k 0) (Nat.beq (Nat.mod k 2) 1) v (l.get (k / 2)) (r.get (k / 2 - 1))

theorem T.get_nil {α : Type} (k : Nat) : (T.nil : T α).get k = none := rfl

def T.set {α : Type} (d : Nat) : T α → Nat → α → T α := Nat.rec (motive := fun _ => T α → Nat → α → T α) (fun t _ _ => t)
  (fun _ ih t => T.casesOn (motive := fun _ => Nat → α → T α) t
    (fun k x => Bool.rec (motive := fun _ => T α) (Bool.rec (motive := fun _ => T α) (.node .nil none (ih .nil (Nat.sub (Nat.div k 2) 1) x)) (.node (ih .nil (Nat.div k 2) x) none .nil) (Nat.beq (Nat.mod k 2) 1)) (.node .nil (some x) .nil) (Nat.beq k 0))
    (fun l v r k x => Bool.rec (motive := fun _ => T α) (Bool.rec (motive := fun _ => T α) (.node l v (ih r (Nat.sub (Nat.div k 2) 1) x)) (.node (ih l (Nat.div k 2) x) v r) (Nat.beq (Nat.mod k 2) 1)) (.node l (some x) r) (Nat.beq k 0))) d

theorem T.set_nil {α : Type} (d : Nat) (k : Nat) (x : α) : T.set (d + 1) .nil k x = bif Nat.beq k 0 then .node .nil (some x) .nil else bif Nat.beq (k % 2) 1 then .node (T.set d .nil (k / 2) x) none .nil else .node .nil none (T.set d .nil (k / 2 - 1) x) :=
  cond2 (Nat.beq k 0) (Nat.beq (Nat.mod k 2) 1) _ _ _
theorem T.set_node {α : Type} (d : Nat) (l : T α) (v : Option α) (r : T α) (k : Nat) (x : α) : T.set (d + 1) (.node l v r) k x = bif Nat.beq k 0 then .node l (some x) r else bif Nat.beq (k % 2) 1 then .node (T.set d l (k / 2) x) v r else .node l v (T.set d r (k / 2 - 1) x) :=
  cond2 (Nat.beq k 0) (Nat.beq (Nat.mod k 2) 1) _ _ _

theorem T.set_zero {α : Type} (t : T α) (k : Nat) (x : α) : T.set 0 t k x = t := rfl

def T.put {α : Type} (t : T α) (k : Nat) (x : α) : T α := T.set (k + 1) t k x

theorem beq_cases (a b : Nat) : (Nat.beq a b = true ∧ a = b) ∨ (Nat.beq a b = false ∧ a ≠ b) := by
  cases h : Nat.beq a b with
  | true => exact .inl ⟨rfl, Nat.eq_of_beq_eq_true h⟩
  | false => exact .inr ⟨rfl, Nat.ne_of_beq_eq_false h⟩

theorem T.get_set_same {α : Type} (x : α) : ∀ (d : Nat) (t : T α) (k : Nat), k < d → (T.set d t k x).get k = some x := by
  intro d
  induction d with
  | zero => intro t k h; omega
  | succ d ih =>
    intro t k h
    cases t <;> simp only [T.set_nil, T.set_node] <;>
    · rcases beq_cases k 0 with ⟨h0, e0⟩ | ⟨h0, e0⟩ <;> simp only [h0, cond_true, cond_false]
      · simp [T.get_node, h0]
      · rcases beq_cases (k % 2) 1 with ⟨h1, e1⟩ | ⟨h1, e1⟩ <;> simp only [h1, cond_true, cond_false, T.get_node, h0]
        · exact ih _ _ (by omega)
        · exact ih _ _ (by omega)

theorem T.get_set_other {α : Type} (x : α) : ∀ (d : Nat) (t : T α) (k j : Nat), j ≠ k → (T.set d t k x).get j = t.get j := by
  intro d
  induction d with
  | zero => intro t k j _; simp [T.set_zero]
  | succ d ih =>
    intro t k j h
    cases t with
    | nil =>
      simp only [T.set_nil]
      rcases beq_cases k 0 with ⟨h0, e0⟩ | ⟨h0, e0⟩ <;> simp only [h0, cond_true, cond_false]
      · have : Nat.beq j 0 = false := by rcases beq_cases j 0 with ⟨a, b⟩ | ⟨a, b⟩; · omega
                                         · exact a
        simp [T.get_nil, T.get_node, this]
      · rcases beq_cases (k % 2) 1 with ⟨h1, e1⟩ | ⟨h1, e1⟩ <;> simp only [h1, cond_true, cond_false, T.get_nil, T.get_node]
        · rcases beq_cases j 0 with ⟨j0, f0⟩ | ⟨j0, f0⟩ <;> simp only [j0, cond_true, cond_false]
          rcases beq_cases (j % 2) 1 with ⟨j1, f1⟩ | ⟨j1, f1⟩ <;> simp only [j1, cond_true, cond_false]
          rw [ih _ _ _ (by omega), T.get_nil]
        · rcases beq_cases j 0 with ⟨j0, f0⟩ | ⟨j0, f0⟩ <;> simp only [j0, cond_true, cond_false]
          rcases beq_cases (j % 2) 1 with ⟨j1, f1⟩ | ⟨j1, f1⟩ <;> simp only [j1, cond_true, cond_false]
          rw [ih _ _ _ (by omega), T.get_nil]
    | node l v r =>
      simp only [T.set_node]
      rcases beq_cases k 0 with ⟨h0, e0⟩ | ⟨h0, e0⟩ <;> simp only [h0, cond_true, cond_false]
      · have : Nat.beq j 0 = false := by rcases beq_cases j 0 with ⟨a, b⟩ | ⟨a, b⟩; · omega
                                         · exact a
        simp [T.get_node, this]
      · rcases beq_cases (k % 2) 1 with ⟨h1, e1⟩ | ⟨h1, e1⟩ <;> simp only [h1, cond_true, cond_false, T.get_node]
        · rcases beq_cases j 0 with ⟨j0, f0⟩ | ⟨j0, f0⟩ <;> simp only [j0, cond_true, cond_false]
          rcases beq_cases (j % 2) 1 with ⟨j1, f1⟩ | ⟨j1, f1⟩ <;> simp only [j1, cond_true, cond_false]
          rw [ih _ _ _ (by omega)]
        · rcases beq_cases j 0 with ⟨j0, f0⟩ | ⟨j0, f0⟩ <;> simp only [j0, cond_true, cond_false]
          rcases beq_cases (j % 2) 1 with ⟨j1, f1⟩ | ⟨j1, f1⟩ <;> simp only [j1, cond_true, cond_false]
          rw [ih _ _ _ (by omega)]

theorem T.get_put_same {α : Type} (t : T α) (k : Nat) (x : α) : (t.put k x).get k = some x := T.get_set_same x _ _ _ (by omega)
theorem T.get_put_other {α : Type} (t : T α) {k j : Nat} (x : α) (h : j ≠ k) : (t.put k x).get j = t.get j := T.get_set_other x _ _ _ _ h

def T.clr {α : Type} : T α → Nat → T α
  | .nil, _ => .nil
  | .node l v r, k => bif Nat.beq k 0 then .node l none r else bif Nat.beq (k % 2) 1 then .node (l.clr (k / 2)) v r else .node l v (r.clr (k / 2 - 1))

theorem T.get_clr_same {α : Type} : ∀ (t : T α) (k : Nat), (t.clr k).get k = none := by
  intro t
  induction t with
  | nil => intro k; rfl
  | node l v r ihl ihr =>
    intro k
    simp only [T.clr]
    rcases beq_cases k 0 with ⟨h0, _⟩ | ⟨h0, _⟩ <;> simp only [h0, cond_true, cond_false]
    · simp [T.get_node, h0]
    · rcases beq_cases (k % 2) 1 with ⟨h1, _⟩ | ⟨h1, _⟩ <;> simp only [h1, cond_true, cond_false, T.get_node, h0]
      · exact ihl _
      · exact ihr _
theorem T.get_clr_other {α : Type} : ∀ (t : T α) (k j : Nat), j ≠ k → (t.clr k).get j = t.get j := by
  intro t
  induction t with
  | nil => intro k j _; rfl
  | node l v r ihl ihr =>
    intro k j h
    simp only [T.clr]
    rcases beq_cases k 0 with ⟨h0, e0⟩ | ⟨h0, e0⟩ <;> simp only [h0, cond_true, cond_false]
    · have : Nat.beq j 0 = false := by rcases beq_cases j 0 with ⟨a, b⟩ | ⟨a, b⟩; · omega
                                       · exact a
      simp [T.get_node, this]
    · rcases beq_cases (k % 2) 1 with ⟨h1, e1⟩ | ⟨h1, e1⟩ <;> simp only [h1, cond_true, cond_false, T.get_node]
      · rcases beq_cases j 0 with ⟨j0, f0⟩ | ⟨j0, f0⟩ <;> simp only [j0, cond_true, cond_false]
        rcases beq_cases (j % 2) 1 with ⟨j1, f1⟩ | ⟨j1, f1⟩ <;> simp only [j1, cond_true, cond_false]
        exact ihl _ _ (by omega)
      · rcases beq_cases j 0 with ⟨j0, f0⟩ | ⟨j0, f0⟩ <;> simp only [j0, cond_true, cond_false]
        rcases beq_cases (j % 2) 1 with ⟨j1, f1⟩ | ⟨j1, f1⟩ <;> simp only [j1, cond_true, cond_false]
        exact ihr _ _ (by omega)

/-- a block: its cells (so many of the model's block, from its beginning), and what never turns -/
structure Blk where
  cells : List Value
  /-- how many cells -/
  n : Nat
  /-- cells of an element -/
  s : Nat
  own : Bool
  grown : Bool
  /-- its elements' type, and one more; 0: not told -/
  ty : Nat := 0

/-- the record of a loop over a function -/
structure LRec where
  ts : T Value
  n : Nat
  ps : List Nat
  asg : ACode
  body : ACode
  /-- 0: ready, 1: busy, 2: done, 3: exhausted -/
  st : Nat
  pend : Option AExit

structure Heap where
  blks : T Blk
  next : Nat
  loops : T LRec
  /-- the blocks for rounds' deferred calls that the activations have, the latest first -/
  marks : List Nat

/-- where a block lies in the model's world -/
structure Ent where
  blk : Nat
  base : Nat
  extra : Nat
  s : Nat
  n : Nat

abbrev Map := Nat → Option Ent

def Map.le (μ ν : Map) : Prop := ∀ b e, μ b = some e → ν b = some e
theorem Map.le_refl (μ : Map) : μ.le μ := fun _ _ h => h
theorem Map.le.trans {μ ν ξ : Map} (h : μ.le ν) (k : ν.le ξ) : μ.le ξ := fun b e x => k b e (h b e x)

def plain : Value → Bool
  | .bool _ | .int _ _ | .string _ | .pointer none | .slice none _ _ | .map none | .nilFunc | .nilIface | .float _ _ | .complex _ _ _ => true
  | _ => false

inductive VRel (μ : Map) : Value → Value → Prop
  | same (v : Value) : plain v = true → VRel μ v v
  | ptr (b o : Nat) (e : Ent) : μ b = some e → VRel μ (.pointer (some ⟨b, o, none⟩)) (.pointer (some ⟨e.blk, e.base + o, none⟩))
  | slice (b o len cap : Nat) (e : Ent) : μ b = some e →
      VRel μ (.slice (some ⟨b, o, none⟩) len cap) (.slice (some ⟨e.blk, e.base + o, none⟩) len (if o + cap * e.s = e.n then cap + e.extra else cap))
  | vague (b o k : Nat) (a : Addr) (c : Nat) : VRel μ (.slice (some ⟨b, o, some k⟩) 0 0) (.slice (some a) 0 c)
  /-- of a slot that is not looked at -/
  | top (v : Value) : (∃ a, v = .pointer (some a)) ∨ (∃ a n c, v = .slice (some a) n c) → VRel μ (.map (some 0)) v
  | yield (b : Nat) (e : Ent) : μ b = some e → VRel μ (.func (.yield b) #[] #[]) (.func (.yield e.blk) #[] #[])
  | func (fn : Fn) (fs fs' cs cs' : Array Value) : (∀ l, fn ≠ .yield l) → fs.toList.length = fs'.toList.length → (∀ (i : Nat) (v v' : Value), fs.toList[i]? = some v → fs'.toList[i]? = some v' → VRel μ v v') →
      cs.toList.length = cs'.toList.length → (∀ (i : Nat) (v v' : Value), cs.toList[i]? = some v → cs'.toList[i]? = some v' → VRel μ v v') → VRel μ (.func fn fs cs) (.func fn fs' cs')
  | iface (t : TypeId) (v v' : Value) : VRel μ v v' → VRel μ (.iface t v) (.iface t v')
  | agg (cs cs' : Array Value) : cs.toList.length = cs'.toList.length → (∀ (i : Nat) (v v' : Value), cs.toList[i]? = some v → cs'.toList[i]? = some v' → VRel μ v v') → VRel μ (.agg cs) (.agg cs')
  | tuple (cs cs' : Array Value) : cs.toList.length = cs'.toList.length → (∀ (i : Nat) (v v' : Value), cs.toList[i]? = some v → cs'.toList[i]? = some v' → VRel μ v v') → VRel μ (.tuple cs) (.tuple cs')

/-- lists, cell by cell -/
def VsRel (μ : Map) (l l' : List Value) : Prop := l.length = l'.length ∧ ∀ (i : Nat) (v v' : Value), l[i]? = some v → l'[i]? = some v' → VRel μ v v'

theorem VRel.mono {μ ν : Map} (h : μ.le ν) {v v' : Value} (r : VRel μ v v') : VRel ν v v' := by
  induction r with
  | same v hv => exact .same v hv
  | ptr b o e he => exact .ptr b o e (h _ _ he)
  | slice b o len cap e he => exact .slice b o len cap e (h _ _ he)
  | vague b o k a c => exact .vague b o k a c
  | top v hv => exact .top v hv
  | yield b e he => exact .yield b e (h _ _ he)
  | func fn fs fs' cs cs' h0 h1 _ h2 _ i1 i2 => exact .func fn fs fs' cs cs' h0 h1 i1 h2 i2
  | iface t v v' _ ih => exact .iface t v v' ih
  | agg cs cs' h1 _ ih => exact .agg cs cs' h1 ih
  | tuple cs cs' h1 _ ih => exact .tuple cs cs' h1 ih

theorem VsRel.mono {μ ν : Map} (h : μ.le ν) {l l' : List Value} (r : VsRel μ l l') : VsRel ν l l' := ⟨r.1, fun i v v' a b => (r.2 i v v' a b).mono h⟩
theorem VsRel.nil (μ : Map) : VsRel μ [] [] := ⟨rfl, fun i v v' a _ => by simp at a⟩
theorem VsRel.cons {μ : Map} {v v' : Value} {l l' : List Value} (h : VRel μ v v') (r : VsRel μ l l') : VsRel μ (v :: l) (v' :: l') :=
  ⟨by simp [r.1], fun i x x' a b => by cases i with
    | zero => simp at a b; subst a; subst b; exact h
    | succ i => simp at a b; exact r.2 i x x' a b⟩
theorem VsRel.single {μ : Map} {v v' : Value} (h : VRel μ v v') : VsRel μ [v] [v'] := .cons h (.nil μ)
theorem VsRel.append {μ : Map} {l l' k k' : List Value} (h : VsRel μ l l') (r : VsRel μ k k') : VsRel μ (l ++ k) (l' ++ k') := by
  refine ⟨by simp [h.1, r.1], fun i x x' a b => ?_⟩
  rw [List.getElem?_append] at a b
  rw [h.1] at a
  split at a
  · rename_i hi; rw [if_pos hi] at b; exact h.2 i x x' a b
  · rename_i hi; rw [if_neg hi] at b; exact r.2 _ x x' a b
theorem VsRel.get {μ : Map} {l l' : List Value} (h : VsRel μ l l') {i : Nat} {v : Value} (hi : l[i]? = some v) : ∃ v', l'[i]? = some v' ∧ VRel μ v v' := by
  have hlt : i < l'.length := by rw [← h.1]; exact (List.getElem?_eq_some_iff.1 hi).1
  exact ⟨l'[i], List.getElem?_eq_getElem hlt, h.2 i v _ hi (List.getElem?_eq_getElem hlt)⟩
theorem VsRel.take {μ : Map} {l l' : List Value} (h : VsRel μ l l') (n : Nat) : VsRel μ (l.take n) (l'.take n) := by
  refine ⟨by simp [h.1], fun i x x' a b => ?_⟩
  rw [List.getElem?_take] at a b
  split at a
  · rename_i hi; rw [if_pos hi] at b; exact h.2 i x x' a b
  · simp at a
theorem VsRel.drop {μ : Map} {l l' : List Value} (h : VsRel μ l l') (n : Nat) : VsRel μ (l.drop n) (l'.drop n) := by
  refine ⟨by simp [h.1], fun i x x' a b => ?_⟩
  rw [List.getElem?_drop] at a b
  exact h.2 _ x x' a b
theorem VsRel.of_plain {μ : Map} {l : List Value} (h : l.all plain = true) : VsRel μ l l :=
  ⟨rfl, fun i v v' a b => by rw [a] at b; cases b; exact (.same v (List.all_eq_true.1 h v (List.mem_of_getElem? a)))⟩

theorem undef_rel (μ : Map) : VRel μ undef undef := .tuple #[] #[] rfl (fun i v v' a _ => by simp at a)

def look (ts : T Value) (i : Nat) : Value := match ts.get i with
  | some v => v
  | none => undef

def TsRel (μ : Map) (ts : T Value) (a : Act) : Prop := ∀ t, VRel μ (look ts t) (a.tmps.getD t undef)

theorem TsRel.mono {μ ν : Map} (h : μ.le ν) {ts : T Value} {a : Act} (r : TsRel μ ts a) : TsRel ν ts a := fun t => (r t).mono h

/-- which code of the model's is told by which -/
abbrev CRel := Nat → Code → ACode → Prop

def codeX : AExit → Code
  | .normal => .skip
  | .exit id => .exit id
  | .ret => .ret

def stX : Nat → LoopState
  | 0 => .ready
  | 1 => .busy
  | 2 => .done
  | _ => .exhausted

/-- what is not to be turned: all below n; these blocks -/
structure Fr where
  n : Nat
  z : Nat → Option Obj

def Fr.own (B : Fr) (i : Nat) : Prop := B.n ≤ i ∧ B.z i = none

/-- how the record of a loop stands in the world -/
structure LRel (C : CRel) (μ : Map) (B : Fr) (w : World) (k : LRec) (e : Ent) : Prop where
  old : B.own e.blk
  rcd : ∃ r : Loop, w.heap[e.blk]? = some (.loop r) ∧ r.state = stX k.st ∧ r.pending = k.pend.map codeX ∧ r.params.toList = k.ps ∧ r.tmps.size = k.n ∧ TsRel μ k.ts { tmps := r.tmps, defers := [] } ∧ C k.n r.assign k.asg ∧ C k.n r.body k.body

structure AuxOk (C : CRel) (μ : Map) (L : T LRec) (M : List Nat) (B : Fr) (w : World) : Prop where
  loop : ∀ b k, L.get b = some k → ∃ e, μ b = some e ∧ LRel C μ B w k e
  lapart : ∀ b b' k k' e e', L.get b = some k → L.get b' = some k' → b ≠ b' → μ b = some e → μ b' = some e' → e.blk ≠ e'.blk
  mark : ∀ m ∈ M, ∃ e, μ m = some e ∧ B.own e.blk ∧ w.heap[e.blk]? = some (.deferred (some []))
  mapart : M.Pairwise fun m m' => ∀ e e', μ m = some e → μ m' = some e' → e.blk ≠ e'.blk

def isRow : Obj → Bool
  | .cells _ _ _ => true
  | _ => false

/-- whatever is no row of cells lies as it lay -/
def Keeps (w w' : World) : Prop := ∀ (i : Nat) (o : Obj), w.heap[i]? = some o → isRow o = false → w'.heap[i]? = some o

theorem AuxOk.keep {C : CRel} {μ μ' : Map} {L : T LRec} {M : List Nat} {B : Fr} {w w' : World} (x : AuxOk C μ L M B w) (hle : μ.le μ') (hk : Keeps w w') : AuxOk C μ' L M B w' := by
  refine ⟨fun b k hb => ?_, fun b b' k k' e e' hb hb' hne he he' => ?_, fun m hm => ?_, ?_⟩
  · obtain ⟨e, he, h0, r, h1, h2, h3, h4, h5, h6, h7, h8⟩ := x.loop b k hb
    exact ⟨e, hle _ _ he, h0, r, hk _ _ h1 rfl, h2, h3, h4, h5, h6.mono hle, h7, h8⟩
  · obtain ⟨f, hf, _⟩ := x.loop b k hb
    obtain ⟨f', hf', _⟩ := x.loop b' k' hb'
    rw [hle _ _ hf] at he; cases he
    rw [hle _ _ hf'] at he'; cases he'
    exact x.lapart b b' k k' _ _ hb hb' hne hf hf'
  · obtain ⟨e, he, h0, h1⟩ := x.mark m hm
    exact ⟨e, hle _ _ he, h0, hk _ _ h1 rfl⟩
  · refine x.mapart.imp_of_mem ?_
    intro m m' hm hm' h e e' he he'
    obtain ⟨f, hf, _⟩ := x.mark m hm
    obtain ⟨f', hf', _⟩ := x.mark m' hm'
    rw [hle _ _ hf] at he; cases he
    rw [hle _ _ hf'] at he'; cases he'
    exact h _ _ hf hf'

/-- how one block of the heap stands in the world -/
structure BRel (μ : Map) (B : Fr) (w : World) (k : Blk) (e : Ent) : Prop where
  s : e.s = k.s
  n : e.n = k.n
  len : k.cells.length ≤ k.n
  grown : k.grown = false → e.extra = 0
  own : k.own = true → B.own e.blk ∧ e.base = 0 ∧ ∃ cc el, w.heap[e.blk]? = some (.cells cc el (0, 0)) ∧ cc.size = k.n + e.extra * k.s
  ro : k.own = false → e.blk < B.n
  cell : ∀ (i : Nat) (v : Value), k.cells[i]? = some v → ∃ cc el fr v', w.heap[e.blk]? = some (.cells cc el fr) ∧ cc[e.base + i]? = some v' ∧ VRel μ v v'
  ty : k.own = true → k.ty ≠ 0 → ∀ cc el fr, w.heap[e.blk]? = some (.cells cc el fr) → el + 1 = k.ty

structure Rel (C : CRel) (μ : Map) (h : Heap) (B : Fr) (w0 w : World) : Prop where
  below : Below B.n w0 w
  size : B.n ≤ w.heap.size
  zk : ∀ i o, B.z i = some o → w.heap[i]? = some o
  fresh : ∀ b e, μ b = some e → b < h.next
  blk : ∀ b k, h.blks.get b = some k → ∃ e, μ b = some e ∧ BRel μ B w k e
  apart : ∀ b b' k k' e e', h.blks.get b = some k → h.blks.get b' = some k' → b ≠ b' → k.own = true → k'.own = true → μ b = some e → μ b' = some e' → e.blk ≠ e'.blk
  aux : AuxOk C μ h.loops h.marks B w

end
end Go.Proofs.YthjhlifbdieibaaGreatDoor.Ai
/- What reads, writes and new blocks of the abstract heap do to the world that it tells. -/
namespace Go.Proofs.YthjhlifbdieibaaGreatDoor.Ai
noncomputable section
open Go.RowKit

variable {C : CRel}

def Map.put (μ : Map) (b : Nat) (e : Ent) : Map := fun x => if x = b then some e else μ x

theorem Map.le_put {μ : Map} {b : Nat} {e : Ent} (h : μ b = none) : μ.le (μ.put b e) := by
  intro x f hx
  unfold Map.put
  split
  · rename_i hb; subst hb; rw [h] at hx; cases hx
  · exact hx

theorem Map.put_same (μ : Map) (b : Nat) (e : Ent) : (μ.put b e) b = some e := by simp [Map.put]
theorem Map.put_other {μ : Map} {b x : Nat} {e : Ent} (h : x ≠ b) : (μ.put b e) x = μ x := by simp [Map.put, h]

theorem Rel.next_none {μ : Map} {h : Heap} {B : Fr} {w0 w : World} (r : Rel C μ h B w0 w) {b : Nat} (hb : h.next ≤ b) : μ b = none := by
  cases hm : μ b with
  | none => rfl
  | some e => have := r.fresh b e hm; omega

theorem Rel.get_lt {μ : Map} {h : Heap} {B : Fr} {w0 w : World} (r : Rel C μ h B w0 w) {b : Nat} {k : Blk} (hb : h.blks.get b = some k) : b < h.next := by
  obtain ⟨e, he, _⟩ := r.blk b k hb
  exact r.fresh b e he

/-- a draw turns nothing -/
theorem Rel.drew {μ : Map} {h : Heap} {B : Fr} {w0 w : World} (r : Rel C μ h B w0 w) : Rel C μ h B w0 w.drew :=
  ⟨r.below.drew, r.size, r.zk, r.fresh, fun b k hb => let ⟨e, he, x⟩ := r.blk b k hb; ⟨e, he, ⟨x.s, x.n, x.len, x.grown, x.own, x.ro, x.cell, x.ty⟩⟩, r.apart, r.aux.keep μ.le_refl fun _ _ h _ => h⟩

def nth (l : List Value) : Nat → Option Value := List.rec (motive := fun _ => Nat → Option Value) (fun _ => none) (fun x _ ih o => Nat.casesOn (motive := fun _ => Option Value) o (some x) ih) l

theorem nth_nil (o : Nat) : nth [] o = none := rfl
theorem nth_zero (x : Value) (l : List Value) : nth (x :: l) 0 = some x := rfl
theorem nth_succ (x : Value) (l : List Value) (o : Nat) : nth (x :: l) (o + 1) = nth l o := rfl
theorem nth_eq : ∀ (l : List Value) (o : Nat), nth l o = l[o]?
  | [], o => by rw [nth_nil]; simp
  | x :: l, 0 => by rw [nth_zero]; simp
  | x :: l, o + 1 => by rw [nth_succ, nth_eq l o]; simp

/-- are there so many? -/
def leLen (l : List Value) : Nat → Bool := List.rec (motive := fun _ => Nat → Bool) (fun n => Nat.casesOn (motive := fun _ => Bool) n true (fun _ => false)) (fun _ _ ih n => Nat.casesOn (motive := fun _ => Bool) n true ih) l

theorem leLen_zero (l : List Value) : leLen l 0 = true := by cases l <;> rfl
theorem leLen_nil (n : Nat) : leLen [] (n + 1) = false := rfl
theorem leLen_cons (x : Value) (l : List Value) (n : Nat) : leLen (x :: l) (n + 1) = leLen l n := rfl
theorem leLen_eq : ∀ (l : List Value) (n : Nat), leLen l n = Nat.ble n l.length
  | l, 0 => by rw [leLen_zero]; cases l <;> rfl
  | [], n + 1 => by rw [leLen_nil]; rfl
  | x :: l, n + 1 => by rw [leLen_cons, leLen_eq l n]; rfl

def Heap.rd (h : Heap) (b o : Nat) : Option Value := match h.blks.get b with
  | some k => nth k.cells o
  | none => none

/-- so many cells from one on -/
def Heap.rds (h : Heap) (b o n : Nat) : Option (List Value) := match h.blks.get b with
  | some k => bif leLen k.cells (o + n) then some ((k.cells.drop o).take n) else none
  | none => none

theorem cell_eq {w : World} {b o : Nat} {cc : Array Value} {el : TypeId} {fr : Nat × Nat} (h : w.heap[b]? = some (.cells cc el fr)) : w.cell? ⟨b, o, none⟩ = cc[o]? := by
  simp [World.cell?, h]

theorem Rel.rd {μ : Map} {h : Heap} {B : Fr} {w0 w : World} (r : Rel C μ h B w0 w) {b o : Nat} {v : Value} (hr : h.rd b o = some v) {e : Ent} (he : μ b = some e) :
    ∃ v', w.cell? ⟨e.blk, e.base + o, none⟩ = some v' ∧ VRel μ v v' := by
  unfold Heap.rd at hr
  simp only [nth_eq] at hr
  split at hr
  · rename_i k hk
    obtain ⟨e', he', x⟩ := r.blk b k hk
    rw [he] at he'; cases he'
    obtain ⟨cc, el, fr, v', hh, hc, hv⟩ := x.cell o v hr
    exact ⟨v', by rw [cell_eq hh, hc], hv⟩
  · cases hr

theorem ble_true {a b : Nat} (h : Nat.ble a b = true) : a ≤ b := Nat.le_of_ble_eq_true h

theorem Rel.rds {μ : Map} {h : Heap} {B : Fr} {w0 w : World} (r : Rel C μ h B w0 w) {b o n : Nat} {l : List Value} (hr : h.rds b o n = some l) {e : Ent} (he : μ b = some e) :
    ∃ l', l'.length = n ∧ (∀ (j : Nat) (v : Value), l'[j]? = some v → w.cell? ((⟨e.blk, e.base + o, none⟩ : Addr).add j) = some v) ∧ VsRel μ l l' := by
  unfold Heap.rds at hr
  simp only [leLen_eq] at hr
  split at hr
  · rename_i k hk
    cases hle : Nat.ble (o + n) k.cells.length with
    | false => rw [hle] at hr; simp at hr
    | true =>
      rw [hle] at hr; simp only [cond_true, Option.some.injEq] at hr
      have hle := ble_true hle
      obtain ⟨e', he', x⟩ := r.blk b k hk
      rw [he] at he'; cases he'
      have hcell : ∀ j, j < n → ∃ v v', k.cells[o + j]? = some v ∧ w.cell? ⟨e.blk, e.base + (o + j), none⟩ = some v' ∧ VRel μ v v' := by
        intro j hj
        have hlt : o + j < k.cells.length := by omega
        obtain ⟨cc, el, fr, v', hh, hc, hv⟩ := x.cell (o + j) _ (List.getElem?_eq_getElem hlt)
        exact ⟨_, v', List.getElem?_eq_getElem hlt, by rw [cell_eq hh, hc], hv⟩
      refine ⟨(List.range n).map fun j => (w.cell? ⟨e.blk, e.base + (o + j), none⟩).getD undef, by simp, ?_, ?_, ?_⟩
      · intro j v hj
        rw [List.getElem?_map] at hj
        cases hjr : (List.range n)[j]? with
        | none => rw [hjr] at hj; simp at hj
        | some i =>
          have hjn : j < n := by simpa using (List.getElem?_eq_some_iff.1 hjr).1
          have hij : i = j := by have := (List.getElem?_eq_some_iff.1 hjr).2; simpa using this.symm
          subst hij
          rw [hjr] at hj; simp only [Option.map_some, Option.some.injEq] at hj
          obtain ⟨u, v', _, hc, _⟩ := hcell i hjn
          rw [Addr.add_lit, Nat.add_assoc, hc]; rw [hc] at hj; simpa using hj
      · rw [← hr]; simp; omega
      · intro i v v' hi hi'
        have hin : i < n := by
          have := (List.getElem?_eq_some_iff.1 hi').1; simpa using this
        obtain ⟨u, u', hu, hc, hv⟩ := hcell i hin
        have h1 : v = u := by
          rw [← hr, List.getElem?_take, if_pos hin, List.getElem?_drop, hu] at hi; simpa using hi.symm
        have h2 : v' = u' := by
          rw [List.getElem?_map, List.getElem?_range hin] at hi'; simp only [Option.map_some, Option.some.injEq] at hi'; rw [hc] at hi'; simpa using hi'.symm
        subst h1; subst h2; exact hv
  · cases hr

def scalar : Value → Bool
  | .agg _ | .tuple _ => false
  | _ => true

theorem scalar_rel {μ : Map} {v v' : Value} (h : VRel μ v v') (hs : scalar v = true) : v'.oneCell' = true := by
  by_cases htop : ∃ x, v = .map (some x)
  · obtain ⟨x, rfl⟩ := htop
    cases h with
    | same _ hp => simp [plain] at hp
    | top _ hv => rcases hv with ⟨a, rfl⟩ | ⟨a, n, c, rfl⟩ <;> rfl
  cases h <;> first | rfl | (simp [scalar] at hs; done) | (exact absurd ⟨_, rfl⟩ htop) | skip
  rename_i hp
  cases v <;> simp_all [scalar, plain, Value.oneCell']

/-- the cells of a row, turned from one place on -/
def splice (l : List Value) (o : Nat) (vs : List Value) : List Value := l.take o ++ vs ++ l.drop (o + vs.length)

theorem splice_get (l : List Value) (o : Nat) (vs : List Value) (h : o + vs.length ≤ l.length) (i : Nat) :
    (splice l o vs)[i]? = if i < o then l[i]? else if i < o + vs.length then vs[i - o]? else l[i]? := by
  unfold splice
  rw [List.append_assoc, List.getElem?_append, List.length_take, Nat.min_eq_left (by omega)]
  split
  · rw [List.getElem?_take, if_pos (by assumption)]
  · rw [List.getElem?_append]
    split
    · rw [if_pos (by omega)]
    · rw [if_neg (by omega), List.getElem?_drop]; congr 1; omega

theorem splice_length (l : List Value) (o : Nat) (vs : List Value) (h : o + vs.length ≤ l.length) : (splice l o vs).length = l.length := by
  simp [splice]; omega

/-- the same, in one going -/
def spl (vs l : List Value) : Nat → List Value := List.rec (motive := fun _ => Nat → List Value) (fun _ => vs) (fun x l ih o => Nat.casesOn (motive := fun _ => List Value) o (vs ++ (x :: l).drop vs.length) (fun o => x :: ih o)) l

theorem spl_nil (vs : List Value) (o : Nat) : spl vs [] o = vs := rfl
theorem spl_zero (vs : List Value) (x : Value) (l : List Value) : spl vs (x :: l) 0 = vs ++ (x :: l).drop vs.length := rfl
theorem spl_succ (vs : List Value) (x : Value) (l : List Value) (o : Nat) : spl vs (x :: l) (o + 1) = x :: spl vs l o := rfl
theorem spl_eq (vs : List Value) : ∀ (l : List Value) (o : Nat), spl vs l o = splice l o vs
  | [], o => by rw [spl_nil]; simp [splice]
  | x :: l, 0 => by rw [spl_zero]; simp [splice]
  | x :: l, o + 1 => by
    rw [spl_succ, spl_eq vs l o]
    simp only [splice, List.take_succ_cons, List.cons_append, show o + 1 + vs.length = (o + vs.length) + 1 by omega, List.drop_succ_cons]

def Heap.wrs (h : Heap) (b o : Nat) (vs : List Value) : Option Heap := match h.blks.get b with
  | some k => bif k.own && leLen k.cells (o + vs.length) && vs.all scalar then some { h with blks := h.blks.put b { k with cells := spl vs k.cells o } } else none
  | none => none

theorem Fr.own.ne {B : Fr} {i j : Nat} {o : Obj} (h : B.own i) (hz : B.z j = some o) : j ≠ i := fun hji => by
  subst hji; rw [h.2] at hz; cases hz

theorem Rel.own_size {μ : Map} {h : Heap} {B : Fr} {w0 w : World} (r : Rel C μ h B w0 w) : B.own w.heap.size := ⟨r.size, by
  cases hz : B.z w.heap.size with
  | none => rfl
  | some o => have := r.zk _ _ hz; simp at this⟩

theorem Rel.zk_old {μ : Map} {h : Heap} {B : Fr} {w0 w w' : World} (r : Rel C μ h B w0 w) (hold : ∀ i, i < w.heap.size → w'.heap[i]? = w.heap[i]?) : ∀ i o, B.z i = some o → w'.heap[i]? = some o := fun i o hz => by
  have := r.zk i o hz
  rw [hold i (Array.getElem?_eq_some_iff.1 this).1]; exact this

theorem keeps_of_old {w w' : World} (h : ∀ i, i < w.heap.size → w'.heap[i]? = w.heap[i]?) : Keeps w w' := fun i o ho _ => by rw [h i (Array.getElem?_eq_some_iff.1 ho).1]; exact ho

theorem keeps_setRow {w : World} {b : Nat} {cc : Array Value} {el : TypeId} {fr : Nat × Nat} (hh : w.heap[b]? = some (.cells cc el fr)) (cc' : Array Value) : Keeps w (w.setRow b cc') := fun i o ho hr => by
  have hne : i ≠ b := by intro h; subst h; rw [hh] at ho; cases ho; cases hr
  rw [setRow_other _ _ _ _ hne]; exact ho

/-- a row of the call's own is turned: whatever stands in it then is told -/
theorem Rel.row {μ : Map} {h : Heap} {B : Fr} {w0 w : World} (r : Rel C μ h B w0 w) {b : Nat} {k : Blk} (hk : h.blks.get b = some k) (hown : k.own = true) (hne : k.cells ≠ []) {e : Ent} (he : μ b = some e)
    {cc : Array Value} {el : TypeId} (hh : w.heap[e.blk]? = some (.cells cc el (0, 0))) (cc' : Array Value) (hsz : cc'.size = cc.size) (cs : List Value) (hlen : cs.length ≤ k.n)
    (hcs : ∀ (i : Nat) (v : Value), cs[i]? = some v → ∃ v', cc'[i]? = some v' ∧ VRel μ v v') :
    Rel C μ { h with blks := h.blks.put b { k with cells := cs } } B w0 (w.setRow e.blk cc') := by
  obtain ⟨e', he', x⟩ := r.blk b k hk
  rw [he] at he'; cases he'
  obtain ⟨hB, hbase, cc0, el0, hh0, hs0⟩ := x.own hown
  rw [hh] at hh0; cases hh0
  have hnew := setRow_heap w e.blk cc cc' el (0, 0) hh
  refine ⟨r.below.trans ⟨rfl, rfl, rfl, by simp [World.setRow], fun i hi => setRow_other _ _ _ _ (by have := hB.1; omega)⟩, by have := r.size; simp [World.setRow]; omega, fun i o hz => by rw [setRow_other _ _ _ _ (hB.ne hz)]; exact r.zk i o hz, r.fresh, ?_, ?_, r.aux.keep μ.le_refl (keeps_setRow hh cc')⟩
  · intro b1 k1 hb1
    by_cases hb : b1 = b
    · subst hb
      rw [T.get_put_same] at hb1; cases hb1
      refine ⟨e, he, ⟨x.s, x.n, hlen, x.grown, fun _ => ⟨hB, hbase, cc', el, hnew, by rw [hsz]; exact hs0⟩, fun ho => absurd (show k.own = false from ho) (by simp [hown]), ?_, fun _ ht c l fr hq => by rw [hnew] at hq; cases hq; exact x.ty hown ht _ _ _ hh⟩⟩
      intro i v hi
      obtain ⟨v', hc, hv⟩ := hcs i v hi
      exact ⟨cc', el, (0, 0), v', hnew, by rw [hbase, Nat.zero_add]; exact hc, hv⟩
    · rw [T.get_put_other _ _ hb] at hb1
      obtain ⟨e1, he1, x1⟩ := r.blk b1 k1 hb1
      refine ⟨e1, he1, ⟨x1.s, x1.n, x1.len, x1.grown, ?_, x1.ro, ?_, fun ho ht c l fr hq => by
        by_cases heq : e1.blk = e.blk
        · rw [heq, hnew] at hq; cases hq; exact x1.ty ho ht _ _ _ (by rw [heq]; exact hh)
        · rw [setRow_other _ _ _ _ heq] at hq; exact x1.ty ho ht _ _ _ hq⟩⟩
      · intro ho
        obtain ⟨g1, g2, c1, l1, g3, g4⟩ := x1.own ho
        by_cases heq : e1.blk = e.blk
        · rw [heq, hh] at g3; cases g3
          exact ⟨g1, g2, cc', _, by rw [heq]; exact hnew, by rw [hsz]; exact g4⟩
        · exact ⟨g1, g2, c1, l1, by rw [setRow_other _ _ _ _ heq]; exact g3, g4⟩
      · intro i v hi
        obtain ⟨c1, l1, fr, v', g1, g2, g3⟩ := x1.cell i v hi
        have hne1 : e1.blk ≠ e.blk := by
          cases ho : k1.own with
          | true => exact r.apart b1 b k1 k e1 e hb1 hk hb ho hown he1 he
          | false => have := x1.ro ho; have := hB.1; omega
        exact ⟨c1, l1, fr, v', by rw [setRow_other _ _ _ _ hne1]; exact g1, g2, g3⟩
  · intro b1 b2 k1 k2 e1 e2 h1 h2 hn o1 o2 m1 m2
    have hx : ∀ b3 k3, ({ h with blks := h.blks.put b { k with cells := cs } } : Heap).blks.get b3 = some k3 → k3.own = true → ∃ k4, h.blks.get b3 = some k4 ∧ k4.own = true := by
      intro b3 k3 h3 o3
      by_cases hb : b3 = b
      · subst hb; exact ⟨k, hk, hown⟩
      · rw [T.get_put_other _ _ hb] at h3; exact ⟨k3, h3, o3⟩
    obtain ⟨k3, a1, a2⟩ := hx b1 k1 h1 o1
    obtain ⟨k4, c1, c2⟩ := hx b2 k2 h2 o2
    exact r.apart b1 b2 k3 k4 e1 e2 a1 c1 hn a2 c2 m1 m2

theorem vs_scalar {μ : Map} {vs vs' : List Value} (hv : VsRel μ vs vs') (hs : vs.all scalar = true) : ∀ v ∈ vs', v.oneCell' = true := by
  intro v hm
  obtain ⟨i, hi, rfl⟩ := List.getElem_of_mem hm
  have hi' : i < vs.length := by rw [hv.1]; exact hi
  exact scalar_rel (hv.2 i _ _ (List.getElem?_eq_getElem hi') (List.getElem?_eq_getElem hi)) (List.all_eq_true.1 hs _ (List.getElem_mem hi'))

/-- what a splice of related cells is -/
theorem splice_rel {μ : Map} {l : List Value} {cc : Array Value} {o : Nat} {vs vs' : List Value} (hv : VsRel μ vs vs') (hle : o + vs.length ≤ l.length) (hcc : l.length ≤ cc.size)
    (hc : ∀ (i : Nat) (v : Value), l[i]? = some v → ∃ v', cc[i]? = some v' ∧ VRel μ v v') :
    ∀ (i : Nat) (v : Value), (splice l o vs)[i]? = some v → ∃ v', (splice cc.toList o vs').toArray[i]? = some v' ∧ VRel μ v v' := by
  intro i v hi
  have hl : o + vs'.length ≤ cc.toList.length := by rw [← hv.1]; simp; omega
  rw [splice_get _ _ _ hle] at hi
  have hg := splice_get cc.toList o vs' hl i
  rw [← hv.1] at hg
  split at hi
  · rename_i h1; rw [if_pos h1] at hg
    obtain ⟨v', a, b⟩ := hc i v hi
    exact ⟨v', by simpa [hg] using a, b⟩
  · rename_i h1; rw [if_neg h1] at hg
    split at hi
    · rename_i h2; rw [if_pos h2] at hg
      obtain ⟨v', a, b⟩ := hv.get hi
      exact ⟨v', by simpa [hg] using a, b⟩
    · rename_i h2; rw [if_neg h2] at hg
      obtain ⟨v', a, b⟩ := hc i v hi
      exact ⟨v', by simpa [hg] using a, b⟩

theorem Rel.wrs {μ : Map} {h h' : Heap} {B : Fr} {w0 w : World} (r : Rel C μ h B w0 w) {b o : Nat} {vs vs' : List Value} (hw : h.wrs b o vs = some h') (hv : VsRel μ vs vs') (hpos : vs ≠ []) {e : Ent} (he : μ b = some e) :
    ∃ w', e.base = 0 ∧ (∀ P : Program, (storeCells ⟨e.blk, e.base + o, none⟩ vs').run P w = .ok () w') ∧ Rel C μ h' B w0 w' := by
  unfold Heap.wrs at hw
  simp only [leLen_eq, spl_eq] at hw
  split at hw
  · rename_i k hk
    cases hc : (k.own && Nat.ble (o + vs.length) k.cells.length && vs.all scalar) with
    | false => rw [hc] at hw; simp at hw
    | true =>
      rw [hc] at hw; simp only [cond_true, Option.some.injEq] at hw
      simp only [Bool.and_eq_true] at hc
      obtain ⟨⟨hown, hle⟩, hsc⟩ := hc
      have hle := ble_true hle
      obtain ⟨e', he', x⟩ := r.blk b k hk
      rw [he] at he'; cases he'
      obtain ⟨hB, hbase, cc, el, hh, hs⟩ := x.own hown
      have hvl : 0 < vs.length := List.length_pos_iff.2 hpos
      have hlen := x.len
      have hccl : k.cells.length ≤ cc.size := by omega
      have hcell : ∀ (i : Nat) (v : Value), k.cells[i]? = some v → ∃ v', cc[i]? = some v' ∧ VRel μ v v' := by
        intro i v hi
        obtain ⟨c1, l1, fr, v', g1, g2, g3⟩ := x.cell i v hi
        rw [hh] at g1; cases g1
        exact ⟨v', by rw [hbase, Nat.zero_add] at g2; exact g2, g3⟩
      have hne : k.cells ≠ [] := by intro hn; rw [hn] at hle; simp only [List.length_nil] at hle; omega
      refine ⟨w.setRow e.blk (splice cc.toList o vs').toArray, hbase, ?_, ?_⟩
      · intro P
        have := run_storeCells_at P e.blk o el vs' 0 cc w hh (by rw [← hv.1]; omega) (vs_scalar hv hsc)
        rw [hbase, Nat.zero_add]
        simpa [splice] using this
      · rw [← hw]
        refine r.row hk hown hne he hh _ ?_ _ ?_ (splice_rel hv hle hccl hcell)
        · simp only [List.size_toArray]
          rw [splice_length _ _ _ (by rw [← hv.1]; simp; omega)]; simp
        · rw [splice_length _ _ _ hle]; exact hlen
  · cases hw

/-- a block of the call's own that is new -/
def Heap.new (h : Heap) (k : Blk) : Heap := { h with blks := h.blks.put h.next k, next := h.next + 1 }

theorem BRel.mono {μ ν : Map} (hle : μ.le ν) {B : Fr} {w w' : World} {k : Blk} {e : Ent} (x : BRel μ B w k e) (hw : ∀ i, i < w.heap.size → w'.heap[i]? = w.heap[i]?) : BRel ν B w' k e := by
  have hlt : ∀ {i : Nat} {o : Obj}, w.heap[i]? = some o → i < w.heap.size := fun h => (Array.getElem?_eq_some_iff.1 h).1
  refine ⟨x.s, x.n, x.len, x.grown, fun ho => ?_, x.ro, fun i v hi => ?_, fun ho ht c l fr hq => ?_⟩
  · obtain ⟨a, b, cc, el, c, d⟩ := x.own ho
    exact ⟨a, b, cc, el, by rw [hw _ (hlt c)]; exact c, d⟩
  · obtain ⟨cc, el, fr, v', a, b, c⟩ := x.cell i v hi
    exact ⟨cc, el, fr, v', by rw [hw _ (hlt a)]; exact a, b, c.mono hle⟩
  · obtain ⟨_, _, cc, el, h1, _⟩ := x.own ho
    rw [hw _ (hlt h1)] at hq
    exact x.ty ho ht _ _ _ hq

theorem BRel.lt {μ : Map} {B : Fr} {w : World} {k : Blk} {e : Ent} (x : BRel μ B w k e) (ho : k.own = true) : e.blk < w.heap.size := by
  obtain ⟨_, _, cc, el, c, _⟩ := x.own ho
  exact (Array.getElem?_eq_some_iff.1 c).1

theorem Rel.new {μ : Map} {h : Heap} {B : Fr} {w0 w : World} (r : Rel C μ h B w0 w) (k : Blk) (hown : k.own = true) (cc : Array Value) (el : TypeId) (extra : Nat) (hg : k.grown = false → extra = 0)
    (hlen : k.cells.length ≤ k.n) (hsz : cc.size = k.n + extra * k.s) (hc : ∀ (i : Nat) (v : Value), k.cells[i]? = some v → ∃ v', cc[i]? = some v' ∧ VRel μ v v') (hty : k.ty ≠ 0 → el + 1 = k.ty := by intro h; exact absurd rfl h) :
    Rel C (μ.put h.next ⟨w.heap.size, 0, extra, k.s, k.n⟩) (h.new k) B w0 (w.alloc (.cells cc el)) ∧ μ.le (μ.put h.next ⟨w.heap.size, 0, extra, k.s, k.n⟩) := by
  have hle : μ.le (μ.put h.next ⟨w.heap.size, 0, extra, k.s, k.n⟩) := Map.le_put (r.next_none (Nat.le_refl _))
  have hold : ∀ i, i < w.heap.size → (w.alloc (.cells cc el)).heap[i]? = w.heap[i]? := fun i hi => Below.heap_alloc _ _ _ hi
  have hnew : (w.alloc (.cells cc el)).heap[w.heap.size]? = some (.cells cc el (0, 0)) := heap_alloc_new w _
  refine ⟨⟨r.below.alloc r.size _, by have := r.size; simp; omega, r.zk_old hold, ?_, ?_, ?_, r.aux.keep hle (keeps_of_old hold)⟩, hle⟩
  · intro b e hb
    by_cases hbn : b = h.next
    · subst hbn; simp [Heap.new]
    · rw [Map.put_other hbn] at hb
      have := r.fresh b e hb; simp [Heap.new]; omega
  · intro b k1 hb
    by_cases hbn : b = h.next
    · subst hbn
      simp only [Heap.new, T.get_put_same, Option.some.injEq] at hb; subst hb
      refine ⟨_, Map.put_same _ _ _, ⟨rfl, rfl, hlen, hg, fun _ => ⟨r.own_size, rfl, cc, el, hnew, hsz⟩, fun ho => absurd ho (by simp [hown]), ?_, fun _ ht c l fr hq => by rw [hnew] at hq; cases hq; exact hty ht⟩⟩
      intro i v hi
      obtain ⟨v', a, b⟩ := hc i v hi
      exact ⟨cc, el, (0, 0), v', hnew, by simpa using a, b.mono hle⟩
    · simp only [Heap.new, T.get_put_other _ _ hbn] at hb
      obtain ⟨e, he, x⟩ := r.blk b k1 hb
      exact ⟨e, hle _ _ he, x.mono hle hold⟩
  · intro b1 b2 k1 k2 e1 e2 h1 h2 hn o1 o2 m1 m2
    have hx : ∀ b3 k3 e3, b3 ≠ h.next → (h.new k).blks.get b3 = some k3 → k3.own = true → (μ.put h.next ⟨w.heap.size, 0, extra, k.s, k.n⟩) b3 = some e3 → h.blks.get b3 = some k3 ∧ μ b3 = some e3 ∧ e3.blk < w.heap.size := by
      intro b3 k3 e3 hb h3 o3 m3
      simp only [Heap.new, T.get_put_other _ _ hb] at h3
      rw [Map.put_other hb] at m3
      obtain ⟨e, he, x⟩ := r.blk b3 k3 h3
      rw [m3] at he; cases he
      exact ⟨h3, m3, x.lt o3⟩
    by_cases c1 : b1 = h.next
    · have c2 : b2 ≠ h.next := by intro c; exact hn (by rw [c1, c])
      obtain ⟨_, _, hlt⟩ := hx b2 k2 e2 c2 h2 o2 m2
      rw [c1, Map.put_same] at m1; cases m1
      simp; omega
    · by_cases c2 : b2 = h.next
      · obtain ⟨_, _, hlt⟩ := hx b1 k1 e1 c1 h1 o1 m1
        rw [c2, Map.put_same] at m2; cases m2
        simp; omega
      · obtain ⟨a1, a2, _⟩ := hx b1 k1 e1 c1 h1 o1 m1
        obtain ⟨d1, d2, _⟩ := hx b2 k2 e2 c2 h2 o2 m2
        exact r.apart b1 b2 k1 k2 e1 e2 a1 d1 hn o1 o2 a2 d2

/-- one block more that is not to be turned -/
def Fr.with (B : Fr) (c : Nat) (o : Obj) : Fr := ⟨B.n, fun i => if i = c then some o else B.z i⟩

theorem Fr.own_with {B : Fr} {c i : Nat} {o : Obj} : (B.with c o).own i ↔ B.own i ∧ i ≠ c := by
  unfold Fr.own Fr.with
  by_cases h : i = c <;> simp [h]

theorem AuxOk.frame {μ : Map} {L : T LRec} {M : List Nat} {B B' : Fr} {w w' : World} (x : AuxOk C μ L M B w) (hw : ∀ i, i < w.heap.size → w'.heap[i]? = w.heap[i]?) (ho : ∀ i, i < w.heap.size → B.own i → B'.own i) : AuxOk C μ L M B' w' := by
  have hlt : ∀ {i : Nat} {o : Obj}, w.heap[i]? = some o → i < w.heap.size := fun h => (Array.getElem?_eq_some_iff.1 h).1
  refine ⟨fun b k hb => ?_, x.lapart, fun m hm => ?_, x.mapart⟩
  · obtain ⟨e, he, h0, r, h1, h2⟩ := x.loop b k hb
    exact ⟨e, he, ho _ (hlt h1) h0, r, by rw [hw _ (hlt h1)]; exact h1, h2⟩
  · obtain ⟨e, he, h0, h1⟩ := x.mark m hm
    exact ⟨e, he, ho _ (hlt h1) h0, by rw [hw _ (hlt h1)]; exact h1⟩

/-- a row is laid that is not told of yet -/
theorem Rel.ahead {μ : Map} {h : Heap} {B : Fr} {w0 w : World} (r : Rel C μ h B w0 w) (cc : Array Value) (el : TypeId) :
    Rel C μ h (B.with w.heap.size (.cells cc el (0, 0))) w0 (w.alloc (.cells cc el)) := by
  have hold : ∀ i, i < w.heap.size → (w.alloc (.cells cc el)).heap[i]? = w.heap[i]? := fun i hi => Below.heap_alloc _ _ _ hi
  have hnew : (w.alloc (.cells cc el)).heap[w.heap.size]? = some (.cells cc el (0, 0)) := heap_alloc_new w _
  have hown : ∀ i, i < w.heap.size → B.own i → (B.with w.heap.size (.cells cc el (0, 0))).own i := fun i hi ho => Fr.own_with.2 ⟨ho, by omega⟩
  refine ⟨r.below.alloc r.size _, by have := r.size; simp [Fr.with]; omega, fun i o hz => ?_, r.fresh, fun b k hb => ?_, r.apart, r.aux.frame hold hown⟩
  · unfold Fr.with at hz
    simp only at hz
    split at hz
    · rename_i hi; rw [hi, hnew]; exact hz
    · exact r.zk_old hold i o hz
  · obtain ⟨e, he, x⟩ := r.blk b k hb
    have y := x.mono μ.le_refl hold
    exact ⟨e, he, y.s, y.n, y.len, y.grown, fun ho => by
      obtain ⟨a1, a2, a3⟩ := y.own ho
      exact ⟨hown _ (x.lt ho) a1, a2, a3⟩, y.ro, y.cell, y.ty⟩

/-- it is told of now -/
theorem Rel.absorb {μ : Map} {h : Heap} {B : Fr} {w0 w : World} {c : Nat} {cc : Array Value} {el : TypeId} (r : Rel C μ h (B.with c (.cells cc el (0, 0))) w0 w) (hB : B.own c) (k : Blk) (hown : k.own = true)
    (hlen : k.cells.length ≤ k.n) (hsz : cc.size = k.n) (hc : ∀ (i : Nat) (v : Value), k.cells[i]? = some v → ∃ v', cc[i]? = some v' ∧ VRel μ v v') (hty : k.ty ≠ 0 → el + 1 = k.ty := by intro h; exact absurd rfl h) :
    Rel C (μ.put h.next ⟨c, 0, 0, k.s, k.n⟩) (h.new k) B w0 w ∧ μ.le (μ.put h.next ⟨c, 0, 0, k.s, k.n⟩) := by
  have hle : μ.le (μ.put h.next ⟨c, 0, 0, k.s, k.n⟩) := Map.le_put (r.next_none (Nat.le_refl _))
  have hnew : w.heap[c]? = some (.cells cc el (0, 0)) := r.zk c _ (by simp [Fr.with])
  refine ⟨⟨r.below, r.size, fun i o hz => r.zk i o ?_, ?_, ?_, ?_, (r.aux.frame (B' := B) (fun _ _ => rfl) (fun _ _ ho => (Fr.own_with.1 ho).1)).keep hle (fun _ _ h _ => h)⟩, hle⟩
  · have hic : i ≠ c := hB.ne hz
    simp only [Fr.with, if_neg hic]; exact hz
  · intro b e hb
    by_cases hbn : b = h.next
    · subst hbn; simp [Heap.new]
    · rw [Map.put_other hbn] at hb
      have := r.fresh b e hb; simp [Heap.new]; omega
  · intro b k1 hb
    by_cases hbn : b = h.next
    · subst hbn
      simp only [Heap.new, T.get_put_same, Option.some.injEq] at hb; subst hb
      refine ⟨_, Map.put_same _ _ _, ⟨rfl, rfl, hlen, fun _ => rfl, fun _ => ⟨hB, rfl, cc, el, hnew, by simpa using hsz⟩, fun ho => absurd ho (by simp [hown]), ?_, fun _ ht c' l' fr hq => by rw [hnew] at hq; cases hq; exact hty ht⟩⟩
      intro i v hi
      obtain ⟨v', a, b⟩ := hc i v hi
      exact ⟨cc, el, (0, 0), v', hnew, by simpa using a, b.mono hle⟩
    · simp only [Heap.new, T.get_put_other _ _ hbn] at hb
      obtain ⟨e, he, x⟩ := r.blk b k1 hb
      have y := x.mono hle (fun i _ => rfl)
      exact ⟨e, hle _ _ he, y.s, y.n, y.len, y.grown, fun ho => by
        obtain ⟨a1, a2, a3⟩ := y.own ho
        exact ⟨(Fr.own_with.1 a1).1, a2, a3⟩, y.ro, y.cell, y.ty⟩
  · intro b1 b2 k1 k2 e1 e2 h1 h2 hn o1 o2 m1 m2
    have hx : ∀ b3 k3 e3, b3 ≠ h.next → (h.new k).blks.get b3 = some k3 → k3.own = true → (μ.put h.next ⟨c, 0, 0, k.s, k.n⟩) b3 = some e3 → h.blks.get b3 = some k3 ∧ μ b3 = some e3 ∧ e3.blk ≠ c := by
      intro b3 k3 e3 hb h3 o3 m3
      simp only [Heap.new, T.get_put_other _ _ hb] at h3
      rw [Map.put_other hb] at m3
      obtain ⟨e, he, x⟩ := r.blk b3 k3 h3
      rw [m3] at he; cases he
      exact ⟨h3, m3, (Fr.own_with.1 (x.own o3).1).2⟩
    by_cases c1 : b1 = h.next
    · have c2 : b2 ≠ h.next := by intro c; exact hn (by rw [c1, c])
      obtain ⟨_, _, hne⟩ := hx b2 k2 e2 c2 h2 o2 m2
      rw [c1, Map.put_same] at m1; cases m1
      exact fun hc => hne hc.symm
    · by_cases c2 : b2 = h.next
      · obtain ⟨_, _, hne⟩ := hx b1 k1 e1 c1 h1 o1 m1
        rw [c2, Map.put_same] at m2; cases m2
        exact hne
      · obtain ⟨a1, a2, _⟩ := hx b1 k1 e1 c1 h1 o1 m1
        obtain ⟨d1, d2, _⟩ := hx b2 k2 e2 c2 h2 o2 m2
        exact r.apart b1 b2 k1 k2 e1 e2 a1 d1 hn o1 o2 a2 d2

/-- a block is told of no more -/
def Heap.kill (h : Heap) (b : Nat) (k : Blk) : Heap := { h with blks := h.blks.clr b }

theorem Rel.kill {μ : Map} {h : Heap} {B : Fr} {w0 w : World} (r : Rel C μ h B w0 w) {b : Nat} {k : Blk} (hk : h.blks.get b = some k) : Rel C μ (h.kill b k) B w0 w := by
  have hx : ∀ b3 k3, (h.kill b k).blks.get b3 = some k3 → h.blks.get b3 = some k3 := fun b3 k3 h3 => by
    by_cases hb : b3 = b
    · subst hb; simp only [Heap.kill, T.get_clr_same] at h3; cases h3
    · simpa only [Heap.kill, T.get_clr_other _ _ _ hb] using h3
  exact ⟨r.below, r.size, r.zk, r.fresh, fun b1 k1 h1 => r.blk b1 k1 (hx _ _ h1), fun b1 b2 k1 k2 e1 e2 h1 h2 => r.apart b1 b2 k1 k2 e1 e2 (hx _ _ h1) (hx _ _ h2), r.aux⟩

/-- a block is not there any more; its frozen range may turn -/
def Heap.del (h : Heap) (b : Nat) : Heap := { h with blks := h.blks.clr b }

theorem Rel.del {μ : Map} {h : Heap} {B : Fr} {w0 w : World} (r : Rel C μ h B w0 w) {b : Nat} {k : Blk} (hk : h.blks.get b = some k) (hown : k.own = true) {e : Ent} (he : μ b = some e) {w' : World}
    (hb : Below B.n w w') (hsz : w'.heap.size = w.heap.size) (hsame : ∀ i, i ≠ e.blk → w'.heap[i]? = w.heap[i]?) (hrow : ∃ cc el fr, w'.heap[e.blk]? = some (.cells cc el fr)) :
    Rel C μ (h.del b) B w0 w' := by
  obtain ⟨e0, he0, x⟩ := r.blk b k hk
  rw [he] at he0; cases he0
  obtain ⟨hB, _, cc0, el0, hh0, _⟩ := x.own hown
  have hget : ∀ b1 k1, (h.del b).blks.get b1 = some k1 → b1 ≠ b ∧ h.blks.get b1 = some k1 := fun b1 k1 h1 => by
    by_cases hc : b1 = b
    · subst hc; simp only [Heap.del, T.get_clr_same] at h1; cases h1
    · simp only [Heap.del, T.get_clr_other _ _ _ hc] at h1; exact ⟨hc, h1⟩
  have hkeep : Keeps w w' := fun i o ho hr => by
    have : i ≠ e.blk := fun hc => by rw [hc, hh0] at ho; cases ho; cases hr
    rw [hsame i this]; exact ho
  refine ⟨r.below.trans hb, by rw [hsz]; exact r.size, fun i o hz => by rw [hsame i (hB.ne hz)]; exact r.zk i o hz, r.fresh, fun b1 k1 h1 => ?_, fun b1 b2 k1 k2 e1 e2 h1 h2 hn o1 o2 m1 m2 => ?_, r.aux.keep μ.le_refl hkeep⟩
  · obtain ⟨hc, h2⟩ := hget b1 k1 h1
    obtain ⟨e1, he1, x1⟩ := r.blk b1 k1 h2
    have hq : e1.blk ≠ e.blk := by
      cases ho : k1.own with
      | true => exact r.apart b1 b k1 k e1 e h2 hk hc ho hown he1 he
      | false => have := x1.ro ho; have := hB.1; omega
    refine ⟨e1, he1, x1.s, x1.n, x1.len, x1.grown, fun ho => ?_, x1.ro, fun i v hi => ?_, fun ho ht cc el fr hh => ?_⟩
    · obtain ⟨a1, a2, cc, el, a3, a4⟩ := x1.own ho
      exact ⟨a1, a2, cc, el, by rw [hsame _ hq]; exact a3, a4⟩
    · obtain ⟨cc, el, fr, v', a1, a2, a3⟩ := x1.cell i v hi
      exact ⟨cc, el, fr, v', by rw [hsame _ hq]; exact a1, a2, a3⟩
    · rw [hsame _ hq] at hh; exact x1.ty ho ht _ _ _ hh
  · obtain ⟨_, g1⟩ := hget b1 k1 h1
    obtain ⟨_, g2⟩ := hget b2 k2 h2
    exact r.apart b1 b2 k1 k2 e1 e2 g1 g2 hn o1 o2 m1 m2

/-- a row that was appended to in place, under a new name; the elder one is told of no more -/
theorem Rel.regrow {μ : Map} {h : Heap} {B : Fr} {w0 w : World} (r : Rel C μ h B w0 w) {b : Nat} {k : Blk} (hk : h.blks.get b = some k) (hown : k.own = true) (hne : k.cells ≠ []) {e : Ent} (he : μ b = some e)
    {cc : Array Value} {el : TypeId} (hh : w.heap[e.blk]? = some (.cells cc el (0, 0))) (cc' : Array Value) (hsz : cc'.size = cc.size) (k' : Blk) (hown' : k'.own = true) (hg : k'.grown = true) (extra : Nat)
    (hlen : k'.cells.length ≤ k'.n) (hsz' : cc.size = k'.n + extra * k'.s) (hcs : ∀ (i : Nat) (v : Value), k'.cells[i]? = some v → ∃ v', cc'[i]? = some v' ∧ VRel μ v v') (hty : k'.ty ≠ 0 → el + 1 = k'.ty := by intro h; exact absurd rfl h) :
    Rel C (μ.put h.next ⟨e.blk, 0, extra, k'.s, k'.n⟩) ((h.kill b k).new k') B w0 (w.setRow e.blk cc') ∧ μ.le (μ.put h.next ⟨e.blk, 0, extra, k'.s, k'.n⟩) := by
  have hle : μ.le (μ.put h.next ⟨e.blk, 0, extra, k'.s, k'.n⟩) := Map.le_put (r.next_none (Nat.le_refl _))
  have hbn : b < h.next := r.get_lt hk
  obtain ⟨e', he', x⟩ := r.blk b k hk
  rw [he] at he'; cases he'
  obtain ⟨hB, hbase, cc0, el0, hh0, hs0⟩ := x.own hown
  rw [hh] at hh0; cases hh0
  have hnew := setRow_heap w e.blk cc cc' el (0, 0) hh
  have r0 := r.row hk hown hne he hh cc' hsz [] (by simp) (fun i v hi => by simp at hi)
  have hkill : ∀ b3 k3, (h.kill b k).blks.get b3 = some k3 → b3 ≠ b ∧ h.blks.get b3 = some k3 := fun b3 k3 h3 => by
    by_cases hb : b3 = b
    · subst hb; simp only [Heap.kill, T.get_clr_same] at h3; cases h3
    · simp only [Heap.kill, T.get_clr_other _ _ _ hb] at h3; exact ⟨hb, h3⟩
  have hput : ∀ b3 k3, (h.kill b k).blks.get b3 = some k3 → (h.blks.put b { k with cells := [] }).get b3 = some k3 := fun b3 k3 h3 => by
    obtain ⟨g1, g2⟩ := hkill b3 k3 h3
    rw [T.get_put_other _ _ g1]; exact g2
  have r1 : Rel C μ (h.kill b k) B w0 (w.setRow e.blk cc') :=
    ⟨r0.below, r0.size, r0.zk, r0.fresh, fun b3 k3 h3 => r0.blk b3 k3 (hput _ _ h3), fun b1 b2 k1 k2 e1 e2 h1 h2 => r0.apart b1 b2 k1 k2 e1 e2 (hput _ _ h1) (hput _ _ h2), r0.aux⟩
  have hgetk : ∀ b3 k3, ((h.kill b k).new k').blks.get b3 = some k3 → b3 ≠ h.next → (h.kill b k).blks.get b3 = some k3 := by
    intro b3 k3 h3 hb
    simpa only [Heap.new, Heap.kill, T.get_put_other _ _ hb] using h3
  refine ⟨⟨r1.below, r1.size, r1.zk, ?_, ?_, ?_, r.aux.keep hle (keeps_setRow hh cc')⟩, hle⟩
  · intro b1 e1 hb
    by_cases hb1 : b1 = h.next
    · subst hb1; simp [Heap.new, Heap.kill]
    · rw [Map.put_other hb1] at hb
      have := r.fresh b1 e1 hb; simp [Heap.new, Heap.kill]; omega
  · intro b1 k1 hb1
    by_cases hb : b1 = h.next
    · subst hb
      simp only [Heap.new, Heap.kill, T.get_put_same, Option.some.injEq] at hb1; subst hb1
      refine ⟨_, Map.put_same _ _ _, ⟨rfl, rfl, hlen, fun hf => absurd hf (by simp [hg]), fun _ => ⟨hB, rfl, cc', el, hnew, by rw [hsz]; exact hsz'⟩, fun ho => absurd ho (by simp [hown']), ?_, fun _ ht c l fr hq => by rw [hnew] at hq; cases hq; exact hty ht⟩⟩
      intro i v hi
      obtain ⟨v', a, c⟩ := hcs i v hi
      exact ⟨cc', el, (0, 0), v', hnew, by simpa using a, c.mono hle⟩
    · obtain ⟨e1, he1, x1⟩ := r1.blk b1 k1 (hgetk b1 k1 hb1 hb)
      exact ⟨e1, hle _ _ he1, x1.mono hle (fun _ _ => rfl)⟩
  · intro b1 b2 k1 k2 e1 e2 h1 h2 hn o1 o2 m1 m2
    have key : ∀ b3 k3 e3, b3 ≠ h.next → ((h.kill b k).new k').blks.get b3 = some k3 → k3.own = true → (μ.put h.next ⟨e.blk, 0, extra, k'.s, k'.n⟩) b3 = some e3 → e3.blk ≠ e.blk ∧ μ b3 = some e3 := by
      intro b3 k3 e3 hb h3 o3 m3
      have h4 := hgetk b3 k3 h3 hb
      rw [Map.put_other hb] at m3
      obtain ⟨hbb, h5⟩ := hkill b3 k3 h4
      exact ⟨r.apart b3 b k3 k e3 e h5 hk hbb o3 hown m3 he, m3⟩
    by_cases c1 : b1 = h.next
    · have c2 : b2 ≠ h.next := by intro c; exact hn (by rw [c1, c])
      obtain ⟨hd, _⟩ := key b2 k2 e2 c2 h2 o2 m2
      rw [c1, Map.put_same] at m1; cases m1
      exact fun hc => hd hc.symm
    · by_cases c2 : b2 = h.next
      · obtain ⟨hd, _⟩ := key b1 k1 e1 c1 h1 o1 m1
        rw [c2, Map.put_same] at m2; cases m2
        exact hd
      · obtain ⟨_, a2⟩ := key b1 k1 e1 c1 h1 o1 m1
        obtain ⟨_, d2⟩ := key b2 k2 e2 c2 h2 o2 m2
        exact r1.apart b1 b2 k1 k2 e1 e2 (hgetk _ _ h1 c1) (hgetk _ _ h2 c2) hn o1 o2 a2 d2

end
end Go.Proofs.YthjhlifbdieibaaGreatDoor.Ai
/- The operations of a run over the abstract heap, each held against the model's. -/
namespace Go.Proofs.YthjhlifbdieibaaGreatDoor.Ai
noncomputable section
open Go.RowKit

def ev (ts : T Value) : Opd → Value
  | .t i => look ts i
  | .c v => v

def evO (ts : T Value) : Option Opd → Option Value
  | some x => some (ev ts x)
  | none => none

/-- a value that stands for itself -/
def selfOk : Value → Bool
  | .agg cs => cs.toList.all plain
  | .func (.func _) fs cs => fs.toList.isEmpty && cs.toList.isEmpty
  | v => plain v

theorem VRel.self {v : Value} (h : selfOk v = true) (μ : Map) : VRel μ v v := by
  have hp : ∀ l : List Value, l.all plain = true → ∀ (i : Nat) (x x' : Value), l[i]? = some x → l[i]? = some x' → VRel μ x x' := fun l hl i x x' a b => (VsRel.of_plain (μ := μ) hl).2 i x x' a b
  have he : ∀ l : List Value, l.isEmpty = true → ∀ (i : Nat) (x x' : Value), l[i]? = some x → l[i]? = some x' → VRel μ x x' := fun l hl i x x' a _ => by
    have : l = [] := by simpa using hl
    subst this; simp at a
  cases v with
  | agg cs => exact .agg cs cs rfl (hp _ h)
  | func fn fs cs =>
    cases fn <;> simp only [selfOk, plain, Bool.and_eq_true] at h <;> first | cases h; done | exact .func _ fs fs cs cs (by simp) rfl (he _ h.1) rfl (he _ h.2) | (cases h)
  | _ => first | exact .same _ h | (cases h)

def compOpd : Operand → Option Opd
  | .tmp t => some (.t t)
  | .const v => bif selfOk v then some (.c v) else none
  | .func f => some (.c (.func (.func f) #[] #[]))
  | .global _ => none

theorem compOpd_rel {μ : Map} {ts : T Value} {a : Act} (r : TsRel μ ts a) {x : Operand} {y : Opd} (h : compOpd x = some y) : VRel μ (ev ts y) (a.eval x) := by
  cases x with
  | tmp t => simp only [compOpd, Option.some.injEq] at h; subst h; exact r t
  | const v =>
    simp only [compOpd] at h
    cases hs : selfOk v with
    | false => rw [hs] at h; simp at h
    | true => rw [hs] at h; simp only [cond_true, Option.some.injEq] at h; subst h; exact VRel.self hs μ
  | func f => simp only [compOpd, Option.some.injEq] at h; subst h; exact VRel.self rfl μ
  | global g => cases h

theorem VRel.of_plain {μ : Map} {v v' : Value} (h : VRel μ v v') (hp : plain v = true) : v' = v := by
  cases h <;> first | rfl | (simp [plain] at hp)
theorem VRel.int {μ : Map} {k : IntKind} {n : Int} {v' : Value} (h : VRel μ (.int k n) v') : v' = .int k n := h.of_plain rfl
theorem VRel.bool {μ : Map} {b : Bool} {v' : Value} (h : VRel μ (.bool b) v') : v' = .bool b := h.of_plain rfl
theorem VRel.string {μ : Map} {s : ByteArray} {v' : Value} (h : VRel μ (.string s) v') : v' = .string s := h.of_plain rfl

theorem VRel.ptr_inv {μ : Map} {b o : Nat} {v' : Value} (h : VRel μ (.pointer (some ⟨b, o, none⟩)) v') : ∃ e, μ b = some e ∧ v' = .pointer (some ⟨e.blk, e.base + o, none⟩) := by
  cases h with
  | same _ hp => simp [plain] at hp
  | ptr b o e he => exact ⟨e, he, rfl⟩

theorem VRel.slice_inv {μ : Map} {b o len cap : Nat} {v' : Value} (h : VRel μ (.slice (some ⟨b, o, none⟩) len cap) v') :
    ∃ e, μ b = some e ∧ v' = .slice (some ⟨e.blk, e.base + o, none⟩) len (if o + cap * e.s = e.n then cap + e.extra else cap) := by
  cases h with
  | same _ hp => simp [plain] at hp
  | slice b o len cap e he => exact ⟨e, he, rfl⟩

theorem VRel.agg_inv {μ : Map} {cs : Array Value} {v' : Value} (h : VRel μ (.agg cs) v') : ∃ cs', v' = .agg cs' ∧ VsRel μ cs.toList cs'.toList := by
  cases h with
  | same _ hp => simp [plain] at hp
  | agg _ cs' h1 h2 => exact ⟨cs', rfl, h1, h2⟩

theorem VRel.tuple_inv {μ : Map} {cs : Array Value} {v' : Value} (h : VRel μ (.tuple cs) v') : ∃ cs', v' = .tuple cs' ∧ VsRel μ cs.toList cs'.toList := by
  cases h with
  | same _ hp => simp [plain] at hp
  | tuple _ cs' h1 h2 => exact ⟨cs', rfl, h1, h2⟩

theorem cells_rel {μ : Map} {v v' : Value} (h : VRel μ v v') : VsRel μ v.cells.toList v'.cells.toList := by
  cases h with
  | agg cs cs' h1 h2 => exact ⟨h1, h2⟩
  | same v hv => exact VsRel.single (.same v hv) |> fun x => by cases v <;> first | exact x | (simp [plain] at hv)
  | ptr b o e he => exact VsRel.single (.ptr b o e he)
  | slice b o len cap e he => exact VsRel.single (.slice b o len cap e he)
  | vague b o k a c => exact VsRel.single (.vague b o k a c)
  | func fn fs fs' cs cs' h0 h1 h2 h3 h4 => exact VsRel.single (.func fn fs fs' cs cs' h0 h1 h2 h3 h4)
  | yield b e he => exact VsRel.single (.yield b e he)
  | top v hv => rcases hv with ⟨a, rfl⟩ | ⟨a, n, c, rfl⟩ <;> exact VsRel.single (.top _ (by simp))
  | iface t v v' h => exact VsRel.single (.iface t v v' h)
  | tuple cs cs' h1 h2 => exact VsRel.single (.tuple cs cs' h1 h2)

/-- wrapped, quick where nothing wraps -/
def wrapF (k : IntKind) (n : Int) : Int := match k, n with
  | .i64, .ofNat m => bif Nat.blt m 9223372036854775808 then .ofNat m else IntKind.i64.wrap n
  | _, _ => k.wrap n

theorem wrapF_eq (k : IntKind) (n : Int) : wrapF k n = k.wrap n := by
  unfold wrapF
  split
  · rename_i m
    cases h : Nat.blt m 9223372036854775808 with
    | false => rfl
    | true =>
      have hm : m < 9223372036854775808 := by
        have : Nat.ble (m + 1) 9223372036854775808 = true := h
        have := Nat.le_of_ble_eq_true this; omega
      simp only [cond_true]
      exact (IntWalk.i64_in _ (by simp; omega)).symm
  · rfl

def abin (op : BinOp) (bt : Bool) (x y : Value) : Option Value := match x, y with
  | .int k a, .int k' b => match op with
    | .shl => bif decide (b < 0) then none else some (.int k (wrapF k (a * 2 ^ (min b.toNat k.bits))))
    | .shr => bif decide (b < 0) then none else some (.int k (a.fdiv (2 ^ (min b.toNat k.bits))))
    | _ => bif decide (k = k') then (match op with
      | .add => some (.int k (wrapF k (a + b)))
      | .sub => some (.int k (wrapF k (a - b)))
      | .mul => some (.int k (wrapF k (a * b)))
      | .quo => bif decide (b = 0) then none else some (.int k (wrapF k (a.tdiv b)))
      | .rem => bif decide (b = 0) then none else some (.int k (a.tmod b))
      | .and => some (.int k (k.wrap (BitVec.ofInt k.bits a &&& BitVec.ofInt k.bits b).toNat))
      | .or => some (.int k (k.wrap (BitVec.ofInt k.bits a ||| BitVec.ofInt k.bits b).toNat))
      | .xor => some (.int k (k.wrap (BitVec.ofInt k.bits a ^^^ BitVec.ofInt k.bits b).toNat))
      | .andNot => some (.int k (k.wrap (BitVec.ofInt k.bits a &&& ~~~(BitVec.ofInt k.bits b)).toNat))
      | .eql => some (.bool (a == b))
      | .neq => some (.bool (a != b))
      | .lss => some (.bool (decide (a < b)))
      | .leq => some (.bool (decide (a ≤ b)))
      | .gtr => some (.bool (decide (a > b)))
      | .geq => some (.bool (decide (a ≥ b)))
      | _ => none) else none
  | .bool a, .bool b => bif bt then (match op with
      | .eql => some (.bool (a == b))
      | .neq => some (.bool (!(a == b)))
      | _ => none) else none
  | .string a, .string b => match op with
      | .eql => some (.bool (a.toList == b.toList))
      | .neq => some (.bool (!(a.toList == b.toList)))
      | .add => bif Nat.ble (a.size + b.size) 1000000000 then some (.string (a ++ b)) else none
      | _ => none
  | _, _ => none

theorem guard_int {P : Program} {w : World} (op : BinOp) (t : TypeId) (X Y : Operand) (k k' : IntKind) (a b : Int) : (eqGuard op t X Y (.int k a) (.int k' b)).run P w = .ok () w := by cases op <;> rfl
theorem guard_bool {P : Program} {w : World} (op : BinOp) (t : TypeId) (X Y : Operand) (a b : Bool) : (eqGuard op t X Y (.bool a) (.bool b)).run P w = .ok () w := by cases op <;> rfl
theorem guard_string {P : Program} {w : World} (op : BinOp) (t : TypeId) (X Y : Operand) (a b : ByteArray) : (eqGuard op t X Y (.string a) (.string b)).run P w = .ok () w := by cases op <;> rfl

theorem abin_run {P : Program} {w : World} {op : BinOp} {bt : Bool} {t : TypeId} {x y v : Value} (h : abin op bt x y = some v) (hb : bt = true → P.underlying t = some .bool) (X Y : Operand) :
    (do eqGuard op t X Y x y; binOp op t x y : Sem Value).run P w = .ok v w ∧ plain v = true ∧ plain x = true ∧ plain y = true := by
  unfold abin at h
  split at h
  · rename_i k a k' b
    simp only [Sem.run_bind, guard_int, Result.andThen_ok]
    cases op with
    | shl =>
      simp only at h
      cases hb0 : decide (b < 0) with
      | true => rw [hb0] at h; cases h
      | false =>
        rw [hb0] at h; simp only [cond_false, Option.some.injEq] at h; subst h
        have : ¬ b < 0 := of_decide_eq_false hb0
        refine ⟨?_, rfl, rfl, rfl⟩
        simp [binOp, Op.shift, this, wrapF_eq]
    | shr =>
      simp only at h
      cases hb0 : decide (b < 0) with
      | true => rw [hb0] at h; cases h
      | false =>
        rw [hb0] at h; simp only [cond_false, Option.some.injEq] at h; subst h
        have : ¬ b < 0 := of_decide_eq_false hb0
        refine ⟨?_, rfl, rfl, rfl⟩
        simp [binOp, Op.shift, this]
    | _ =>
      simp only at h
      cases hk : decide (k = k') with
      | false => rw [hk] at h; cases h
      | true =>
        have hk := of_decide_eq_true hk
        subst hk
        simp only [decide_true, cond_true] at h
        first
          | (simp only [Option.some.injEq] at h; subst h; exact ⟨by simp [binOp, Op.intArith, Op.intBits, Op.intCmp, wrapF_eq], rfl, rfl, rfl⟩)
          | (cases hb0 : decide (b = 0) with
             | true => rw [hb0] at h; cases h
             | false =>
               rw [hb0] at h; simp only [cond_false, Option.some.injEq] at h; subst h
               have : ¬ b = 0 := of_decide_eq_false hb0
               exact ⟨by simp [binOp, Op.intDiv, this, wrapF_eq], rfl, rfl, rfl⟩)
          | cases h
  · rename_i a b
    simp only [Sem.run_bind, guard_bool, Result.andThen_ok]
    cases bt with
    | false => cases h
    | true =>
      have hu := hb rfl
      simp only [cond_true] at h
      cases op <;> first | (cases h; done) | (simp only [Option.some.injEq] at h; subst h; exact ⟨by simp [binOp, run_equal_bool _ _ _ _ hu], rfl, rfl, rfl⟩)
  · rename_i a b
    simp only [Sem.run_bind, guard_string, Result.andThen_ok]
    cases op <;> first
      | (cases h; done)
      | (simp only [Option.some.injEq] at h; subst h; exact ⟨by simp [binOp, Op.stringOp], rfl, rfl, rfl⟩)
      | (cases hl : Nat.ble (a.size + b.size) 1000000000 with
         | false => rw [hl] at h; cases h
         | true =>
           rw [hl] at h; simp only [cond_true, Option.some.injEq] at h; subst h
           have hl := ble_true hl
           have : ¬ ((a.size + b.size : Nat) : Int) > IntKind.i64.max := by simp [IntKind.max, IntKind.bits, IntKind.signed]; omega
           exact ⟨by simp only [binOp, Op.stringOp]; rw [if_neg this]; rfl, rfl, rfl, rfl⟩)
  · cases h

def isNilV : Nat → Value → Option Bool
  | 0, .pointer p => some p.isNone
  | 1, .slice p _ _ => some p.isNone
  | 2, .nilFunc => some true
  | 2, .func _ _ _ => some false
  | 3, .nilIface => some true
  | 3, .iface _ _ => some false
  | _, _ => none

def fillA : List Value → List (Nat × Nat × Value) → Option (List Value)
  | cells, [] => some cells
  | cells, (off, size, v) :: r => bif Nat.beq v.cells.toList.length size && Nat.ble (off + size) cells.length then fillA (splice cells off v.cells.toList) r else none

def evP (ts : T Value) : List (Nat × Nat × Opd) → List (Nat × Nat × Value)
  | [] => []
  | (a, b, x) :: r => (a, b, ev ts x) :: evP ts r

def eqE : ET → Value → Value → Option Bool
  | .int, .int k a, .int k' b => bif decide (k = k') then some (a == b) else none
  | .bool, .bool a, .bool b => some (a == b)
  | .str, .string a, .string b => some (a.toList == b.toList)
  | .done, .agg _, .agg _ => some true
  | .fld true off size sub rest, .agg xs, .agg ys => bif Nat.ble (off + size) xs.toList.length && Nat.ble (off + size) ys.toList.length then
      (match eqE sub (.agg ((xs.toList.drop off).take size).toArray) (.agg ((ys.toList.drop off).take size).toArray) with
        | some true => eqE rest (.agg xs) (.agg ys)
        | some false => some false
        | none => none) else none
  | .fld false off _ sub rest, .agg xs, .agg ys => (match xs.toList[off]?, ys.toList[off]? with
      | some a, some b => (match eqE sub a b with
        | some true => eqE rest (.agg xs) (.agg ys)
        | some false => some false
        | none => none)
      | _, _ => none)
  | _, _, _ => none

def evs (ts : T Value) : List Opd → List Value
  | [] => []
  | x :: r => ev ts x :: evs ts r

/-- is it from 0 on, and below? -/
def inB (n : Int) (len : Nat) : Bool := match n with
  | .ofNat m => Nat.blt m len
  | .negSucc _ => false

theorem inB_eq (n : Int) (len : Nat) : inB n len = (decide (0 ≤ n) && decide (n < len)) := by
  cases n with
  | ofNat m =>
    simp only [inB]
    have h0 : decide ((0 : Int) ≤ Int.ofNat m) = true := decide_eq_true (Int.natCast_nonneg m)
    rw [h0, Bool.true_and, Bool.eq_iff_iff, decide_eq_true_eq]
    constructor
    · intro h; have := Nat.le_of_ble_eq_true h; simp; omega
    · intro h; simp at h; exact Nat.ble_eq_true_of_le h
  | negSucc m =>
    simp only [inB]
    have : ¬ ((0 : Int) ≤ Int.negSucc m) := by omega
    simp [this]

def isI64 : IntKind → Bool
  | .i64 => true
  | _ => false

theorem isI64_eq {k : IntKind} (h : isI64 k = true) : k = .i64 := by cases k <;> first | rfl | cases h

/-- both from 0 on, 64 bits: the quick way, where there is one -/
def natF (op : BinOp) : Nat → Nat → Option Value := match op with
  | .add => fun m n => bif Nat.blt (Nat.add m n) 9223372036854775808 then some (.int .i64 (.ofNat (Nat.add m n))) else none
  | .sub => fun m n => bif Nat.ble n m && Nat.blt m 9223372036854775808 then some (.int .i64 (.ofNat (Nat.sub m n))) else none
  | .mul => fun m n => bif Nat.blt (Nat.mul m n) 9223372036854775808 then some (.int .i64 (.ofNat (Nat.mul m n))) else none
  | .eql => fun m n => some (.bool (Nat.beq m n))
  | .neq => fun m n => some (.bool (!(Nat.beq m n)))
  | .lss => fun m n => some (.bool (Nat.blt m n))
  | .leq => fun m n => some (.bool (Nat.ble m n))
  | .gtr => fun m n => some (.bool (Nat.blt n m))
  | .geq => fun m n => some (.bool (Nat.ble n m))
  | _ => fun _ _ => none

def abinF (op : BinOp) (bt : Bool) (x y : Value) : Option Value := match x, y with
  | .int k a, .int k' b => bif isI64 k && isI64 k' then (match a, b with
      | .ofNat m, .ofNat n => (match natF op m n with
        | some v => some v
        | none => abin op bt x y)
      | _, _ => abin op bt x y) else abin op bt x y
  | _, _ => abin op bt x y

theorem beq_dec (m n : Nat) : Nat.beq m n = (Int.ofNat m == Int.ofNat n) := by
  rcases beq_cases m n with ⟨a, b⟩ | ⟨a, b⟩
  · subst b; rw [a]; simp
  · rw [a]; symm; rw [beq_eq_false_iff_ne]; intro h; exact b (Int.ofNat.inj h)
theorem blt_dec (m n : Nat) : Nat.blt m n = decide (Int.ofNat m < Int.ofNat n) := by
  rw [Bool.eq_iff_iff, decide_eq_true_eq]
  constructor
  · intro h; have := Nat.le_of_ble_eq_true h; simp; omega
  · intro h; simp at h; exact Nat.ble_eq_true_of_le h
theorem ble_dec (m n : Nat) : Nat.ble m n = decide (Int.ofNat m ≤ Int.ofNat n) := by
  rw [Bool.eq_iff_iff, decide_eq_true_eq]
  constructor
  · intro h; have := Nat.le_of_ble_eq_true h; simp; omega
  · intro h; simp at h; exact Nat.ble_eq_true_of_le h

theorem wrapF_nat {m : Nat} (h : Nat.blt m 9223372036854775808 = true) : wrapF .i64 (Int.ofNat m) = Int.ofNat m := by simp only [wrapF, h, cond_true]

theorem natF_eq {op : BinOp} {m n : Nat} {v : Value} (bt : Bool) (h : natF op m n = some v) : abin op bt (.int .i64 (.ofNat m)) (.int .i64 (.ofNat n)) = some v := by
  cases op <;> simp only [natF] at h
  case add =>
    cases hc : Nat.blt (Nat.add m n) 9223372036854775808 with
    | false => rw [hc] at h; cases h
    | true =>
      rw [hc] at h; simp only [cond_true] at h; rw [← h]
      have := wrapF_nat hc
      simp only [abin, decide_true, cond_true]
      exact congrArg (fun x => some (Value.int .i64 x)) this
  case sub =>
    cases hc : (Nat.ble n m && Nat.blt m 9223372036854775808) with
    | false => rw [hc] at h; cases h
    | true =>
      rw [hc] at h; simp only [cond_true] at h; rw [← h]
      simp only [Bool.and_eq_true] at hc
      have c1 := Nat.le_of_ble_eq_true hc.1
      have c2 := Nat.le_of_ble_eq_true hc.2
      have e : Int.ofNat m - Int.ofNat n = Int.ofNat (Nat.sub m n) := by
        show (m : Int) - (n : Int) = ((m - n : Nat) : Int); omega
      have := wrapF_nat (m := Nat.sub m n) (Nat.ble_eq_true_of_le (by show m - n + 1 ≤ _; omega))
      simp only [abin, decide_true, cond_true, e]
      exact congrArg (fun x => some (Value.int .i64 x)) this
  case mul =>
    cases hc : Nat.blt (Nat.mul m n) 9223372036854775808 with
    | false => rw [hc] at h; cases h
    | true =>
      rw [hc] at h; simp only [cond_true] at h; rw [← h]
      have := wrapF_nat hc
      simp only [abin, decide_true, cond_true]
      exact congrArg (fun x => some (Value.int .i64 x)) this
  case eql => rw [← h]; simp only [abin, decide_true, cond_true, beq_dec]
  case neq => rw [← h]; simp only [abin, decide_true, cond_true, beq_dec]; rfl
  case lss => rw [← h]; simp only [abin, decide_true, cond_true, blt_dec]
  case leq => rw [← h]; simp only [abin, decide_true, cond_true, ble_dec]
  case gtr => rw [← h]; simp only [abin, decide_true, cond_true, blt_dec]
  case geq => rw [← h]; simp only [abin, decide_true, cond_true, ble_dec]
  all_goals cases h

theorem abinF_eq (op : BinOp) (bt : Bool) (x y : Value) : abinF op bt x y = abin op bt x y := by
  unfold abinF
  split
  · rename_i k a k' b
    cases hk : (isI64 k && isI64 k') with
    | false => rfl
    | true =>
      simp only [Bool.and_eq_true] at hk
      have e1 := isI64_eq hk.1
      have e2 := isI64_eq hk.2
      subst e1; subst e2
      simp only [cond_true]
      split
      · split
        · rename_i v hv; exact (natF_eq bt hv).symm
        · rfl
      · rfl
  · rfl

def popQ (q : POp) : T Value → Option Value := match q with
  | .mov x => fun ts => some (ev ts x)
  | .pick c a b => fun ts => match ev ts c with
    | .bool t => some (bif t then ev ts a else ev ts b)
    | _ => none
  | .bin op bt x y => fun ts => abinF op bt (ev ts x) (ev ts y)
  | .eqNil kind neg x => fun ts => match isNilV kind (ev ts x) with
    | some b => some (.bool (bif neg then !b else b))
    | none => none
  | .not x => fun ts => match ev ts x with
    | .bool b => some (.bool (!b))
    | _ => none
  | .neg x => fun ts => match ev ts x with
    | .int k n => some (.int k (wrapF k (0 - n)))
    | _ => none
  | .conv k x => fun ts => match ev ts x with
    | .int _ n => some (.int k (wrapF k n))
    | _ => none
  | .fieldAddr off x => fun ts => match ev ts x with
    | .pointer (some ⟨b, o, none⟩) => some (.pointer (some ⟨b, o + off, none⟩))
    | _ => none
  | .field1 off x => fun ts => match ev ts x with
    | .agg cs => cs.toList[off]?
    | _ => none
  | .fieldN off n x => fun ts => match ev ts x with
    | .agg cs => bif Nat.ble (off + n) cs.toList.length then some (.agg ((cs.toList.drop off).take n).toArray) else none
    | _ => none
  | .idxS s x i => fun ts => match ev ts x, ev ts i with
    | .slice (some ⟨b, o, none⟩) len _, .int _ n => bif inB n len then some (.pointer (some ⟨b, o + n.toNat * s, none⟩)) else none
    | _, _ => none
  | .idxA len s x i => fun ts => match ev ts x, ev ts i with
    | .pointer (some ⟨b, o, none⟩), .int _ n => bif inB n len then some (.pointer (some ⟨b, o + n.toNat * s, none⟩)) else none
    | _, _ => none
  | .idxStr x i => fun ts => match ev ts x, ev ts i with
    | .string s, .int _ n => bif decide (0 ≤ n) then (match s.data.toList[n.toNat]? with
      | some b => some (.int .u8 b.toNat)
      | none => none) else none
    | _, _ => none
  | .ext i x => fun ts => match ev ts x with
    | .tuple cs => cs.toList[i]?
    | _ => none
  | .len str x => fun ts => match ev ts x with
    | .slice _ n _ => bif str then none else some (.int .i64 n)
    | .string s => bif str then some (.int .i64 s.size) else none
    | _ => none
  | .nilchk x => fun ts => match ev ts x with
    | .pointer (some a) => some (.pointer (some a))
    | .iface t v => some (.iface t v)
    | .func (.func f) a b => some (.func (.func f) a b)
    | _ => none
  | .build zero parts => fun ts => match fillA zero (evP ts parts) with
    | some cs => some (.agg cs.toArray)
    | none => none
  | .mx x y => fun ts => match ev ts x, ev ts y with
    | .int k a, .int _ b => some (.int k (bif decide (b > a) then b else a))
    | _, _ => none
  | .mn x y => fun ts => match ev ts x, ev ts y with
    | .int k a, .int _ b => some (.int k (bif decide (b < a) then b else a))
    | _, _ => none
  | .eqS neg et x y => fun ts => match eqE et (ev ts x) (ev ts y) with
    | some b => some (.bool (bif neg then !b else b))
    | none => none
  | .mkFunc f fs cs => fun ts => some (.func (.func f) (evs ts fs).toArray (evs ts cs).toArray)
  | .mkIface t x => fun ts => some (.iface t (ev ts x))
  | .tyAs t zero x => fun ts => match ev ts x with
    | .iface u v => bif Nat.beq u t then some (.tuple #[v, .bool true]) else some (.tuple #[zero, .bool false])
    | .nilIface => some (.tuple #[zero, .bool false])
    | _ => none
  | .idxV1 len s x i => fun ts => match ev ts x, ev ts i with
    | .agg cs, .int _ n => bif inB n len then cs.toList[n.toNat * s]? else none
    | _, _ => none
  | .idxVN len s x i => fun ts => match ev ts x, ev ts i with
    | .agg cs, .int _ n => bif inB n len && Nat.ble (n.toNat * s + s) cs.toList.length then some (.agg ((cs.toList.drop (n.toNat * s)).take s).toArray) else none
    | _, _ => none
  | .usd x => fun ts => match ev ts x with
    | .slice none _ _ => some (.pointer none)
    | .slice (some ⟨b, o, none⟩) _ c => bif Nat.ble 1 c then some (.pointer (some ⟨b, o, none⟩)) else none
    | _ => none
  | .bad => fun _ => none

def pop (ts : T Value) (q : POp) : Option Value := popQ q ts

def asNat : Value → Option Nat
  | .int _ n => bif decide (0 ≤ n) then some n.toNat else none
  | _ => none

def asNO (ts : T Value) (d : Nat) : Option Opd → Option Nat
  | some l => asNat (ev ts l)
  | none => some d

/-- bytes as a string -/
def bytesGo (s : ByteArray) : List Value → Option ByteArray
  | [] => some s
  | .int .u8 n :: r => bytesGo (s.push (UInt8.ofNat n.toNat)) r
  | _ :: _ => none

def btsV (h : Heap) : Value → Option Value
  | .slice none _ _ => some (.string .empty)
  | .slice (some ⟨b, o, none⟩) n _ => (match h.rds b o n with
    | some l => (match bytesGo .empty l with
      | some s => some (.string s)
      | none => none)
    | none => none)
  | .slice (some ⟨_, _, some _⟩) 0 0 => some (.string .empty)
  | _ => none

def ropQ (q : ROp) : T Value → Heap → Option Value := match q with
  | .load1 x => fun ts h => match ev ts x with
    | .pointer (some ⟨b, o, none⟩) => h.rd b o
    | _ => none
  | .loadN n x => fun ts h => match ev ts x with
    | .pointer (some ⟨b, o, none⟩) => (match h.rds b o n with
      | some l => some (.agg l.toArray)
      | none => none)
    | _ => none
  | .slice s x lo hi mx => fun ts h => match asNO ts 0 lo with
    | none => none
    | some l => match ev ts x with
    | .slice base len cap => (match asNO ts len hi, asNO ts cap mx with
      | some hh, some m => bif Nat.ble l hh && Nat.ble hh m && Nat.ble m cap && (mx.isNone || hi.isSome) then (match base with
        | none => some (.slice none (hh - l) (m - l))
        | some ⟨b, o, none⟩ => (match h.blks.get b with
          | some k => bif Nat.beq k.s s then
              (bif Nat.beq m l then some (.slice (some ⟨b, o, some 0⟩) 0 0) else bif mx.isSome && (k.grown && Nat.beq (o + m * s) k.n) then none else some (.slice (some ⟨b, o + l * s, none⟩) (hh - l) (m - l)))
            else none
          | none => none)
        | some ⟨b, o, some q⟩ => bif Nat.beq len 0 && Nat.beq cap 0 then some (.slice (some ⟨b, o, some q⟩) 0 0) else none) else none
      | _, _ => none)
    | _ => none
  | .cap x => fun ts h => match ev ts x with
    | .slice none _ c => some (.int .i64 c)
    | .slice (some ⟨b, o, none⟩) _ cap => (match h.blks.get b with
      | some k => bif k.grown && Nat.beq (o + cap * k.s) k.n then none else some (.int .i64 cap)
      | none => none)
    | _ => none
  | .bts x => fun ts h => btsV h (ev ts x)

def rop (ts : T Value) (h : Heap) (q : ROp) : Option Value := ropQ q ts h

def rep (zero : List Value) : Nat → List Value
  | 0 => []
  | n + 1 => zero ++ rep zero n

def sevN (s n : Nat) : Nat := n * s

/-- append: so many elements more behind a slice -/
def appA (h : Heap) (s bytes ty : Nat) (base : Option Addr) (len cap : Nat) (news : List Value) (n : Nat) : Option (Value × Heap) :=
  bif Nat.ble ((len + n) * bytes) 1099511627776 && Nat.ble (len + n) 1099511627776 && Nat.ble 1 s && news.all scalar then (match base with
  | none => bif Nat.beq n 0 then (bif Nat.ble len cap then some (.slice none len cap, h) else none) else
      bif Nat.beq len 0 && Nat.beq cap 0 then some (.slice (some ⟨h.next, 0, none⟩) n n, h.new { cells := news, n := n * s, s := s, own := true, grown := true, ty := ty }) else none
  | some ⟨b, o, none⟩ => (match h.blks.get b with
    | none => none
    | some k => bif !(Nat.beq k.s s) then none else
      bif Nat.ble (len + n) cap then
        (bif Nat.beq n 0 then some (.slice base len cap, h) else
        match h.wrs b (o + len * s) news with
        | some h' => some (.slice base (len + n) cap, h')
        | none => none)
      else (match h.rds b o (len * s) with
        | none => none
        | some olds =>
          let k' : Blk := { cells := olds ++ news, n := (len + n) * s, s := s, own := true, grown := true, ty := bif Nat.beq k.ty ty then ty else 0 }
          bif k.grown && Nat.beq (o + cap * s) k.n then
            (bif Nat.beq o 0 && k.own && olds.all scalar && Nat.ble 1 k.cells.length then some (.slice (some ⟨h.next, 0, none⟩) (len + n) (len + n), (h.kill b k).new k') else none)
          else some (.slice (some ⟨h.next, 0, none⟩) (len + n) (len + n), h.new k')))
  | some ⟨b, o, some q⟩ => bif Nat.beq n 0 && Nat.beq len 0 && Nat.beq cap 0 then some (.slice (some ⟨b, o, some q⟩) 0 0, h) else none) else none

def isStrV : Value → Bool
  | .string _ => true
  | _ => false

def srcCells (h : Heap) (s : Nat) : Value → Option (List Value × Nat)
  | .slice none n _ => bif Nat.beq n 0 then some ([], 0) else none
  | .slice (some ⟨b, o, none⟩) n _ => (match h.rds b o (n * s) with
    | some l => some (l, n)
    | none => none)
  | .slice (some ⟨_, _, some _⟩) 0 0 => some ([], 0)
  | .string b => bif Nat.beq s 1 then some (b.data.toList.map fun x => .int .u8 x.toNat, b.size) else none
  | _ => none

def u8s : List Value → Option (List UInt8)
  | [] => some []
  | .int .u8 (.ofNat n) :: r => bif Nat.blt n 256 then (match u8s r with
    | some l => some (UInt8.ofNat n :: l)
    | none => none) else none
  | _ :: _ => none

/-- bytes of one's own row become a string: the row is told of no more -/
def ustV (h : Heap) (ty : Nat) (x y : Value) : Option (Value × Heap) := match x, y with
  | .pointer none, .int .i64 n => bif decide (n = 0) then some (.string .empty, h) else none
  | .pointer (some ⟨b, o, none⟩), .int .i64 (.ofNat n) => (match h.blks.get b with
    | some k => bif Nat.beq o 0 && Nat.ble 1 n && Nat.ble n 1000000000 && k.own && Nat.beq k.ty ty && Nat.ble n k.cells.length then (match u8s (k.cells.take n) with
        | some l => some (.string ⟨l.toArray⟩, h.kill b k)
        | none => none) else none
    | none => none)
  | _, _ => none

def eopQ (q : EOp) : T Value → Heap → Option (Value × Heap) := match q with
  | .store n a x => fun ts h => match ev ts a with
    | .pointer (some ⟨b, o, none⟩) => (let vs := (ev ts x).cells.toList
      bif Nat.beq vs.length n && Nat.ble 1 n then (match h.wrs b o vs with
        | some h' => some (undef, h')
        | none => none) else none)
    | _ => none
  | .box n x => fun ts h => (let vs := (ev ts x).cells.toList
      bif Nat.beq vs.length n then some (.pointer (some ⟨h.next, 0, none⟩), h.new { cells := vs, n := n, s := n, own := true, grown := false }) else none)
  | .alloc zero ty => fun _ h => some (.pointer (some ⟨h.next, 0, none⟩), h.new { cells := zero, n := zero.length, s := zero.length, own := true, grown := false, ty := ty })
  | .buildS s len zero parts => fun ts h => match fillA zero (evP ts parts) with
    | some cs => some (.slice (some ⟨h.next, 0, none⟩) len len, h.new { cells := cs, n := len * s, s := s, own := true, grown := false })
    | none => none
  | .mkS s bytes zero l c => fun ts h => match asNat (ev ts l), asNat (ev ts c) with
    | some l, some c => bif Nat.ble l c && Nat.ble (bytes * c) 1099511627776 && Nat.ble c 1099511627776 then some (.slice (some ⟨h.next, 0, none⟩) l c, h.new { cells := rep zero c, n := c * s, s := s, own := true, grown := false }) else none
    | _, _ => none
  | .app s bytes ty str x y => fun ts h => bif isStrV (ev ts y) == str then (match ev ts x, srcCells h s (ev ts y) with
    | .slice base len cap, some (news, n) => appA h s bytes ty base len cap news n
    | _, _ => none) else none
  | .appZ s bytes zero x y => fun ts h => match ev ts x, asNat (ev ts y) with
    | .slice base len cap, some n => bif Nat.ble n 1099511627776 then appA h s bytes 0 base len cap (rep zero n) n else none
    | _, _ => none
  | .ust ty x y => fun ts h => ustV h ty (ev ts x) (ev ts y)

def eop (ts : T Value) (h : Heap) (q : EOp) : Option (Value × Heap) := eopQ q ts h

end
end Go.Proofs.YthjhlifbdieibaaGreatDoor.Ai
/- The operations of the model's code, made ready for a run over the abstract heap; each does what the run says. -/
namespace Go.Proofs.YthjhlifbdieibaaGreatDoor.Ai
noncomputable section
open Go.RowKit

def o1 (x : Operand) (f : Opd → AOp) : AOp := match compOpd x with
  | some x => f x
  | none => .bad

def oO (x : Option Operand) (f : Option Opd → AOp) : AOp := match x with
  | none => f none
  | some x => match compOpd x with
    | some x => f (some x)
    | none => .bad

def oL : List Operand → Option (List Opd)
  | [] => some []
  | x :: r => match compOpd x, oL r with
    | some x, some r => some (x :: r)
    | _, _ => none

def nilKind (P : Program) (t : TypeId) : Operand → Option Nat
  | .const (.pointer none) => match P.underlying t with
    | some (.pointer _) => some 0
    | _ => none
  | .const (.slice none 0 0) => match P.underlying t with
    | some (.slice _) => some 1
    | _ => none
  | .const .nilFunc => match P.underlying t with
    | some (.func _ _ _) => some 2
    | _ => none
  | .const .nilIface => match P.underlying t with
    | some (.interface _) => some 3
    | _ => none
  | _ => none

def isBool (P : Program) (t : TypeId) : Bool := match P.underlying t with
  | some .bool => true
  | _ => false

def isAggT (P : Program) (t : TypeId) : Option Bool := match P.underlying t with
  | some (.struct _) => some true
  | some (.array _ _) => some true
  | some _ => some false
  | none => none

def compFs (P : Program) (f : TypeId → Option ET) : List Field → Option ET
  | [] => some .done
  | fl :: r => bif fl.name == "_" then none else match P.info? fl.type, isAggT P fl.type, f fl.type, compFs P f r with
    | some i, some ag, some sub, some rest => some (.fld ag fl.offset i.size sub rest)
    | _, _, _, _ => none

def compET (P : Program) : Nat → TypeId → Option ET
  | 0, _ => none
  | n + 1, t => match P.underlying t with
    | some (.int _) => some .int
    | some .bool => some .bool
    | some .string => some .str
    | some (.struct fields) => bif P.stoodInHeld t then none else compFs P (compET P n) fields.toList
    | _ => none

/-- a struct's type, whose values may be held against one another -/
def structET (P : Program) (t : TypeId) : Option ET := match P.underlying t with
  | some (.struct _) => bif P.eqGuardType P.depth t then none else compET P 6 t
  | _ => none

/-- the types that have a method of this name, straight on a pointer, and the function that it is -/
def methTbl (P : Program) (name : String) : List Nat → List (Nat × Nat)
  | [] => []
  | t :: r => match P.info? t, P.underlying t with
    | some i, some (.pointer _) => (match i.methods.find? (fun m => m.name == name) with
      | some m => (match m.path.toList, m.func with
        | [], some (f, true) => (t, f) :: methTbl P name r
        | _, _ => methTbl P name r)
      | none => methTbl P name r)
    | _, _ => methTbl P name r

/-- parts of a struct or an array: where each lies, how many cells it has -/
def compParts (place : Nat → Option (Nat × Nat)) : List (Nat × Operand) → Option (List (Nat × Nat × Opd))
  | [] => some []
  | (i, x) :: r => match place i, compOpd x, compParts place r with
    | some (o, s), some x, some r => some ((o, s, x) :: r)
    | _, _, _ => none

def zeroCells (P : Program) (t : TypeId) : Option (List Value) := match P.info? t with
  | some i => match i.zero with
    | some z => bif z.cells.toList.all plain && Nat.beq z.cells.toList.length i.size then some z.cells.toList else none
    | none => none
  | none => none

def elemOf' (P : Program) (t : TypeId) : Option (TypeId × Nat × Nat) := match P.underlying t with
  | some (.slice e) => match P.info? e with
    | some i => some (e, i.size, i.bytes)
    | none => none
  | _ => none

def compBuiltin (P : Program) (b : Builtin) (ats : Array TypeId) (args : List Operand) : AOp := match b, args with
  | .len, [x] => match ats.toList with
    | [t] => match P.underlying t with
      | some (.slice _) => o1 x fun x => .p (.len false x)
      | some .string => o1 x fun x => .p (.len true x)
      | _ => .bad
    | _ => .bad
  | .cap, [x] => match ats.toList with
    | [t] => match P.underlying t with
      | some (.slice _) => o1 x fun x => .r (.cap x)
      | _ => .bad
    | _ => .bad
  | .unsafeSliceData, [x] => o1 x fun x => .p (.usd x)
  | .unsafeString, [x, y] => match ats.toList with
    | [t, _] => match P.underlying t with
      | some (.pointer e) => match P.info? e with
        | some i => bif Nat.beq i.size 1 then o1 x fun x => o1 y fun y => .e (.ust (e + 1) x y) else .bad
        | none => .bad
      | _ => .bad
    | _ => .bad
  | .max, [x, y] => o1 x fun x => o1 y fun y => .p (.mx x y)
  | .min, [x, y] => o1 x fun x => o1 y fun y => .p (.mn x y)
  | .append, [x, y] => match ats.toList with
    | [t, u] => match elemOf' P t with
      | some (e, s, bytes) => match P.underlying u with
        | some (.slice _) => o1 x fun x => o1 y fun y => match zeroCells P e with
          | some _ => .e (.app s bytes (e + 1) false x y)
          | none => .bad
        | some .string => bif Nat.beq s 1 then o1 x fun x => o1 y fun y => match zeroCells P e with
          | some _ => .e (.app s bytes (e + 1) true x y)
          | none => .bad else .bad
        | some (.int _) => match zeroCells P e with
          | some z => o1 x fun x => o1 y fun y => .e (.appZ s bytes z x y)
          | none => .bad
        | _ => .bad
      | none => .bad
    | _ => .bad
  | _, _ => .bad

def comp (P : Program) : Go.Op → AOp
  | .move x => o1 x fun x => .p (.mov x)
  | .assign x => o1 x fun x => .p (.mov x)
  | .pick c a b => o1 c fun c => o1 a fun a => o1 b fun b => .p (.pick c a b)
  | .binOp op t x y _ => match op, nilKind P t y with
    | .eql, some k => o1 x fun x => .p (.eqNil k false x)
    | .neq, some k => o1 x fun x => .p (.eqNil k true x)
    | .eql, none => match structET P t with
      | some et => o1 x fun x => o1 y fun y => .p (.eqS false et x y)
      | none => o1 x fun x => o1 y fun y => .p (.bin .eql (isBool P t) x y)
    | .neq, none => match structET P t with
      | some et => o1 x fun x => o1 y fun y => .p (.eqS true et x y)
      | none => o1 x fun x => o1 y fun y => .p (.bin .neq (isBool P t) x y)
    | op, _ => o1 x fun x => o1 y fun y => .p (.bin op (isBool P t) x y)
  | .unOp op _ x => match op with
    | .not => o1 x fun x => .p (.not x)
    | .neg => o1 x fun x => .p (.neg x)
    | _ => .bad
  | .convert src dst x => match P.underlying src, P.underlying dst with
    | some _, some (.int k) => o1 x fun x => .p (.conv k x)
    | some (.slice e), some .string => match P.underlying e with
      | some (.int .u8) => o1 x fun x => .r (.bts x)
      | _ => .bad
    | _, _ => .bad
  | .fieldAddr s x f => match P.underlying s with
    | some (.struct fields) => match fields.toList[f]? with
      | some fl => match P.info? fl.type with
        | some i => bif Nat.beq i.size 0 then .bad else o1 x fun x => .p (.fieldAddr fl.offset x)
        | none => .bad
      | none => .bad
    | _ => .bad
  | .field s x f => match P.underlying s with
    | some (.struct fields) => match fields.toList[f]? with
      | some fl => match P.underlying fl.type, P.info? fl.type with
        | some (.struct _), some i => o1 x fun x => .p (.fieldN fl.offset i.size x)
        | some (.array _ _), some i => o1 x fun x => .p (.fieldN fl.offset i.size x)
        | some _, some _ => o1 x fun x => .p (.field1 fl.offset x)
        | _, _ => .bad
      | none => .bad
    | _ => .bad
  | .indexAddr t x i => match P.underlying t with
    | some (.slice e) => match P.info? e with
      | some inf => o1 x fun x => o1 i fun i => .p (.idxS inf.size x i)
      | none => .bad
    | some (.array len e) => match P.info? e with
      | some inf => o1 x fun x => o1 i fun i => .p (.idxA len inf.size x i)
      | none => .bad
    | _ => .bad
  | .index t x i => match P.underlying t with
    | some .string => o1 x fun x => o1 i fun i => .p (.idxStr x i)
    | some (.array len e) => match P.underlying e, P.info? e with
      | some (.struct _), some inf => o1 x fun x => o1 i fun i => .p (.idxVN len inf.size x i)
      | some (.array _ _), some inf => o1 x fun x => o1 i fun i => .p (.idxVN len inf.size x i)
      | some _, some inf => o1 x fun x => o1 i fun i => .p (.idxV1 len inf.size x i)
      | _, _ => .bad
    | _ => .bad
  | .slice t x lo hi mx => match P.underlying t with
    | some (.slice e) => match P.info? e with
      | some inf => o1 x fun x => oO lo fun lo => oO hi fun hi => oO mx fun mx => .r (.slice inf.size x lo hi mx)
      | none => .bad
    | _ => .bad
  | .load t x => match P.underlying t, P.info? t with
    | some (.struct _), some i => o1 x fun x => .r (.loadN i.size x)
    | some (.array _ _), some i => o1 x fun x => .r (.loadN i.size x)
    | some _, some _ => o1 x fun x => .r (.load1 x)
    | _, _ => .bad
  | .store t x y => match P.info? t with
    | some i => o1 x fun x => o1 y fun y => .e (.store i.size x y)
    | none => .bad
  | .alloc t => match zeroCells P t with
    | some z => .e (.alloc z (t + 1))
    | none => .bad
  | .box t x => match P.info? t with
    | some i => o1 x fun x => .e (.box i.size x)
    | none => .bad
  | .build t parts => match P.underlying t, zeroCells P t with
    | some (.struct fields), some z => match fields.toList.mapM (fun f => (P.info? f.type).map fun i => (f.offset, i.size)) with
      | some places => match compParts (places.toArray[·]?) parts.toList with
        | some ps => .p (.build z ps)
        | none => .bad
      | none => .bad
    | some (.array _ e), some z => match P.info? e with
      | some ie => match compParts (fun i => some (i * ie.size, ie.size)) parts.toList with
        | some ps => .p (.build z ps)
        | none => .bad
      | none => .bad
    | _, _ => .bad
  | .buildSlice t len parts => match elemOf' P t with
    | some (e, s, _) => match zeroCells P e with
      | some z => bif Nat.ble (len * s) 1000000 && Nat.ble 1 s then (match compParts (fun i => some (i * s, s)) parts.toList with
        | some ps => .e (.buildS s len (rep z len) ps)
        | none => .bad) else .bad
      | none => .bad
    | none => .bad
  | .makeSlice t l c => match elemOf' P t with
    | some (e, s, bytes) => match zeroCells P e with
      | some z => bif Nat.ble 1 s then o1 l fun l => o1 c fun c => .e (.mkS s bytes z l c) else .bad
      | none => .bad
    | none => .bad
  | .nilCheck x => o1 x fun x => .p (.nilchk x)
  | .extract x i => o1 x fun x => .p (.ext i x)
  | .call c => match c.callee with
    | .builtin b => compBuiltin P b c.argTypes c.args.toList
    | .value (.func f) => match oL c.args.toList with
      | some l => .call f l
      | none => .bad
    | .value (.tmp t) => match oL c.args.toList with
      | some l => .callv (.t t) l
      | none => .bad
    | .invoke x name => match oL c.args.toList with
      | some l => o1 x fun x => .invoke (methTbl P name (List.range P.types.size)) x l
      | none => .bad
    | _ => .bad
  | .makeFunc fn fs cs => match fn, oL fs.toList, oL cs.toList with
    | .func f, some fs, some cs => .p (.mkFunc f fs cs)
    | _, _, _ => .bad
  | .makeInterface t x => match P.underlying t with
    | some (.interface _) => .bad
    | some _ => o1 x fun x => .p (.mkIface t x)
    | none => .bad
  | .typeAssert x _ t ok => match ok, P.underlying t, P.info? t with
    | true, some (.interface _), _ => .bad
    | true, some _, some i => (match i.zero with
      | some z => bif selfOk z then o1 x fun x => .p (.tyAs t z x) else .bad
      | none => .bad)
    | _, _, _ => .bad
  | _ => .bad

theorem o1_inv {x : Operand} {f : Opd → AOp} {A : AOp} (h : o1 x f = A) (hA : A ≠ .bad) : ∃ y, compOpd x = some y ∧ f y = A := by
  unfold o1 at h
  split at h
  · exact ⟨_, by assumption, h⟩
  · exact absurd h.symm hA

theorem cond_inv {c : Bool} {x A : AOp} (h : (bif c then x else .bad) = A) (hA : A ≠ .bad) : c = true ∧ x = A := by
  cases c
  · exact absurd h.symm hA
  · exact ⟨rfl, h⟩

theorem oO_inv {x : Option Operand} {f : Option Opd → AOp} {A : AOp} (h : oO x f = A) (hA : A ≠ .bad) :
    (x = none ∧ f none = A) ∨ ∃ X y, x = some X ∧ compOpd X = some y ∧ f (some y) = A := by
  unfold oO at h
  split at h
  · exact .inl ⟨rfl, h⟩
  · split at h
    · exact .inr ⟨_, _, rfl, by assumption, h⟩
    · exact absurd h.symm hA

end
end Go.Proofs.YthjhlifbdieibaaGreatDoor.Ai
/- The operations that ask the frame alone. -/
namespace Go.Proofs.YthjhlifbdieibaaGreatDoor.Ai
noncomputable section
open Go.RowKit

section
variable {P : Program} {μ : Map} {ts : T Value} {a : Act} {w : World} {o : Oper} {v : Value}

def Did (P : Program) (μ : Map) (a : Act) (w : World) (o : Oper) (v : Value) : Prop := ∃ v', (execOp a.eval o).run P w = .ok (.value v') w ∧ VRel μ v v'

theorem fill_set (off : Nat) : ∀ (vs : List Value) (j : Nat) (cells : Array Value), off + j + vs.length ≤ cells.size →
    ((vs.zipIdx j).foldl (fun cs (x : Value × Nat) => cs.setIfInBounds (off + x.2) x.1) cells).toList = splice cells.toList (off + j) vs := by
  intro vs
  induction vs with
  | nil => intro j cells _; simp [splice]
  | cons v vs ih =>
    intro j cells h
    simp only [List.zipIdx_cons, List.foldl_cons, List.length_cons] at *
    rw [ih (j + 1) _ (by simp; omega)]
    apply List.ext_getElem?
    intro i
    have h1 : off + (j + 1) + vs.length ≤ (cells.setIfInBounds (off + j) v).toList.length := by simp; omega
    rw [splice_get _ _ _ h1, splice_get _ _ _ (by simp; omega)]
    simp only [Array.toList_setIfInBounds, List.getElem?_set, List.length_cons, Array.length_toList]
    by_cases c1 : i < off + j
    · rw [if_pos (by omega), if_neg (by omega), if_pos c1]
    · by_cases c2 : i = off + j
      · subst c2
        rw [if_pos (by omega), if_pos rfl, if_pos (by omega), if_neg (by omega), if_pos (by omega)]
        simp
      · rw [if_neg (by omega), if_neg c1]
        by_cases c3 : i < off + (j + 1) + vs.length
        · rw [if_pos c3, if_pos (by omega)]
          have : i - (off + j) = (i - (off + (j + 1))) + 1 := by omega
          rw [this, List.getElem?_cons_succ]
        · rw [if_neg c3, if_neg (by omega), if_neg (by omega)]

theorem VsRel.splice {μ : Map} {l l' vs vs' : List Value} (h : VsRel μ l l') (hv : VsRel μ vs vs') (o : Nat) : VsRel μ (splice l o vs) (splice l' o vs') := by
  unfold Ai.splice
  rw [hv.1]
  exact ((h.take _).append hv).append (h.drop _)

theorem fillA_run (r : TsRel μ ts a) (place : Nat → Option (Nat × Nat)) : ∀ (parts : List (Nat × Operand)) (ps : List (Nat × Nat × Opd)) (cells out : List Value) (cells' : Array Value),
    compParts place parts = some ps → VsRel μ cells cells'.toList → fillA cells (evP ts ps) = some out →
    ∃ out', Instr.fill place cells' (parts.map fun (i, x) => (i, a.eval x)) = some out' ∧ VsRel μ out out'.toList := by
  intro parts
  induction parts with
  | nil =>
    intro ps cells out cells' h1 h2 h3
    simp only [compParts, Option.some.injEq] at h1; subst h1
    simp only [evP, fillA, Option.some.injEq] at h3; subst h3
    exact ⟨cells', rfl, h2⟩
  | cons p rest ih =>
    intro ps cells out cells' h1 h2 h3
    obtain ⟨i, x⟩ := p
    simp only [compParts] at h1
    split at h1
    · rename_i off s x' ps' hp hx hr
      simp only [Option.some.injEq] at h1; subst h1
      simp only [evP, fillA] at h3
      cases hc : (Nat.beq (ev ts x').cells.toList.length s && Nat.ble (off + s) cells.length) with
      | false => rw [hc] at h3; cases h3
      | true =>
        rw [hc] at h3; simp only [cond_true] at h3
        simp only [Bool.and_eq_true] at hc
        have e1 : (ev ts x').cells.toList.length = s := Nat.eq_of_beq_eq_true hc.1
        have e2 := ble_true hc.2
        have hv := cells_rel (compOpd_rel r hx)
        have hl := hv.1
        have hlc := h2.1
        have hsz : (a.eval x).cells.size = s := by rw [← e1, hl]; simp
        have hle : off + (a.eval x).cells.size ≤ cells'.size := by rw [hsz]; simp at hlc; omega
        have hset := fill_set off (a.eval x).cells.toList 0 cells' (by simpa using hle)
        simp only [Nat.add_zero] at hset
        simp only [List.map_cons, Instr.fill, hp]
        rw [if_neg (by simp [hsz]; simp at hlc; omega)]
        refine ih ps' (splice cells off (ev ts x').cells.toList) out _ hr ?_ h3
        rw [← Array.foldl_toList, Array.toList_zipIdx, hset]
        exact h2.splice hv off
    · cases h1

theorem s_mov (r : TsRel μ ts a) {x : Operand} {y : Opd} (ho : o.op = .move x ∨ o.op = .assign x) (hx : compOpd x = some y) (hv : pop ts (.mov y) = some v) : Did P μ a w o v := by
  simp only [pop, popQ, Option.some.injEq] at hv; subst hv
  refine ⟨_, ?_, compOpd_rel r hx⟩
  rcases ho with ho | ho <;> simp [execOp, ho]

theorem s_pick (r : TsRel μ ts a) {c x y : Operand} {c' x' y' : Opd} (ho : o.op = .pick c x y) (hc : compOpd c = some c') (hx : compOpd x = some x') (hy : compOpd y = some y') (hv : pop ts (.pick c' x' y') = some v) : Did P μ a w o v := by
  simp only [pop, popQ] at hv
  split at hv
  · rename_i t ht
    have h1 := compOpd_rel r hc
    rw [ht] at h1
    have h1 := h1.bool
    simp only [Option.some.injEq] at hv; subst hv
    refine ⟨if t then a.eval x else a.eval y, by simp [execOp, ho, h1, asBool], ?_⟩
    cases t
    · simpa using compOpd_rel r hy
    · simpa using compOpd_rel r hx
  · cases hv

theorem s_bin (r : TsRel μ ts a) {op : BinOp} {t u : TypeId} {x y : Operand} {x' y' : Opd} (ho : o.op = .binOp op t x y u) (hx : compOpd x = some x') (hy : compOpd y = some y') (hv : pop ts (.bin op (isBool P t) x' y') = some v) : Did P μ a w o v := by
  simp only [pop, popQ, abinF_eq] at hv
  have hb : isBool P t = true → P.underlying t = some .bool := by
    intro h; unfold isBool at h; split at h <;> first | assumption | cases h
  obtain ⟨h1, h2, h3, h4⟩ := abin_run (P := P) (w := w) hv hb x y
  have e1 := (compOpd_rel r hx).of_plain h3
  have e2 := (compOpd_rel r hy).of_plain h4
  refine ⟨v, ?_, .same v h2⟩
  simp only [execOp, ho, e1, e2]
  simp only [Sem.run_bind] at h1 ⊢
  rw [h1]; rfl

theorem isNil_rel {k : Nat} {x x' : Value} (h : VRel μ x x') {b : Bool} (hb : isNilV k x = some b) : isNilV k x' = some b := by
  cases h with
  | same v hv => exact hb
  | _ => rcases k with _ | _ | _ | _ | k <;> simp_all [isNilV]

theorem eqGuard_nil {op : BinOp} {t : TypeId} {x y : Operand} {X Y : Value} {k : Nat} {b : Bool} (hy : nilKind P t y = some k) (hb : isNilV k X = some b) (hY : Y = a.eval y) : (eqGuard op t x y X Y).run P w = .ok () w := by
  subst hY
  unfold nilKind at hy
  split at hy
  · split at hy <;> simp at hy; subst hy
    cases X <;> simp [isNilV] at hb <;> cases op <;> rfl
  · split at hy <;> simp at hy; subst hy
    cases X <;> simp [isNilV] at hb <;> cases op <;> rfl
  · split at hy <;> simp at hy; subst hy
    cases X <;> simp [isNilV] at hb <;> cases op <;> rfl
  · split at hy <;> simp at hy; subst hy
    cases X <;> simp [isNilV] at hb <;> cases op <;> simp [eqGuard, Act.eval]
  · cases hy

theorem eqIn_ptr (d : Nat) {t e : TypeId} (h : P.underlying t = some (.pointer e)) (p : Option Addr) : (Op.equalIn (d + 1) t (.pointer p) (.pointer none)).run P w = .ok p.isNone w := by
  cases p <;> simp [Op.equalIn, run_underlying h]
theorem eqIn_slice (d : Nat) {t e : TypeId} (h : P.underlying t = some (.slice e)) (p : Option Addr) (n c : Nat) : (Op.equalIn (d + 1) t (.slice p n c) (.slice none 0 0)).run P w = .ok p.isNone w := by
  cases p <;> simp [Op.equalIn, run_underlying h]
theorem eqIn_func (d : Nat) {t : TypeId} {q q' : Array TypeId} {q'' : Bool} (h : P.underlying t = some (.func q q' q'')) (f : Fn) (c e : Array Value) : (Op.equalIn (d + 1) t (.func f c e) .nilFunc).run P w = .ok false w := by
  simp [Op.equalIn, run_underlying h]
theorem eqIn_func' (d : Nat) {t : TypeId} {q q' : Array TypeId} {q'' : Bool} (h : P.underlying t = some (.func q q' q'')) : (Op.equalIn (d + 1) t .nilFunc .nilFunc).run P w = .ok true w := by
  simp [Op.equalIn, run_underlying h]
theorem eqIn_iface (d : Nat) {t : TypeId} {q : Array (String × TypeId)} (h : P.underlying t = some (.interface q)) (f : TypeId) (c : Value) : (Op.equalIn (d + 1) t (.iface f c) .nilIface).run P w = .ok false w := by
  simp [Op.equalIn, run_underlying h]
theorem eqIn_iface' (d : Nat) {t : TypeId} {q : Array (String × TypeId)} (h : P.underlying t = some (.interface q)) : (Op.equalIn (d + 1) t .nilIface .nilIface).run P w = .ok true w := by
  simp [Op.equalIn, run_underlying h]

theorem equal_nil {t : TypeId} {y : Operand} {X Y : Value} {k : Nat} {b : Bool} (hy : nilKind P t y = some k) (hb : isNilV k X = some b) (hY : Y = a.eval y) :
    (Op.equal t X Y).run P w = .ok b w ∧ (binOp .eql t X Y = (do pure (.bool (← Op.equal t X Y)) : Sem Value)) ∧ (binOp .neq t X Y = (do pure (.bool (!(← Op.equal t X Y))) : Sem Value)) := by
  subst hY
  unfold nilKind at hy
  split at hy
  · split at hy <;> simp at hy; subst hy
    rename_i hu
    cases X <;> simp [isNilV] at hb
    rename_i p
    subst hb
    exact ⟨eqIn_ptr 9999 hu p, by cases p <;> rfl, by cases p <;> rfl⟩
  · split at hy <;> simp at hy; subst hy
    rename_i hu
    cases X <;> simp [isNilV] at hb
    rename_i p n c
    subst hb
    exact ⟨eqIn_slice 9999 hu p n c, rfl, rfl⟩
  · split at hy <;> simp at hy; subst hy
    rename_i hu
    cases X <;> simp [isNilV] at hb <;> subst hb
    · exact ⟨eqIn_func 9999 hu _ _ _, rfl, rfl⟩
    · exact ⟨eqIn_func' 9999 hu, rfl, rfl⟩
  · split at hy <;> simp at hy; subst hy
    rename_i hu
    cases X <;> simp [isNilV] at hb <;> subst hb
    · exact ⟨eqIn_iface 9999 hu _ _, rfl, rfl⟩
    · exact ⟨eqIn_iface' 9999 hu, rfl, rfl⟩
  · cases hy

theorem s_eqNil (r : TsRel μ ts a) {op : BinOp} {t u : TypeId} {x y : Operand} {x' : Opd} {ng : Bool} {k : Nat} (ho : o.op = .binOp op t x y u) (hop : op = .eql ∧ ng = false ∨ op = .neq ∧ ng = true) (hn : nilKind P t y = some k)
    (hx : compOpd x = some x') (hv : pop ts (.eqNil k ng x') = some v) : Did P μ a w o v := by
  simp only [pop, popQ] at hv
  split at hv
  · rename_i b hb
    simp only [Option.some.injEq] at hv
    have hb' := isNil_rel (compOpd_rel r hx) hb
    have g1 := fun w => eqGuard_nil (P := P) (w := w) (op := op) (x := x) hn hb' (a := a) rfl
    have g2 := fun w => equal_nil (P := P) (w := w) hn hb' (a := a) rfl
    refine ⟨v, ?_, by subst hv; exact .same _ rfl⟩
    rcases hop with ⟨rfl, rfl⟩ | ⟨rfl, rfl⟩
    · simp only [execOp, ho, Sem.run_bind, g1, Result.andThen_ok, (g2 w).2.1, (g2 w).1]
      subst hv; rfl
    · simp only [execOp, ho, Sem.run_bind, g1, Result.andThen_ok, (g2 w).2.2, (g2 w).1]
      subst hv; rfl
  · cases hv

theorem s_not (r : TsRel μ ts a) {t : TypeId} {x : Operand} {y : Opd} (ho : o.op = .unOp .not t x) (hx : compOpd x = some y) (hv : pop ts (.not y) = some v) : Did P μ a w o v := by
  simp only [pop, popQ] at hv
  split at hv
  · rename_i b hb
    have h1 := compOpd_rel r hx
    rw [hb] at h1
    simp only [Option.some.injEq] at hv; subst hv
    exact ⟨.bool !b, by simp [execOp, ho, h1.bool, Op.unary], .same _ rfl⟩
  · cases hv

theorem s_neg (r : TsRel μ ts a) {t : TypeId} {x : Operand} {y : Opd} (ho : o.op = .unOp .neg t x) (hx : compOpd x = some y) (hv : pop ts (.neg y) = some v) : Did P μ a w o v := by
  simp only [pop, popQ] at hv
  split at hv
  · rename_i k n hb
    have h1 := compOpd_rel r hx
    rw [hb] at h1
    simp only [Option.some.injEq] at hv; subst hv
    exact ⟨.int k (k.wrap (0 - n)), by simp [execOp, ho, h1.int, Op.unary, Op.intArith], by rw [wrapF_eq]; exact .same _ rfl⟩
  · cases hv

theorem s_conv (r : TsRel μ ts a) {s t : TypeId} {x : Operand} {y : Opd} {d : TypeDesc} {k : IntKind} (ho : o.op = .convert s t x) (hs : P.underlying s = some d) (ht : P.underlying t = some (.int k)) (hx : compOpd x = some y) (hv : pop ts (.conv k y) = some v) : Did P μ a w o v := by
  simp only [pop, popQ] at hv
  split at hv
  · rename_i k' n hb
    have h1 := compOpd_rel r hx
    rw [hb] at h1
    simp only [Option.some.injEq] at hv; subst hv
    exact ⟨.int k (k.wrap n), by simp [execOp, ho, h1.int, convert, run_underlying hs, run_underlying ht, Conv.intToInt], by rw [wrapF_eq]; exact .same _ rfl⟩
  · cases hv

theorem s_fieldAddr (r : TsRel μ ts a) {s : TypeId} {f : Nat} {x : Operand} {y : Opd} {fields : Array Field} {fl : Field} {i : TypeInfo} (ho : o.op = .fieldAddr s x f) (hs : P.underlying s = some (.struct fields)) (hf : fields.toList[f]? = some fl) (hi : P.info? fl.type = some i) (hz : i.size ≠ 0)
    (hx : compOpd x = some y) (hv : pop ts (.fieldAddr fl.offset y) = some v) : Did P μ a w o v := by
  simp only [pop, popQ] at hv
  split at hv
  · rename_i b o' hb
    have h1 := compOpd_rel r hx
    rw [hb] at h1
    obtain ⟨e, he, hX⟩ := h1.ptr_inv
    simp only [Option.some.injEq] at hv; subst hv
    have hf' : fields[f]? = some fl := by simpa using hf
    refine ⟨_, by simp [execOp, ho, hX, Instr.fieldAt, run_underlying hs, hf', Instr.sureAddr, fieldPlace, sizeOf, typeInfo, hi, hz, Addr.add_lit]; rfl, ?_⟩
    rw [Nat.add_assoc]
    exact .ptr b (o' + fl.offset) e he
  · cases hv

theorem s_field1 (r : TsRel μ ts a) {s : TypeId} {f : Nat} {x : Operand} {y : Opd} {fields : Array Field} {fl : Field} {d : TypeDesc} (ho : o.op = .field s x f) (hs : P.underlying s = some (.struct fields)) (hf : fields.toList[f]? = some fl)
    (hd : P.underlying fl.type = some d) (hd1 : ∀ q, d ≠ .struct q) (hd2 : ∀ q q', d ≠ .array q q') (hx : compOpd x = some y) (hv : pop ts (.field1 fl.offset y) = some v) : Did P μ a w o v := by
  simp only [pop, popQ] at hv
  split at hv
  · rename_i cs hb
    have h1 := compOpd_rel r hx
    rw [hb] at h1
    obtain ⟨cs', hX, hr⟩ := h1.agg_inv
    obtain ⟨v', g1, g2⟩ := hr.get hv
    have hf' : fields[f]? = some fl := by simpa using hf
    have g1' : cs'[fl.offset]? = some v' := by simpa using g1
    refine ⟨v', ?_, g2⟩
    have ha : (isAgg fl.type).run P w = .ok false w := by
      unfold isAgg
      cases d <;> first | (exact absurd rfl (hd1 _)) | (exact absurd rfl (hd2 _ _)) | simp [run_underlying hd]
    simp [execOp, ho, hX, Instr.field, run_underlying hs, hf', asAgg, part, ha, g1']
  · cases hv

theorem isAgg_true {t : TypeId} (h : (∃ q, P.underlying t = some (.struct q)) ∨ ∃ q q', P.underlying t = some (.array q q')) (w : World) : (isAgg t).run P w = .ok true w := by
  unfold isAgg
  rcases h with ⟨q, h⟩ | ⟨q, q', h⟩ <;> simp [run_underlying h]

theorem s_fieldN (r : TsRel μ ts a) {s : TypeId} {f : Nat} {x : Operand} {y : Opd} {fields : Array Field} {fl : Field} {i : TypeInfo} (ho : o.op = .field s x f) (hs : P.underlying s = some (.struct fields)) (hf : fields.toList[f]? = some fl)
    (hd : (∃ q, P.underlying fl.type = some (.struct q)) ∨ ∃ q q', P.underlying fl.type = some (.array q q')) (hi : P.info? fl.type = some i) (hx : compOpd x = some y) (hv : pop ts (.fieldN fl.offset i.size y) = some v) : Did P μ a w o v := by
  simp only [pop, popQ] at hv
  split at hv
  · rename_i cs hb
    cases hle : Nat.ble (fl.offset + i.size) cs.toList.length with
    | false => rw [hle] at hv; cases hv
    | true =>
      rw [hle] at hv; simp only [cond_true, Option.some.injEq] at hv; subst hv
      have h1 := compOpd_rel r hx
      rw [hb] at h1
      obtain ⟨cs', hX, hr⟩ := h1.agg_inv
      have hf' : fields[f]? = some fl := by simpa using hf
      have ha := isAgg_true hd w
      refine ⟨.agg (cs'.extract fl.offset (fl.offset + i.size)), by simp [execOp, ho, hX, Instr.field, run_underlying hs, hf', asAgg, part, ha, sizeOf, typeInfo, hi], ?_⟩
      have hh := (hr.drop fl.offset).take i.size
      have e2 : (cs'.extract fl.offset (fl.offset + i.size)).toList = (cs'.toList.drop fl.offset).take i.size := by
        simp [List.extract_eq_take_drop]
      exact .agg _ _ (by rw [e2]; exact hh.1) (by rw [e2]; exact hh.2)
  · cases hv

theorem s_idxS (r : TsRel μ ts a) {t e : TypeId} {inf : TypeInfo} {x i : Operand} {x' i' : Opd} (ho : o.op = .indexAddr t x i) (ht : P.underlying t = some (.slice e)) (hi : P.info? e = some inf) (hx : compOpd x = some x') (hy : compOpd i = some i')
    (hv : pop ts (.idxS inf.size x' i') = some v) : Did P μ a w o v := by
  simp only [pop, popQ, inB_eq] at hv
  split at hv
  · rename_i b o' len cap k n hb hn
    cases hc : (decide (0 ≤ n) && decide (n < len)) with
    | false => rw [hc] at hv; cases hv
    | true =>
      rw [hc] at hv; simp only [cond_true, Option.some.injEq] at hv; subst hv
      simp only [Bool.and_eq_true, decide_eq_true_eq] at hc
      have h1 := compOpd_rel r hx
      have h2 := compOpd_rel r hy
      rw [hb] at h1; rw [hn] at h2
      obtain ⟨en, he, hX⟩ := h1.slice_inv
      refine ⟨.pointer (some ⟨en.blk, en.base + (o' + n.toNat * inf.size), none⟩), ?_, .ptr b _ en he⟩
      simp [execOp, ho, hX, h2.int, Instr.indexAt, asIntOf, run_underlying ht, sizeOf, typeInfo, hi, hc.1, hc.2, Addr.add_lit, Nat.add_assoc]
  · cases hv

theorem s_idxA (r : TsRel μ ts a) {t e : TypeId} {len : Nat} {inf : TypeInfo} {x i : Operand} {x' i' : Opd} (ho : o.op = .indexAddr t x i) (ht : P.underlying t = some (.array len e)) (hi : P.info? e = some inf) (hx : compOpd x = some x') (hy : compOpd i = some i')
    (hv : pop ts (.idxA len inf.size x' i') = some v) : Did P μ a w o v := by
  simp only [pop, popQ, inB_eq] at hv
  split at hv
  · rename_i b o' k n hb hn
    cases hc : (decide (0 ≤ n) && decide (n < len)) with
    | false => rw [hc] at hv; cases hv
    | true =>
      rw [hc] at hv; simp only [cond_true, Option.some.injEq] at hv; subst hv
      simp only [Bool.and_eq_true, decide_eq_true_eq] at hc
      have h1 := compOpd_rel r hx
      have h2 := compOpd_rel r hy
      rw [hb] at h1; rw [hn] at h2
      obtain ⟨en, he, hX⟩ := h1.ptr_inv
      refine ⟨.pointer (some ⟨en.blk, en.base + (o' + n.toNat * inf.size), none⟩), ?_, .ptr b _ en he⟩
      simp [execOp, ho, hX, h2.int, Instr.indexAt, asIntOf, run_underlying ht, sizeOf, typeInfo, hi, hc.1, hc.2, Addr.add_lit, Nat.add_assoc, Instr.sureAddr]
  · cases hv

theorem s_idxStr (r : TsRel μ ts a) {t : TypeId} {x i : Operand} {x' i' : Opd} (ho : o.op = .index t x i) (ht : P.underlying t = some .string) (hx : compOpd x = some x') (hy : compOpd i = some i')
    (hv : pop ts (.idxStr x' i') = some v) : Did P μ a w o v := by
  simp only [pop, popQ] at hv
  split at hv
  · rename_i s k n hb hn
    cases hc : decide (0 ≤ n) with
    | false => rw [hc] at hv; cases hv
    | true =>
      rw [hc] at hv; simp only [cond_true] at hv
      have hc := of_decide_eq_true hc
      split at hv
      · rename_i u hu
        simp only [Option.some.injEq] at hv; subst hv
        have h1 := compOpd_rel r hx
        have h2 := compOpd_rel r hy
        rw [hb] at h1; rw [hn] at h2
        have hu' : s[n.toNat]? = some u := by
          have hlt := (List.getElem?_eq_some_iff.1 hu).1
          have hsz : n.toNat < s.size := by simpa using hlt
          rw [getElem?_pos s n.toNat hsz]
          have := (List.getElem?_eq_some_iff.1 hu).2
          congr 1
        exact ⟨.int .u8 u.toNat, by simp [execOp, ho, h1.string, h2.int, Instr.index, asIntOf, run_underlying ht, hc, hu'], .same _ rfl⟩
      · cases hv
  · cases hv

theorem s_ext (r : TsRel μ ts a) {i : Nat} {x : Operand} {y : Opd} (ho : o.op = .extract x i) (hx : compOpd x = some y) (hv : pop ts (.ext i y) = some v) : Did P μ a w o v := by
  simp only [pop, popQ] at hv
  split at hv
  · rename_i cs hb
    have h1 := compOpd_rel r hx
    rw [hb] at h1
    obtain ⟨cs', hX, hr⟩ := h1.tuple_inv
    obtain ⟨v', g1, g2⟩ := hr.get hv
    have g1' : cs'[i]? = some v' := by simpa using g1
    exact ⟨v', by simp [execOp, ho, hX, Instr.extract, g1'], g2⟩
  · cases hv

theorem VRel.slice_len {x' : Value} {p : Option Addr} {n c : Nat} (h : VRel μ (.slice p n c) x') : ∃ p' c', x' = .slice p' n c' := by
  cases h with
  | same => exact ⟨_, _, rfl⟩
  | slice => exact ⟨_, _, rfl⟩
  | vague => exact ⟨_, _, rfl⟩

theorem s_len (r : TsRel μ ts a) {str : Bool} {c : Call} {x : Operand} {t : TypeId} {y : Opd} (ho : o.op = .call c) (hc : c.callee = .builtin .len) (ha : c.args.toList = [x]) (hts : c.argTypes.toList = [t])
    (ht : (str = false ∧ ∃ e, P.underlying t = some (.slice e)) ∨ (str = true ∧ P.underlying t = some .string)) (hx : compOpd x = some y) (hv : pop ts (.len str y) = some v) : Did P μ a w o v := by
  have ha' : c.args = #[x] := Array.ext' (by simpa using ha)
  have hts' : c.argTypes = #[t] := Array.ext' (by simpa using hts)
  simp only [pop, popQ] at hv
  have h1 := compOpd_rel r hx
  split at hv
  · rename_i p n cap hb
    rw [hb] at h1
    obtain ⟨p', c', hX⟩ := h1.slice_len
    rcases ht with ⟨rfl, e, ht⟩ | ⟨rfl, ht⟩
    · simp only [cond_false, Option.some.injEq] at hv; subst hv
      exact ⟨_, by simp [execOp, ho, resolve, hc, ha', hts', invoke, builtin, Builtin.len_, run_underlying ht, hX]; rfl, .same _ rfl⟩
    · cases hv
  · rename_i s hb
    rw [hb] at h1
    rcases ht with ⟨rfl, e, ht⟩ | ⟨rfl, ht⟩
    · cases hv
    · simp only [cond_true, Option.some.injEq] at hv; subst hv
      exact ⟨_, by simp [execOp, ho, resolve, hc, ha', hts', invoke, builtin, Builtin.len_, run_underlying ht, h1.string]; rfl, .same _ rfl⟩
  · cases hv

theorem s_nilchk (r : TsRel μ ts a) {x : Operand} {y : Opd} (ho : o.op = .nilCheck x) (hx : compOpd x = some y) (hv : pop ts (.nilchk y) = some v) : Did P μ a w o v := by
  simp only [pop, popQ] at hv
  have h1 := compOpd_rel r hx
  have key : ∀ X, a.eval x = X → (∃ p, X = .pointer (some p)) ∨ (∃ t y, X = .iface t y) ∨ (∃ f c d, X = .func (.func f) c d) → (execOp a.eval o).run P w = .ok (.value X) w := by
    intro X hX h
    rcases h with ⟨p, rfl⟩ | ⟨t, y, rfl⟩ | ⟨f, c, d, rfl⟩ <;> simp [execOp, ho, hX]
  generalize hX : a.eval x = X at h1
  split at hv
  · rename_i p hb
    rw [hb] at h1
    simp only [Option.some.injEq] at hv; subst hv
    refine ⟨X, key X hX (.inl ?_), h1⟩
    cases h1 with
    | same _ hp => simp [plain] at hp
    | ptr b o' e he => exact ⟨_, rfl⟩
  · rename_i t y' hb
    rw [hb] at h1
    simp only [Option.some.injEq] at hv; subst hv
    refine ⟨X, key X hX (.inr (.inl ?_)), h1⟩
    cases h1 with
    | same _ hp => simp [plain] at hp
    | iface => exact ⟨_, _, rfl⟩
  · rename_i f c d hb
    rw [hb] at h1
    simp only [Option.some.injEq] at hv; subst hv
    refine ⟨X, key X hX (.inr (.inr ?_)), h1⟩
    cases h1 with
    | same _ hp => simp [plain] at hp
    | func => exact ⟨_, _, _, rfl⟩
  · cases hv

theorem usd_run (ats : Array TypeId) (t : TypeId) (n cap : Nat) : Builtin.unsafeSliceData_ ats t #[.slice none n cap] = pure (.pointer none) := rfl
theorem usd_run2 {w : World} (ats : Array TypeId) (t : TypeId) (p : Addr) (n cap : Nat) (hc : cap ≠ 0) : (Builtin.unsafeSliceData_ ats t #[.slice (some p) n cap]).run P w = .ok (.pointer (some p)) w := by
  have : Builtin.unsafeSliceData_ ats t #[.slice (some p) n cap] = (if cap ≠ 0 then pure (.pointer (some p)) else do if (← viewAt p.block).isSome then pure (.pointer (some p)) else pure (.pointer (some ⟨← newObj (.view p (← elemOf t)), 0, none⟩))) := rfl
  rw [this, if_pos hc]; rfl

theorem s_usd (r : TsRel μ ts a) {c : Call} {x : Operand} {y : Opd} (ho : o.op = .call c) (hc : c.callee = .builtin .unsafeSliceData) (ha : c.args.toList = [x]) (hx : compOpd x = some y) (hv : pop ts (.usd y) = some v) : Did P μ a w o v := by
  have ha' : c.args = #[x] := Array.ext' (by simpa using ha)
  simp only [pop, popQ] at hv
  have h1 := compOpd_rel r hx
  split at hv
  · rename_i n cap hb
    rw [hb] at h1
    simp only [Option.some.injEq] at hv; subst hv
    exact ⟨_, by simp [execOp, ho, resolve, hc, ha', invoke, builtin, h1.of_plain rfl, usd_run], .same _ rfl⟩
  · rename_i b o' n cap hb
    rw [hb] at h1
    cases hcp : Nat.ble 1 cap with
    | false => rw [hcp] at hv; cases hv
    | true =>
      rw [hcp] at hv; simp only [cond_true, Option.some.injEq] at hv; subst hv
      have hcp := Nat.le_of_ble_eq_true hcp
      obtain ⟨e, he, hX⟩ := h1.slice_inv
      refine ⟨.pointer (some ⟨e.blk, e.base + o', none⟩), ?_, .ptr b o' e he⟩
      have hne : (if o' + cap * e.s = e.n then cap + e.extra else cap) ≠ 0 := by split <;> omega
      simp [execOp, ho, resolve, hc, ha', invoke, builtin, hX, usd_run2 _ _ _ _ _ hne]
  · cases hv

theorem s_mx (r : TsRel μ ts a) {c : Call} {x y : Operand} {x' y' : Opd} (ho : o.op = .call c) (hc : c.callee = .builtin .max) (ha : c.args.toList = [x, y]) (hx : compOpd x = some x') (hy : compOpd y = some y') (hv : pop ts (.mx x' y') = some v) : Did P μ a w o v := by
  have ha' : c.args = #[x, y] := Array.ext' (by simpa using ha)
  simp only [pop, popQ] at hv
  have h1 := compOpd_rel r hx
  have h2 := compOpd_rel r hy
  split at hv
  · rename_i k p k' q hb hb'
    rw [hb] at h1; rw [hb'] at h2
    simp only [Option.some.injEq] at hv; subst hv
    refine ⟨_, ?_, .same _ rfl⟩
    cases hd : decide (q > p) with
    | true => have := of_decide_eq_true hd; simp [execOp, ho, resolve, hc, ha', invoke, builtin, Builtin.max_, Builtin.max2, h1.int, h2.int, this]
    | false => have := of_decide_eq_false hd; simp [execOp, ho, resolve, hc, ha', invoke, builtin, Builtin.max_, Builtin.max2, h1.int, h2.int, this]
  · cases hv

theorem s_mn (r : TsRel μ ts a) {c : Call} {x y : Operand} {x' y' : Opd} (ho : o.op = .call c) (hc : c.callee = .builtin .min) (ha : c.args.toList = [x, y]) (hx : compOpd x = some x') (hy : compOpd y = some y') (hv : pop ts (.mn x' y') = some v) : Did P μ a w o v := by
  have ha' : c.args = #[x, y] := Array.ext' (by simpa using ha)
  simp only [pop, popQ] at hv
  have h1 := compOpd_rel r hx
  have h2 := compOpd_rel r hy
  split at hv
  · rename_i k p k' q hb hb'
    rw [hb] at h1; rw [hb'] at h2
    simp only [Option.some.injEq] at hv; subst hv
    refine ⟨_, ?_, .same _ rfl⟩
    cases hd : decide (q < p) with
    | true => have := of_decide_eq_true hd; simp [execOp, ho, resolve, hc, ha', invoke, builtin, Builtin.min_, Builtin.min2, h1.int, h2.int, this]
    | false => have := of_decide_eq_false hd; simp [execOp, ho, resolve, hc, ha', invoke, builtin, Builtin.min_, Builtin.min2, h1.int, h2.int, this]
  · cases hv

theorem zeroCells_inv {t : TypeId} {z : List Value} (h : zeroCells P t = some z) : ∃ i zv, P.info? t = some i ∧ i.zero = some zv ∧ z = zv.cells.toList ∧ z.all plain = true ∧ z.length = i.size := by
  unfold zeroCells at h
  split at h
  · rename_i i hi
    split at h
    · rename_i zv hz
      cases hc : (zv.cells.toList.all plain && Nat.beq zv.cells.toList.length i.size) with
      | false => rw [hc] at h; cases h
      | true =>
        rw [hc] at h; simp only [cond_true, Option.some.injEq] at h
        simp only [Bool.and_eq_true] at hc
        exact ⟨i, zv, hi, hz, h.symm, by rw [← h]; exact hc.1, by rw [← h]; exact Nat.eq_of_beq_eq_true hc.2⟩
    · cases h
  · cases h

theorem s_build (r : TsRel μ ts a) {t : TypeId} {parts : Array (Nat × Operand)} {ps : List (Nat × Nat × Opd)} {z : List Value} (ho : o.op = .build t parts) (hz : zeroCells P t = some z)
    (hp : (∃ fields places, P.underlying t = some (.struct fields) ∧ fields.toList.mapM (fun f => (P.info? f.type).map fun i => (f.offset, i.size)) = some places ∧ compParts (places.toArray[·]?) parts.toList = some ps) ∨
      ∃ n e ie, P.underlying t = some (.array n e) ∧ P.info? e = some ie ∧ compParts (fun i => some (i * ie.size, ie.size)) parts.toList = some ps) (hv : pop ts (.build z ps) = some v) : Did P μ a w o v := by
  obtain ⟨i, zv, hi, hzv, hzz, hpl, hlen⟩ := zeroCells_inv hz
  simp only [pop, popQ] at hv
  split at hv
  · rename_i cs hcs
    simp only [Option.some.injEq] at hv; subst hv
    have hzr : VsRel μ z zv.cells.toList := by rw [← hzz]; exact VsRel.of_plain hpl
    have fin : ∀ place, compParts place parts.toList = some ps → (∀ out', Instr.fill place zv.cells (parts.map fun (i, x) => (i, a.eval x)).toList = some out' → P.built t (parts.map fun (i, x) => (i, a.eval x)).toList = some out') → Did P μ a w o (.agg cs.toArray) := by
      intro place h1 h2
      obtain ⟨out', g1, g2⟩ := fillA_run r place parts.toList ps z cs zv.cells h1 hzr hcs
      have hb := h2 out' (by simpa using g1)
      refine ⟨.agg out', ?_, .agg _ _ g2.1 g2.2⟩
      have := run_build w t (parts.map fun (i, x) => (i, a.eval x)) out' hb
      simp only [execOp, ho, Sem.run_bind, this, Result.andThen_ok]; rfl
    rcases hp with ⟨fields, places, h1, h2, h3⟩ | ⟨n, e, ie, h1, h2, h3⟩
    · refine fin _ h3 (fun out' g => ?_)
      unfold Program.built
      simp only [hi, h1, hzv, h2]
      exact g
    · refine fin _ h3 (fun out' g => ?_)
      unfold Program.built
      simp only [hi, h1, hzv, h2]
      exact g
  · cases hv

theorem oL_rel (r : TsRel μ ts a) : ∀ {l : List Operand} {l' : List Opd}, oL l = some l' → VsRel μ (evs ts l') (l.map a.eval)
  | [], l', h => by
    simp only [oL, Option.some.injEq] at h; subst h; exact .nil μ
  | x :: l, l', h => by
    simp only [oL] at h
    split at h
    · rename_i x' l'' hx hl
      simp only [Option.some.injEq] at h; subst h
      exact .cons (compOpd_rel r hx) (oL_rel r hl)
    · cases h

theorem s_mkFunc (r : TsRel μ ts a) {f : Nat} {fs cs : Array Operand} {fs' cs' : List Opd} (ho : o.op = .makeFunc (.func f) fs cs) (h1 : oL fs.toList = some fs') (h2 : oL cs.toList = some cs') (hv : pop ts (.mkFunc f fs' cs') = some v) : Did P μ a w o v := by
  simp only [pop, popQ, Option.some.injEq] at hv; subst hv
  have g1 := oL_rel r h1
  have g2 := oL_rel r h2
  refine ⟨.func (.func f) (fs.map a.eval) (cs.map a.eval), by simp [execOp, ho, Instr.makeFunc], ?_⟩
  exact .func _ _ _ _ _ (by simp) (by simpa using g1.1) (by simpa using g1.2) (by simpa using g2.1) (by simpa using g2.2)

theorem s_mkIface (r : TsRel μ ts a) {t : TypeId} {x : Operand} {y : Opd} {d : TypeDesc} (ho : o.op = .makeInterface t x) (hd : P.underlying t = some d) (hni : ∀ q, d ≠ .interface q) (hx : compOpd x = some y) (hv : pop ts (.mkIface t y) = some v) : Did P μ a w o v := by
  simp only [pop, popQ, Option.some.injEq] at hv; subst hv
  have hr := compOpd_rel r hx
  refine ⟨.iface t (a.eval x), ?_, .iface _ _ _ hr⟩
  have : (Instr.makeInterface t (a.eval x)).run P w = .ok (.iface t (a.eval x)) w := by
    unfold Instr.makeInterface
    cases d <;> first | (exact absurd rfl (hni _)) | simp [run_underlying hd]
  simp [execOp, ho, this]

theorem s_tyAs (r : TsRel μ ts a) {t u : TypeId} {x : Operand} {y : Opd} {d : TypeDesc} {i : TypeInfo} {z : Value} (ho : o.op = .typeAssert x u t true) (hd : P.underlying t = some d) (hni : ∀ q, d ≠ .interface q) (hi : P.info? t = some i) (hz : i.zero = some z) (hzs : selfOk z = true)
    (hx : compOpd x = some y) (hv : pop ts (.tyAs t z y) = some v) : Did P μ a w o v := by
  have two : ∀ {p p' : Value} (b : Bool), VRel μ p p' → VRel μ (.tuple #[p, .bool b]) (.tuple #[p', .bool b]) := by
    intro p p' b hp
    have := VsRel.cons hp (VsRel.single (.same (.bool b) rfl))
    exact .tuple _ _ this.1 this.2
  simp only [pop, popQ] at hv
  have hr := compOpd_rel r hx
  split at hv
  · rename_i u' v' hb
    rw [hb] at hr
    have hX : ∃ v'', a.eval x = .iface u' v'' ∧ VRel μ v' v'' := by
      generalize a.eval x = X at hr
      cases hr with
      | same _ hp => simp [plain] at hp
      | iface _ _ v'' h => exact ⟨v'', rfl, h⟩
    obtain ⟨v'', hX, hvv⟩ := hX
    rcases beq_cases u' t with ⟨b1, b2⟩ | ⟨b1, b2⟩
    · rw [b1] at hv; simp only [cond_true, Option.some.injEq] at hv; subst hv
      refine ⟨.tuple #[v'', .bool true], ?_, two true hvv⟩
      cases d <;> first | (exact absurd rfl (hni _)) | simp [execOp, ho, hX, Instr.typeAssert, run_underlying hd, b2]
    · rw [b1] at hv; simp only [cond_false, Option.some.injEq] at hv; subst hv
      refine ⟨.tuple #[z, .bool false], ?_, two false (VRel.self hzs μ)⟩
      cases d <;> first | (exact absurd rfl (hni _)) | simp [execOp, ho, hX, Instr.typeAssert, run_underlying hd, b2, zeroValue, typeInfo, hi, hz]
  · rename_i hb
    rw [hb] at hr
    have hX := hr.of_plain rfl
    simp only [Option.some.injEq] at hv; subst hv
    refine ⟨.tuple #[z, .bool false], ?_, two false (VRel.self hzs μ)⟩
    cases d <;> first | (exact absurd rfl (hni _)) | simp [execOp, ho, hX, Instr.typeAssert, run_underlying hd, zeroValue, typeInfo, hi, hz]
  · cases hv

theorem s_idxV1 (r : TsRel μ ts a) {t e : TypeId} {len : Nat} {inf : TypeInfo} {d : TypeDesc} {x i : Operand} {x' i' : Opd} (ho : o.op = .index t x i) (ht : P.underlying t = some (.array len e)) (hd : P.underlying e = some d) (hd1 : ∀ q, d ≠ .struct q) (hd2 : ∀ q q', d ≠ .array q q') (hi : P.info? e = some inf)
    (hx : compOpd x = some x') (hy : compOpd i = some i') (hv : pop ts (.idxV1 len inf.size x' i') = some v) : Did P μ a w o v := by
  simp only [pop, popQ, inB_eq] at hv
  split at hv
  · rename_i cs k n hb hn
    cases hc : (decide (0 ≤ n) && decide (n < len)) with
    | false => rw [hc] at hv; cases hv
    | true =>
      rw [hc] at hv; simp only [cond_true] at hv
      simp only [Bool.and_eq_true, decide_eq_true_eq] at hc
      have h1 := compOpd_rel r hx
      have h2 := compOpd_rel r hy
      rw [hb] at h1; rw [hn] at h2
      obtain ⟨cs', hX, hr⟩ := h1.agg_inv
      obtain ⟨v', g1, g2⟩ := hr.get hv
      have g1' : cs'[n.toNat * inf.size]? = some v' := by simpa using g1
      have ha : (isAgg e).run P w = .ok false w := by
        unfold isAgg
        cases d <;> first | (exact absurd rfl (hd1 _)) | (exact absurd rfl (hd2 _ _)) | simp [run_underlying hd]
      exact ⟨v', by simp [execOp, ho, hX, h2.int, Instr.index, asIntOf, run_underlying ht, hc.1, hc.2, sizeOf, typeInfo, hi, part, ha, g1'], g2⟩
  · cases hv

theorem s_idxVN (r : TsRel μ ts a) {t e : TypeId} {len : Nat} {inf : TypeInfo} {x i : Operand} {x' i' : Opd} (ho : o.op = .index t x i) (ht : P.underlying t = some (.array len e)) (hd : (∃ q, P.underlying e = some (.struct q)) ∨ ∃ q q', P.underlying e = some (.array q q')) (hi : P.info? e = some inf)
    (hx : compOpd x = some x') (hy : compOpd i = some i') (hv : pop ts (.idxVN len inf.size x' i') = some v) : Did P μ a w o v := by
  simp only [pop, popQ, inB_eq] at hv
  split at hv
  · rename_i cs k n hb hn
    cases hc : (decide (0 ≤ n) && decide (n < len) && Nat.ble (n.toNat * inf.size + inf.size) cs.toList.length) with
    | false => rw [hc] at hv; cases hv
    | true =>
      rw [hc] at hv; simp only [cond_true, Option.some.injEq] at hv; subst hv
      simp only [Bool.and_eq_true, decide_eq_true_eq] at hc
      have h1 := compOpd_rel r hx
      have h2 := compOpd_rel r hy
      rw [hb] at h1; rw [hn] at h2
      obtain ⟨cs', hX, hr⟩ := h1.agg_inv
      have ha := isAgg_true hd w
      refine ⟨.agg (cs'.extract (n.toNat * inf.size) (n.toNat * inf.size + inf.size)), by simp [execOp, ho, hX, h2.int, Instr.index, asIntOf, run_underlying ht, hc.1.1, hc.1.2, sizeOf, typeInfo, hi, part, ha], ?_⟩
      have hh := (hr.drop (n.toNat * inf.size)).take inf.size
      have e2 : (cs'.extract (n.toNat * inf.size) (n.toNat * inf.size + inf.size)).toList = (cs'.toList.drop (n.toNat * inf.size)).take inf.size := by
        simp [List.extract_eq_take_drop]
      exact .agg _ _ (by rw [e2]; exact hh.1) (by rw [e2]; exact hh.2)
  · cases hv

theorem isAggT_run {t : TypeId} {b : Bool} (h : isAggT P t = some b) (w : World) : (isAgg t).run P w = .ok b w := by
  unfold isAggT at h
  unfold isAgg
  split at h
  · rename_i q hq; simp only [Option.some.injEq] at h; subst h; simp [run_underlying hq]
  · rename_i q q' hq; simp only [Option.some.injEq] at h; subst h; simp [run_underlying hq]
  · rename_i d h1 h2 hd
    simp only [Option.some.injEq] at h; subst h
    cases d <;> first | (exact (h1 _ rfl).elim) | (exact (h2 _ _ rfl).elim) | simp [run_underlying hd]
  · cases h

theorem eqE_run : ∀ (n : Nat) (t : TypeId) (et : ET), compET P n t = some et → ∀ (k : Nat) (x y x' y' : Value) (b : Bool) (w : World), eqE et x y = some b → VRel μ x x' → VRel μ y y' → (Op.equalIn (k + n) t x' y').run P w = .ok b w := by
  intro n
  induction n with
  | zero => intro t et h; cases h
  | succ n ih =>
    intro t et h k x y x' y' b w hb hx hy
    simp only [compET] at h
    split at h
    · rename_i q hq
      simp only [Option.some.injEq] at h; subst h
      unfold eqE at hb
      split at hb <;> first | (rename_i heq; cases heq; done) | skip
      · rename_i k1 a k2 c _
        cases hk : decide (k1 = k2) with
        | false => rw [hk] at hb; cases hb
        | true =>
          rw [hk] at hb; simp only [cond_true, Option.some.injEq] at hb
          have hk := of_decide_eq_true hk
          subst hk; subst hb
          rw [hx.int, hy.int]
          exact run_equalIn_int w (k + n) t _ _ _ _ hq
      all_goals (first | cases hb | skip)
    · rename_i hq
      simp only [Option.some.injEq] at h; subst h
      unfold eqE at hb
      split at hb <;> first | (rename_i heq; cases heq; done) | skip
      · simp only [Option.some.injEq] at hb; subst hb
        rw [hx.bool, hy.bool]
        exact run_equalIn_bool' w (k + n) t _ _ hq
      all_goals (first | cases hb | skip)
    · rename_i hq
      simp only [Option.some.injEq] at h; subst h
      unfold eqE at hb
      split at hb <;> first | (rename_i heq; cases heq; done) | skip
      · simp only [Option.some.injEq] at hb; subst hb
        rw [hx.string, hy.string]
        exact run_equalIn_string w (k + n) t _ _ hq
      all_goals (first | cases hb | skip)
    · rename_i fields hq
      cases hs : P.stoodInHeld t with
      | true => rw [hs] at h; cases h
      | false =>
        rw [hs] at h; simp only [cond_false] at h
        have hf : P.underlying t = some (.struct (P.fieldsOf t)) := by rw [hq]; simp [Program.fieldsOf, hq]
        have hfe : P.fieldsOf t = fields := by simp [Program.fieldsOf, hq]
        -- field by field
        have key : ∀ (fs : List Field) (et : ET), compFs P (compET P n) fs = some et → ∀ (x y x' y' : Value) (b : Bool) (w : World), eqE et x y = some b → VRel μ x x' → VRel μ y y' →
            ∃ xs ys xs' ys', x = .agg xs ∧ y = .agg ys ∧ x' = .agg xs' ∧ y' = .agg ys' ∧ (Op.eqFields (k + n) xs' ys' fs).run P w = .ok b w := by
          intro fs
          induction fs with
          | nil =>
            intro et he x y x' y' b w hb hx hy
            simp only [compFs, Option.some.injEq] at he; subst he
            cases x with
            | agg xs =>
              cases y with
              | agg ys =>
                obtain ⟨xs', rfl, _⟩ := hx.agg_inv
                obtain ⟨ys', rfl, _⟩ := hy.agg_inv
                simp only [eqE, Option.some.injEq] at hb; subst hb
                exact ⟨xs, ys, xs', ys', rfl, rfl, rfl, rfl, rfl⟩
              | _ => simp [eqE] at hb
            | _ => simp [eqE] at hb
          | cons fl fs ihf =>
            intro et he x y x' y' b w hb hx hy
            simp only [compFs] at he
            cases hname : fl.name == "_" with
            | true => rw [hname] at he; cases he
            | false =>
              rw [hname] at he; simp only [cond_false] at he
              have hname : fl.name ≠ "_" := by simpa using hname
              split at he
              · rename_i i ag sub rest hi hag hsub hrest
                simp only [Option.some.injEq] at he; subst he
                cases x with
                | agg xs =>
                  cases y with
                  | agg ys =>
                    obtain ⟨xs', rfl, rx⟩ := hx.agg_inv
                    obtain ⟨ys', rfl, ry⟩ := hy.agg_inv
                    have hiagg := fun w => isAggT_run hag w
                    -- the parts
                    have parts : ∃ a c a' c' : Value, eqE (.fld ag fl.offset i.size sub rest) (.agg xs) (.agg ys) = (match eqE sub a c with
                          | some true => eqE rest (.agg xs) (.agg ys)
                          | some false => some false
                          | none => none) ∧ VRel μ a a' ∧ VRel μ c c' ∧ (∀ w : World, (part fl.type xs' fl.offset).run P w = .ok a' w) ∧ ∀ w : World, (part fl.type ys' fl.offset).run P w = .ok c' w := by
                      cases ag with
                      | true =>
                        cases hl : (Nat.ble (fl.offset + i.size) xs.toList.length && Nat.ble (fl.offset + i.size) ys.toList.length) with
                        | false => simp only [eqE, hl] at hb; cases hb
                        | true =>
                          have gx := (rx.drop fl.offset).take i.size
                          have gy := (ry.drop fl.offset).take i.size
                          have ex : (xs'.extract fl.offset (fl.offset + i.size)).toList = (xs'.toList.drop fl.offset).take i.size := by simp [List.extract_eq_take_drop]
                          have ey : (ys'.extract fl.offset (fl.offset + i.size)).toList = (ys'.toList.drop fl.offset).take i.size := by simp [List.extract_eq_take_drop]
                          refine ⟨.agg ((xs.toList.drop fl.offset).take i.size).toArray, .agg ((ys.toList.drop fl.offset).take i.size).toArray, .agg (xs'.extract fl.offset (fl.offset + i.size)), .agg (ys'.extract fl.offset (fl.offset + i.size)), by simp only [eqE, hl, cond_true] <;> rfl, .agg _ _ (by rw [ex]; exact gx.1) (by rw [ex]; exact gx.2), .agg _ _ (by rw [ey]; exact gy.1) (by rw [ey]; exact gy.2), ?_, ?_⟩
                          · intro w; simp [part, hiagg, sizeOf, typeInfo, hi]
                          · intro w; simp [part, hiagg, sizeOf, typeInfo, hi]
                      | false =>
                        simp only [eqE] at hb ⊢
                        split at hb
                        · rename_i a c ha hc
                          obtain ⟨a', a1, a2⟩ := rx.get ha
                          obtain ⟨c', c1, c2⟩ := ry.get hc
                          have a1' : xs'[fl.offset]? = some a' := by simpa using a1
                          have c1' : ys'[fl.offset]? = some c' := by simpa using c1
                          refine ⟨a, c, a', c', rfl, a2, c2, ?_, ?_⟩
                          · intro w; simp [part, hiagg, a1']
                          · intro w; simp [part, hiagg, c1']
                        · cases hb
                    obtain ⟨a, c, a', c', p1, p2, p3, p4, p5⟩ := parts
                    rw [p1] at hb
                    refine ⟨xs, ys, xs', ys', rfl, rfl, rfl, rfl, ?_⟩
                    simp only [Op.eqFields]
                    rw [if_pos hname]
                    simp only [Sem.run_bind, p4, p5, Result.andThen_ok]
                    split at hb
                    · rename_i hsubv
                      have := ih fl.type sub hsub k a c a' c' true w hsubv p2 p3
                      rw [this]
                      obtain ⟨_, _, _, _, e1, e2, e3, e4, hr⟩ := ihf rest hrest _ _ _ _ b w hb (.agg xs xs' rx.1 rx.2) (.agg ys ys' ry.1 ry.2)
                      cases e3; cases e4
                      simpa using hr
                    · rename_i hsubv
                      have := ih fl.type sub hsub k a c a' c' false w hsubv p2 p3
                      rw [this]
                      simp only [Option.some.injEq] at hb; subst hb
                      simp
                    · cases hb
                  | _ => cases ag <;> simp [eqE] at hb
                | _ => cases ag <;> simp [eqE] at hb
              · cases he
        obtain ⟨xs, ys, xs', ys', rfl, rfl, rfl, rfl, hr⟩ := key fields.toList et h x y x' y' b w hb hx hy
        rw [show k + (n + 1) = (k + n) + 1 from rfl, run_equalIn_struct w (k + n) t xs' ys' hf hs, hfe]
        exact hr
    · cases h

theorem structET_inv {t : TypeId} {et : ET} (h : structET P t = some et) : P.eqGuardType P.depth t = false ∧ compET P 6 t = some et ∧ ∃ q, P.underlying t = some (.struct q) := by
  unfold structET at h
  split at h
  · rename_i q hq
    cases hg : P.eqGuardType P.depth t with
    | true => rw [hg] at h; cases h
    | false => rw [hg] at h; exact ⟨rfl, h, q, hq⟩
  · cases h

theorem eqE_agg {t : TypeId} {et : ET} {q : Array Field} (hq : P.underlying t = some (.struct q)) (h : compET P 6 t = some et) {x y : Value} {b : Bool} (hb : eqE et x y = some b) : (∃ xs, x = .agg xs) ∧ ∃ ys, y = .agg ys := by
  simp only [compET, hq] at h
  cases hs : P.stoodInHeld t with
  | true => rw [hs] at h; cases h
  | false =>
    rw [hs] at h; simp only [cond_false] at h
    cases hl : q.toList with
    | nil =>
      rw [hl] at h; simp only [compFs, Option.some.injEq] at h; subst h
      cases x <;> cases y <;> first | (simp [eqE] at hb; done) | exact ⟨⟨_, rfl⟩, _, rfl⟩
    | cons fl r =>
      rw [hl] at h; simp only [compFs] at h
      cases hn : fl.name == "_" with
      | true => rw [hn] at h; cases h
      | false =>
        rw [hn] at h; simp only [cond_false] at h
        split at h
        · simp only [Option.some.injEq] at h; subst h
          rename_i ag _ _ _ _ _ _
          cases ag <;> cases x <;> cases y <;> first | (simp [eqE] at hb; done) | exact ⟨⟨_, rfl⟩, _, rfl⟩
        · cases h

theorem s_eqS (r : TsRel μ ts a) {op : BinOp} {t u : TypeId} {x y : Operand} {x' y' : Opd} {ng : Bool} {et : ET} (ho : o.op = .binOp op t x y u) (hop : op = .eql ∧ ng = false ∨ op = .neq ∧ ng = true) (he : structET P t = some et)
    (hx : compOpd x = some x') (hy : compOpd y = some y') (hv : pop ts (.eqS ng et x' y') = some v) : Did P μ a w o v := by
  obtain ⟨hg, hc, q, hq⟩ := structET_inv he
  simp only [pop, popQ] at hv
  split at hv
  · rename_i b hb
    simp only [Option.some.injEq] at hv; subst hv
    have rx := compOpd_rel r hx
    have ry := compOpd_rel r hy
    obtain ⟨⟨xs, e1⟩, ys, e2⟩ := eqE_agg hq hc hb
    have run := fun w => eqE_run 6 t et hc 9994 _ _ _ _ b w hb rx ry
    rw [e1] at rx; rw [e2] at ry
    obtain ⟨xs', hX, _⟩ := rx.agg_inv
    obtain ⟨ys', hY, _⟩ := ry.agg_inv
    rw [hX, hY] at run
    have g := fun w : World => run_eqGuard_agg w op t x y xs' ys' hg
    refine ⟨_, ?_, .same _ rfl⟩
    rcases hop with ⟨rfl, rfl⟩ | ⟨rfl, rfl⟩
    · simp only [execOp, ho, hX, hY, Sem.run_bind, g, Result.andThen_ok, run_eql_struct]
      rw [run]; rfl
    · simp only [execOp, ho, hX, hY, Sem.run_bind, g, Result.andThen_ok, run_neq_struct]
      rw [run]; rfl
  · cases hv

end
end
end Go.Proofs.YthjhlifbdieibaaGreatDoor.Ai
/- All operations that ask the frame alone, in one sentence. -/
namespace Go.Proofs.YthjhlifbdieibaaGreatDoor.Ai
noncomputable section
open Go.RowKit

section
variable {P : Program} {μ : Map} {ts : T Value} {a : Act} {w : World} {o : Oper} {v : Value}

theorem bad_ne_p {q : POp} : (AOp.p q) ≠ .bad := by intro h; cases h

theorem pop_sound {q : POp} (h : comp P o.op = .p q) (r : TsRel μ ts a) (hv : pop ts q = some v) : Did P μ a w o v := by
  cases hop : o.op with
  | move x =>
    rw [hop] at h; simp only [comp] at h
    obtain ⟨y, hx, e⟩ := o1_inv h bad_ne_p; cases e
    exact s_mov r (.inl hop) hx hv
  | assign x =>
    rw [hop] at h; simp only [comp] at h
    obtain ⟨y, hx, e⟩ := o1_inv h bad_ne_p; cases e
    exact s_mov r (.inr hop) hx hv
  | pick c x y =>
    rw [hop] at h; simp only [comp] at h
    obtain ⟨c', hc, e⟩ := o1_inv h bad_ne_p
    obtain ⟨x', hx, e⟩ := o1_inv e bad_ne_p
    obtain ⟨y', hy, e⟩ := o1_inv e bad_ne_p; cases e
    exact s_pick r hop hc hx hy hv
  | binOp op t x y u =>
    rw [hop] at h; simp only [comp] at h
    split at h
    · rename_i k hk
      obtain ⟨x', hx, e⟩ := o1_inv h bad_ne_p; cases e
      exact s_eqNil r hop (.inl ⟨rfl, rfl⟩) hk hx hv
    · rename_i k hk
      obtain ⟨x', hx, e⟩ := o1_inv h bad_ne_p; cases e
      exact s_eqNil r hop (.inr ⟨rfl, rfl⟩) hk hx hv
    · split at h
      · rename_i et het
        obtain ⟨x', hx, e⟩ := o1_inv h bad_ne_p
        obtain ⟨y', hy, e⟩ := o1_inv e bad_ne_p; cases e
        exact s_eqS r hop (.inl ⟨rfl, rfl⟩) het hx hy hv
      · obtain ⟨x', hx, e⟩ := o1_inv h bad_ne_p
        obtain ⟨y', hy, e⟩ := o1_inv e bad_ne_p; cases e
        exact s_bin r hop hx hy hv
    · split at h
      · rename_i et het
        obtain ⟨x', hx, e⟩ := o1_inv h bad_ne_p
        obtain ⟨y', hy, e⟩ := o1_inv e bad_ne_p; cases e
        exact s_eqS r hop (.inr ⟨rfl, rfl⟩) het hx hy hv
      · obtain ⟨x', hx, e⟩ := o1_inv h bad_ne_p
        obtain ⟨y', hy, e⟩ := o1_inv e bad_ne_p; cases e
        exact s_bin r hop hx hy hv
    · obtain ⟨x', hx, e⟩ := o1_inv h bad_ne_p
      obtain ⟨y', hy, e⟩ := o1_inv e bad_ne_p; cases e
      exact s_bin r hop hx hy hv
  | unOp op t x =>
    rw [hop] at h; simp only [comp] at h
    split at h
    · obtain ⟨x', hx, e⟩ := o1_inv h bad_ne_p; cases e
      exact s_not r hop hx hv
    · obtain ⟨x', hx, e⟩ := o1_inv h bad_ne_p; cases e
      exact s_neg r hop hx hv
    · cases h
  | convert s t x =>
    rw [hop] at h; simp only [comp] at h
    split at h
    · rename_i d k hd hk
      obtain ⟨x', hx, e⟩ := o1_inv h bad_ne_p; cases e
      exact s_conv r hop hd hk hx hv
    · split at h
      · obtain ⟨x', hx, e⟩ := o1_inv h bad_ne_p; cases e
      · cases h
    · cases h
  | fieldAddr s x f =>
    rw [hop] at h; simp only [comp] at h
    split at h
    · rename_i fields hs
      split at h
      · rename_i fl hf
        split at h
        · rename_i i hi
          cases hz : Nat.beq i.size 0 with
          | true => rw [hz] at h; cases h
          | false =>
            rw [hz] at h; simp only [cond_false] at h
            obtain ⟨x', hx, e⟩ := o1_inv h bad_ne_p; cases e
            exact s_fieldAddr r hop hs hf hi (Nat.ne_of_beq_eq_false hz) hx hv
        · cases h
      · cases h
    · cases h
  | field s x f =>
    rw [hop] at h; simp only [comp] at h
    split at h
    · rename_i fields hs
      split at h
      · rename_i fl hf
        split at h
        · rename_i q i hd hi
          obtain ⟨x', hx, e⟩ := o1_inv h bad_ne_p; cases e
          exact s_fieldN r hop hs hf (.inl ⟨q, hd⟩) hi hx hv
        · rename_i q q' i hd hi
          obtain ⟨x', hx, e⟩ := o1_inv h bad_ne_p; cases e
          exact s_fieldN r hop hs hf (.inr ⟨q, q', hd⟩) hi hx hv
        · rename_i d i hn1 hn2 hd hi
          obtain ⟨x', hx, e⟩ := o1_inv h bad_ne_p; cases e
          exact s_field1 r hop hs hf hd (fun q hq => hn1 q (by rw [← hq])) (fun q q' hq => hn2 q q' (by rw [← hq])) hx hv
        · cases h
      · cases h
    · cases h
  | indexAddr t x i =>
    rw [hop] at h; simp only [comp] at h
    split at h
    · rename_i e ht
      split at h
      · rename_i inf hi
        obtain ⟨x', hx, e1⟩ := o1_inv h bad_ne_p
        obtain ⟨y', hy, e1⟩ := o1_inv e1 bad_ne_p; cases e1
        exact s_idxS r hop ht hi hx hy hv
      · cases h
    · rename_i len e ht
      split at h
      · rename_i inf hi
        obtain ⟨x', hx, e1⟩ := o1_inv h bad_ne_p
        obtain ⟨y', hy, e1⟩ := o1_inv e1 bad_ne_p; cases e1
        exact s_idxA r hop ht hi hx hy hv
      · cases h
    · cases h
  | index t x i =>
    rw [hop] at h; simp only [comp] at h
    split at h
    · rename_i ht
      obtain ⟨x', hx, e1⟩ := o1_inv h bad_ne_p
      obtain ⟨y', hy, e1⟩ := o1_inv e1 bad_ne_p; cases e1
      exact s_idxStr r hop ht hx hy hv
    · rename_i len e ht
      split at h
      · rename_i q inf hd hi
        obtain ⟨x', hx, e1⟩ := o1_inv h bad_ne_p
        obtain ⟨y', hy, e1⟩ := o1_inv e1 bad_ne_p; cases e1
        exact s_idxVN r hop ht (.inl ⟨q, hd⟩) hi hx hy hv
      · rename_i q q' inf hd hi
        obtain ⟨x', hx, e1⟩ := o1_inv h bad_ne_p
        obtain ⟨y', hy, e1⟩ := o1_inv e1 bad_ne_p; cases e1
        exact s_idxVN r hop ht (.inr ⟨q, q', hd⟩) hi hx hy hv
      · rename_i d inf hn1 hn2 hd hi
        obtain ⟨x', hx, e1⟩ := o1_inv h bad_ne_p
        obtain ⟨y', hy, e1⟩ := o1_inv e1 bad_ne_p; cases e1
        exact s_idxV1 r hop ht hd (fun q hq => hn1 q (by rw [← hq])) (fun q q' hq => hn2 q q' (by rw [← hq])) hi hx hy hv
      · cases h
    · cases h
  | makeFunc fn fs cs =>
    rw [hop] at h; simp only [comp] at h
    split at h
    · rename_i f fs' cs' h1 h2
      cases h
      exact s_mkFunc r hop h1 h2 hv
    · cases h
  | makeInterface t x =>
    rw [hop] at h; simp only [comp] at h
    split at h
    · cases h
    · rename_i d hni hd
      obtain ⟨x', hx, e1⟩ := o1_inv h bad_ne_p; cases e1
      exact s_mkIface r hop hd (fun q hq => hni q (by rw [← hq])) hx hv
    · cases h
  | typeAssert x u t ok =>
    rw [hop] at h; simp only [comp] at h
    split at h
    · cases h
    · rename_i d i hni hd hi
      split at h
      · rename_i z hz
        obtain ⟨hzs, h⟩ := cond_inv h bad_ne_p
        obtain ⟨x', hx, e1⟩ := o1_inv h bad_ne_p; cases e1
        exact s_tyAs r hop hd (fun q hq => hni q (by rw [← hq])) hi hz hzs hx hv
      · cases h
    · cases h
  | extract x i =>
    rw [hop] at h; simp only [comp] at h
    obtain ⟨x', hx, e⟩ := o1_inv h bad_ne_p; cases e
    exact s_ext r hop hx hv
  | nilCheck x =>
    rw [hop] at h; simp only [comp] at h
    obtain ⟨x', hx, e⟩ := o1_inv h bad_ne_p; cases e
    exact s_nilchk r hop hx hv
  | build t parts =>
    rw [hop] at h; simp only [comp] at h
    split at h
    · rename_i fields z hs hz
      split at h
      · rename_i places hpl
        split at h
        · rename_i ps hps
          cases h
          exact s_build r hop hz (.inl ⟨fields, places, hs, hpl, hps⟩) hv
        · cases h
      · cases h
    · rename_i n e z hs hz
      split at h
      · rename_i ie hie
        split at h
        · rename_i ps hps
          cases h
          exact s_build r hop hz (.inr ⟨n, e, ie, hs, hie, hps⟩) hv
        · cases h
      · cases h
    · cases h
  | call c =>
    rw [hop] at h; simp only [comp] at h
    split at h
    · rename_i b hb
      unfold compBuiltin at h
      split at h
      · rename_i x ha
        split at h
        · rename_i t hts
          split at h
          · rename_i e ht
            obtain ⟨x', hx, e1⟩ := o1_inv h bad_ne_p; cases e1
            exact s_len r hop hb ha hts (.inl ⟨rfl, e, ht⟩) hx hv
          · rename_i ht
            obtain ⟨x', hx, e1⟩ := o1_inv h bad_ne_p; cases e1
            exact s_len r hop hb ha hts (.inr ⟨rfl, ht⟩) hx hv
          · cases h
        · cases h
      · split at h
        · split at h
          · obtain ⟨x', hx, e1⟩ := o1_inv h bad_ne_p; cases e1
          · cases h
        · cases h
      · rename_i x ha
        obtain ⟨x', hx, e1⟩ := o1_inv h bad_ne_p; cases e1
        exact s_usd r hop hb ha hx hv
      · rename_i x y ha
        split at h
        · split at h
          · split at h
            · obtain ⟨_, e1⟩ := cond_inv h bad_ne_p
              obtain ⟨x', hx, e1⟩ := o1_inv e1 bad_ne_p
              obtain ⟨y', hy, e1⟩ := o1_inv e1 bad_ne_p; cases e1
            · cases h
          · cases h
        · cases h
      · rename_i x y ha
        obtain ⟨x', hx, e1⟩ := o1_inv h bad_ne_p
        obtain ⟨y', hy, e1⟩ := o1_inv e1 bad_ne_p; cases e1
        exact s_mx r hop hb ha hx hy hv
      · rename_i x y ha
        obtain ⟨x', hx, e1⟩ := o1_inv h bad_ne_p
        obtain ⟨y', hy, e1⟩ := o1_inv e1 bad_ne_p; cases e1
        exact s_mn r hop hb ha hx hy hv
      · split at h
        · split at h
          · split at h
            · obtain ⟨x', hx, e1⟩ := o1_inv h bad_ne_p
              obtain ⟨y', hy, e1⟩ := o1_inv e1 bad_ne_p
              split at e1 <;> cases e1
            · obtain ⟨_, e1⟩ := cond_inv h bad_ne_p
              obtain ⟨x', hx, e1⟩ := o1_inv e1 bad_ne_p
              obtain ⟨y', hy, e1⟩ := o1_inv e1 bad_ne_p
              split at e1 <;> cases e1
            · split at h
              · obtain ⟨x', hx, e1⟩ := o1_inv h bad_ne_p
                obtain ⟨y', hy, e1⟩ := o1_inv e1 bad_ne_p; cases e1
              · cases h
            · cases h
          · cases h
        · cases h
      · cases h
    · split at h <;> cases h
    · split at h <;> cases h
    · split at h
      · obtain ⟨x', hx, e1⟩ := o1_inv h bad_ne_p; cases e1
      · cases h
    · cases h
  | slice t x lo hi mx =>
    rw [hop] at h; simp only [comp] at h
    split at h
    · split at h
      · obtain ⟨x', hx, e⟩ := o1_inv h bad_ne_p
        rcases oO_inv e bad_ne_p with ⟨_, e⟩ | ⟨_, _, _, _, e⟩ <;> rcases oO_inv e bad_ne_p with ⟨_, e⟩ | ⟨_, _, _, _, e⟩ <;> rcases oO_inv e bad_ne_p with ⟨_, e⟩ | ⟨_, _, _, _, e⟩ <;> cases e
      · cases h
    · cases h
  | load t x =>
    rw [hop] at h; simp only [comp] at h
    split at h <;> first | (cases h; done) | (obtain ⟨x', hx, e⟩ := o1_inv h bad_ne_p; cases e)
  | store t x y =>
    rw [hop] at h; simp only [comp] at h
    split at h
    · obtain ⟨x', hx, e⟩ := o1_inv h bad_ne_p
      obtain ⟨x', hx, e⟩ := o1_inv e bad_ne_p; cases e
    · cases h
  | alloc t => rw [hop] at h; simp only [comp] at h; split at h <;> cases h
  | box t x =>
    rw [hop] at h; simp only [comp] at h
    split at h <;> first | (cases h; done) | (obtain ⟨x', hx, e⟩ := o1_inv h bad_ne_p; cases e)
  | buildSlice t n parts =>
    rw [hop] at h; simp only [comp] at h
    split at h
    · split at h
      · obtain ⟨_, e⟩ := cond_inv h bad_ne_p
        split at e <;> cases e
      · cases h
    · cases h
  | makeSlice t l c =>
    rw [hop] at h; simp only [comp] at h
    split at h
    · split at h
      · obtain ⟨_, e⟩ := cond_inv h bad_ne_p
        obtain ⟨x', hx, e⟩ := o1_inv e bad_ne_p
        obtain ⟨x', hx, e⟩ := o1_inv e bad_ne_p; cases e
      · cases h
    · cases h
  | _ => rw [hop] at h; simp only [comp] at h; cases h

end
end
end Go.Proofs.YthjhlifbdieibaaGreatDoor.Ai
/- The operations that read the heap. -/
namespace Go.Proofs.YthjhlifbdieibaaGreatDoor.Ai
noncomputable section
open Go.RowKit

section
variable {P : Program} {C : CRel} {μ : Map} {h : Heap} {B : Fr} {w0 : World} {ts : T Value} {a : Act} {w : World} {o : Oper} {v : Value}

theorem s_load1 (R : Rel C μ h B w0 w) (r : TsRel μ ts a) {t : TypeId} {x : Operand} {y : Opd} {d : TypeDesc} (ho : o.op = .load t x) (hd : P.underlying t = some d) (hd1 : ∀ q, d ≠ .struct q) (hd2 : ∀ q q', d ≠ .array q q')
    (hx : compOpd x = some y) (hv : rop ts h (.load1 y) = some v) : Did P μ a w o v := by
  simp only [rop, ropQ] at hv
  split at hv
  · rename_i b o' hb
    have h1 := compOpd_rel r hx
    rw [hb] at h1
    obtain ⟨e, he, hX⟩ := h1.ptr_inv
    obtain ⟨v', g1, g2⟩ := R.rd hv he
    refine ⟨v', ?_, g2⟩
    have ha : (isAgg t).run P w = .ok false w := by
      unfold isAgg
      cases d <;> first | (exact absurd rfl (hd1 _)) | (exact absurd rfl (hd2 _ _)) | simp [run_underlying hd]
    simp [execOp, ho, hX, Instr.loadAt, Instr.sureAddr, loadVar, ha, g1]
  · cases hv

theorem s_loadN (R : Rel C μ h B w0 w) (r : TsRel μ ts a) {t : TypeId} {x : Operand} {y : Opd} {i : TypeInfo} (ho : o.op = .load t x) (hd : (∃ q, P.underlying t = some (.struct q)) ∨ ∃ q q', P.underlying t = some (.array q q')) (hi : P.info? t = some i)
    (hx : compOpd x = some y) (hv : rop ts h (.loadN i.size y) = some v) : Did P μ a w o v := by
  simp only [rop, ropQ] at hv
  split at hv
  · rename_i b o' hb
    split at hv
    · rename_i l hl
      simp only [Option.some.injEq] at hv; subst hv
      have h1 := compOpd_rel r hx
      rw [hb] at h1
      obtain ⟨e, he, hX⟩ := h1.ptr_inv
      obtain ⟨l', g1, g2, g3⟩ := R.rds hl he
      have hload := run_loadCells_list (P := P) w ⟨e.blk, e.base + o', none⟩ l' g2
      rw [g1] at hload
      refine ⟨.agg l'.toArray, ?_, .agg _ _ (by simpa using g3.1) (by simpa using g3.2)⟩
      simp [execOp, ho, hX, Instr.loadAt, Instr.sureAddr, loadVar, isAgg_true hd, sizeOf, typeInfo, hi, hload]
    · cases hv
  · cases hv

theorem asNat_inv {x : Value} {n : Nat} (h : asNat x = some n) : ∃ k, x = .int k n := by
  unfold asNat at h
  split at h
  · rename_i k m
    cases hd : decide (0 ≤ m) with
    | false => rw [hd] at h; cases h
    | true =>
      rw [hd] at h; simp only [cond_true, Option.some.injEq] at h
      have := of_decide_eq_true hd
      exact ⟨k, by rw [← h]; congr 1; omega⟩
  · cases h

theorem bound_run {x : Value} {n : Nat} {k : IntKind} (hx : x = .int k n) (y : Nat) (hy : n ≤ y) (code : BoundsCode) (w : World) : (Instr.sliceBound x y code).run P w = .ok n w := by
  subst hx
  have h1 : (0 : Int) ≤ (n : Int) ∧ (n : Int) ≤ (y : Int) := ⟨by omega, by omega⟩
  simp [Instr.sliceBound, asIntOf, h1]

/-- the bounds of a slice: what they are in the run, what they are in the model -/
theorem bounds_run (r : TsRel μ ts a) {lo hi mx : Option Operand} {lo' hi' mx' : Option Opd} (hlo : (lo = none ∧ lo' = none) ∨ ∃ X y, lo = some X ∧ compOpd X = some y ∧ lo' = some y) (hhi : (hi = none ∧ hi' = none) ∨ ∃ X y, hi = some X ∧ compOpd X = some y ∧ hi' = some y)
    (hmx : (mx = none ∧ mx' = none) ∨ ∃ X y, mx = some X ∧ compOpd X = some y ∧ mx' = some y) {len cap C l hh m : Nat} (hC : cap ≤ C)
    (h1 : asNO ts 0 lo' = some l) (h2 : asNO ts len hi' = some hh) (h3 : asNO ts cap mx' = some m)
    (b1 : l ≤ hh) (b2 : hh ≤ m) (b3 : m ≤ cap) (hm0 : mx' = none ∨ hi'.isSome = true) (w : World) :
    (Instr.sliceBounds true len C (lo.map a.eval) (hi.map a.eval) (mx.map a.eval)).run P w = .ok (l, hh, if mx'.isSome then m else C) w := by
  have val : ∀ {X y n}, compOpd X = some y → asNat (ev ts y) = some n → ∃ k, a.eval X = .int k (n : Nat) := by
    intro X y n hc hn
    obtain ⟨k, hk⟩ := asNat_inv hn
    have := compOpd_rel r hc
    rw [hk] at this
    exact ⟨k, this.int⟩
  rcases hmx with ⟨rfl, rfl⟩ | ⟨X3, y3, rfl, c3, rfl⟩
  · simp only [asNO, Option.some.injEq] at h3
    rcases hhi with ⟨rfl, rfl⟩ | ⟨X2, y2, rfl, c2, rfl⟩
    · simp only [asNO, Option.some.injEq] at h2
      rcases hlo with ⟨rfl, rfl⟩ | ⟨X1, y1, rfl, c1, rfl⟩
      · simp only [asNO, Option.some.injEq] at h1
        simp [Instr.sliceBounds, h1, h2]
      · obtain ⟨k1, e1⟩ := val c1 h1
        have := fun code w => bound_run (P := P) e1 hh b1 code w
        subst h2
        simp [Instr.sliceBounds, this]
    · obtain ⟨k2, e2⟩ := val c2 h2
      have g2 := fun code w => bound_run (P := P) e2 C (by omega) code w
      rcases hlo with ⟨rfl, rfl⟩ | ⟨X1, y1, rfl, c1, rfl⟩
      · simp only [asNO, Option.some.injEq] at h1
        simp [Instr.sliceBounds, h1, g2]
      · obtain ⟨k1, e1⟩ := val c1 h1
        have := fun code w => bound_run (P := P) e1 hh b1 code w
        simp [Instr.sliceBounds, this, g2]
  · rcases hhi with ⟨rfl, rfl⟩ | ⟨X2, y2, rfl, c2, rfl⟩
    · simp at hm0
    · obtain ⟨k2, e2⟩ := val c2 h2
      obtain ⟨k3, e3⟩ := val c3 h3
      have g2 := fun code w => bound_run (P := P) e2 m b2 code w
      have g3 := fun code w => bound_run (P := P) e3 C (by omega) code w
      rcases hlo with ⟨rfl, rfl⟩ | ⟨X1, y1, rfl, c1, rfl⟩
      · simp only [asNO, Option.some.injEq] at h1
        simp [Instr.sliceBounds, h1, g2, g3]
      · obtain ⟨k1, e1⟩ := val c1 h1
        have := fun code w => bound_run (P := P) e1 hh b1 code w
        simp [Instr.sliceBounds, this, g2, g3]


theorem vague_rel (μ : Map) (b o k : Nat) (p : Option Addr) (hp : p.isSome = true) (c : Nat) : VRel μ (.slice (some ⟨b, o, some k⟩) 0 0) (.slice p 0 c) := by
  cases p with
  | none => cases hp
  | some q => exact .vague b o k q c

theorem if_some {c : Prop} [Decidable c] {p q : Option Addr} (hp : p.isSome = true) (hq : q.isSome = true) : (if c then p else q).isSome = true := by split <;> assumption

theorem slice_run {t e : TypeId} {inf : TypeInfo} (ht : P.underlying t = some (.slice e)) (hin : P.info? e = some inf) (x : Value) (base : Option Addr) (len C : Nat) (lo hi mx : Option Value) (l hh m : Nat)
    (hX : x = .slice base len C) (hb : ∀ w : World, (Instr.sliceBounds true len C lo hi mx).run P w = .ok (l, hh, m) w) : (Instr.sliceAt t x lo hi mx).run P w = .ok (.slice (if m = l then base else base.map (·.add (l * inf.size))) (hh - l) (m - l)) w := by
  subst hX
  simp only [Instr.sliceAt, Sem.run_bind, run_underlying ht, Result.andThen_ok, Instr.slice, hb]
  simp [sizeOf, typeInfo, hin]

theorem s_slice (R : Rel C μ h B w0 w) (r : TsRel μ ts a) {t e : TypeId} {inf : TypeInfo} {x : Operand} {x' : Opd} {lo hi mx : Option Operand} {lo' hi' mx' : Option Opd} (ho : o.op = .slice t x lo hi mx) (ht : P.underlying t = some (.slice e)) (hin : P.info? e = some inf) (hx : compOpd x = some x')
    (hlo : (lo = none ∧ lo' = none) ∨ ∃ X y, lo = some X ∧ compOpd X = some y ∧ lo' = some y) (hhi : (hi = none ∧ hi' = none) ∨ ∃ X y, hi = some X ∧ compOpd X = some y ∧ hi' = some y)
    (hmx : (mx = none ∧ mx' = none) ∨ ∃ X y, mx = some X ∧ compOpd X = some y ∧ mx' = some y) (hv : rop ts h (.slice inf.size x' lo' hi' mx') = some v) : Did P μ a w o v := by
  simp only [rop, ropQ] at hv
  have h1 := compOpd_rel r hx
  have exec : ∀ {V : Value}, (∀ w : World, (Instr.sliceAt t (a.eval x) (lo.map a.eval) (hi.map a.eval) (mx.map a.eval)).run P w = .ok V w) → (execOp a.eval o).run P w = .ok (.value V) w := by
    intro V hV
    simp only [execOp, ho, Sem.run_bind, hV, Result.andThen_ok]; rfl
  split at hv
  · cases hv
  · rename_i l hl
    split at hv
    · rename_i base len cap hb
      rw [hb] at h1
      split at hv
      · rename_i hh m hhh hm
        cases hc : (Nat.ble l hh && Nat.ble hh m && Nat.ble m cap && (mx'.isNone || hi'.isSome)) with
        | false => rw [hc] at hv; cases hv
        | true =>
          rw [hc] at hv; simp only [cond_true] at hv
          simp only [Bool.and_eq_true, Bool.or_eq_true] at hc
          obtain ⟨⟨⟨b1, b2⟩, b3⟩, b4⟩ := hc
          have b1 := ble_true b1
          have b2 := ble_true b2
          have b3 := ble_true b3
          have b4 : mx' = none ∨ hi'.isSome = true := b4.imp (fun hq => by simpa using hq) id
          have bnd : ∀ C, cap ≤ C → ∀ w : World, (Instr.sliceBounds true len C (lo.map a.eval) (hi.map a.eval) (mx.map a.eval)).run P w = .ok (l, hh, if mx'.isSome then m else C) w :=
            fun C hC w => bounds_run r hlo hhi hmx hC hl hhh hm b1 b2 b3 b4 w
          have hmn : mx' = none → m = cap := by intro hq; subst hq; simpa [asNO] using hm.symm
          split at hv
          · simp only [Option.some.injEq] at hv; subst hv
            have hX := h1.of_plain rfl
            refine ⟨.slice none (hh - l) (m - l), exec (fun w => ?_), .same _ rfl⟩
            rw [slice_run (w := w) ht hin _ none len cap _ _ _ l hh m hX (fun w => ?_)]
            · simp
            · rw [bnd cap (Nat.le_refl _) w]
              cases hq : mx' with
              | none => simp [hmn hq]
              | some q => simp
          · rename_i b o'
            split at hv
            · rename_i k hk
              cases hs : Nat.beq k.s inf.size with
              | false => rw [hs] at hv; cases hv
              | true =>
                rw [hs] at hv; simp only [cond_true] at hv
                have hs := Nat.eq_of_beq_eq_true hs
                obtain ⟨en, he, hX⟩ := h1.slice_inv
                obtain ⟨en', he', x2⟩ := R.blk b k hk
                rw [he] at he'; cases he'
                have es : en.s = inf.size := by rw [x2.s, hs]
                have enn := x2.n
                have hC : cap ≤ (if o' + cap * en.s = en.n then cap + en.extra else cap) := by split <;> omega
                have run := fun w => slice_run (w := w) ht hin _ _ len _ _ _ _ l hh _ hX (fun w => bnd _ hC w)
                cases hml : Nat.beq m l with
                | true =>
                  rw [hml] at hv; simp only [cond_true, Option.some.injEq] at hv; subst hv
                  have hml := Nat.eq_of_beq_eq_true hml
                  have hz : hh - l = 0 := by omega
                  refine ⟨_, exec (fun w => run w), ?_⟩
                  rw [hz]
                  exact vague_rel μ _ _ _ _ (if_some rfl rfl) _
                | false =>
                  rw [hml] at hv; simp only [cond_false] at hv
                  have hml : m ≠ l := Nat.ne_of_beq_eq_false hml
                  cases hg : (mx'.isSome && (k.grown && Nat.beq (o' + m * inf.size) k.n)) with
                  | true => rw [hg] at hv; cases hv
                  | false =>
                    rw [hg] at hv; simp only [cond_false, Option.some.injEq] at hv; subst hv
                    refine ⟨_, exec (fun w => run w), ?_⟩
                    have hne : (if mx'.isSome = true then m else if o' + cap * en.s = en.n then cap + en.extra else cap) ≠ l := by split <;> omega
                    rw [if_neg hne]
                    have key : (if mx'.isSome = true then m else if o' + cap * en.s = en.n then cap + en.extra else cap) - l = if (o' + l * inf.size) + (m - l) * en.s = en.n then (m - l) + en.extra else m - l := by
                      have hadd : (o' + l * inf.size) + (m - l) * en.s = o' + m * en.s := by
                        rw [es, Nat.sub_mul]
                        have : l * inf.size ≤ m * inf.size := Nat.mul_le_mul_right _ (by omega)
                        omega
                      rw [hadd]
                      cases hq : mx' with
                      | none =>
                        have := hmn hq
                        subst this
                        simp only [Option.isSome_none, Bool.false_eq_true, if_false]
                        split <;> omega
                      | some q =>
                        rw [hq] at hg
                        simp only [Option.isSome_some, Bool.true_and, Bool.and_eq_false_iff] at hg
                        simp only [Option.isSome_some, if_true]
                        split
                        · rename_i hend
                          rcases hg with hg | hg
                          · have := x2.grown hg; omega
                          · exact absurd (by rw [← es, ← enn]; exact hend) (Nat.ne_of_beq_eq_false hg)
                        · rfl
                    rw [key]
                    simp only [Option.map_some, Addr.add_lit]
                    rw [Nat.add_assoc]
                    exact .slice b (o' + l * inf.size) (hh - l) (m - l) en he
            · cases hv
          · rename_i b o' q
            cases hz : (Nat.beq len 0 && Nat.beq cap 0) with
            | false => rw [hz] at hv; cases hv
            | true =>
              rw [hz] at hv; simp only [cond_true, Option.some.injEq] at hv; subst hv
              simp only [Bool.and_eq_true] at hz
              have z1 := Nat.eq_of_beq_eq_true hz.1
              have z2 := Nat.eq_of_beq_eq_true hz.2
              subst z1; subst z2
              have hX : ∃ a' c', a.eval x = .slice (some a') 0 c' := by
                generalize a.eval x = X at h1
                cases h1 with
                | same _ hp => simp [plain] at hp
                | vague => exact ⟨_, _, rfl⟩
              obtain ⟨a', c', hX⟩ := hX
              have run := fun w => slice_run (w := w) ht hin _ _ 0 _ _ _ _ l hh _ hX (fun w => bnd _ (Nat.zero_le c') w)
              refine ⟨_, exec (fun w => run w), ?_⟩
              have hz : hh - l = 0 := by omega
              rw [hz]
              exact vague_rel μ _ _ _ _ (if_some rfl rfl) _
      · cases hv
    · cases hv

theorem bytes_run {μ : Map} (f : Value → ByteArray → Sem (ForInStep ByteArray)) (hf : ∀ n r, f (.int .u8 n) r = pure (ForInStep.yield (r.push (UInt8.ofNat n.toNat)))) :
    ∀ (l l' : List Value) (acc s : ByteArray) (w : World), VsRel μ l l' → bytesGo acc l = some s → Sem.run P (forIn l' acc f) w = .ok s w := by
  intro l
  induction l with
  | nil =>
    intro l' acc s w hv hb
    cases l' with
    | nil => simp only [bytesGo, Option.some.injEq] at hb; subst hb; simp
    | cons => exact absurd hv.1 (by simp)
  | cons x l ih =>
    intro l' acc s w hv hb
    cases l' with
    | nil => exact absurd hv.1 (by simp)
    | cons y l' =>
      have hxy := hv.2 0 x y rfl rfl
      have hr : VsRel μ l l' := ⟨by have := hv.1; simpa using this, fun i v v' a b => hv.2 (i + 1) v v' (by simpa using a) (by simpa using b)⟩
      unfold bytesGo at hb
      split at hb
      · rename_i h1; cases h1
      · rename_i n r h1
        simp only [List.cons.injEq] at h1
        obtain ⟨rfl, rfl⟩ := h1
        rw [hxy.int]
        simp only [List.forIn_cons, Sem.run_bind, hf]
        simp [ih l' _ s w hr hb]
      · cases hb

theorem s_bts (R : Rel C μ h B w0 w) (r : TsRel μ ts a) {s t e : TypeId} {x : Operand} {y : Opd} (ho : o.op = .convert s t x) (hs : P.underlying s = some (.slice e)) (ht : P.underlying t = some .string) (he : P.underlying e = some (.int .u8)) (hx : compOpd x = some y)
    (hv : rop ts h (.bts y) = some v) : Did P μ a w o v := by
  simp only [rop, ropQ] at hv
  have h1 := compOpd_rel r hx
  unfold btsV at hv
  split at hv
  · rename_i n c hb
    rw [hb] at h1
    have hX := h1.of_plain rfl
    simp only [Option.some.injEq] at hv; subst hv
    exact ⟨_, by simp [execOp, ho, hX, convert, run_underlying hs, run_underlying ht, run_underlying he, Conv.bytesToString], .same _ rfl⟩
  · rename_i b o' n c hb
    rw [hb] at h1
    split at hv
    · rename_i l hl
      split at hv
      · rename_i u hu
        simp only [Option.some.injEq] at hv; subst hv
        obtain ⟨en, hen, hX⟩ := h1.slice_inv
        obtain ⟨l', g1, g2, g3⟩ := R.rds hl hen
        have hload := run_loadCells_list (P := P) w ⟨en.blk, en.base + o', none⟩ l' g2
        rw [g1] at hload
        refine ⟨.string u, ?_, .same _ rfl⟩
        simp [execOp, ho, hX, convert, run_underlying hs, run_underlying ht, run_underlying he, Conv.bytesToString, hload]
        rw [bytes_run _ (fun _ _ => rfl) l l' .empty u w g3 hu]; rfl
      · cases hv
    · cases hv
  · rename_i b o' q hb
    rw [hb] at h1
    simp only [Option.some.injEq] at hv; subst hv
    obtain ⟨p, c, hX⟩ : ∃ p c, a.eval x = .slice (some p) 0 c := by
      generalize hz : a.eval x = z at h1
      cases h1 with
      | same _ hp => cases hp
      | vague b o k p c => exact ⟨p, c, rfl⟩
    exact ⟨_, by simp [execOp, ho, hX, convert, run_underlying hs, run_underlying ht, run_underlying he, Conv.bytesToString, loadCells, loadCellsFrom], .same _ rfl⟩
  · cases hv

theorem s_cap (R : Rel C μ h B w0 w) (r : TsRel μ ts a) {c : Call} {x : Operand} {t e : TypeId} {y : Opd} (ho : o.op = .call c) (hc : c.callee = .builtin .cap) (ha : c.args.toList = [x]) (hts : c.argTypes.toList = [t]) (ht : P.underlying t = some (.slice e))
    (hx : compOpd x = some y) (hv : rop ts h (.cap y) = some v) : Did P μ a w o v := by
  have ha' : c.args = #[x] := Array.ext' (by simpa using ha)
  have hts' : c.argTypes = #[t] := Array.ext' (by simpa using hts)
  have run : ∀ p n q, a.eval x = .slice p n q → (execOp a.eval o).run P w = .ok (.value (.int .i64 q)) w := by
    intro p n q hX
    simp [execOp, ho, resolve, hc, ha', hts', invoke, builtin, Builtin.cap_, run_underlying ht, hX, goInt]
  simp only [rop, ropQ] at hv
  have h1 := compOpd_rel r hx
  split at hv
  · rename_i n q hb
    rw [hb] at h1
    simp only [Option.some.injEq] at hv; subst hv
    exact ⟨_, run _ _ _ (h1.of_plain rfl), .same _ rfl⟩
  · rename_i b o' n q hb
    rw [hb] at h1
    split at hv
    · rename_i k hk
      cases hg : (k.grown && Nat.beq (o' + q * k.s) k.n) with
      | true => rw [hg] at hv; cases hv
      | false =>
        rw [hg] at hv; simp only [cond_false, Option.some.injEq] at hv; subst hv
        obtain ⟨en, he, hX⟩ := h1.slice_inv
        obtain ⟨en', he', x2⟩ := R.blk b k hk
        rw [he] at he'; cases he'
        have : (if o' + q * en.s = en.n then q + en.extra else q) = q := by
          split
          · rename_i hend
            simp only [Bool.and_eq_false_iff] at hg
            rcases hg with hg | hg
            · have := x2.grown hg; omega
            · exact absurd (by rw [← x2.s, ← x2.n]; exact hend) (Nat.ne_of_beq_eq_false hg)
          · rfl
        rw [this] at hX
        exact ⟨_, run _ _ _ hX, .same _ rfl⟩
    · cases hv
  · cases hv

end
end
end Go.Proofs.YthjhlifbdieibaaGreatDoor.Ai
/- The operations that turn the heap. -/
namespace Go.Proofs.YthjhlifbdieibaaGreatDoor.Ai
noncomputable section
open Go.RowKit

section
variable {P : Program} {C : CRel} {μ : Map} {h h' : Heap} {B : Fr} {w0 : World} {ts : T Value} {a : Act} {w : World} {o : Oper} {v : Value}

def DidE (C : CRel) (P : Program) (μ : Map) (h' : Heap) (B : Fr) (w0 : World) (a : Act) (w : World) (o : Oper) (v : Value) : Prop :=
  ∃ μ' v' w', ((execOp a.eval o).run P w = .ok (.value v') w' ∨ ((execOp a.eval o).run P w = .ok .skip w' ∧ v' = undef)) ∧ μ.le μ' ∧ Rel C μ' h' B w0 w' ∧ VRel μ' v v'

theorem s_store (R : Rel C μ h B w0 w) (r : TsRel μ ts a) {t : TypeId} {x y : Operand} {x' y' : Opd} {i : TypeInfo} (ho : o.op = .store t x y) (hi : P.info? t = some i) (hx : compOpd x = some x') (hy : compOpd y = some y')
    (hv : eop ts h (.store i.size x' y') = some (v, h')) : DidE C P μ h' B w0 a w o v := by
  simp only [eop, eopQ] at hv
  split at hv
  · rename_i b o' hb
    cases hc : (Nat.beq (ev ts y').cells.toList.length i.size && Nat.ble 1 i.size) with
    | false => rw [hc] at hv; cases hv
    | true =>
      rw [hc] at hv; simp only [cond_true] at hv
      simp only [Bool.and_eq_true] at hc
      split at hv
      · rename_i h1 hw
        simp only [Option.some.injEq, Prod.mk.injEq] at hv
        obtain ⟨rfl, rfl⟩ := hv
        have c1 := Nat.eq_of_beq_eq_true hc.1
        have c2 := ble_true hc.2
        have g1 := compOpd_rel r hx
        rw [hb] at g1
        obtain ⟨e, he, hX⟩ := g1.ptr_inv
        have g2 := cells_rel (compOpd_rel r hy)
        obtain ⟨w', _, hst, R'⟩ := R.wrs hw g2 (by intro hn; rw [hn] at c1; simp at c1; omega) he
        refine ⟨μ, undef, w', .inr ⟨?_, rfl⟩, μ.le_refl, R', undef_rel μ⟩
        have hsz : (a.eval y).cells.size = i.size := by rw [← c1, g2.1]; simp
        simp [execOp, ho, hX, Instr.storeAt, Instr.sureAddr, storeVar, sizeOf, typeInfo, hi, hsz, hst P]
      · cases hv
  · cases hv

theorem ent_ptr (μ : Map) (n b s k e : Nat) : VRel (μ.put n ⟨b, 0, e, s, k⟩) (.pointer (some ⟨n, 0, none⟩)) (.pointer (some ⟨b, 0, none⟩)) := by
  have := VRel.ptr (μ := μ.put n ⟨b, 0, e, s, k⟩) n 0 ⟨b, 0, e, s, k⟩ (Map.put_same _ _ _)
  simpa using this

theorem ent_slice (μ : Map) (n b s e len cap : Nat) : VRel (μ.put n ⟨b, 0, e, s, cap * s⟩) (.slice (some ⟨n, 0, none⟩) len cap) (.slice (some ⟨b, 0, none⟩) len (cap + e)) := by
  have := VRel.slice (μ := μ.put n ⟨b, 0, e, s, cap * s⟩) n 0 len cap ⟨b, 0, e, s, cap * s⟩ (Map.put_same _ _ _)
  simpa using this

/-- a new row -/
def DidN (P : Program) (μ : Map) (h h' : Heap) (a : Act) (w : World) (o : Oper) (v : Value) : Prop :=
  ∃ (k : Blk) (cc : Array Value) (el : TypeId) (V : Value), h' = h.new k ∧ k.own = true ∧ k.grown = false ∧ k.cells.length ≤ k.n ∧ cc.size = k.n ∧ (∀ (i : Nat) (v : Value), k.cells[i]? = some v → ∃ v', cc[i]? = some v' ∧ VRel μ v v') ∧
    (execOp a.eval o).run P w = .ok (.value V) (w.alloc (.cells cc el)) ∧ (k.ty ≠ 0 → el + 1 = k.ty) ∧ (∀ ν : Map, VRel (ν.put h.next ⟨w.heap.size, 0, 0, k.s, k.n⟩) v V) ∧ ((∃ x, V = .pointer (some x)) ∨ (∃ x n c, V = .slice (some x) n c))

theorem DidN.did (R : Rel C μ h B w0 w) (x : DidN P μ h h' a w o v) : DidE C P μ h' B w0 a w o v := by
  obtain ⟨k, cc, el, V, rfl, x1, x2, x3, x4, x5, x6, x8, x7, _⟩ := x
  obtain ⟨R', hle⟩ := R.new k x1 cc el 0 (fun _ => rfl) x3 (by simpa using x4) x5 x8
  exact ⟨_, V, _, .inl x6, hle, R', x7 μ⟩

theorem s_box (R : Rel C μ h B w0 w) (r : TsRel μ ts a) {t : TypeId} {x : Operand} {x' : Opd} {n : Nat} (ho : o.op = .box t x) (hx : compOpd x = some x') (hv : eop ts h (.box n x') = some (v, h')) : DidE C P μ h' B w0 a w o v := by
  simp only [eop, eopQ] at hv
  cases hc : Nat.beq (ev ts x').cells.toList.length n with
  | false => rw [hc] at hv; cases hv
  | true =>
    rw [hc] at hv; simp only [cond_true, Option.some.injEq, Prod.mk.injEq] at hv
    obtain ⟨rfl, rfl⟩ := hv
    have c1 := Nat.eq_of_beq_eq_true hc
    have g2 := cells_rel (compOpd_rel r hx)
    obtain ⟨R', hle⟩ := R.new { cells := (ev ts x').cells.toList, n := n, s := n, own := true, grown := false } rfl (a.eval x).cells t 0 (fun _ => rfl) (by simp only; omega) (by simp only; rw [← c1, g2.1]; simp)
      (fun i v hi => by obtain ⟨v', q1, q2⟩ := g2.get hi; exact ⟨v', by simpa using q1, q2⟩)
    refine ⟨_, .pointer (some ⟨w.heap.size, 0, none⟩), w.alloc (.cells (a.eval x).cells t), .inl ?_, hle, R', ent_ptr _ _ _ _ _ _⟩
    simp [execOp, ho, Instr.box, newVar, newRow]

theorem n_alloc {t : TypeId} {z : List Value} (ho : o.op = .alloc t) (hz : zeroCells P t = some z) (hv : eop ts h (.alloc z (t + 1)) = some (v, h')) : DidN P μ h h' a w o v := by
  obtain ⟨i, zv, hi, hzv, hzz, hpl, hlen⟩ := zeroCells_inv hz
  simp only [eop, eopQ, Option.some.injEq, Prod.mk.injEq] at hv
  obtain ⟨rfl, rfl⟩ := hv
  have hzr : VsRel μ z zv.cells.toList := by rw [← hzz]; exact VsRel.of_plain hpl
  refine ⟨{ cells := z, n := z.length, s := z.length, own := true, grown := false, ty := t + 1 }, zv.cells, t, .pointer (some ⟨w.heap.size, 0, none⟩), rfl, rfl, rfl, Nat.le_refl _, by simp only; rw [hzr.1]; simp,
    fun i v hi => by obtain ⟨v', q1, q2⟩ := hzr.get hi; exact ⟨v', by simpa using q1, q2⟩, ?_, fun _ => rfl, fun ν => ent_ptr _ _ _ _ _ _, .inl ⟨_, rfl⟩⟩
  simp [execOp, ho, Instr.alloc, newVar, newRow, zeroValue, typeInfo, hi, hzv]

theorem s_alloc (R : Rel C μ h B w0 w) {t : TypeId} {z : List Value} (ho : o.op = .alloc t) (hz : zeroCells P t = some z) (hv : eop ts h (.alloc z (t + 1)) = some (v, h')) : DidE C P μ h' B w0 a w o v := (n_alloc ho hz hv).did R

theorem rep_length (z : List Value) : ∀ n, (rep z n).length = n * z.length
  | 0 => by simp [rep]
  | n + 1 => by simp [rep, rep_length z n, Nat.add_mul]; omega

theorem rep_get (z : List Value) : ∀ (n i : Nat), i < n * z.length → (rep z n)[i]? = z[i % z.length]?
  | 0, i, h => by omega
  | n + 1, i, h => by
    rw [Nat.add_mul, Nat.one_mul] at h
    simp only [rep, List.getElem?_append]
    split
    · rename_i hi; rw [Nat.mod_eq_of_lt hi]
    · rename_i hi
      rw [rep_get z n _ (by omega)]
      congr 1
      rw [← Nat.mod_eq_sub_mod (by omega)]

theorem rep_plain {z : List Value} (h : z.all plain = true) : ∀ n, (rep z n).all plain = true
  | 0 => rfl
  | n + 1 => by simp only [rep, List.all_append, h, rep_plain h n, Bool.and_self]

/-- a row of zeros, as the model makes it -/
theorem zeros_rel (μ : Map) {zv : Array Value} (hpl : zv.toList.all plain = true) (hs : 0 < zv.size) (n : Nat) :
    VsRel μ (rep zv.toList n) ((Array.range (n * zv.size)).map (zv[· % zv.size]!)).toList := by
  refine ⟨by simp [rep_length], fun i v v' a b => ?_⟩
  have hi : i < n * zv.size := by have := (List.getElem?_eq_some_iff.1 a).1; simpa [rep_length] using this
  rw [rep_get _ _ _ (by simpa using hi)] at a
  simp only [Array.toList_map, Array.toList_range, List.getElem?_map, List.getElem?_range hi, Option.map_some, Option.some.injEq] at b
  have hm : i % zv.size < zv.size := Nat.mod_lt _ hs
  have e : zv.toList[i % zv.toList.length]? = some zv[i % zv.size]! := by
    rw [Array.length_toList, Array.getElem?_toList, Array.getElem?_eq_getElem hm, getElem!_pos zv (i % zv.size) hm]
  rw [e] at a
  simp only [Option.some.injEq] at a
  rw [← a, ← b]
  refine .same _ (List.all_eq_true.1 hpl _ ?_)
  rw [getElem!_pos zv (i % zv.size) hm]
  simp

theorem range0 {α : Type} (f : Nat → α) : (Array.range 0).map f = #[] := by apply Array.ext'; simp

theorem n_buildS (r : TsRel μ ts a) {t e : TypeId} {len s q : Nat} {parts : Array (Nat × Operand)} {ps : List (Nat × Nat × Opd)} {z : List Value} (ho : o.op = .buildSlice t len parts) (he : elemOf' P t = some (e, s, q)) (hz : zeroCells P e = some z)
    (h1 : len * s ≤ 1000000) (h2 : 1 ≤ s) (hp : compParts (fun i => some (i * s, s)) parts.toList = some ps) (hv : eop ts h (.buildS s len (rep z len) ps) = some (v, h')) : DidN P μ h h' a w o v := by
  obtain ⟨i, zv, hi, hzv, hzz, hpl, hlen⟩ := zeroCells_inv hz
  unfold elemOf' at he
  split at he
  · rename_i e' hu
    split at he
    · rename_i i' hi'
      simp only [Option.some.injEq, Prod.mk.injEq] at he
      obtain ⟨rfl, rfl, rfl⟩ := he
      rw [hi] at hi'; cases hi'
      simp only [eop, eopQ] at hv
      split at hv
      · rename_i cs hcs
        simp only [Option.some.injEq, Prod.mk.injEq] at hv
        obtain ⟨rfl, rfl⟩ := hv
        have hzs : zv.cells.size = i.size := by rw [← hlen, hzz]; simp
        have hzr := zeros_rel μ (zv := zv.cells) (by rw [← hzz]; exact hpl) (by omega) len
        rw [← hzz, hzs] at hzr
        obtain ⟨out', g1, g2⟩ := fillA_run r (fun j => some (j * i.size, i.size)) parts.toList ps (rep z len) cs ((Array.range (len * i.size)).map (zv.cells[· % i.size]!)) hp hzr hcs
        have hfl : ∀ (l : List Value) (qs : List (Nat × Nat × Value)) (out : List Value), fillA l qs = some out → out.length = l.length := by
          intro l qs
          induction qs generalizing l with
          | nil => intro out hq; simp only [fillA, Option.some.injEq] at hq; rw [hq]
          | cons p qs ih =>
            intro out hq
            obtain ⟨x1, x2, x3⟩ := p
            simp only [fillA] at hq
            cases hc : (Nat.beq x3.cells.toList.length x2 && Nat.ble (x1 + x2) l.length) with
            | false => rw [hc] at hq; cases hq
            | true =>
              rw [hc] at hq; simp only [cond_true] at hq
              simp only [Bool.and_eq_true] at hc
              have c1 := Nat.eq_of_beq_eq_true hc.1
              have c2 := ble_true hc.2
              rw [ih _ _ hq, splice_length _ _ _ (by omega)]
        have hcl : cs.length = len * i.size := by rw [hfl _ _ _ hcs, rep_length, hlen]
        have hvr : ∀ ν : Map, VRel (ν.put h.next ⟨w.heap.size, 0, 0, i.size, len * i.size⟩) (.slice (some ⟨h.next, 0, none⟩) len len) (.slice (some ⟨w.heap.size, 0, none⟩) len len) := fun ν => by simpa using ent_slice ν h.next w.heap.size i.size 0 len len
        refine ⟨{ cells := cs, n := len * i.size, s := i.size, own := true, grown := false }, out', e', .slice (some ⟨w.heap.size, 0, none⟩) len len, rfl, rfl, rfl, (by simp only; omega), (by simp only; rw [← hcl, g2.1]; simp),
          (fun j v hj => by obtain ⟨v', q1, q2⟩ := g2.get hj; exact ⟨v', by simpa using q1, q2⟩), ?_, fun hq => absurd rfl hq, hvr, .inr ⟨_, _, _, rfl⟩⟩
        have n1 : ¬ (len * i.size > 2 ^ 24) := by omega
        have n1' : ¬ (16777216 < len * i.size) := by omega
        have g1' : Instr.fill (fun j => some (j * i.size, i.size)) ((Array.range (len * i.size)).map (zv.cells[· % zv.cells.size]!)) (parts.map fun x => (x.fst, a.eval x.snd)).toList = some out' := by
          rw [hzs]; simpa using g1
        cases hn : decide (len * i.size = 0) with
        | false =>
          have hn := of_decide_eq_false hn
          simp only [execOp, ho, Instr.buildSlice, Sem.run_bind, run_underlying hu, Result.andThen_ok, sizeOf, typeInfo, run_program, hi, Sem.run_pure, n1, if_false, hn, zeroValue, hzv]
          simp only [Sem.run_pure, g1', Sem.run_bind]
          simp [newRow]
        | true =>
          have hn := of_decide_eq_true hn
          have hl0 : len = 0 := by rcases Nat.mul_eq_zero.1 hn with q | q <;> omega
          subst hl0
          rw [Nat.zero_mul, range0] at g1'
          simp only [execOp, ho, Instr.buildSlice, Sem.run_bind, run_underlying hu, Result.andThen_ok, sizeOf, typeInfo, run_program, hi, Sem.run_pure, Nat.zero_mul, if_true]
          simp only [gt_iff_lt, Nat.not_lt_zero, if_false, Sem.run_pure, Result.andThen_ok, range0, Sem.run_bind, g1']
          simp [newRow]
      · cases hv
    · cases he
  · cases he

theorem s_buildS (R : Rel C μ h B w0 w) (r : TsRel μ ts a) {t e : TypeId} {len s q : Nat} {parts : Array (Nat × Operand)} {ps : List (Nat × Nat × Opd)} {z : List Value} (ho : o.op = .buildSlice t len parts) (he : elemOf' P t = some (e, s, q)) (hz : zeroCells P e = some z)
    (h1 : len * s ≤ 1000000) (h2 : 1 ≤ s) (hp : compParts (fun i => some (i * s, s)) parts.toList = some ps) (hv : eop ts h (.buildS s len (rep z len) ps) = some (v, h')) : DidE C P μ h' B w0 a w o v := (n_buildS r ho he hz h1 h2 hp hv).did R

theorem n_mkS (r : TsRel μ ts a) {t e : TypeId} {s q : Nat} {l c : Operand} {l' c' : Opd} {z : List Value} (ho : o.op = .makeSlice t l c) (he : elemOf' P t = some (e, s, q)) (hz : zeroCells P e = some z)
    (h2 : 1 ≤ s) (hl : compOpd l = some l') (hc : compOpd c = some c') (hv : eop ts h (.mkS s q z l' c') = some (v, h')) : DidN P μ h h' a w o v := by
  obtain ⟨i, zv, hi, hzv, hzz, hpl, hlen⟩ := zeroCells_inv hz
  unfold elemOf' at he
  split at he
  · rename_i e' hu
    split at he
    · rename_i i' hi'
      simp only [Option.some.injEq, Prod.mk.injEq] at he
      obtain ⟨rfl, rfl, rfl⟩ := he
      rw [hi] at hi'; cases hi'
      simp only [eop, eopQ] at hv
      split at hv
      · rename_i ln cn hln hcn
        cases hb : (Nat.ble ln cn && Nat.ble (i.bytes * cn) 1099511627776 && Nat.ble cn 1099511627776) with
        | false => rw [hb] at hv; cases hv
        | true =>
          rw [hb] at hv; simp only [cond_true, Option.some.injEq, Prod.mk.injEq] at hv
          obtain ⟨rfl, rfl⟩ := hv
          simp only [Bool.and_eq_true] at hb
          have b1 := ble_true hb.1.1
          have b2 := ble_true hb.1.2
          have b3 := ble_true hb.2
          obtain ⟨k1, e1⟩ := asNat_inv hln
          obtain ⟨k2, e2⟩ := asNat_inv hcn
          have g1 := compOpd_rel r hl
          have g2 := compOpd_rel r hc
          rw [e1] at g1; rw [e2] at g2
          have hzs : zv.cells.size = i.size := by rw [← hlen, hzz]; simp
          have hzr := zeros_rel μ (zv := zv.cells) (by rw [← hzz]; exact hpl) (by omega) cn
          rw [← hzz, hzs] at hzr
          have hvr : ∀ ν : Map, VRel (ν.put h.next ⟨w.heap.size, 0, 0, i.size, cn * i.size⟩) (.slice (some ⟨h.next, 0, none⟩) ln cn) (.slice (some ⟨w.heap.size, 0, none⟩) ln cn) := fun ν => by simpa using ent_slice ν h.next w.heap.size i.size 0 ln cn
          refine ⟨{ cells := rep z cn, n := cn * i.size, s := i.size, own := true, grown := false }, (Array.range (cn * i.size)).map (zv.cells[· % i.size]!), e', .slice (some ⟨w.heap.size, 0, none⟩) ln cn, rfl, rfl, rfl, (by simp only [rep_length]; rw [hlen]; exact Nat.le_refl _), (by simp),
            (fun j v hj => by obtain ⟨v', q1, q2⟩ := hzr.get hj; exact ⟨v', by rw [← Array.getElem?_toList]; exact q1, q2⟩), ?_, fun hq => absurd rfl hq, hvr, .inr ⟨_, _, _, rfl⟩⟩
          have w1 : IntKind.i64.wrap (ln : Int) = ln := IntWalk.i64_in _ (by omega)
          have w2 : IntKind.i64.wrap (cn : Int) = cn := IntWalk.i64_in _ (by omega)
          have tl : ¬ ((cn : Int) < 0) := by omega
          have tl' : ¬ ((ln : Int) < 0) := by omega
          have tb : ¬ ((2 : Int) ^ 48 < (i.bytes : Int) * (cn : Int)) := by
            have e48 : (2 : Int) ^ 48 = 281474976710656 := by decide
            rw [e48, ← Int.natCast_mul]; omega
          have tb' : ¬ (281474976710656 < (i.bytes : Int) * (cn : Int)) := by
            have e48 : (2 : Int) ^ 48 = 281474976710656 := by decide
            rwa [e48] at tb
          have tc : ¬ ((cn : Int) < (ln : Int)) := by omega
          cases hn : decide (cn * i.size = 0) with
          | false =>
            have hn := of_decide_eq_false hn
            simp [execOp, ho, Instr.makeSlice, run_underlying hu, asInt, asIntOf, g1.int, g2.int, typeInfo, hi, w1, w2, tl, tl', tb', tc, sizeOf, zeroValue, hzv, newRow, hzs]
            exact fun hq => absurd hq hn
          | true =>
            have hn := of_decide_eq_true hn
            have hl0 : cn = 0 := by rcases Nat.mul_eq_zero.1 hn with q | q <;> omega
            subst hl0
            have : ln = 0 := by omega
            subst this
            simp [execOp, ho, Instr.makeSlice, run_underlying hu, asInt, asIntOf, g1.int, g2.int, typeInfo, hi, sizeOf, newRow, IntKind.wrap, IntKind.bits, IntKind.signed, range0]
      · cases hv
    · cases he
  · cases he


theorem s_mkS (R : Rel C μ h B w0 w) (r : TsRel μ ts a) {t e : TypeId} {s q : Nat} {l c : Operand} {l' c' : Opd} {z : List Value} (ho : o.op = .makeSlice t l c) (he : elemOf' P t = some (e, s, q)) (hz : zeroCells P e = some z)
    (h2 : 1 ≤ s) (hl : compOpd l = some l') (hc : compOpd c = some c') (hv : eop ts h (.mkS s q z l' c') = some (v, h')) : DidE C P μ h' B w0 a w o v := (n_mkS r ho he hz h2 hl hc hv).did R

/-- what is appended: so many elements, these cells -/
structure Src (P : Program) (w : World) (i : TypeInfo) (u : TypeId) (y : Value) (z : Value) (n : Nat) (news : List Value) : Prop where
  len : news.length = n * i.size
  from_ : ((∃ q, P.underlying u = some (.slice q)) ∧ (∃ yb yc, y = .slice yb n yc) ∧ ∀ w' : World, (∀ a, w'.cell? a = w.cell? a) → (Builtin.firstCells i.size n y).run P w' = .ok news.toArray w') ∨
    (P.underlying u = some .string ∧ (∃ b : ByteArray, y = .string b ∧ b.size = n ∧ news = b.data.toList.map fun x => Value.int .u8 x.toNat) ∧ True) ∨
    ((∃ q, P.underlying u = some (.int q)) ∧ (∃ k, y = .int k (n : Nat)) ∧ n ≤ 1099511627776 ∧ n * i.bytes ≤ 1099511627776 ∧ news.toArray = Builtin.zeroCells z.cells n)

theorem firstCells_str {w : World} (s : Nat) (b : ByteArray) : (Builtin.firstCells s b.size (.string b)).run P w = .ok (b.data.toList.map fun x => Value.int .u8 x.toNat).toArray w := by
  have e : (b.extract 0 b.size) = b := by simp
  have e2 : Array.map (fun x : UInt8 => Value.int .u8 x.toNat) b.data = (b.data.toList.map fun x => Value.int .u8 x.toNat).toArray := by apply Array.ext'; simp
  rw [← e2]
  simp only [Builtin.firstCells, e]
  simp

theorem app_room {t e u ty : TypeId} {i : TypeInfo} {z y : Value} {n : Nat} {news : List Value} (ht : P.underlying t = some (.slice e)) (hi : P.info? e = some i) (hz : i.zero = some z) (hs : Src P w i u y z n news) (base : Option Addr) (sLen sCap : Nat) (hroom : sLen + n ≤ sCap) :
    (Builtin.append_ #[t, u] ty #[.slice base sLen sCap, y]).run P w = (match base with
      | some a => ((storeCells (a.add (sLen * i.size)) news).run P w).andThen fun _ w' => .ok (.slice base (sLen + n) sCap) w'
      | none => .ok (.slice base (sLen + n) sCap) w) := by
  rcases hs.from_ with ⟨⟨q, hu⟩, ⟨yb, yc, rfl⟩, hf⟩ | ⟨hu, ⟨b, rfl, hb, rfl⟩, _⟩ | ⟨⟨q, hu⟩, ⟨k, rfl⟩, h1, h2, h3⟩
  · have hf0 := hf w (fun _ => rfl)
    cases base <;> simp [Builtin.append_, run_underlying ht, run_underlying hu, sizeOf, typeInfo, hi, Builtin.lenOf, hroom, hf0]
  · have hf0 := firstCells_str (P := P) (w := w) i.size b
    rw [hb] at hf0
    cases base <;> simp [Builtin.append_, run_underlying ht, run_underlying hu, sizeOf, typeInfo, hi, Builtin.lenOf, hb, hroom, hf0]
  · have w1 : IntKind.i64.wrap (n : Int) = n := IntWalk.i64_in _ (by omega)
    have e48 : (2 : Int) ^ 48 = 281474976710656 := by decide
    have n1 : ¬ ((n : Int) < 0) := by omega
    have n2 : ¬ ((2 : Int) ^ 48 < (n : Int) * (i.bytes : Int)) := by rw [e48, ← Int.natCast_mul]; omega
    have n2' : ¬ (281474976710656 < (n : Int) * (i.bytes : Int)) := by rwa [e48] at n2
    have hl := hs.len
    cases hn : decide (n * i.size = 0) with
    | true =>
      have hn := of_decide_eq_true hn
      have : news = [] := List.eq_nil_of_length_eq_zero (by omega)
      subst this
      have hn' : n = 0 ∨ i.size = 0 := Nat.mul_eq_zero.1 hn
      cases base <;> simp [Builtin.append_, run_underlying ht, run_underlying hu, sizeOf, typeInfo, hi, hroom, asInt, asIntOf, w1, n1, n2'] <;> exact fun q => absurd hn q
    | false =>
      have hn := of_decide_eq_false hn
      have hn' : ¬ (n = 0 ∨ i.size = 0) := fun q => hn (Nat.mul_eq_zero.2 q)
      cases base
      · simp [Builtin.append_, run_underlying ht, run_underlying hu, sizeOf, typeInfo, hi, hroom, asInt, asIntOf, w1, n1, n2', zeroValue, hz, ← h3]
      · simp [Builtin.append_, run_underlying ht, run_underlying hu, sizeOf, typeInfo, hi, hroom, asInt, asIntOf, w1, n1, n2', zeroValue, hz, ← h3]
        exact fun q => absurd q hn

theorem app_grow {t e u ty : TypeId} {i : TypeInfo} {z y : Value} {n : Nat} {news : List Value} (ht : P.underlying t = some (.slice e)) (hi : P.info? e = some i) (hz : i.zero = some z) (hs : Src P w i u y z n news) (base : Option Addr) (sLen sCap : Nat) (hroom : ¬ (sLen + n ≤ sCap))
    (h63 : sLen + n ≤ 1099511627776) (hfit : (sLen + n) * i.bytes ≤ 1099511627776) (olds : List Value) (hold : ∀ w' : World, (∀ a, w'.cell? a = w.cell? a) → (Builtin.firstCells i.size sLen (.slice base sLen sCap)).run P w' = .ok olds.toArray w') :
    (Builtin.append_ #[t, u] ty #[.slice base sLen sCap, y]).run P w = .ok (.slice (some ⟨w.heap.size, 0, none⟩) (sLen + n) (grownCap w (sLen + n) sCap e))
      (w.drew.alloc (.cells ((olds ++ news).toArray ++ Builtin.zeroCells z.cells (grownCap w (sLen + n) sCap e - (sLen + n))) e)) := by
  have hold' := hold w.drew (fun _ => rfl)
  have hcap : Builtin.nextslicecap (sLen + n) sCap * i.bytes ≤ 281474976710656 := growslice_fits (by omega) (by omega)
  have c1 : ¬ (281474976710656 < Builtin.nextslicecap (sLen + n) sCap * i.bytes) := by omega
  have c2 : ¬ (9223372036854775807 < ((sLen : Int) + (n : Int))) := by omega
  rcases hs.from_ with ⟨⟨q, hu⟩, ⟨yb, yc, rfl⟩, hf⟩ | ⟨hu, ⟨b, rfl, hb, rfl⟩, _⟩ | ⟨⟨q, hu⟩, ⟨k, rfl⟩, h1, h2, h3⟩
  · have hf0 := hf w.drew (fun _ => rfl)
    simp [Builtin.append_, run_underlying ht, run_underlying hu, sizeOf, typeInfo, hi, Builtin.lenOf, hroom, c1, c2, Question.forced, hold', hf0, zeroValue, hz, newRow, grownCap]
    refine congrArg (fun c => w.drew.alloc (Obj.cells c e)) ?_
    apply Array.ext'
    simp
  · have hf0 := firstCells_str (P := P) (w := w.drew) i.size b
    rw [hb] at hf0
    simp [Builtin.append_, run_underlying ht, run_underlying hu, sizeOf, typeInfo, hi, Builtin.lenOf, hb, hroom, c1, c2, Question.forced, hold', hf0, zeroValue, hz, newRow, grownCap]
    refine congrArg (fun c => w.drew.alloc (Obj.cells c e)) ?_
    apply Array.ext'
    simp
  · have w1 : IntKind.i64.wrap (n : Int) = n := IntWalk.i64_in _ (by omega)
    have e48 : (2 : Int) ^ 48 = 281474976710656 := by decide
    have n1 : ¬ ((n : Int) < 0) := by omega
    have n2 : ¬ ((2 : Int) ^ 48 < (n : Int) * (i.bytes : Int)) := by rw [e48, ← Int.natCast_mul]; omega
    have n2' : ¬ (281474976710656 < (n : Int) * (i.bytes : Int)) := by rwa [e48] at n2
    have hl := hs.len
    cases hn : decide (n * i.size = 0) with
    | true =>
      have hn := of_decide_eq_true hn
      have : news = [] := List.eq_nil_of_length_eq_zero (by omega)
      subst this
      have hn' : n = 0 ∨ i.size = 0 := Nat.mul_eq_zero.1 hn
      simp [Builtin.append_, run_underlying ht, run_underlying hu, sizeOf, typeInfo, hi, hroom, asInt, asIntOf, w1, n1, n2', c1, c2, Question.forced, hold', zeroValue, hz, newRow, grownCap]
      exact fun q => absurd hn q
    | false =>
      have hn := of_decide_eq_false hn
      have hn' : ¬ (n = 0 ∨ i.size = 0) := fun q => hn (Nat.mul_eq_zero.2 q)
      simp [Builtin.append_, run_underlying ht, run_underlying hu, sizeOf, typeInfo, hi, hroom, asInt, asIntOf, w1, n1, n2', c1, c2, Question.forced, hold', zeroValue, hz, newRow, grownCap, ← h3]
      rw [if_neg hn]
      refine congrArg (fun c => Result.ok (Value.slice (some ⟨w.heap.size, 0, none⟩) (sLen + n) (grownCap w (sLen + n) sCap e)) (w.drew.alloc (Obj.cells c e))) ?_
      apply Array.ext'
      simp

end
end
end Go.Proofs.YthjhlifbdieibaaGreatDoor.Ai
/- Append. -/
namespace Go.Proofs.YthjhlifbdieibaaGreatDoor.Ai
noncomputable section
open Go.RowKit

section
variable {P : Program} {Cm : CRel} {μ : Map} {h h' : Heap} {B : Fr} {w0 : World} {ts : T Value} {a : Act} {w : World} {o : Oper} {v : Value}

theorem fresh (R : Rel Cm μ h B w0 w) {olds news olds' news' : List Value} (ho : VsRel μ olds olds') (hn : VsRel μ news news') {len n s : Nat} (l1 : olds.length = len * s) (l2 : news.length = n * s) (z : Array Value) (hz : z.size = s) (N : Nat) (_hN : len + n ≤ N) (e : TypeId) (tw : Nat) (htw : tw ≠ 0 → e + 1 = tw) :
    Rel Cm (μ.put h.next ⟨w.heap.size, 0, N - (len + n), s, (len + n) * s⟩) (h.new { cells := olds ++ news, n := (len + n) * s, s := s, own := true, grown := true, ty := tw }) B w0
      (w.drew.alloc (.cells ((olds' ++ news').toArray ++ Builtin.zeroCells z (N - (len + n))) e)) ∧ μ.le (μ.put h.next ⟨w.heap.size, 0, N - (len + n), s, (len + n) * s⟩) := by
  have hr := ho.append hn
  have hl : (olds ++ news).length = (len + n) * s := by rw [List.length_append, l1, l2, Nat.add_mul]
  refine R.drew.new { cells := olds ++ news, n := (len + n) * s, s := s, own := true, grown := true, ty := tw } rfl ((olds' ++ news').toArray ++ Builtin.zeroCells z (N - (len + n))) e (N - (len + n)) (fun hf => by cases hf) (by simp only; omega) ?_ ?_ htw
  · simp only [Array.size_append, List.size_toArray, size_zeroCells, hz, ← hr.1, hl]
  · intro i v hi
    obtain ⟨v', q1, q2⟩ := hr.get hi
    refine ⟨v', ?_, q2⟩
    have hlt : i < (olds' ++ news').length := (List.getElem?_eq_some_iff.1 q1).1
    rw [Array.getElem?_append_left (by simpa using hlt)]
    simpa using q1

def AppDid (Cm : CRel) (P : Program) (μ : Map) (h' : Heap) (B : Fr) (w0 : World) (w : World) (ats : Array TypeId) (ty : TypeId) (X Y : Value) (v : Value) : Prop :=
  ∃ μ' v' w', (Builtin.append_ ats ty #[X, Y]).run P w = .ok v' w' ∧ μ.le μ' ∧ Rel Cm μ' h' B w0 w' ∧ VRel μ' v v'

theorem appA_sound (R : Rel Cm μ h B w0 w) {t e u ty : TypeId} {i : TypeInfo} {z X Y : Value} {n len cap : Nat} {base : Option Addr} {news news' : List Value} {tw : Nat} (htw : tw ≠ 0 → e + 1 = tw) (ht : P.underlying t = some (.slice e)) (hi : P.info? e = some i) (hz : i.zero = some z) (hzs : z.cells.size = i.size)
    (hX : VRel μ (.slice base len cap) X) (hs : Src P w i u Y z n news') (hn : VsRel μ news news') (hv : appA h i.size i.bytes tw base len cap news n = some (v, h')) : AppDid Cm P μ h' B w0 w #[t, u] ty X Y v := by
  have hl2 : news.length = n * i.size := by rw [hn.1, hs.len]
  unfold appA at hv
  cases hc : (Nat.ble ((len + n) * i.bytes) 1099511627776 && Nat.ble (len + n) 1099511627776 && Nat.ble 1 i.size && news.all scalar) with
  | false => rw [hc] at hv; cases hv
  | true =>
    rw [hc] at hv; simp only [cond_true] at hv
    simp only [Bool.and_eq_true] at hc
    have b1 := ble_true hc.1.1.1
    have b2 := ble_true hc.1.1.2
    have b3 := ble_true hc.1.2
    have b4 := hc.2
    have nz : n = 0 → news' = [] := fun hq => List.eq_nil_of_length_eq_zero (by rw [hs.len, hq, Nat.zero_mul])
    split at hv
    · -- nil
      have hX := hX.of_plain rfl
      subst hX
      cases hn0 : Nat.beq n 0 with
      | true =>
        rw [hn0] at hv; simp only [cond_true] at hv
        have hn0 := Nat.eq_of_beq_eq_true hn0
        cases hle : Nat.ble len cap with
        | false => rw [hle] at hv; cases hv
        | true =>
          rw [hle] at hv; simp only [cond_true, Option.some.injEq, Prod.mk.injEq] at hv
          obtain ⟨rfl, rfl⟩ := hv
          have hle := ble_true hle
          have hr := app_room (ty := ty) ht hi hz hs none len cap (by omega)
          exact ⟨μ, _, w, hr, μ.le_refl, R, by subst hn0; exact .same _ rfl⟩
      | false =>
        rw [hn0] at hv; simp only [cond_false] at hv
        have hn0 := Nat.ne_of_beq_eq_false hn0
        cases hle : (Nat.beq len 0 && Nat.beq cap 0) with
        | false => rw [hle] at hv; cases hv
        | true =>
          rw [hle] at hv; simp only [cond_true, Option.some.injEq, Prod.mk.injEq] at hv
          obtain ⟨rfl, rfl⟩ := hv
          simp only [Bool.and_eq_true] at hle
          have z1 := Nat.eq_of_beq_eq_true hle.1
          have z2 := Nat.eq_of_beq_eq_true hle.2
          subst z1; subst z2
          have hr := app_grow (ty := ty) ht hi hz hs none 0 0 (by omega) b2 b1 [] (fun w' _ => run_firstCells_none w' _ _ _ _)
          have hge := grownCap_ge w (0 + n) 0 e
          obtain ⟨R', hle'⟩ := fresh R (VsRel.nil μ) hn (len := 0) (n := n) (by simp) hl2 z.cells hzs (grownCap w (0 + n) 0 e) hge e tw htw
          refine ⟨_, _, _, hr, hle', by simpa using R', ?_⟩
          have := ent_slice μ h.next w.heap.size i.size (grownCap w (0 + n) 0 e - (0 + n)) n (0 + n)
          rw [show (0 + n) + (grownCap w (0 + n) 0 e - (0 + n)) = grownCap w (0 + n) 0 e by omega] at this
          simpa using this
    · rename_i b o'
      split at hv
      · cases hv
      · rename_i k hk
        cases hks : Nat.beq k.s i.size with
        | false => rw [hks] at hv; cases hv
        | true =>
          rw [hks] at hv; simp only [Bool.not_true, cond_false] at hv
          have hks := Nat.eq_of_beq_eq_true hks
          obtain ⟨en, he, hX'⟩ := hX.slice_inv
          obtain ⟨en', he', x⟩ := R.blk b k hk
          rw [he] at he'; cases he'
          have es : en.s = i.size := by rw [x.s, hks]
          have enn := x.n
          have hC : cap ≤ (if o' + cap * en.s = en.n then cap + en.extra else cap) := by split <;> omega
          subst hX'
          cases hroom : Nat.ble (len + n) cap with
          | true =>
            rw [hroom] at hv; simp only [cond_true] at hv
            have hroom := ble_true hroom
            have hr := app_room (ty := ty) ht hi hz hs (some ⟨en.blk, en.base + o', none⟩) len _ (Nat.le_trans hroom hC)
            cases hn0 : Nat.beq n 0 with
            | true =>
              rw [hn0] at hv; simp only [cond_true, Option.some.injEq, Prod.mk.injEq] at hv
              obtain ⟨rfl, rfl⟩ := hv
              have hn0 := Nat.eq_of_beq_eq_true hn0
              have hnn := nz hn0
              subst hnn
              subst hn0
              refine ⟨μ, _, w, hr, μ.le_refl, R, hX⟩
            | false =>
              rw [hn0] at hv; simp only [cond_false] at hv
              have hn0 := Nat.ne_of_beq_eq_false hn0
              split at hv
              · rename_i h1 hw
                simp only [Option.some.injEq, Prod.mk.injEq] at hv
                obtain ⟨rfl, rfl⟩ := hv
                have hpos : news ≠ [] := by
                  intro hq; rw [hq] at hl2; simp only [List.length_nil] at hl2
                  rcases Nat.mul_eq_zero.1 hl2.symm with q | q <;> omega
                obtain ⟨w', hb0, hst, R'⟩ := R.wrs hw hn hpos he
                have hst := hst P
                refine ⟨μ, .slice (some ⟨en.blk, en.base + o', none⟩) (len + n) (if o' + cap * en.s = en.n then cap + en.extra else cap), w', ?_, μ.le_refl, R', .slice b o' (len + n) cap en he⟩
                rw [hr]
                simp only [Addr.add_lit]
                rw [Nat.add_assoc, hst]; rfl
              · cases hv
          | false =>
            rw [hroom] at hv; simp only [cond_false] at hv
            have hroom : ¬ (len + n ≤ cap) := fun hq => by
              have := Nat.ble_eq_true_of_le hq
              rw [this] at hroom; cases hroom
            split at hv
            · cases hv
            · rename_i olds hold
              obtain ⟨olds', o1, o2, o3⟩ := R.rds hold he
              have hol : olds.length = len * i.size := by rw [o3.1, o1]
              have hfirst : ∀ C, ∀ w' : World, (∀ a, w'.cell? a = w.cell? a) → (Builtin.firstCells i.size len (.slice (some ⟨en.blk, en.base + o', none⟩) len C)).run P w' = .ok olds'.toArray w' :=
                fun C w' hw' => run_firstCells_some w' i.size len _ len C olds' o1 (fun j v hj => by rw [hw']; exact o2 j v hj)
              have htk : (bif Nat.beq k.ty tw then tw else 0) ≠ 0 → e + 1 = (bif Nat.beq k.ty tw then tw else 0) := by
                cases Nat.beq k.ty tw with
                | true => exact htw
                | false => exact fun hq => absurd rfl hq
              -- a new block
              have new : ∀ (H : Heap), Rel Cm μ H B w0 w → ∀ C, ¬ (len + n ≤ C) → AppDid Cm P μ (H.new { cells := olds ++ news, n := (len + n) * i.size, s := i.size, own := true, grown := true, ty := bif Nat.beq k.ty tw then tw else 0 }) B w0 w #[t, u] ty (.slice (some ⟨en.blk, en.base + o', none⟩) len C) Y (.slice (some ⟨H.next, 0, none⟩) (len + n) (len + n)) := by
                intro H RH C hC'
                have hr := app_grow (ty := ty) ht hi hz hs (some ⟨en.blk, en.base + o', none⟩) len C hC' b2 b1 olds' (hfirst C)
                have hge := grownCap_ge w (len + n) C e
                obtain ⟨R', hle'⟩ := fresh RH o3 hn hol hl2 z.cells hzs (grownCap w (len + n) C e) hge e _ htk
                refine ⟨_, _, _, hr, hle', R', ?_⟩
                have := ent_slice μ H.next w.heap.size i.size (grownCap w (len + n) C e - (len + n)) (len + n) (len + n)
                rwa [show (len + n) + (grownCap w (len + n) C e - (len + n)) = grownCap w (len + n) C e by omega] at this
              cases hop : (k.grown && Nat.beq (o' + cap * i.size) k.n) with
              | false =>
                rw [hop] at hv; simp only [cond_false, Option.some.injEq, Prod.mk.injEq] at hv
                obtain ⟨rfl, rfl⟩ := hv
                have hCe : (if o' + cap * en.s = en.n then cap + en.extra else cap) = cap := by
                  split
                  · rename_i hend
                    simp only [Bool.and_eq_false_iff] at hop
                    rcases hop with hg | hg
                    · have := x.grown hg; omega
                    · exact absurd (by rw [← es, ← enn]; exact hend) (Nat.ne_of_beq_eq_false hg)
                  · rfl
                rw [hCe]
                exact new h R cap hroom
              | true =>
                rw [hop] at hv; simp only [cond_true] at hv
                simp only [Bool.and_eq_true] at hop
                have hend := Nat.eq_of_beq_eq_true hop.2
                cases hq : (Nat.beq o' 0 && k.own && olds.all scalar && Nat.ble 1 k.cells.length) with
                | false => rw [hq] at hv; cases hv
                | true =>
                  rw [hq] at hv; simp only [cond_true, Option.some.injEq, Prod.mk.injEq] at hv
                  obtain ⟨rfl, rfl⟩ := hv
                  simp only [Bool.and_eq_true] at hq
                  have q1 := Nat.eq_of_beq_eq_true hq.1.1.1
                  have q2 := hq.1.1.2
                  have q4 := ble_true hq.2
                  subst q1
                  have hCe : (if 0 + cap * en.s = en.n then cap + en.extra else cap) = cap + en.extra := by rw [if_pos (by rw [es, enn]; exact hend)]
                  rw [hCe]
                  by_cases hin : len + n ≤ cap + en.extra
                  · -- in place
                    obtain ⟨hB, hbase, cc, el, hh, hcs⟩ := x.own q2
                    have hr := app_room (ty := ty) ht hi hz hs (some ⟨en.blk, en.base + 0, none⟩) len (cap + en.extra) hin
                    have htot : cc.size = (len + n) * i.size + (cap + en.extra - (len + n)) * i.size := by
                      rw [hcs, hks, ← Nat.add_mul]
                      have : k.n = cap * i.size := by omega
                      rw [this, ← Nat.add_mul]
                      congr 1; omega
                    have hle3 : len * i.size + n * i.size ≤ cc.size := by rw [htot, Nat.add_mul]; omega
                    have hst := run_storeCells_at P en.blk (len * i.size) el news' 0 cc w hh (by rw [hs.len]; omega) (vs_scalar hn b4)
                    have hcell : ∀ (j : Nat) (y : Value), k.cells[j]? = some y → ∃ y', cc[j]? = some y' ∧ VRel μ y y' := by
                      intro j y hj
                      obtain ⟨c1, l1, fr, y', g1, g2, g3⟩ := x.cell j y hj
                      rw [hh] at g1; cases g1
                      exact ⟨y', by rw [hbase, Nat.zero_add] at g2; exact g2, g3⟩
                    have holdk : ∀ j, j < len * i.size → olds[j]? = k.cells[j]? := by
                      intro j hj
                      unfold Heap.rds at hold
                      simp only [leLen_eq] at hold
                      rw [hk] at hold
                      simp only at hold
                      cases hle4 : Nat.ble (0 + len * i.size) k.cells.length with
                      | false => rw [hle4] at hold; cases hold
                      | true =>
                        rw [hle4] at hold; simp only [cond_true, Option.some.injEq] at hold
                        rw [← hold, List.getElem?_take, if_pos hj, List.getElem?_drop, Nat.zero_add]
                    have hsp : len * i.size + news'.length ≤ cc.toList.length := by rw [hs.len]; simpa using hle3
                    obtain ⟨R', hle'⟩ := R.regrow hk q2 (by intro hq; rw [hq] at q4; simp at q4) he hh (splice cc.toList (len * i.size) news').toArray (by simp only [List.size_toArray]; rw [splice_length _ _ _ hsp]; simp)
                      { cells := olds ++ news, n := (len + n) * i.size, s := i.size, own := true, grown := true, ty := bif Nat.beq k.ty tw then tw else 0 } rfl rfl (cap + en.extra - (len + n)) (by simp only [List.length_append]; rw [hol, hl2, Nat.add_mul]; exact Nat.le_refl _) htot
                      (by
                        intro j y hj
                        simp only [List.getElem?_append] at hj
                        have hg := splice_get cc.toList (len * i.size) news' hsp j
                        split at hj
                        · rename_i hlt
                          rw [hol] at hlt
                          rw [holdk j hlt] at hj
                          obtain ⟨y', g1, g2⟩ := hcell j y hj
                          rw [if_pos hlt] at hg
                          exact ⟨y', by simpa [hg] using g1, g2⟩
                        · rename_i hge
                          rw [hol] at hge hj
                          obtain ⟨y', g1, g2⟩ := hn.get hj
                          have hlt2 : j - len * i.size < news'.length := (List.getElem?_eq_some_iff.1 g1).1
                          rw [if_neg hge, if_pos (by omega)] at hg
                          exact ⟨y', by simpa [hg] using g1, g2⟩)
                      (by
                        intro hq
                        rcases beq_cases k.ty tw with ⟨c1, c2⟩ | ⟨c1, c2⟩
                        · simp only [c1, cond_true] at hq ⊢
                          rw [← c2] at hq ⊢
                          exact x.ty q2 hq _ _ _ hh
                        · simp only [c1, cond_false] at hq; exact absurd rfl hq)
                    refine ⟨_, .slice (some ⟨en.blk, 0, none⟩) (len + n) (cap + en.extra), _, ?_, hle', R', ?_⟩
                    · rw [hr]
                      simp only [Addr.add_lit, hbase, Nat.zero_add]
                      rw [hst]
                      simp [splice]
                    · have := ent_slice μ h.next en.blk i.size (cap + en.extra - (len + n)) (len + n) (len + n)
                      rwa [show (len + n) + (cap + en.extra - (len + n)) = cap + en.extra by omega] at this
                  · exact new (h.kill b k) (R.kill hk) (cap + en.extra) hin
    · rename_i b o' q
      cases hz0 : (Nat.beq n 0 && Nat.beq len 0 && Nat.beq cap 0) with
      | false => rw [hz0] at hv; cases hv
      | true =>
        rw [hz0] at hv; simp only [cond_true, Option.some.injEq, Prod.mk.injEq] at hv
        obtain ⟨rfl, rfl⟩ := hv
        simp only [Bool.and_eq_true] at hz0
        have z1 := Nat.eq_of_beq_eq_true hz0.1.1
        have z2 := Nat.eq_of_beq_eq_true hz0.1.2
        have z3 := Nat.eq_of_beq_eq_true hz0.2
        have hnn := nz z1
        subst z1; subst z2; subst z3; subst hnn
        have hX' : ∃ a' c', X = .slice (some a') 0 c' := by
          cases hX with
          | same _ hp => simp [plain] at hp
          | vague => exact ⟨_, _, rfl⟩
        obtain ⟨a', c', rfl⟩ := hX'
        have hr := app_room (ty := ty) ht hi hz hs (some a') 0 c' (Nat.zero_le _)
        exact ⟨μ, _, w, hr, μ.le_refl, R, hX⟩

theorem srcCells_sound (R : Rel Cm μ h B w0 w) {s n : Nat} {news : List Value} {y Y : Value} (hY : VRel μ y Y) (hv : srcCells h s y = some (news, n)) :
    ∃ news', VsRel μ news news' ∧ news'.length = n * s ∧ (((∃ yb yc, Y = .slice yb n yc) ∧ ∀ w' : World, (∀ a, w'.cell? a = w.cell? a) → (Builtin.firstCells s n Y).run P w' = .ok news'.toArray w') ∨ ∃ b : ByteArray, Y = .string b ∧ b.size = n ∧ news' = b.data.toList.map fun x => Value.int .u8 x.toNat) := by
  unfold srcCells at hv
  split at hv
  · rename_i m c
    have hY := hY.of_plain rfl
    subst hY
    cases hm : Nat.beq m 0 with
    | false => rw [hm] at hv; cases hv
    | true =>
      rw [hm] at hv; simp only [cond_true, Option.some.injEq, Prod.mk.injEq] at hv
      obtain ⟨rfl, rfl⟩ := hv
      have hm := Nat.eq_of_beq_eq_true hm
      subst hm
      exact ⟨[], .nil μ, by simp, .inl ⟨⟨_, _, rfl⟩, fun w' _ => run_firstCells_none w' _ _ _ _⟩⟩
  · rename_i b o' m c
    obtain ⟨en, he, rfl⟩ := hY.slice_inv
    split at hv
    · rename_i l hl
      simp only [Option.some.injEq, Prod.mk.injEq] at hv
      obtain ⟨rfl, rfl⟩ := hv
      obtain ⟨l', g1, g2, g3⟩ := R.rds hl he
      exact ⟨l', g3, g1, .inl ⟨⟨_, _, rfl⟩, fun w' hw' => run_firstCells_some w' s m _ _ _ l' g1 (fun j v hj => by rw [hw']; exact g2 j v hj)⟩⟩
    · cases hv
  · simp only [Option.some.injEq, Prod.mk.injEq] at hv
    obtain ⟨rfl, rfl⟩ := hv
    cases hY with
    | same _ hp => simp [plain] at hp
    | vague =>
      refine ⟨[], .nil μ, by simp, .inl ⟨⟨_, _, rfl⟩, fun w' _ => ?_⟩⟩
      simp [Builtin.firstCells, loadCells, loadCellsFrom]
  · rename_i b
    have hY := hY.of_plain rfl
    subst hY
    cases hs : Nat.beq s 1 with
    | false => rw [hs] at hv; cases hv
    | true =>
      rw [hs] at hv; simp only [cond_true, Option.some.injEq, Prod.mk.injEq] at hv
      obtain ⟨rfl, rfl⟩ := hv
      have hs := Nat.eq_of_beq_eq_true hs
      subst hs
      exact ⟨_, VsRel.of_plain (by rw [List.all_eq_true]; intro q hq; obtain ⟨_, _, rfl⟩ := List.mem_map.1 hq; rfl), by simp, .inr ⟨b, rfl, rfl, rfl⟩⟩
  · cases hv

theorem elemOf'_inv {t e : TypeId} {s bytes : Nat} (he : elemOf' P t = some (e, s, bytes)) : ∃ i, P.underlying t = some (.slice e) ∧ P.info? e = some i ∧ s = i.size ∧ bytes = i.bytes := by
  unfold elemOf' at he
  split at he
  · rename_i e' hu
    split at he
    · rename_i i hi
      simp only [Option.some.injEq, Prod.mk.injEq] at he
      obtain ⟨rfl, rfl, rfl⟩ := he
      exact ⟨i, hu, hi, rfl, rfl⟩
    · cases he
  · cases he

theorem app_fin {c : Call} {x y : Operand} {t u : TypeId} (ho : o.op = .call c) (hc : c.callee = .builtin .append) (ha : c.args.toList = [x, y]) (hts : c.argTypes.toList = [t, u]) {X Y : Value} (hX : a.eval x = X) (hY : a.eval y = Y)
    (H : AppDid Cm P μ h' B w0 w #[t, u] o.type X Y v) : DidE Cm P μ h' B w0 a w o v := by
  have ha' : c.args = #[x, y] := Array.ext' (by simpa using ha)
  have hts' : c.argTypes = #[t, u] := Array.ext' (by simpa using hts)
  obtain ⟨μ', v', w', h1, h2, h3, h4⟩ := H
  refine ⟨μ', v', w', .inl ?_, h2, h3, h4⟩
  simp [execOp, ho, resolve, hc, ha', hts', invoke, builtin, hX, hY, h1]

theorem isStr_rel {x X : Value} (g : VRel μ x X) : isStrV X = isStrV x := by
  cases g <;> first | rfl | (rename_i hq; rcases hq with ⟨_, rfl⟩ | ⟨_, _, _, rfl⟩ <;> rfl)

theorem s_app (R : Rel Cm μ h B w0 w) (r : TsRel μ ts a) {c : Call} {x y : Operand} {x' y' : Opd} {t u e : TypeId} {s bytes : Nat} {z : List Value} {q : TypeId} (ho : o.op = .call c) (hc : c.callee = .builtin .append) (ha : c.args.toList = [x, y]) (hts : c.argTypes.toList = [t, u])
    (he : elemOf' P t = some (e, s, bytes)) {str : Bool} (hu : (str = false ∧ P.underlying u = some (.slice q)) ∨ (str = true ∧ P.underlying u = some .string)) (hz : zeroCells P e = some z) (hx : compOpd x = some x') (hy : compOpd y = some y') (hv : eop ts h (.app s bytes (e + 1) str x' y') = some (v, h')) : DidE Cm P μ h' B w0 a w o v := by
  obtain ⟨i, ht, hi, rfl, rfl⟩ := elemOf'_inv he
  obtain ⟨i', zv, hi', hzv, hzz, hpl, hlen⟩ := zeroCells_inv hz
  rw [hi] at hi'; cases hi'
  have hzs : zv.cells.size = i.size := by rw [← hlen, hzz]; simp
  simp only [eop, eopQ] at hv
  cases hst : (isStrV (ev ts y') == str) with
  | false => rw [hst] at hv; cases hv
  | true =>
  rw [hst] at hv; simp only [cond_true] at hv
  have hst : isStrV (ev ts y') = str := by simpa using hst
  split at hv
  · rename_i base len cap news n hb hs
    have g1 := compOpd_rel r hx
    have g2 := compOpd_rel r hy
    rw [hb] at g1
    obtain ⟨news', s1, s2, s3⟩ := srcCells_sound (P := P) R g2 hs
    have hsrc : Src P w i u (a.eval y) zv n news' := by
      refine ⟨s2, ?_⟩
      have hsv := isStr_rel g2
      rcases hu with ⟨hs0, hu⟩ | ⟨hs0, hu⟩
      · rcases s3 with ⟨s3, s4⟩ | ⟨b, hb, _⟩
        · exact .inl ⟨⟨q, hu⟩, s3, s4⟩
        · rw [hb, hst, hs0] at hsv; cases hsv
      · rcases s3 with ⟨⟨yb, yc, s3⟩, s4⟩ | ⟨b, hb, hb2, hb3⟩
        · rw [s3, hst, hs0] at hsv; cases hsv
        · exact .inr (.inl ⟨hu, ⟨b, hb, hb2, hb3⟩, trivial⟩)
    exact app_fin ho hc ha hts rfl rfl (appA_sound R (fun _ => rfl) ht hi hzv hzs g1 hsrc s1 hv)
  · cases hv

theorem u8s_get : ∀ {l : List Value} {m : List UInt8}, u8s l = some m → m.length = l.length ∧ ∀ (j : Nat) (x : UInt8), m[j]? = some x → l[j]? = some (.int .u8 x.toNat) := by
  intro l
  induction l with
  | nil => intro m h; simp only [u8s, Option.some.injEq] at h; subst h; exact ⟨rfl, fun j x h => by simp at h⟩
  | cons y l ih =>
    intro m h
    unfold u8s at h
    split at h
    · rename_i h1; cases h1
    · rename_i n r h1
      simp only [List.cons.injEq] at h1
      obtain ⟨rfl, rfl⟩ := h1
      cases hb : Nat.blt n 256 with
      | false => rw [hb] at h; cases h
      | true =>
        rw [hb] at h; simp only [cond_true] at h
        have hb : n < 256 := Nat.le_of_ble_eq_true hb
        split at h
        · rename_i m' hm
          simp only [Option.some.injEq] at h; subst h
          obtain ⟨i1, i2⟩ := ih hm
          refine ⟨by simp [i1], fun j x hj => ?_⟩
          cases j with
          | zero =>
            simp at hj; subst hj
            simp
            omega
          | succ j => simp at hj; simpa using i2 j x hj
        · cases h
    · cases h

theorem s_ust (R : Rel Cm μ h B w0 w) (r : TsRel μ ts a) {c : Call} {x y : Operand} {x' y' : Opd} {t u e : TypeId} {i : TypeInfo} (ho : o.op = .call c) (hc : c.callee = .builtin .unsafeString) (ha : c.args.toList = [x, y]) (hts : c.argTypes.toList = [t, u])
    (ht : P.underlying t = some (.pointer e)) (hi : P.info? e = some i) (hi1 : i.size = 1) (hx : compOpd x = some x') (hy : compOpd y = some y') (hv : eop ts h (.ust (e + 1) x' y') = some (v, h')) : DidE Cm P μ h' B w0 a w o v := by
  have ha' : c.args = #[x, y] := Array.ext' (by simpa using ha)
  have hts' : c.argTypes = #[t, u] := Array.ext' (by simpa using hts)
  have g1 := compOpd_rel r hx
  have g2 := compOpd_rel r hy
  simp only [eop, eopQ] at hv
  unfold ustV at hv
  split at hv
  · rename_i n hb hb'
    rw [hb] at g1; rw [hb'] at g2
    cases hd : decide (n = 0) with
    | false => rw [hd] at hv; cases hv
    | true =>
      have := of_decide_eq_true hd
      subst this
      simp only [decide_true, cond_true, Option.some.injEq, Prod.mk.injEq] at hv
      obtain ⟨rfl, rfl⟩ := hv
      refine ⟨μ, _, w, .inl ?_, μ.le_refl, R, .same _ rfl⟩
      simp [execOp, ho, resolve, hc, ha', hts', invoke, builtin, g1.of_plain rfl, g2.int, Lib.run_unsafeString_none]
  · rename_i b o' n hb hb'
    rw [hb] at g1; rw [hb'] at g2
    split at hv
    · rename_i k hk
      cases hq : (Nat.beq o' 0 && Nat.ble 1 n && Nat.ble n 1000000000 && k.own && Nat.beq k.ty (e + 1) && Nat.ble n k.cells.length) with
      | false => rw [hq] at hv; cases hv
      | true =>
        rw [hq] at hv; simp only [cond_true] at hv
        simp only [Bool.and_eq_true] at hq
        obtain ⟨⟨⟨⟨⟨q1, q2⟩, q6⟩, q3⟩, q4⟩, q5⟩ := hq
        have q1 := Nat.eq_of_beq_eq_true q1
        have q2 := Nat.le_of_ble_eq_true q2
        have q4 := Nat.eq_of_beq_eq_true q4
        have q5 := Nat.le_of_ble_eq_true q5
        have q6 := Nat.le_of_ble_eq_true q6
        subst q1
        split at hv
        · rename_i l hl
          simp only [Option.some.injEq, Prod.mk.injEq] at hv
          obtain ⟨rfl, rfl⟩ := hv
          obtain ⟨en, he, hX⟩ := g1.ptr_inv
          obtain ⟨en', he', xx⟩ := R.blk b k hk
          rw [he] at he'; cases he'
          obtain ⟨hB, hbase, cc, el, hh, hcs⟩ := xx.own q3
          have hne : k.ty ≠ 0 := by rw [q4]; exact Nat.succ_ne_zero _
          have hel : el = e := by have h9 := xx.ty q3 hne _ _ _ hh; rw [q4] at h9; exact Nat.succ.inj h9
          subst hel
          obtain ⟨l1, l2⟩ := u8s_get hl
          have hln : l.length = n := by rw [l1, List.length_take]; omega
          have hcell : ∀ j x, l[j]? = some x → w.cell? ((⟨en.blk, 0, none⟩ : Addr).add j) = some (.int .u8 x.toNat) := by
            intro j x hj
            have g := l2 j x hj
            have hjn : j < n := by rw [← hln]; exact (List.getElem?_eq_some_iff.1 hj).1
            rw [List.getElem?_take_of_lt hjn] at g
            obtain ⟨cc', el', fr, v', c1, c2, c3⟩ := xx.cell j _ g
            rw [hh] at c1; cases c1
            rw [c3.int, hbase, Nat.zero_add] at c2
            have hadd : (⟨en.blk, 0, none⟩ : Addr).add j = ⟨en.blk, j, none⟩ := by unfold Addr.add; split <;> simp_all
            rw [hadd]
            simp [World.cell?, hh, c2]
          have hsh : w.shape? en.blk = some (el, cc.size) := by simp [World.shape?, hh]
          have hlen : k.cells.length ≤ cc.size := by have := xx.len; rw [hcs]; omega
          have hco : P.cellsOf el = 1 := by unfold Program.cellsOf; rw [hi]; simp [hi1]
          have hrun := Lib.run_unsafeString_row (P := P) w t u o.type el ht hco en.blk cc.size hsh l (by intro hq; rw [hq] at hln; simp at hln; omega) (by omega) (by omega) hcell
          rw [hln] at hrun
          have hX' : a.eval x = .pointer (some ⟨en.blk, 0, none⟩) := by rw [hX, hbase]
          obtain ⟨fz, hfz, hfz2⟩ : ∃ fz : Obj → Obj, (w.freeze ⟨en.blk, 0, none⟩ n).heap = w.heap.modify en.blk fz ∧ ∃ fr, fz (.cells cc el (0, 0)) = .cells cc el fr := by
            refine ⟨_, by unfold World.freeze; rw [if_neg (by omega)], _, rfl⟩
          refine ⟨μ, .string ⟨l.toArray⟩, w.freeze ⟨en.blk, 0, none⟩ n, .inl ?_, μ.le_refl, R.del hk q3 he (Lib.below_freeze (Below.refl _ _) hB.1 n) (by rw [hfz]; simp) (fun j hj => by rw [hfz, Array.getElem?_modify, if_neg (Ne.symm hj)]) ?_, .same _ rfl⟩
          · simp [execOp, ho, resolve, hc, ha', hts', invoke, builtin, hX', g2.int, hrun]
          · obtain ⟨fr, hfr⟩ := hfz2
            refine ⟨cc, el, fr, ?_⟩
            rw [hfz, Array.getElem?_modify, if_pos rfl, hh, Option.map_some, hfr]
        · cases hv
    · cases hv
  · cases hv

theorem zeroCells_toList (z : Array Value) (hz : z.toList.all plain = true) (hs : 0 < z.size) (μ : Map) (n : Nat) : VsRel μ (rep z.toList n) (Builtin.zeroCells z n).toList := zeros_rel μ hz hs n

theorem s_appZ (R : Rel Cm μ h B w0 w) (r : TsRel μ ts a) {c : Call} {x y : Operand} {x' y' : Opd} {t u e : TypeId} {s bytes : Nat} {z : List Value} {q : IntKind} (ho : o.op = .call c) (hc : c.callee = .builtin .append) (ha : c.args.toList = [x, y]) (hts : c.argTypes.toList = [t, u])
    (he : elemOf' P t = some (e, s, bytes)) (hu : P.underlying u = some (.int q)) (hz : zeroCells P e = some z) (hx : compOpd x = some x') (hy : compOpd y = some y') (hv : eop ts h (.appZ s bytes z x' y') = some (v, h')) : DidE Cm P μ h' B w0 a w o v := by
  obtain ⟨i, ht, hi, rfl, rfl⟩ := elemOf'_inv he
  obtain ⟨i', zv, hi', hzv, hzz, hpl, hlen⟩ := zeroCells_inv hz
  rw [hi] at hi'; cases hi'
  have hzs : zv.cells.size = i.size := by rw [← hlen, hzz]; simp
  simp only [eop, eopQ] at hv
  split at hv
  · rename_i base len cap n hb hn
    cases hle : Nat.ble n 1099511627776 with
    | false => rw [hle] at hv; cases hv
    | true =>
      rw [hle] at hv; simp only [cond_true] at hv
      have hle := ble_true hle
      have g1 := compOpd_rel r hx
      have g2 := compOpd_rel r hy
      rw [hb] at g1
      obtain ⟨k, hk⟩ := asNat_inv hn
      rw [hk] at g2
      have hv' := hv
      unfold appA at hv'
      cases hc' : (Nat.ble ((len + n) * i.bytes) 1099511627776 && Nat.ble (len + n) 1099511627776 && Nat.ble 1 i.size && (rep z n).all scalar) with
      | false => rw [hc'] at hv'; cases hv'
      | true =>
        simp only [Bool.and_eq_true] at hc'
        have b1 := ble_true hc'.1.1.1
        have b3 := ble_true hc'.1.2
        have hzr := zeros_rel μ (zv := zv.cells) (by rw [← hzz]; exact hpl) (by omega) n
        rw [← hzz] at hzr
        have hb2 : n * i.bytes ≤ 1099511627776 := Nat.le_trans (Nat.mul_le_mul_right _ (by omega)) b1
        refine app_fin ho hc ha hts rfl rfl (appA_sound R (fun hq => absurd rfl hq) ht hi hzv hzs g1 ⟨?_, .inr (.inr ⟨⟨q, hu⟩, ⟨k, g2.int⟩, hle, hb2, ?_⟩)⟩ hzr hv)
        · rw [← hzr.1, rep_length, hlen]
        · rw [Array.toArray_toList]; rfl
  · cases hv

end
end
end Go.Proofs.YthjhlifbdieibaaGreatDoor.Ai
/- All operations that read or turn the heap, in one sentence each. -/
namespace Go.Proofs.YthjhlifbdieibaaGreatDoor.Ai
noncomputable section
open Go.RowKit

section
variable {P : Program} {C : CRel} {μ : Map} {h h' : Heap} {B : Fr} {w0 : World} {ts : T Value} {a : Act} {w : World} {o : Oper} {v : Value}

theorem bad_ne_r {q : ROp} : (AOp.r q) ≠ .bad := by intro h; cases h
theorem bad_ne_e {q : EOp} : (AOp.e q) ≠ .bad := by intro h; cases h
theorem bad_ne_c {f : Nat} {l : List Opd} : (AOp.call f l) ≠ .bad := by intro h; cases h

/-- what an operation of the second kind was made of -/
inductive RForm (P : Program) (o : Oper) : ROp → Prop
  | load1 (t : TypeId) (x : Operand) (y : Opd) (d : TypeDesc) : o.op = .load t x → P.underlying t = some d → (∀ q, d ≠ .struct q) → (∀ q q', d ≠ .array q q') → compOpd x = some y → RForm P o (.load1 y)
  | loadN (t : TypeId) (x : Operand) (y : Opd) (i : TypeInfo) : o.op = .load t x → ((∃ q, P.underlying t = some (.struct q)) ∨ ∃ q q', P.underlying t = some (.array q q')) → P.info? t = some i → compOpd x = some y → RForm P o (.loadN i.size y)
  | slice (t e : TypeId) (inf : TypeInfo) (x : Operand) (x' : Opd) (lo hi mx : Option Operand) (lo' hi' mx' : Option Opd) : o.op = .slice t x lo hi mx → P.underlying t = some (.slice e) → P.info? e = some inf → compOpd x = some x' →
      ((lo = none ∧ lo' = none) ∨ ∃ X y, lo = some X ∧ compOpd X = some y ∧ lo' = some y) → ((hi = none ∧ hi' = none) ∨ ∃ X y, hi = some X ∧ compOpd X = some y ∧ hi' = some y) → ((mx = none ∧ mx' = none) ∨ ∃ X y, mx = some X ∧ compOpd X = some y ∧ mx' = some y) → RForm P o (.slice inf.size x' lo' hi' mx')
  | cap (c : Call) (x : Operand) (t e : TypeId) (y : Opd) : o.op = .call c → c.callee = .builtin .cap → c.args.toList = [x] → c.argTypes.toList = [t] → P.underlying t = some (.slice e) → compOpd x = some y → RForm P o (.cap y)
  | bts (s t e : TypeId) (x : Operand) (y : Opd) : o.op = .convert s t x → P.underlying s = some (.slice e) → P.underlying t = some .string → P.underlying e = some (.int .u8) → compOpd x = some y → RForm P o (.bts y)

inductive EForm (P : Program) (o : Oper) : EOp → Prop
  | store (t : TypeId) (x y : Operand) (x' y' : Opd) (i : TypeInfo) : o.op = .store t x y → P.info? t = some i → compOpd x = some x' → compOpd y = some y' → EForm P o (.store i.size x' y')
  | box (t : TypeId) (x : Operand) (x' : Opd) (n : Nat) : o.op = .box t x → compOpd x = some x' → EForm P o (.box n x')
  | alloc (t : TypeId) (z : List Value) : o.op = .alloc t → zeroCells P t = some z → EForm P o (.alloc z (t + 1))
  | buildS (t e : TypeId) (len s q : Nat) (parts : Array (Nat × Operand)) (ps : List (Nat × Nat × Opd)) (z : List Value) : o.op = .buildSlice t len parts → elemOf' P t = some (e, s, q) → zeroCells P e = some z → len * s ≤ 1000000 → 1 ≤ s → compParts (fun i => some (i * s, s)) parts.toList = some ps → EForm P o (.buildS s len (rep z len) ps)
  | mkS (t e : TypeId) (s q : Nat) (l c : Operand) (l' c' : Opd) (z : List Value) : o.op = .makeSlice t l c → elemOf' P t = some (e, s, q) → zeroCells P e = some z → 1 ≤ s → compOpd l = some l' → compOpd c = some c' → EForm P o (.mkS s q z l' c')
  | app (c : Call) (x y : Operand) (x' y' : Opd) (t u e : TypeId) (s bytes : Nat) (z : List Value) (q : TypeId) (str : Bool) : o.op = .call c → c.callee = .builtin .append → c.args.toList = [x, y] → c.argTypes.toList = [t, u] → elemOf' P t = some (e, s, bytes) → ((str = false ∧ P.underlying u = some (.slice q)) ∨ (str = true ∧ P.underlying u = some .string)) → zeroCells P e = some z → compOpd x = some x' → compOpd y = some y' → EForm P o (.app s bytes (e + 1) str x' y')
  | appZ (c : Call) (x y : Operand) (x' y' : Opd) (t u e : TypeId) (s bytes : Nat) (z : List Value) (q : IntKind) : o.op = .call c → c.callee = .builtin .append → c.args.toList = [x, y] → c.argTypes.toList = [t, u] → elemOf' P t = some (e, s, bytes) → P.underlying u = some (.int q) → zeroCells P e = some z → compOpd x = some x' → compOpd y = some y' → EForm P o (.appZ s bytes z x' y')
  | ust (c : Call) (x y : Operand) (x' y' : Opd) (t u e : TypeId) (i : TypeInfo) : o.op = .call c → c.callee = .builtin .unsafeString → c.args.toList = [x, y] → c.argTypes.toList = [t, u] → P.underlying t = some (.pointer e) → P.info? e = some i → i.size = 1 → compOpd x = some x' → compOpd y = some y' → EForm P o (.ust (e + 1) x' y')

inductive CForm (o : Oper) : Nat → List Opd → Prop
  | call (c : Call) (f : Nat) (l : List Opd) : o.op = .call c → c.callee = .value (.func f) → oL c.args.toList = some l → CForm o f l

inductive VForm (o : Oper) : Opd → List Opd → Prop
  | callv (c : Call) (t : Nat) (l : List Opd) : o.op = .call c → c.callee = .value (.tmp t) → oL c.args.toList = some l → VForm o (.t t) l

inductive IForm (P : Program) (o : Oper) : List (Nat × Nat) → Opd → List Opd → Prop
  | invoke (c : Call) (x : Operand) (y : Opd) (name : String) (l : List Opd) : o.op = .call c → c.callee = .invoke x name → compOpd x = some y → oL c.args.toList = some l → IForm P o (methTbl P name (List.range P.types.size)) y l

/-- what a compiled operation was made of -/
def Form (P : Program) (o : Oper) : AOp → Prop
  | .p q => comp P o.op = .p q
  | .r q => RForm P o q
  | .e q => EForm P o q
  | .call f l => CForm o f l
  | .callv x l => VForm o x l
  | .invoke tbl x l => IForm P o tbl x l
  | .bad => True

theorem form_o1 {A : AOp} {x : Operand} {f : Opd → AOp} (h : o1 x f = A) (k : ∀ y, compOpd x = some y → f y = A → Form P o A) : Form P o A := by
  unfold o1 at h
  split at h
  · exact k _ (by assumption) h
  · subst h; trivial

theorem form_oO {A : AOp} {x : Option Operand} {f : Option Opd → AOp} (h : oO x f = A) (k : ∀ y, ((x = none ∧ y = none) ∨ ∃ X z, x = some X ∧ compOpd X = some z ∧ y = some z) → f y = A → Form P o A) : Form P o A := by
  unfold oO at h
  split at h
  · exact k none (.inl ⟨rfl, rfl⟩) h
  · split at h
    · exact k _ (.inr ⟨_, _, rfl, by assumption, rfl⟩) h
    · subst h; trivial

theorem form_if {A x : AOp} {c : Bool} (h : (bif c then x else .bad) = A) (k : c = true → x = A → Form P o A) : Form P o A := by
  cases c
  · have : AOp.bad = A := h
    subst this; trivial
  · exact k rfl h

theorem form_cond {A : AOp} {c : Bool} {X : AOp} (h : (bif c then X else .bad) = A) (k : c = true → X = A → Form P o A) : Form P o A := by
  cases c with
  | true => exact k rfl h
  | false => subst h; trivial

theorem form_p {A : AOp} {q : POp} (h0 : comp P o.op = A) (e : AOp.p q = A) : Form P o A := by
  subst e; exact h0

theorem form_bad {A : AOp} (e : AOp.bad = A) : Form P o A := by
  subst e; trivial

theorem form_of {A : AOp} (h : comp P o.op = A) : Form P o A := by
  have h0 := h
  cases hop : o.op with
  | move x => rw [hop] at h; simp only [comp] at h; exact form_o1 h fun y hy e => form_p h0 e
  | assign x => rw [hop] at h; simp only [comp] at h; exact form_o1 h fun y hy e => form_p h0 e
  | pick x y z => rw [hop] at h; simp only [comp] at h; exact form_o1 h fun y hy h => form_o1 h fun y hy h => form_o1 h fun y hy e => form_p h0 e
  | binOp op t x y u =>
    rw [hop] at h; simp only [comp] at h
    split at h
    · exact form_o1 h fun y hy e => form_p h0 e
    · exact form_o1 h fun y hy e => form_p h0 e
    · split at h <;> exact form_o1 h fun y hy h => form_o1 h fun y hy e => form_p h0 e
    · split at h <;> exact form_o1 h fun y hy h => form_o1 h fun y hy e => form_p h0 e
    · exact form_o1 h fun y hy h => form_o1 h fun y hy e => form_p h0 e
  | unOp op t x =>
    rw [hop] at h; simp only [comp] at h
    split at h
    · exact form_o1 h fun y hy e => form_p h0 e
    · exact form_o1 h fun y hy e => form_p h0 e
    · exact form_bad h
  | convert s t x =>
    rw [hop] at h; simp only [comp] at h
    split at h
    · exact form_o1 h fun y hy e => form_p h0 e
    · rename_i e hs ht
      split at h
      · rename_i he
        exact form_o1 h fun y hy e1 => by subst e1; exact .bts s t e x y hop hs ht he hy
      · exact form_bad h
    · exact form_bad h
  | fieldAddr s x f =>
    rw [hop] at h; simp only [comp] at h
    split at h
    · split at h
      · split at h
        · rename_i i hi
          cases hz : Nat.beq i.size 0 with
          | true => rw [hz] at h; exact form_bad h
          | false => rw [hz] at h; exact form_o1 h fun y hy e => form_p h0 e
        · exact form_bad h
      · exact form_bad h
    · exact form_bad h
  | field s x f =>
    rw [hop] at h; simp only [comp] at h
    split at h
    · split at h
      · split at h
        · exact form_o1 h fun y hy e => form_p h0 e
        · exact form_o1 h fun y hy e => form_p h0 e
        · exact form_o1 h fun y hy e => form_p h0 e
        · exact form_bad h
      · exact form_bad h
    · exact form_bad h
  | indexAddr t x i =>
    rw [hop] at h; simp only [comp] at h
    split at h
    · split at h
      · exact form_o1 h fun y hy h => form_o1 h fun y hy e => form_p h0 e
      · exact form_bad h
    · split at h
      · exact form_o1 h fun y hy h => form_o1 h fun y hy e => form_p h0 e
      · exact form_bad h
    · exact form_bad h
  | index t x i =>
    rw [hop] at h; simp only [comp] at h
    split at h
    · exact form_o1 h fun y hy h => form_o1 h fun y hy e => form_p h0 e
    · split at h
      · exact form_o1 h fun y hy h => form_o1 h fun y hy e => form_p h0 e
      · exact form_o1 h fun y hy h => form_o1 h fun y hy e => form_p h0 e
      · exact form_o1 h fun y hy h => form_o1 h fun y hy e => form_p h0 e
      · exact form_bad h
    · exact form_bad h
  | makeFunc fn fs cs =>
    rw [hop] at h; simp only [comp] at h
    split at h
    · exact form_p h0 h
    · exact form_bad h
  | makeInterface t x =>
    rw [hop] at h; simp only [comp] at h
    split at h
    · exact form_bad h
    · exact form_o1 h fun y hy e => form_p h0 e
    · exact form_bad h
  | typeAssert x u t ok =>
    rw [hop] at h; simp only [comp] at h
    split at h
    · exact form_bad h
    · split at h
      · exact form_if h fun _ h => form_o1 h fun y hy e => form_p h0 e
      · exact form_bad h
    · exact form_bad h
  | extract x i => rw [hop] at h; simp only [comp] at h; exact form_o1 h fun y hy e => form_p h0 e
  | nilCheck x => rw [hop] at h; simp only [comp] at h; exact form_o1 h fun y hy e => form_p h0 e
  | build t parts =>
    rw [hop] at h; simp only [comp] at h
    split at h
    · split at h
      · split at h
        · exact form_p h0 h
        · exact form_bad h
      · exact form_bad h
    · split at h
      · split at h
        · exact form_p h0 h
        · exact form_bad h
      · exact form_bad h
    · exact form_bad h
  | load t x =>
    rw [hop] at h; simp only [comp] at h
    split at h
    · rename_i q' i hd hi
      exact form_o1 h fun y hy e => by subst e; exact .loadN t x y i hop (.inl ⟨q', hd⟩) hi hy
    · rename_i q1 q2 i hd hi
      exact form_o1 h fun y hy e => by subst e; exact .loadN t x y i hop (.inr ⟨q1, q2, hd⟩) hi hy
    · rename_i d i hn1 hn2 hd hi
      exact form_o1 h fun y hy e => by subst e; exact .load1 t x y d hop hd (fun q hq => hn1 q (by rw [← hq])) (fun q q' hq => hn2 q q' (by rw [← hq])) hy
    · exact form_bad h
  | slice t x lo hi mx =>
    rw [hop] at h; simp only [comp] at h
    split at h
    · rename_i e ht
      split at h
      · rename_i inf hin
        exact form_o1 h fun y hy h => form_oO h fun lo' h1 h => form_oO h fun hi' h2 h => form_oO h fun mx' h3 e => by
          subst e; exact .slice t _ inf x y lo hi mx lo' hi' mx' hop ht hin hy h1 h2 h3
      · exact form_bad h
    · exact form_bad h
  | store t x y =>
    rw [hop] at h; simp only [comp] at h
    split at h
    · rename_i i hi
      exact form_o1 h fun x' hx h => form_o1 h fun y' hy e => by subst e; exact .store t x y x' y' i hop hi hx hy
    · exact form_bad h
  | alloc t =>
    rw [hop] at h; simp only [comp] at h
    split at h
    · rename_i z hz
      subst h; exact .alloc t z hop hz
    · exact form_bad h
  | box t x =>
    rw [hop] at h; simp only [comp] at h
    split at h
    · exact form_o1 h fun y hy e => by subst e; exact .box t x y _ hop hy
    · exact form_bad h
  | buildSlice t n parts =>
    rw [hop] at h; simp only [comp] at h
    split at h
    · rename_i e s q he
      split at h
      · rename_i z hz
        refine form_if h fun hc h => ?_
        simp only [Bool.and_eq_true] at hc
        split at h
        · rename_i ps hps
          subst h; exact .buildS t e n s q parts ps z hop he hz (ble_true hc.1) (ble_true hc.2) hps
        · exact form_bad h
      · exact form_bad h
    · exact form_bad h
  | makeSlice t l c =>
    rw [hop] at h; simp only [comp] at h
    split at h
    · rename_i e s q he
      split at h
      · rename_i z hz
        exact form_if h fun hc h => form_o1 h fun x' hx h => form_o1 h fun y' hy e' => by subst e'; exact .mkS t e s q l c x' y' z hop he hz (ble_true hc) hx hy
      · exact form_bad h
    · exact form_bad h
  | call c =>
    rw [hop] at h; simp only [comp] at h
    split at h
    · rename_i b hb
      unfold compBuiltin at h
      split at h
      · split at h
        · split at h
          · exact form_o1 h fun y hy e => form_p h0 e
          · exact form_o1 h fun y hy e => form_p h0 e
          · exact form_bad h
        · exact form_bad h
      · rename_i x ha
        split at h
        · rename_i t hts
          split at h
          · rename_i e ht
            exact form_o1 h fun y hy e1 => by subst e1; exact .cap c x t e y hop hb ha hts ht hy
          · exact form_bad h
        · exact form_bad h
      · exact form_o1 h fun y hy e => form_p h0 e
      · rename_i x y ha
        split at h
        · rename_i t u hts
          split at h
          · rename_i e ht
            split at h
            · rename_i i hi
              exact form_cond h fun hi1 h => form_o1 h fun x' hx h => form_o1 h fun y' hy e1 => by subst e1; exact .ust c x y x' y' t u e i hop hb ha hts ht hi (Nat.eq_of_beq_eq_true hi1) hx hy
            · exact form_bad h
          · exact form_bad h
        · exact form_bad h
      · exact form_o1 h fun y hy h => form_o1 h fun z hz e => form_p h0 e
      · exact form_o1 h fun y hy h => form_o1 h fun z hz e => form_p h0 e
      · rename_i x y ha
        split at h
        · rename_i t u hts
          split at h
          · rename_i e s bytes he
            split at h
            · rename_i q hu
              refine form_o1 h fun x' hx h => form_o1 h fun y' hy h => ?_
              split at h
              · rename_i z hz
                subst h; exact .app c x y x' y' t u e s bytes z q false hop hb ha hts he (.inl ⟨rfl, hu⟩) hz hx hy
              · exact form_bad h
            · rename_i hu
              refine form_cond h fun hs1 h => form_o1 h fun x' hx h => form_o1 h fun y' hy h => ?_
              split at h
              · rename_i z hz
                subst h; exact .app c x y x' y' t u e s bytes z 0 true hop hb ha hts he (.inr ⟨rfl, hu⟩) hz hx hy
              · exact form_bad h
            · rename_i q hu
              split at h
              · rename_i z hz
                exact form_o1 h fun x' hx h => form_o1 h fun y' hy e' => by subst e'; exact .appZ c x y x' y' t u e s bytes z q hop hb ha hts he hu hz hx hy
              · exact form_bad h
            · exact form_bad h
          · exact form_bad h
        · exact form_bad h
      · exact form_bad h
    · rename_i f hf
      split at h
      · rename_i l hl
        subst h; exact .call c f l hop hf hl
      · exact form_bad h
    · rename_i t hf
      split at h
      · rename_i l hl
        subst h; exact .callv c t l hop hf hl
      · exact form_bad h
    · rename_i x name hf
      split at h
      · rename_i l hl
        exact form_o1 h fun y hy e => by subst e; exact .invoke c x y name l hop hf hy hl
      · exact form_bad h
    · exact form_bad h
  | _ => rw [hop] at h; simp only [comp] at h; exact form_bad h

theorem rop_sound {q : ROp} (f : RForm P o q) (R : Rel C μ h B w0 w) (r : TsRel μ ts a) (hv : rop ts h q = some v) : Did P μ a w o v := by
  cases f with
  | load1 t x y d ho hd h1 h2 hx => exact s_load1 R r ho hd h1 h2 hx hv
  | loadN t x y i ho hd hi hx => exact s_loadN R r ho hd hi hx hv
  | slice t e inf x x' lo hi mx lo' hi' mx' ho ht hin hx h1 h2 h3 => exact s_slice R r ho ht hin hx h1 h2 h3 hv
  | cap c x t e y ho hc ha hts ht hx => exact s_cap R r ho hc ha hts ht hx hv
  | bts s t e x y ho hs ht he hx => exact s_bts R r ho hs ht he hx hv

theorem eop_sound {q : EOp} (f : EForm P o q) (R : Rel C μ h B w0 w) (r : TsRel μ ts a) (hv : eop ts h q = some (v, h')) : DidE C P μ h' B w0 a w o v := by
  cases f with
  | store t x y x' y' i ho hi hx hy => exact s_store R r ho hi hx hy hv
  | box t x x' n ho hx => exact s_box R r ho hx hv
  | alloc t z ho hz => exact s_alloc R ho hz hv
  | buildS t e len s q parts ps z ho he hz h1 h2 hp => exact s_buildS R r ho he hz h1 h2 hp hv
  | mkS t e s q l c l' c' z ho he hz h2 hl hc => exact s_mkS R r ho he hz h2 hl hc hv
  | app c x y x' y' t u e s bytes z q str ho hc ha hts he hu hz hx hy => exact s_app R r ho hc ha hts he hu hz hx hy hv
  | ust c x y x' y' t u e i ho hc ha hts ht hi hi1 hx hy => exact s_ust R r ho hc ha hts ht hi hi1 hx hy hv
  | appZ c x y x' y' t u e s bytes z q ho hc ha hts he hu hz hx hy => exact s_appZ R r ho hc ha hts he hu hz hx hy hv

end
end
end Go.Proofs.YthjhlifbdieibaaGreatDoor.Ai
