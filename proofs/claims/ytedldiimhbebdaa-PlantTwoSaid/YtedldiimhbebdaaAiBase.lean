/- The abstract heap of a run, and what it says of the model's world. -/
import Derived.Test.YtedldiimhbebdaaAiSyn
namespace Go.Proofs.Ytedldiimhbebdaa.Ai
noncomputable section
open Go.RowKit

/-- a tree of places -/
inductive T (α : Type) where
  | nil : T α
  | node (l : T α) (v : Option α) (r : T α) : T α

theorem cond2 {β : Type} (c d : Bool) (x y z : β) : (Bool.rec (motive := fun _ => β) (Bool.rec (motive := fun _ => β) z y d) x c) = bif c then x else bif d then y else z := by cases c <;> cases d <;> rfl

def T.get {α : Type} (t : T α) : Nat → Option α := T.rec (motive := fun _ => Nat → Option α) (fun _ => none) (fun _ v _ gl gr k => Bool.rec (motive := fun _ => Option α) (Bool.rec (motive := fun _ => Option α) (gr (Nat.sub (Nat.div k 2) 1)) (gl (Nat.div k 2)) (Nat.beq (Nat.mod k 2) 1)) v (Nat.beq k 0)) t

theorem T.get_node {α : Type} (l : T α) (v : Option α) (r : T α) (k : Nat) : (T.node l v r).get k = bif Nat.beq k 0 then v else bif Nat.beq (k % 2) 1 then l.get (k / 2) else r.get (k / 2 - 1) :=
  cond2 (Nat.beq k 0) (Nat.beq (Nat.mod k 2) 1) v (l.get (k / 2)) (r.get (k / 2 - 1))

theorem T.get_nil {α : Type} (k : Nat) : (T.nil : T α).get k = none := rfl

def T.set {α : Type} (d : Nat) : T α → Nat → α → T α := Nat.rec (motive := fun _ => T α → Nat → α → T α) (fun t _ _ => t)
  (fun _ ih t => T.casesOn (motive := fun _ => Nat → α → T α) t
    (fun k x => Bool.rec (motive := fun _ => T α) (Bool.rec (motive := fun _ => T α) (.node .nil none (ih .nil (Nat.sub (Nat.div k 2) 1) x)) (.node (ih .nil (Nat.div k 2) x) none .nil) (Nat.beq (Nat.mod k 2) 1)) (.node .nil (some x) .nil) (Nat.beq k 0))
    (fun l v r k x => Bool.rec (motive := fun _ => T α) (Bool.rec (motive := fun _ => T α) (.node l v (ih r (Nat.sub (Nat.div k 2) 1) x)) (.node (ih l (Nat.div k 2) x) v r) (Nat.beq (Nat.mod k 2) 1)) (.node l (some x) r) (Nat.beq k 0))) d

theorem T.set_nil {α : Type} (d : Nat) (k : Nat) (x : α) : T.set (d + 1) .nil k x = bif Nat.beq k 0 then .node .nil (some x) .nil else bif Nat.beq (k % 2) 1 then .node (T.set d .nil (k / 2) x) none .nil else .node .nil none (T.set d .nil (k / 2 - 1) x) :=
  cond2 (Nat.beq k 0) (Nat.beq (Nat.mod k 2) 1) _ _ _
theorem T.set_node {α : Type} (d : Nat) (l : T α) (v : Option α) (r : T α) (k : Nat) (x : α) : T.set (d + 1) (.node l v r) k x = bif Nat.beq k 0 then .node l (some x) r else bif Nat.beq (k % 2) 1 then .node (T.set d l (k / 2) x) v r else .node l v (T.set d r (k / 2 - 1) x) :=
  cond2 (Nat.beq k 0) (Nat.beq (Nat.mod k 2) 1) _ _ _

theorem T.set_zero {α : Type} (t : T α) (k : Nat) (x : α) : T.set 0 t k x = t := rfl

def T.put {α : Type} (t : T α) (k : Nat) (x : α) : T α := T.set (k + 1) t k x

theorem beq_cases (a b : Nat) : (Nat.beq a b = true ∧ a = b) ∨ (Nat.beq a b = false ∧ a ≠ b) := by
  cases h : Nat.beq a b with
  | true => exact .inl ⟨rfl, Nat.eq_of_beq_eq_true h⟩
  | false => exact .inr ⟨rfl, Nat.ne_of_beq_eq_false h⟩

theorem T.get_set_same {α : Type} (x : α) : ∀ (d : Nat) (t : T α) (k : Nat), k < d → (T.set d t k x).get k = some x := by
  intro d
  induction d with
  | zero => intro t k h; omega
  | succ d ih =>
    intro t k h
    cases t <;> simp only [T.set_nil, T.set_node] <;>
    · rcases beq_cases k 0 with ⟨h0, e0⟩ | ⟨h0, e0⟩ <;> simp only [h0, cond_true, cond_false]
      · simp [T.get_node, h0]
      · rcases beq_cases (k % 2) 1 with ⟨h1, e1⟩ | ⟨h1, e1⟩ <;> simp only [h1, cond_true, cond_false, T.get_node, h0]
        · exact ih _ _ (by omega)
        · exact ih _ _ (by omega)

theorem T.get_set_other {α : Type} (x : α) : ∀ (d : Nat) (t : T α) (k j : Nat), j ≠ k → (T.set d t k x).get j = t.get j := by
  intro d
  induction d with
  | zero => intro t k j _; simp [T.set_zero]
  | succ d ih =>
    intro t k j h
    cases t with
    | nil =>
      simp only [T.set_nil]
      rcases beq_cases k 0 with ⟨h0, e0⟩ | ⟨h0, e0⟩ <;> simp only [h0, cond_true, cond_false]
      · have : Nat.beq j 0 = false := by rcases beq_cases j 0 with ⟨a, b⟩ | ⟨a, b⟩; · omega
                                         · exact a
        simp [T.get_nil, T.get_node, this]
      · rcases beq_cases (k % 2) 1 with ⟨h1, e1⟩ | ⟨h1, e1⟩ <;> simp only [h1, cond_true, cond_false, T.get_nil, T.get_node]
        · rcases beq_cases j 0 with ⟨j0, f0⟩ | ⟨j0, f0⟩ <;> simp only [j0, cond_true, cond_false]
          rcases beq_cases (j % 2) 1 with ⟨j1, f1⟩ | ⟨j1, f1⟩ <;> simp only [j1, cond_true, cond_false]
          rw [ih _ _ _ (by omega), T.get_nil]
        · rcases beq_cases j 0 with ⟨j0, f0⟩ | ⟨j0, f0⟩ <;> simp only [j0, cond_true, cond_false]
          rcases beq_cases (j % 2) 1 with ⟨j1, f1⟩ | ⟨j1, f1⟩ <;> simp only [j1, cond_true, cond_false]
          rw [ih _ _ _ (by omega), T.get_nil]
    | node l v r =>
      simp only [T.set_node]
      rcases beq_cases k 0 with ⟨h0, e0⟩ | ⟨h0, e0⟩ <;> simp only [h0, cond_true, cond_false]
      · have : Nat.beq j 0 = false := by rcases beq_cases j 0 with ⟨a, b⟩ | ⟨a, b⟩; · omega
                                         · exact a
        simp [T.get_node, this]
      · rcases beq_cases (k % 2) 1 with ⟨h1, e1⟩ | ⟨h1, e1⟩ <;> simp only [h1, cond_true, cond_false, T.get_node]
        · rcases beq_cases j 0 with ⟨j0, f0⟩ | ⟨j0, f0⟩ <;> simp only [j0, cond_true, cond_false]
          rcases beq_cases (j % 2) 1 with ⟨j1, f1⟩ | ⟨j1, f1⟩ <;> simp only [j1, cond_true, cond_false]
          rw [ih _ _ _ (by omega)]
        · rcases beq_cases j 0 with ⟨j0, f0⟩ | ⟨j0, f0⟩ <;> simp only [j0, cond_true, cond_false]
          rcases beq_cases (j % 2) 1 with ⟨j1, f1⟩ | ⟨j1, f1⟩ <;> simp only [j1, cond_true, cond_false]
          rw [ih _ _ _ (by omega)]

theorem T.get_put_same {α : Type} (t : T α) (k : Nat) (x : α) : (t.put k x).get k = some x := T.get_set_same x _ _ _ (by omega)
theorem T.get_put_other {α : Type} (t : T α) {k j : Nat} (x : α) (h : j ≠ k) : (t.put k x).get j = t.get j := T.get_set_other x _ _ _ _ h

/-- a block: its cells (so many of the model's block, from its beginning), and what never turns -/
structure Blk where
  cells : List Value
  /-- how many cells -/
  n : Nat
  /-- cells of an element -/
  s : Nat
  own : Bool
  grown : Bool

/-- the record of a loop over a function -/
structure LRec where
  ts : T Value
  n : Nat
  ps : List Nat
  asg : ACode
  body : ACode
  /-- 0: ready, 1: busy, 2: done, 3: exhausted -/
  st : Nat
  pend : Option AExit

structure Heap where
  blks : T Blk
  next : Nat
  loops : T LRec
  /-- the blocks for rounds' deferred calls that the activations have, the latest first -/
  marks : List Nat

/-- where a block lies in the model's world -/
structure Ent where
  blk : Nat
  base : Nat
  extra : Nat
  s : Nat
  n : Nat

abbrev Map := Nat → Option Ent

def Map.le (μ ν : Map) : Prop := ∀ b e, μ b = some e → ν b = some e
theorem Map.le_refl (μ : Map) : μ.le μ := fun _ _ h => h
theorem Map.le.trans {μ ν ξ : Map} (h : μ.le ν) (k : ν.le ξ) : μ.le ξ := fun b e x => k b e (h b e x)

def plain : Value → Bool
  | .bool _ | .int _ _ | .string _ | .pointer none | .slice none _ _ | .map none | .nilFunc | .nilIface | .float _ _ | .complex _ _ _ => true
  | _ => false

inductive VRel (μ : Map) : Value → Value → Prop
  | same (v : Value) : plain v = true → VRel μ v v
  | ptr (b o : Nat) (e : Ent) : μ b = some e → VRel μ (.pointer (some ⟨b, o, none⟩)) (.pointer (some ⟨e.blk, e.base + o, none⟩))
  | slice (b o len cap : Nat) (e : Ent) : μ b = some e →
      VRel μ (.slice (some ⟨b, o, none⟩) len cap) (.slice (some ⟨e.blk, e.base + o, none⟩) len (if o + cap * e.s = e.n then cap + e.extra else cap))
  | vague (b o k : Nat) (a : Addr) (c : Nat) : VRel μ (.slice (some ⟨b, o, some k⟩) 0 0) (.slice (some a) 0 c)
  /-- of a slot that is not looked at -/
  | top (v : Value) : (∃ a, v = .pointer (some a)) ∨ (∃ a n c, v = .slice (some a) n c) → VRel μ (.map (some 0)) v
  | yield (b : Nat) (e : Ent) : μ b = some e → VRel μ (.func (.yield b) #[] #[]) (.func (.yield e.blk) #[] #[])
  | func (fn : Fn) (fs fs' cs cs' : Array Value) : (∀ l, fn ≠ .yield l) → fs.toList.length = fs'.toList.length → (∀ (i : Nat) (v v' : Value), fs.toList[i]? = some v → fs'.toList[i]? = some v' → VRel μ v v') →
      cs.toList.length = cs'.toList.length → (∀ (i : Nat) (v v' : Value), cs.toList[i]? = some v → cs'.toList[i]? = some v' → VRel μ v v') → VRel μ (.func fn fs cs) (.func fn fs' cs')
  | iface (t : TypeId) (v v' : Value) : VRel μ v v' → VRel μ (.iface t v) (.iface t v')
  | agg (cs cs' : Array Value) : cs.toList.length = cs'.toList.length → (∀ (i : Nat) (v v' : Value), cs.toList[i]? = some v → cs'.toList[i]? = some v' → VRel μ v v') → VRel μ (.agg cs) (.agg cs')
  | tuple (cs cs' : Array Value) : cs.toList.length = cs'.toList.length → (∀ (i : Nat) (v v' : Value), cs.toList[i]? = some v → cs'.toList[i]? = some v' → VRel μ v v') → VRel μ (.tuple cs) (.tuple cs')

/-- lists, cell by cell -/
def VsRel (μ : Map) (l l' : List Value) : Prop := l.length = l'.length ∧ ∀ (i : Nat) (v v' : Value), l[i]? = some v → l'[i]? = some v' → VRel μ v v'

theorem VRel.mono {μ ν : Map} (h : μ.le ν) {v v' : Value} (r : VRel μ v v') : VRel ν v v' := by
  induction r with
  | same v hv => exact .same v hv
  | ptr b o e he => exact .ptr b o e (h _ _ he)
  | slice b o len cap e he => exact .slice b o len cap e (h _ _ he)
  | vague b o k a c => exact .vague b o k a c
  | top v hv => exact .top v hv
  | yield b e he => exact .yield b e (h _ _ he)
  | func fn fs fs' cs cs' h0 h1 _ h2 _ i1 i2 => exact .func fn fs fs' cs cs' h0 h1 i1 h2 i2
  | iface t v v' _ ih => exact .iface t v v' ih
  | agg cs cs' h1 _ ih => exact .agg cs cs' h1 ih
  | tuple cs cs' h1 _ ih => exact .tuple cs cs' h1 ih

theorem VsRel.mono {μ ν : Map} (h : μ.le ν) {l l' : List Value} (r : VsRel μ l l') : VsRel ν l l' := ⟨r.1, fun i v v' a b => (r.2 i v v' a b).mono h⟩
theorem VsRel.nil (μ : Map) : VsRel μ [] [] := ⟨rfl, fun i v v' a _ => by simp at a⟩
theorem VsRel.cons {μ : Map} {v v' : Value} {l l' : List Value} (h : VRel μ v v') (r : VsRel μ l l') : VsRel μ (v :: l) (v' :: l') :=
  ⟨by simp [r.1], fun i x x' a b => by cases i with
    | zero => simp at a b; subst a; subst b; exact h
    | succ i => simp at a b; exact r.2 i x x' a b⟩
theorem VsRel.single {μ : Map} {v v' : Value} (h : VRel μ v v') : VsRel μ [v] [v'] := .cons h (.nil μ)
theorem VsRel.append {μ : Map} {l l' k k' : List Value} (h : VsRel μ l l') (r : VsRel μ k k') : VsRel μ (l ++ k) (l' ++ k') := by
  refine ⟨by simp [h.1, r.1], fun i x x' a b => ?_⟩
  rw [List.getElem?_append] at a b
  rw [h.1] at a
  split at a
  · rename_i hi; rw [if_pos hi] at b; exact h.2 i x x' a b
  · rename_i hi; rw [if_neg hi] at b; exact r.2 _ x x' a b
theorem VsRel.get {μ : Map} {l l' : List Value} (h : VsRel μ l l') {i : Nat} {v : Value} (hi : l[i]? = some v) : ∃ v', l'[i]? = some v' ∧ VRel μ v v' := by
  have hlt : i < l'.length := by rw [← h.1]; exact (List.getElem?_eq_some_iff.1 hi).1
  exact ⟨l'[i], List.getElem?_eq_getElem hlt, h.2 i v _ hi (List.getElem?_eq_getElem hlt)⟩
theorem VsRel.take {μ : Map} {l l' : List Value} (h : VsRel μ l l') (n : Nat) : VsRel μ (l.take n) (l'.take n) := by
  refine ⟨by simp [h.1], fun i x x' a b => ?_⟩
  rw [List.getElem?_take] at a b
  split at a
  · rename_i hi; rw [if_pos hi] at b; exact h.2 i x x' a b
  · simp at a
theorem VsRel.drop {μ : Map} {l l' : List Value} (h : VsRel μ l l') (n : Nat) : VsRel μ (l.drop n) (l'.drop n) := by
  refine ⟨by simp [h.1], fun i x x' a b => ?_⟩
  rw [List.getElem?_drop] at a b
  exact h.2 _ x x' a b
theorem VsRel.of_plain {μ : Map} {l : List Value} (h : l.all plain = true) : VsRel μ l l :=
  ⟨rfl, fun i v v' a b => by rw [a] at b; cases b; exact (.same v (List.all_eq_true.1 h v (List.mem_of_getElem? a)))⟩

theorem undef_rel (μ : Map) : VRel μ undef undef := .tuple #[] #[] rfl (fun i v v' a _ => by simp at a)

def look (ts : T Value) (i : Nat) : Value := match ts.get i with
  | some v => v
  | none => undef

def TsRel (μ : Map) (ts : T Value) (a : Act) : Prop := ∀ t, VRel μ (look ts t) (a.tmps.getD t undef)

theorem TsRel.mono {μ ν : Map} (h : μ.le ν) {ts : T Value} {a : Act} (r : TsRel μ ts a) : TsRel ν ts a := fun t => (r t).mono h

/-- which code of the model's is told by which -/
abbrev CRel := Nat → Code → ACode → Prop

def codeX : AExit → Code
  | .normal => .skip
  | .exit id => .exit id
  | .ret => .ret

def stX : Nat → LoopState
  | 0 => .ready
  | 1 => .busy
  | 2 => .done
  | _ => .exhausted

/-- what is not to be turned: all below n; these blocks -/
structure Fr where
  n : Nat
  z : Nat → Option Obj

def Fr.own (B : Fr) (i : Nat) : Prop := B.n ≤ i ∧ B.z i = none

/-- how the record of a loop stands in the world -/
structure LRel (C : CRel) (μ : Map) (B : Fr) (w : World) (k : LRec) (e : Ent) : Prop where
  old : B.own e.blk
  rcd : ∃ r : Loop, w.heap[e.blk]? = some (.loop r) ∧ r.state = stX k.st ∧ r.pending = k.pend.map codeX ∧ r.params.toList = k.ps ∧ r.tmps.size = k.n ∧ TsRel μ k.ts { tmps := r.tmps, defers := [] } ∧ C k.n r.assign k.asg ∧ C k.n r.body k.body

structure AuxOk (C : CRel) (μ : Map) (L : T LRec) (M : List Nat) (B : Fr) (w : World) : Prop where
  loop : ∀ b k, L.get b = some k → ∃ e, μ b = some e ∧ LRel C μ B w k e
  lapart : ∀ b b' k k' e e', L.get b = some k → L.get b' = some k' → b ≠ b' → μ b = some e → μ b' = some e' → e.blk ≠ e'.blk
  mark : ∀ m ∈ M, ∃ e, μ m = some e ∧ B.own e.blk ∧ w.heap[e.blk]? = some (.deferred (some []))
  mapart : M.Pairwise fun m m' => ∀ e e', μ m = some e → μ m' = some e' → e.blk ≠ e'.blk

def isRow : Obj → Bool
  | .cells _ _ _ => true
  | _ => false

/-- whatever is no row of cells lies as it lay -/
def Keeps (w w' : World) : Prop := ∀ (i : Nat) (o : Obj), w.heap[i]? = some o → isRow o = false → w'.heap[i]? = some o

theorem AuxOk.keep {C : CRel} {μ μ' : Map} {L : T LRec} {M : List Nat} {B : Fr} {w w' : World} (x : AuxOk C μ L M B w) (hle : μ.le μ') (hk : Keeps w w') : AuxOk C μ' L M B w' := by
  refine ⟨fun b k hb => ?_, fun b b' k k' e e' hb hb' hne he he' => ?_, fun m hm => ?_, ?_⟩
  · obtain ⟨e, he, h0, r, h1, h2, h3, h4, h5, h6, h7, h8⟩ := x.loop b k hb
    exact ⟨e, hle _ _ he, h0, r, hk _ _ h1 rfl, h2, h3, h4, h5, h6.mono hle, h7, h8⟩
  · obtain ⟨f, hf, _⟩ := x.loop b k hb
    obtain ⟨f', hf', _⟩ := x.loop b' k' hb'
    rw [hle _ _ hf] at he; cases he
    rw [hle _ _ hf'] at he'; cases he'
    exact x.lapart b b' k k' _ _ hb hb' hne hf hf'
  · obtain ⟨e, he, h0, h1⟩ := x.mark m hm
    exact ⟨e, hle _ _ he, h0, hk _ _ h1 rfl⟩
  · refine x.mapart.imp_of_mem ?_
    intro m m' hm hm' h e e' he he'
    obtain ⟨f, hf, _⟩ := x.mark m hm
    obtain ⟨f', hf', _⟩ := x.mark m' hm'
    rw [hle _ _ hf] at he; cases he
    rw [hle _ _ hf'] at he'; cases he'
    exact h _ _ hf hf'

/-- how one block of the heap stands in the world -/
structure BRel (μ : Map) (B : Fr) (w : World) (k : Blk) (e : Ent) : Prop where
  s : e.s = k.s
  n : e.n = k.n
  len : k.cells.length ≤ k.n
  grown : k.grown = false → e.extra = 0
  own : k.own = true → B.own e.blk ∧ e.base = 0 ∧ ∃ cc el, w.heap[e.blk]? = some (.cells cc el (0, 0)) ∧ cc.size = k.n + e.extra * k.s
  ro : k.own = false → e.blk < B.n
  cell : ∀ (i : Nat) (v : Value), k.cells[i]? = some v → ∃ cc el fr v', w.heap[e.blk]? = some (.cells cc el fr) ∧ cc[e.base + i]? = some v' ∧ VRel μ v v'

structure Rel (C : CRel) (μ : Map) (h : Heap) (B : Fr) (w0 w : World) : Prop where
  below : Below B.n w0 w
  size : B.n ≤ w.heap.size
  zk : ∀ i o, B.z i = some o → w.heap[i]? = some o
  fresh : ∀ b e, μ b = some e → b < h.next
  blk : ∀ b k, h.blks.get b = some k → ∃ e, μ b = some e ∧ BRel μ B w k e
  apart : ∀ b b' k k' e e', h.blks.get b = some k → h.blks.get b' = some k' → b ≠ b' → k.own = true → k'.own = true → k.cells ≠ [] → k'.cells ≠ [] → μ b = some e → μ b' = some e' → e.blk ≠ e'.blk
  aux : AuxOk C μ h.loops h.marks B w

end
end Go.Proofs.Ytedldiimhbebdaa.Ai
