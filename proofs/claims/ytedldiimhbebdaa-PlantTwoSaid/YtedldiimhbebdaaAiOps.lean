/- The operations of a run over the abstract heap, each held against the model's. -/
import Derived.Test.YtedldiimhbebdaaAiMem
namespace Go.Proofs.Ytedldiimhbebdaa.Ai
noncomputable section
open Go.RowKit

def ev (ts : T Value) : Opd → Value
  | .t i => look ts i
  | .c v => v

def evO (ts : T Value) : Option Opd → Option Value
  | some x => some (ev ts x)
  | none => none

/-- a value that stands for itself -/
def selfOk : Value → Bool
  | .agg cs => cs.toList.all plain
  | .func (.func _) fs cs => fs.toList.isEmpty && cs.toList.isEmpty
  | v => plain v

theorem VRel.self {v : Value} (h : selfOk v = true) (μ : Map) : VRel μ v v := by
  have hp : ∀ l : List Value, l.all plain = true → ∀ (i : Nat) (x x' : Value), l[i]? = some x → l[i]? = some x' → VRel μ x x' := fun l hl i x x' a b => (VsRel.of_plain (μ := μ) hl).2 i x x' a b
  have he : ∀ l : List Value, l.isEmpty = true → ∀ (i : Nat) (x x' : Value), l[i]? = some x → l[i]? = some x' → VRel μ x x' := fun l hl i x x' a _ => by
    have : l = [] := by simpa using hl
    subst this; simp at a
  cases v with
  | agg cs => exact .agg cs cs rfl (hp _ h)
  | func fn fs cs =>
    cases fn <;> simp only [selfOk, plain, Bool.and_eq_true] at h <;> first | cases h; done | exact .func _ fs fs cs cs (by simp) rfl (he _ h.1) rfl (he _ h.2) | (cases h)
  | _ => first | exact .same _ h | (cases h)

def compOpd : Operand → Option Opd
  | .tmp t => some (.t t)
  | .const v => bif selfOk v then some (.c v) else none
  | .func f => some (.c (.func (.func f) #[] #[]))
  | .global _ => none

theorem compOpd_rel {μ : Map} {ts : T Value} {a : Act} (r : TsRel μ ts a) {x : Operand} {y : Opd} (h : compOpd x = some y) : VRel μ (ev ts y) (a.eval x) := by
  cases x with
  | tmp t => simp only [compOpd, Option.some.injEq] at h; subst h; exact r t
  | const v =>
    simp only [compOpd] at h
    cases hs : selfOk v with
    | false => rw [hs] at h; simp at h
    | true => rw [hs] at h; simp only [cond_true, Option.some.injEq] at h; subst h; exact VRel.self hs μ
  | func f => simp only [compOpd, Option.some.injEq] at h; subst h; exact VRel.self rfl μ
  | global g => cases h

theorem VRel.of_plain {μ : Map} {v v' : Value} (h : VRel μ v v') (hp : plain v = true) : v' = v := by
  cases h <;> first | rfl | (simp [plain] at hp)
theorem VRel.int {μ : Map} {k : IntKind} {n : Int} {v' : Value} (h : VRel μ (.int k n) v') : v' = .int k n := h.of_plain rfl
theorem VRel.bool {μ : Map} {b : Bool} {v' : Value} (h : VRel μ (.bool b) v') : v' = .bool b := h.of_plain rfl
theorem VRel.string {μ : Map} {s : ByteArray} {v' : Value} (h : VRel μ (.string s) v') : v' = .string s := h.of_plain rfl

theorem VRel.ptr_inv {μ : Map} {b o : Nat} {v' : Value} (h : VRel μ (.pointer (some ⟨b, o, none⟩)) v') : ∃ e, μ b = some e ∧ v' = .pointer (some ⟨e.blk, e.base + o, none⟩) := by
  cases h with
  | same _ hp => simp [plain] at hp
  | ptr b o e he => exact ⟨e, he, rfl⟩

theorem VRel.slice_inv {μ : Map} {b o len cap : Nat} {v' : Value} (h : VRel μ (.slice (some ⟨b, o, none⟩) len cap) v') :
    ∃ e, μ b = some e ∧ v' = .slice (some ⟨e.blk, e.base + o, none⟩) len (if o + cap * e.s = e.n then cap + e.extra else cap) := by
  cases h with
  | same _ hp => simp [plain] at hp
  | slice b o len cap e he => exact ⟨e, he, rfl⟩

theorem VRel.agg_inv {μ : Map} {cs : Array Value} {v' : Value} (h : VRel μ (.agg cs) v') : ∃ cs', v' = .agg cs' ∧ VsRel μ cs.toList cs'.toList := by
  cases h with
  | same _ hp => simp [plain] at hp
  | agg _ cs' h1 h2 => exact ⟨cs', rfl, h1, h2⟩

theorem VRel.tuple_inv {μ : Map} {cs : Array Value} {v' : Value} (h : VRel μ (.tuple cs) v') : ∃ cs', v' = .tuple cs' ∧ VsRel μ cs.toList cs'.toList := by
  cases h with
  | same _ hp => simp [plain] at hp
  | tuple _ cs' h1 h2 => exact ⟨cs', rfl, h1, h2⟩

theorem cells_rel {μ : Map} {v v' : Value} (h : VRel μ v v') : VsRel μ v.cells.toList v'.cells.toList := by
  cases h with
  | agg cs cs' h1 h2 => exact ⟨h1, h2⟩
  | same v hv => exact VsRel.single (.same v hv) |> fun x => by cases v <;> first | exact x | (simp [plain] at hv)
  | ptr b o e he => exact VsRel.single (.ptr b o e he)
  | slice b o len cap e he => exact VsRel.single (.slice b o len cap e he)
  | vague b o k a c => exact VsRel.single (.vague b o k a c)
  | func fn fs fs' cs cs' h0 h1 h2 h3 h4 => exact VsRel.single (.func fn fs fs' cs cs' h0 h1 h2 h3 h4)
  | yield b e he => exact VsRel.single (.yield b e he)
  | top v hv => rcases hv with ⟨a, rfl⟩ | ⟨a, n, c, rfl⟩ <;> exact VsRel.single (.top _ (by simp))
  | iface t v v' h => exact VsRel.single (.iface t v v' h)
  | tuple cs cs' h1 h2 => exact VsRel.single (.tuple cs cs' h1 h2)

/-- wrapped, quick where nothing wraps -/
def wrapF (k : IntKind) (n : Int) : Int := match k, n with
  | .i64, .ofNat m => bif Nat.blt m 9223372036854775808 then .ofNat m else IntKind.i64.wrap n
  | _, _ => k.wrap n

theorem wrapF_eq (k : IntKind) (n : Int) : wrapF k n = k.wrap n := by
  unfold wrapF
  split
  · rename_i m
    cases h : Nat.blt m 9223372036854775808 with
    | false => rfl
    | true =>
      have hm : m < 9223372036854775808 := by
        have : Nat.ble (m + 1) 9223372036854775808 = true := h
        have := Nat.le_of_ble_eq_true this; omega
      simp only [cond_true]
      exact (IntWalk.i64_in _ (by simp; omega)).symm
  · rfl

def abin (op : BinOp) (bt : Bool) (x y : Value) : Option Value := match x, y with
  | .int k a, .int k' b => match op with
    | .shl => bif decide (b < 0) then none else some (.int k (wrapF k (a * 2 ^ (min b.toNat k.bits))))
    | .shr => bif decide (b < 0) then none else some (.int k (a.fdiv (2 ^ (min b.toNat k.bits))))
    | _ => bif decide (k = k') then (match op with
      | .add => some (.int k (wrapF k (a + b)))
      | .sub => some (.int k (wrapF k (a - b)))
      | .mul => some (.int k (wrapF k (a * b)))
      | .quo => bif decide (b = 0) then none else some (.int k (wrapF k (a.tdiv b)))
      | .rem => bif decide (b = 0) then none else some (.int k (a.tmod b))
      | .and => some (.int k (k.wrap (BitVec.ofInt k.bits a &&& BitVec.ofInt k.bits b).toNat))
      | .or => some (.int k (k.wrap (BitVec.ofInt k.bits a ||| BitVec.ofInt k.bits b).toNat))
      | .xor => some (.int k (k.wrap (BitVec.ofInt k.bits a ^^^ BitVec.ofInt k.bits b).toNat))
      | .andNot => some (.int k (k.wrap (BitVec.ofInt k.bits a &&& ~~~(BitVec.ofInt k.bits b)).toNat))
      | .eql => some (.bool (a == b))
      | .neq => some (.bool (a != b))
      | .lss => some (.bool (decide (a < b)))
      | .leq => some (.bool (decide (a ≤ b)))
      | .gtr => some (.bool (decide (a > b)))
      | .geq => some (.bool (decide (a ≥ b)))
      | _ => none) else none
  | .bool a, .bool b => bif bt then (match op with
      | .eql => some (.bool (a == b))
      | .neq => some (.bool (!(a == b)))
      | _ => none) else none
  | .string a, .string b => match op with
      | .eql => some (.bool (a.toList == b.toList))
      | .neq => some (.bool (!(a.toList == b.toList)))
      | .add => bif Nat.ble (a.size + b.size) 1000000000 then some (.string (a ++ b)) else none
      | _ => none
  | _, _ => none

theorem guard_int {P : Program} {w : World} (op : BinOp) (t : TypeId) (X Y : Operand) (k k' : IntKind) (a b : Int) : (eqGuard op t X Y (.int k a) (.int k' b)).run P w = .ok () w := by cases op <;> rfl
theorem guard_bool {P : Program} {w : World} (op : BinOp) (t : TypeId) (X Y : Operand) (a b : Bool) : (eqGuard op t X Y (.bool a) (.bool b)).run P w = .ok () w := by cases op <;> rfl
theorem guard_string {P : Program} {w : World} (op : BinOp) (t : TypeId) (X Y : Operand) (a b : ByteArray) : (eqGuard op t X Y (.string a) (.string b)).run P w = .ok () w := by cases op <;> rfl

theorem abin_run {P : Program} {w : World} {op : BinOp} {bt : Bool} {t : TypeId} {x y v : Value} (h : abin op bt x y = some v) (hb : bt = true → P.underlying t = some .bool) (X Y : Operand) :
    (do eqGuard op t X Y x y; binOp op t x y : Sem Value).run P w = .ok v w ∧ plain v = true ∧ plain x = true ∧ plain y = true := by
  unfold abin at h
  split at h
  · rename_i k a k' b
    simp only [Sem.run_bind, guard_int, Result.andThen_ok]
    cases op with
    | shl =>
      simp only at h
      cases hb0 : decide (b < 0) with
      | true => rw [hb0] at h; cases h
      | false =>
        rw [hb0] at h; simp only [cond_false, Option.some.injEq] at h; subst h
        have : ¬ b < 0 := of_decide_eq_false hb0
        refine ⟨?_, rfl, rfl, rfl⟩
        simp [binOp, Op.shift, this, wrapF_eq]
    | shr =>
      simp only at h
      cases hb0 : decide (b < 0) with
      | true => rw [hb0] at h; cases h
      | false =>
        rw [hb0] at h; simp only [cond_false, Option.some.injEq] at h; subst h
        have : ¬ b < 0 := of_decide_eq_false hb0
        refine ⟨?_, rfl, rfl, rfl⟩
        simp [binOp, Op.shift, this]
    | _ =>
      simp only at h
      cases hk : decide (k = k') with
      | false => rw [hk] at h; cases h
      | true =>
        have hk := of_decide_eq_true hk
        subst hk
        simp only [decide_true, cond_true] at h
        first
          | (simp only [Option.some.injEq] at h; subst h; exact ⟨by simp [binOp, Op.intArith, Op.intBits, Op.intCmp, wrapF_eq], rfl, rfl, rfl⟩)
          | (cases hb0 : decide (b = 0) with
             | true => rw [hb0] at h; cases h
             | false =>
               rw [hb0] at h; simp only [cond_false, Option.some.injEq] at h; subst h
               have : ¬ b = 0 := of_decide_eq_false hb0
               exact ⟨by simp [binOp, Op.intDiv, this, wrapF_eq], rfl, rfl, rfl⟩)
          | cases h
  · rename_i a b
    simp only [Sem.run_bind, guard_bool, Result.andThen_ok]
    cases bt with
    | false => cases h
    | true =>
      have hu := hb rfl
      simp only [cond_true] at h
      cases op <;> first | (cases h; done) | (simp only [Option.some.injEq] at h; subst h; exact ⟨by simp [binOp, run_equal_bool _ _ _ _ hu], rfl, rfl, rfl⟩)
  · rename_i a b
    simp only [Sem.run_bind, guard_string, Result.andThen_ok]
    cases op <;> first
      | (cases h; done)
      | (simp only [Option.some.injEq] at h; subst h; exact ⟨by simp [binOp, Op.stringOp], rfl, rfl, rfl⟩)
      | (cases hl : Nat.ble (a.size + b.size) 1000000000 with
         | false => rw [hl] at h; cases h
         | true =>
           rw [hl] at h; simp only [cond_true, Option.some.injEq] at h; subst h
           have hl := ble_true hl
           have : ¬ ((a.size + b.size : Nat) : Int) > IntKind.i64.max := by simp [IntKind.max, IntKind.bits, IntKind.signed]; omega
           exact ⟨by simp only [binOp, Op.stringOp]; rw [if_neg this]; rfl, rfl, rfl, rfl⟩)
  · cases h

def isNilV : Nat → Value → Option Bool
  | 0, .pointer p => some p.isNone
  | 1, .slice p _ _ => some p.isNone
  | 2, .nilFunc => some true
  | 2, .func _ _ _ => some false
  | 3, .nilIface => some true
  | 3, .iface _ _ => some false
  | _, _ => none

def fillA : List Value → List (Nat × Nat × Value) → Option (List Value)
  | cells, [] => some cells
  | cells, (off, size, v) :: r => bif Nat.beq v.cells.toList.length size && Nat.ble (off + size) cells.length then fillA (splice cells off v.cells.toList) r else none

def evP (ts : T Value) : List (Nat × Nat × Opd) → List (Nat × Nat × Value)
  | [] => []
  | (a, b, x) :: r => (a, b, ev ts x) :: evP ts r

def eqE : ET → Value → Value → Option Bool
  | .int, .int k a, .int k' b => bif decide (k = k') then some (a == b) else none
  | .bool, .bool a, .bool b => some (a == b)
  | .str, .string a, .string b => some (a.toList == b.toList)
  | .done, .agg _, .agg _ => some true
  | .fld true off size sub rest, .agg xs, .agg ys => bif Nat.ble (off + size) xs.toList.length && Nat.ble (off + size) ys.toList.length then
      (match eqE sub (.agg ((xs.toList.drop off).take size).toArray) (.agg ((ys.toList.drop off).take size).toArray) with
        | some true => eqE rest (.agg xs) (.agg ys)
        | some false => some false
        | none => none) else none
  | .fld false off _ sub rest, .agg xs, .agg ys => (match xs.toList[off]?, ys.toList[off]? with
      | some a, some b => (match eqE sub a b with
        | some true => eqE rest (.agg xs) (.agg ys)
        | some false => some false
        | none => none)
      | _, _ => none)
  | _, _, _ => none

def evs (ts : T Value) : List Opd → List Value
  | [] => []
  | x :: r => ev ts x :: evs ts r

/-- is it from 0 on, and below? -/
def inB (n : Int) (len : Nat) : Bool := match n with
  | .ofNat m => Nat.blt m len
  | .negSucc _ => false

theorem inB_eq (n : Int) (len : Nat) : inB n len = (decide (0 ≤ n) && decide (n < len)) := by
  cases n with
  | ofNat m =>
    simp only [inB]
    have h0 : decide ((0 : Int) ≤ Int.ofNat m) = true := decide_eq_true (Int.natCast_nonneg m)
    rw [h0, Bool.true_and, Bool.eq_iff_iff, decide_eq_true_eq]
    constructor
    · intro h; have := Nat.le_of_ble_eq_true h; simp; omega
    · intro h; simp at h; exact Nat.ble_eq_true_of_le h
  | negSucc m =>
    simp only [inB]
    have : ¬ ((0 : Int) ≤ Int.negSucc m) := by omega
    simp [this]

def isI64 : IntKind → Bool
  | .i64 => true
  | _ => false

theorem isI64_eq {k : IntKind} (h : isI64 k = true) : k = .i64 := by cases k <;> first | rfl | cases h

/-- both from 0 on, 64 bits: the quick way, where there is one -/
def natF (op : BinOp) : Nat → Nat → Option Value := match op with
  | .add => fun m n => bif Nat.blt (Nat.add m n) 9223372036854775808 then some (.int .i64 (.ofNat (Nat.add m n))) else none
  | .sub => fun m n => bif Nat.ble n m && Nat.blt m 9223372036854775808 then some (.int .i64 (.ofNat (Nat.sub m n))) else none
  | .mul => fun m n => bif Nat.blt (Nat.mul m n) 9223372036854775808 then some (.int .i64 (.ofNat (Nat.mul m n))) else none
  | .eql => fun m n => some (.bool (Nat.beq m n))
  | .neq => fun m n => some (.bool (!(Nat.beq m n)))
  | .lss => fun m n => some (.bool (Nat.blt m n))
  | .leq => fun m n => some (.bool (Nat.ble m n))
  | .gtr => fun m n => some (.bool (Nat.blt n m))
  | .geq => fun m n => some (.bool (Nat.ble n m))
  | _ => fun _ _ => none

def abinF (op : BinOp) (bt : Bool) (x y : Value) : Option Value := match x, y with
  | .int k a, .int k' b => bif isI64 k && isI64 k' then (match a, b with
      | .ofNat m, .ofNat n => (match natF op m n with
        | some v => some v
        | none => abin op bt x y)
      | _, _ => abin op bt x y) else abin op bt x y
  | _, _ => abin op bt x y

theorem beq_dec (m n : Nat) : Nat.beq m n = (Int.ofNat m == Int.ofNat n) := by
  rcases beq_cases m n with ⟨a, b⟩ | ⟨a, b⟩
  · subst b; rw [a]; simp
  · rw [a]; symm; rw [beq_eq_false_iff_ne]; intro h; exact b (Int.ofNat.inj h)
theorem blt_dec (m n : Nat) : Nat.blt m n = decide (Int.ofNat m < Int.ofNat n) := by
  rw [Bool.eq_iff_iff, decide_eq_true_eq]
  constructor
  · intro h; have := Nat.le_of_ble_eq_true h; simp; omega
  · intro h; simp at h; exact Nat.ble_eq_true_of_le h
theorem ble_dec (m n : Nat) : Nat.ble m n = decide (Int.ofNat m ≤ Int.ofNat n) := by
  rw [Bool.eq_iff_iff, decide_eq_true_eq]
  constructor
  · intro h; have := Nat.le_of_ble_eq_true h; simp; omega
  · intro h; simp at h; exact Nat.ble_eq_true_of_le h

theorem wrapF_nat {m : Nat} (h : Nat.blt m 9223372036854775808 = true) : wrapF .i64 (Int.ofNat m) = Int.ofNat m := by simp only [wrapF, h, cond_true]

theorem natF_eq {op : BinOp} {m n : Nat} {v : Value} (bt : Bool) (h : natF op m n = some v) : abin op bt (.int .i64 (.ofNat m)) (.int .i64 (.ofNat n)) = some v := by
  cases op <;> simp only [natF] at h
  case add =>
    cases hc : Nat.blt (Nat.add m n) 9223372036854775808 with
    | false => rw [hc] at h; cases h
    | true =>
      rw [hc] at h; simp only [cond_true] at h; rw [← h]
      have := wrapF_nat hc
      simp only [abin, decide_true, cond_true]
      exact congrArg (fun x => some (Value.int .i64 x)) this
  case sub =>
    cases hc : (Nat.ble n m && Nat.blt m 9223372036854775808) with
    | false => rw [hc] at h; cases h
    | true =>
      rw [hc] at h; simp only [cond_true] at h; rw [← h]
      simp only [Bool.and_eq_true] at hc
      have c1 := Nat.le_of_ble_eq_true hc.1
      have c2 := Nat.le_of_ble_eq_true hc.2
      have e : Int.ofNat m - Int.ofNat n = Int.ofNat (Nat.sub m n) := by
        show (m : Int) - (n : Int) = ((m - n : Nat) : Int); omega
      have := wrapF_nat (m := Nat.sub m n) (Nat.ble_eq_true_of_le (by show m - n + 1 ≤ _; omega))
      simp only [abin, decide_true, cond_true, e]
      exact congrArg (fun x => some (Value.int .i64 x)) this
  case mul =>
    cases hc : Nat.blt (Nat.mul m n) 9223372036854775808 with
    | false => rw [hc] at h; cases h
    | true =>
      rw [hc] at h; simp only [cond_true] at h; rw [← h]
      have := wrapF_nat hc
      simp only [abin, decide_true, cond_true]
      exact congrArg (fun x => some (Value.int .i64 x)) this
  case eql => rw [← h]; simp only [abin, decide_true, cond_true, beq_dec]
  case neq => rw [← h]; simp only [abin, decide_true, cond_true, beq_dec]; rfl
  case lss => rw [← h]; simp only [abin, decide_true, cond_true, blt_dec]
  case leq => rw [← h]; simp only [abin, decide_true, cond_true, ble_dec]
  case gtr => rw [← h]; simp only [abin, decide_true, cond_true, blt_dec]
  case geq => rw [← h]; simp only [abin, decide_true, cond_true, ble_dec]
  all_goals cases h

theorem abinF_eq (op : BinOp) (bt : Bool) (x y : Value) : abinF op bt x y = abin op bt x y := by
  unfold abinF
  split
  · rename_i k a k' b
    cases hk : (isI64 k && isI64 k') with
    | false => rfl
    | true =>
      simp only [Bool.and_eq_true] at hk
      have e1 := isI64_eq hk.1
      have e2 := isI64_eq hk.2
      subst e1; subst e2
      simp only [cond_true]
      split
      · split
        · rename_i v hv; exact (natF_eq bt hv).symm
        · rfl
      · rfl
  · rfl

def popQ (q : POp) : T Value → Option Value := match q with
  | .mov x => fun ts => some (ev ts x)
  | .pick c a b => fun ts => match ev ts c with
    | .bool t => some (bif t then ev ts a else ev ts b)
    | _ => none
  | .bin op bt x y => fun ts => abinF op bt (ev ts x) (ev ts y)
  | .eqNil kind neg x => fun ts => match isNilV kind (ev ts x) with
    | some b => some (.bool (bif neg then !b else b))
    | none => none
  | .not x => fun ts => match ev ts x with
    | .bool b => some (.bool (!b))
    | _ => none
  | .neg x => fun ts => match ev ts x with
    | .int k n => some (.int k (wrapF k (0 - n)))
    | _ => none
  | .conv k x => fun ts => match ev ts x with
    | .int _ n => some (.int k (wrapF k n))
    | _ => none
  | .fieldAddr off x => fun ts => match ev ts x with
    | .pointer (some ⟨b, o, none⟩) => some (.pointer (some ⟨b, o + off, none⟩))
    | _ => none
  | .field1 off x => fun ts => match ev ts x with
    | .agg cs => cs.toList[off]?
    | _ => none
  | .fieldN off n x => fun ts => match ev ts x with
    | .agg cs => bif Nat.ble (off + n) cs.toList.length then some (.agg ((cs.toList.drop off).take n).toArray) else none
    | _ => none
  | .idxS s x i => fun ts => match ev ts x, ev ts i with
    | .slice (some ⟨b, o, none⟩) len _, .int _ n => bif inB n len then some (.pointer (some ⟨b, o + n.toNat * s, none⟩)) else none
    | _, _ => none
  | .idxA len s x i => fun ts => match ev ts x, ev ts i with
    | .pointer (some ⟨b, o, none⟩), .int _ n => bif inB n len then some (.pointer (some ⟨b, o + n.toNat * s, none⟩)) else none
    | _, _ => none
  | .idxStr x i => fun ts => match ev ts x, ev ts i with
    | .string s, .int _ n => bif decide (0 ≤ n) then (match s.data.toList[n.toNat]? with
      | some b => some (.int .u8 b.toNat)
      | none => none) else none
    | _, _ => none
  | .ext i x => fun ts => match ev ts x with
    | .tuple cs => cs.toList[i]?
    | _ => none
  | .len str x => fun ts => match ev ts x with
    | .slice _ n _ => bif str then none else some (.int .i64 n)
    | .string s => bif str then some (.int .i64 s.size) else none
    | _ => none
  | .nilchk x => fun ts => match ev ts x with
    | .pointer (some a) => some (.pointer (some a))
    | .iface t v => some (.iface t v)
    | .func (.func f) a b => some (.func (.func f) a b)
    | _ => none
  | .build zero parts => fun ts => match fillA zero (evP ts parts) with
    | some cs => some (.agg cs.toArray)
    | none => none
  | .mx x y => fun ts => match ev ts x, ev ts y with
    | .int k a, .int _ b => some (.int k (bif decide (b > a) then b else a))
    | _, _ => none
  | .mn x y => fun ts => match ev ts x, ev ts y with
    | .int k a, .int _ b => some (.int k (bif decide (b < a) then b else a))
    | _, _ => none
  | .eqS neg et x y => fun ts => match eqE et (ev ts x) (ev ts y) with
    | some b => some (.bool (bif neg then !b else b))
    | none => none
  | .mkFunc f fs cs => fun ts => some (.func (.func f) (evs ts fs).toArray (evs ts cs).toArray)
  | .mkIface t x => fun ts => some (.iface t (ev ts x))
  | .tyAs t zero x => fun ts => match ev ts x with
    | .iface u v => bif Nat.beq u t then some (.tuple #[v, .bool true]) else some (.tuple #[zero, .bool false])
    | .nilIface => some (.tuple #[zero, .bool false])
    | _ => none
  | .idxV1 len s x i => fun ts => match ev ts x, ev ts i with
    | .agg cs, .int _ n => bif inB n len then cs.toList[n.toNat * s]? else none
    | _, _ => none
  | .idxVN len s x i => fun ts => match ev ts x, ev ts i with
    | .agg cs, .int _ n => bif inB n len && Nat.ble (n.toNat * s + s) cs.toList.length then some (.agg ((cs.toList.drop (n.toNat * s)).take s).toArray) else none
    | _, _ => none
  | .bad => fun _ => none

def pop (ts : T Value) (q : POp) : Option Value := popQ q ts

def asNat : Value → Option Nat
  | .int _ n => bif decide (0 ≤ n) then some n.toNat else none
  | _ => none

def asNO (ts : T Value) (d : Nat) : Option Opd → Option Nat
  | some l => asNat (ev ts l)
  | none => some d

def ropQ (q : ROp) : T Value → Heap → Option Value := match q with
  | .load1 x => fun ts h => match ev ts x with
    | .pointer (some ⟨b, o, none⟩) => h.rd b o
    | _ => none
  | .loadN n x => fun ts h => match ev ts x with
    | .pointer (some ⟨b, o, none⟩) => (match h.rds b o n with
      | some l => some (.agg l.toArray)
      | none => none)
    | _ => none
  | .slice s x lo hi mx => fun ts h => match asNO ts 0 lo with
    | none => none
    | some l => match ev ts x with
    | .slice base len cap => (match asNO ts len hi, asNO ts cap mx with
      | some hh, some m => bif Nat.ble l hh && Nat.ble hh m && Nat.ble m cap && (mx.isNone || hi.isSome) then (match base with
        | none => some (.slice none (hh - l) (m - l))
        | some ⟨b, o, none⟩ => (match h.blks.get b with
          | some k => bif Nat.beq k.s s then
              (bif Nat.beq m l then some (.slice (some ⟨b, o, some 0⟩) 0 0) else bif mx.isSome && (k.grown && Nat.beq (o + m * s) k.n) then none else some (.slice (some ⟨b, o + l * s, none⟩) (hh - l) (m - l)))
            else none
          | none => none)
        | some ⟨b, o, some q⟩ => bif Nat.beq len 0 && Nat.beq cap 0 then some (.slice (some ⟨b, o, some q⟩) 0 0) else none) else none
      | _, _ => none)
    | _ => none
  | .cap x => fun ts h => match ev ts x with
    | .slice none _ c => some (.int .i64 c)
    | .slice (some ⟨b, o, none⟩) _ cap => (match h.blks.get b with
      | some k => bif k.grown && Nat.beq (o + cap * k.s) k.n then none else some (.int .i64 cap)
      | none => none)
    | _ => none

def rop (ts : T Value) (h : Heap) (q : ROp) : Option Value := ropQ q ts h

def rep (zero : List Value) : Nat → List Value
  | 0 => []
  | n + 1 => zero ++ rep zero n

def sevN (s n : Nat) : Nat := n * s

/-- append: so many elements more behind a slice -/
def appA (h : Heap) (s bytes : Nat) (base : Option Addr) (len cap : Nat) (news : List Value) (n : Nat) : Option (Value × Heap) :=
  bif Nat.ble ((len + n) * bytes) 1099511627776 && Nat.ble (len + n) 1099511627776 && Nat.ble 1 s && news.all scalar then (match base with
  | none => bif Nat.beq n 0 then (bif Nat.ble len cap then some (.slice none len cap, h) else none) else
      bif Nat.beq len 0 && Nat.beq cap 0 then some (.slice (some ⟨h.next, 0, none⟩) n n, h.new { cells := news, n := n * s, s := s, own := true, grown := true }) else none
  | some ⟨b, o, none⟩ => (match h.blks.get b with
    | none => none
    | some k => bif !(Nat.beq k.s s) then none else
      bif Nat.ble (len + n) cap then
        (bif Nat.beq n 0 then some (.slice base len cap, h) else
        match h.wrs b (o + len * s) news with
        | some h' => some (.slice base (len + n) cap, h')
        | none => none)
      else (match h.rds b o (len * s) with
        | none => none
        | some olds =>
          let k' : Blk := { cells := olds ++ news, n := (len + n) * s, s := s, own := true, grown := true }
          bif k.grown && Nat.beq (o + cap * s) k.n then
            (bif Nat.beq o 0 && k.own && olds.all scalar && Nat.ble 1 k.cells.length then some (.slice (some ⟨h.next, 0, none⟩) (len + n) (len + n), (h.kill b k).new k') else none)
          else some (.slice (some ⟨h.next, 0, none⟩) (len + n) (len + n), h.new k')))
  | some ⟨b, o, some q⟩ => bif Nat.beq n 0 && Nat.beq len 0 && Nat.beq cap 0 then some (.slice (some ⟨b, o, some q⟩) 0 0, h) else none) else none

def srcCells (h : Heap) (s : Nat) : Value → Option (List Value × Nat)
  | .slice none n _ => bif Nat.beq n 0 then some ([], 0) else none
  | .slice (some ⟨b, o, none⟩) n _ => (match h.rds b o (n * s) with
    | some l => some (l, n)
    | none => none)
  | .slice (some ⟨_, _, some _⟩) 0 0 => some ([], 0)
  | _ => none

def eopQ (q : EOp) : T Value → Heap → Option (Value × Heap) := match q with
  | .store n a x => fun ts h => match ev ts a with
    | .pointer (some ⟨b, o, none⟩) => (let vs := (ev ts x).cells.toList
      bif Nat.beq vs.length n && Nat.ble 1 n then (match h.wrs b o vs with
        | some h' => some (undef, h')
        | none => none) else none)
    | _ => none
  | .box n x => fun ts h => (let vs := (ev ts x).cells.toList
      bif Nat.beq vs.length n then some (.pointer (some ⟨h.next, 0, none⟩), h.new { cells := vs, n := n, s := n, own := true, grown := false }) else none)
  | .alloc zero => fun _ h => some (.pointer (some ⟨h.next, 0, none⟩), h.new { cells := zero, n := zero.length, s := zero.length, own := true, grown := false })
  | .buildS s len zero parts => fun ts h => match fillA zero (evP ts parts) with
    | some cs => some (.slice (some ⟨h.next, 0, none⟩) len len, h.new { cells := cs, n := len * s, s := s, own := true, grown := false })
    | none => none
  | .mkS s bytes zero l c => fun ts h => match asNat (ev ts l), asNat (ev ts c) with
    | some l, some c => bif Nat.ble l c && Nat.ble (bytes * c) 1099511627776 && Nat.ble c 1099511627776 then some (.slice (some ⟨h.next, 0, none⟩) l c, h.new { cells := rep zero c, n := c * s, s := s, own := true, grown := false }) else none
    | _, _ => none
  | .app s bytes x y => fun ts h => match ev ts x, srcCells h s (ev ts y) with
    | .slice base len cap, some (news, n) => appA h s bytes base len cap news n
    | _, _ => none
  | .appZ s bytes zero x y => fun ts h => match ev ts x, asNat (ev ts y) with
    | .slice base len cap, some n => bif Nat.ble n 1099511627776 then appA h s bytes base len cap (rep zero n) n else none
    | _, _ => none

def eop (ts : T Value) (h : Heap) (q : EOp) : Option (Value × Heap) := eopQ q ts h

end
end Go.Proofs.Ytedldiimhbebdaa.Ai
