/- All operations that read or turn the heap, in one sentence each. -/
import Derived.Test.YtedldiimhbebdaaAiSoundA
namespace Go.Proofs.Ytedldiimhbebdaa.Ai
noncomputable section
open Go.RowKit

section
variable {P : Program} {C : CRel} {μ : Map} {h h' : Heap} {B : Fr} {w0 : World} {ts : T Value} {a : Act} {w : World} {o : Oper} {v : Value}

theorem bad_ne_r {q : ROp} : (AOp.r q) ≠ .bad := by intro h; cases h
theorem bad_ne_e {q : EOp} : (AOp.e q) ≠ .bad := by intro h; cases h
theorem bad_ne_c {f : Nat} {l : List Opd} : (AOp.call f l) ≠ .bad := by intro h; cases h

/-- what an operation of the second kind was made of -/
inductive RForm (P : Program) (o : Oper) : ROp → Prop
  | load1 (t : TypeId) (x : Operand) (y : Opd) (d : TypeDesc) : o.op = .load t x → P.underlying t = some d → (∀ q, d ≠ .struct q) → (∀ q q', d ≠ .array q q') → compOpd x = some y → RForm P o (.load1 y)
  | loadN (t : TypeId) (x : Operand) (y : Opd) (i : TypeInfo) : o.op = .load t x → ((∃ q, P.underlying t = some (.struct q)) ∨ ∃ q q', P.underlying t = some (.array q q')) → P.info? t = some i → compOpd x = some y → RForm P o (.loadN i.size y)
  | slice (t e : TypeId) (inf : TypeInfo) (x : Operand) (x' : Opd) (lo hi mx : Option Operand) (lo' hi' mx' : Option Opd) : o.op = .slice t x lo hi mx → P.underlying t = some (.slice e) → P.info? e = some inf → compOpd x = some x' →
      ((lo = none ∧ lo' = none) ∨ ∃ X y, lo = some X ∧ compOpd X = some y ∧ lo' = some y) → ((hi = none ∧ hi' = none) ∨ ∃ X y, hi = some X ∧ compOpd X = some y ∧ hi' = some y) → ((mx = none ∧ mx' = none) ∨ ∃ X y, mx = some X ∧ compOpd X = some y ∧ mx' = some y) → RForm P o (.slice inf.size x' lo' hi' mx')
  | cap (c : Call) (x : Operand) (t e : TypeId) (y : Opd) : o.op = .call c → c.callee = .builtin .cap → c.args.toList = [x] → c.argTypes.toList = [t] → P.underlying t = some (.slice e) → compOpd x = some y → RForm P o (.cap y)

inductive EForm (P : Program) (o : Oper) : EOp → Prop
  | store (t : TypeId) (x y : Operand) (x' y' : Opd) (i : TypeInfo) : o.op = .store t x y → P.info? t = some i → compOpd x = some x' → compOpd y = some y' → EForm P o (.store i.size x' y')
  | box (t : TypeId) (x : Operand) (x' : Opd) (n : Nat) : o.op = .box t x → compOpd x = some x' → EForm P o (.box n x')
  | alloc (t : TypeId) (z : List Value) : o.op = .alloc t → zeroCells P t = some z → EForm P o (.alloc z)
  | buildS (t e : TypeId) (len s q : Nat) (parts : Array (Nat × Operand)) (ps : List (Nat × Nat × Opd)) (z : List Value) : o.op = .buildSlice t len parts → elemOf' P t = some (e, s, q) → zeroCells P e = some z → len * s ≤ 1000000 → 1 ≤ s → compParts (fun i => some (i * s, s)) parts.toList = some ps → EForm P o (.buildS s len (rep z len) ps)
  | mkS (t e : TypeId) (s q : Nat) (l c : Operand) (l' c' : Opd) (z : List Value) : o.op = .makeSlice t l c → elemOf' P t = some (e, s, q) → zeroCells P e = some z → 1 ≤ s → compOpd l = some l' → compOpd c = some c' → EForm P o (.mkS s q z l' c')
  | app (c : Call) (x y : Operand) (x' y' : Opd) (t u e : TypeId) (s bytes : Nat) (z : List Value) (q : TypeId) : o.op = .call c → c.callee = .builtin .append → c.args.toList = [x, y] → c.argTypes.toList = [t, u] → elemOf' P t = some (e, s, bytes) → P.underlying u = some (.slice q) → zeroCells P e = some z → compOpd x = some x' → compOpd y = some y' → EForm P o (.app s bytes x' y')
  | appZ (c : Call) (x y : Operand) (x' y' : Opd) (t u e : TypeId) (s bytes : Nat) (z : List Value) (q : IntKind) : o.op = .call c → c.callee = .builtin .append → c.args.toList = [x, y] → c.argTypes.toList = [t, u] → elemOf' P t = some (e, s, bytes) → P.underlying u = some (.int q) → zeroCells P e = some z → compOpd x = some x' → compOpd y = some y' → EForm P o (.appZ s bytes z x' y')

inductive CForm (o : Oper) : Nat → List Opd → Prop
  | call (c : Call) (f : Nat) (l : List Opd) : o.op = .call c → c.callee = .value (.func f) → oL c.args.toList = some l → CForm o f l

inductive VForm (o : Oper) : Opd → List Opd → Prop
  | callv (c : Call) (t : Nat) (l : List Opd) : o.op = .call c → c.callee = .value (.tmp t) → oL c.args.toList = some l → VForm o (.t t) l

inductive IForm (P : Program) (o : Oper) : List (Nat × Nat) → Opd → List Opd → Prop
  | invoke (c : Call) (x : Operand) (y : Opd) (name : String) (l : List Opd) : o.op = .call c → c.callee = .invoke x name → compOpd x = some y → oL c.args.toList = some l → IForm P o (methTbl P name (List.range P.types.size)) y l

/-- what a compiled operation was made of -/
def Form (P : Program) (o : Oper) : AOp → Prop
  | .p q => comp P o.op = .p q
  | .r q => RForm P o q
  | .e q => EForm P o q
  | .call f l => CForm o f l
  | .callv x l => VForm o x l
  | .invoke tbl x l => IForm P o tbl x l
  | .bad => True

theorem form_o1 {A : AOp} {x : Operand} {f : Opd → AOp} (h : o1 x f = A) (k : ∀ y, compOpd x = some y → f y = A → Form P o A) : Form P o A := by
  unfold o1 at h
  split at h
  · exact k _ (by assumption) h
  · subst h; trivial

theorem form_oO {A : AOp} {x : Option Operand} {f : Option Opd → AOp} (h : oO x f = A) (k : ∀ y, ((x = none ∧ y = none) ∨ ∃ X z, x = some X ∧ compOpd X = some z ∧ y = some z) → f y = A → Form P o A) : Form P o A := by
  unfold oO at h
  split at h
  · exact k none (.inl ⟨rfl, rfl⟩) h
  · split at h
    · exact k _ (.inr ⟨_, _, rfl, by assumption, rfl⟩) h
    · subst h; trivial

theorem form_if {A x : AOp} {c : Bool} (h : (bif c then x else .bad) = A) (k : c = true → x = A → Form P o A) : Form P o A := by
  cases c
  · have : AOp.bad = A := h
    subst this; trivial
  · exact k rfl h

theorem form_p {A : AOp} {q : POp} (h0 : comp P o.op = A) (e : AOp.p q = A) : Form P o A := by
  subst e; exact h0

theorem form_bad {A : AOp} (e : AOp.bad = A) : Form P o A := by
  subst e; trivial

theorem form_of {A : AOp} (h : comp P o.op = A) : Form P o A := by
  have h0 := h
  cases hop : o.op with
  | move x => rw [hop] at h; simp only [comp] at h; exact form_o1 h fun y hy e => form_p h0 e
  | assign x => rw [hop] at h; simp only [comp] at h; exact form_o1 h fun y hy e => form_p h0 e
  | pick x y z => rw [hop] at h; simp only [comp] at h; exact form_o1 h fun y hy h => form_o1 h fun y hy h => form_o1 h fun y hy e => form_p h0 e
  | binOp op t x y u =>
    rw [hop] at h; simp only [comp] at h
    split at h
    · exact form_o1 h fun y hy e => form_p h0 e
    · exact form_o1 h fun y hy e => form_p h0 e
    · split at h <;> exact form_o1 h fun y hy h => form_o1 h fun y hy e => form_p h0 e
    · split at h <;> exact form_o1 h fun y hy h => form_o1 h fun y hy e => form_p h0 e
    · exact form_o1 h fun y hy h => form_o1 h fun y hy e => form_p h0 e
  | unOp op t x =>
    rw [hop] at h; simp only [comp] at h
    split at h
    · exact form_o1 h fun y hy e => form_p h0 e
    · exact form_o1 h fun y hy e => form_p h0 e
    · exact form_bad h
  | convert s t x =>
    rw [hop] at h; simp only [comp] at h
    split at h
    · exact form_o1 h fun y hy e => form_p h0 e
    · exact form_bad h
  | fieldAddr s x f =>
    rw [hop] at h; simp only [comp] at h
    split at h
    · split at h
      · split at h
        · rename_i i hi
          cases hz : Nat.beq i.size 0 with
          | true => rw [hz] at h; exact form_bad h
          | false => rw [hz] at h; exact form_o1 h fun y hy e => form_p h0 e
        · exact form_bad h
      · exact form_bad h
    · exact form_bad h
  | field s x f =>
    rw [hop] at h; simp only [comp] at h
    split at h
    · split at h
      · split at h
        · exact form_o1 h fun y hy e => form_p h0 e
        · exact form_o1 h fun y hy e => form_p h0 e
        · exact form_o1 h fun y hy e => form_p h0 e
        · exact form_bad h
      · exact form_bad h
    · exact form_bad h
  | indexAddr t x i =>
    rw [hop] at h; simp only [comp] at h
    split at h
    · split at h
      · exact form_o1 h fun y hy h => form_o1 h fun y hy e => form_p h0 e
      · exact form_bad h
    · split at h
      · exact form_o1 h fun y hy h => form_o1 h fun y hy e => form_p h0 e
      · exact form_bad h
    · exact form_bad h
  | index t x i =>
    rw [hop] at h; simp only [comp] at h
    split at h
    · exact form_o1 h fun y hy h => form_o1 h fun y hy e => form_p h0 e
    · split at h
      · exact form_o1 h fun y hy h => form_o1 h fun y hy e => form_p h0 e
      · exact form_o1 h fun y hy h => form_o1 h fun y hy e => form_p h0 e
      · exact form_o1 h fun y hy h => form_o1 h fun y hy e => form_p h0 e
      · exact form_bad h
    · exact form_bad h
  | makeFunc fn fs cs =>
    rw [hop] at h; simp only [comp] at h
    split at h
    · exact form_p h0 h
    · exact form_bad h
  | makeInterface t x =>
    rw [hop] at h; simp only [comp] at h
    split at h
    · exact form_bad h
    · exact form_o1 h fun y hy e => form_p h0 e
    · exact form_bad h
  | typeAssert x u t ok =>
    rw [hop] at h; simp only [comp] at h
    split at h
    · exact form_bad h
    · split at h
      · exact form_if h fun _ h => form_o1 h fun y hy e => form_p h0 e
      · exact form_bad h
    · exact form_bad h
  | extract x i => rw [hop] at h; simp only [comp] at h; exact form_o1 h fun y hy e => form_p h0 e
  | nilCheck x => rw [hop] at h; simp only [comp] at h; exact form_o1 h fun y hy e => form_p h0 e
  | build t parts =>
    rw [hop] at h; simp only [comp] at h
    split at h
    · split at h
      · split at h
        · exact form_p h0 h
        · exact form_bad h
      · exact form_bad h
    · split at h
      · split at h
        · exact form_p h0 h
        · exact form_bad h
      · exact form_bad h
    · exact form_bad h
  | load t x =>
    rw [hop] at h; simp only [comp] at h
    split at h
    · rename_i q' i hd hi
      exact form_o1 h fun y hy e => by subst e; exact .loadN t x y i hop (.inl ⟨q', hd⟩) hi hy
    · rename_i q1 q2 i hd hi
      exact form_o1 h fun y hy e => by subst e; exact .loadN t x y i hop (.inr ⟨q1, q2, hd⟩) hi hy
    · rename_i d i hn1 hn2 hd hi
      exact form_o1 h fun y hy e => by subst e; exact .load1 t x y d hop hd (fun q hq => hn1 q (by rw [← hq])) (fun q q' hq => hn2 q q' (by rw [← hq])) hy
    · exact form_bad h
  | slice t x lo hi mx =>
    rw [hop] at h; simp only [comp] at h
    split at h
    · rename_i e ht
      split at h
      · rename_i inf hin
        exact form_o1 h fun y hy h => form_oO h fun lo' h1 h => form_oO h fun hi' h2 h => form_oO h fun mx' h3 e => by
          subst e; exact .slice t _ inf x y lo hi mx lo' hi' mx' hop ht hin hy h1 h2 h3
      · exact form_bad h
    · exact form_bad h
  | store t x y =>
    rw [hop] at h; simp only [comp] at h
    split at h
    · rename_i i hi
      exact form_o1 h fun x' hx h => form_o1 h fun y' hy e => by subst e; exact .store t x y x' y' i hop hi hx hy
    · exact form_bad h
  | alloc t =>
    rw [hop] at h; simp only [comp] at h
    split at h
    · rename_i z hz
      subst h; exact .alloc t z hop hz
    · exact form_bad h
  | box t x =>
    rw [hop] at h; simp only [comp] at h
    split at h
    · exact form_o1 h fun y hy e => by subst e; exact .box t x y _ hop hy
    · exact form_bad h
  | buildSlice t n parts =>
    rw [hop] at h; simp only [comp] at h
    split at h
    · rename_i e s q he
      split at h
      · rename_i z hz
        refine form_if h fun hc h => ?_
        simp only [Bool.and_eq_true] at hc
        split at h
        · rename_i ps hps
          subst h; exact .buildS t e n s q parts ps z hop he hz (ble_true hc.1) (ble_true hc.2) hps
        · exact form_bad h
      · exact form_bad h
    · exact form_bad h
  | makeSlice t l c =>
    rw [hop] at h; simp only [comp] at h
    split at h
    · rename_i e s q he
      split at h
      · rename_i z hz
        exact form_if h fun hc h => form_o1 h fun x' hx h => form_o1 h fun y' hy e' => by subst e'; exact .mkS t e s q l c x' y' z hop he hz (ble_true hc) hx hy
      · exact form_bad h
    · exact form_bad h
  | call c =>
    rw [hop] at h; simp only [comp] at h
    split at h
    · rename_i b hb
      unfold compBuiltin at h
      split at h
      · split at h
        · split at h
          · exact form_o1 h fun y hy e => form_p h0 e
          · exact form_o1 h fun y hy e => form_p h0 e
          · exact form_bad h
        · exact form_bad h
      · rename_i x ha
        split at h
        · rename_i t hts
          split at h
          · rename_i e ht
            exact form_o1 h fun y hy e1 => by subst e1; exact .cap c x t e y hop hb ha hts ht hy
          · exact form_bad h
        · exact form_bad h
      · exact form_o1 h fun y hy h => form_o1 h fun z hz e => form_p h0 e
      · exact form_o1 h fun y hy h => form_o1 h fun z hz e => form_p h0 e
      · rename_i x y ha
        split at h
        · rename_i t u hts
          split at h
          · rename_i e s bytes he
            split at h
            · rename_i q hu
              refine form_o1 h fun x' hx h => form_o1 h fun y' hy h => ?_
              split at h
              · rename_i z hz
                subst h; exact .app c x y x' y' t u e s bytes z q hop hb ha hts he hu hz hx hy
              · exact form_bad h
            · rename_i q hu
              split at h
              · rename_i z hz
                exact form_o1 h fun x' hx h => form_o1 h fun y' hy e' => by subst e'; exact .appZ c x y x' y' t u e s bytes z q hop hb ha hts he hu hz hx hy
              · exact form_bad h
            · exact form_bad h
          · exact form_bad h
        · exact form_bad h
      · exact form_bad h
    · rename_i f hf
      split at h
      · rename_i l hl
        subst h; exact .call c f l hop hf hl
      · exact form_bad h
    · rename_i t hf
      split at h
      · rename_i l hl
        subst h; exact .callv c t l hop hf hl
      · exact form_bad h
    · rename_i x name hf
      split at h
      · rename_i l hl
        exact form_o1 h fun y hy e => by subst e; exact .invoke c x y name l hop hf hy hl
      · exact form_bad h
    · exact form_bad h
  | _ => rw [hop] at h; simp only [comp] at h; exact form_bad h

theorem rop_sound {q : ROp} (f : RForm P o q) (R : Rel C μ h B w0 w) (r : TsRel μ ts a) (hv : rop ts h q = some v) : Did P μ a w o v := by
  cases f with
  | load1 t x y d ho hd h1 h2 hx => exact s_load1 R r ho hd h1 h2 hx hv
  | loadN t x y i ho hd hi hx => exact s_loadN R r ho hd hi hx hv
  | slice t e inf x x' lo hi mx lo' hi' mx' ho ht hin hx h1 h2 h3 => exact s_slice R r ho ht hin hx h1 h2 h3 hv
  | cap c x t e y ho hc ha hts ht hx => exact s_cap R r ho hc ha hts ht hx hv

theorem eop_sound {q : EOp} (f : EForm P o q) (R : Rel C μ h B w0 w) (r : TsRel μ ts a) (hv : eop ts h q = some (v, h')) : DidE C P μ h' B w0 a w o v := by
  cases f with
  | store t x y x' y' i ho hi hx hy => exact s_store R r ho hi hx hy hv
  | box t x x' n ho hx => exact s_box R r ho hx hv
  | alloc t z ho hz => exact s_alloc R ho hz hv
  | buildS t e len s q parts ps z ho he hz h1 h2 hp => exact s_buildS R r ho he hz h1 h2 hp hv
  | mkS t e s q l c l' c' z ho he hz h2 hl hc => exact s_mkS R r ho he hz h2 hl hc hv
  | app c x y x' y' t u e s bytes z q ho hc ha hts he hu hz hx hy => exact s_app R r ho hc ha hts he hu hz hx hy hv
  | appZ c x y x' y' t u e s bytes z q ho hc ha hts he hu hz hx hy => exact s_appZ R r ho hc ha hts he hu hz hx hy hv

end
end
end Go.Proofs.Ytedldiimhbebdaa.Ai
