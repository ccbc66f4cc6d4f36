/- The operations that ask the frame alone. -/
import Derived.Test.YtedldiimhbebdaaAiComp
namespace Go.Proofs.Ytedldiimhbebdaa.Ai
noncomputable section
open Go.RowKit

section
variable {P : Program} {μ : Map} {ts : T Value} {a : Act} {w : World} {o : Oper} {v : Value}

def Did (P : Program) (μ : Map) (a : Act) (w : World) (o : Oper) (v : Value) : Prop := ∃ v', (execOp a.eval o).run P w = .ok (.value v') w ∧ VRel μ v v'

theorem fill_set (off : Nat) : ∀ (vs : List Value) (j : Nat) (cells : Array Value), off + j + vs.length ≤ cells.size →
    ((vs.zipIdx j).foldl (fun cs (x : Value × Nat) => cs.setIfInBounds (off + x.2) x.1) cells).toList = splice cells.toList (off + j) vs := by
  intro vs
  induction vs with
  | nil => intro j cells _; simp [splice]
  | cons v vs ih =>
    intro j cells h
    simp only [List.zipIdx_cons, List.foldl_cons, List.length_cons] at *
    rw [ih (j + 1) _ (by simp; omega)]
    apply List.ext_getElem?
    intro i
    have h1 : off + (j + 1) + vs.length ≤ (cells.setIfInBounds (off + j) v).toList.length := by simp; omega
    rw [splice_get _ _ _ h1, splice_get _ _ _ (by simp; omega)]
    simp only [Array.toList_setIfInBounds, List.getElem?_set, List.length_cons, Array.length_toList]
    by_cases c1 : i < off + j
    · rw [if_pos (by omega), if_neg (by omega), if_pos c1]
    · by_cases c2 : i = off + j
      · subst c2
        rw [if_pos (by omega), if_pos rfl, if_pos (by omega), if_neg (by omega), if_pos (by omega)]
        simp
      · rw [if_neg (by omega), if_neg c1]
        by_cases c3 : i < off + (j + 1) + vs.length
        · rw [if_pos c3, if_pos (by omega)]
          have : i - (off + j) = (i - (off + (j + 1))) + 1 := by omega
          rw [this, List.getElem?_cons_succ]
        · rw [if_neg c3, if_neg (by omega), if_neg (by omega)]

theorem VsRel.splice {μ : Map} {l l' vs vs' : List Value} (h : VsRel μ l l') (hv : VsRel μ vs vs') (o : Nat) : VsRel μ (splice l o vs) (splice l' o vs') := by
  unfold Ai.splice
  rw [hv.1]
  exact ((h.take _).append hv).append (h.drop _)

theorem fillA_run (r : TsRel μ ts a) (place : Nat → Option (Nat × Nat)) : ∀ (parts : List (Nat × Operand)) (ps : List (Nat × Nat × Opd)) (cells out : List Value) (cells' : Array Value),
    compParts place parts = some ps → VsRel μ cells cells'.toList → fillA cells (evP ts ps) = some out →
    ∃ out', Instr.fill place cells' (parts.map fun (i, x) => (i, a.eval x)) = some out' ∧ VsRel μ out out'.toList := by
  intro parts
  induction parts with
  | nil =>
    intro ps cells out cells' h1 h2 h3
    simp only [compParts, Option.some.injEq] at h1; subst h1
    simp only [evP, fillA, Option.some.injEq] at h3; subst h3
    exact ⟨cells', rfl, h2⟩
  | cons p rest ih =>
    intro ps cells out cells' h1 h2 h3
    obtain ⟨i, x⟩ := p
    simp only [compParts] at h1
    split at h1
    · rename_i off s x' ps' hp hx hr
      simp only [Option.some.injEq] at h1; subst h1
      simp only [evP, fillA] at h3
      cases hc : (Nat.beq (ev ts x').cells.toList.length s && Nat.ble (off + s) cells.length) with
      | false => rw [hc] at h3; cases h3
      | true =>
        rw [hc] at h3; simp only [cond_true] at h3
        simp only [Bool.and_eq_true] at hc
        have e1 : (ev ts x').cells.toList.length = s := Nat.eq_of_beq_eq_true hc.1
        have e2 := ble_true hc.2
        have hv := cells_rel (compOpd_rel r hx)
        have hl := hv.1
        have hlc := h2.1
        have hsz : (a.eval x).cells.size = s := by rw [← e1, hl]; simp
        have hle : off + (a.eval x).cells.size ≤ cells'.size := by rw [hsz]; simp at hlc; omega
        have hset := fill_set off (a.eval x).cells.toList 0 cells' (by simpa using hle)
        simp only [Nat.add_zero] at hset
        simp only [List.map_cons, Instr.fill, hp]
        rw [if_neg (by simp [hsz]; simp at hlc; omega)]
        refine ih ps' (splice cells off (ev ts x').cells.toList) out _ hr ?_ h3
        rw [← Array.foldl_toList, Array.toList_zipIdx, hset]
        exact h2.splice hv off
    · cases h1

theorem s_mov (r : TsRel μ ts a) {x : Operand} {y : Opd} (ho : o.op = .move x ∨ o.op = .assign x) (hx : compOpd x = some y) (hv : pop ts (.mov y) = some v) : Did P μ a w o v := by
  simp only [pop, popQ, Option.some.injEq] at hv; subst hv
  refine ⟨_, ?_, compOpd_rel r hx⟩
  rcases ho with ho | ho <;> simp [execOp, ho]

theorem s_pick (r : TsRel μ ts a) {c x y : Operand} {c' x' y' : Opd} (ho : o.op = .pick c x y) (hc : compOpd c = some c') (hx : compOpd x = some x') (hy : compOpd y = some y') (hv : pop ts (.pick c' x' y') = some v) : Did P μ a w o v := by
  simp only [pop, popQ] at hv
  split at hv
  · rename_i t ht
    have h1 := compOpd_rel r hc
    rw [ht] at h1
    have h1 := h1.bool
    simp only [Option.some.injEq] at hv; subst hv
    refine ⟨if t then a.eval x else a.eval y, by simp [execOp, ho, h1, asBool], ?_⟩
    cases t
    · simpa using compOpd_rel r hy
    · simpa using compOpd_rel r hx
  · cases hv

theorem s_bin (r : TsRel μ ts a) {op : BinOp} {t u : TypeId} {x y : Operand} {x' y' : Opd} (ho : o.op = .binOp op t x y u) (hx : compOpd x = some x') (hy : compOpd y = some y') (hv : pop ts (.bin op (isBool P t) x' y') = some v) : Did P μ a w o v := by
  simp only [pop, popQ, abinF_eq] at hv
  have hb : isBool P t = true → P.underlying t = some .bool := by
    intro h; unfold isBool at h; split at h <;> first | assumption | cases h
  obtain ⟨h1, h2, h3, h4⟩ := abin_run (P := P) (w := w) hv hb x y
  have e1 := (compOpd_rel r hx).of_plain h3
  have e2 := (compOpd_rel r hy).of_plain h4
  refine ⟨v, ?_, .same v h2⟩
  simp only [execOp, ho, e1, e2]
  simp only [Sem.run_bind] at h1 ⊢
  rw [h1]; rfl

theorem isNil_rel {k : Nat} {x x' : Value} (h : VRel μ x x') {b : Bool} (hb : isNilV k x = some b) : isNilV k x' = some b := by
  cases h with
  | same v hv => exact hb
  | _ => rcases k with _ | _ | _ | _ | k <;> simp_all [isNilV]

theorem eqGuard_nil {op : BinOp} {t : TypeId} {x y : Operand} {X Y : Value} {k : Nat} {b : Bool} (hy : nilKind P t y = some k) (hb : isNilV k X = some b) (hY : Y = a.eval y) : (eqGuard op t x y X Y).run P w = .ok () w := by
  subst hY
  unfold nilKind at hy
  split at hy
  · split at hy <;> simp at hy; subst hy
    cases X <;> simp [isNilV] at hb <;> cases op <;> rfl
  · split at hy <;> simp at hy; subst hy
    cases X <;> simp [isNilV] at hb <;> cases op <;> rfl
  · split at hy <;> simp at hy; subst hy
    cases X <;> simp [isNilV] at hb <;> cases op <;> rfl
  · split at hy <;> simp at hy; subst hy
    cases X <;> simp [isNilV] at hb <;> cases op <;> simp [eqGuard, Act.eval]
  · cases hy

theorem eqIn_ptr (d : Nat) {t e : TypeId} (h : P.underlying t = some (.pointer e)) (p : Option Addr) : (Op.equalIn (d + 1) t (.pointer p) (.pointer none)).run P w = .ok p.isNone w := by
  cases p <;> simp [Op.equalIn, run_underlying h]
theorem eqIn_slice (d : Nat) {t e : TypeId} (h : P.underlying t = some (.slice e)) (p : Option Addr) (n c : Nat) : (Op.equalIn (d + 1) t (.slice p n c) (.slice none 0 0)).run P w = .ok p.isNone w := by
  cases p <;> simp [Op.equalIn, run_underlying h]
theorem eqIn_func (d : Nat) {t : TypeId} {q q' : Array TypeId} {q'' : Bool} (h : P.underlying t = some (.func q q' q'')) (f : Fn) (c e : Array Value) : (Op.equalIn (d + 1) t (.func f c e) .nilFunc).run P w = .ok false w := by
  simp [Op.equalIn, run_underlying h]
theorem eqIn_func' (d : Nat) {t : TypeId} {q q' : Array TypeId} {q'' : Bool} (h : P.underlying t = some (.func q q' q'')) : (Op.equalIn (d + 1) t .nilFunc .nilFunc).run P w = .ok true w := by
  simp [Op.equalIn, run_underlying h]
theorem eqIn_iface (d : Nat) {t : TypeId} {q : Array (String × TypeId)} (h : P.underlying t = some (.interface q)) (f : TypeId) (c : Value) : (Op.equalIn (d + 1) t (.iface f c) .nilIface).run P w = .ok false w := by
  simp [Op.equalIn, run_underlying h]
theorem eqIn_iface' (d : Nat) {t : TypeId} {q : Array (String × TypeId)} (h : P.underlying t = some (.interface q)) : (Op.equalIn (d + 1) t .nilIface .nilIface).run P w = .ok true w := by
  simp [Op.equalIn, run_underlying h]

theorem equal_nil {t : TypeId} {y : Operand} {X Y : Value} {k : Nat} {b : Bool} (hy : nilKind P t y = some k) (hb : isNilV k X = some b) (hY : Y = a.eval y) :
    (Op.equal t X Y).run P w = .ok b w ∧ (binOp .eql t X Y = (do pure (.bool (← Op.equal t X Y)) : Sem Value)) ∧ (binOp .neq t X Y = (do pure (.bool (!(← Op.equal t X Y))) : Sem Value)) := by
  subst hY
  unfold nilKind at hy
  split at hy
  · split at hy <;> simp at hy; subst hy
    rename_i hu
    cases X <;> simp [isNilV] at hb
    rename_i p
    subst hb
    exact ⟨eqIn_ptr 9999 hu p, by cases p <;> rfl, by cases p <;> rfl⟩
  · split at hy <;> simp at hy; subst hy
    rename_i hu
    cases X <;> simp [isNilV] at hb
    rename_i p n c
    subst hb
    exact ⟨eqIn_slice 9999 hu p n c, rfl, rfl⟩
  · split at hy <;> simp at hy; subst hy
    rename_i hu
    cases X <;> simp [isNilV] at hb <;> subst hb
    · exact ⟨eqIn_func 9999 hu _ _ _, rfl, rfl⟩
    · exact ⟨eqIn_func' 9999 hu, rfl, rfl⟩
  · split at hy <;> simp at hy; subst hy
    rename_i hu
    cases X <;> simp [isNilV] at hb <;> subst hb
    · exact ⟨eqIn_iface 9999 hu _ _, rfl, rfl⟩
    · exact ⟨eqIn_iface' 9999 hu, rfl, rfl⟩
  · cases hy

theorem s_eqNil (r : TsRel μ ts a) {op : BinOp} {t u : TypeId} {x y : Operand} {x' : Opd} {ng : Bool} {k : Nat} (ho : o.op = .binOp op t x y u) (hop : op = .eql ∧ ng = false ∨ op = .neq ∧ ng = true) (hn : nilKind P t y = some k)
    (hx : compOpd x = some x') (hv : pop ts (.eqNil k ng x') = some v) : Did P μ a w o v := by
  simp only [pop, popQ] at hv
  split at hv
  · rename_i b hb
    simp only [Option.some.injEq] at hv
    have hb' := isNil_rel (compOpd_rel r hx) hb
    have g1 := fun w => eqGuard_nil (P := P) (w := w) (op := op) (x := x) hn hb' (a := a) rfl
    have g2 := fun w => equal_nil (P := P) (w := w) hn hb' (a := a) rfl
    refine ⟨v, ?_, by subst hv; exact .same _ rfl⟩
    rcases hop with ⟨rfl, rfl⟩ | ⟨rfl, rfl⟩
    · simp only [execOp, ho, Sem.run_bind, g1, Result.andThen_ok, (g2 w).2.1, (g2 w).1]
      subst hv; rfl
    · simp only [execOp, ho, Sem.run_bind, g1, Result.andThen_ok, (g2 w).2.2, (g2 w).1]
      subst hv; rfl
  · cases hv

theorem s_not (r : TsRel μ ts a) {t : TypeId} {x : Operand} {y : Opd} (ho : o.op = .unOp .not t x) (hx : compOpd x = some y) (hv : pop ts (.not y) = some v) : Did P μ a w o v := by
  simp only [pop, popQ] at hv
  split at hv
  · rename_i b hb
    have h1 := compOpd_rel r hx
    rw [hb] at h1
    simp only [Option.some.injEq] at hv; subst hv
    exact ⟨.bool !b, by simp [execOp, ho, h1.bool, Op.unary], .same _ rfl⟩
  · cases hv

theorem s_neg (r : TsRel μ ts a) {t : TypeId} {x : Operand} {y : Opd} (ho : o.op = .unOp .neg t x) (hx : compOpd x = some y) (hv : pop ts (.neg y) = some v) : Did P μ a w o v := by
  simp only [pop, popQ] at hv
  split at hv
  · rename_i k n hb
    have h1 := compOpd_rel r hx
    rw [hb] at h1
    simp only [Option.some.injEq] at hv; subst hv
    exact ⟨.int k (k.wrap (0 - n)), by simp [execOp, ho, h1.int, Op.unary, Op.intArith], by rw [wrapF_eq]; exact .same _ rfl⟩
  · cases hv

theorem s_conv (r : TsRel μ ts a) {s t : TypeId} {x : Operand} {y : Opd} {d : TypeDesc} {k : IntKind} (ho : o.op = .convert s t x) (hs : P.underlying s = some d) (ht : P.underlying t = some (.int k)) (hx : compOpd x = some y) (hv : pop ts (.conv k y) = some v) : Did P μ a w o v := by
  simp only [pop, popQ] at hv
  split at hv
  · rename_i k' n hb
    have h1 := compOpd_rel r hx
    rw [hb] at h1
    simp only [Option.some.injEq] at hv; subst hv
    exact ⟨.int k (k.wrap n), by simp [execOp, ho, h1.int, convert, run_underlying hs, run_underlying ht, Conv.intToInt], by rw [wrapF_eq]; exact .same _ rfl⟩
  · cases hv

theorem s_fieldAddr (r : TsRel μ ts a) {s : TypeId} {f : Nat} {x : Operand} {y : Opd} {fields : Array Field} {fl : Field} {i : TypeInfo} (ho : o.op = .fieldAddr s x f) (hs : P.underlying s = some (.struct fields)) (hf : fields.toList[f]? = some fl) (hi : P.info? fl.type = some i) (hz : i.size ≠ 0)
    (hx : compOpd x = some y) (hv : pop ts (.fieldAddr fl.offset y) = some v) : Did P μ a w o v := by
  simp only [pop, popQ] at hv
  split at hv
  · rename_i b o' hb
    have h1 := compOpd_rel r hx
    rw [hb] at h1
    obtain ⟨e, he, hX⟩ := h1.ptr_inv
    simp only [Option.some.injEq] at hv; subst hv
    have hf' : fields[f]? = some fl := by simpa using hf
    refine ⟨_, by simp [execOp, ho, hX, Instr.fieldAt, run_underlying hs, hf', Instr.sureAddr, fieldPlace, sizeOf, typeInfo, hi, hz, Addr.add_lit]; rfl, ?_⟩
    rw [Nat.add_assoc]
    exact .ptr b (o' + fl.offset) e he
  · cases hv

theorem s_field1 (r : TsRel μ ts a) {s : TypeId} {f : Nat} {x : Operand} {y : Opd} {fields : Array Field} {fl : Field} {d : TypeDesc} (ho : o.op = .field s x f) (hs : P.underlying s = some (.struct fields)) (hf : fields.toList[f]? = some fl)
    (hd : P.underlying fl.type = some d) (hd1 : ∀ q, d ≠ .struct q) (hd2 : ∀ q q', d ≠ .array q q') (hx : compOpd x = some y) (hv : pop ts (.field1 fl.offset y) = some v) : Did P μ a w o v := by
  simp only [pop, popQ] at hv
  split at hv
  · rename_i cs hb
    have h1 := compOpd_rel r hx
    rw [hb] at h1
    obtain ⟨cs', hX, hr⟩ := h1.agg_inv
    obtain ⟨v', g1, g2⟩ := hr.get hv
    have hf' : fields[f]? = some fl := by simpa using hf
    have g1' : cs'[fl.offset]? = some v' := by simpa using g1
    refine ⟨v', ?_, g2⟩
    have ha : (isAgg fl.type).run P w = .ok false w := by
      unfold isAgg
      cases d <;> first | (exact absurd rfl (hd1 _)) | (exact absurd rfl (hd2 _ _)) | simp [run_underlying hd]
    simp [execOp, ho, hX, Instr.field, run_underlying hs, hf', asAgg, part, ha, g1']
  · cases hv

theorem isAgg_true {t : TypeId} (h : (∃ q, P.underlying t = some (.struct q)) ∨ ∃ q q', P.underlying t = some (.array q q')) (w : World) : (isAgg t).run P w = .ok true w := by
  unfold isAgg
  rcases h with ⟨q, h⟩ | ⟨q, q', h⟩ <;> simp [run_underlying h]

theorem s_fieldN (r : TsRel μ ts a) {s : TypeId} {f : Nat} {x : Operand} {y : Opd} {fields : Array Field} {fl : Field} {i : TypeInfo} (ho : o.op = .field s x f) (hs : P.underlying s = some (.struct fields)) (hf : fields.toList[f]? = some fl)
    (hd : (∃ q, P.underlying fl.type = some (.struct q)) ∨ ∃ q q', P.underlying fl.type = some (.array q q')) (hi : P.info? fl.type = some i) (hx : compOpd x = some y) (hv : pop ts (.fieldN fl.offset i.size y) = some v) : Did P μ a w o v := by
  simp only [pop, popQ] at hv
  split at hv
  · rename_i cs hb
    cases hle : Nat.ble (fl.offset + i.size) cs.toList.length with
    | false => rw [hle] at hv; cases hv
    | true =>
      rw [hle] at hv; simp only [cond_true, Option.some.injEq] at hv; subst hv
      have h1 := compOpd_rel r hx
      rw [hb] at h1
      obtain ⟨cs', hX, hr⟩ := h1.agg_inv
      have hf' : fields[f]? = some fl := by simpa using hf
      have ha := isAgg_true hd w
      refine ⟨.agg (cs'.extract fl.offset (fl.offset + i.size)), by simp [execOp, ho, hX, Instr.field, run_underlying hs, hf', asAgg, part, ha, sizeOf, typeInfo, hi], ?_⟩
      have hh := (hr.drop fl.offset).take i.size
      have e2 : (cs'.extract fl.offset (fl.offset + i.size)).toList = (cs'.toList.drop fl.offset).take i.size := by
        simp [List.extract_eq_take_drop]
      exact .agg _ _ (by rw [e2]; exact hh.1) (by rw [e2]; exact hh.2)
  · cases hv

theorem s_idxS (r : TsRel μ ts a) {t e : TypeId} {inf : TypeInfo} {x i : Operand} {x' i' : Opd} (ho : o.op = .indexAddr t x i) (ht : P.underlying t = some (.slice e)) (hi : P.info? e = some inf) (hx : compOpd x = some x') (hy : compOpd i = some i')
    (hv : pop ts (.idxS inf.size x' i') = some v) : Did P μ a w o v := by
  simp only [pop, popQ, inB_eq] at hv
  split at hv
  · rename_i b o' len cap k n hb hn
    cases hc : (decide (0 ≤ n) && decide (n < len)) with
    | false => rw [hc] at hv; cases hv
    | true =>
      rw [hc] at hv; simp only [cond_true, Option.some.injEq] at hv; subst hv
      simp only [Bool.and_eq_true, decide_eq_true_eq] at hc
      have h1 := compOpd_rel r hx
      have h2 := compOpd_rel r hy
      rw [hb] at h1; rw [hn] at h2
      obtain ⟨en, he, hX⟩ := h1.slice_inv
      refine ⟨.pointer (some ⟨en.blk, en.base + (o' + n.toNat * inf.size), none⟩), ?_, .ptr b _ en he⟩
      simp [execOp, ho, hX, h2.int, Instr.indexAt, asIntOf, run_underlying ht, sizeOf, typeInfo, hi, hc.1, hc.2, Addr.add_lit, Nat.add_assoc]
  · cases hv

theorem s_idxA (r : TsRel μ ts a) {t e : TypeId} {len : Nat} {inf : TypeInfo} {x i : Operand} {x' i' : Opd} (ho : o.op = .indexAddr t x i) (ht : P.underlying t = some (.array len e)) (hi : P.info? e = some inf) (hx : compOpd x = some x') (hy : compOpd i = some i')
    (hv : pop ts (.idxA len inf.size x' i') = some v) : Did P μ a w o v := by
  simp only [pop, popQ, inB_eq] at hv
  split at hv
  · rename_i b o' k n hb hn
    cases hc : (decide (0 ≤ n) && decide (n < len)) with
    | false => rw [hc] at hv; cases hv
    | true =>
      rw [hc] at hv; simp only [cond_true, Option.some.injEq] at hv; subst hv
      simp only [Bool.and_eq_true, decide_eq_true_eq] at hc
      have h1 := compOpd_rel r hx
      have h2 := compOpd_rel r hy
      rw [hb] at h1; rw [hn] at h2
      obtain ⟨en, he, hX⟩ := h1.ptr_inv
      refine ⟨.pointer (some ⟨en.blk, en.base + (o' + n.toNat * inf.size), none⟩), ?_, .ptr b _ en he⟩
      simp [execOp, ho, hX, h2.int, Instr.indexAt, asIntOf, run_underlying ht, sizeOf, typeInfo, hi, hc.1, hc.2, Addr.add_lit, Nat.add_assoc, Instr.sureAddr]
  · cases hv

theorem s_idxStr (r : TsRel μ ts a) {t : TypeId} {x i : Operand} {x' i' : Opd} (ho : o.op = .index t x i) (ht : P.underlying t = some .string) (hx : compOpd x = some x') (hy : compOpd i = some i')
    (hv : pop ts (.idxStr x' i') = some v) : Did P μ a w o v := by
  simp only [pop, popQ] at hv
  split at hv
  · rename_i s k n hb hn
    cases hc : decide (0 ≤ n) with
    | false => rw [hc] at hv; cases hv
    | true =>
      rw [hc] at hv; simp only [cond_true] at hv
      have hc := of_decide_eq_true hc
      split at hv
      · rename_i u hu
        simp only [Option.some.injEq] at hv; subst hv
        have h1 := compOpd_rel r hx
        have h2 := compOpd_rel r hy
        rw [hb] at h1; rw [hn] at h2
        have hu' : s[n.toNat]? = some u := by
          have hlt := (List.getElem?_eq_some_iff.1 hu).1
          have hsz : n.toNat < s.size := by simpa using hlt
          rw [getElem?_pos s n.toNat hsz]
          have := (List.getElem?_eq_some_iff.1 hu).2
          congr 1
        exact ⟨.int .u8 u.toNat, by simp [execOp, ho, h1.string, h2.int, Instr.index, asIntOf, run_underlying ht, hc, hu'], .same _ rfl⟩
      · cases hv
  · cases hv

theorem s_ext (r : TsRel μ ts a) {i : Nat} {x : Operand} {y : Opd} (ho : o.op = .extract x i) (hx : compOpd x = some y) (hv : pop ts (.ext i y) = some v) : Did P μ a w o v := by
  simp only [pop, popQ] at hv
  split at hv
  · rename_i cs hb
    have h1 := compOpd_rel r hx
    rw [hb] at h1
    obtain ⟨cs', hX, hr⟩ := h1.tuple_inv
    obtain ⟨v', g1, g2⟩ := hr.get hv
    have g1' : cs'[i]? = some v' := by simpa using g1
    exact ⟨v', by simp [execOp, ho, hX, Instr.extract, g1'], g2⟩
  · cases hv

theorem VRel.slice_len {x' : Value} {p : Option Addr} {n c : Nat} (h : VRel μ (.slice p n c) x') : ∃ p' c', x' = .slice p' n c' := by
  cases h with
  | same => exact ⟨_, _, rfl⟩
  | slice => exact ⟨_, _, rfl⟩
  | vague => exact ⟨_, _, rfl⟩

theorem s_len (r : TsRel μ ts a) {str : Bool} {c : Call} {x : Operand} {t : TypeId} {y : Opd} (ho : o.op = .call c) (hc : c.callee = .builtin .len) (ha : c.args.toList = [x]) (hts : c.argTypes.toList = [t])
    (ht : (str = false ∧ ∃ e, P.underlying t = some (.slice e)) ∨ (str = true ∧ P.underlying t = some .string)) (hx : compOpd x = some y) (hv : pop ts (.len str y) = some v) : Did P μ a w o v := by
  have ha' : c.args = #[x] := Array.ext' (by simpa using ha)
  have hts' : c.argTypes = #[t] := Array.ext' (by simpa using hts)
  simp only [pop, popQ] at hv
  have h1 := compOpd_rel r hx
  split at hv
  · rename_i p n cap hb
    rw [hb] at h1
    obtain ⟨p', c', hX⟩ := h1.slice_len
    rcases ht with ⟨rfl, e, ht⟩ | ⟨rfl, ht⟩
    · simp only [cond_false, Option.some.injEq] at hv; subst hv
      exact ⟨_, by simp [execOp, ho, resolve, hc, ha', hts', invoke, builtin, Builtin.len_, run_underlying ht, hX]; rfl, .same _ rfl⟩
    · cases hv
  · rename_i s hb
    rw [hb] at h1
    rcases ht with ⟨rfl, e, ht⟩ | ⟨rfl, ht⟩
    · cases hv
    · simp only [cond_true, Option.some.injEq] at hv; subst hv
      exact ⟨_, by simp [execOp, ho, resolve, hc, ha', hts', invoke, builtin, Builtin.len_, run_underlying ht, h1.string]; rfl, .same _ rfl⟩
  · cases hv

theorem s_nilchk (r : TsRel μ ts a) {x : Operand} {y : Opd} (ho : o.op = .nilCheck x) (hx : compOpd x = some y) (hv : pop ts (.nilchk y) = some v) : Did P μ a w o v := by
  simp only [pop, popQ] at hv
  have h1 := compOpd_rel r hx
  have key : ∀ X, a.eval x = X → (∃ p, X = .pointer (some p)) ∨ (∃ t y, X = .iface t y) ∨ (∃ f c d, X = .func (.func f) c d) → (execOp a.eval o).run P w = .ok (.value X) w := by
    intro X hX h
    rcases h with ⟨p, rfl⟩ | ⟨t, y, rfl⟩ | ⟨f, c, d, rfl⟩ <;> simp [execOp, ho, hX]
  generalize hX : a.eval x = X at h1
  split at hv
  · rename_i p hb
    rw [hb] at h1
    simp only [Option.some.injEq] at hv; subst hv
    refine ⟨X, key X hX (.inl ?_), h1⟩
    cases h1 with
    | same _ hp => simp [plain] at hp
    | ptr b o' e he => exact ⟨_, rfl⟩
  · rename_i t y' hb
    rw [hb] at h1
    simp only [Option.some.injEq] at hv; subst hv
    refine ⟨X, key X hX (.inr (.inl ?_)), h1⟩
    cases h1 with
    | same _ hp => simp [plain] at hp
    | iface => exact ⟨_, _, rfl⟩
  · rename_i f c d hb
    rw [hb] at h1
    simp only [Option.some.injEq] at hv; subst hv
    refine ⟨X, key X hX (.inr (.inr ?_)), h1⟩
    cases h1 with
    | same _ hp => simp [plain] at hp
    | func => exact ⟨_, _, _, rfl⟩
  · cases hv

theorem s_mx (r : TsRel μ ts a) {c : Call} {x y : Operand} {x' y' : Opd} (ho : o.op = .call c) (hc : c.callee = .builtin .max) (ha : c.args.toList = [x, y]) (hx : compOpd x = some x') (hy : compOpd y = some y') (hv : pop ts (.mx x' y') = some v) : Did P μ a w o v := by
  have ha' : c.args = #[x, y] := Array.ext' (by simpa using ha)
  simp only [pop, popQ] at hv
  have h1 := compOpd_rel r hx
  have h2 := compOpd_rel r hy
  split at hv
  · rename_i k p k' q hb hb'
    rw [hb] at h1; rw [hb'] at h2
    simp only [Option.some.injEq] at hv; subst hv
    refine ⟨_, ?_, .same _ rfl⟩
    cases hd : decide (q > p) with
    | true => have := of_decide_eq_true hd; simp [execOp, ho, resolve, hc, ha', invoke, builtin, Builtin.max_, Builtin.max2, h1.int, h2.int, this]
    | false => have := of_decide_eq_false hd; simp [execOp, ho, resolve, hc, ha', invoke, builtin, Builtin.max_, Builtin.max2, h1.int, h2.int, this]
  · cases hv

theorem s_mn (r : TsRel μ ts a) {c : Call} {x y : Operand} {x' y' : Opd} (ho : o.op = .call c) (hc : c.callee = .builtin .min) (ha : c.args.toList = [x, y]) (hx : compOpd x = some x') (hy : compOpd y = some y') (hv : pop ts (.mn x' y') = some v) : Did P μ a w o v := by
  have ha' : c.args = #[x, y] := Array.ext' (by simpa using ha)
  simp only [pop, popQ] at hv
  have h1 := compOpd_rel r hx
  have h2 := compOpd_rel r hy
  split at hv
  · rename_i k p k' q hb hb'
    rw [hb] at h1; rw [hb'] at h2
    simp only [Option.some.injEq] at hv; subst hv
    refine ⟨_, ?_, .same _ rfl⟩
    cases hd : decide (q < p) with
    | true => have := of_decide_eq_true hd; simp [execOp, ho, resolve, hc, ha', invoke, builtin, Builtin.min_, Builtin.min2, h1.int, h2.int, this]
    | false => have := of_decide_eq_false hd; simp [execOp, ho, resolve, hc, ha', invoke, builtin, Builtin.min_, Builtin.min2, h1.int, h2.int, this]
  · cases hv

theorem zeroCells_inv {t : TypeId} {z : List Value} (h : zeroCells P t = some z) : ∃ i zv, P.info? t = some i ∧ i.zero = some zv ∧ z = zv.cells.toList ∧ z.all plain = true ∧ z.length = i.size := by
  unfold zeroCells at h
  split at h
  · rename_i i hi
    split at h
    · rename_i zv hz
      cases hc : (zv.cells.toList.all plain && Nat.beq zv.cells.toList.length i.size) with
      | false => rw [hc] at h; cases h
      | true =>
        rw [hc] at h; simp only [cond_true, Option.some.injEq] at h
        simp only [Bool.and_eq_true] at hc
        exact ⟨i, zv, hi, hz, h.symm, by rw [← h]; exact hc.1, by rw [← h]; exact Nat.eq_of_beq_eq_true hc.2⟩
    · cases h
  · cases h

theorem s_build (r : TsRel μ ts a) {t : TypeId} {parts : Array (Nat × Operand)} {ps : List (Nat × Nat × Opd)} {z : List Value} (ho : o.op = .build t parts) (hz : zeroCells P t = some z)
    (hp : (∃ fields places, P.underlying t = some (.struct fields) ∧ fields.toList.mapM (fun f => (P.info? f.type).map fun i => (f.offset, i.size)) = some places ∧ compParts (places.toArray[·]?) parts.toList = some ps) ∨
      ∃ n e ie, P.underlying t = some (.array n e) ∧ P.info? e = some ie ∧ compParts (fun i => some (i * ie.size, ie.size)) parts.toList = some ps) (hv : pop ts (.build z ps) = some v) : Did P μ a w o v := by
  obtain ⟨i, zv, hi, hzv, hzz, hpl, hlen⟩ := zeroCells_inv hz
  simp only [pop, popQ] at hv
  split at hv
  · rename_i cs hcs
    simp only [Option.some.injEq] at hv; subst hv
    have hzr : VsRel μ z zv.cells.toList := by rw [← hzz]; exact VsRel.of_plain hpl
    have fin : ∀ place, compParts place parts.toList = some ps → (∀ out', Instr.fill place zv.cells (parts.map fun (i, x) => (i, a.eval x)).toList = some out' → P.built t (parts.map fun (i, x) => (i, a.eval x)).toList = some out') → Did P μ a w o (.agg cs.toArray) := by
      intro place h1 h2
      obtain ⟨out', g1, g2⟩ := fillA_run r place parts.toList ps z cs zv.cells h1 hzr hcs
      have hb := h2 out' (by simpa using g1)
      refine ⟨.agg out', ?_, .agg _ _ g2.1 g2.2⟩
      have := run_build w t (parts.map fun (i, x) => (i, a.eval x)) out' hb
      simp only [execOp, ho, Sem.run_bind, this, Result.andThen_ok]; rfl
    rcases hp with ⟨fields, places, h1, h2, h3⟩ | ⟨n, e, ie, h1, h2, h3⟩
    · refine fin _ h3 (fun out' g => ?_)
      unfold Program.built
      simp only [hi, h1, hzv, h2]
      exact g
    · refine fin _ h3 (fun out' g => ?_)
      unfold Program.built
      simp only [hi, h1, hzv, h2]
      exact g
  · cases hv

theorem oL_rel (r : TsRel μ ts a) : ∀ {l : List Operand} {l' : List Opd}, oL l = some l' → VsRel μ (evs ts l') (l.map a.eval)
  | [], l', h => by
    simp only [oL, Option.some.injEq] at h; subst h; exact .nil μ
  | x :: l, l', h => by
    simp only [oL] at h
    split at h
    · rename_i x' l'' hx hl
      simp only [Option.some.injEq] at h; subst h
      exact .cons (compOpd_rel r hx) (oL_rel r hl)
    · cases h

theorem s_mkFunc (r : TsRel μ ts a) {f : Nat} {fs cs : Array Operand} {fs' cs' : List Opd} (ho : o.op = .makeFunc (.func f) fs cs) (h1 : oL fs.toList = some fs') (h2 : oL cs.toList = some cs') (hv : pop ts (.mkFunc f fs' cs') = some v) : Did P μ a w o v := by
  simp only [pop, popQ, Option.some.injEq] at hv; subst hv
  have g1 := oL_rel r h1
  have g2 := oL_rel r h2
  refine ⟨.func (.func f) (fs.map a.eval) (cs.map a.eval), by simp [execOp, ho, Instr.makeFunc], ?_⟩
  exact .func _ _ _ _ _ (by simp) (by simpa using g1.1) (by simpa using g1.2) (by simpa using g2.1) (by simpa using g2.2)

theorem s_mkIface (r : TsRel μ ts a) {t : TypeId} {x : Operand} {y : Opd} {d : TypeDesc} (ho : o.op = .makeInterface t x) (hd : P.underlying t = some d) (hni : ∀ q, d ≠ .interface q) (hx : compOpd x = some y) (hv : pop ts (.mkIface t y) = some v) : Did P μ a w o v := by
  simp only [pop, popQ, Option.some.injEq] at hv; subst hv
  have hr := compOpd_rel r hx
  refine ⟨.iface t (a.eval x), ?_, .iface _ _ _ hr⟩
  have : (Instr.makeInterface t (a.eval x)).run P w = .ok (.iface t (a.eval x)) w := by
    unfold Instr.makeInterface
    cases d <;> first | (exact absurd rfl (hni _)) | simp [run_underlying hd]
  simp [execOp, ho, this]

theorem s_tyAs (r : TsRel μ ts a) {t u : TypeId} {x : Operand} {y : Opd} {d : TypeDesc} {i : TypeInfo} {z : Value} (ho : o.op = .typeAssert x u t true) (hd : P.underlying t = some d) (hni : ∀ q, d ≠ .interface q) (hi : P.info? t = some i) (hz : i.zero = some z) (hzs : selfOk z = true)
    (hx : compOpd x = some y) (hv : pop ts (.tyAs t z y) = some v) : Did P μ a w o v := by
  have two : ∀ {p p' : Value} (b : Bool), VRel μ p p' → VRel μ (.tuple #[p, .bool b]) (.tuple #[p', .bool b]) := by
    intro p p' b hp
    have := VsRel.cons hp (VsRel.single (.same (.bool b) rfl))
    exact .tuple _ _ this.1 this.2
  simp only [pop, popQ] at hv
  have hr := compOpd_rel r hx
  split at hv
  · rename_i u' v' hb
    rw [hb] at hr
    have hX : ∃ v'', a.eval x = .iface u' v'' ∧ VRel μ v' v'' := by
      generalize a.eval x = X at hr
      cases hr with
      | same _ hp => simp [plain] at hp
      | iface _ _ v'' h => exact ⟨v'', rfl, h⟩
    obtain ⟨v'', hX, hvv⟩ := hX
    rcases beq_cases u' t with ⟨b1, b2⟩ | ⟨b1, b2⟩
    · rw [b1] at hv; simp only [cond_true, Option.some.injEq] at hv; subst hv
      refine ⟨.tuple #[v'', .bool true], ?_, two true hvv⟩
      cases d <;> first | (exact absurd rfl (hni _)) | simp [execOp, ho, hX, Instr.typeAssert, run_underlying hd, b2]
    · rw [b1] at hv; simp only [cond_false, Option.some.injEq] at hv; subst hv
      refine ⟨.tuple #[z, .bool false], ?_, two false (VRel.self hzs μ)⟩
      cases d <;> first | (exact absurd rfl (hni _)) | simp [execOp, ho, hX, Instr.typeAssert, run_underlying hd, b2, zeroValue, typeInfo, hi, hz]
  · rename_i hb
    rw [hb] at hr
    have hX := hr.of_plain rfl
    simp only [Option.some.injEq] at hv; subst hv
    refine ⟨.tuple #[z, .bool false], ?_, two false (VRel.self hzs μ)⟩
    cases d <;> first | (exact absurd rfl (hni _)) | simp [execOp, ho, hX, Instr.typeAssert, run_underlying hd, zeroValue, typeInfo, hi, hz]
  · cases hv

theorem s_idxV1 (r : TsRel μ ts a) {t e : TypeId} {len : Nat} {inf : TypeInfo} {d : TypeDesc} {x i : Operand} {x' i' : Opd} (ho : o.op = .index t x i) (ht : P.underlying t = some (.array len e)) (hd : P.underlying e = some d) (hd1 : ∀ q, d ≠ .struct q) (hd2 : ∀ q q', d ≠ .array q q') (hi : P.info? e = some inf)
    (hx : compOpd x = some x') (hy : compOpd i = some i') (hv : pop ts (.idxV1 len inf.size x' i') = some v) : Did P μ a w o v := by
  simp only [pop, popQ, inB_eq] at hv
  split at hv
  · rename_i cs k n hb hn
    cases hc : (decide (0 ≤ n) && decide (n < len)) with
    | false => rw [hc] at hv; cases hv
    | true =>
      rw [hc] at hv; simp only [cond_true] at hv
      simp only [Bool.and_eq_true, decide_eq_true_eq] at hc
      have h1 := compOpd_rel r hx
      have h2 := compOpd_rel r hy
      rw [hb] at h1; rw [hn] at h2
      obtain ⟨cs', hX, hr⟩ := h1.agg_inv
      obtain ⟨v', g1, g2⟩ := hr.get hv
      have g1' : cs'[n.toNat * inf.size]? = some v' := by simpa using g1
      have ha : (isAgg e).run P w = .ok false w := by
        unfold isAgg
        cases d <;> first | (exact absurd rfl (hd1 _)) | (exact absurd rfl (hd2 _ _)) | simp [run_underlying hd]
      exact ⟨v', by simp [execOp, ho, hX, h2.int, Instr.index, asIntOf, run_underlying ht, hc.1, hc.2, sizeOf, typeInfo, hi, part, ha, g1'], g2⟩
  · cases hv

theorem s_idxVN (r : TsRel μ ts a) {t e : TypeId} {len : Nat} {inf : TypeInfo} {x i : Operand} {x' i' : Opd} (ho : o.op = .index t x i) (ht : P.underlying t = some (.array len e)) (hd : (∃ q, P.underlying e = some (.struct q)) ∨ ∃ q q', P.underlying e = some (.array q q')) (hi : P.info? e = some inf)
    (hx : compOpd x = some x') (hy : compOpd i = some i') (hv : pop ts (.idxVN len inf.size x' i') = some v) : Did P μ a w o v := by
  simp only [pop, popQ, inB_eq] at hv
  split at hv
  · rename_i cs k n hb hn
    cases hc : (decide (0 ≤ n) && decide (n < len) && Nat.ble (n.toNat * inf.size + inf.size) cs.toList.length) with
    | false => rw [hc] at hv; cases hv
    | true =>
      rw [hc] at hv; simp only [cond_true, Option.some.injEq] at hv; subst hv
      simp only [Bool.and_eq_true, decide_eq_true_eq] at hc
      have h1 := compOpd_rel r hx
      have h2 := compOpd_rel r hy
      rw [hb] at h1; rw [hn] at h2
      obtain ⟨cs', hX, hr⟩ := h1.agg_inv
      have ha := isAgg_true hd w
      refine ⟨.agg (cs'.extract (n.toNat * inf.size) (n.toNat * inf.size + inf.size)), by simp [execOp, ho, hX, h2.int, Instr.index, asIntOf, run_underlying ht, hc.1.1, hc.1.2, sizeOf, typeInfo, hi, part, ha], ?_⟩
      have hh := (hr.drop (n.toNat * inf.size)).take inf.size
      have e2 : (cs'.extract (n.toNat * inf.size) (n.toNat * inf.size + inf.size)).toList = (cs'.toList.drop (n.toNat * inf.size)).take inf.size := by
        simp [List.extract_eq_take_drop]
      exact .agg _ _ (by rw [e2]; exact hh.1) (by rw [e2]; exact hh.2)
  · cases hv

theorem isAggT_run {t : TypeId} {b : Bool} (h : isAggT P t = some b) (w : World) : (isAgg t).run P w = .ok b w := by
  unfold isAggT at h
  unfold isAgg
  split at h
  · rename_i q hq; simp only [Option.some.injEq] at h; subst h; simp [run_underlying hq]
  · rename_i q q' hq; simp only [Option.some.injEq] at h; subst h; simp [run_underlying hq]
  · rename_i d h1 h2 hd
    simp only [Option.some.injEq] at h; subst h
    cases d <;> first | (exact (h1 _ rfl).elim) | (exact (h2 _ _ rfl).elim) | simp [run_underlying hd]
  · cases h

theorem eqE_run : ∀ (n : Nat) (t : TypeId) (et : ET), compET P n t = some et → ∀ (k : Nat) (x y x' y' : Value) (b : Bool) (w : World), eqE et x y = some b → VRel μ x x' → VRel μ y y' → (Op.equalIn (k + n) t x' y').run P w = .ok b w := by
  intro n
  induction n with
  | zero => intro t et h; cases h
  | succ n ih =>
    intro t et h k x y x' y' b w hb hx hy
    simp only [compET] at h
    split at h
    · rename_i q hq
      simp only [Option.some.injEq] at h; subst h
      unfold eqE at hb
      split at hb <;> first | (rename_i heq; cases heq; done) | skip
      · rename_i k1 a k2 c _
        cases hk : decide (k1 = k2) with
        | false => rw [hk] at hb; cases hb
        | true =>
          rw [hk] at hb; simp only [cond_true, Option.some.injEq] at hb
          have hk := of_decide_eq_true hk
          subst hk; subst hb
          rw [hx.int, hy.int]
          exact run_equalIn_int w (k + n) t _ _ _ _ hq
      all_goals (first | cases hb | skip)
    · rename_i hq
      simp only [Option.some.injEq] at h; subst h
      unfold eqE at hb
      split at hb <;> first | (rename_i heq; cases heq; done) | skip
      · simp only [Option.some.injEq] at hb; subst hb
        rw [hx.bool, hy.bool]
        exact run_equalIn_bool' w (k + n) t _ _ hq
      all_goals (first | cases hb | skip)
    · rename_i hq
      simp only [Option.some.injEq] at h; subst h
      unfold eqE at hb
      split at hb <;> first | (rename_i heq; cases heq; done) | skip
      · simp only [Option.some.injEq] at hb; subst hb
        rw [hx.string, hy.string]
        exact run_equalIn_string w (k + n) t _ _ hq
      all_goals (first | cases hb | skip)
    · rename_i fields hq
      cases hs : P.stoodInHeld t with
      | true => rw [hs] at h; cases h
      | false =>
        rw [hs] at h; simp only [cond_false] at h
        have hf : P.underlying t = some (.struct (P.fieldsOf t)) := by rw [hq]; simp [Program.fieldsOf, hq]
        have hfe : P.fieldsOf t = fields := by simp [Program.fieldsOf, hq]
        -- field by field
        have key : ∀ (fs : List Field) (et : ET), compFs P (compET P n) fs = some et → ∀ (x y x' y' : Value) (b : Bool) (w : World), eqE et x y = some b → VRel μ x x' → VRel μ y y' →
            ∃ xs ys xs' ys', x = .agg xs ∧ y = .agg ys ∧ x' = .agg xs' ∧ y' = .agg ys' ∧ (Op.eqFields (k + n) xs' ys' fs).run P w = .ok b w := by
          intro fs
          induction fs with
          | nil =>
            intro et he x y x' y' b w hb hx hy
            simp only [compFs, Option.some.injEq] at he; subst he
            cases x with
            | agg xs =>
              cases y with
              | agg ys =>
                obtain ⟨xs', rfl, _⟩ := hx.agg_inv
                obtain ⟨ys', rfl, _⟩ := hy.agg_inv
                simp only [eqE, Option.some.injEq] at hb; subst hb
                exact ⟨xs, ys, xs', ys', rfl, rfl, rfl, rfl, rfl⟩
              | _ => simp [eqE] at hb
            | _ => simp [eqE] at hb
          | cons fl fs ihf =>
            intro et he x y x' y' b w hb hx hy
            simp only [compFs] at he
            cases hname : fl.name == "_" with
            | true => rw [hname] at he; cases he
            | false =>
              rw [hname] at he; simp only [cond_false] at he
              have hname : fl.name ≠ "_" := by simpa using hname
              split at he
              · rename_i i ag sub rest hi hag hsub hrest
                simp only [Option.some.injEq] at he; subst he
                cases x with
                | agg xs =>
                  cases y with
                  | agg ys =>
                    obtain ⟨xs', rfl, rx⟩ := hx.agg_inv
                    obtain ⟨ys', rfl, ry⟩ := hy.agg_inv
                    have hiagg := fun w => isAggT_run hag w
                    -- the parts
                    have parts : ∃ a c a' c' : Value, eqE (.fld ag fl.offset i.size sub rest) (.agg xs) (.agg ys) = (match eqE sub a c with
                          | some true => eqE rest (.agg xs) (.agg ys)
                          | some false => some false
                          | none => none) ∧ VRel μ a a' ∧ VRel μ c c' ∧ (∀ w : World, (part fl.type xs' fl.offset).run P w = .ok a' w) ∧ ∀ w : World, (part fl.type ys' fl.offset).run P w = .ok c' w := by
                      cases ag with
                      | true =>
                        cases hl : (Nat.ble (fl.offset + i.size) xs.toList.length && Nat.ble (fl.offset + i.size) ys.toList.length) with
                        | false => simp only [eqE, hl] at hb; cases hb
                        | true =>
                          have gx := (rx.drop fl.offset).take i.size
                          have gy := (ry.drop fl.offset).take i.size
                          have ex : (xs'.extract fl.offset (fl.offset + i.size)).toList = (xs'.toList.drop fl.offset).take i.size := by simp [List.extract_eq_take_drop]
                          have ey : (ys'.extract fl.offset (fl.offset + i.size)).toList = (ys'.toList.drop fl.offset).take i.size := by simp [List.extract_eq_take_drop]
                          refine ⟨.agg ((xs.toList.drop fl.offset).take i.size).toArray, .agg ((ys.toList.drop fl.offset).take i.size).toArray, .agg (xs'.extract fl.offset (fl.offset + i.size)), .agg (ys'.extract fl.offset (fl.offset + i.size)), by simp only [eqE, hl, cond_true]; rfl, .agg _ _ (by rw [ex]; exact gx.1) (by rw [ex]; exact gx.2), .agg _ _ (by rw [ey]; exact gy.1) (by rw [ey]; exact gy.2), ?_, ?_⟩
                          · intro w; simp [part, hiagg, sizeOf, typeInfo, hi]
                          · intro w; simp [part, hiagg, sizeOf, typeInfo, hi]
                      | false =>
                        simp only [eqE] at hb ⊢
                        split at hb
                        · rename_i a c ha hc
                          obtain ⟨a', a1, a2⟩ := rx.get ha
                          obtain ⟨c', c1, c2⟩ := ry.get hc
                          have a1' : xs'[fl.offset]? = some a' := by simpa using a1
                          have c1' : ys'[fl.offset]? = some c' := by simpa using c1
                          refine ⟨a, c, a', c', rfl, a2, c2, ?_, ?_⟩
                          · intro w; simp [part, hiagg, a1']
                          · intro w; simp [part, hiagg, c1']
                        · cases hb
                    obtain ⟨a, c, a', c', p1, p2, p3, p4, p5⟩ := parts
                    rw [p1] at hb
                    refine ⟨xs, ys, xs', ys', rfl, rfl, rfl, rfl, ?_⟩
                    simp only [Op.eqFields]
                    rw [if_pos hname]
                    simp only [Sem.run_bind, p4, p5, Result.andThen_ok]
                    split at hb
                    · rename_i hsubv
                      have := ih fl.type sub hsub k a c a' c' true w hsubv p2 p3
                      rw [this]
                      obtain ⟨_, _, _, _, e1, e2, e3, e4, hr⟩ := ihf rest hrest _ _ _ _ b w hb (.agg xs xs' rx.1 rx.2) (.agg ys ys' ry.1 ry.2)
                      cases e3; cases e4
                      simpa using hr
                    · rename_i hsubv
                      have := ih fl.type sub hsub k a c a' c' false w hsubv p2 p3
                      rw [this]
                      simp only [Option.some.injEq] at hb; subst hb
                      simp
                    · cases hb
                  | _ => cases ag <;> simp [eqE] at hb
                | _ => cases ag <;> simp [eqE] at hb
              · cases he
        obtain ⟨xs, ys, xs', ys', rfl, rfl, rfl, rfl, hr⟩ := key fields.toList et h x y x' y' b w hb hx hy
        rw [show k + (n + 1) = (k + n) + 1 from rfl, run_equalIn_struct w (k + n) t xs' ys' hf hs, hfe]
        exact hr
    · cases h

theorem structET_inv {t : TypeId} {et : ET} (h : structET P t = some et) : P.eqGuardType P.depth t = false ∧ compET P 6 t = some et ∧ ∃ q, P.underlying t = some (.struct q) := by
  unfold structET at h
  split at h
  · rename_i q hq
    cases hg : P.eqGuardType P.depth t with
    | true => rw [hg] at h; cases h
    | false => rw [hg] at h; exact ⟨rfl, h, q, hq⟩
  · cases h

theorem eqE_agg {t : TypeId} {et : ET} {q : Array Field} (hq : P.underlying t = some (.struct q)) (h : compET P 6 t = some et) {x y : Value} {b : Bool} (hb : eqE et x y = some b) : (∃ xs, x = .agg xs) ∧ ∃ ys, y = .agg ys := by
  simp only [compET, hq] at h
  cases hs : P.stoodInHeld t with
  | true => rw [hs] at h; cases h
  | false =>
    rw [hs] at h; simp only [cond_false] at h
    cases hl : q.toList with
    | nil =>
      rw [hl] at h; simp only [compFs, Option.some.injEq] at h; subst h
      cases x <;> cases y <;> first | (simp [eqE] at hb; done) | exact ⟨⟨_, rfl⟩, _, rfl⟩
    | cons fl r =>
      rw [hl] at h; simp only [compFs] at h
      cases hn : fl.name == "_" with
      | true => rw [hn] at h; cases h
      | false =>
        rw [hn] at h; simp only [cond_false] at h
        split at h
        · simp only [Option.some.injEq] at h; subst h
          rename_i ag _ _ _ _ _ _
          cases ag <;> cases x <;> cases y <;> first | (simp [eqE] at hb; done) | exact ⟨⟨_, rfl⟩, _, rfl⟩
        · cases h

theorem s_eqS (r : TsRel μ ts a) {op : BinOp} {t u : TypeId} {x y : Operand} {x' y' : Opd} {ng : Bool} {et : ET} (ho : o.op = .binOp op t x y u) (hop : op = .eql ∧ ng = false ∨ op = .neq ∧ ng = true) (he : structET P t = some et)
    (hx : compOpd x = some x') (hy : compOpd y = some y') (hv : pop ts (.eqS ng et x' y') = some v) : Did P μ a w o v := by
  obtain ⟨hg, hc, q, hq⟩ := structET_inv he
  simp only [pop, popQ] at hv
  split at hv
  · rename_i b hb
    simp only [Option.some.injEq] at hv; subst hv
    have rx := compOpd_rel r hx
    have ry := compOpd_rel r hy
    obtain ⟨⟨xs, e1⟩, ys, e2⟩ := eqE_agg hq hc hb
    have run := fun w => eqE_run 6 t et hc 9994 _ _ _ _ b w hb rx ry
    rw [e1] at rx; rw [e2] at ry
    obtain ⟨xs', hX, _⟩ := rx.agg_inv
    obtain ⟨ys', hY, _⟩ := ry.agg_inv
    rw [hX, hY] at run
    have g := fun w : World => run_eqGuard_agg w op t x y xs' ys' hg
    refine ⟨_, ?_, .same _ rfl⟩
    rcases hop with ⟨rfl, rfl⟩ | ⟨rfl, rfl⟩
    · simp only [execOp, ho, hX, hY, Sem.run_bind, g, Result.andThen_ok, run_eql_struct]
      rw [run]; rfl
    · simp only [execOp, ho, hX, hY, Sem.run_bind, g, Result.andThen_ok, run_neq_struct]
      rw [run]; rfl
  · cases hv

end
end
end Go.Proofs.Ytedldiimhbebdaa.Ai
