/- The operations that turn the heap. -/
import Derived.Test.YtedldiimhbebdaaAiSoundR
namespace Go.Proofs.Ytedldiimhbebdaa.Ai
noncomputable section
open Go.RowKit

section
variable {P : Program} {C : CRel} {μ : Map} {h h' : Heap} {B : Fr} {w0 : World} {ts : T Value} {a : Act} {w : World} {o : Oper} {v : Value}

def DidE (C : CRel) (P : Program) (μ : Map) (h' : Heap) (B : Fr) (w0 : World) (a : Act) (w : World) (o : Oper) (v : Value) : Prop :=
  ∃ μ' v' w', ((execOp a.eval o).run P w = .ok (.value v') w' ∨ ((execOp a.eval o).run P w = .ok .skip w' ∧ v' = undef)) ∧ μ.le μ' ∧ Rel C μ' h' B w0 w' ∧ VRel μ' v v'

theorem s_store (R : Rel C μ h B w0 w) (r : TsRel μ ts a) {t : TypeId} {x y : Operand} {x' y' : Opd} {i : TypeInfo} (ho : o.op = .store t x y) (hi : P.info? t = some i) (hx : compOpd x = some x') (hy : compOpd y = some y')
    (hv : eop ts h (.store i.size x' y') = some (v, h')) : DidE C P μ h' B w0 a w o v := by
  simp only [eop, eopQ] at hv
  split at hv
  · rename_i b o' hb
    cases hc : (Nat.beq (ev ts y').cells.toList.length i.size && Nat.ble 1 i.size) with
    | false => rw [hc] at hv; cases hv
    | true =>
      rw [hc] at hv; simp only [cond_true] at hv
      simp only [Bool.and_eq_true] at hc
      split at hv
      · rename_i h1 hw
        simp only [Option.some.injEq, Prod.mk.injEq] at hv
        obtain ⟨rfl, rfl⟩ := hv
        have c1 := Nat.eq_of_beq_eq_true hc.1
        have c2 := ble_true hc.2
        have g1 := compOpd_rel r hx
        rw [hb] at g1
        obtain ⟨e, he, hX⟩ := g1.ptr_inv
        have g2 := cells_rel (compOpd_rel r hy)
        obtain ⟨w', _, hst, R'⟩ := R.wrs hw g2 (by intro hn; rw [hn] at c1; simp at c1; omega) he
        refine ⟨μ, undef, w', .inr ⟨?_, rfl⟩, μ.le_refl, R', undef_rel μ⟩
        have hsz : (a.eval y).cells.size = i.size := by rw [← c1, g2.1]; simp
        simp [execOp, ho, hX, Instr.storeAt, Instr.sureAddr, storeVar, sizeOf, typeInfo, hi, hsz, hst P]
      · cases hv
  · cases hv

theorem ent_ptr (μ : Map) (n b s k e : Nat) : VRel (μ.put n ⟨b, 0, e, s, k⟩) (.pointer (some ⟨n, 0, none⟩)) (.pointer (some ⟨b, 0, none⟩)) := by
  have := VRel.ptr (μ := μ.put n ⟨b, 0, e, s, k⟩) n 0 ⟨b, 0, e, s, k⟩ (Map.put_same _ _ _)
  simpa using this

theorem ent_slice (μ : Map) (n b s e len cap : Nat) : VRel (μ.put n ⟨b, 0, e, s, cap * s⟩) (.slice (some ⟨n, 0, none⟩) len cap) (.slice (some ⟨b, 0, none⟩) len (cap + e)) := by
  have := VRel.slice (μ := μ.put n ⟨b, 0, e, s, cap * s⟩) n 0 len cap ⟨b, 0, e, s, cap * s⟩ (Map.put_same _ _ _)
  simpa using this

/-- a new row -/
def DidN (P : Program) (μ : Map) (h h' : Heap) (a : Act) (w : World) (o : Oper) (v : Value) : Prop :=
  ∃ (k : Blk) (cc : Array Value) (el : TypeId) (V : Value), h' = h.new k ∧ k.own = true ∧ k.grown = false ∧ k.cells.length ≤ k.n ∧ cc.size = k.n ∧ (∀ (i : Nat) (v : Value), k.cells[i]? = some v → ∃ v', cc[i]? = some v' ∧ VRel μ v v') ∧
    (execOp a.eval o).run P w = .ok (.value V) (w.alloc (.cells cc el)) ∧ (∀ ν : Map, VRel (ν.put h.next ⟨w.heap.size, 0, 0, k.s, k.n⟩) v V) ∧ ((∃ x, V = .pointer (some x)) ∨ (∃ x n c, V = .slice (some x) n c))

theorem DidN.did (R : Rel C μ h B w0 w) (x : DidN P μ h h' a w o v) : DidE C P μ h' B w0 a w o v := by
  obtain ⟨k, cc, el, V, rfl, x1, x2, x3, x4, x5, x6, x7, _⟩ := x
  obtain ⟨R', hle⟩ := R.new k x1 cc el 0 (fun _ => rfl) x3 (by simpa using x4) x5
  exact ⟨_, V, _, .inl x6, hle, R', x7 μ⟩

theorem s_box (R : Rel C μ h B w0 w) (r : TsRel μ ts a) {t : TypeId} {x : Operand} {x' : Opd} {n : Nat} (ho : o.op = .box t x) (hx : compOpd x = some x') (hv : eop ts h (.box n x') = some (v, h')) : DidE C P μ h' B w0 a w o v := by
  simp only [eop, eopQ] at hv
  cases hc : Nat.beq (ev ts x').cells.toList.length n with
  | false => rw [hc] at hv; cases hv
  | true =>
    rw [hc] at hv; simp only [cond_true, Option.some.injEq, Prod.mk.injEq] at hv
    obtain ⟨rfl, rfl⟩ := hv
    have c1 := Nat.eq_of_beq_eq_true hc
    have g2 := cells_rel (compOpd_rel r hx)
    obtain ⟨R', hle⟩ := R.new { cells := (ev ts x').cells.toList, n := n, s := n, own := true, grown := false } rfl (a.eval x).cells t 0 (fun _ => rfl) (by simp only; omega) (by simp only; rw [← c1, g2.1]; simp)
      (fun i v hi => by obtain ⟨v', q1, q2⟩ := g2.get hi; exact ⟨v', by simpa using q1, q2⟩)
    refine ⟨_, .pointer (some ⟨w.heap.size, 0, none⟩), w.alloc (.cells (a.eval x).cells t), .inl ?_, hle, R', ent_ptr _ _ _ _ _ _⟩
    simp [execOp, ho, Instr.box, newVar, newRow]

theorem n_alloc {t : TypeId} {z : List Value} (ho : o.op = .alloc t) (hz : zeroCells P t = some z) (hv : eop ts h (.alloc z) = some (v, h')) : DidN P μ h h' a w o v := by
  obtain ⟨i, zv, hi, hzv, hzz, hpl, hlen⟩ := zeroCells_inv hz
  simp only [eop, eopQ, Option.some.injEq, Prod.mk.injEq] at hv
  obtain ⟨rfl, rfl⟩ := hv
  have hzr : VsRel μ z zv.cells.toList := by rw [← hzz]; exact VsRel.of_plain hpl
  refine ⟨{ cells := z, n := z.length, s := z.length, own := true, grown := false }, zv.cells, t, .pointer (some ⟨w.heap.size, 0, none⟩), rfl, rfl, rfl, Nat.le_refl _, by simp only; rw [hzr.1]; simp,
    fun i v hi => by obtain ⟨v', q1, q2⟩ := hzr.get hi; exact ⟨v', by simpa using q1, q2⟩, ?_, fun ν => ent_ptr _ _ _ _ _ _, .inl ⟨_, rfl⟩⟩
  simp [execOp, ho, Instr.alloc, newVar, newRow, zeroValue, typeInfo, hi, hzv]

theorem s_alloc (R : Rel C μ h B w0 w) {t : TypeId} {z : List Value} (ho : o.op = .alloc t) (hz : zeroCells P t = some z) (hv : eop ts h (.alloc z) = some (v, h')) : DidE C P μ h' B w0 a w o v := (n_alloc ho hz hv).did R

theorem rep_length (z : List Value) : ∀ n, (rep z n).length = n * z.length
  | 0 => by simp [rep]
  | n + 1 => by simp [rep, rep_length z n, Nat.add_mul]; omega

theorem rep_get (z : List Value) : ∀ (n i : Nat), i < n * z.length → (rep z n)[i]? = z[i % z.length]?
  | 0, i, h => by omega
  | n + 1, i, h => by
    rw [Nat.add_mul, Nat.one_mul] at h
    simp only [rep, List.getElem?_append]
    split
    · rename_i hi; rw [Nat.mod_eq_of_lt hi]
    · rename_i hi
      rw [rep_get z n _ (by omega)]
      congr 1
      rw [← Nat.mod_eq_sub_mod (by omega)]

theorem rep_plain {z : List Value} (h : z.all plain = true) : ∀ n, (rep z n).all plain = true
  | 0 => rfl
  | n + 1 => by simp only [rep, List.all_append, h, rep_plain h n, Bool.and_self]

/-- a row of zeros, as the model makes it -/
theorem zeros_rel (μ : Map) {zv : Array Value} (hpl : zv.toList.all plain = true) (hs : 0 < zv.size) (n : Nat) :
    VsRel μ (rep zv.toList n) ((Array.range (n * zv.size)).map (zv[· % zv.size]!)).toList := by
  refine ⟨by simp [rep_length], fun i v v' a b => ?_⟩
  have hi : i < n * zv.size := by have := (List.getElem?_eq_some_iff.1 a).1; simpa [rep_length] using this
  rw [rep_get _ _ _ (by simpa using hi)] at a
  simp only [Array.toList_map, Array.toList_range, List.getElem?_map, List.getElem?_range hi, Option.map_some, Option.some.injEq] at b
  have hm : i % zv.size < zv.size := Nat.mod_lt _ hs
  have e : zv.toList[i % zv.toList.length]? = some zv[i % zv.size]! := by
    rw [Array.length_toList, Array.getElem?_toList, Array.getElem?_eq_getElem hm, getElem!_pos zv (i % zv.size) hm]
  rw [e] at a
  simp only [Option.some.injEq] at a
  rw [← a, ← b]
  refine .same _ (List.all_eq_true.1 hpl _ ?_)
  rw [getElem!_pos zv (i % zv.size) hm]
  simp

theorem range0 {α : Type} (f : Nat → α) : (Array.range 0).map f = #[] := by apply Array.ext'; simp

theorem n_buildS (r : TsRel μ ts a) {t e : TypeId} {len s q : Nat} {parts : Array (Nat × Operand)} {ps : List (Nat × Nat × Opd)} {z : List Value} (ho : o.op = .buildSlice t len parts) (he : elemOf' P t = some (e, s, q)) (hz : zeroCells P e = some z)
    (h1 : len * s ≤ 1000000) (h2 : 1 ≤ s) (hp : compParts (fun i => some (i * s, s)) parts.toList = some ps) (hv : eop ts h (.buildS s len (rep z len) ps) = some (v, h')) : DidN P μ h h' a w o v := by
  obtain ⟨i, zv, hi, hzv, hzz, hpl, hlen⟩ := zeroCells_inv hz
  unfold elemOf' at he
  split at he
  · rename_i e' hu
    split at he
    · rename_i i' hi'
      simp only [Option.some.injEq, Prod.mk.injEq] at he
      obtain ⟨rfl, rfl, rfl⟩ := he
      rw [hi] at hi'; cases hi'
      simp only [eop, eopQ] at hv
      split at hv
      · rename_i cs hcs
        simp only [Option.some.injEq, Prod.mk.injEq] at hv
        obtain ⟨rfl, rfl⟩ := hv
        have hzs : zv.cells.size = i.size := by rw [← hlen, hzz]; simp
        have hzr := zeros_rel μ (zv := zv.cells) (by rw [← hzz]; exact hpl) (by omega) len
        rw [← hzz, hzs] at hzr
        obtain ⟨out', g1, g2⟩ := fillA_run r (fun j => some (j * i.size, i.size)) parts.toList ps (rep z len) cs ((Array.range (len * i.size)).map (zv.cells[· % i.size]!)) hp hzr hcs
        have hfl : ∀ (l : List Value) (qs : List (Nat × Nat × Value)) (out : List Value), fillA l qs = some out → out.length = l.length := by
          intro l qs
          induction qs generalizing l with
          | nil => intro out hq; simp only [fillA, Option.some.injEq] at hq; rw [hq]
          | cons p qs ih =>
            intro out hq
            obtain ⟨x1, x2, x3⟩ := p
            simp only [fillA] at hq
            cases hc : (Nat.beq x3.cells.toList.length x2 && Nat.ble (x1 + x2) l.length) with
            | false => rw [hc] at hq; cases hq
            | true =>
              rw [hc] at hq; simp only [cond_true] at hq
              simp only [Bool.and_eq_true] at hc
              have c1 := Nat.eq_of_beq_eq_true hc.1
              have c2 := ble_true hc.2
              rw [ih _ _ hq, splice_length _ _ _ (by omega)]
        have hcl : cs.length = len * i.size := by rw [hfl _ _ _ hcs, rep_length, hlen]
        have hvr : ∀ ν : Map, VRel (ν.put h.next ⟨w.heap.size, 0, 0, i.size, len * i.size⟩) (.slice (some ⟨h.next, 0, none⟩) len len) (.slice (some ⟨w.heap.size, 0, none⟩) len len) := fun ν => by simpa using ent_slice ν h.next w.heap.size i.size 0 len len
        refine ⟨{ cells := cs, n := len * i.size, s := i.size, own := true, grown := false }, out', e', .slice (some ⟨w.heap.size, 0, none⟩) len len, rfl, rfl, rfl, (by simp only; omega), (by simp only; rw [← hcl, g2.1]; simp),
          (fun j v hj => by obtain ⟨v', q1, q2⟩ := g2.get hj; exact ⟨v', by simpa using q1, q2⟩), ?_, hvr, .inr ⟨_, _, _, rfl⟩⟩
        have n1 : ¬ (len * i.size > 2 ^ 24) := by omega
        have n1' : ¬ (16777216 < len * i.size) := by omega
        have g1' : Instr.fill (fun j => some (j * i.size, i.size)) ((Array.range (len * i.size)).map (zv.cells[· % zv.cells.size]!)) (parts.map fun x => (x.fst, a.eval x.snd)).toList = some out' := by
          rw [hzs]; simpa using g1
        cases hn : decide (len * i.size = 0) with
        | false =>
          have hn := of_decide_eq_false hn
          simp only [execOp, ho, Instr.buildSlice, Sem.run_bind, run_underlying hu, Result.andThen_ok, sizeOf, typeInfo, run_program, hi, Sem.run_pure, n1, if_false, hn, zeroValue, hzv]
          simp only [Sem.run_pure, g1', Sem.run_bind]
          simp [newRow]
        | true =>
          have hn := of_decide_eq_true hn
          have hl0 : len = 0 := by rcases Nat.mul_eq_zero.1 hn with q | q <;> omega
          subst hl0
          rw [Nat.zero_mul, range0] at g1'
          simp only [execOp, ho, Instr.buildSlice, Sem.run_bind, run_underlying hu, Result.andThen_ok, sizeOf, typeInfo, run_program, hi, Sem.run_pure, Nat.zero_mul, if_true]
          simp only [gt_iff_lt, Nat.not_lt_zero, if_false, Sem.run_pure, Result.andThen_ok, range0, Sem.run_bind, g1']
          simp [newRow]
      · cases hv
    · cases he
  · cases he

theorem s_buildS (R : Rel C μ h B w0 w) (r : TsRel μ ts a) {t e : TypeId} {len s q : Nat} {parts : Array (Nat × Operand)} {ps : List (Nat × Nat × Opd)} {z : List Value} (ho : o.op = .buildSlice t len parts) (he : elemOf' P t = some (e, s, q)) (hz : zeroCells P e = some z)
    (h1 : len * s ≤ 1000000) (h2 : 1 ≤ s) (hp : compParts (fun i => some (i * s, s)) parts.toList = some ps) (hv : eop ts h (.buildS s len (rep z len) ps) = some (v, h')) : DidE C P μ h' B w0 a w o v := (n_buildS r ho he hz h1 h2 hp hv).did R

theorem n_mkS (r : TsRel μ ts a) {t e : TypeId} {s q : Nat} {l c : Operand} {l' c' : Opd} {z : List Value} (ho : o.op = .makeSlice t l c) (he : elemOf' P t = some (e, s, q)) (hz : zeroCells P e = some z)
    (h2 : 1 ≤ s) (hl : compOpd l = some l') (hc : compOpd c = some c') (hv : eop ts h (.mkS s q z l' c') = some (v, h')) : DidN P μ h h' a w o v := by
  obtain ⟨i, zv, hi, hzv, hzz, hpl, hlen⟩ := zeroCells_inv hz
  unfold elemOf' at he
  split at he
  · rename_i e' hu
    split at he
    · rename_i i' hi'
      simp only [Option.some.injEq, Prod.mk.injEq] at he
      obtain ⟨rfl, rfl, rfl⟩ := he
      rw [hi] at hi'; cases hi'
      simp only [eop, eopQ] at hv
      split at hv
      · rename_i ln cn hln hcn
        cases hb : (Nat.ble ln cn && Nat.ble (i.bytes * cn) 1099511627776 && Nat.ble cn 1099511627776) with
        | false => rw [hb] at hv; cases hv
        | true =>
          rw [hb] at hv; simp only [cond_true, Option.some.injEq, Prod.mk.injEq] at hv
          obtain ⟨rfl, rfl⟩ := hv
          simp only [Bool.and_eq_true] at hb
          have b1 := ble_true hb.1.1
          have b2 := ble_true hb.1.2
          have b3 := ble_true hb.2
          obtain ⟨k1, e1⟩ := asNat_inv hln
          obtain ⟨k2, e2⟩ := asNat_inv hcn
          have g1 := compOpd_rel r hl
          have g2 := compOpd_rel r hc
          rw [e1] at g1; rw [e2] at g2
          have hzs : zv.cells.size = i.size := by rw [← hlen, hzz]; simp
          have hzr := zeros_rel μ (zv := zv.cells) (by rw [← hzz]; exact hpl) (by omega) cn
          rw [← hzz, hzs] at hzr
          have hvr : ∀ ν : Map, VRel (ν.put h.next ⟨w.heap.size, 0, 0, i.size, cn * i.size⟩) (.slice (some ⟨h.next, 0, none⟩) ln cn) (.slice (some ⟨w.heap.size, 0, none⟩) ln cn) := fun ν => by simpa using ent_slice ν h.next w.heap.size i.size 0 ln cn
          refine ⟨{ cells := rep z cn, n := cn * i.size, s := i.size, own := true, grown := false }, (Array.range (cn * i.size)).map (zv.cells[· % i.size]!), e', .slice (some ⟨w.heap.size, 0, none⟩) ln cn, rfl, rfl, rfl, (by simp only [rep_length]; rw [hlen]; exact Nat.le_refl _), (by simp),
            (fun j v hj => by obtain ⟨v', q1, q2⟩ := hzr.get hj; exact ⟨v', by rw [← Array.getElem?_toList]; exact q1, q2⟩), ?_, hvr, .inr ⟨_, _, _, rfl⟩⟩
          have w1 : IntKind.i64.wrap (ln : Int) = ln := IntWalk.i64_in _ (by omega)
          have w2 : IntKind.i64.wrap (cn : Int) = cn := IntWalk.i64_in _ (by omega)
          have tl : ¬ ((cn : Int) < 0) := by omega
          have tl' : ¬ ((ln : Int) < 0) := by omega
          have tb : ¬ ((2 : Int) ^ 48 < (i.bytes : Int) * (cn : Int)) := by
            have e48 : (2 : Int) ^ 48 = 281474976710656 := by decide
            rw [e48, ← Int.natCast_mul]; omega
          have tb' : ¬ (281474976710656 < (i.bytes : Int) * (cn : Int)) := by
            have e48 : (2 : Int) ^ 48 = 281474976710656 := by decide
            rwa [e48] at tb
          have tc : ¬ ((cn : Int) < (ln : Int)) := by omega
          cases hn : decide (cn * i.size = 0) with
          | false =>
            have hn := of_decide_eq_false hn
            simp [execOp, ho, Instr.makeSlice, run_underlying hu, asInt, asIntOf, g1.int, g2.int, typeInfo, hi, w1, w2, tl, tl', tb', tc, sizeOf, zeroValue, hzv, newRow, hzs]
            exact fun hq => absurd hq hn
          | true =>
            have hn := of_decide_eq_true hn
            have hl0 : cn = 0 := by rcases Nat.mul_eq_zero.1 hn with q | q <;> omega
            subst hl0
            have : ln = 0 := by omega
            subst this
            simp [execOp, ho, Instr.makeSlice, run_underlying hu, asInt, asIntOf, g1.int, g2.int, typeInfo, hi, sizeOf, newRow, IntKind.wrap, IntKind.bits, IntKind.signed, range0]
      · cases hv
    · cases he
  · cases he


theorem s_mkS (R : Rel C μ h B w0 w) (r : TsRel μ ts a) {t e : TypeId} {s q : Nat} {l c : Operand} {l' c' : Opd} {z : List Value} (ho : o.op = .makeSlice t l c) (he : elemOf' P t = some (e, s, q)) (hz : zeroCells P e = some z)
    (h2 : 1 ≤ s) (hl : compOpd l = some l') (hc : compOpd c = some c') (hv : eop ts h (.mkS s q z l' c') = some (v, h')) : DidE C P μ h' B w0 a w o v := (n_mkS r ho he hz h2 hl hc hv).did R

/-- what is appended: so many elements, these cells -/
structure Src (P : Program) (w : World) (i : TypeInfo) (u : TypeId) (y : Value) (z : Value) (n : Nat) (news : List Value) : Prop where
  len : news.length = n * i.size
  from_ : ((∃ q, P.underlying u = some (.slice q)) ∧ (∃ yb yc, y = .slice yb n yc) ∧ ∀ w' : World, (∀ a, w'.cell? a = w.cell? a) → (Builtin.firstCells i.size n y).run P w' = .ok news.toArray w') ∨
    ((∃ q, P.underlying u = some (.int q)) ∧ (∃ k, y = .int k (n : Nat)) ∧ n ≤ 1099511627776 ∧ n * i.bytes ≤ 1099511627776 ∧ news.toArray = Builtin.zeroCells z.cells n)

theorem app_room {t e u ty : TypeId} {i : TypeInfo} {z y : Value} {n : Nat} {news : List Value} (ht : P.underlying t = some (.slice e)) (hi : P.info? e = some i) (hz : i.zero = some z) (hs : Src P w i u y z n news) (base : Option Addr) (sLen sCap : Nat) (hroom : sLen + n ≤ sCap) :
    (Builtin.append_ #[t, u] ty #[.slice base sLen sCap, y]).run P w = (match base with
      | some a => ((storeCells (a.add (sLen * i.size)) news).run P w).andThen fun _ w' => .ok (.slice base (sLen + n) sCap) w'
      | none => .ok (.slice base (sLen + n) sCap) w) := by
  rcases hs.from_ with ⟨⟨q, hu⟩, ⟨yb, yc, rfl⟩, hf⟩ | ⟨⟨q, hu⟩, ⟨k, rfl⟩, h1, h2, h3⟩
  · have hf0 := hf w (fun _ => rfl)
    cases base <;> simp [Builtin.append_, run_underlying ht, run_underlying hu, sizeOf, typeInfo, hi, Builtin.lenOf, hroom, hf0]
  · have w1 : IntKind.i64.wrap (n : Int) = n := IntWalk.i64_in _ (by omega)
    have e48 : (2 : Int) ^ 48 = 281474976710656 := by decide
    have n1 : ¬ ((n : Int) < 0) := by omega
    have n2 : ¬ ((2 : Int) ^ 48 < (n : Int) * (i.bytes : Int)) := by rw [e48, ← Int.natCast_mul]; omega
    have n2' : ¬ (281474976710656 < (n : Int) * (i.bytes : Int)) := by rwa [e48] at n2
    have hl := hs.len
    cases hn : decide (n * i.size = 0) with
    | true =>
      have hn := of_decide_eq_true hn
      have : news = [] := List.eq_nil_of_length_eq_zero (by omega)
      subst this
      have hn' : n = 0 ∨ i.size = 0 := Nat.mul_eq_zero.1 hn
      cases base <;> simp [Builtin.append_, run_underlying ht, run_underlying hu, sizeOf, typeInfo, hi, hroom, asInt, asIntOf, w1, n1, n2'] <;> exact fun q => absurd hn q
    | false =>
      have hn := of_decide_eq_false hn
      have hn' : ¬ (n = 0 ∨ i.size = 0) := fun q => hn (Nat.mul_eq_zero.2 q)
      cases base
      · simp [Builtin.append_, run_underlying ht, run_underlying hu, sizeOf, typeInfo, hi, hroom, asInt, asIntOf, w1, n1, n2', zeroValue, hz, ← h3]
      · simp [Builtin.append_, run_underlying ht, run_underlying hu, sizeOf, typeInfo, hi, hroom, asInt, asIntOf, w1, n1, n2', zeroValue, hz, ← h3]
        exact fun q => absurd q hn

theorem app_grow {t e u ty : TypeId} {i : TypeInfo} {z y : Value} {n : Nat} {news : List Value} (ht : P.underlying t = some (.slice e)) (hi : P.info? e = some i) (hz : i.zero = some z) (hs : Src P w i u y z n news) (base : Option Addr) (sLen sCap : Nat) (hroom : ¬ (sLen + n ≤ sCap))
    (h63 : sLen + n ≤ 1099511627776) (hfit : (sLen + n) * i.bytes ≤ 1099511627776) (olds : List Value) (hold : ∀ w' : World, (∀ a, w'.cell? a = w.cell? a) → (Builtin.firstCells i.size sLen (.slice base sLen sCap)).run P w' = .ok olds.toArray w') :
    (Builtin.append_ #[t, u] ty #[.slice base sLen sCap, y]).run P w = .ok (.slice (some ⟨w.heap.size, 0, none⟩) (sLen + n) (grownCap w (sLen + n) sCap e))
      (w.drew.alloc (.cells ((olds ++ news).toArray ++ Builtin.zeroCells z.cells (grownCap w (sLen + n) sCap e - (sLen + n))) e)) := by
  have hold' := hold w.drew (fun _ => rfl)
  have hcap : Builtin.nextslicecap (sLen + n) sCap * i.bytes ≤ 281474976710656 := growslice_fits (by omega) (by omega)
  have c1 : ¬ (281474976710656 < Builtin.nextslicecap (sLen + n) sCap * i.bytes) := by omega
  have c2 : ¬ (9223372036854775807 < ((sLen : Int) + (n : Int))) := by omega
  rcases hs.from_ with ⟨⟨q, hu⟩, ⟨yb, yc, rfl⟩, hf⟩ | ⟨⟨q, hu⟩, ⟨k, rfl⟩, h1, h2, h3⟩
  · have hf0 := hf w.drew (fun _ => rfl)
    simp [Builtin.append_, run_underlying ht, run_underlying hu, sizeOf, typeInfo, hi, Builtin.lenOf, hroom, c1, c2, Question.forced, hold', hf0, zeroValue, hz, newRow, grownCap]
    refine congrArg (fun c => w.drew.alloc (Obj.cells c e)) ?_
    apply Array.ext'
    simp
  · have w1 : IntKind.i64.wrap (n : Int) = n := IntWalk.i64_in _ (by omega)
    have e48 : (2 : Int) ^ 48 = 281474976710656 := by decide
    have n1 : ¬ ((n : Int) < 0) := by omega
    have n2 : ¬ ((2 : Int) ^ 48 < (n : Int) * (i.bytes : Int)) := by rw [e48, ← Int.natCast_mul]; omega
    have n2' : ¬ (281474976710656 < (n : Int) * (i.bytes : Int)) := by rwa [e48] at n2
    have hl := hs.len
    cases hn : decide (n * i.size = 0) with
    | true =>
      have hn := of_decide_eq_true hn
      have : news = [] := List.eq_nil_of_length_eq_zero (by omega)
      subst this
      have hn' : n = 0 ∨ i.size = 0 := Nat.mul_eq_zero.1 hn
      simp [Builtin.append_, run_underlying ht, run_underlying hu, sizeOf, typeInfo, hi, hroom, asInt, asIntOf, w1, n1, n2', c1, c2, Question.forced, hold', zeroValue, hz, newRow, grownCap]
      exact fun q => absurd hn q
    | false =>
      have hn := of_decide_eq_false hn
      have hn' : ¬ (n = 0 ∨ i.size = 0) := fun q => hn (Nat.mul_eq_zero.2 q)
      simp [Builtin.append_, run_underlying ht, run_underlying hu, sizeOf, typeInfo, hi, hroom, asInt, asIntOf, w1, n1, n2', c1, c2, Question.forced, hold', zeroValue, hz, newRow, grownCap, ← h3]
      rw [if_neg hn]
      refine congrArg (fun c => Result.ok (Value.slice (some ⟨w.heap.size, 0, none⟩) (sLen + n) (grownCap w (sLen + n) sCap e)) (w.drew.alloc (Obj.cells c e))) ?_
      apply Array.ext'
      simp

end
end
end Go.Proofs.Ytedldiimhbebdaa.Ai
