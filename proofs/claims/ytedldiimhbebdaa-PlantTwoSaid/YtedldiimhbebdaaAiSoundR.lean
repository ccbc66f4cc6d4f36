/- The operations that read the heap. -/
import Derived.Test.YtedldiimhbebdaaAiSoundQ
namespace Go.Proofs.Ytedldiimhbebdaa.Ai
noncomputable section
open Go.RowKit

section
variable {P : Program} {C : CRel} {μ : Map} {h : Heap} {B : Fr} {w0 : World} {ts : T Value} {a : Act} {w : World} {o : Oper} {v : Value}

theorem s_load1 (R : Rel C μ h B w0 w) (r : TsRel μ ts a) {t : TypeId} {x : Operand} {y : Opd} {d : TypeDesc} (ho : o.op = .load t x) (hd : P.underlying t = some d) (hd1 : ∀ q, d ≠ .struct q) (hd2 : ∀ q q', d ≠ .array q q')
    (hx : compOpd x = some y) (hv : rop ts h (.load1 y) = some v) : Did P μ a w o v := by
  simp only [rop, ropQ] at hv
  split at hv
  · rename_i b o' hb
    have h1 := compOpd_rel r hx
    rw [hb] at h1
    obtain ⟨e, he, hX⟩ := h1.ptr_inv
    obtain ⟨v', g1, g2⟩ := R.rd hv he
    refine ⟨v', ?_, g2⟩
    have ha : (isAgg t).run P w = .ok false w := by
      unfold isAgg
      cases d <;> first | (exact absurd rfl (hd1 _)) | (exact absurd rfl (hd2 _ _)) | simp [run_underlying hd]
    simp [execOp, ho, hX, Instr.loadAt, Instr.sureAddr, loadVar, ha, g1]
  · cases hv

theorem s_loadN (R : Rel C μ h B w0 w) (r : TsRel μ ts a) {t : TypeId} {x : Operand} {y : Opd} {i : TypeInfo} (ho : o.op = .load t x) (hd : (∃ q, P.underlying t = some (.struct q)) ∨ ∃ q q', P.underlying t = some (.array q q')) (hi : P.info? t = some i)
    (hx : compOpd x = some y) (hv : rop ts h (.loadN i.size y) = some v) : Did P μ a w o v := by
  simp only [rop, ropQ] at hv
  split at hv
  · rename_i b o' hb
    split at hv
    · rename_i l hl
      simp only [Option.some.injEq] at hv; subst hv
      have h1 := compOpd_rel r hx
      rw [hb] at h1
      obtain ⟨e, he, hX⟩ := h1.ptr_inv
      obtain ⟨l', g1, g2, g3⟩ := R.rds hl he
      have hload := run_loadCells_list (P := P) w ⟨e.blk, e.base + o', none⟩ l' g2
      rw [g1] at hload
      refine ⟨.agg l'.toArray, ?_, .agg _ _ (by simpa using g3.1) (by simpa using g3.2)⟩
      simp [execOp, ho, hX, Instr.loadAt, Instr.sureAddr, loadVar, isAgg_true hd, sizeOf, typeInfo, hi, hload]
    · cases hv
  · cases hv

theorem asNat_inv {x : Value} {n : Nat} (h : asNat x = some n) : ∃ k, x = .int k n := by
  unfold asNat at h
  split at h
  · rename_i k m
    cases hd : decide (0 ≤ m) with
    | false => rw [hd] at h; cases h
    | true =>
      rw [hd] at h; simp only [cond_true, Option.some.injEq] at h
      have := of_decide_eq_true hd
      exact ⟨k, by rw [← h]; congr 1; omega⟩
  · cases h

theorem bound_run {x : Value} {n : Nat} {k : IntKind} (hx : x = .int k n) (y : Nat) (hy : n ≤ y) (code : BoundsCode) (w : World) : (Instr.sliceBound x y code).run P w = .ok n w := by
  subst hx
  have h1 : (0 : Int) ≤ (n : Int) ∧ (n : Int) ≤ (y : Int) := ⟨by omega, by omega⟩
  simp [Instr.sliceBound, asIntOf, h1]

/-- the bounds of a slice: what they are in the run, what they are in the model -/
theorem bounds_run (r : TsRel μ ts a) {lo hi mx : Option Operand} {lo' hi' mx' : Option Opd} (hlo : (lo = none ∧ lo' = none) ∨ ∃ X y, lo = some X ∧ compOpd X = some y ∧ lo' = some y) (hhi : (hi = none ∧ hi' = none) ∨ ∃ X y, hi = some X ∧ compOpd X = some y ∧ hi' = some y)
    (hmx : (mx = none ∧ mx' = none) ∨ ∃ X y, mx = some X ∧ compOpd X = some y ∧ mx' = some y) {len cap C l hh m : Nat} (hC : cap ≤ C)
    (h1 : asNO ts 0 lo' = some l) (h2 : asNO ts len hi' = some hh) (h3 : asNO ts cap mx' = some m)
    (b1 : l ≤ hh) (b2 : hh ≤ m) (b3 : m ≤ cap) (hm0 : mx' = none ∨ hi'.isSome = true) (w : World) :
    (Instr.sliceBounds true len C (lo.map a.eval) (hi.map a.eval) (mx.map a.eval)).run P w = .ok (l, hh, if mx'.isSome then m else C) w := by
  have val : ∀ {X y n}, compOpd X = some y → asNat (ev ts y) = some n → ∃ k, a.eval X = .int k (n : Nat) := by
    intro X y n hc hn
    obtain ⟨k, hk⟩ := asNat_inv hn
    have := compOpd_rel r hc
    rw [hk] at this
    exact ⟨k, this.int⟩
  rcases hmx with ⟨rfl, rfl⟩ | ⟨X3, y3, rfl, c3, rfl⟩
  · simp only [asNO, Option.some.injEq] at h3
    rcases hhi with ⟨rfl, rfl⟩ | ⟨X2, y2, rfl, c2, rfl⟩
    · simp only [asNO, Option.some.injEq] at h2
      rcases hlo with ⟨rfl, rfl⟩ | ⟨X1, y1, rfl, c1, rfl⟩
      · simp only [asNO, Option.some.injEq] at h1
        simp [Instr.sliceBounds, h1, h2]
      · obtain ⟨k1, e1⟩ := val c1 h1
        have := fun code w => bound_run (P := P) e1 hh b1 code w
        subst h2
        simp [Instr.sliceBounds, this]
    · obtain ⟨k2, e2⟩ := val c2 h2
      have g2 := fun code w => bound_run (P := P) e2 C (by omega) code w
      rcases hlo with ⟨rfl, rfl⟩ | ⟨X1, y1, rfl, c1, rfl⟩
      · simp only [asNO, Option.some.injEq] at h1
        simp [Instr.sliceBounds, h1, g2]
      · obtain ⟨k1, e1⟩ := val c1 h1
        have := fun code w => bound_run (P := P) e1 hh b1 code w
        simp [Instr.sliceBounds, this, g2]
  · rcases hhi with ⟨rfl, rfl⟩ | ⟨X2, y2, rfl, c2, rfl⟩
    · simp at hm0
    · obtain ⟨k2, e2⟩ := val c2 h2
      obtain ⟨k3, e3⟩ := val c3 h3
      have g2 := fun code w => bound_run (P := P) e2 m b2 code w
      have g3 := fun code w => bound_run (P := P) e3 C (by omega) code w
      rcases hlo with ⟨rfl, rfl⟩ | ⟨X1, y1, rfl, c1, rfl⟩
      · simp only [asNO, Option.some.injEq] at h1
        simp [Instr.sliceBounds, h1, g2, g3]
      · obtain ⟨k1, e1⟩ := val c1 h1
        have := fun code w => bound_run (P := P) e1 hh b1 code w
        simp [Instr.sliceBounds, this, g2, g3]


theorem vague_rel (μ : Map) (b o k : Nat) (p : Option Addr) (hp : p.isSome = true) (c : Nat) : VRel μ (.slice (some ⟨b, o, some k⟩) 0 0) (.slice p 0 c) := by
  cases p with
  | none => cases hp
  | some q => exact .vague b o k q c

theorem if_some {c : Prop} [Decidable c] {p q : Option Addr} (hp : p.isSome = true) (hq : q.isSome = true) : (if c then p else q).isSome = true := by split <;> assumption

theorem slice_run {t e : TypeId} {inf : TypeInfo} (ht : P.underlying t = some (.slice e)) (hin : P.info? e = some inf) (x : Value) (base : Option Addr) (len C : Nat) (lo hi mx : Option Value) (l hh m : Nat)
    (hX : x = .slice base len C) (hb : ∀ w : World, (Instr.sliceBounds true len C lo hi mx).run P w = .ok (l, hh, m) w) : (Instr.sliceAt t x lo hi mx).run P w = .ok (.slice (if m = l then base else base.map (·.add (l * inf.size))) (hh - l) (m - l)) w := by
  subst hX
  simp only [Instr.sliceAt, Sem.run_bind, run_underlying ht, Result.andThen_ok, Instr.slice, hb]
  simp [sizeOf, typeInfo, hin]

theorem s_slice (R : Rel C μ h B w0 w) (r : TsRel μ ts a) {t e : TypeId} {inf : TypeInfo} {x : Operand} {x' : Opd} {lo hi mx : Option Operand} {lo' hi' mx' : Option Opd} (ho : o.op = .slice t x lo hi mx) (ht : P.underlying t = some (.slice e)) (hin : P.info? e = some inf) (hx : compOpd x = some x')
    (hlo : (lo = none ∧ lo' = none) ∨ ∃ X y, lo = some X ∧ compOpd X = some y ∧ lo' = some y) (hhi : (hi = none ∧ hi' = none) ∨ ∃ X y, hi = some X ∧ compOpd X = some y ∧ hi' = some y)
    (hmx : (mx = none ∧ mx' = none) ∨ ∃ X y, mx = some X ∧ compOpd X = some y ∧ mx' = some y) (hv : rop ts h (.slice inf.size x' lo' hi' mx') = some v) : Did P μ a w o v := by
  simp only [rop, ropQ] at hv
  have h1 := compOpd_rel r hx
  have exec : ∀ {V : Value}, (∀ w : World, (Instr.sliceAt t (a.eval x) (lo.map a.eval) (hi.map a.eval) (mx.map a.eval)).run P w = .ok V w) → (execOp a.eval o).run P w = .ok (.value V) w := by
    intro V hV
    simp only [execOp, ho, Sem.run_bind, hV, Result.andThen_ok]; rfl
  split at hv
  · cases hv
  · rename_i l hl
    split at hv
    · rename_i base len cap hb
      rw [hb] at h1
      split at hv
      · rename_i hh m hhh hm
        cases hc : (Nat.ble l hh && Nat.ble hh m && Nat.ble m cap && (mx'.isNone || hi'.isSome)) with
        | false => rw [hc] at hv; cases hv
        | true =>
          rw [hc] at hv; simp only [cond_true] at hv
          simp only [Bool.and_eq_true, Bool.or_eq_true] at hc
          obtain ⟨⟨⟨b1, b2⟩, b3⟩, b4⟩ := hc
          have b1 := ble_true b1
          have b2 := ble_true b2
          have b3 := ble_true b3
          have b4 : mx' = none ∨ hi'.isSome = true := b4.imp (fun hq => by simpa using hq) id
          have bnd : ∀ C, cap ≤ C → ∀ w : World, (Instr.sliceBounds true len C (lo.map a.eval) (hi.map a.eval) (mx.map a.eval)).run P w = .ok (l, hh, if mx'.isSome then m else C) w :=
            fun C hC w => bounds_run r hlo hhi hmx hC hl hhh hm b1 b2 b3 b4 w
          have hmn : mx' = none → m = cap := by intro hq; subst hq; simpa [asNO] using hm.symm
          split at hv
          · simp only [Option.some.injEq] at hv; subst hv
            have hX := h1.of_plain rfl
            refine ⟨.slice none (hh - l) (m - l), exec (fun w => ?_), .same _ rfl⟩
            rw [slice_run (w := w) ht hin _ none len cap _ _ _ l hh m hX (fun w => ?_)]
            · simp
            · rw [bnd cap (Nat.le_refl _) w]
              cases hq : mx' with
              | none => simp [hmn hq]
              | some q => simp
          · rename_i b o'
            split at hv
            · rename_i k hk
              cases hs : Nat.beq k.s inf.size with
              | false => rw [hs] at hv; cases hv
              | true =>
                rw [hs] at hv; simp only [cond_true] at hv
                have hs := Nat.eq_of_beq_eq_true hs
                obtain ⟨en, he, hX⟩ := h1.slice_inv
                obtain ⟨en', he', x2⟩ := R.blk b k hk
                rw [he] at he'; cases he'
                have es : en.s = inf.size := by rw [x2.s, hs]
                have enn := x2.n
                have hC : cap ≤ (if o' + cap * en.s = en.n then cap + en.extra else cap) := by split <;> omega
                have run := fun w => slice_run (w := w) ht hin _ _ len _ _ _ _ l hh _ hX (fun w => bnd _ hC w)
                cases hml : Nat.beq m l with
                | true =>
                  rw [hml] at hv; simp only [cond_true, Option.some.injEq] at hv; subst hv
                  have hml := Nat.eq_of_beq_eq_true hml
                  have hz : hh - l = 0 := by omega
                  refine ⟨_, exec (fun w => run w), ?_⟩
                  rw [hz]
                  exact vague_rel μ _ _ _ _ (if_some rfl rfl) _
                | false =>
                  rw [hml] at hv; simp only [cond_false] at hv
                  have hml : m ≠ l := Nat.ne_of_beq_eq_false hml
                  cases hg : (mx'.isSome && (k.grown && Nat.beq (o' + m * inf.size) k.n)) with
                  | true => rw [hg] at hv; cases hv
                  | false =>
                    rw [hg] at hv; simp only [cond_false, Option.some.injEq] at hv; subst hv
                    refine ⟨_, exec (fun w => run w), ?_⟩
                    have hne : (if mx'.isSome = true then m else if o' + cap * en.s = en.n then cap + en.extra else cap) ≠ l := by split <;> omega
                    rw [if_neg hne]
                    have key : (if mx'.isSome = true then m else if o' + cap * en.s = en.n then cap + en.extra else cap) - l = if (o' + l * inf.size) + (m - l) * en.s = en.n then (m - l) + en.extra else m - l := by
                      have hadd : (o' + l * inf.size) + (m - l) * en.s = o' + m * en.s := by
                        rw [es, Nat.sub_mul]
                        have : l * inf.size ≤ m * inf.size := Nat.mul_le_mul_right _ (by omega)
                        omega
                      rw [hadd]
                      cases hq : mx' with
                      | none =>
                        have := hmn hq
                        subst this
                        simp only [Option.isSome_none, Bool.false_eq_true, if_false]
                        split <;> omega
                      | some q =>
                        rw [hq] at hg
                        simp only [Option.isSome_some, Bool.true_and, Bool.and_eq_false_iff] at hg
                        simp only [Option.isSome_some, if_true]
                        split
                        · rename_i hend
                          rcases hg with hg | hg
                          · have := x2.grown hg; omega
                          · exact absurd (by rw [← es, ← enn]; exact hend) (Nat.ne_of_beq_eq_false hg)
                        · rfl
                    rw [key]
                    simp only [Option.map_some, Addr.add_lit]
                    rw [Nat.add_assoc]
                    exact .slice b (o' + l * inf.size) (hh - l) (m - l) en he
            · cases hv
          · rename_i b o' q
            cases hz : (Nat.beq len 0 && Nat.beq cap 0) with
            | false => rw [hz] at hv; cases hv
            | true =>
              rw [hz] at hv; simp only [cond_true, Option.some.injEq] at hv; subst hv
              simp only [Bool.and_eq_true] at hz
              have z1 := Nat.eq_of_beq_eq_true hz.1
              have z2 := Nat.eq_of_beq_eq_true hz.2
              subst z1; subst z2
              have hX : ∃ a' c', a.eval x = .slice (some a') 0 c' := by
                generalize a.eval x = X at h1
                cases h1 with
                | same _ hp => simp [plain] at hp
                | vague => exact ⟨_, _, rfl⟩
              obtain ⟨a', c', hX⟩ := hX
              have run := fun w => slice_run (w := w) ht hin _ _ 0 _ _ _ _ l hh _ hX (fun w => bnd _ (Nat.zero_le c') w)
              refine ⟨_, exec (fun w => run w), ?_⟩
              have hz : hh - l = 0 := by omega
              rw [hz]
              exact vague_rel μ _ _ _ _ (if_some rfl rfl) _
      · cases hv
    · cases hv

theorem s_cap (R : Rel C μ h B w0 w) (r : TsRel μ ts a) {c : Call} {x : Operand} {t e : TypeId} {y : Opd} (ho : o.op = .call c) (hc : c.callee = .builtin .cap) (ha : c.args.toList = [x]) (hts : c.argTypes.toList = [t]) (ht : P.underlying t = some (.slice e))
    (hx : compOpd x = some y) (hv : rop ts h (.cap y) = some v) : Did P μ a w o v := by
  have ha' : c.args = #[x] := Array.ext' (by simpa using ha)
  have hts' : c.argTypes = #[t] := Array.ext' (by simpa using hts)
  have run : ∀ p n q, a.eval x = .slice p n q → (execOp a.eval o).run P w = .ok (.value (.int .i64 q)) w := by
    intro p n q hX
    simp [execOp, ho, resolve, hc, ha', hts', invoke, builtin, Builtin.cap_, run_underlying ht, hX, goInt]
  simp only [rop, ropQ] at hv
  have h1 := compOpd_rel r hx
  split at hv
  · rename_i n q hb
    rw [hb] at h1
    simp only [Option.some.injEq] at hv; subst hv
    exact ⟨_, run _ _ _ (h1.of_plain rfl), .same _ rfl⟩
  · rename_i b o' n q hb
    rw [hb] at h1
    split at hv
    · rename_i k hk
      cases hg : (k.grown && Nat.beq (o' + q * k.s) k.n) with
      | true => rw [hg] at hv; cases hv
      | false =>
        rw [hg] at hv; simp only [cond_false, Option.some.injEq] at hv; subst hv
        obtain ⟨en, he, hX⟩ := h1.slice_inv
        obtain ⟨en', he', x2⟩ := R.blk b k hk
        rw [he] at he'; cases he'
        have : (if o' + q * en.s = en.n then q + en.extra else q) = q := by
          split
          · rename_i hend
            simp only [Bool.and_eq_false_iff] at hg
            rcases hg with hg | hg
            · have := x2.grown hg; omega
            · exact absurd (by rw [← x2.s, ← x2.n]; exact hend) (Nat.ne_of_beq_eq_false hg)
          · rfl
        rw [this] at hX
        exact ⟨_, run _ _ _ hX, .same _ rfl⟩
    · cases hv
  · cases hv

end
end
end Go.Proofs.Ytedldiimhbebdaa.Ai
