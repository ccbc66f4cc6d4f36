/- One operation after the other. -/
import Derived.Test.YtedldiimhbebdaaAiCode
namespace Go.Proofs.Ytedldiimhbebdaa.Ai
noncomputable section
open Go.RowKit

def FnOk (P : Program) (f : Nat) : Prop := ∃ fn, P.funcs[f]? = some fn ∧ fn.name ≠ "runtime.NumGoroutine" ∧ fn.body.isSome = true

/-- what the model's code is told by -/
abbrev Cc (P : Program) : CRel := fun N c ac => compCode P N c = ac

def CallPost (P : Program) (μ : Map) (h' : Heap) (B : Fr) (w0 : World) (v : Value) : Ending → World → Prop := fun e w' => ∃ μ' v', e = .returned v' ∧ μ.le μ' ∧ Rel (Cc P) μ' h' B w0 w' ∧ VRel μ' v v'

/-- the calls of a run are the model's -/
structure CallsOk (P : Program) (cf : CallF) (B : Fr) (w0 : World) : Prop where
  fn : ∀ f args h v h', cf (.fn f) args h = some (v, h') → FnOk P f ∧ ∀ μ w args', Rel (Cc P) μ h B w0 w → VsRel μ args args' → Calls P f args'.toArray w (CallPost P μ h' B w0 v)
  yield : ∀ b args h v h', cf (.yield b) args h = some (v, h') → ∀ μ w args' e, Rel (Cc P) μ h B w0 w → VsRel μ args args' → μ b = some e →
    ∃ f tmps asg body, (Instr.yield e.blk args'.toArray).run P w = .ok (.round e.blk f tmps asg body) w ∧ RoundIn Fence.wide 0 P e.blk f tmps asg body w (CallPost P μ h' B w0 v)
  marks : ∀ t args h v h', cf t args h = some (v, h') → h'.marks = h.marks

/-- a fence about nothing: of a function's activation, or of a round's -/
def FW (ro : Option Nat) : Fence := { Fence.wide with round := ro }

theorem callsIn_FW {ro : Option Nat} {n : Nat} {P : Program} {f : FuncId} {args : Array Value} {w : World} {R : Ending → World → Prop} (h : Calls P f args w R) : CallsIn (FW ro) n P f args w R := (callsIn_wide (n := n)).2 h
theorem calls_FW {ro : Option Nat} {n : Nat} {P : Program} {f : FuncId} {args : Array Value} {w : World} {R : Ending → World → Prop} (h : CallsIn (FW ro) n P f args w R) : Calls P f args w R := (callsIn_wide (n := n)).1 h
theorem roundIn_FW {ro ro' : Option Nat} {n : Nat} {P : Program} {l : Nat} {f : FuncId} {tmps : Array Value} {assign body : Code} {w : World} {R : Ending → World → Prop} (h : RoundIn (FW ro) n P l f tmps assign body w R) : RoundIn (FW ro') n P l f tmps assign body w R := h

theorem depth_FW {ro : Option Nat} {n : Nat} : (FW ro).depth.isSome = true → 1 ≤ n := fun h => by cases h

theorem op_in {ro : Option Nat} {P : Program} {o : Oper} {a : Act} {w : World} {K : Act → World → Prop} {Q : Exit → Act → World → Prop} (hd : ∀ c, o.op ≠ .defer c) (h : o.uponIn (FW ro) 0 P a K Q ((execOp a.eval o).run P w)) : o.wpIn (FW ro) 0 P a w K Q := by
  refine ⟨fun _ _ => trivial, ?_⟩
  have : Oper.semAt (FW ro).round a.eval o = execOp a.eval o := by
    cases ro with
    | none => rfl
    | some l => exact Oper.semAt_some l _ o hd
  rw [this]; exact h

theorem callFunc_run {P : Program} {f : Nat} (h : FnOk P f) (args : Array Value) (w : World) : (callFunc f args).run P w = .ok (.enter f args) w := by
  obtain ⟨fn, h1, h2, h3⟩ := h
  simp [callFunc, h1, h2]
  intro hn; rw [hn] at h3; cases h3

section
variable {P : Program} {μ : Map} {h h' : Heap} {B : Fr} {w0 : World} {ts : T Value} {a : Act} {w : World} {o : Oper} {v : Value} {cf : CallF}

/-- one that lays a new row -/
theorem new_did {q : AOp} (f : Form P o q) (hn : newOp q = true) (r : TsRel μ ts a) (hv : step1 cf ts h q = some (v, h')) : DidN P μ h h' a w o v := by
  cases q with
  | e q =>
    have f : EForm P o q := f
    simp only [step1, step1Q] at hv
    cases f with
    | alloc t z ho hz => exact n_alloc ho hz hv
    | buildS t e len s q parts ps z ho he hz h1 h2 hp => exact n_buildS r ho he hz h1 h2 hp hv
    | mkS t e s q l c l' c' z ho he hz h2 hl hc => exact n_mkS r ho he hz h2 hl hc hv
    | _ => cases hn
  | _ => cases hn


theorem lookT_mem {t f : Nat} : ∀ {l : List (Nat × Nat)}, lookT t l = some f → (t, f) ∈ l
  | [], h => by cases h
  | (u, g) :: r, h => by
    simp only [lookT] at h
    rcases beq_cases u t with ⟨b1, b2⟩ | ⟨b1, b2⟩
    · rw [b1] at h; simp only [cond_true, Option.some.injEq] at h; subst h; subst b2; simp
    · rw [b1] at h; simp only [cond_false] at h; exact List.mem_cons_of_mem _ (lookT_mem h)

theorem methTbl_mem {name : String} {t f : Nat} : ∀ {l : List Nat}, (t, f) ∈ methTbl P name l → ∃ i e m, P.info? t = some i ∧ P.underlying t = some (.pointer e) ∧ i.methods.find? (fun m => m.name == name) = some m ∧ m.path.toList = [] ∧ m.func = some (f, true)
  | [], h => by cases h
  | u :: r, h => by
    simp only [methTbl] at h
    split at h
    · rename_i i e hi hu
      split at h
      · rename_i m hm
        split at h
        · rename_i g hp hg
          rcases List.mem_cons.1 h with h | h
          · cases h; exact ⟨i, e, m, hi, hu, hm, hp, hg⟩
          · exact methTbl_mem h
        · exact methTbl_mem h
      · exact methTbl_mem h
    · exact methTbl_mem h

theorem callMethod_run {name : String} {t f : Nat} {l : List Nat} (h : (t, f) ∈ methTbl P name l) (hf : FnOk P f) (v : Value) (args : Array Value) (w : World) : (callMethod (.iface t v) name args).run P w = .ok (.enter f (#[v] ++ args)) w := by
  obtain ⟨i, e, m, hi, hu, hm, hp, hg⟩ := methTbl_mem h
  have hp' : m.path = #[] := Array.ext' (by simpa using hp)
  have hmeth : ∀ k, (method (k + 1) t v name).run P w = .ok (f, v) w := by
    intro k
    simp [method, typeInfo, hi, hm, hp', follow, hg, receiverAt, run_underlying hu, Place.get]
  have hd : P.types.size + Made.depth = (P.types.size + 99) + 1 := rfl
  simp only [callMethod, Sem.run_bind, run_program, Result.andThen_ok, hd, hmeth, callFunc_run hf]

theorem op_wp {ro : Option Nat} {A : AOp} {K : Act → World → Prop} {Q : Exit → Act → World → Prop} (hf : Form P o A) (hb : ∀ c, o.op = .defer c → A = .bad) (hc : CallsOk P cf B w0) (R : Rel (Cc P) μ h B w0 w) (r : TsRel μ ts a) (hv : step1 cf ts h A = some (v, h'))
    (hK : ∀ μ' v' w', μ.le μ' → Rel (Cc P) μ' h' B w0 w' → VRel μ' v v' → K (a.put o.dst v') w') : o.wpIn (FW ro) 0 P a w K Q := by
  have hnd : ∀ c, o.op ≠ .defer c := fun c h => by rw [hb c h] at hv; simp [step1, step1Q] at hv
  refine op_in hnd ?_
  cases A with
  | p q =>
    simp only [step1, step1Q] at hv
    split at hv
    · rename_i u hu
      simp only [Option.some.injEq, Prod.mk.injEq] at hv; obtain ⟨rfl, rfl⟩ := hv
      obtain ⟨v', h1, h2⟩ := pop_sound (w := w) (show comp P o.op = .p q from hf) r hu
      rw [h1, Oper.uponIn_value]
      exact hK μ v' w μ.le_refl R h2
    · cases hv
  | r q =>
    simp only [step1, step1Q] at hv
    split at hv
    · rename_i u hu
      simp only [Option.some.injEq, Prod.mk.injEq] at hv; obtain ⟨rfl, rfl⟩ := hv
      obtain ⟨v', h1, h2⟩ := rop_sound (show RForm P o q from hf) R r hu
      rw [h1, Oper.uponIn_value]
      exact hK μ v' w μ.le_refl R h2
    · cases hv
  | e q =>
    simp only [step1, step1Q] at hv
    obtain ⟨μ', v', w', h1, h2, h3, h4⟩ := eop_sound (show EForm P o q from hf) R r hv
    rcases h1 with h1 | ⟨h1, h5⟩
    · rw [h1, Oper.uponIn_value]; exact hK μ' v' w' h2 h3 h4
    · rw [h1, Oper.uponIn_skip]; subst h5; exact hK μ' undef w' h2 h3 h4
  | call f l =>
    simp only [step1, step1Q] at hv
    have hf' : CForm o f l := hf
    cases hf' with
    | call c _ _ ho hcal hl =>
      obtain ⟨g1, g2⟩ := hc.fn f _ h v h' hv
      have g3 := g2 μ w _ R (oL_rel r hl)
      have hrun : (execOp a.eval o).run P w = .ok (.enter f (c.args.map a.eval)) w := by
        have := callFunc_run g1 (c.args.map a.eval) w
        simp [execOp, ho, resolve, hcal, Deferred.ofValue, Act.eval, invoke, this]
      rw [hrun, Oper.uponIn_enter]
      have e1 : (c.args.toList.map a.eval).toArray = c.args.map a.eval := by apply Array.ext'; simp
      rw [e1] at g3
      refine ⟨depth_FW, callsIn_FW (g3.mono ?_)⟩
      rintro e w' ⟨μ', v', rfl, h2, h3, h4⟩
      exact hK μ' v' w' h2 h3 h4
  | callv x l =>
    simp only [step1, step1Q] at hv
    have hf' : VForm o x l := hf
    cases hf' with
    | callv c t _ ho hcal hl =>
      have hx : VRel μ (ev ts (.t t)) (a.eval (.tmp t)) := r t
      split at hv
      · rename_i f fs cs hfn
        rw [hfn] at hx
        obtain ⟨g1, g2⟩ := hc.fn f _ h v h' hv
        have hX : ∃ fs' cs' : Array Value, a.eval (.tmp t) = .func (.func f) fs' cs' ∧ VsRel μ fs.toList fs'.toList ∧ VsRel μ cs.toList cs'.toList := by
          generalize a.eval (.tmp t) = X at hx
          cases hx with
          | same _ hp => simp [plain] at hp
          | func _ _ fs' _ cs' q0 q1 q2 q3 q4 => exact ⟨fs', cs', rfl, ⟨q1, q2⟩, ⟨q3, q4⟩⟩
        obtain ⟨fs', cs', hX, k1, k2⟩ := hX
        have g3 := g2 μ w _ R ((k1.append (oL_rel r hl)).append k2)
        have hrun : (execOp a.eval o).run P w = .ok (.enter f (fs' ++ (c.args.map a.eval ++ cs'))) w := by
          have := callFunc_run g1 (fs' ++ (c.args.map a.eval ++ cs')) w
          simp [execOp, ho, resolve, hcal, hX, Deferred.ofValue, invoke, this]
        rw [hrun, Oper.uponIn_enter]
        have e1 : (fs'.toList ++ c.args.toList.map a.eval ++ cs'.toList).toArray = fs' ++ (c.args.map a.eval ++ cs') := by apply Array.ext'; simp
        rw [e1] at g3
        refine ⟨depth_FW, callsIn_FW (g3.mono ?_)⟩
        rintro e w' ⟨μ', v', rfl, h2, h3, h4⟩
        exact hK μ' v' w' h2 h3 h4
      · rename_i b fs cs hfn
        rw [hfn] at hx
        have hX : ∃ e : Ent, μ b = some e ∧ a.eval (.tmp t) = .func (.yield e.blk) #[] #[] := by
          generalize a.eval (.tmp t) = X at hx
          cases hx with
          | same _ hp => simp [plain] at hp
          | yield _ e he => exact ⟨e, he, rfl⟩
          | func _ _ _ _ _ q0 => exact absurd rfl (q0 _)
        obtain ⟨e, he, hX⟩ := hX
        obtain ⟨f, tmps, asg, body, g1, g2⟩ := hc.yield b _ h v h' hv μ w _ e R (oL_rel r hl) he
        have e1 : (c.args.toList.map a.eval).toArray = c.args.map a.eval := by apply Array.ext'; simp
        rw [e1] at g1
        have hrun : (execOp a.eval o).run P w = .ok (.round e.blk f tmps asg body) w := by
          simp [execOp, ho, resolve, hcal, hX, Deferred.ofValue, invoke, g1]
        rw [hrun, Oper.uponIn_round]
        refine ⟨depth_FW, roundIn_FW (ro := none) (g2.mono ?_)⟩
        rintro e w' ⟨μ', v', rfl, h2, h3, h4⟩
        exact hK μ' v' w' h2 h3 h4
      · cases hv
  | invoke tbl x l =>
    simp only [step1, step1Q] at hv
    have hf' : IForm P o tbl x l := hf
    cases hf' with
    | invoke c x' y name _ ho hcal hx hl =>
      have hx := compOpd_rel r hx
      split at hv
      · rename_i t u hiv
        rw [hiv] at hx
        split at hv
        · rename_i f hlk
          obtain ⟨g1, g2⟩ := hc.fn f _ h v h' hv
          have hX : ∃ u', a.eval x' = .iface t u' ∧ VRel μ u u' := by
            generalize a.eval x' = X at hx
            cases hx with
            | same _ hp => simp [plain] at hp
            | iface _ _ u' q => exact ⟨u', rfl, q⟩
          obtain ⟨u', hX, k1⟩ := hX
          have g3 := g2 μ w _ R (VsRel.cons k1 (oL_rel r hl))
          have hrun : (execOp a.eval o).run P w = .ok (.enter f (#[u'] ++ c.args.map a.eval)) w := by
            have := callMethod_run (lookT_mem hlk) g1 u' (c.args.map a.eval) w
            have e2 : (#[Value.iface t u'] ++ c.args.map a.eval).extract 1 (#[Value.iface t u'] ++ c.args.map a.eval).size = c.args.map a.eval := by
              apply Array.ext'
              simp [List.take_of_length_le]
            simp only [execOp, ho, resolve, hcal, hX, Sem.run_bind, Sem.run_pure, Result.andThen_ok, invoke]
            rw [e2]
            have e3 : (#[Value.iface t u'] ++ c.args.map a.eval)[0]? = some (Value.iface t u') := by rw [Array.getElem?_append_left (by simp)]; rfl
            rw [e3]
            exact this
          rw [hrun, Oper.uponIn_enter]
          have e1 : (u' :: c.args.toList.map a.eval).toArray = #[u'] ++ c.args.map a.eval := by apply Array.ext'; simp
          rw [e1] at g3
          refine ⟨depth_FW, callsIn_FW (g3.mono ?_)⟩
          rintro e w' ⟨μ', v', rfl, h2, h3, h4⟩
          exact hK μ' v' w' h2 h3 h4
        · cases hv
      · cases hv
  | bad => simp [step1, step1Q] at hv

theorem tsrel_put (r : TsRel μ ts a) {v v' : Value} (hv : VRel μ v v') {d : Option Nat} (hd : dstOk a.tmps.size d = true) : TsRel μ (putA ts d v) (a.put d v') := by
  cases d with
  | none => exact r
  | some d =>
    have hlt : d < a.tmps.size := by
      have : Nat.ble (d + 1) a.tmps.size = true := hd
      have := ble_true this; omega
    intro t
    by_cases ht : t = d
    · subst ht
      simp only [putA, look, T.get_put_same, Act.put, Array.getD_eq_getD_getElem?, Array.getElem?_setIfInBounds]
      simp only [if_true, if_pos hlt, Option.getD_some]
      exact hv
    · have := r t
      simp only [putA, look, T.get_put_other _ _ ht, Act.put, Array.getD_eq_getD_getElem?, Array.getElem?_setIfInBounds] at this ⊢
      rw [if_neg (fun q => ht q.symm)]
      exact this

theorem put_size (d : Option Nat) (v : Value) : (a.put d v).tmps.size = a.tmps.size := by cases d <;> simp [Act.put]
theorem put_defers (d : Option Nat) (v : Value) : (a.put d v).defers = a.defers := by cases d <;> rfl

structure OperOk (P : Program) (N : Nat) (ops : Array Oper) (o : Oper) (ao : AOper) : Prop where
  dst : ao.dst = o.dst
  dok : dstOk N o.dst = true
  form : Form P o ao.op
  nod : ∀ c, o.op = .defer c → ao.op = .bad
  guard : (o.guard = none ∧ ao.guard = none) ∨ ∃ j want d, o.guard = some (j, want) ∧ (ops.toList[j]?).bind (·.dst) = some d ∧ d < N ∧ ao.guard = some (d, want)

theorem compOper_ok {N : Nat} {ops : Array Oper} {ao : AOper} (h : compOper P N ops o = some ao) : OperOk P N ops o ao := by
  unfold compOper at h
  cases hd : dstOk N o.dst with
  | false => rw [hd] at h; cases h
  | true =>
    rw [hd] at h; simp only [cond_true] at h
    split at h
    · rename_i hg
      simp only [Option.some.injEq] at h; subst h
      exact ⟨rfl, hd, form_of rfl, fun c hc => by rw [hc]; rfl, .inl ⟨hg, rfl⟩⟩
    · rename_i j want hg
      split at h
      · rename_i d hj
        cases hlt : Nat.blt d N with
        | false => rw [hlt] at h; cases h
        | true =>
          rw [hlt] at h; simp only [cond_true, Option.some.injEq] at h; subst h
          have : Nat.ble (d + 1) N = true := hlt
          have := ble_true this
          exact ⟨rfl, hd, form_of rfl, fun c hc => by rw [hc]; rfl, .inr ⟨j, want, d, hg, hj, Nat.lt_of_succ_le this, rfl⟩⟩
      · cases h

def asB : Value → Option Bool
  | .bool b => some b
  | _ => none

theorem isB_rel {x x' : Value} (h : VRel μ x x') (want : Bool) : isB x want = (asB x' == some want) := by
  cases h with
  | same x hp => cases x <;> first | (cases hp; done) | rfl | (rename_i b; cases b <;> cases want <;> rfl)
  | top _ hv => rcases hv with ⟨a, rfl⟩ | ⟨a, n, c, rfl⟩ <;> rfl
  | _ => rfl

theorem wanted_eq {N : Nat} {ops : Array Oper} {ao : AOper} (k : OperOk P N ops o ao) (r : TsRel μ ts a) (hN : a.tmps.size = N) : Region.wanted o (yielded ops a.tmps) = wantedA ts ao.guard := by
  rcases k.guard with ⟨h1, h2⟩ | ⟨j, want, d, h1, h2, h3, h4⟩
  · simp [Region.wanted, h1, h2, wantedA]
  · have hr := r d
    have hlt : d < a.tmps.size := by rw [hN]; exact h3
    have h2' : (ops[j]?).bind (·.dst) = some d := by simpa using h2
    simp only [Region.wanted, h1, h4, wantedA, yielded, h2', Option.bind_some, Array.getElem?_eq_getElem hlt]
    rw [Array.getD_eq_getD_getElem?, Array.getElem?_eq_getElem hlt, Option.getD_some] at hr
    rw [isB_rel hr]
    generalize a.tmps[d] = X
    cases X <;> rfl

/-- what is known behind code -/
def Post (P : Program) (μ : Map) (N : Nat) (ds : List Deferred) (ts' : T Value) (h' : Heap) (B : Fr) (w0 : World) (a' : Act) (w' : World) : Prop :=
  a'.tmps.size = N ∧ a'.defers = ds ∧ ∃ μ', μ.le μ' ∧ Rel (Cc P) μ' h' B w0 w' ∧ TsRel μ' ts' a'

theorem runOps_sound {ro : Option Nat} {N : Nat} {ops : Array Oper} {Q : Exit → Act → World → Prop} (hc : CallsOk P cf B w0) : ∀ (l : List Oper) (l' : List AOper), compOpers P N ops l = some l' →
    ∀ (μ : Map) (h h' : Heap) (ts ts' : T Value) (a : Act) (w : World), Rel (Cc P) μ h B w0 w → TsRel μ ts a → a.tmps.size = N → runOps cf l' ts h = some (ts', h') → (∀ a' w', Post P μ N a.defers ts' h' B w0 a' w' → Q .normal a' w') →
    wpListIn (FW ro) 0 P ops Q l a w := by
  intro l
  induction l with
  | nil =>
    intro l' hl μ h h' ts ts' a w R r hN hv hQ
    simp only [compOpers, Option.some.injEq] at hl; subst hl
    simp only [runOps_nil, Option.some.injEq, Prod.mk.injEq] at hv; obtain ⟨rfl, rfl⟩ := hv
    exact hQ a w ⟨hN, rfl, μ, μ.le_refl, R, r⟩
  | cons o l ih =>
    intro l' hl μ h h' ts ts' a w R r hN hv hQ
    simp only [compOpers] at hl
    split at hl
    · rename_i ao l2 hao hl2
      simp only [Option.some.injEq] at hl; subst hl
      have k := compOper_ok hao
      have hw := wanted_eq k r hN
      simp only [runOps_cons] at hv
      refine wpListIn_step (fun K hK => ?_)
      cases hwa : wantedA ts ao.guard with
      | true =>
        rw [hwa] at hv hw; simp only at hv
        rw [if_pos hw]
        split at hv
        · rename_i v h1 hs
          refine op_wp k.form k.nod hc R r hs (fun μ' v' w' hle R' hv' => hK _ _ ?_)
          have hd : dstOk a.tmps.size o.dst = true := by rw [hN]; exact k.dok
          refine ih l2 hl2 μ' h1 h' _ ts' _ w' R' (tsrel_put (r.mono hle) hv' hd) (by rw [put_size]; exact hN) (by rw [← k.dst]; exact hv) (fun a' w'' hp => hQ a' w'' ?_)
          obtain ⟨p1, p2, μ2, p3, p4, p5⟩ := hp
          exact ⟨p1, by rw [p2, put_defers], μ2, hle.trans p3, p4, p5⟩
        · cases hv
      | false =>
        rw [hwa] at hv hw; simp only at hv
        rw [if_neg (by rw [hw]; simp)]
        refine ⟨fun _ _ => trivial, hK _ _ ?_⟩
        have hd : dstOk a.tmps.size o.dst = true := by rw [hN]; exact k.dok
        refine ih l2 hl2 μ h h' _ ts' _ w R (tsrel_put r (undef_rel μ) hd) (by rw [put_size]; exact hN) (by rw [← k.dst]; exact hv) (fun a' w'' hp => hQ a' w'' ?_)
        obtain ⟨p1, p2, μ2, p3, p4, p5⟩ := hp
        exact ⟨p1, by rw [p2, put_defers], μ2, p3, p4, p5⟩
    · cases hl

end
end
end Go.Proofs.Ytedldiimhbebdaa.Ai
