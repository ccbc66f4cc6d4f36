/- What is shown of a function for all arguments: rules for code and for operations, each call by what is known of it. -/
import Derived.Test.YtedldiimhbebdaaAiCut
namespace Go.Proofs.Ytedldiimhbebdaa.Ai
noncomputable section
open Go.RowKit

section
variable {P : Program} {N : Nat} {ac bc : ACode} {ts ts' : T Value} {h h' : Heap}

/-! ### a fact holds beside whatever else there is -/

theorem Rel.later {C : CRel} {μ : Map} {h : Heap} {B : Fr} {w0 w w' : World} (R : Rel C μ h B w0 w) (b : Below w.heap.size w w') : Rel C μ h B w0 w' := by
  have hw : ∀ i, i < w.heap.size → w'.heap[i]? = w.heap[i]? := b.block
  have hlt : ∀ {i : Nat} {o : Obj}, w.heap[i]? = some o → i < w.heap.size := fun h => (Array.getElem?_eq_some_iff.1 h).1
  refine ⟨R.below.trans (b.mono R.size), Nat.le_trans R.size b.size, fun i o hz => ?_, R.fresh, fun b k hb => ?_, R.apart, R.aux.keep μ.le_refl (keeps_of_old hw)⟩
  · have := R.zk i o hz
    rw [hw _ (hlt this)]; exact this
  · obtain ⟨e, he, x⟩ := R.blk b k hb
    exact ⟨e, he, x.mono μ.le_refl hw⟩

/-- a call with plain arguments, run in an empty heap, comes to the same beside any other -/
theorem Fact.frame {f : Nat} {args : List Value} {v : Value} {h0 : Heap} (x : Fact P f args heap0 v h0) (ha : args.all plain = true) (hv : plain v = true) (h : Heap) : Fact P f args h v h := by
  refine ⟨x.ok, rfl, fun B w0 μ w args' R hargs => ?_⟩
  have e : args' = args := by
    apply List.ext_getElem?
    intro i
    cases hi : args[i]? with
    | none =>
      have : args.length ≤ i := by simpa using hi
      rw [List.getElem?_eq_none (by rw [← hargs.1]; exact this)]
    | some a =>
      obtain ⟨a', h1, h2⟩ := hargs.get hi
      rw [h1, h2.of_plain (List.all_eq_true.1 ha a (List.mem_of_getElem? hi))]
  subst e
  refine (x.calls ⟨w.heap.size, fun _ => none⟩ w _ w args' (rel0 w) (VsRel.of_plain ha)).mono ?_
  rintro e w' ⟨μ', v', rfl, _, R', hv'⟩
  rw [hv'.of_plain hv]
  exact ⟨μ, v, rfl, μ.le_refl, R.later R'.below, .same _ hv⟩

/-! ### code -/

def CW (P : Program) (N : Nat) (ac : ACode) (ts : T Value) (h : Heap) (Q : AExit → T Value → Heap → Prop) : Prop := ∃ e ts' h', CFact P N ac ts h e ts' h' ∧ Q e ts' h'

variable {Q : AExit → T Value → Heap → Prop}

theorem tab0 (P : Program) : TabOk P (fun _ => none) := fun f af h => by cases h

theorem cf0 {e : AExit} (hv : exec (fun _ _ _ => none) (fun _ => none) 1 none ac ts h = some (e, ts', h')) : CFact P N ac ts h e ts' h' := cf_exec (tab0 P) (memo0 P) hv

theorem cw_skip (q : Q .normal ts h) : CW P N .skip ts h Q := ⟨_, _, _, cf0 rfl, q⟩
theorem cw_ret (q : Q .ret ts h) : CW P N .ret ts h Q := ⟨_, _, _, cf0 rfl, q⟩
theorem cw_exit {id : Nat} (q : Q (.exit id) ts h) : CW P N (.exit id) ts h Q := ⟨_, _, _, cf0 rfl, q⟩

/-- behind the first part: the second, if it came to its end -/
def thenQ (P : Program) (N : Nat) (bc : ACode) (Q : AExit → T Value → Heap → Prop) : AExit → T Value → Heap → Prop
  | .normal, ts, h => CW P N bc ts h Q
  | e, ts, h => Q e ts h

theorem cf_seq_stop {e : AExit} (ne : e ≠ .normal) (x : CFact P N ac ts h e ts' h') : CFact P N (.seq ac bc) ts h e ts' h' := by
  intro c hc B w0 μ M0 a w R r hN hk
  cases c with
  | seq c d =>
    simp only [compCode, ACode.seq.injEq] at hc
    refine wpIn_seq (wpIn_mono (x c hc.1 B w0 μ M0 a w R r hN hk) ?_)
    rintro e1 a1 w1 ⟨rfl, hp⟩
    cases e with
    | normal => exact (ne rfl).elim
    | exit id => exact ⟨rfl, hp⟩
    | ret => exact ⟨rfl, hp⟩
  | region id ops d => cases d <;> simp only [compCode] at hc <;> split at hc <;> first | cases hc | (cases hb : (P.follows .mixedOrders && okDraw (mkTbl [] (ops.toList.map edges)) _ (ops.toList.map edges)) <;> (rw [hb] at hc; cases hc))
  | cond => simp only [compCode] at hc; split at hc <;> cases hc
  | rangeFunc g ps asg body =>
    simp only [compCode] at hc; split at hc
    · cases hb : ps.toList.all (Nat.blt · N) <;> (rw [hb] at hc; cases hc)
    · cases hc
  | _ => simp [compCode] at hc

theorem cw_seq (x : CW P N ac ts h (thenQ P N bc Q)) : CW P N (.seq ac bc) ts h Q := by
  obtain ⟨e, t1, h1, c, q⟩ := x
  cases e with
  | normal =>
    obtain ⟨e, t2, h2, d, q⟩ := q
    exact ⟨e, t2, h2, cf_seq c d, q⟩
  | exit id => exact ⟨_, _, _, cf_seq_stop (by simp) c, q⟩
  | ret => exact ⟨_, _, _, cf_seq_stop (by simp) c, q⟩

theorem cf_cond {c : Opd} {e : AExit} {b : Bool} (hb : ev ts c = .bool b) (x : CFact P N (bif b then ac else bc) ts h e ts' h') : CFact P N (.cond c ac bc) ts h e ts' h' := by
  intro d hd B w0 μ M0 a w R r hN hk
  cases d with
  | cond c0 x0 y0 =>
    simp only [compCode] at hd
    split at hd
    · rename_i c' hcc
      simp only [ACode.cond.injEq] at hd
      obtain ⟨rfl, hx, hy⟩ := hd
      have hr := compOpd_rel r hcc
      rw [hb] at hr
      cases b with
      | true => exact wpIn_cond_true hr.bool (x x0 hx B w0 μ M0 a w R r hN hk)
      | false => exact wpIn_cond_false hr.bool (x y0 hy B w0 μ M0 a w R r hN hk)
    · cases hd
  | region id ops d => cases d <;> simp only [compCode] at hd <;> split at hd <;> first | cases hd | (cases hb : (P.follows .mixedOrders && okDraw (mkTbl [] (ops.toList.map edges)) _ (ops.toList.map edges)) <;> (rw [hb] at hd; cases hd))
  | rangeFunc g ps asg body =>
    simp only [compCode] at hd; split at hd
    · cases hb : ps.toList.all (Nat.blt · N) <;> (rw [hb] at hd; cases hd)
    · cases hd
  | _ => simp [compCode] at hd

theorem cw_cond {c : Opd} {b : Bool} (hb : ev ts c = .bool b) (x : b = true → CW P N ac ts h Q) (y : b = false → CW P N bc ts h Q) : CW P N (.cond c ac bc) ts h Q := by
  cases b with
  | true => obtain ⟨e, t, k, d, q⟩ := x rfl; exact ⟨e, t, k, cf_cond hb d, q⟩
  | false => obtain ⟨e, t, k, d, q⟩ := y rfl; exact ⟨e, t, k, cf_cond hb d, q⟩

theorem cf_block_pass {id : Nat} {e : AExit} (ne : e ≠ .exit id) (x : CFact P N bc ts h e ts' h') : CFact P N (.block id bc) ts h e ts' h' := by
  intro c hc B w0 μ M0 a w R r hN hk
  cases c with
  | block i c =>
    simp only [compCode, ACode.block.injEq] at hc
    obtain ⟨rfl, hc⟩ := hc
    refine wpIn_block (wpIn_mono (x c hc B w0 μ M0 a w R r hN hk) ?_)
    rintro e1 a1 w1 ⟨rfl, hp⟩
    cases e with
    | normal => exact ⟨rfl, hp⟩
    | exit j =>
      have : j ≠ i := fun hj => ne (by rw [hj])
      simp only [concE, Exit.inBlock, if_neg this]
      exact ⟨rfl, hp⟩
    | ret => exact ⟨rfl, hp⟩
  | region id ops d => cases d <;> simp only [compCode] at hc <;> split at hc <;> first | cases hc | (cases hb : (P.follows .mixedOrders && okDraw (mkTbl [] (ops.toList.map edges)) _ (ops.toList.map edges)) <;> (rw [hb] at hc; cases hc))
  | cond => simp only [compCode] at hc; split at hc <;> cases hc
  | rangeFunc g ps asg body =>
    simp only [compCode] at hc; split at hc
    · cases hb : ps.toList.all (Nat.blt · N) <;> (rw [hb] at hc; cases hc)
    · cases hc
  | _ => simp [compCode] at hc

/-- behind a block -/
def blockQ (id : Nat) (Q : AExit → T Value → Heap → Prop) : AExit → T Value → Heap → Prop
  | .exit j, ts, h => if j = id then Q .normal ts h else Q (.exit j) ts h
  | e, ts, h => Q e ts h

theorem cw_block {id : Nat} (x : CW P N bc ts h (blockQ id Q)) : CW P N (.block id bc) ts h Q := by
  obtain ⟨e, t1, h1, c, q⟩ := x
  cases e with
  | normal => exact ⟨_, _, _, cf_block_pass (by simp) c, q⟩
  | ret => exact ⟨_, _, _, cf_block_pass (by simp) c, q⟩
  | exit j =>
    simp only [blockQ] at q
    split at q
    · rename_i hj; subst hj; exact ⟨_, _, _, cf_block c, q⟩
    · rename_i hj; exact ⟨_, _, _, cf_block_pass (by simpa using hj) c, q⟩

/-- behind a round: what is kept of the loop, less being left; or what is asked behind the loop -/
def roundQ (I : Nat → T Value → Heap → Prop) (n : Nat) (Q : AExit → T Value → Heap → Prop) : AExit → T Value → Heap → Prop
  | .normal, ts, h => ∃ m, m < n ∧ I m ts h
  | e, ts, h => Q e ts h

theorem cw_loop (I : Nat → T Value → Heap → Prop) (hI : ∀ n ts h, I n ts h → CW P N bc ts h (roundQ I n Q)) {n : Nat} {ts : T Value} {h : Heap} (h0 : I n ts h) : CW P N (.loop bc) ts h Q := by
  have key : ∀ n ts h, I n ts h → ∃ e ts' h' m, LRun P N bc e ts' h' ts h m ∧ Q e ts' h' := by
    intro n
    induction n using Nat.strongRecOn with
    | _ n ih =>
      intro ts h hi
      obtain ⟨e, t1, h1, c, q⟩ := hI n ts h hi
      cases e with
      | normal =>
        obtain ⟨m, hm, hi'⟩ := q
        obtain ⟨e, t2, h2, k, r, q⟩ := ih m hm t1 h1 hi'
        exact ⟨e, t2, h2, _, .step c r, q⟩
      | exit id => exact ⟨_, _, _, _, .last (by simp) c, q⟩
      | ret => exact ⟨_, _, _, _, .last (by simp) c, q⟩
  obtain ⟨e, t, k, m, r, q⟩ := key n ts h h0
  exact ⟨e, t, k, cf_loop r, q⟩

theorem CW.mono {Q' : AExit → T Value → Heap → Prop} (x : CW P N ac ts h Q) (m : ∀ e ts' h', Q e ts' h' → Q' e ts' h') : CW P N ac ts h Q' :=
  let ⟨e, t, k, c, q⟩ := x
  ⟨e, t, k, c, m _ _ _ q⟩

/-! ### operations -/

def CfOk (P : Program) (cf : CallF) : Prop := ∀ B w0, CallsOk P cf B w0

/-- one operation behind the other, each call by what is known of it -/
inductive ORun (P : Program) : List AOper → T Value → Heap → T Value → Heap → Prop
  | nil {ts : T Value} {h : Heap} : ORun P [] ts h ts h
  | cons {o : AOper} {r : List AOper} {ts ts' : T Value} {h h1 h' : Heap} {v : Value} (cf : CallF) (hc : CfOk P cf) (hw : wantedA ts o.guard = true) (hs : step1 cf ts h o.op = some (v, h1)) (x : ORun P r (putA ts o.dst v) h1 ts' h') : ORun P (o :: r) ts h ts' h'
  | skip {o : AOper} {r : List AOper} {ts ts' : T Value} {h h' : Heap} (hw : wantedA ts o.guard = false) (x : ORun P r (putA ts o.dst undef) h ts' h') : ORun P (o :: r) ts h ts' h'

theorem ORun.marks {l : List AOper} {ts ts' : T Value} {h h' : Heap} (x : ORun P l ts h ts' h') : h'.marks = h.marks := by
  induction x with
  | nil => rfl
  | cons cf hc _ hs _ ih => rw [ih, step1_marks (hc ⟨0, fun _ => none⟩ default).marks hs]
  | skip _ _ ih => exact ih

theorem orun_sound {ro : Option Nat} {B : Fr} {w0 : World} {ops : Array Oper} {Q : Exit → Act → World → Prop} : ∀ (l : List Oper) (l' : List AOper), compOpers P N ops l = some l' →
    ∀ (μ : Map) (h h' : Heap) (ts ts' : T Value) (a : Act) (w : World), Rel (Cc P) μ h B w0 w → TsRel μ ts a → a.tmps.size = N → ORun P l' ts h ts' h' → (∀ a' w', Post P μ N a.defers ts' h' B w0 a' w' → Q .normal a' w') →
    wpListIn (FW ro) 0 P ops Q l a w := by
  intro l
  induction l with
  | nil =>
    intro l' hl μ h h' ts ts' a w R r hN hv hQ
    simp only [compOpers, Option.some.injEq] at hl; subst hl
    cases hv
    exact hQ a w ⟨hN, rfl, μ, μ.le_refl, R, r⟩
  | cons o l ih =>
    intro l' hl μ h h' ts ts' a w R r hN hv hQ
    simp only [compOpers] at hl
    split at hl
    · rename_i ao l2 hao hl2
      simp only [Option.some.injEq] at hl; subst hl
      have k := compOper_ok hao
      have hw := wanted_eq k r hN
      have hd : dstOk a.tmps.size o.dst = true := by rw [hN]; exact k.dok
      refine wpListIn_step (fun K hK => ?_)
      cases hv with
      | cons cf hc hwa hs x =>
        rw [hwa] at hw
        rw [if_pos hw]
        refine op_wp k.form k.nod (hc B w0) R r hs (fun μ' v' w' hle R' hv' => hK _ _ ?_)
        refine ih l2 hl2 μ' _ h' _ ts' _ w' R' (tsrel_put (r.mono hle) hv' hd) (by rw [put_size]; exact hN) (by rw [← k.dst]; exact x) (fun a' w'' hp => hQ a' w'' ?_)
        obtain ⟨p1, p2, μ2, p3, p4, p5⟩ := hp
        exact ⟨p1, by rw [p2, put_defers], μ2, hle.trans p3, p4, p5⟩
      | skip hwa x =>
        rw [hwa] at hw
        rw [if_neg (by rw [hw]; simp)]
        refine ⟨fun _ _ => trivial, hK _ _ ?_⟩
        refine ih l2 hl2 μ h h' _ ts' _ w R (tsrel_put r (undef_rel μ) hd) (by rw [put_size]; exact hN) (by rw [← k.dst]; exact x) (fun a' w'' hp => hQ a' w'' ?_)
        obtain ⟨p1, p2, μ2, p3, p4, p5⟩ := hp
        exact ⟨p1, by rw [p2, put_defers], μ2, p3, p4, p5⟩
    · cases hl

theorem cf_ops {l : List AOper} (x : ORun P l ts h ts' h') : CFact P N (.ops l) ts h .normal ts' h' := by
  intro c hc B w0 μ M0 a w R r hN hk
  cases c with
  | region id ops d =>
    cases d with
    | false =>
      simp only [compCode] at hc
      split at hc
      · rename_i l0 hl
        simp only [ACode.ops.injEq] at hc
        subst hc
        exact wpIn_region_list (orun_sound ops.toList l0 hl μ h h' ts ts' a w R r hN x (fun a' w' hp => ⟨rfl, hp.x R hk x.marks⟩))
      · cases hc
    | true =>
      simp only [compCode] at hc
      split at hc
      · cases hb : (P.follows .mixedOrders && okDraw (mkTbl [] (ops.toList.map edges)) _ (ops.toList.map edges)) <;> (rw [hb] at hc; cases hc)
      · cases hc
  | cond => simp only [compCode] at hc; split at hc <;> cases hc
  | rangeFunc g ps asg body =>
    simp only [compCode] at hc; split at hc
    · cases hb : ps.toList.all (Nat.blt · N) <;> (rw [hb] at hc; cases hc)
    · cases hc
  | _ => simp [compCode] at hc

/-- a region whose order is open -/
theorem cf_draw {cf : CallF} (hcf : CfOk P cf) {l : List AOper} {win : List (Nat × Nat)} (hr : runDraw cf l win ts h = some (ts', h')) : CFact P N (.draw l win) ts h .normal ts' h' := by
  intro c hc B w0 μ M0 a w R r hN hk
  cases c with
  | region id ops d =>
    cases d with
    | false =>
      simp only [compCode] at hc
      split at hc <;> cases hc
    | true =>
      simp only [compCode] at hc
      split at hc
      · rename_i l0 hl
        cases hok : (P.follows .mixedOrders && okDraw (mkTbl [] (ops.toList.map edges)) l0 (ops.toList.map edges)) with
        | false => rw [hok] at hc; cases hc
        | true =>
          rw [hok] at hc; simp only [cond_true, ACode.draw.injEq] at hc
          simp only [Bool.and_eq_true] at hok
          obtain ⟨rfl, rfl⟩ := hc
          obtain ⟨recs, hs, htr, hck⟩ := draw_trace hr
          obtain ⟨hlen, hops⟩ := compOpers_get (P := P) (N := N) (ops := ops) ops.toList l0 hl
          have S := Statics.of hok.2 rfl
          have tr := trace_ok _ _ _ _ _ _ _ _ htr
          refine wpIn_region_any hok.1 ?_
          refine draw_any (Q := CodePost P μ N M0 .normal ts' h' B w0) (μ := μ) (ds := a.defers) S (by rw [hlen]; simp) (fun i o ho => hops i o (by simpa using ho)) (fun i o ho => ?_) tr hck (fun B => hcf B w0) (fun a' w' hp => ⟨rfl, hp.x R hk (runTrace_marks (hcf B w0).marks _ _ _ _ _ _ _ htr)⟩) ops.size _ a _ ?_ ?_
          · have : ops.toList[i]? = some o := by simpa using ho
            simp [this]
          · refine .inl ⟨⟨by rw [hlen]; simp, ?_, hN, rfl, μ, ts, h, μ.le_refl, ?_, R.drew, r, ?_, fun t _ _ => rfl⟩, fun _ hq => ?_⟩
            · intro i j hi
              simp only [Array.getD_eq_getD_getElem?, Array.getElem?_replicate] at hi
              split at hi <;> simp at hi
            · have : (List.range l0.length).countP (fun e => isEat l0 e && (Array.replicate ops.size false).getD e false) = 0 := by
                apply List.countP_eq_zero.2
                intro e _
                simp only [Array.getD_eq_getD_getElem?, Array.getElem?_replicate]
                split <;> simp
              rw [this]; rfl
            · intro j o rj t _ _ _ hl'
              simp only [Array.getD_eq_getD_getElem?, Array.getElem?_replicate] at hl'
              split at hl' <;> simp at hl'
            · simp only [Array.getD_eq_getD_getElem?, Array.getElem?_replicate] at hq
              split at hq <;> simp at hq
          · refine Nat.le_trans List.countP_le_length ?_
            rw [List.length_range, hlen]; simp
      · cases hc
  | cond => simp only [compCode] at hc; split at hc <;> cases hc
  | rangeFunc g ps asg body =>
    simp only [compCode] at hc; split at hc
    · cases hb : ps.toList.all (Nat.blt · N) <;> (rw [hb] at hc; cases hc)
    · cases hc
  | _ => simp [compCode] at hc

/-! ### operations, asked one by one -/

def OW (P : Program) (l : List AOper) (ts : T Value) (h : Heap) (Q : T Value → Heap → Prop) : Prop := ∃ ts' h', ORun P l ts h ts' h' ∧ Q ts' h'

theorem cw_ops {l : List AOper} (x : OW P l ts h (Q .normal)) : CW P N (.ops l) ts h Q := let ⟨_, _, r, q⟩ := x; ⟨_, _, _, cf_ops r, q⟩

/-- the same with one and the same knowledge of calls: for a region whose order is open -/
def DW (cf : CallF) (l : List AOper) (ts : T Value) (h : Heap) (Q : T Value → Heap → Prop) : Prop := ∃ ts' h', runOps cf l ts h = some (ts', h') ∧ Q ts' h'

theorem cw_draw (cf : CallF) (hcf : CfOk P cf) {l : List AOper} (x : DW cf l ts h (Q .normal)) : CW P N (.draw l []) ts h Q := let ⟨_, _, r, q⟩ := x; ⟨_, _, _, cf_draw hcf r, q⟩

/-- of no call is anything known -/
def cf00 : CallF := fun _ _ _ => none
theorem cf00_ok : CfOk P cf00 := by intro B w0; constructor <;> intro _ _ _ _ _ h <;> cases h

open Classical in
/-- of one call, and of what else is known -/
noncomputable def cfOf (f : Nat) (args : List Value) (h : Heap) (v : Value) (h' : Heap) (cf : CallF) : CallF := fun t a k => if t = .fn f ∧ a = args ∧ k = h then some (v, h') else cf t a k

theorem cfOf_ok {f : Nat} {args : List Value} {h : Heap} {v : Value} {h' : Heap} {cf : CallF} (x : Fact P f args h v h') (y : CfOk P cf) : CfOk P (cfOf f args h v h' cf) := by
  refine fun B w0 => ⟨fun g a k u k' hv => ?_, fun b a k u k' hv => ?_, fun t a k u k' hv => ?_⟩ <;> unfold cfOf at hv <;> split at hv
  · rename_i hc
    obtain ⟨h1, rfl, rfl⟩ := hc
    cases h1; cases hv
    exact ⟨x.ok, x.calls B w0⟩
  · exact (y B w0).fn _ _ _ _ _ hv
  · rename_i hc; exact absurd hc.1 (by simp)
  · exact (y B w0).yield _ _ _ _ _ hv
  · rename_i hc
    obtain ⟨h1, rfl, rfl⟩ := hc
    cases hv
    exact x.marks
  · exact (y B w0).marks _ _ _ _ _ hv

theorem cfOf_eq {f : Nat} {args : List Value} {h : Heap} {v : Value} {h' : Heap} {cf : CallF} : cfOf f args h v h' cf (.fn f) args h = some (v, h') := by simp [cfOf]
theorem cfOf_ne {f g : Nat} {args a : List Value} {h k : Heap} {v : Value} {h' : Heap} {cf : CallF} (n : g ≠ f) : cfOf f args h v h' cf (.fn g) a k = cf (.fn g) a k := by
  unfold cfOf; rw [if_neg]; rintro ⟨h1, _⟩; cases h1; exact n rfl

variable {R : T Value → Heap → Prop} {r : List AOper} {d : Nat}

theorem ow_nil : OW P [] ts h R ↔ R ts h := ⟨fun ⟨_, _, x, q⟩ => by cases x; exact q, fun q => ⟨_, _, .nil, q⟩⟩

theorem ow_cons {o : AOper} (cf : CallF) (hc : CfOk P cf) {v : Value} {h1 : Heap} (hw : wantedA ts o.guard = true) (hs : step1 cf ts h o.op = some (v, h1)) (x : OW P r (putA ts o.dst v) h1 R) : OW P (o :: r) ts h R :=
  let ⟨_, _, y, q⟩ := x
  ⟨_, _, .cons cf hc hw hs y, q⟩

theorem ow_p {q : POp} {v : Value} (hv : pop ts q = some v) (x : OW P r (ts.put d v) h R) : OW P (⟨some d, .p q, none⟩ :: r) ts h R :=
  ow_cons (o := ⟨some d, .p q, none⟩) cf00 cf00_ok rfl (v := v) (h1 := h) (by simp [step1, step1Q, hv]) x
theorem ow_r {q : ROp} {v : Value} (hv : rop ts h q = some v) (x : OW P r (ts.put d v) h R) : OW P (⟨some d, .r q, none⟩ :: r) ts h R :=
  ow_cons (o := ⟨some d, .r q, none⟩) cf00 cf00_ok rfl (v := v) (h1 := h) (by simp [step1, step1Q, hv]) x
theorem ow_e {q : EOp} {v : Value} {h1 : Heap} {dst : Option Nat} (hv : eop ts h q = some (v, h1)) (x : OW P r (putA ts dst v) h1 R) : OW P (⟨dst, .e q, none⟩ :: r) ts h R :=
  ow_cons (o := ⟨dst, .e q, none⟩) cf00 cf00_ok rfl (v := v) (h1 := h1) (by simp [step1, step1Q, hv]) x
theorem ow_call {f : Nat} {l : List Opd} {args : List Value} {v : Value} {h1 : Heap} {dst : Option Nat} (ha : evs ts l = args) (hv : Fact P f args h v h1) (x : OW P r (putA ts dst v) h1 R) : OW P (⟨dst, .call f l, none⟩ :: r) ts h R :=
  ow_cons (o := ⟨dst, .call f l, none⟩) (cfOf f args h v h1 cf00) (cfOf_ok hv cf00_ok) rfl (v := v) (h1 := h1) (by simp only [step1, step1Q, ha]; exact cfOf_eq) x
theorem ow_on {o : AOper} {t : Nat} {b : Bool} (hb : look ts t = .bool b) (x : OW P ({ o with guard := none } :: r) ts h R) : OW P ({ o with guard := some (t, b) } :: r) ts h R := by
  obtain ⟨ts', h', y, q⟩ := x
  cases y with
  | cons cf hc hw hs z => exact ⟨_, _, .cons cf hc (by simp only [wantedA, hb, isB]; cases b <;> rfl) hs z, q⟩
  | skip hw z => cases hw
theorem ow_off {o : AOper} {t : Nat} {b : Bool} (hb : look ts t = .bool (!b)) (x : OW P r (putA ts o.dst undef) h R) : OW P ({ o with guard := some (t, b) } :: r) ts h R := by
  obtain ⟨ts', h', y, q⟩ := x
  exact ⟨_, _, .skip (by simp only [wantedA, hb, isB]; cases b <;> rfl) y, q⟩

/-! ### a function -/

/-- what is asked behind a function's body -/
def fnQ (h : Heap) (res : List ARes) (Q : Value → Heap → Prop) : AExit → T Value → Heap → Prop
  | .exit _, _, _ => False
  | _, ts, h2 => ∃ vs, resAll ts h2 res = some vs ∧ Q (mkRes vs) { h2 with marks := h.marks }

/-- a function, for these arguments in this heap: a value and a heap of which that holds -/
def FSpec (P : Program) (f : Nat) (args : List Value) (h : Heap) (Q : Value → Heap → Prop) : Prop := ∃ v h', Fact P f args h v h' ∧ Q v h'

theorem fspec_of {tab : Nat → Option AFunc} (hT : TabOk P tab) {f : Nat} {af : AFunc} (hf : tab f = some af) {args : List Value} (hl : Nat.ble args.length af.n = true) {h : Heap} {Q : Value → Heap → Prop} (hb : CW P af.n af.body (putArgs .nil 0 args) h (fnQ h af.res Q)) : FSpec P f args h Q := by
  obtain ⟨e, ts', h2, c, q⟩ := hb
  have fin : (∀ id, e ≠ .exit id) → ∀ vs, resAll ts' h2 af.res = some vs → Fact P f args h (mkRes vs) { h2 with marks := h.marks } := fun ne vs hvs => by
    refine ⟨?_, rfl, fun B w0 μ w args' R ha => fact_of_body hT hf hl c ne hvs B w0 μ w args' R ha⟩
    have ht := hT f af hf
    unfold tabOf at ht
    split at ht
    · rename_i fn hfn
      have hfn' : P.funcs[f]? = some fn := by simpa using hfn
      unfold compFunc at ht
      split at ht
      · rename_i c res hbody hres
        cases hname : fn.name == "runtime.NumGoroutine" with
        | true => rw [hname] at ht; cases ht
        | false => exact ⟨fn, hfn', by simpa using hname, by simp [hbody]⟩
      · cases ht
    · cases ht
  cases e with
  | exit id => exact q.elim
  | normal => obtain ⟨vs, h1, h2⟩ := q; exact ⟨_, _, fin (by simp) vs h1, h2⟩
  | ret => obtain ⟨vs, h1, h2⟩ := q; exact ⟨_, _, fin (by simp) vs h1, h2⟩

/-! ### what is to be shown, step by step: equations -/

def owf (P : Program) : List AOper → T Value → Heap → (T Value → Heap → Prop) → Prop
  | [], ts, h, Q => Q ts h
  | o :: r, ts, h, Q => match wantedA ts o.guard with
    | true => (match o.op with
      | .call f l => FSpec P f (evs ts l) h (fun v k => owf P r (putA ts o.dst v) k Q)
      | q => (match step1 cf00 ts h q with
        | some (v, k) => owf P r (putA ts o.dst v) k Q
        | none => False))
    | false => owf P r (putA ts o.dst undef) h Q

theorem owf_ow {Q : T Value → Heap → Prop} : ∀ {l : List AOper} {ts : T Value} {h : Heap}, owf P l ts h Q → OW P l ts h Q
  | [], ts, h, q => ow_nil.2 q
  | o :: r, ts, h, q => by
    unfold owf at q
    split at q
    · rename_i hw
      split at q
      · rename_i f l ho
        obtain ⟨v, h1, F, q⟩ := q
        exact ow_cons (cfOf f (evs ts l) h v h1 cf00) (cfOf_ok F cf00_ok) hw (v := v) (h1 := h1) (by simp only [step1, step1Q, ho]; exact cfOf_eq) (owf_ow q)
      · split at q
        · rename_i v h1 hs
          exact ow_cons cf00 cf00_ok hw hs (owf_ow q)
        · exact q.elim
    · rename_i hw
      obtain ⟨ts', h', y, q⟩ := owf_ow q
      exact ⟨_, _, .skip hw y, q⟩

/-- behind a call -/
def behind (P : Program) (r : List AOper) (ts : T Value) (dst : Option Nat) (Q : T Value → Heap → Prop) (v : Value) (h : Heap) : Prop := owf P r (putA ts dst v) h Q

variable {q : AOp} {dst : Option Nat} {S : T Value → Heap → Prop}

theorem owf_nil : owf P [] ts h S = S ts h := (rfl)
theorem owf_p {q : POp} : owf P (⟨dst, .p q, none⟩ :: r) ts h S = match pop ts q with | some v => owf P r (putA ts dst v) h S | none => False := by
  show (match (match pop ts q with | some v => some (v, h) | none => none) with | some (v, k) => owf P r (putA ts dst v) k S | none => False) = _
  cases pop ts q <;> rfl
theorem owf_r {q : ROp} : owf P (⟨dst, .r q, none⟩ :: r) ts h S = match rop ts h q with | some v => owf P r (putA ts dst v) h S | none => False := by
  show (match (match rop ts h q with | some v => some (v, h) | none => none) with | some (v, k) => owf P r (putA ts dst v) k S | none => False) = _
  cases rop ts h q <;> rfl
theorem owf_e {q : EOp} : owf P (⟨dst, .e q, none⟩ :: r) ts h S = match eop ts h q with | some (v, k) => owf P r (putA ts dst v) k S | none => False := (rfl)
theorem owf_call {f : Nat} {l : List Opd} : owf P (⟨dst, .call f l, none⟩ :: r) ts h S = FSpec P f (evs ts l) h (behind P r ts dst S) := (rfl)
theorem owf_guard {t : Nat} {b : Bool} : owf P (⟨dst, q, some (t, b)⟩ :: r) ts h S = bif isB (look ts t) b then owf P (⟨dst, q, none⟩ :: r) ts h S else owf P r (putA ts dst undef) h S := by
  show (match isB (look ts t) b with | true => _ | false => _) = _
  cases isB (look ts t) b <;> rfl

/-- the same with one knowledge of calls -/
def dwf (cf : CallF) : List AOper → T Value → Heap → (T Value → Heap → Prop) → Prop
  | [], ts, h, Q => Q ts h
  | o :: r, ts, h, Q => match wantedA ts o.guard with
    | true => (match step1 cf ts h o.op with
        | some (v, k) => dwf cf r (putA ts o.dst v) k Q
        | none => False)
    | false => dwf cf r (putA ts o.dst undef) h Q

theorem dwf_dw {cf : CallF} {Q : T Value → Heap → Prop} : ∀ {l : List AOper} {ts : T Value} {h : Heap}, dwf cf l ts h Q → DW cf l ts h Q
  | [], ts, h, q => ⟨ts, h, rfl, q⟩
  | o :: r, ts, h, q => by
    unfold dwf at q
    split at q
    · rename_i hw
      split at q
      · rename_i v h1 hs
        obtain ⟨ts', h', y, q⟩ := dwf_dw q
        exact ⟨ts', h', by rw [runOps_cons, hw]; simp only [hs]; exact y, q⟩
      · exact q.elim
    · rename_i hw
      obtain ⟨ts', h', y, q⟩ := dwf_dw q
      exact ⟨ts', h', by rw [runOps_cons, hw]; exact y, q⟩

variable {cf : CallF}
theorem dwf_nil : dwf cf [] ts h S = S ts h := (rfl)
theorem dwf_p {q : POp} : dwf cf (⟨dst, .p q, none⟩ :: r) ts h S = match pop ts q with | some v => dwf cf r (putA ts dst v) h S | none => False := by
  show (match (match pop ts q with | some v => some (v, h) | none => none) with | some (v, k) => dwf cf r (putA ts dst v) k S | none => False) = _
  cases pop ts q <;> rfl
theorem dwf_r {q : ROp} : dwf cf (⟨dst, .r q, none⟩ :: r) ts h S = match rop ts h q with | some v => dwf cf r (putA ts dst v) h S | none => False := by
  show (match (match rop ts h q with | some v => some (v, h) | none => none) with | some (v, k) => dwf cf r (putA ts dst v) k S | none => False) = _
  cases rop ts h q <;> rfl
theorem dwf_e {q : EOp} : dwf cf (⟨dst, .e q, none⟩ :: r) ts h S = match eop ts h q with | some (v, k) => dwf cf r (putA ts dst v) k S | none => False := (rfl)
theorem dwf_call {f : Nat} {l : List Opd} : dwf cf (⟨dst, .call f l, none⟩ :: r) ts h S = match cf (.fn f) (evs ts l) h with | some (v, k) => dwf cf r (putA ts dst v) k S | none => False := (rfl)
theorem dwf_guard {t : Nat} {b : Bool} : dwf cf (⟨dst, q, some (t, b)⟩ :: r) ts h S = bif isB (look ts t) b then dwf cf (⟨dst, q, none⟩ :: r) ts h S else dwf cf r (putA ts dst undef) h S := by
  show (match isB (look ts t) b with | true => _ | false => _) = _
  cases isB (look ts t) b <;> rfl

/-- code, by equations; loops, calls in regions of open order, and what else there is: left as they are -/
def cwf (P : Program) (N : Nat) : ACode → T Value → Heap → (AExit → T Value → Heap → Prop) → Prop
  | .skip, ts, h, Q => Q .normal ts h
  | .ret, ts, h, Q => Q .ret ts h
  | .exit id, ts, h, Q => Q (.exit id) ts h
  | .ops l, ts, h, Q => owf P l ts h (Q .normal)
  | .draw l [], ts, h, Q => ∃ cf, CfOk P cf ∧ dwf cf l ts h (Q .normal)
  | .seq a b, ts, h, Q => cwf P N a ts h (fun e t k => match e with | .normal => cwf P N b t k Q | e => Q e t k)
  | .cond c a b, ts, h, Q => match ev ts c with
    | .bool β => bif β then cwf P N a ts h Q else cwf P N b ts h Q
    | _ => False
  | .block id b, ts, h, Q => cwf P N b ts h (blockQ id Q)
  | c, ts, h, Q => CW P N c ts h Q

/-- behind the first of two -/
def andThen (P : Program) (N : Nat) (b : ACode) (Q : AExit → T Value → Heap → Prop) (e : AExit) (ts : T Value) (h : Heap) : Prop := match e with
  | .normal => cwf P N b ts h Q
  | e => Q e ts h

theorem cwf_cw : ∀ {c : ACode} {ts : T Value} {h : Heap} {Q : AExit → T Value → Heap → Prop}, cwf P N c ts h Q → CW P N c ts h Q := by
  intro c
  induction c with
  | skip => exact fun q => cw_skip q
  | ret => exact fun q => cw_ret q
  | exit id => exact fun q => cw_exit q
  | ops l => exact fun q => cw_ops (owf_ow q)
  | draw l win =>
    intro ts h Q q
    cases win with
    | nil => obtain ⟨cf, hcf, q⟩ := q; exact cw_draw cf hcf (dwf_dw q)
    | cons => exact q
  | seq a b iha ihb =>
    intro ts h Q q
    refine cw_seq ((iha q).mono ?_)
    intro e t k q
    cases e with
    | normal => exact ihb q
    | exit id => exact q
    | ret => exact q
  | cond c a b iha ihb =>
    intro ts h Q q
    unfold cwf at q
    split at q
    · rename_i β hb
      refine cw_cond hb (fun h1 => ?_) (fun h1 => ?_)
      · subst h1; exact iha q
      · subst h1; exact ihb q
    · exact q.elim
  | block id b ih => exact fun q => cw_block (ih q)
  | loop b _ => exact fun q => q
  | rangeF g n ps asg body _ _ => exact fun q => q
  | bad => exact fun q => q

variable {Z : AExit → T Value → Heap → Prop}
theorem cwf_skip : cwf P N .skip ts h Z = Z .normal ts h := (rfl)
theorem cwf_ret : cwf P N .ret ts h Z = Z .ret ts h := (rfl)
theorem cwf_exit {id : Nat} : cwf P N (.exit id) ts h Z = Z (.exit id) ts h := (rfl)
theorem cwf_ops {l : List AOper} : cwf P N (.ops l) ts h Z = owf P l ts h (Z .normal) := (rfl)
theorem cwf_draw {l : List AOper} : cwf P N (.draw l []) ts h Z = ∃ cf, CfOk P cf ∧ dwf cf l ts h (Z .normal) := (rfl)
theorem cwf_seq : cwf P N (.seq ac bc) ts h Z = cwf P N ac ts h (andThen P N bc Z) := (rfl)
theorem cwf_cond {c : Opd} : cwf P N (.cond c ac bc) ts h Z = match ev ts c with | .bool β => bif β then cwf P N ac ts h Z else cwf P N bc ts h Z | _ => False := (rfl)
theorem cwf_block {id : Nat} : cwf P N (.block id bc) ts h Z = cwf P N bc ts h (blockQ id Z) := (rfl)
theorem cwf_loop : cwf P N (.loop bc) ts h Z = CW P N (.loop bc) ts h Z := (rfl)
theorem andThen_normal : andThen P N bc Z .normal ts h = cwf P N bc ts h Z := (rfl)
theorem andThen_ret : andThen P N bc Z .ret ts h = Z .ret ts h := (rfl)
theorem andThen_exit {id : Nat} : andThen P N bc Z (.exit id) ts h = Z (.exit id) ts h := (rfl)
theorem blockQ_normal {id : Nat} : blockQ id Z .normal ts h = Z .normal ts h := (rfl)
theorem blockQ_ret {id : Nat} : blockQ id Z .ret ts h = Z .ret ts h := (rfl)
theorem blockQ_exit {id j : Nat} : blockQ id Z (.exit j) ts h = if j = id then Z .normal ts h else Z (.exit j) ts h := (rfl)
theorem roundQ_normal {I : Nat → T Value → Heap → Prop} {n : Nat} : roundQ I n Z .normal ts h = ∃ m, m < n ∧ I m ts h := (rfl)
theorem roundQ_ret {I : Nat → T Value → Heap → Prop} {n : Nat} : roundQ I n Z .ret ts h = Z .ret ts h := (rfl)
theorem roundQ_exit {I : Nat → T Value → Heap → Prop} {n id : Nat} : roundQ I n Z (.exit id) ts h = Z (.exit id) ts h := (rfl)
theorem fnQ_normal {k : Heap} {res : List ARes} {Q : Value → Heap → Prop} : fnQ k res Q .normal ts h = ∃ vs, resAll ts h res = some vs ∧ Q (mkRes vs) { h with marks := k.marks } := (rfl)
theorem fnQ_ret {k : Heap} {res : List ARes} {Q : Value → Heap → Prop} : fnQ k res Q .ret ts h = ∃ vs, resAll ts h res = some vs ∧ Q (mkRes vs) { h with marks := k.marks } := (rfl)

theorem look_put (t : T Value) (d i : Nat) (v : Value) : look (t.put d v) i = if i = d then v else look t i := by
  split
  · rename_i e; subst e; exact look_put_same _ _ _
  · rename_i e; exact look_put_other _ _ e

theorem fspec_cwf {tab : Nat → Option AFunc} (hT : TabOk P tab) {f : Nat} {af : AFunc} (hf : tab f = some af) {args : List Value} (hl : Nat.ble args.length af.n = true) {h : Heap} {Q : Value → Heap → Prop} (hb : cwf P af.n af.body (putArgs .nil 0 args) h (fnQ h af.res Q)) : FSpec P f args h Q := fspec_of hT hf hl (cwf_cw hb)

end
end
end Go.Proofs.Ytedldiimhbebdaa.Ai
