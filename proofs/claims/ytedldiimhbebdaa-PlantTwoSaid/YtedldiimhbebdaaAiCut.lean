/- Code in pieces: what is known of a piece, of what is left of a loop, of a function so put together. -/
import Derived.Test.YtedldiimhbebdaaAiMemo
namespace Go.Proofs.Ytedldiimhbebdaa.Ai
noncomputable section
open Go.RowKit

/-- a state that was printed -/
structure CSt where
  tl : List (Nat × Value)
  ph : PHeap

def CSt.ts (s : CSt) : T Value := T.ofList s.tl
def CSt.h (s : CSt) : Heap := s.ph.heap

/-- what is known of code, outside of a round -/
def CFact (P : Program) (N : Nat) (ac : ACode) (ts : T Value) (h : Heap) (e : AExit) (ts' : T Value) (h' : Heap) : Prop :=
  ∀ c, compCode P N c = ac → ∀ (B : Fr) (w0 : World) (μ : Map) (M0 : List Nat) (a : Act) (w : World), Rel (Cc P) μ h B w0 w → TsRel μ ts a → a.tmps.size = N → Mk μ M0 h a → c.wpIn (FW none) 0 P (CodePost P μ N M0 e ts' h' B w0) a w

section
variable {P : Program} {N : Nat} {ac bc : ACode} {ts t1 ts' : T Value} {h h1 h' : Heap} {e : AExit}

theorem cf_exec {mm : Memo} {tab : Nat → Option AFunc} (hT : TabOk P tab) (hM : MemoOk P mm) {n : Nat} (hv : exec mm tab n none ac ts h = some (e, ts', h')) : CFact P N ac ts h e ts' h' := by
  rintro c rfl B w0 μ M0 a w R r hN hk
  exact exec_sound (P := P) (B := B) (w0 := w0) n (fun k _ => calls_all hT hM k) n (Nat.le_refl _) N c none none ts ts' h h' e μ M0 a w hv R r hN trivial hk

theorem cf_seq (x : CFact P N ac ts h .normal t1 h1) (y : CFact P N bc t1 h1 e ts' h') : CFact P N (.seq ac bc) ts h e ts' h' := by
  intro c hc B w0 μ M0 a w R r hN hk
  cases c with
  | seq c d =>
    simp only [compCode, ACode.seq.injEq] at hc
    refine wpIn_seq (wpIn_mono (x c hc.1 B w0 μ M0 a w R r hN hk) ?_)
    rintro e1 a1 w1 ⟨rfl, p1, μ2, p3, p4, p5, p6⟩
    simp only [concE, Exit.then]
    refine wpIn_mono (y d hc.2 B w0 μ2 M0 a1 w1 p4 p5 p1 p6) ?_
    rintro e2 a2 w2 ⟨q1, q2⟩
    exact ⟨q1, q2.le p3⟩
  | region id ops d => cases d <;> simp only [compCode] at hc <;> split at hc <;> first | cases hc | (cases hb : (P.follows .mixedOrders && okDraw (mkTbl [] (ops.toList.map edges)) _ (ops.toList.map edges)) <;> (rw [hb] at hc; cases hc))
  | cond => simp only [compCode] at hc; split at hc <;> cases hc
  | rangeFunc g ps asg body =>
    simp only [compCode] at hc; split at hc
    · cases hb : ps.toList.all (Nat.blt · N) <;> (rw [hb] at hc; cases hc)
    · cases hc
  | _ => simp [compCode] at hc

theorem cf_block {id : Nat} (x : CFact P N bc ts h (.exit id) ts' h') : CFact P N (.block id bc) ts h .normal ts' h' := by
  intro c hc B w0 μ M0 a w R r hN hk
  cases c with
  | block i c =>
    simp only [compCode, ACode.block.injEq] at hc
    obtain ⟨rfl, hc⟩ := hc
    refine wpIn_block (wpIn_mono (x c hc B w0 μ M0 a w R r hN hk) ?_)
    rintro e1 a1 w1 ⟨rfl, hp⟩
    simp only [concE, Exit.inBlock, if_true]
    exact ⟨rfl, hp⟩
  | region id ops d => cases d <;> simp only [compCode] at hc <;> split at hc <;> first | cases hc | (cases hb : (P.follows .mixedOrders && okDraw (mkTbl [] (ops.toList.map edges)) _ (ops.toList.map edges)) <;> (rw [hb] at hc; cases hc))
  | cond => simp only [compCode] at hc; split at hc <;> cases hc
  | rangeFunc g ps asg body =>
    simp only [compCode] at hc; split at hc
    · cases hb : ps.toList.all (Nat.blt · N) <;> (rw [hb] at hc; cases hc)
    · cases hc
  | _ => simp [compCode] at hc

/-- a loop's rounds, one behind the other -/
inductive LRun (P : Program) (N : Nat) (b : ACode) (e : AExit) (ts' : T Value) (h' : Heap) : T Value → Heap → Nat → Prop
  | last {ts : T Value} {h : Heap} (ne : e ≠ .normal) (x : CFact P N b ts h e ts' h') : LRun P N b e ts' h' ts h 0
  | step {ts t1 : T Value} {h h1 : Heap} {n : Nat} (x : CFact P N b ts h .normal t1 h1) (y : LRun P N b e ts' h' t1 h1 n) : LRun P N b e ts' h' ts h (n + 1)

/-- the round that comes next -/
theorem cf_loop {n : Nat} (x : LRun P N bc e ts' h' ts h n) : CFact P N (.loop bc) ts h e ts' h' := by
  intro c hc B w0 μ M0 a w R r hN hk
  cases c with
  | loop c =>
    simp only [compCode, ACode.loop.injEq] at hc
    refine wpIn_loop_fuel (fun k a' w' => a'.tmps.size = N ∧ ∃ ts1 h1 μ1, μ.le μ1 ∧ Rel (Cc P) μ1 h1 B w0 w' ∧ TsRel μ1 ts1 a' ∧ Mk μ1 M0 h1 a' ∧ LRun P N bc e ts' h' ts1 h1 k) ?_ n a w ⟨hN, ts, h, μ, μ.le_refl, R, r, hk, x⟩
    rintro k a1 w1 ⟨hN1, ts1, h1, μ1, hle1, R1, r1, hk1, x1⟩
    cases x1 with
    | last ne y =>
      refine wpIn_mono (y c hc B w0 μ1 M0 a1 w1 R1 r1 hN1 hk1) ?_
      rintro e1 a2 w2 ⟨rfl, hp⟩
      cases e with
      | normal => exact (ne rfl).elim
      | exit id => exact ⟨rfl, hp.le hle1⟩
      | ret => exact ⟨rfl, hp.le hle1⟩
    | step y z =>
      refine wpIn_mono (y c hc B w0 μ1 M0 a1 w1 R1 r1 hN1 hk1) ?_
      rintro e1 a2 w2 ⟨rfl, p1, μ2, p3, p4, p5, p6⟩
      exact ⟨_, Nat.lt_succ_self _, p1, _, _, μ2, hle1.trans p3, p4, p5, p6, z⟩
  | region id ops d => cases d <;> simp only [compCode] at hc <;> split at hc <;> first | cases hc | (cases hb : (P.follows .mixedOrders && okDraw (mkTbl [] (ops.toList.map edges)) _ (ops.toList.map edges)) <;> (rw [hb] at hc; cases hc))
  | cond => simp only [compCode] at hc; split at hc <;> cases hc
  | rangeFunc g ps asg body =>
    simp only [compCode] at hc; split at hc
    · cases hb : ps.toList.all (Nat.blt · N) <;> (rw [hb] at hc; cases hc)
    · cases hc
  | _ => simp [compCode] at hc

/-- so many rounds -/
def iter (ex : ExF) (b : ACode) : Nat → T Value → Heap → Option (T Value × Heap)
  | 0, ts, h => some (ts, h)
  | k + 1, ts, h => match ex none b ts h with
    | some (.normal, t1, h1) => iter ex b k t1 h1
    | _ => none

/-- some rounds, and then one that leaves the loop -/
def fin (ex : ExF) (b : ACode) : Nat → T Value → Heap → Option (AExit × T Value × Heap)
  | 0, ts, h => match ex none b ts h with
    | some (.normal, _, _) => none
    | r => r
  | k + 1, ts, h => match ex none b ts h with
    | some (.normal, t1, h1) => fin ex b k t1 h1
    | _ => none

theorem lr_iter {mm : Memo} {tab : Nat → Option AFunc} (hT : TabOk P tab) (hM : MemoOk P mm) {n m : Nat} (x : LRun P N bc e ts' h' t1 h1 m) : ∀ (k : Nat) (ts : T Value) (h : Heap), iter (exec mm tab n) bc k ts h = some (t1, h1) → ∃ m, LRun P N bc e ts' h' ts h m
  | 0, ts, h, hv => by
    simp only [iter, Option.some.injEq, Prod.mk.injEq] at hv
    obtain ⟨rfl, rfl⟩ := hv
    exact ⟨m, x⟩
  | k + 1, ts, h, hv => by
    simp only [iter] at hv
    split at hv
    · rename_i t2 h2 hx
      obtain ⟨m', y⟩ := lr_iter hT hM x k t2 h2 hv
      exact ⟨_, .step (cf_exec hT hM hx) y⟩
    · cases hv

theorem lr_fin {mm : Memo} {tab : Nat → Option AFunc} (hT : TabOk P tab) (hM : MemoOk P mm) {n : Nat} : ∀ (k : Nat) (ts : T Value) (h : Heap), fin (exec mm tab n) bc k ts h = some (e, ts', h') → ∃ m, LRun P N bc e ts' h' ts h m
  | 0, ts, h, hv => by
    simp only [fin] at hv
    split at hv
    · cases hv
    · rename_i hnn
      exact ⟨0, .last (fun he => by subst he; exact hnn _ _ hv) (cf_exec hT hM hv)⟩
  | k + 1, ts, h, hv => by
    simp only [fin] at hv
    split at hv
    · rename_i t2 h2 hx
      obtain ⟨m', y⟩ := lr_fin hT hM k t2 h2 hv
      exact ⟨_, .step (cf_exec hT hM hx) y⟩
    · cases hv

/-! ### less is told -/

/-- these slots, in a function of so many -/
def TSub (N : Nat) (t' t : T Value) : Prop := ∀ (μ : Map) (a : Act), a.tmps.size = N → TsRel μ t a → TsRel μ t' a

theorem CFact.pre {t0 : T Value} {h0 : Heap} (x : CFact P N ac ts h e ts' h') (st : TSub N ts t0) (sh : Sub h h0) : CFact P N ac t0 h0 e ts' h' :=
  fun c hc B w0 μ M0 a w R r hN hk => x c hc B w0 μ M0 a w (R.sub sh) (st μ a hN r) hN (by obtain ⟨new, k1, k2⟩ := hk; exact ⟨new, by rw [sh.marks]; exact k1, k2⟩)

theorem CFact.post {t2 : T Value} {h2 : Heap} (x : CFact P N ac ts h e ts' h') (st : TSub N t2 ts') (sh : Sub h2 h') : CFact P N ac ts h e t2 h2 :=
  fun c hc B w0 μ M0 a w R r hN hk => wpIn_mono (x c hc B w0 μ M0 a w R r hN hk) (by
    rintro e1 a1 w1 ⟨p0, p1, μ2, p3, p4, p5, new, p6, p7⟩
    exact ⟨p0, p1, μ2, p3, p4.sub sh, st μ2 a1 p1 p5, new, by rw [sh.marks]; exact p6, p7⟩)

theorem LRun.pre {t0 : T Value} {h0 : Heap} {m : Nat} (x : LRun P N bc e ts' h' ts h m) (st : TSub N ts t0) (sh : Sub h h0) : LRun P N bc e ts' h' t0 h0 m := by
  cases x with
  | last ne y => exact .last ne (y.pre st sh)
  | step y z => exact .step (y.pre st sh) z

theorem LRun.post {t2 : T Value} {h2 : Heap} {m : Nat} (x : LRun P N bc e ts' h' ts h m) (st : TSub N t2 ts') (sh : Sub h2 h') : LRun P N bc e t2 h2 ts h m := by
  induction x with
  | last ne y => exact .last ne (y.post st sh)
  | step y _ ih => exact .step y ih

def allT (t' t : T Value) : Nat → Bool
  | 0 => true
  | k + 1 => (match t'.get k with
    | none => (match t.get k with
      | none => true
      | some v => (match v with
        | .tuple a => a.toList.isEmpty
        | _ => false))
    | some u => veqR u (look t k)) && allT t' t k

/-- does a state have all that? -/
def CSt.inB (s : CSt) (N : Nat) (t : T Value) (h : Heap) : Bool := s.tl.all (fun x => Nat.blt x.1 N) && allT s.ts t N && s.ph.inB h

theorem allT_look {t' t : T Value} : ∀ {k : Nat}, allT t' t k = true → ∀ i, i < k → look t' i = look t i
  | 0, _, i, hi => by omega
  | k + 1, hq, i, hi => by
    simp only [allT, Bool.and_eq_true] at hq
    by_cases hik : i = k
    · subst hik
      have h1 := hq.1
      unfold look
      split at h1
      · rename_i hn
        rw [hn]
        split at h1
        · rename_i hm; rw [hm]
        · rename_i v hm
          rw [hm]
          split at h1
          · rename_i a
            have : a.toList = [] := by simpa using h1
            have : a = #[] := Array.ext' this
            subst this; rfl
          · cases h1
      · rename_i u hn
        rw [hn]
        exact veqR_eq h1
    · exact allT_look hq.2 i (by omega)

theorem CSt.tsub {s : CSt} {t : T Value} {h : Heap} (hs : s.inB N t h = true) : TSub N s.ts t := by
  simp only [CSt.inB, Bool.and_eq_true] at hs
  intro μ a hN r i
  by_cases hi : i < N
  · rw [allT_look hs.1.2 i hi]; exact r i
  · have h1 : look s.ts i = undef := by
      unfold look
      split
      · rename_i v hv
        have := List.all_eq_true.1 hs.1.1 _ (T.get_ofList hv)
        have : Nat.ble (i + 1) N = true := this
        have := ble_true this
        omega
      · rfl
    rw [h1, Array.getD_eq_getD_getElem?, Array.getElem?_eq_none (by omega)]
    exact undef_rel μ

theorem CSt.hsub {s : CSt} {t : T Value} {h : Heap} (hs : s.inB N t h = true) : Sub s.h h := by
  simp only [CSt.inB, Bool.and_eq_true] at hs
  exact PHeap.sub hs.2

def eqX : AExit → AExit → Bool
  | .normal, .normal => true
  | .ret, .ret => true
  | .exit a, .exit b => Nat.beq a b
  | _, _ => false

theorem eqX_eq {a b : AExit} (h : eqX a b = true) : a = b := by
  cases a <;> cases b <;> simp only [eqX] at h <;> first | rfl | cases h | rw [Nat.eq_of_beq_eq_true h]

def comesC (N : Nat) (e : AExit) (s : CSt) : Option (AExit × T Value × Heap) → Bool
  | some (e', t, h) => eqX e e' && s.inB N t h
  | none => false

def comesI (N : Nat) (s : CSt) : Option (T Value × Heap) → Bool
  | some (t, h) => s.inB N t h
  | none => false

/-- a run of a piece, asked of the kernel -/
theorem cf_of {mm : Memo} {tab : Nat → Option AFunc} (hT : TabOk P tab) (hM : MemoOk P mm) {n : Nat} {s s' : CSt} (hv : comesC N e s' (exec mm tab n none ac s.ts s.h) = true) : CFact P N ac s.ts s.h e s'.ts s'.h := by
  unfold comesC at hv
  split at hv
  · rename_i e' t h hx
    simp only [Bool.and_eq_true] at hv
    have := eqX_eq hv.1
    subst this
    exact (cf_exec hT hM hx).post (CSt.tsub hv.2) (CSt.hsub hv.2)
  · cases hv

/-- rounds, asked of the kernel -/
theorem lr_of {mm : Memo} {tab : Nat → Option AFunc} (hT : TabOk P tab) (hM : MemoOk P mm) {n k : Nat} {s s1 : CSt} (hv : comesI N s1 (iter (exec mm tab n) bc k s.ts s.h) = true) (x : ∃ m, LRun P N bc e ts' h' s1.ts s1.h m) : ∃ m, LRun P N bc e ts' h' s.ts s.h m := by
  obtain ⟨m, x⟩ := x
  unfold comesI at hv
  split at hv
  · rename_i t h hx
    exact lr_iter hT hM (x.pre (CSt.tsub hv) (CSt.hsub hv)) k _ _ hx
  · cases hv

/-- the last rounds, asked of the kernel -/
theorem lr_end {mm : Memo} {tab : Nat → Option AFunc} (hT : TabOk P tab) (hM : MemoOk P mm) {n k : Nat} {s s' : CSt} (hv : comesC N e s' (fin (exec mm tab n) bc k s.ts s.h) = true) : ∃ m, LRun P N bc e s'.ts s'.h s.ts s.h m := by
  unfold comesC at hv
  split at hv
  · rename_i e' t h hx
    simp only [Bool.and_eq_true] at hv
    have := eqX_eq hv.1
    subst this
    obtain ⟨m, y⟩ := lr_fin hT hM k _ _ hx
    exact ⟨m, y.post (CSt.tsub hv.2) (CSt.hsub hv.2)⟩
  · cases hv

/-- a function of which the body is known -/
theorem fact_of_body {tab : Nat → Option AFunc} (hT : TabOk P tab) {f : Nat} {af : AFunc} (hf : tab f = some af) {args : List Value} (hl : Nat.ble args.length af.n = true) {h2 : Heap} (hb : CFact P af.n af.body (putArgs .nil 0 args) h e ts' h2) (he : ∀ id, e ≠ .exit id) {vs : List Value} (hvs : resAll ts' h2 af.res = some vs) :
    ∀ B w0 μ w args', Rel (Cc P) μ h B w0 w → VsRel μ args args' → Calls P f args'.toArray w (CallPost P μ { h2 with marks := h.marks } B w0 (mkRes vs)) := by
  have ht := hT f af hf
  unfold tabOf at ht
  split at ht
  · rename_i fn hfn
    have hfn' : P.funcs[f]? = some fn := by simpa using hfn
    unfold compFunc at ht
    split at ht
    · rename_i c res hbody hres
      cases hname : fn.name == "runtime.NumGoroutine" with
      | true => rw [hname] at ht; cases ht
      | false =>
        rw [hname] at ht; simp only [cond_false, Option.some.injEq] at ht
        subst ht
        intro B w0 μ w args' R hargs
        have hle := ble_true hl
        simp only at hle
        have hsz : (args'.toArray ++ Array.replicate (fn.ntmps - args'.toArray.size) undef).size = fn.ntmps := by
          have := hargs.1
          simp; omega
        have r0 : TsRel μ (putArgs .nil 0 args) { tmps := args'.toArray ++ Array.replicate (fn.ntmps - args'.toArray.size) undef, defers := [] } := by
          intro t
          rw [putArgs_look]
          simp only [Nat.not_lt_zero, if_false, Nat.zero_add, Nat.sub_zero, Array.getD_eq_getD_getElem?]
          by_cases hlt : t < args.length
          · rw [if_pos hlt, List.getElem?_eq_getElem hlt]
            have hlt' : t < args'.length := by rw [← hargs.1]; exact hlt
            rw [Array.getElem?_append_left (by simpa using hlt')]
            simp only [List.getElem?_toArray, List.getElem?_eq_getElem hlt', Option.getD_some]
            exact hargs.2 t _ _ (List.getElem?_eq_getElem hlt) (List.getElem?_eq_getElem hlt')
          · rw [if_neg hlt]
            rw [Array.getElem?_append_right (by have := hargs.1; simp; omega), Array.getElem?_replicate]
            have : look T.nil t = undef := rfl
            rw [this]
            split <;> exact undef_rel μ
        have hwp := hb c rfl B w0 μ h.marks _ w R r0 hsz ⟨[], rfl, rfl⟩
        refine calls_FW (ro := none) (n := 0) (callsIn_of_wp_marks hfn' hbody trivial (wpIn_mono hwp ?_))
        rintro x a' w' ⟨rfl, p1, μ2, p3, p4, p5, new, m1, m2⟩
        have fin : LeavesInM (FW none) 0 P fn a'.tmps (CallPost P μ { h2 with marks := h.marks } B w0 (mkRes vs)) a'.defers .returning w' := by
          rw [m2]
          refine leaves_marks new h2 w' m1 p4 (fun w3 R3 => ?_)
          have hvs3 : resAll ts' { h2 with marks := h.marks } res = some vs := by
            rw [← hvs]; exact (resAll_marks res)
          obtain ⟨vs', g1, g2, g3⟩ := resAll_rel R3 p5 fn.results.toList res vs hres hvs3
          have hrun := results_run fn.results.toList vs' g3 g2
          refine ⟨mkRes vs', ?_, μ2, mkRes vs', rfl, p3, R3, mkRes_rel g1⟩
          unfold results
          rw [Array.mapM_eq_mapM_toList]
          simp only [Sem.run_bind, Sem.run_map]
          erw [hrun]
          simp only [Result.andThen_ok, Sem.run_pure]
          rw [mkRes_eq]
        cases e with
        | normal => exact fin
        | ret => exact fin
        | exit id => exact (he id rfl).elim
    · cases ht
  · cases ht

/-- a law without arguments, of which the body is known -/
theorem closed_body {tab : Nat → Option AFunc} (hT : TabOk P tab) {f : Nat} {af : AFunc} (hf : tab f = some af) {s0 s' : CSt} (h0 : s0.ts = .nil ∧ s0.h = heap0) (hb : CFact P af.n af.body s0.ts s0.h .ret s'.ts s'.h) (hvs : resAll s'.ts s'.h af.res = some [.bool true]) (w : World) :
    Calls P f #[] w fun e w' => e = .returned (.bool true) ∧ Below w.heap.size w w' := by
  rw [h0.1, h0.2] at hb
  have := fact_of_body hT hf (args := []) (by simp) hb (by simp) hvs ⟨w.heap.size, fun _ => none⟩ w _ w [] (rel0 w) (.nil _)
  refine this.mono ?_
  rintro e w' ⟨μ', v', rfl, _, R, hv⟩
  exact ⟨by rw [hv.bool], R.below⟩

end
end
end Go.Proofs.Ytedldiimhbebdaa.Ai
