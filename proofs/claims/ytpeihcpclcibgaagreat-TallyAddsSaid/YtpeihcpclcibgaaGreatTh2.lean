/- A run of the program's code over an abstract heap, and that it is the model's: part Th2 of the theory. -/
import Derived.Test.YtpeihcpclcibgaaGreatTh1
import Derived.ChangeSame
import Derived.WalkKit
import Derived.ProofKit
import Derived.OpenShut
import Derived.Below
/- The last step of a law's row, where it is known that nothing below has turned; and what a table of functions owes. -/
namespace Go.Proofs.YtpeihcpclcibgaaGreat.Ai
noncomputable section
open Go.RowKit Go.WideShapes Go.ChangeShapes

def T.ofList {α : Type} : List (Nat × α) → T α
  | [] => .nil
  | (k, x) :: r => (T.ofList r).put k x

theorem T.get_ofList {α : Type} {x : α} {k : Nat} : ∀ {l : List (Nat × α)}, (T.ofList l).get k = some x → (k, x) ∈ l
  | [], h => by cases h
  | (j, y) :: r, h => by
    simp only [T.ofList] at h
    by_cases hj : k = j
    · subst hj
      rw [T.get_put_same] at h
      simp only [Option.some.injEq] at h
      simp [h]
    · rw [T.get_put_other _ _ hj] at h
      exact List.mem_cons_of_mem _ (T.get_ofList h)

/-- each of them is the program's -/
def AllOk (P : Program) : List (Nat × AFunc) → Prop
  | [] => True
  | (k, x) :: r => tabOf P k = some x ∧ AllOk P r

theorem AllOk.mem {P : Program} : ∀ {l : List (Nat × AFunc)}, AllOk P l → ∀ {k x}, (k, x) ∈ l → tabOf P k = some x
  | [], _, _, _, h => by cases h
  | (j, y) :: r, ha, k, x, h => by
    rcases List.mem_cons.1 h with h | h
    · cases h; exact ha.1
    · exact AllOk.mem ha.2 h

theorem tabOk_of {P : Program} {t : T AFunc} {l : List (Nat × AFunc)} (ht : t = T.ofList l) (ha : AllOk P l) : TabOk P t.get := by
  intro f af h
  rw [ht] at h
  exact ha.mem (T.get_ofList h)

/-- A law's post, where of the world behind the call it is known alone that nothing below has turned. -/
theorem law_post {H : Type} {enc : TypeId × Value → H} {P : Program} {f : Func} {s : ChangeSpec} {apart fresh handsOn again : Bool} {W W' : World} {args : Array Value} {v : Value} {ds gs : List (DataW H)} {before pa pv : List MemPlace}
    (hW : DataW.Whole enc P f.params.toList s.vars apart W args.toList ds gs before)
    (hres : ∀ (b : Nat) (sp : Nat → Bool) (hd : Bool), DataW.TrodAll enc P W' b sp hd f.resultTypes.toList (v.resultList f.resultTypes.size) (s.fn H (ds ++ gs)).results [])
    (hargs : ∀ sp : Nat → Bool, (∀ p ∈ before, sp p.block = true) → DataW.TrodAll enc P W' 0 sp true f.params.toList args.toList (s.fn H (ds ++ gs)).args pa)
    (hvars : ∀ sp : Nat → Bool, (∀ p ∈ before, sp p.block = true) → DataW.TrodVars enc P W' sp s.vars (s.fn H (ds ++ gs)).vars pv)
    (hps : before = pa ++ pv) (hb : Below W.heap.size W W')
    (hok : ∀ (j : Nat) (t : TypeId) (r : Value), f.resultTypes[j]? = some t → (v.resultList f.resultTypes.size)[j]? = some r → Value.okWide P W' .any 0 t r) :
    s.post enc P f apart fresh handsOn again W args v W' := by
  have below : ∀ p ∈ before, p.block < W.heap.size := fun p hp => hW.lt p hp
  have inOld : ∀ p ∈ before, (fun b => decide (b < W.heap.size)) p.block = true := fun p hp => by simpa using below p hp
  have may : ∀ p, p ∈ before → p ∈ before ∧ (p ∈ ([] : List MemPlace) ∨ p ∈ pa ∨ p ∈ pv) := fun p hp => ⟨hp, .inr (by rw [hps, List.mem_append] at hp; exact hp)⟩
  refine ⟨ds, gs, before, [], pa, pv, hW, hres _ _ _, hargs _ inOld, hvars _ inOld, World.keptBut_mono may (hb.frame (· ∈ before)), fun _ => ?_⟩
  obtain ⟨_, _, _, _, _, hz, hn⟩ := hW
  have pall : ∀ p ∈ before, (fun _ : Nat => true) p.block = true := fun _ _ => rfl
  refine ⟨hok, _, _, ([] ++ pa) ++ pv, ⟨[] ++ pa, pv, trodAll_append (hargs _ pall) (hres _ _ _), hvars _ pall, rfl, ?_, ?_⟩, ?_⟩
  · intro b off hp
    have hin : MemPlace.cell b off ∈ before := by rw [hps]; simpa using hp
    rw [hb.frozen (below _ hin)]
    exact hz b off hin
  · intro ha
    have := hn ha
    rw [hps] at this
    simpa using this
  · intro p hp _
    rw [hps]
    simpa using hp

end
end Go.Proofs.YtpeihcpclcibgaaGreat.Ai
/- Calls that are known, by what was printed of them. -/
namespace Go.Proofs.YtpeihcpclcibgaaGreat.Ai
noncomputable section
open Go.RowKit

/-- less is told -/
structure Sub (h' h : Heap) : Prop where
  next : h'.next = h.next
  blk : ∀ b k, h'.blks.get b = some k → h.blks.get b = some k
  loops : ∀ b k, h'.loops.get b = some k → h.loops.get b = some k
  marks : h'.marks = h.marks

theorem Rel.sub {C : CRel} {μ : Map} {h h' : Heap} {B : Fr} {w0 w : World} (R : Rel C μ h B w0 w) (s : Sub h' h) : Rel C μ h' B w0 w :=
  ⟨R.below, R.size, R.zk, fun b e he => by rw [s.next]; exact R.fresh b e he, fun b k hb => R.blk b k (s.blk b k hb),
    fun b b' k k' e e' hb hb' => R.apart b b' k k' e e' (s.blk b k hb) (s.blk b' k' hb'),
    ⟨fun b k hb => R.aux.loop b k (s.loops b k hb), fun b b' k k' e e' hb hb' => R.aux.lapart b b' k k' e e' (s.loops b k hb) (s.loops b' k' hb'), fun m hm => R.aux.mark m (by rw [← s.marks]; exact hm), by rw [s.marks]; exact R.aux.mapart⟩⟩

theorem Fact.sub {P : Program} {f : Nat} {args : List Value} {h h1 h' h2 : Heap} {v : Value} (x : Fact P f args h v h') (s1 : Sub h h1) (s2 : Sub h2 h') : Fact P f args h1 v h2 :=
  ⟨x.ok, by rw [s2.marks, x.marks, s1.marks], fun B w0 μ w args' R ha => (x.calls B w0 μ w args' (R.sub s1) ha).mono fun e w' ⟨μ', v', q1, q2, q3, q4⟩ => ⟨μ', v', q1, q2, q3.sub s2, q4⟩⟩

def veqL : List Value → List Value → Bool
  | [], [] => true
  | a :: l, b :: r => veq a b && veqL l r
  | _, _ => false

theorem veqL_eq : ∀ {a b : List Value}, veqL a b = true → a = b
  | [], [], _ => rfl
  | a :: l, b :: r, h => by
    simp only [veqL, Bool.and_eq_true] at h
    rw [veq_eq h.1, veqL_eq h.2]
  | [], _ :: _, h => by cases h
  | _ :: _, [], h => by cases h

def beqBlk (a b : Blk) : Bool := Nat.beq a.n b.n && Nat.beq a.s b.s && (a.own == b.own) && (a.grown == b.grown) && veqL a.cells b.cells

theorem beqBlk_eq {a b : Blk} (h : beqBlk a b = true) : a = b := by
  simp only [beqBlk, Bool.and_eq_true, beq_iff_eq] at h
  obtain ⟨⟨⟨⟨h1, h2⟩, h3⟩, h4⟩, h5⟩ := h
  cases a; cases b
  simp only at h1 h2 h3 h4 h5
  rw [veqL_eq h5, Nat.eq_of_beq_eq_true h1, Nat.eq_of_beq_eq_true h2, h3, h4]

/-- are all these blocks there? -/
def subB (t : T Blk) : List (Nat × Blk) → Bool
  | [] => true
  | (b, k) :: r => (match t.get b with
    | some k' => beqBlk k k'
    | none => false) && subB t r

theorem subB_mem {t : T Blk} : ∀ {l : List (Nat × Blk)}, subB t l = true → ∀ b k, (b, k) ∈ l → t.get b = some k
  | [], _, b, k, hm => by cases hm
  | (b0, k0) :: l, h, b, k, hm => by
    simp only [subB, Bool.and_eq_true] at h
    rcases List.mem_cons.1 hm with hm | hm
    · cases hm
      have h1 := h.1
      split at h1
      · rename_i k' hk; rw [hk, beqBlk_eq h1]
      · cases h1
    · exact subB_mem h.2 b k hm

def natsB : List Nat → List Nat → Bool
  | [], [] => true
  | a :: l, b :: r => Nat.beq a b && natsB l r
  | _, _ => false

theorem natsB_eq : ∀ {a b : List Nat}, natsB a b = true → a = b
  | [], [], _ => rfl
  | a :: l, b :: r, h => by
    simp only [natsB, Bool.and_eq_true] at h
    rw [Nat.eq_of_beq_eq_true h.1, natsB_eq h.2]
  | [], _ :: _, h => by cases h
  | _ :: _, [], h => by cases h

/-- a heap that was printed -/
structure PHeap where
  bl : List (Nat × Blk)
  next : Nat
  marks : List Nat

def PHeap.heap (p : PHeap) : Heap := ⟨T.ofList p.bl, p.next, .nil, p.marks⟩

/-- does the heap have all that? -/
def PHeap.inB (p : PHeap) (h : Heap) : Bool := Nat.beq p.next h.next && natsB p.marks h.marks && subB h.blks p.bl

theorem PHeap.sub {p : PHeap} {h : Heap} (hp : p.inB h = true) : Sub p.heap h := by
  simp only [PHeap.inB, Bool.and_eq_true] at hp
  refine ⟨Nat.eq_of_beq_eq_true hp.1.1, fun b k hb => subB_mem hp.2 b k (T.get_ofList hb), fun b k hb => ?_, natsB_eq hp.1.2⟩
  simp [PHeap.heap, T.get_nil] at hb

structure Known where
  f : Nat
  args : List Value
  h : PHeap
  v : Value
  h' : PHeap

def memoOf : List Known → Memo
  | [], _, _, _ => none
  | e :: r, f, args, h => bif Nat.beq e.f f && Nat.beq e.h.next h.next then (bif veqL e.args args && e.h.inB h then some (e.v, e.h'.heap) else none) else memoOf r f args h

def Known.Ok (P : Program) (e : Known) : Prop := Fact P e.f e.args e.h.heap e.v e.h'.heap

theorem memoOf_ok {P : Program} : ∀ {l : List Known}, (∀ e ∈ l, e.Ok P) → MemoOk P (memoOf l)
  | [], _, f, args, h, v, h', hv => by simp [memoOf] at hv
  | e :: l, hl, f, args, h, v, h', hv => by
    simp only [memoOf] at hv
    cases hc : (Nat.beq e.f f && Nat.beq e.h.next h.next) with
    | false => rw [hc] at hv; exact memoOf_ok (fun e he => hl e (List.mem_cons_of_mem _ he)) f args h v h' hv
    | true =>
      rw [hc] at hv; simp only [cond_true] at hv
      simp only [Bool.and_eq_true] at hc
      cases hd : (veqL e.args args && e.h.inB h) with
      | false => rw [hd] at hv; cases hv
      | true =>
        rw [hd] at hv; simp only [cond_true, Option.some.injEq, Prod.mk.injEq] at hv
        simp only [Bool.and_eq_true] at hd
        obtain ⟨rfl, rfl⟩ := hv
        have h1 := Nat.eq_of_beq_eq_true hc.1
        have h2 := veqL_eq hd.1
        subst h1; subst h2
        exact (hl e (by simp)).sub (PHeap.sub hd.2) ⟨rfl, fun _ _ q => q, fun _ _ q => q, rfl⟩

/-- what a call came to: one value, or a row of them -/
def veqR : Value → Value → Bool
  | .tuple a, .tuple b => veqL a.toList b.toList
  | a, b => veq a b

theorem veqR_eq {a b : Value} (h : veqR a b = true) : a = b := by
  unfold veqR at h
  split at h
  · congr 1
    exact Array.ext' (veqL_eq h)
  · exact veq_eq h

/-- does a run come to that, and more? -/
def comes (e : Known) : Option (Value × Heap) → Bool
  | some (v, h') => veqR e.v v && e.h'.inB h'
  | none => false

theorem known_of {P : Program} {mm : Memo} {tab : Nat → Option AFunc} (hT : TabOk P tab) (hM : MemoOk P mm) {n : Nat} {e : Known} (h : comes e (callF mm tab (exec mm tab n) (.fn e.f) e.args e.h.heap) = true) : e.Ok P := by
  unfold comes at h
  split at h
  · rename_i v h' hc
    simp only [Bool.and_eq_true] at h
    have h1 := veqR_eq h.1
    have := fact_of hT hM hc
    rw [← h1] at this
    exact this.sub ⟨rfl, fun _ _ q => q, fun _ _ q => q, rfl⟩ (PHeap.sub h.2)
  · cases h

/-- a run with nothing given, with calls that are known -/
theorem closed_known {P : Program} {mm : Memo} {tab : Nat → Option AFunc} (hT : TabOk P tab) (hM : MemoOk P mm) {n f : Nat} (h : okTrue (callF mm tab (exec mm tab n) (.fn f) [] heap0) = true) (w : World) :
    Calls P f #[] w fun e w' => e = .returned (.bool true) ∧ Below w.heap.size w w' := by
  unfold okTrue at h
  split at h
  · rename_i h' hc
    have := ((calls_sound (B := ⟨w.heap.size, fun _ => none⟩) (w0 := w) hT hM n).fn f [] heap0 _ h' hc).2 _ w [] (rel0 w) (.nil _)
    refine this.mono ?_
    rintro e w' ⟨μ', v', rfl, _, R, hv⟩
    exact ⟨by rw [hv.bool], R.below⟩
  · cases h

end
end Go.Proofs.YtpeihcpclcibgaaGreat.Ai
/- Code in pieces: what is known of a piece, of what is left of a loop, of a function so put together. -/
namespace Go.Proofs.YtpeihcpclcibgaaGreat.Ai
noncomputable section
open Go.RowKit

/-- a state that was printed -/
structure CSt where
  tl : List (Nat × Value)
  ph : PHeap

def CSt.ts (s : CSt) : T Value := T.ofList s.tl
def CSt.h (s : CSt) : Heap := s.ph.heap

/-- what is known of code, in a round or outside -/
def CFact (P : Program) (N : Nat) (ro : Option Nat) (ac : ACode) (ts : T Value) (h : Heap) (e : AExit) (ts' : T Value) (h' : Heap) : Prop :=
  ∀ c, compCode P N c = ac → ∀ (B : Fr) (w0 : World) (μ : Map) (M0 : List Nat) (lr : Option Nat) (a : Act) (w : World), Rel (Cc P) μ h B w0 w → TsRel μ ts a → a.tmps.size = N → RoRel μ ro lr → Mk μ M0 h a → c.wpIn (FW lr) 0 P (CodePost P μ N M0 e ts' h' B w0) a w

section
variable {P : Program} {N : Nat} {ro : Option Nat} {ac bc : ACode} {ts t1 ts' : T Value} {h h1 h' : Heap} {e : AExit}

theorem cf_exec {mm : Memo} {tab : Nat → Option AFunc} (hT : TabOk P tab) (hM : MemoOk P mm) {n : Nat} (hv : exec mm tab n ro ac ts h = some (e, ts', h')) : CFact P N ro ac ts h e ts' h' := by
  rintro c rfl B w0 μ M0 lr a w R r hN hro hk
  exact exec_sound (P := P) (B := B) (w0 := w0) n (fun k _ => calls_all hT hM k) n (Nat.le_refl _) N c ro lr ts ts' h h' e μ M0 a w hv R r hN hro hk

theorem cf_seq (x : CFact P N ro ac ts h .normal t1 h1) (y : CFact P N ro bc t1 h1 e ts' h') : CFact P N ro (.seq ac bc) ts h e ts' h' := by
  intro c hc B w0 μ M0 lr a w R r hN hro hk
  cases c with
  | seq c d =>
    simp only [compCode, ACode.seq.injEq] at hc
    refine wpIn_seq (wpIn_mono (x c hc.1 B w0 μ M0 lr a w R r hN hro hk) ?_)
    rintro e1 a1 w1 ⟨rfl, p1, μ2, p3, p4, p5, p6⟩
    simp only [concE, Exit.then]
    refine wpIn_mono (y d hc.2 B w0 μ2 M0 lr a1 w1 p4 p5 p1 (hro.mono p3) p6) ?_
    rintro e2 a2 w2 ⟨q1, q2⟩
    exact ⟨q1, q2.le p3⟩
  | region id ops d => cases d <;> simp only [compCode] at hc <;> split at hc <;> first | cases hc | (cases hb : (P.follows .mixedOrders && okDraw (mkTbl [] (ops.toList.map edges)) _ (ops.toList.map edges)) <;> (rw [hb] at hc; cases hc))
  | cond => simp only [compCode] at hc; split at hc <;> cases hc
  | rangeFunc g ps asg body =>
    simp only [compCode] at hc; split at hc
    · cases hb : ps.toList.all (Nat.blt · N) <;> (rw [hb] at hc; cases hc)
    · cases hc
  | _ => simp [compCode] at hc

theorem cf_block {id : Nat} (x : CFact P N ro bc ts h (.exit id) ts' h') : CFact P N ro (.block id bc) ts h .normal ts' h' := by
  intro c hc B w0 μ M0 lr a w R r hN hro hk
  cases c with
  | block i c =>
    simp only [compCode, ACode.block.injEq] at hc
    obtain ⟨rfl, hc⟩ := hc
    refine wpIn_block (wpIn_mono (x c hc B w0 μ M0 lr a w R r hN hro hk) ?_)
    rintro e1 a1 w1 ⟨rfl, hp⟩
    simp only [concE, Exit.inBlock, if_true]
    exact ⟨rfl, hp⟩
  | region id ops d => cases d <;> simp only [compCode] at hc <;> split at hc <;> first | cases hc | (cases hb : (P.follows .mixedOrders && okDraw (mkTbl [] (ops.toList.map edges)) _ (ops.toList.map edges)) <;> (rw [hb] at hc; cases hc))
  | cond => simp only [compCode] at hc; split at hc <;> cases hc
  | rangeFunc g ps asg body =>
    simp only [compCode] at hc; split at hc
    · cases hb : ps.toList.all (Nat.blt · N) <;> (rw [hb] at hc; cases hc)
    · cases hc
  | _ => simp [compCode] at hc

/-- a loop's rounds, one behind the other -/
inductive LRun (P : Program) (N : Nat) (ro : Option Nat) (b : ACode) (e : AExit) (ts' : T Value) (h' : Heap) : T Value → Heap → Nat → Prop
  | last {ts : T Value} {h : Heap} (ne : e ≠ .normal) (x : CFact P N ro b ts h e ts' h') : LRun P N ro b e ts' h' ts h 0
  | step {ts t1 : T Value} {h h1 : Heap} {n : Nat} (x : CFact P N ro b ts h .normal t1 h1) (y : LRun P N ro b e ts' h' t1 h1 n) : LRun P N ro b e ts' h' ts h (n + 1)

/-- the round that comes next -/
theorem cf_loop {n : Nat} (x : LRun P N ro bc e ts' h' ts h n) : CFact P N ro (.loop bc) ts h e ts' h' := by
  intro c hc B w0 μ M0 lr a w R r hN hro hk
  cases c with
  | loop c =>
    simp only [compCode, ACode.loop.injEq] at hc
    refine wpIn_loop_fuel (fun k a' w' => a'.tmps.size = N ∧ ∃ ts1 h1 μ1, μ.le μ1 ∧ Rel (Cc P) μ1 h1 B w0 w' ∧ TsRel μ1 ts1 a' ∧ Mk μ1 M0 h1 a' ∧ LRun P N ro bc e ts' h' ts1 h1 k) ?_ n a w ⟨hN, ts, h, μ, μ.le_refl, R, r, hk, x⟩
    rintro k a1 w1 ⟨hN1, ts1, h1, μ1, hle1, R1, r1, hk1, x1⟩
    cases x1 with
    | last ne y =>
      refine wpIn_mono (y c hc B w0 μ1 M0 lr a1 w1 R1 r1 hN1 (hro.mono hle1) hk1) ?_
      rintro e1 a2 w2 ⟨rfl, hp⟩
      cases e with
      | normal => exact (ne rfl).elim
      | exit id => exact ⟨rfl, hp.le hle1⟩
      | ret => exact ⟨rfl, hp.le hle1⟩
    | step y z =>
      refine wpIn_mono (y c hc B w0 μ1 M0 lr a1 w1 R1 r1 hN1 (hro.mono hle1) hk1) ?_
      rintro e1 a2 w2 ⟨rfl, p1, μ2, p3, p4, p5, p6⟩
      exact ⟨_, Nat.lt_succ_self _, p1, _, _, μ2, hle1.trans p3, p4, p5, p6, z⟩
  | region id ops d => cases d <;> simp only [compCode] at hc <;> split at hc <;> first | cases hc | (cases hb : (P.follows .mixedOrders && okDraw (mkTbl [] (ops.toList.map edges)) _ (ops.toList.map edges)) <;> (rw [hb] at hc; cases hc))
  | cond => simp only [compCode] at hc; split at hc <;> cases hc
  | rangeFunc g ps asg body =>
    simp only [compCode] at hc; split at hc
    · cases hb : ps.toList.all (Nat.blt · N) <;> (rw [hb] at hc; cases hc)
    · cases hc
  | _ => simp [compCode] at hc

/-- so many rounds -/
def iter (ex : ExF) (b : ACode) : Nat → T Value → Heap → Option (T Value × Heap)
  | 0, ts, h => some (ts, h)
  | k + 1, ts, h => match ex none b ts h with
    | some (.normal, t1, h1) => iter ex b k t1 h1
    | _ => none

/-- some rounds, and then one that leaves the loop -/
def fin (ex : ExF) (b : ACode) : Nat → T Value → Heap → Option (AExit × T Value × Heap)
  | 0, ts, h => match ex none b ts h with
    | some (.normal, _, _) => none
    | r => r
  | k + 1, ts, h => match ex none b ts h with
    | some (.normal, t1, h1) => fin ex b k t1 h1
    | _ => none

theorem lr_iter {mm : Memo} {tab : Nat → Option AFunc} (hT : TabOk P tab) (hM : MemoOk P mm) {n m : Nat} (x : LRun P N none bc e ts' h' t1 h1 m) : ∀ (k : Nat) (ts : T Value) (h : Heap), iter (exec mm tab n) bc k ts h = some (t1, h1) → ∃ m, LRun P N none bc e ts' h' ts h m
  | 0, ts, h, hv => by
    simp only [iter, Option.some.injEq, Prod.mk.injEq] at hv
    obtain ⟨rfl, rfl⟩ := hv
    exact ⟨m, x⟩
  | k + 1, ts, h, hv => by
    simp only [iter] at hv
    split at hv
    · rename_i t2 h2 hx
      obtain ⟨m', y⟩ := lr_iter hT hM x k t2 h2 hv
      exact ⟨_, .step (cf_exec hT hM hx) y⟩
    · cases hv

theorem lr_fin {mm : Memo} {tab : Nat → Option AFunc} (hT : TabOk P tab) (hM : MemoOk P mm) {n : Nat} : ∀ (k : Nat) (ts : T Value) (h : Heap), fin (exec mm tab n) bc k ts h = some (e, ts', h') → ∃ m, LRun P N none bc e ts' h' ts h m
  | 0, ts, h, hv => by
    simp only [fin] at hv
    split at hv
    · cases hv
    · rename_i hnn
      exact ⟨0, .last (fun he => by subst he; exact hnn _ _ hv) (cf_exec hT hM hv)⟩
  | k + 1, ts, h, hv => by
    simp only [fin] at hv
    split at hv
    · rename_i t2 h2 hx
      obtain ⟨m', y⟩ := lr_fin hT hM k t2 h2 hv
      exact ⟨_, .step (cf_exec hT hM hx) y⟩
    · cases hv

/-! ### less is told -/

/-- these slots, in a function of so many -/
def TSub (N : Nat) (t' t : T Value) : Prop := ∀ (μ : Map) (a : Act), a.tmps.size = N → TsRel μ t a → TsRel μ t' a

theorem CFact.pre {t0 : T Value} {h0 : Heap} (x : CFact P N ro ac ts h e ts' h') (st : TSub N ts t0) (sh : Sub h h0) : CFact P N ro ac t0 h0 e ts' h' :=
  fun c hc B w0 μ M0 lr a w R r hN hro hk => x c hc B w0 μ M0 lr a w (R.sub sh) (st μ a hN r) hN hro (by obtain ⟨new, k1, k2⟩ := hk; exact ⟨new, by rw [sh.marks]; exact k1, k2⟩)

theorem CFact.post {t2 : T Value} {h2 : Heap} (x : CFact P N ro ac ts h e ts' h') (st : TSub N t2 ts') (sh : Sub h2 h') : CFact P N ro ac ts h e t2 h2 :=
  fun c hc B w0 μ M0 lr a w R r hN hro hk => wpIn_mono (x c hc B w0 μ M0 lr a w R r hN hro hk) (by
    rintro e1 a1 w1 ⟨p0, p1, μ2, p3, p4, p5, new, p6, p7⟩
    exact ⟨p0, p1, μ2, p3, p4.sub sh, st μ2 a1 p1 p5, new, by rw [sh.marks]; exact p6, p7⟩)

theorem LRun.pre {t0 : T Value} {h0 : Heap} {m : Nat} (x : LRun P N ro bc e ts' h' ts h m) (st : TSub N ts t0) (sh : Sub h h0) : LRun P N ro bc e ts' h' t0 h0 m := by
  cases x with
  | last ne y => exact .last ne (y.pre st sh)
  | step y z => exact .step (y.pre st sh) z

theorem LRun.post {t2 : T Value} {h2 : Heap} {m : Nat} (x : LRun P N ro bc e ts' h' ts h m) (st : TSub N t2 ts') (sh : Sub h2 h') : LRun P N ro bc e t2 h2 ts h m := by
  induction x with
  | last ne y => exact .last ne (y.post st sh)
  | step y _ ih => exact .step y ih

def allT (t' t : T Value) : Nat → Bool
  | 0 => true
  | k + 1 => (match t'.get k with
    | none => (match t.get k with
      | none => true
      | some v => (match v with
        | .tuple a => a.toList.isEmpty
        | _ => false))
    | some u => veqR u (look t k)) && allT t' t k

/-- does a state have all that? -/
def CSt.inB (s : CSt) (N : Nat) (t : T Value) (h : Heap) : Bool := s.tl.all (fun x => Nat.blt x.1 N) && allT s.ts t N && s.ph.inB h

theorem allT_look {t' t : T Value} : ∀ {k : Nat}, allT t' t k = true → ∀ i, i < k → look t' i = look t i
  | 0, _, i, hi => by omega
  | k + 1, hq, i, hi => by
    simp only [allT, Bool.and_eq_true] at hq
    by_cases hik : i = k
    · subst hik
      have h1 := hq.1
      unfold look
      split at h1
      · rename_i hn
        rw [hn]
        split at h1
        · rename_i hm; rw [hm]
        · rename_i v hm
          rw [hm]
          split at h1
          · rename_i a
            have : a.toList = [] := by simpa using h1
            have : a = #[] := Array.ext' this
            subst this; rfl
          · cases h1
      · rename_i u hn
        rw [hn]
        exact veqR_eq h1
    · exact allT_look hq.2 i (by omega)

theorem CSt.tsub {s : CSt} {t : T Value} {h : Heap} (hs : s.inB N t h = true) : TSub N s.ts t := by
  simp only [CSt.inB, Bool.and_eq_true] at hs
  intro μ a hN r i
  by_cases hi : i < N
  · rw [allT_look hs.1.2 i hi]; exact r i
  · have h1 : look s.ts i = undef := by
      unfold look
      split
      · rename_i v hv
        have := List.all_eq_true.1 hs.1.1 _ (T.get_ofList hv)
        have : Nat.ble (i + 1) N = true := this
        have := ble_true this
        omega
      · rfl
    rw [h1, Array.getD_eq_getD_getElem?, Array.getElem?_eq_none (by omega)]
    exact undef_rel μ

theorem CSt.hsub {s : CSt} {t : T Value} {h : Heap} (hs : s.inB N t h = true) : Sub s.h h := by
  simp only [CSt.inB, Bool.and_eq_true] at hs
  exact PHeap.sub hs.2

def eqX : AExit → AExit → Bool
  | .normal, .normal => true
  | .ret, .ret => true
  | .exit a, .exit b => Nat.beq a b
  | _, _ => false

theorem eqX_eq {a b : AExit} (h : eqX a b = true) : a = b := by
  cases a <;> cases b <;> simp only [eqX] at h <;> first | rfl | cases h | rw [Nat.eq_of_beq_eq_true h]

def comesC (N : Nat) (e : AExit) (s : CSt) : Option (AExit × T Value × Heap) → Bool
  | some (e', t, h) => eqX e e' && s.inB N t h
  | none => false

def comesI (N : Nat) (s : CSt) : Option (T Value × Heap) → Bool
  | some (t, h) => s.inB N t h
  | none => false

/-- a run of a piece, asked of the kernel -/
theorem cf_of {mm : Memo} {tab : Nat → Option AFunc} (hT : TabOk P tab) (hM : MemoOk P mm) {n : Nat} {s s' : CSt} (hv : comesC N e s' (exec mm tab n none ac s.ts s.h) = true) : CFact P N none ac s.ts s.h e s'.ts s'.h := by
  unfold comesC at hv
  split at hv
  · rename_i e' t h hx
    simp only [Bool.and_eq_true] at hv
    have := eqX_eq hv.1
    subst this
    exact (cf_exec hT hM hx).post (CSt.tsub hv.2) (CSt.hsub hv.2)
  · cases hv

/-- rounds, asked of the kernel -/
theorem lr_of {mm : Memo} {tab : Nat → Option AFunc} (hT : TabOk P tab) (hM : MemoOk P mm) {n k : Nat} {s s1 : CSt} (hv : comesI N s1 (iter (exec mm tab n) bc k s.ts s.h) = true) (x : ∃ m, LRun P N none bc e ts' h' s1.ts s1.h m) : ∃ m, LRun P N none bc e ts' h' s.ts s.h m := by
  obtain ⟨m, x⟩ := x
  unfold comesI at hv
  split at hv
  · rename_i t h hx
    exact lr_iter hT hM (x.pre (CSt.tsub hv) (CSt.hsub hv)) k _ _ hx
  · cases hv

/-- the last rounds, asked of the kernel -/
theorem lr_end {mm : Memo} {tab : Nat → Option AFunc} (hT : TabOk P tab) (hM : MemoOk P mm) {n k : Nat} {s s' : CSt} (hv : comesC N e s' (fin (exec mm tab n) bc k s.ts s.h) = true) : ∃ m, LRun P N none bc e s'.ts s'.h s.ts s.h m := by
  unfold comesC at hv
  split at hv
  · rename_i e' t h hx
    simp only [Bool.and_eq_true] at hv
    have := eqX_eq hv.1
    subst this
    obtain ⟨m, y⟩ := lr_fin hT hM k _ _ hx
    exact ⟨m, y.post (CSt.tsub hv.2) (CSt.hsub hv.2)⟩
  · cases hv

/-- a function of which the body is known -/
theorem fact_of_body {tab : Nat → Option AFunc} (hT : TabOk P tab) {f : Nat} {af : AFunc} (hf : tab f = some af) {args : List Value} (hl : Nat.ble args.length af.n = true) {h2 : Heap} (hb : CFact P af.n none af.body (putArgs .nil 0 args) h e ts' h2) (he : ∀ id, e ≠ .exit id) {vs : List Value} (hvs : resAll ts' h2 af.res = some vs) :
    ∀ B w0 μ w args', Rel (Cc P) μ h B w0 w → VsRel μ args args' → Calls P f args'.toArray w (CallPost P μ { h2 with marks := h.marks } B w0 (mkRes vs)) := by
  have ht := hT f af hf
  unfold tabOf at ht
  split at ht
  · rename_i fn hfn
    have hfn' : P.funcs[f]? = some fn := by simpa using hfn
    unfold compFunc at ht
    split at ht
    · rename_i c res hbody hres
      cases hname : fn.name == "runtime.NumGoroutine" with
      | true => rw [hname] at ht; cases ht
      | false =>
        rw [hname] at ht; simp only [cond_false, Option.some.injEq] at ht
        subst ht
        intro B w0 μ w args' R hargs
        have hle := ble_true hl
        simp only at hle
        have hsz : (args'.toArray ++ Array.replicate (fn.ntmps - args'.toArray.size) undef).size = fn.ntmps := by
          have := hargs.1
          simp; omega
        have r0 : TsRel μ (putArgs .nil 0 args) { tmps := args'.toArray ++ Array.replicate (fn.ntmps - args'.toArray.size) undef, defers := [] } := by
          intro t
          rw [putArgs_look]
          simp only [Nat.not_lt_zero, if_false, Nat.zero_add, Nat.sub_zero, Array.getD_eq_getD_getElem?]
          by_cases hlt : t < args.length
          · rw [if_pos hlt, List.getElem?_eq_getElem hlt]
            have hlt' : t < args'.length := by rw [← hargs.1]; exact hlt
            rw [Array.getElem?_append_left (by simpa using hlt')]
            simp only [List.getElem?_toArray, List.getElem?_eq_getElem hlt', Option.getD_some]
            exact hargs.2 t _ _ (List.getElem?_eq_getElem hlt) (List.getElem?_eq_getElem hlt')
          · rw [if_neg hlt]
            rw [Array.getElem?_append_right (by have := hargs.1; simp; omega), Array.getElem?_replicate]
            have : look T.nil t = undef := rfl
            rw [this]
            split <;> exact undef_rel μ
        have hwp := hb c rfl B w0 μ h.marks none _ w R r0 hsz trivial ⟨[], rfl, rfl⟩
        refine calls_FW (ro := none) (n := 0) (callsIn_of_wp_marks hfn' hbody trivial (wpIn_mono hwp ?_))
        rintro x a' w' ⟨rfl, p1, μ2, p3, p4, p5, new, m1, m2⟩
        have fin : LeavesInM (FW none) 0 P fn a'.tmps (CallPost P μ { h2 with marks := h.marks } B w0 (mkRes vs)) a'.defers .returning w' := by
          rw [m2]
          refine leaves_marks new h2 w' m1 p4 (fun w3 R3 => ?_)
          have hvs3 : resAll ts' { h2 with marks := h.marks } res = some vs := by
            rw [← hvs]; exact (resAll_marks res)
          obtain ⟨vs', g1, g2, g3⟩ := resAll_rel R3 p5 fn.results.toList res vs hres hvs3
          have hrun := results_run fn.results.toList vs' g3 g2
          refine ⟨mkRes vs', ?_, μ2, mkRes vs', rfl, p3, R3, mkRes_rel g1⟩
          unfold results
          rw [Array.mapM_eq_mapM_toList]
          simp only [Sem.run_bind, Sem.run_map]
          erw [hrun]
          simp only [Result.andThen_ok, Sem.run_pure]
          rw [mkRes_eq]
        cases e with
        | normal => exact fin
        | ret => exact fin
        | exit id => exact (he id rfl).elim
    · cases ht
  · cases ht

/-- a law without arguments, of which the body is known -/
theorem closed_body {tab : Nat → Option AFunc} (hT : TabOk P tab) {f : Nat} {af : AFunc} (hf : tab f = some af) {s0 s' : CSt} (h0 : s0.ts = .nil ∧ s0.h = heap0) (hb : CFact P af.n none af.body s0.ts s0.h .ret s'.ts s'.h) (hvs : resAll s'.ts s'.h af.res = some [.bool true]) (w : World) :
    Calls P f #[] w fun e w' => e = .returned (.bool true) ∧ Below w.heap.size w w' := by
  rw [h0.1, h0.2] at hb
  have := fact_of_body hT hf (args := []) (by simp) hb (by simp) hvs ⟨w.heap.size, fun _ => none⟩ w _ w [] (rel0 w) (.nil _)
  refine this.mono ?_
  rintro e w' ⟨μ', v', rfl, _, R, hv⟩
  exact ⟨by rw [hv.bool], R.below⟩

end
end
end Go.Proofs.YtpeihcpclcibgaaGreat.Ai
/- What is shown of a function for all arguments: rules for code and for operations, each call by what is known of it. -/
namespace Go.Proofs.YtpeihcpclcibgaaGreat.Ai
noncomputable section
open Go.RowKit

section
variable {P : Program} {N : Nat} {ro : Option Nat} {ac bc : ACode} {ts ts' : T Value} {h h' : Heap}

/-! ### a fact holds beside whatever else there is -/

theorem Rel.later {C : CRel} {μ : Map} {h : Heap} {B : Fr} {w0 w w' : World} (R : Rel C μ h B w0 w) (b : Below w.heap.size w w') : Rel C μ h B w0 w' := by
  have hw : ∀ i, i < w.heap.size → w'.heap[i]? = w.heap[i]? := b.block
  have hlt : ∀ {i : Nat} {o : Obj}, w.heap[i]? = some o → i < w.heap.size := fun h => (Array.getElem?_eq_some_iff.1 h).1
  refine ⟨R.below.trans (b.mono R.size), Nat.le_trans R.size b.size, fun i o hz => ?_, R.fresh, fun b k hb => ?_, R.apart, R.aux.keep μ.le_refl (keeps_of_old hw)⟩
  · have := R.zk i o hz
    rw [hw _ (hlt this)]; exact this
  · obtain ⟨e, he, x⟩ := R.blk b k hb
    exact ⟨e, he, x.mono μ.le_refl hw⟩

/-- a call with plain arguments, run in an empty heap, comes to the same beside any other -/
theorem Fact.frame {f : Nat} {args : List Value} {v : Value} {h0 : Heap} (x : Fact P f args heap0 v h0) (ha : args.all plain = true) (hv : plain v = true) (h : Heap) : Fact P f args h v h := by
  refine ⟨x.ok, rfl, fun B w0 μ w args' R hargs => ?_⟩
  have e : args' = args := by
    apply List.ext_getElem?
    intro i
    cases hi : args[i]? with
    | none =>
      have : args.length ≤ i := by simpa using hi
      rw [List.getElem?_eq_none (by rw [← hargs.1]; exact this)]
    | some a =>
      obtain ⟨a', h1, h2⟩ := hargs.get hi
      rw [h1, h2.of_plain (List.all_eq_true.1 ha a (List.mem_of_getElem? hi))]
  subst e
  refine (x.calls ⟨w.heap.size, fun _ => none⟩ w _ w args' (rel0 w) (VsRel.of_plain ha)).mono ?_
  rintro e w' ⟨μ', v', rfl, _, R', hv'⟩
  rw [hv'.of_plain hv]
  exact ⟨μ, v, rfl, μ.le_refl, R.later R'.below, .same _ hv⟩

/-! ### code -/

def CW (P : Program) (N : Nat) (ro : Option Nat) (ac : ACode) (ts : T Value) (h : Heap) (Q : AExit → T Value → Heap → Prop) : Prop := ∃ e ts' h', CFact P N ro ac ts h e ts' h' ∧ Q e ts' h'

variable {Q : AExit → T Value → Heap → Prop}

theorem tab0 (P : Program) : TabOk P (fun _ => none) := fun f af h => by cases h

theorem cf0 {e : AExit} (hv : exec (fun _ _ _ => none) (fun _ => none) 1 ro ac ts h = some (e, ts', h')) : CFact P N ro ac ts h e ts' h' := cf_exec (tab0 P) (memo0 P) hv

theorem cw_skip (q : Q .normal ts h) : CW P N ro .skip ts h Q := ⟨_, _, _, cf0 rfl, q⟩
theorem cw_ret (q : Q .ret ts h) : CW P N ro .ret ts h Q := ⟨_, _, _, cf0 rfl, q⟩
theorem cw_exit {id : Nat} (q : Q (.exit id) ts h) : CW P N ro (.exit id) ts h Q := ⟨_, _, _, cf0 rfl, q⟩

/-- behind the first part: the second, if it came to its end -/
def thenQ (P : Program) (N : Nat) (ro : Option Nat) (bc : ACode) (Q : AExit → T Value → Heap → Prop) : AExit → T Value → Heap → Prop
  | .normal, ts, h => CW P N ro bc ts h Q
  | e, ts, h => Q e ts h

theorem cf_seq_stop {e : AExit} (ne : e ≠ .normal) (x : CFact P N ro ac ts h e ts' h') : CFact P N ro (.seq ac bc) ts h e ts' h' := by
  intro c hc B w0 μ M0 lr a w R r hN hro hk
  cases c with
  | seq c d =>
    simp only [compCode, ACode.seq.injEq] at hc
    refine wpIn_seq (wpIn_mono (x c hc.1 B w0 μ M0 lr a w R r hN hro hk) ?_)
    rintro e1 a1 w1 ⟨rfl, hp⟩
    cases e with
    | normal => exact (ne rfl).elim
    | exit id => exact ⟨rfl, hp⟩
    | ret => exact ⟨rfl, hp⟩
  | region id ops d => cases d <;> simp only [compCode] at hc <;> split at hc <;> first | cases hc | (cases hb : (P.follows .mixedOrders && okDraw (mkTbl [] (ops.toList.map edges)) _ (ops.toList.map edges)) <;> (rw [hb] at hc; cases hc))
  | cond => simp only [compCode] at hc; split at hc <;> cases hc
  | rangeFunc g ps asg body =>
    simp only [compCode] at hc; split at hc
    · cases hb : ps.toList.all (Nat.blt · N) <;> (rw [hb] at hc; cases hc)
    · cases hc
  | _ => simp [compCode] at hc

theorem cw_seq (x : CW P N ro ac ts h (thenQ P N ro bc Q)) : CW P N ro (.seq ac bc) ts h Q := by
  obtain ⟨e, t1, h1, c, q⟩ := x
  cases e with
  | normal =>
    obtain ⟨e, t2, h2, d, q⟩ := q
    exact ⟨e, t2, h2, cf_seq c d, q⟩
  | exit id => exact ⟨_, _, _, cf_seq_stop (by simp) c, q⟩
  | ret => exact ⟨_, _, _, cf_seq_stop (by simp) c, q⟩

theorem cf_cond {c : Opd} {e : AExit} {b : Bool} (hb : ev ts c = .bool b) (x : CFact P N ro (bif b then ac else bc) ts h e ts' h') : CFact P N ro (.cond c ac bc) ts h e ts' h' := by
  intro d hd B w0 μ M0 lr a w R r hN hro hk
  cases d with
  | cond c0 x0 y0 =>
    simp only [compCode] at hd
    split at hd
    · rename_i c' hcc
      simp only [ACode.cond.injEq] at hd
      obtain ⟨rfl, hx, hy⟩ := hd
      have hr := compOpd_rel r hcc
      rw [hb] at hr
      cases b with
      | true => exact wpIn_cond_true hr.bool (x x0 hx B w0 μ M0 lr a w R r hN hro hk)
      | false => exact wpIn_cond_false hr.bool (x y0 hy B w0 μ M0 lr a w R r hN hro hk)
    · cases hd
  | region id ops d => cases d <;> simp only [compCode] at hd <;> split at hd <;> first | cases hd | (cases hb : (P.follows .mixedOrders && okDraw (mkTbl [] (ops.toList.map edges)) _ (ops.toList.map edges)) <;> (rw [hb] at hd; cases hd))
  | rangeFunc g ps asg body =>
    simp only [compCode] at hd; split at hd
    · cases hb : ps.toList.all (Nat.blt · N) <;> (rw [hb] at hd; cases hd)
    · cases hd
  | _ => simp [compCode] at hd

theorem cw_cond {c : Opd} {b : Bool} (hb : ev ts c = .bool b) (x : b = true → CW P N ro ac ts h Q) (y : b = false → CW P N ro bc ts h Q) : CW P N ro (.cond c ac bc) ts h Q := by
  cases b with
  | true => obtain ⟨e, t, k, d, q⟩ := x rfl; exact ⟨e, t, k, cf_cond hb d, q⟩
  | false => obtain ⟨e, t, k, d, q⟩ := y rfl; exact ⟨e, t, k, cf_cond hb d, q⟩

theorem cf_block_pass {id : Nat} {e : AExit} (ne : e ≠ .exit id) (x : CFact P N ro bc ts h e ts' h') : CFact P N ro (.block id bc) ts h e ts' h' := by
  intro c hc B w0 μ M0 lr a w R r hN hro hk
  cases c with
  | block i c =>
    simp only [compCode, ACode.block.injEq] at hc
    obtain ⟨rfl, hc⟩ := hc
    refine wpIn_block (wpIn_mono (x c hc B w0 μ M0 lr a w R r hN hro hk) ?_)
    rintro e1 a1 w1 ⟨rfl, hp⟩
    cases e with
    | normal => exact ⟨rfl, hp⟩
    | exit j =>
      have : j ≠ i := fun hj => ne (by rw [hj])
      simp only [concE, Exit.inBlock, if_neg this]
      exact ⟨rfl, hp⟩
    | ret => exact ⟨rfl, hp⟩
  | region id ops d => cases d <;> simp only [compCode] at hc <;> split at hc <;> first | cases hc | (cases hb : (P.follows .mixedOrders && okDraw (mkTbl [] (ops.toList.map edges)) _ (ops.toList.map edges)) <;> (rw [hb] at hc; cases hc))
  | cond => simp only [compCode] at hc; split at hc <;> cases hc
  | rangeFunc g ps asg body =>
    simp only [compCode] at hc; split at hc
    · cases hb : ps.toList.all (Nat.blt · N) <;> (rw [hb] at hc; cases hc)
    · cases hc
  | _ => simp [compCode] at hc

/-- behind a block -/
def blockQ (id : Nat) (Q : AExit → T Value → Heap → Prop) : AExit → T Value → Heap → Prop
  | .exit j, ts, h => if j = id then Q .normal ts h else Q (.exit j) ts h
  | e, ts, h => Q e ts h

theorem cw_block {id : Nat} (x : CW P N ro bc ts h (blockQ id Q)) : CW P N ro (.block id bc) ts h Q := by
  obtain ⟨e, t1, h1, c, q⟩ := x
  cases e with
  | normal => exact ⟨_, _, _, cf_block_pass (by simp) c, q⟩
  | ret => exact ⟨_, _, _, cf_block_pass (by simp) c, q⟩
  | exit j =>
    simp only [blockQ] at q
    split at q
    · rename_i hj; subst hj; exact ⟨_, _, _, cf_block c, q⟩
    · rename_i hj; exact ⟨_, _, _, cf_block_pass (by simpa using hj) c, q⟩

/-- behind a round: what is kept of the loop, less being left; or what is asked behind the loop -/
def roundQ (I : Nat → T Value → Heap → Prop) (n : Nat) (Q : AExit → T Value → Heap → Prop) : AExit → T Value → Heap → Prop
  | .normal, ts, h => ∃ m, m < n ∧ I m ts h
  | e, ts, h => Q e ts h

theorem cw_loop (I : Nat → T Value → Heap → Prop) (hI : ∀ n ts h, I n ts h → CW P N ro bc ts h (roundQ I n Q)) {n : Nat} {ts : T Value} {h : Heap} (h0 : I n ts h) : CW P N ro (.loop bc) ts h Q := by
  have key : ∀ n ts h, I n ts h → ∃ e ts' h' m, LRun P N ro bc e ts' h' ts h m ∧ Q e ts' h' := by
    intro n
    induction n using Nat.strongRecOn with
    | _ n ih =>
      intro ts h hi
      obtain ⟨e, t1, h1, c, q⟩ := hI n ts h hi
      cases e with
      | normal =>
        obtain ⟨m, hm, hi'⟩ := q
        obtain ⟨e, t2, h2, k, r, q⟩ := ih m hm t1 h1 hi'
        exact ⟨e, t2, h2, _, .step c r, q⟩
      | exit id => exact ⟨_, _, _, _, .last (by simp) c, q⟩
      | ret => exact ⟨_, _, _, _, .last (by simp) c, q⟩
  obtain ⟨e, t, k, m, r, q⟩ := key n ts h h0
  exact ⟨e, t, k, cf_loop r, q⟩

theorem CW.mono {Q' : AExit → T Value → Heap → Prop} (x : CW P N ro ac ts h Q) (m : ∀ e ts' h', Q e ts' h' → Q' e ts' h') : CW P N ro ac ts h Q' :=
  let ⟨e, t, k, c, q⟩ := x
  ⟨e, t, k, c, m _ _ _ q⟩

/-! ### operations -/

def CfOk (P : Program) (cf : CallF) : Prop := ∀ B w0, CallsOk P cf B w0

/-- one operation behind the other, each call by what is known of it -/
inductive ORun (P : Program) : List AOper → T Value → Heap → T Value → Heap → Prop
  | nil {ts : T Value} {h : Heap} : ORun P [] ts h ts h
  | cons {o : AOper} {r : List AOper} {ts ts' : T Value} {h h1 h' : Heap} {v : Value} (cf : CallF) (hc : CfOk P cf) (hw : wantedA ts o.guard = true) (hs : step1 cf ts h o.op = some (v, h1)) (x : ORun P r (putA ts o.dst v) h1 ts' h') : ORun P (o :: r) ts h ts' h'
  | skip {o : AOper} {r : List AOper} {ts ts' : T Value} {h h' : Heap} (hw : wantedA ts o.guard = false) (x : ORun P r (putA ts o.dst undef) h ts' h') : ORun P (o :: r) ts h ts' h'

theorem ORun.marks {l : List AOper} {ts ts' : T Value} {h h' : Heap} (x : ORun P l ts h ts' h') : h'.marks = h.marks := by
  induction x with
  | nil => rfl
  | cons cf hc _ hs _ ih => rw [ih, step1_marks (hc ⟨0, fun _ => none⟩ default).marks hs]
  | skip _ _ ih => exact ih

theorem orun_sound {ro : Option Nat} {B : Fr} {w0 : World} {ops : Array Oper} {Q : Exit → Act → World → Prop} : ∀ (l : List Oper) (l' : List AOper), compOpers P N ops l = some l' →
    ∀ (μ : Map) (h h' : Heap) (ts ts' : T Value) (a : Act) (w : World), Rel (Cc P) μ h B w0 w → TsRel μ ts a → a.tmps.size = N → ORun P l' ts h ts' h' → (∀ a' w', Post P μ N a.defers ts' h' B w0 a' w' → Q .normal a' w') →
    wpListIn (FW ro) 0 P ops Q l a w := by
  intro l
  induction l with
  | nil =>
    intro l' hl μ h h' ts ts' a w R r hN hv hQ
    simp only [compOpers, Option.some.injEq] at hl; subst hl
    cases hv
    exact hQ a w ⟨hN, rfl, μ, μ.le_refl, R, r⟩
  | cons o l ih =>
    intro l' hl μ h h' ts ts' a w R r hN hv hQ
    simp only [compOpers] at hl
    split at hl
    · rename_i ao l2 hao hl2
      simp only [Option.some.injEq] at hl; subst hl
      have k := compOper_ok hao
      have hw := wanted_eq k r hN
      have hd : dstOk a.tmps.size o.dst = true := by rw [hN]; exact k.dok
      refine wpListIn_step (fun K hK => ?_)
      cases hv with
      | cons cf hc hwa hs x =>
        rw [hwa] at hw
        rw [if_pos hw]
        refine op_wp k.form k.nod (hc B w0) R r hs (fun μ' v' w' hle R' hv' => hK _ _ ?_)
        refine ih l2 hl2 μ' _ h' _ ts' _ w' R' (tsrel_put (r.mono hle) hv' hd) (by rw [put_size]; exact hN) (by rw [← k.dst]; exact x) (fun a' w'' hp => hQ a' w'' ?_)
        obtain ⟨p1, p2, μ2, p3, p4, p5⟩ := hp
        exact ⟨p1, by rw [p2, put_defers], μ2, hle.trans p3, p4, p5⟩
      | skip hwa x =>
        rw [hwa] at hw
        rw [if_neg (by rw [hw]; simp)]
        refine ⟨fun _ _ => trivial, hK _ _ ?_⟩
        refine ih l2 hl2 μ h h' _ ts' _ w R (tsrel_put r (undef_rel μ) hd) (by rw [put_size]; exact hN) (by rw [← k.dst]; exact x) (fun a' w'' hp => hQ a' w'' ?_)
        obtain ⟨p1, p2, μ2, p3, p4, p5⟩ := hp
        exact ⟨p1, by rw [p2, put_defers], μ2, p3, p4, p5⟩
    · cases hl

theorem cf_ops {l : List AOper} (x : ORun P l ts h ts' h') : CFact P N ro (.ops l) ts h .normal ts' h' := by
  intro c hc B w0 μ M0 lr a w R r hN hro hk
  cases c with
  | region id ops d =>
    cases d with
    | false =>
      simp only [compCode] at hc
      split at hc
      · rename_i l0 hl
        simp only [ACode.ops.injEq] at hc
        subst hc
        exact wpIn_region_list (orun_sound ops.toList l0 hl μ h h' ts ts' a w R r hN x (fun a' w' hp => ⟨rfl, hp.x R hk x.marks⟩))
      · cases hc
    | true =>
      simp only [compCode] at hc
      split at hc
      · cases hb : (P.follows .mixedOrders && okDraw (mkTbl [] (ops.toList.map edges)) _ (ops.toList.map edges)) <;> (rw [hb] at hc; cases hc)
      · cases hc
  | cond => simp only [compCode] at hc; split at hc <;> cases hc
  | rangeFunc g ps asg body =>
    simp only [compCode] at hc; split at hc
    · cases hb : ps.toList.all (Nat.blt · N) <;> (rw [hb] at hc; cases hc)
    · cases hc
  | _ => simp [compCode] at hc

/-- a region whose order is open -/
theorem cf_draw {cf : CallF} (hcf : CfOk P cf) {l : List AOper} {win : List (Nat × Nat)} (hr : runDraw cf l win ts h = some (ts', h')) : CFact P N ro (.draw l win) ts h .normal ts' h' := by
  intro c hc B w0 μ M0 lr a w R r hN hro hk
  cases c with
  | region id ops d =>
    cases d with
    | false =>
      simp only [compCode] at hc
      split at hc <;> cases hc
    | true =>
      simp only [compCode] at hc
      split at hc
      · rename_i l0 hl
        cases hok : (P.follows .mixedOrders && okDraw (mkTbl [] (ops.toList.map edges)) l0 (ops.toList.map edges)) with
        | false => rw [hok] at hc; cases hc
        | true =>
          rw [hok] at hc; simp only [cond_true, ACode.draw.injEq] at hc
          simp only [Bool.and_eq_true] at hok
          obtain ⟨rfl, rfl⟩ := hc
          obtain ⟨recs, hs, htr, hck⟩ := draw_trace hr
          obtain ⟨hlen, hops⟩ := compOpers_get (P := P) (N := N) (ops := ops) ops.toList l0 hl
          have S := Statics.of hok.2 rfl
          have tr := trace_ok _ _ _ _ _ _ _ _ htr
          refine wpIn_region_any hok.1 ?_
          refine draw_any (Q := CodePost P μ N M0 .normal ts' h' B w0) (μ := μ) (ds := a.defers) S (by rw [hlen]; simp) (fun i o ho => hops i o (by simpa using ho)) (fun i o ho => ?_) tr hck (fun B => hcf B w0) (fun a' w' hp => ⟨rfl, hp.x R hk (runTrace_marks (hcf B w0).marks _ _ _ _ _ _ _ htr)⟩) ops.size _ a _ ?_ ?_
          · have : ops.toList[i]? = some o := by simpa using ho
            simp [this]
          · refine .inl ⟨⟨by rw [hlen]; simp, ?_, hN, rfl, μ, ts, h, μ.le_refl, ?_, R.drew, r, ?_, fun t _ _ => rfl⟩, fun _ hq => ?_⟩
            · intro i j hi
              simp only [Array.getD_eq_getD_getElem?, Array.getElem?_replicate] at hi
              split at hi <;> simp at hi
            · have : (List.range l0.length).countP (fun e => isEat l0 e && (Array.replicate ops.size false).getD e false) = 0 := by
                apply List.countP_eq_zero.2
                intro e _
                simp only [Array.getD_eq_getD_getElem?, Array.getElem?_replicate]
                split <;> simp
              rw [this]; rfl
            · intro j o rj t _ _ _ hl'
              simp only [Array.getD_eq_getD_getElem?, Array.getElem?_replicate] at hl'
              split at hl' <;> simp at hl'
            · simp only [Array.getD_eq_getD_getElem?, Array.getElem?_replicate] at hq
              split at hq <;> simp at hq
          · refine Nat.le_trans List.countP_le_length ?_
            rw [List.length_range, hlen]; simp
      · cases hc
  | cond => simp only [compCode] at hc; split at hc <;> cases hc
  | rangeFunc g ps asg body =>
    simp only [compCode] at hc; split at hc
    · cases hb : ps.toList.all (Nat.blt · N) <;> (rw [hb] at hc; cases hc)
    · cases hc
  | _ => simp [compCode] at hc

/-! ### operations, asked one by one -/

def OW (P : Program) (l : List AOper) (ts : T Value) (h : Heap) (Q : T Value → Heap → Prop) : Prop := ∃ ts' h', ORun P l ts h ts' h' ∧ Q ts' h'

theorem cw_ops {l : List AOper} (x : OW P l ts h (Q .normal)) : CW P N ro (.ops l) ts h Q := let ⟨_, _, r, q⟩ := x; ⟨_, _, _, cf_ops r, q⟩

/-- the same with one and the same knowledge of calls: for a region whose order is open -/
def DW (cf : CallF) (l : List AOper) (ts : T Value) (h : Heap) (Q : T Value → Heap → Prop) : Prop := ∃ ts' h', runOps cf l ts h = some (ts', h') ∧ Q ts' h'

theorem cw_draw (cf : CallF) (hcf : CfOk P cf) {l : List AOper} (x : DW cf l ts h (Q .normal)) : CW P N ro (.draw l []) ts h Q := let ⟨_, _, r, q⟩ := x; ⟨_, _, _, cf_draw hcf r, q⟩

/-- of no call is anything known -/
def cf00 : CallF := fun _ _ _ => none
theorem cf00_ok : CfOk P cf00 := by intro B w0; constructor <;> intro _ _ _ _ _ h <;> cases h

open Classical in
/-- of one call, and of what else is known -/
noncomputable def cfOf (f : Nat) (args : List Value) (h : Heap) (v : Value) (h' : Heap) (cf : CallF) : CallF := fun t a k => if t = .fn f ∧ a = args ∧ k = h then some (v, h') else cf t a k

theorem cfOf_ok {f : Nat} {args : List Value} {h : Heap} {v : Value} {h' : Heap} {cf : CallF} (x : Fact P f args h v h') (y : CfOk P cf) : CfOk P (cfOf f args h v h' cf) := by
  refine fun B w0 => ⟨fun g a k u k' hv => ?_, fun b a k u k' hv => ?_, fun t a k u k' hv => ?_⟩ <;> unfold cfOf at hv <;> split at hv
  · rename_i hc
    obtain ⟨h1, rfl, rfl⟩ := hc
    cases h1; cases hv
    exact ⟨x.ok, x.calls B w0⟩
  · exact (y B w0).fn _ _ _ _ _ hv
  · rename_i hc; exact absurd hc.1 (by simp)
  · exact (y B w0).yield _ _ _ _ _ hv
  · rename_i hc
    obtain ⟨h1, rfl, rfl⟩ := hc
    cases hv
    exact x.marks
  · exact (y B w0).marks _ _ _ _ _ hv

theorem cfOf_eq {f : Nat} {args : List Value} {h : Heap} {v : Value} {h' : Heap} {cf : CallF} : cfOf f args h v h' cf (.fn f) args h = some (v, h') := by simp [cfOf]
theorem cfOf_ne {f g : Nat} {args a : List Value} {h k : Heap} {v : Value} {h' : Heap} {cf : CallF} (n : g ≠ f) : cfOf f args h v h' cf (.fn g) a k = cf (.fn g) a k := by
  unfold cfOf; rw [if_neg]; rintro ⟨h1, _⟩; cases h1; exact n rfl

variable {R : T Value → Heap → Prop} {r : List AOper} {d : Nat}

theorem ow_nil : OW P [] ts h R ↔ R ts h := ⟨fun ⟨_, _, x, q⟩ => by cases x; exact q, fun q => ⟨_, _, .nil, q⟩⟩

theorem ow_cons {o : AOper} (cf : CallF) (hc : CfOk P cf) {v : Value} {h1 : Heap} (hw : wantedA ts o.guard = true) (hs : step1 cf ts h o.op = some (v, h1)) (x : OW P r (putA ts o.dst v) h1 R) : OW P (o :: r) ts h R :=
  let ⟨_, _, y, q⟩ := x
  ⟨_, _, .cons cf hc hw hs y, q⟩

theorem ow_p {q : POp} {v : Value} (hv : pop ts q = some v) (x : OW P r (ts.put d v) h R) : OW P (⟨some d, .p q, none⟩ :: r) ts h R :=
  ow_cons (o := ⟨some d, .p q, none⟩) cf00 cf00_ok rfl (v := v) (h1 := h) (by simp [step1, step1Q, hv]) x
theorem ow_r {q : ROp} {v : Value} (hv : rop ts h q = some v) (x : OW P r (ts.put d v) h R) : OW P (⟨some d, .r q, none⟩ :: r) ts h R :=
  ow_cons (o := ⟨some d, .r q, none⟩) cf00 cf00_ok rfl (v := v) (h1 := h) (by simp [step1, step1Q, hv]) x
theorem ow_e {q : EOp} {v : Value} {h1 : Heap} {dst : Option Nat} (hv : eop ts h q = some (v, h1)) (x : OW P r (putA ts dst v) h1 R) : OW P (⟨dst, .e q, none⟩ :: r) ts h R :=
  ow_cons (o := ⟨dst, .e q, none⟩) cf00 cf00_ok rfl (v := v) (h1 := h1) (by simp [step1, step1Q, hv]) x
theorem ow_call {f : Nat} {l : List Opd} {args : List Value} {v : Value} {h1 : Heap} {dst : Option Nat} (ha : evs ts l = args) (hv : Fact P f args h v h1) (x : OW P r (putA ts dst v) h1 R) : OW P (⟨dst, .call f l, none⟩ :: r) ts h R :=
  ow_cons (o := ⟨dst, .call f l, none⟩) (cfOf f args h v h1 cf00) (cfOf_ok hv cf00_ok) rfl (v := v) (h1 := h1) (by simp only [step1, step1Q, ha]; exact cfOf_eq) x
theorem ow_on {o : AOper} {t : Nat} {b : Bool} (hb : look ts t = .bool b) (x : OW P ({ o with guard := none } :: r) ts h R) : OW P ({ o with guard := some (t, b) } :: r) ts h R := by
  obtain ⟨ts', h', y, q⟩ := x
  cases y with
  | cons cf hc hw hs z => exact ⟨_, _, .cons cf hc (by simp only [wantedA, hb, isB]; cases b <;> rfl) hs z, q⟩
  | skip hw z => cases hw
theorem ow_off {o : AOper} {t : Nat} {b : Bool} (hb : look ts t = .bool (!b)) (x : OW P r (putA ts o.dst undef) h R) : OW P ({ o with guard := some (t, b) } :: r) ts h R := by
  obtain ⟨ts', h', y, q⟩ := x
  exact ⟨_, _, .skip (by simp only [wantedA, hb, isB]; cases b <;> rfl) y, q⟩

/-! ### a function -/

/-- what is asked behind a function's body -/
def fnQ (h : Heap) (res : List ARes) (Q : Value → Heap → Prop) : AExit → T Value → Heap → Prop
  | .exit _, _, _ => False
  | _, ts, h2 => ∃ vs, resAll ts h2 res = some vs ∧ Q (mkRes vs) { h2 with marks := h.marks }

/-- a function, for these arguments in this heap: a value and a heap of which that holds -/
def FSpec (P : Program) (f : Nat) (args : List Value) (h : Heap) (Q : Value → Heap → Prop) : Prop := ∃ v h', Fact P f args h v h' ∧ Q v h'

theorem fspec_of {tab : Nat → Option AFunc} (hT : TabOk P tab) {f : Nat} {af : AFunc} (hf : tab f = some af) {args : List Value} (hl : Nat.ble args.length af.n = true) {h : Heap} {Q : Value → Heap → Prop} (hb : CW P af.n none af.body (putArgs .nil 0 args) h (fnQ h af.res Q)) : FSpec P f args h Q := by
  obtain ⟨e, ts', h2, c, q⟩ := hb
  have fin : (∀ id, e ≠ .exit id) → ∀ vs, resAll ts' h2 af.res = some vs → Fact P f args h (mkRes vs) { h2 with marks := h.marks } := fun ne vs hvs => by
    refine ⟨?_, rfl, fun B w0 μ w args' R ha => fact_of_body hT hf hl c ne hvs B w0 μ w args' R ha⟩
    have ht := hT f af hf
    unfold tabOf at ht
    split at ht
    · rename_i fn hfn
      have hfn' : P.funcs[f]? = some fn := by simpa using hfn
      unfold compFunc at ht
      split at ht
      · rename_i c res hbody hres
        cases hname : fn.name == "runtime.NumGoroutine" with
        | true => rw [hname] at ht; cases ht
        | false => exact ⟨fn, hfn', by simpa using hname, by simp [hbody]⟩
      · cases ht
    · cases ht
  cases e with
  | exit id => exact q.elim
  | normal => obtain ⟨vs, h1, h2⟩ := q; exact ⟨_, _, fin (by simp) vs h1, h2⟩
  | ret => obtain ⟨vs, h1, h2⟩ := q; exact ⟨_, _, fin (by simp) vs h1, h2⟩

/-! ### a round -/

/-- what is known of a call of a loop's round -/
structure YFact (P : Program) (b : Nat) (args : List Value) (h : Heap) (v : Value) (h' : Heap) : Prop where
  marks : h'.marks = h.marks
  round : ∀ B w0 μ w args' e, Rel (Cc P) μ h B w0 w → VsRel μ args args' → μ b = some e →
    ∃ f tmps asg body, (Instr.yield e.blk args'.toArray).run P w = .ok (.round e.blk f tmps asg body) w ∧ RoundIn Fence.wide 0 P e.blk f tmps asg body w (CallPost P μ h' B w0 v)

open Classical in
/-- of one round, and of what else is known -/
noncomputable def cfY (b : Nat) (args : List Value) (h : Heap) (v : Value) (h' : Heap) (cf : CallF) : CallF := fun t a k => if t = .yield b ∧ a = args ∧ k = h then some (v, h') else cf t a k

theorem cfY_ok {b : Nat} {args : List Value} {h : Heap} {v : Value} {h' : Heap} {cf : CallF} (x : YFact P b args h v h') (y : CfOk P cf) : CfOk P (cfY b args h v h' cf) := by
  refine fun B w0 => ⟨fun g a k u k' hv => ?_, fun g a k u k' hv => ?_, fun t a k u k' hv => ?_⟩ <;> unfold cfY at hv <;> split at hv
  · rename_i hc; exact absurd hc.1 (by simp)
  · exact (y B w0).fn _ _ _ _ _ hv
  · rename_i hc
    obtain ⟨h1, rfl, rfl⟩ := hc
    cases h1; cases hv
    exact fun μ w args' e R ha he => x.round B w0 μ w args' e R ha he
  · exact (y B w0).yield _ _ _ _ _ hv
  · rename_i hc
    obtain ⟨h1, rfl, rfl⟩ := hc
    cases hv
    exact x.marks
  · exact (y B w0).marks _ _ _ _ _ hv

theorem cfY_eq {b : Nat} {args : List Value} {h : Heap} {v : Value} {h' : Heap} {cf : CallF} : cfY b args h v h' cf (.yield b) args h = some (v, h') := by simp [cfY]

def YSpec (P : Program) (b : Nat) (args : List Value) (h : Heap) (Q : Value → Heap → Prop) : Prop := ∃ v h', YFact P b args h v h' ∧ Q v h'

theorem yfact_of {b : Nat} {args : List Value} {k : LRec} (hk : h.loops.get b = some k) (hlen : args.length = k.ps.length) (hps : k.ps.all (Nat.blt · k.n) = true) {ts1 ts2 : T Value} {h1 h2 h3 : Heap} {e : AExit} {v : Value}
    (x : CFact P k.n (some b) k.asg (putPs k.ts k.ps args) h .normal ts1 h1) (hb : beginR b h1 = some h2) (y : CFact P k.n (some b) k.body ts1 h2 e ts2 h3) (he : endR e b h.marks h3 = some (v, h')) : YFact P b args h v h' := by
  refine ⟨endR_marks he, fun B w0 μ w args' E R hargs hE => ?_⟩
  obtain ⟨e', he', old, r, h1', h2', h3', h4, h5, h6, h7, h8⟩ := R.aux.loop b k hk
  rw [hE] at he'; cases he'
  have hsz : args'.toArray.size = r.params.size := by
    rw [← Array.length_toList (xs := r.params), h4, ← hlen, hargs.1]; simp
  refine ⟨r.fn, _, r.assign, r.body, run_yield h1' hsz, ?_⟩
  have hfold : (r.params.zip args'.toArray).foldl (fun (tmps : Array Value) (x : Tmp × Value) => tmps.setIfInBounds x.1 x.2) r.tmps = (k.ps.zip args').foldl (fun (t : Array Value) (x : Tmp × Value) => t.setIfInBounds x.1 x.2) r.tmps := by
    rw [← Array.foldl_toList, Array.toList_zip, h4]
  rw [hfold]
  have r0 := putPs_rel k.ps args args' k.ts r.tmps hargs hlen (by rw [h5]; exact hps) h6
  have hwp := x r.assign h7 B w0 μ h.marks (some E.blk) _ w R r0 (by rw [putPs_size]; exact h5) ⟨E, hE, rfl⟩ ⟨[], rfl, rfl⟩
  refine roundIn_of_wpIn (F := FW none) trivial (wpIn_mono hwp ?_)
  rintro x a1 w1 ⟨rfl, p1, μ1, p3, p4, p5, p6⟩
  obtain ⟨w2, q1, q2, q3⟩ := beginR_sound (P := P) p4 (p3 _ _ hE) hb
  refine ⟨w2, q1, ?_⟩
  have hk1 : Mk μ1 h.marks h2 a1 := p6.step p4 μ1.le_refl q3 rfl
  have hwp2 := y r.body h8 B w0 μ1 h.marks (some E.blk) a1 w2 q2 p5 p1 ⟨E, p3 _ _ hE, rfl⟩ hk1
  refine wpIn_mono hwp2 ?_
  rintro x a2 w3 ⟨rfl, s1, μ2, s3, s4, s5, new, s6, s7⟩
  have hsub : h.marks.Sublist h3.marks := by rw [s6]; exact List.sublist_append_right _ _
  obtain ⟨w4, u1, u2, u3⟩ := endR_sound (P := P) s4 (s3 _ _ (p3 _ _ hE)) hsub he
  cases e with
  | normal => exact ⟨v, w4, u1, μ2, v, rfl, p3.trans s3, u2, u3⟩
  | ret => exact ⟨v, w4, u1, μ2, v, rfl, p3.trans s3, u2, u3⟩
  | exit id => exact ⟨v, w4, u1, μ2, v, rfl, p3.trans s3, u2, u3⟩

/-! ### over a function -/

theorem cf_range {cf : CallF} (hcf : CfOk P cf) {g : Opd} {ps : List Nat} {asg body : ACode} {f : Nat} {fs cs : Array Value} {b : Nat} {h1 h2 : Heap} {u : Value} {e : AExit} (hg : ev ts g = .func (.func f) fs cs)
    (hen : enterL ro { ts := ts, n := N, ps := ps, asg := asg, body := body, st := 0, pend := none } h = some (b, h1)) (hcl : cf (.fn f) (fs.toList ++ [.func (.yield b) #[] #[]] ++ cs.toList) h1 = some (u, h2)) (hend : endL b ts h2 = some (e, ts', h')) : CFact P N ro (.rangeF g N ps asg body) ts h e ts' h' := by
  intro c hc B w0 μ M0 lr a w R r hN hro hk
  cases c with
  | rangeFunc g0 ps0 asg0 body0 =>
    simp only [compCode] at hc
    split at hc
    · rename_i g' hg'
      cases hps : ps0.toList.all (Nat.blt · N) with
      | false => rw [hps] at hc; cases hc
      | true =>
        rw [hps] at hc; simp only [cond_true, ACode.rangeF.injEq] at hc
        obtain ⟨rfl, _, rfl, rfl, rfl⟩ := hc
        have hr := compOpd_rel r hg'
        rw [hg] at hr
        have hcm := hcf B w0
        obtain ⟨g1, g2⟩ := hcm.fn f _ h1 u h2 hcl
        have hX : ∃ fs' cs' : Array Value, a.eval g0 = .func (.func f) fs' cs' ∧ VsRel μ fs.toList fs'.toList ∧ VsRel μ cs.toList cs'.toList := by
          generalize a.eval g0 = X at hr
          cases hr with
          | same _ hp => simp [plain] at hp
          | func _ _ fs' _ cs' q0 q1 q2 q3 q4 => exact ⟨fs', cs', rfl, ⟨q1, q2⟩, ⟨q3, q4⟩⟩
        obtain ⟨fs', cs', hX, k1, k2⟩ := hX
        refine wpIn_rangeFunc (fun fn _ => ?_)
        obtain ⟨μ1, E, mark, w1, en1, en2, en3, en4, en5⟩ := enterL_sound (P := P) R hro hen (a := a) (ps := ps0) (assign := asg0) (body := body0) rfl rfl r hN rfl rfl rfl fn
        have hy : VRel μ1 (.func (.yield b) #[] #[]) (.func (.yield E.blk) #[] #[]) := .yield b E en3
        have g3 := g2 μ1 w1 (fs'.toList ++ [.func (.yield E.blk) #[] #[]] ++ cs'.toList) en4 (((k1.mono en2).append (.single hy)).append (k2.mono en2))
        have e1 : (fs'.toList ++ [Value.func (.yield E.blk) #[] #[]] ++ cs'.toList).toArray = fs' ++ (#[.func (.yield E.blk) #[] #[]] ++ cs') := by apply Array.ext'; simp
        rw [e1] at g3
        have hinv := callFunc_run g1 (fs' ++ (#[.func (.yield E.blk) #[] #[]] ++ cs')) w1
        refine ⟨E.blk, mark, w1, { target := .fn (.func f) cs', args := fs' ++ #[.func (.yield E.blk) #[] #[]] }, w1, f, fs' ++ (#[.func (.yield E.blk) #[] #[]] ++ cs'), w1, en1, ?_, ?_, ?_, depth_FW, ?_⟩
        · simp [resolve, hX, Deferred.ofValue, show ∀ v, a.eval (.const v) = v from fun _ => rfl]
        · intro _ _; trivial
        · rw [← Array.append_assoc] at hinv ⊢
          simpa only [invoke] using hinv
        · refine callsIn_FW (g3.mono ?_)
          rintro x w' ⟨μ2, v', rfl, q1, q2, _⟩
          obtain ⟨rfl, jump, w'', j1, j2, j3, j4⟩ := endL_sound (P := P) q2 (q1 _ _ en3) hend
          have hm2 : h2.marks = h1.marks := hcm.marks _ _ _ _ _ hcl
          have hk2 : Mk μ2 M0 h' { a with defers := mark ++ a.defers } := (en5 M0 hk).step en4 q1 (by rw [j3, hm2]) rfl
          have hp : XPost P μ N M0 ts' h' B w0 { a with defers := mark ++ a.defers } w'' := ⟨hN, μ2, en2.trans q1, j2, r.mono (en2.trans q1), hk2⟩
          refine ⟨jump, w'', j1, ?_⟩
          rcases j4 with ⟨rfl, rfl⟩ | ⟨rfl, rfl⟩ | ⟨id, rfl, rfl⟩
          · exact ⟨rfl, hp⟩
          · exact wpIn_ret ⟨rfl, hp⟩
          · exact wpIn_exit ⟨rfl, hp⟩
    · cases hc
  | region id ops d => cases d <;> simp only [compCode] at hc <;> split at hc <;> first | cases hc | (cases hb : (P.follows .mixedOrders && okDraw (mkTbl [] (ops.toList.map edges)) _ (ops.toList.map edges)) <;> (rw [hb] at hc; cases hc))
  | cond => simp only [compCode] at hc; split at hc <;> cases hc
  | _ => simp [compCode] at hc

/-! ### what is to be shown, step by step: equations -/

def owf (P : Program) : List AOper → T Value → Heap → (T Value → Heap → Prop) → Prop
  | [], ts, h, Q => Q ts h
  | o :: r, ts, h, Q => match wantedA ts o.guard with
    | true => (match o.op with
      | .call f l => FSpec P f (evs ts l) h (fun v k => owf P r (putA ts o.dst v) k Q)
      | .callv x l => (match ev ts x with
        | .func (.func f) fs cs => FSpec P f (fs.toList ++ evs ts l ++ cs.toList) h (fun v k => owf P r (putA ts o.dst v) k Q)
        | .func (.yield b) _ _ => YSpec P b (evs ts l) h (fun v k => owf P r (putA ts o.dst v) k Q)
        | _ => False)
      | .invoke tbl x l => (match ev ts x with
        | .iface t v => (match lookT t tbl with
          | some f => FSpec P f (v :: evs ts l) h (fun v k => owf P r (putA ts o.dst v) k Q)
          | none => False)
        | _ => False)
      | q => (match step1 cf00 ts h q with
        | some (v, k) => owf P r (putA ts o.dst v) k Q
        | none => False))
    | false => owf P r (putA ts o.dst undef) h Q

theorem owf_ow {Q : T Value → Heap → Prop} : ∀ {l : List AOper} {ts : T Value} {h : Heap}, owf P l ts h Q → OW P l ts h Q
  | [], ts, h, q => ow_nil.2 q
  | o :: r, ts, h, q => by
    unfold owf at q
    split at q
    · rename_i hw
      split at q
      · rename_i f l ho
        obtain ⟨v, h1, F, q⟩ := q
        exact ow_cons (cfOf f (evs ts l) h v h1 cf00) (cfOf_ok F cf00_ok) hw (v := v) (h1 := h1) (by simp only [step1, step1Q, ho]; exact cfOf_eq) (owf_ow q)
      · rename_i x l ho
        split at q
        · rename_i f fs cs he
          obtain ⟨v, h1, F, q⟩ := q
          exact ow_cons (cfOf f (fs.toList ++ evs ts l ++ cs.toList) h v h1 cf00) (cfOf_ok F cf00_ok) hw (v := v) (h1 := h1) (by simp only [step1, step1Q, ho, he]; exact cfOf_eq) (owf_ow q)
        · rename_i b fs cs he
          obtain ⟨v, h1, F, q⟩ := q
          exact ow_cons (cfY b (evs ts l) h v h1 cf00) (cfY_ok F cf00_ok) hw (v := v) (h1 := h1) (by simp only [step1, step1Q, ho, he]; exact cfY_eq) (owf_ow q)
        · exact q.elim
      · rename_i tbl x l ho
        split at q
        · rename_i t0 v0 he
          split at q
          · rename_i f hf
            obtain ⟨v, h1, F, q⟩ := q
            exact ow_cons (cfOf f (v0 :: evs ts l) h v h1 cf00) (cfOf_ok F cf00_ok) hw (v := v) (h1 := h1) (by simp only [step1, step1Q, ho, he, hf]; exact cfOf_eq) (owf_ow q)
          · exact q.elim
        · exact q.elim
      · split at q
        · rename_i v h1 hs
          exact ow_cons cf00 cf00_ok hw hs (owf_ow q)
        · exact q.elim
    · rename_i hw
      obtain ⟨ts', h', y, q⟩ := owf_ow q
      exact ⟨_, _, .skip hw y, q⟩

/-- behind a call -/
def behind (P : Program) (r : List AOper) (ts : T Value) (dst : Option Nat) (Q : T Value → Heap → Prop) (v : Value) (h : Heap) : Prop := owf P r (putA ts dst v) h Q

variable {q : AOp} {dst : Option Nat} {S : T Value → Heap → Prop}

theorem owf_nil : owf P [] ts h S = S ts h := (rfl)
theorem owf_p {q : POp} : owf P (⟨dst, .p q, none⟩ :: r) ts h S = match pop ts q with | some v => owf P r (putA ts dst v) h S | none => False := by
  show (match (match pop ts q with | some v => some (v, h) | none => none) with | some (v, k) => owf P r (putA ts dst v) k S | none => False) = _
  cases pop ts q <;> rfl
theorem owf_r {q : ROp} : owf P (⟨dst, .r q, none⟩ :: r) ts h S = match rop ts h q with | some v => owf P r (putA ts dst v) h S | none => False := by
  show (match (match rop ts h q with | some v => some (v, h) | none => none) with | some (v, k) => owf P r (putA ts dst v) k S | none => False) = _
  cases rop ts h q <;> rfl
theorem owf_e {q : EOp} : owf P (⟨dst, .e q, none⟩ :: r) ts h S = match eop ts h q with | some (v, k) => owf P r (putA ts dst v) k S | none => False := (rfl)
theorem owf_call {f : Nat} {l : List Opd} : owf P (⟨dst, .call f l, none⟩ :: r) ts h S = FSpec P f (evs ts l) h (behind P r ts dst S) := (rfl)
/-- a call of a function value -/
def callV (P : Program) (x : Value) (args : List Value) (h : Heap) (Q : Value → Heap → Prop) : Prop := match x with
  | .func (.func f) fs cs => FSpec P f (fs.toList ++ args ++ cs.toList) h Q
  | .func (.yield b) _ _ => YSpec P b args h Q
  | _ => False
theorem callV_f {f : Nat} {fs cs : Array Value} {args : List Value} {Q : Value → Heap → Prop} : callV P (.func (.func f) fs cs) args h Q = FSpec P f (fs.toList ++ args ++ cs.toList) h Q := (rfl)
theorem callV_y {b : Nat} {fs cs : Array Value} {args : List Value} {Q : Value → Heap → Prop} : callV P (.func (.yield b) fs cs) args h Q = YSpec P b args h Q := (rfl)
theorem o_callv {x : Opd} {l : List Opd} : owf P (⟨dst, .callv x l, none⟩ :: r) ts h S = callV P (ev ts x) (evs ts l) h (behind P r ts dst S) := (rfl)
theorem owf_guard {t : Nat} {b : Bool} : owf P (⟨dst, q, some (t, b)⟩ :: r) ts h S = bif isB (look ts t) b then owf P (⟨dst, q, none⟩ :: r) ts h S else owf P r (putA ts dst undef) h S := by
  show (match isB (look ts t) b with | true => _ | false => _) = _
  cases isB (look ts t) b <;> rfl

/-- the same with one knowledge of calls -/
def dwf (cf : CallF) : List AOper → T Value → Heap → (T Value → Heap → Prop) → Prop
  | [], ts, h, Q => Q ts h
  | o :: r, ts, h, Q => match wantedA ts o.guard with
    | true => (match step1 cf ts h o.op with
        | some (v, k) => dwf cf r (putA ts o.dst v) k Q
        | none => False)
    | false => dwf cf r (putA ts o.dst undef) h Q

theorem dwf_dw {cf : CallF} {Q : T Value → Heap → Prop} : ∀ {l : List AOper} {ts : T Value} {h : Heap}, dwf cf l ts h Q → DW cf l ts h Q
  | [], ts, h, q => ⟨ts, h, rfl, q⟩
  | o :: r, ts, h, q => by
    unfold dwf at q
    split at q
    · rename_i hw
      split at q
      · rename_i v h1 hs
        obtain ⟨ts', h', y, q⟩ := dwf_dw q
        exact ⟨ts', h', by rw [runOps_cons, hw]; simp only [hs]; exact y, q⟩
      · exact q.elim
    · rename_i hw
      obtain ⟨ts', h', y, q⟩ := dwf_dw q
      exact ⟨ts', h', by rw [runOps_cons, hw]; exact y, q⟩

variable {cf : CallF}
theorem dwf_nil : dwf cf [] ts h S = S ts h := (rfl)
theorem dwf_p {q : POp} : dwf cf (⟨dst, .p q, none⟩ :: r) ts h S = match pop ts q with | some v => dwf cf r (putA ts dst v) h S | none => False := by
  show (match (match pop ts q with | some v => some (v, h) | none => none) with | some (v, k) => dwf cf r (putA ts dst v) k S | none => False) = _
  cases pop ts q <;> rfl
theorem dwf_r {q : ROp} : dwf cf (⟨dst, .r q, none⟩ :: r) ts h S = match rop ts h q with | some v => dwf cf r (putA ts dst v) h S | none => False := by
  show (match (match rop ts h q with | some v => some (v, h) | none => none) with | some (v, k) => dwf cf r (putA ts dst v) k S | none => False) = _
  cases rop ts h q <;> rfl
theorem dwf_e {q : EOp} : dwf cf (⟨dst, .e q, none⟩ :: r) ts h S = match eop ts h q with | some (v, k) => dwf cf r (putA ts dst v) k S | none => False := (rfl)
theorem dwf_call {f : Nat} {l : List Opd} : dwf cf (⟨dst, .call f l, none⟩ :: r) ts h S = match cf (.fn f) (evs ts l) h with | some (v, k) => dwf cf r (putA ts dst v) k S | none => False := (rfl)
theorem dwf_guard {t : Nat} {b : Bool} : dwf cf (⟨dst, q, some (t, b)⟩ :: r) ts h S = bif isB (look ts t) b then dwf cf (⟨dst, q, none⟩ :: r) ts h S else dwf cf r (putA ts dst undef) h S := by
  show (match isB (look ts t) b with | true => _ | false => _) = _
  cases isB (look ts t) b <;> rfl

/-- code, by equations; loops, calls in regions of open order, and what else there is: left as they are -/
def cwf (P : Program) (N : Nat) (ro : Option Nat) : ACode → T Value → Heap → (AExit → T Value → Heap → Prop) → Prop
  | .skip, ts, h, Q => Q .normal ts h
  | .ret, ts, h, Q => Q .ret ts h
  | .exit id, ts, h, Q => Q (.exit id) ts h
  | .ops l, ts, h, Q => owf P l ts h (Q .normal)
  | .draw l [], ts, h, Q => ∃ cf, CfOk P cf ∧ dwf cf l ts h (Q .normal)
  | .seq a b, ts, h, Q => cwf P N ro a ts h (fun e t k => match e with | .normal => cwf P N ro b t k Q | e => Q e t k)
  | .cond c a b, ts, h, Q => match ev ts c with
    | .bool β => bif β then cwf P N ro a ts h Q else cwf P N ro b ts h Q
    | _ => False
  | .block id b, ts, h, Q => cwf P N ro b ts h (blockQ id Q)
  | c, ts, h, Q => CW P N ro c ts h Q

/-- behind the first of two -/
def andThen (P : Program) (N : Nat) (ro : Option Nat) (b : ACode) (Q : AExit → T Value → Heap → Prop) (e : AExit) (ts : T Value) (h : Heap) : Prop := match e with
  | .normal => cwf P N ro b ts h Q
  | e => Q e ts h

theorem cwf_cw : ∀ {c : ACode} {ts : T Value} {h : Heap} {Q : AExit → T Value → Heap → Prop}, cwf P N ro c ts h Q → CW P N ro c ts h Q := by
  intro c
  induction c with
  | skip => exact fun q => cw_skip q
  | ret => exact fun q => cw_ret q
  | exit id => exact fun q => cw_exit q
  | ops l => exact fun q => cw_ops (owf_ow q)
  | draw l win =>
    intro ts h Q q
    cases win with
    | nil => obtain ⟨cf, hcf, q⟩ := q; exact cw_draw cf hcf (dwf_dw q)
    | cons => exact q
  | seq a b iha ihb =>
    intro ts h Q q
    refine cw_seq ((iha q).mono ?_)
    intro e t k q
    cases e with
    | normal => exact ihb q
    | exit id => exact q
    | ret => exact q
  | cond c a b iha ihb =>
    intro ts h Q q
    unfold cwf at q
    split at q
    · rename_i β hb
      refine cw_cond hb (fun h1 => ?_) (fun h1 => ?_)
      · subst h1; exact iha q
      · subst h1; exact ihb q
    · exact q.elim
  | block id b ih => exact fun q => cw_block (ih q)
  | loop b _ => exact fun q => q
  | rangeF g n ps asg body _ _ => exact fun q => q
  | bad => exact fun q => q

theorem owf_mono {S S' : T Value → Heap → Prop} (m : ∀ ts h, S ts h → S' ts h) : ∀ {l : List AOper} {ts : T Value} {h : Heap}, owf P l ts h S → owf P l ts h S'
  | [], ts, h, q => m _ _ q
  | o :: r, ts, h, q => by
    unfold owf at q ⊢
    split at q
    · split at q
      · obtain ⟨v, k, F, q⟩ := q; exact ⟨v, k, F, owf_mono m q⟩
      · split at q
        · obtain ⟨v, k, F, q⟩ := q; exact ⟨v, k, F, owf_mono m q⟩
        · obtain ⟨v, k, F, q⟩ := q; exact ⟨v, k, F, owf_mono m q⟩
        · exact q.elim
      · split at q
        · split at q
          · obtain ⟨v, k, F, q⟩ := q; exact ⟨v, k, F, owf_mono m q⟩
          · exact q.elim
        · exact q.elim
      · split at q
        · exact owf_mono m q
        · exact q.elim
    · exact owf_mono m q

theorem dwf_mono {cf : CallF} {S S' : T Value → Heap → Prop} (m : ∀ ts h, S ts h → S' ts h) : ∀ {l : List AOper} {ts : T Value} {h : Heap}, dwf cf l ts h S → dwf cf l ts h S'
  | [], ts, h, q => m _ _ q
  | o :: r, ts, h, q => by
    unfold dwf at q ⊢
    split at q
    · split at q
      · exact dwf_mono m q
      · exact q.elim
    · exact dwf_mono m q

theorem cwf_mono : ∀ {c : ACode} {ts : T Value} {h : Heap} {Q Q' : AExit → T Value → Heap → Prop}, cwf P N ro c ts h Q → (∀ e ts h, Q e ts h → Q' e ts h) → cwf P N ro c ts h Q' := by
  intro c
  induction c with
  | skip => exact fun q m => m _ _ _ q
  | ret => exact fun q m => m _ _ _ q
  | exit id => exact fun q m => m _ _ _ q
  | ops l => exact fun q m => owf_mono (m _) q
  | draw l win =>
    intro ts h Q Q' q m
    cases win with
    | nil => obtain ⟨cf, hcf, q⟩ := q; exact ⟨cf, hcf, dwf_mono (m _) q⟩
    | cons => exact CW.mono q m
  | seq a b iha ihb =>
    intro ts h Q Q' q m
    refine iha q ?_
    intro e t k q
    cases e with
    | normal => exact ihb q m
    | exit id => exact m _ _ _ q
    | ret => exact m _ _ _ q
  | cond c a b iha ihb =>
    intro ts h Q Q' q m
    unfold cwf at q ⊢
    split at q
    · rename_i β hb
      cases β with
      | true => exact iha q m
      | false => exact ihb q m
    · exact q.elim
  | block id b ih =>
    intro ts h Q Q' q m
    refine ih q ?_
    intro e t k q
    cases e with
    | normal => exact m _ _ _ q
    | ret => exact m _ _ _ q
    | exit j =>
      simp only [blockQ] at q ⊢
      split at q
      · rename_i e; rw [if_pos e]; exact m _ _ _ q
      · rename_i e; rw [if_neg e]; exact m _ _ _ q
  | loop b _ => exact fun q m => CW.mono q m
  | rangeF g n ps asg body _ _ => exact fun q m => CW.mono q m
  | bad => exact fun q m => CW.mono q m

variable {Z : AExit → T Value → Heap → Prop}
theorem cwf_skip : cwf P N ro .skip ts h Z = Z .normal ts h := (rfl)
theorem cwf_ret : cwf P N ro .ret ts h Z = Z .ret ts h := (rfl)
theorem cwf_exit {id : Nat} : cwf P N ro (.exit id) ts h Z = Z (.exit id) ts h := (rfl)
theorem cwf_ops {l : List AOper} : cwf P N ro (.ops l) ts h Z = owf P l ts h (Z .normal) := (rfl)
theorem cwf_draw {l : List AOper} : cwf P N ro (.draw l []) ts h Z = ∃ cf, CfOk P cf ∧ dwf cf l ts h (Z .normal) := (rfl)
theorem cwf_seq : cwf P N ro (.seq ac bc) ts h Z = cwf P N ro ac ts h (andThen P N ro bc Z) := (rfl)
theorem cwf_cond {c : Opd} : cwf P N ro (.cond c ac bc) ts h Z = match ev ts c with | .bool β => bif β then cwf P N ro ac ts h Z else cwf P N ro bc ts h Z | _ => False := (rfl)
theorem cwf_block {id : Nat} : cwf P N ro (.block id bc) ts h Z = cwf P N ro bc ts h (blockQ id Z) := (rfl)
theorem cwf_loop : cwf P N ro (.loop bc) ts h Z = CW P N ro (.loop bc) ts h Z := (rfl)
theorem andThen_normal : andThen P N ro bc Z .normal ts h = cwf P N ro bc ts h Z := (rfl)
theorem andThen_ret : andThen P N ro bc Z .ret ts h = Z .ret ts h := (rfl)
theorem andThen_exit {id : Nat} : andThen P N ro bc Z (.exit id) ts h = Z (.exit id) ts h := (rfl)
theorem blockQ_normal {id : Nat} : blockQ id Z .normal ts h = Z .normal ts h := (rfl)
theorem blockQ_ret {id : Nat} : blockQ id Z .ret ts h = Z .ret ts h := (rfl)
theorem blockQ_exit {id j : Nat} : blockQ id Z (.exit j) ts h = if j = id then Z .normal ts h else Z (.exit j) ts h := (rfl)
theorem roundQ_normal {I : Nat → T Value → Heap → Prop} {n : Nat} : roundQ I n Z .normal ts h = ∃ m, m < n ∧ I m ts h := (rfl)
theorem roundQ_ret {I : Nat → T Value → Heap → Prop} {n : Nat} : roundQ I n Z .ret ts h = Z .ret ts h := (rfl)
theorem roundQ_exit {I : Nat → T Value → Heap → Prop} {n id : Nat} : roundQ I n Z (.exit id) ts h = Z (.exit id) ts h := (rfl)
theorem fnQ_normal {k : Heap} {res : List ARes} {Q : Value → Heap → Prop} : fnQ k res Q .normal ts h = ∃ vs, resAll ts h res = some vs ∧ Q (mkRes vs) { h with marks := k.marks } := (rfl)
theorem fnQ_ret {k : Heap} {res : List ARes} {Q : Value → Heap → Prop} : fnQ k res Q .ret ts h = ∃ vs, resAll ts h res = some vs ∧ Q (mkRes vs) { h with marks := k.marks } := (rfl)

theorem look_put (t : T Value) (d i : Nat) (v : Value) : look (t.put d v) i = if i = d then v else look t i := by
  split
  · rename_i e; subst e; exact look_put_same _ _ _
  · rename_i e; exact look_put_other _ _ e

theorem fspec_cwf {tab : Nat → Option AFunc} (hT : TabOk P tab) {f : Nat} {af : AFunc} (hf : tab f = some af) {args : List Value} (hl : Nat.ble args.length af.n = true) {h : Heap} {Q : Value → Heap → Prop} (hb : cwf P af.n none af.body (putArgs .nil 0 args) h (fnQ h af.res Q)) : FSpec P f args h Q := fspec_of hT hf hl (cwf_cw hb)


/-- a loop over a function -/
theorem cw_range {g : Opd} {ps : List Nat} {asg body : ACode} {f : Nat} {fs cs : Array Value} {b : Nat} {h1 : Heap} (hg : ev ts g = .func (.func f) fs cs) (hen : enterL ro { ts := ts, n := N, ps := ps, asg := asg, body := body, st := 0, pend := none } h = some (b, h1))
    (x : FSpec P f (fs.toList ++ [.func (.yield b) #[] #[]] ++ cs.toList) h1 fun _ h2 => ∃ e ts' h', endL b ts h2 = some (e, ts', h') ∧ Z e ts' h') : CW P N ro (.rangeF g N ps asg body) ts h Z := by
  obtain ⟨u, h2, F, e, ts', h', he, z⟩ := x
  exact ⟨e, ts', h', cf_range (cfOf_ok F cf00_ok) hg hen cfOf_eq he, z⟩

/-- a round of it: what is assigned, and the body -/
theorem yspec_of {b : Nat} {args : List Value} {k : LRec} {Q : Value → Heap → Prop} (hk : h.loops.get b = some k) (hlen : args.length = k.ps.length) (hps : k.ps.all (Nat.blt · k.n) = true)
    (x : cwf P k.n (some b) k.asg (putPs k.ts k.ps args) h fun e t1 h1 => e = .normal ∧ ∃ h2, beginR b h1 = some h2 ∧ cwf P k.n (some b) k.body t1 h2 fun e _ h3 => ∃ v h', endR e b h.marks h3 = some (v, h') ∧ Q v h') : YSpec P b args h Q := by
  obtain ⟨e, t1, h1, c, rfl, h2, hb, y⟩ := cwf_cw x
  obtain ⟨e, t2, h3, d, v, h', he, q⟩ := cwf_cw y
  exact ⟨v, h', yfact_of hk hlen hps c hb d he, q⟩

end
end
end Go.Proofs.YtpeihcpclcibgaaGreat.Ai
/- Blocks by name, what a function leaves as it was, a memory. -/
namespace Go.Proofs.YtpeihcpclcibgaaGreat.Ai
noncomputable section
open Go.RowKit

abbrev I (a : Int) : Value := .int .i64 a

/-- what is as it was: all that was there, but these -/
structure Same (h h' : Heap) (S : Nat → Prop) : Prop where
  next : h.next ≤ h'.next
  loops : ∀ j, j < h.next → ¬ S j → h'.loops.get j = h.loops.get j
  marks : h'.marks = h.marks
  get : ∀ j, j < h.next → ¬ S j → h'.blks.get j = h.blks.get j

theorem Same.refl (h : Heap) (S : Nat → Prop) : Same h h S := ⟨Nat.le_refl _, fun _ _ _ => rfl, rfl, fun _ _ _ => rfl⟩
theorem Same.trans {h k m : Heap} {S T : Nat → Prop} (a : Same h k S) (b : Same k m T) (hT : ∀ j, j < h.next → T j → S j) : Same h m S :=
  ⟨Nat.le_trans a.next b.next, fun j hj hs => by rw [b.loops j (Nat.lt_of_lt_of_le hj a.next) (fun ht => hs (hT j hj ht)), a.loops j hj hs], by rw [b.marks, a.marks], fun j hj hs => by
    rw [b.get j (Nat.lt_of_lt_of_le hj a.next) (fun ht => hs (hT j hj ht)), a.get j hj hs]⟩
theorem Same.mono {h k : Heap} {S T : Nat → Prop} (a : Same h k S) (hT : ∀ j, S j → T j) : Same h k T := ⟨a.next, fun j hj ht => a.loops j hj (fun hs => ht (hT j hs)), a.marks, fun j hj ht => a.get j hj (fun hs => ht (hT j hs))⟩

def Heap.setB (h : Heap) (b : Nat) (k : Blk) : Heap := { h with blks := h.blks.put b k }

theorem setB_get (h : Heap) (b : Nat) (k : Blk) (j : Nat) : (h.setB b k).blks.get j = if j = b then some k else h.blks.get j := by
  unfold Heap.setB
  split
  · rename_i e; subst e; exact T.get_put_same _ _ _
  · rename_i e; exact T.get_put_other _ _ e
theorem setB_next (h : Heap) (b : Nat) (k : Blk) : (h.setB b k).next = h.next := (rfl)
theorem setB_loops (h : Heap) (b : Nat) (k : Blk) : (h.setB b k).loops = h.loops := (rfl)
theorem setB_marks (h : Heap) (b : Nat) (k : Blk) : (h.setB b k).marks = h.marks := (rfl)
theorem new_get (h : Heap) (k : Blk) (j : Nat) : (h.new k).blks.get j = if j = h.next then some k else h.blks.get j := setB_get h h.next k j
theorem new_next (h : Heap) (k : Blk) : (h.new k).next = h.next + 1 := (rfl)
theorem new_loops (h : Heap) (k : Blk) : (h.new k).loops = h.loops := (rfl)
theorem new_marks (h : Heap) (k : Blk) : (h.new k).marks = h.marks := (rfl)
theorem kill_eq (h : Heap) (b : Nat) (k : Blk) : h.kill b k = h.setB b { k with cells := [] } := (rfl)

theorem Same.setB {h : Heap} {b : Nat} {k : Blk} {S : Nat → Prop} (hb : S b) : Same h (h.setB b k) S := ⟨Nat.le_refl _, fun _ _ _ => rfl, rfl, fun j _ hs => by
  rw [setB_get, if_neg (fun e => hs (by rw [e]; exact hb))]⟩
theorem Same.new {h : Heap} {k : Blk} {S : Nat → Prop} : Same h (h.new k) S := ⟨Nat.le_succ _, fun _ _ _ => rfl, rfl, fun j hj _ => by
  rw [new_get, if_neg (Nat.ne_of_lt hj)]⟩

/-! ### cells -/

theorem leLen_le {l : List Value} {n : Nat} (h : n ≤ l.length) : leLen l n = true := by rw [leLen_eq]; exact Nat.ble_eq_true_of_le h

theorem splice_one (v : Value) (l : List Value) : ∀ (o : Nat), o < l.length → splice l o [v] = l.set o v := by
  intro o h
  apply List.ext_getElem?
  intro i
  unfold splice
  simp only [List.length_singleton]
  rw [List.getElem?_set]
  rw [List.append_assoc, List.getElem?_append]
  simp only [List.length_take, Nat.min_eq_left (Nat.le_of_lt h)]
  by_cases h1 : i < o
  · rw [if_pos h1, if_neg (by omega), List.getElem?_take, if_pos h1]
  · rw [if_neg h1]
    by_cases h2 : i = o
    · subst h2; simp [h]
    · rw [if_neg (by omega), List.getElem?_append_right (by simp; omega), List.getElem?_drop]
      simp only [List.length_singleton]
      congr 1; omega

theorem rd_of {h : Heap} {b o : Nat} {k : Blk} (hb : h.blks.get b = some k) : h.rd b o = k.cells[o]? := by
  unfold Heap.rd; rw [hb]; exact nth_eq _ _

theorem rds_of {h : Heap} {b o n : Nat} {k : Blk} (hb : h.blks.get b = some k) (hl : o + n ≤ k.cells.length) : h.rds b o n = some ((k.cells.drop o).take n) := by
  unfold Heap.rds; rw [hb]; simp only [leLen_le hl, cond_true]

theorem wrs1_of {h : Heap} {b o : Nat} {k : Blk} {v : Value} (hb : h.blks.get b = some k) (ho : k.own = true) (hl : o < k.cells.length) (hs : scalar v = true) : h.wrs b o [v] = some (h.setB b { k with cells := k.cells.set o v }) := by
  unfold Heap.wrs; rw [hb]
  have : o + 1 ≤ k.cells.length := hl
  simp only [List.length_cons, List.length_nil, Nat.zero_add, leLen_le this, ho, List.all_cons, hs, List.all_nil, Bool.and_true, cond_true, spl_eq, splice_one _ _ _ hl]
  rfl

/-! ### for the equations -/

section
variable {P : Program} {N : Nat} {ro : Option Nat} {cf : CallF} {ts : T Value} {h : Heap} {S : T Value → Heap → Prop} {Z : AExit → T Value → Heap → Prop} {r : List AOper} {dst : Option Nat} {q : AOp} {ac bc : ACode}

/-- what is asked behind, if there is something -/
def optQ (o : Option Value) (k : Value → Prop) : Prop := match o with
  | some v => k v
  | none => False
def opt2 (o : Option (Value × Heap)) (k : Value → Heap → Prop) : Prop := match o with
  | some (v, h) => k v h
  | none => False
theorem optQ_some (v : Value) (k : Value → Prop) : optQ (some v) k = k v := (rfl)
theorem opt2_some (v : Value) (h : Heap) (k : Value → Heap → Prop) : opt2 (some (v, h)) k = k v h := (rfl)

def bo (P : Program) (r : List AOper) (ts : T Value) (dst : Option Nat) (h : Heap) (S : T Value → Heap → Prop) (v : Value) : Prop := owf P r (putA ts dst v) h S
def bd (cf : CallF) (r : List AOper) (ts : T Value) (dst : Option Nat) (h : Heap) (S : T Value → Heap → Prop) (v : Value) : Prop := dwf cf r (putA ts dst v) h S
def bd2 (cf : CallF) (r : List AOper) (ts : T Value) (dst : Option Nat) (S : T Value → Heap → Prop) (v : Value) (h : Heap) : Prop := dwf cf r (putA ts dst v) h S
theorem bo_eq (v : Value) : bo P r ts dst h S v = owf P r (putA ts dst v) h S := (rfl)
theorem bd_eq (v : Value) : bd cf r ts dst h S v = dwf cf r (putA ts dst v) h S := (rfl)
theorem bd2_eq (v : Value) : bd2 cf r ts dst S v h = dwf cf r (putA ts dst v) h S := (rfl)
theorem behind_eq (v : Value) : behind P r ts dst S v h = owf P r (putA ts dst v) h S := (rfl)

theorem o_p {q : POp} : owf P (⟨dst, .p q, none⟩ :: r) ts h S = optQ (pop ts q) (bo P r ts dst h S) := owf_p
theorem o_r {q : ROp} : owf P (⟨dst, .r q, none⟩ :: r) ts h S = optQ (rop ts h q) (bo P r ts dst h S) := owf_r
theorem o_e {q : EOp} : owf P (⟨dst, .e q, none⟩ :: r) ts h S = opt2 (eop ts h q) (behind P r ts dst S) := owf_e
theorem d_p {q : POp} : dwf cf (⟨dst, .p q, none⟩ :: r) ts h S = optQ (pop ts q) (bd cf r ts dst h S) := dwf_p
theorem d_r {q : ROp} : dwf cf (⟨dst, .r q, none⟩ :: r) ts h S = optQ (rop ts h q) (bd cf r ts dst h S) := dwf_r
theorem d_e {q : EOp} : dwf cf (⟨dst, .e q, none⟩ :: r) ts h S = opt2 (eop ts h q) (bd2 cf r ts dst S) := dwf_e
theorem d_call {f : Nat} {l : List Opd} : dwf cf (⟨dst, .call f l, none⟩ :: r) ts h S = opt2 (cf (.fn f) (evs ts l) h) (bd2 cf r ts dst S) := dwf_call
theorem o_on {t : Nat} {b : Bool} (hb : isB (look ts t) b = true) : owf P (⟨dst, q, some (t, b)⟩ :: r) ts h S = owf P (⟨dst, q, none⟩ :: r) ts h S := by rw [owf_guard, hb]; rfl
theorem o_off {t : Nat} {b : Bool} (hb : isB (look ts t) b = false) : owf P (⟨dst, q, some (t, b)⟩ :: r) ts h S = owf P r (putA ts dst undef) h S := by rw [owf_guard, hb]; rfl
theorem d_on {t : Nat} {b : Bool} (hb : isB (look ts t) b = true) : dwf cf (⟨dst, q, some (t, b)⟩ :: r) ts h S = dwf cf (⟨dst, q, none⟩ :: r) ts h S := by rw [dwf_guard, hb]; rfl
theorem d_off {t : Nat} {b : Bool} (hb : isB (look ts t) b = false) : dwf cf (⟨dst, q, some (t, b)⟩ :: r) ts h S = dwf cf r (putA ts dst undef) h S := by rw [dwf_guard, hb]; rfl
theorem c_true {c : Opd} (hb : isB (ev ts c) true = true) : cwf P N ro (.cond c ac bc) ts h Z = cwf P N ro ac ts h Z := by
  rw [cwf_cond]
  cases hc : ev ts c <;> rw [hc] at hb <;> simp [isB] at hb
  subst hb; rfl
theorem c_false {c : Opd} (hb : isB (ev ts c) false = true) : cwf P N ro (.cond c ac bc) ts h Z = cwf P N ro bc ts h Z := by
  rw [cwf_cond]
  cases hc : ev ts c <;> rw [hc] at hb <;> simp [isB] at hb
  subst hb; rfl
theorem isB_true (b : Bool) : isB (.bool b) true = b := (rfl)
theorem isB_false (b : Bool) : isB (.bool b) false = !b := by cases b <;> rfl
end


theorem scalar_slice (a : Option Addr) (n c : Nat) : scalar (.slice a n c) = true := by simp [scalar]
theorem scalar_int (k : IntKind) (n : Int) : scalar (.int k n) = true := by simp [scalar]
theorem scalar_ptr (a : Option Addr) : scalar (.pointer a) = true := by simp [scalar]
theorem scalar_bool (b : Bool) : scalar (.bool b) = true := by simp [scalar]
theorem wrapF_zero : wrapF .i64 0 = 0 := by decide
theorem min364 : min 3 64 = 3 := (rfl)
theorem mkRes0 : mkRes [] = .tuple #[] := (rfl)
theorem mkRes1 (v : Value) : mkRes [v] = v := (rfl)
theorem mkRes2 (v u : Value) (l : List Value) : mkRes (v :: u :: l) = .tuple (v :: u :: l).toArray := (rfl)

theorem cells_scalar {v : Value} (h : scalar v = true) : v.cells.toList = [v] := by
  cases v <;> first | rfl | (cases h)

/-- a cell is written -/
def st1 (h : Heap) (p v : Value) : Option (Value × Heap) := match p with
  | .pointer (some ⟨b, o, none⟩) => (match h.wrs b o [v] with
    | some h' => some (undef, h')
    | none => none)
  | _ => none

theorem eop_store1 {ts : T Value} {h : Heap} {a x : Opd} (hs : scalar (ev ts x) = true) : eop ts h (.store 1 a x) = st1 h (ev ts a) (ev ts x) := by
  show (match ev ts a with
    | .pointer (some ⟨b, o, none⟩) => (bif Nat.beq (ev ts x).cells.toList.length 1 && Nat.ble 1 1 then (match h.wrs b o (ev ts x).cells.toList with
        | some h' => some (undef, h')
        | none => none) else none)
    | _ => none) = _
  rw [cells_scalar hs]; rfl

/-- a new row of what was built -/
def bldS (h : Heap) (s len : Nat) (o : Option (List Value)) : Option (Value × Heap) := match o with
  | some cs => some (.slice (some ⟨h.next, 0, none⟩) len len, h.new { cells := cs, n := len * s, s := s, own := true, grown := false })
  | none => none
theorem bldS_some (h : Heap) (s len : Nat) (cs : List Value) : bldS h s len (some cs) = some (.slice (some ⟨h.next, 0, none⟩) len len, h.new { cells := cs, n := len * s, s := s, own := true, grown := false }) := (rfl)
theorem eop_buildS {ts : T Value} {h : Heap} {s len : Nat} {zero : List Value} {ps : List (Nat × Nat × Opd)} : eop ts h (.buildS s len zero ps) = bldS h s len (fillA zero (evP ts ps)) := (rfl)
theorem evP_nil {ts : T Value} : evP ts [] = [] := (rfl)
theorem evP_cons {ts : T Value} {a b : Nat} {x : Opd} {r : List (Nat × Nat × Opd)} : evP ts ((a, b, x) :: r) = (a, b, ev ts x) :: evP ts r := (rfl)
theorem fillA_nil (cells : List Value) : fillA cells [] = some cells := (rfl)
theorem fillA_one {cells : List Value} {off : Nat} {v : Value} {r : List (Nat × Nat × Value)} (hv : scalar v = true) (ho : off < cells.length) : fillA cells ((off, 1, v) :: r) = fillA (cells.set off v) r := by
  show (bif Nat.beq v.cells.toList.length 1 && Nat.ble (off + 1) cells.length then fillA (splice cells off v.cells.toList) r else none) = _
  rw [cells_scalar hv, splice_one _ _ _ ho, Nat.ble_eq_true_of_le (show off + 1 ≤ cells.length from ho)]
  rfl
theorem fillA_pair {v u x y : Value} : fillA [v, u] [(0, 2, .agg #[x, y])] = some [x, y] := (rfl)

/-- a new block for a value -/
def boxV (h : Heap) (n : Nat) (v : Value) : Option (Value × Heap) := bif Nat.beq v.cells.toList.length n then some (.pointer (some ⟨h.next, 0, none⟩), h.new { cells := v.cells.toList, n := n, s := n, own := true, grown := false }) else none
theorem eop_box {ts : T Value} {h : Heap} {n : Nat} {x : Opd} : eop ts h (.box n x) = boxV h n (ev ts x) := (rfl)
theorem boxV5 (h : Heap) (a b c d e : Value) : boxV h 5 (.agg #[a, b, c, d, e]) = some (.pointer (some ⟨h.next, 0, none⟩), h.new ⟨[a, b, c, d, e], 5, 5, true, false⟩) := (rfl)

theorem tmod_cases (n k : Int) (k0 : 0 < k) : n.tmod k = n % k ∧ 0 ≤ n.tmod k ∨ n.tmod k = n % k - k ∧ n.tmod k < 0 := by
  have h := @Int.tmod_eq_emod n k
  have em := Int.emod_nonneg n (show k ≠ 0 by omega)
  have el := Int.emod_lt_of_pos n k0
  split at h <;> omega

theorem wrapI {a : Int} (h0 : -9223372036854775808 ≤ a) (h1 : a < 9223372036854775808) : wrapF .i64 a = a := by
  rw [wrapF_eq]; exact IntWalk.i64_in _ (by omega)

/-! ### a memory -/

abbrev useSl (u : Option Nat) (C : List Int) : Value := .slice (u.map fun x => ⟨x, 0, none⟩) C.length C.length

def memBlk (sl : Value) (z c o r : Int) : Blk := ⟨[sl, I z, I c, I o, I r], 5, 5, true, false⟩
def usedBlk (C : List Int) : Blk := ⟨C.map I, C.length, 1, true, true⟩

/-- a memory lies there: its cells; its size, how many accesses, odd ones, refused ones -/
structure MemAt (h : Heap) (b : Nat) (u : Option Nat) (C : List Int) (z c o r : Int) : Prop where
  blk : h.blks.get b = some (memBlk (useSl u C) z c o r)
  use : ∀ x, u = some x → h.blks.get x = some (usedBlk C) ∧ x ≠ b ∧ x < h.next ∧ C ≠ []
  non : u = none → C = []
  lt : b < h.next

theorem MemAt.same {h h' : Heap} {b : Nat} {u : Option Nat} {C : List Int} {z c o r : Int} {S : Nat → Prop} (m : MemAt h b u C z c o r) (s : Same h h' S) (hb : ¬ S b) (hu : ∀ x, u = some x → ¬ S x) : MemAt h' b u C z c o r :=
  ⟨by rw [s.get b m.lt hb]; exact m.blk, fun x hx => by
    obtain ⟨h1, h2, h3, h4⟩ := m.use x hx
    exact ⟨by rw [s.get x h3 (hu x hx)]; exact h1, h2, Nat.lt_of_lt_of_le h3 s.next, h4⟩, m.non, Nat.lt_of_lt_of_le m.lt s.next⟩

section
variable {h : Heap} {b : Nat} {u : Option Nat} {C : List Int} {z c o r : Int} (m : MemAt h b u C z c o r)
include m
theorem MemAt.rd0 : h.rd b 0 = some (useSl u C) := rd_of m.blk
theorem MemAt.rd1 : h.rd b 1 = some (I z) := rd_of m.blk
theorem MemAt.rd2 : h.rd b 2 = some (I c) := rd_of m.blk
theorem MemAt.rd3 : h.rd b 3 = some (I o) := rd_of m.blk
theorem MemAt.rd4 : h.rd b 4 = some (I r) := rd_of m.blk
theorem MemAt.wr0 {v : Value} (hv : scalar v = true) : h.wrs b 0 [v] = some (h.setB b (memBlk v z c o r)) := wrs1_of m.blk rfl (by simp [memBlk]) hv
theorem MemAt.wr2 (x : Int) : h.wrs b 2 [I x] = some (h.setB b (memBlk (useSl u C) z x o r)) := wrs1_of m.blk rfl (by simp [memBlk]) rfl
theorem MemAt.wr3 (x : Int) : h.wrs b 3 [I x] = some (h.setB b (memBlk (useSl u C) z c x r)) := wrs1_of m.blk rfl (by simp [memBlk]) rfl
theorem MemAt.wr4 (x : Int) : h.wrs b 4 [I x] = some (h.setB b (memBlk (useSl u C) z c o x)) := wrs1_of m.blk rfl (by simp [memBlk]) rfl
theorem MemAt.set (z' c' o' r' : Int) : MemAt (h.setB b (memBlk (useSl u C) z' c' o' r')) b u C z' c' o' r' :=
  ⟨by rw [setB_get, if_pos rfl], fun x hx => by
    obtain ⟨h1, h2, h3, h4⟩ := m.use x hx
    exact ⟨by rw [setB_get, if_neg h2]; exact h1, h2, h3, h4⟩, m.non, m.lt⟩
end

/-! ### slices -/

theorem tail_marks (h k : Heap) (e : k.marks = h.marks) : ({ k with marks := h.marks } : Heap) = k := by rw [← e]


/-- append, of a slice -/
def appV (h : Heap) (s bytes : Nat) (X Y : Value) : Option (Value × Heap) := match X, srcCells h s Y with
  | .slice base len cap, some (news, n) => appA h s bytes base len cap news n
  | _, _ => none

theorem eop_app {ts : T Value} {h : Heap} {s bytes : Nat} {x y : Opd} : eop ts h (.app s bytes x y) = appV h s bytes (ev ts x) (ev ts y) := (rfl)

abbrev ownSl (u : Option Nat) (n : Nat) : Value := .slice (u.map fun x => ⟨x, 0, none⟩) n n

/-- a slice of one's own, grown: nil, or the whole of a block -/
structure OwnAt (h : Heap) (u : Option Nat) (s n : Nat) (cells : List Value) : Prop where
  use : ∀ x, u = some x → h.blks.get x = some ⟨cells, n * s, s, true, true⟩ ∧ x < h.next ∧ 1 ≤ n
  non : u = none → n = 0
  len : cells.length = n * s
  sc : cells.all scalar = true

theorem OwnAt.nil (h : Heap) (s : Nat) : OwnAt h none s 0 [] := { use := fun x hx => (by cases hx), non := fun _ => rfl, len := (by simp), sc := rfl }

theorem OwnAt.same {h h' : Heap} {u : Option Nat} {s n : Nat} {cells : List Value} {S : Nat → Prop} (o : OwnAt h u s n cells) (m : Same h h' S) (hu : ∀ x, u = some x → ¬ S x) : OwnAt h' u s n cells :=
  ⟨fun x hx => by
    obtain ⟨h1, h2, h3⟩ := o.use x hx
    exact ⟨by rw [m.get x h2 (hu x hx)]; exact h1, Nat.lt_of_lt_of_le h2 m.next, h3⟩, o.non, o.len, o.sc⟩

theorem MemAt.own {h : Heap} {b : Nat} {u : Option Nat} {C : List Int} {z c o r : Int} (m : MemAt h b u C z c o r) : OwnAt h u 1 C.length (C.map I) :=
  ⟨fun x hx => by
    obtain ⟨h1, _, h3, h4⟩ := m.use x hx
    exact ⟨by rw [h1, Nat.mul_one]; rfl, h3, List.length_pos_iff.2 h4⟩, fun hu => by rw [m.non hu]; rfl, by simp, by simp [scalar]⟩

theorem mem_wr0 {h : Heap} {b : Nat} {sl v : Value} {z c o r : Int} (hb : h.blks.get b = some (memBlk sl z c o r)) (hv : scalar v = true) : h.wrs b 0 [v] = some (h.setB b (memBlk v z c o r)) := wrs1_of hb rfl (by simp [memBlk]) hv

theorem MemAt.of_own {h : Heap} {b : Nat} {u : Option Nat} {C : List Int} (a : OwnAt h u 1 C.length (C.map I)) (hu : ∀ x, u = some x → x ≠ b) (hb : b < h.next) (z c o r : Int) : MemAt (h.setB b (memBlk (useSl u C) z c o r)) b u C z c o r :=
  ⟨by rw [setB_get, if_pos rfl], fun x hx => by
    obtain ⟨h1, h2, h3⟩ := a.use x hx
    exact ⟨by rw [setB_get, if_neg (hu x hx), h1, Nat.mul_one]; rfl, hu x hx, h2, List.length_pos_iff.1 h3⟩, fun hn => List.eq_nil_of_length_eq_zero (a.non hn), hb⟩

theorem nat_ble {a b : Nat} (h : a ≤ b) : Nat.ble a b = true := Nat.ble_eq_true_of_le h
theorem nat_ble_f {a b : Nat} (h : ¬ a ≤ b) : Nat.ble a b = false := by
  cases hc : Nat.ble a b with
  | false => rfl
  | true => exact absurd (Nat.le_of_ble_eq_true hc) h
theorem nat_beq (a : Nat) : Nat.beq a a = true := Nat.beq_refl a
theorem nat_beq_f {a b : Nat} (h : a ≠ b) : Nat.beq a b = false := by
  rcases beq_cases a b with ⟨h1, h2⟩ | ⟨h1, _⟩
  · exact absurd h2 h
  · exact h1

theorem app_own {h : Heap} {u : Option Nat} {s n k bytes : Nat} {cells news : List Value} {Y : Value} (o : OwnAt h u s n cells) (hy : srcCells h s Y = some (news, k)) (hk : news.length = k * s) (hs : news.all scalar = true) (s1 : 1 ≤ s)
    (b1 : (n + k) * bytes ≤ 1099511627776) (b2 : n + k ≤ 1099511627776) :
    ∃ u' h', appV h s bytes (ownSl u n) Y = some (ownSl u' (n + k), h') ∧ OwnAt h' u' s (n + k) (cells ++ news) ∧ Same h h' (fun j => u = some j) ∧ (∀ x, u' = some x → u = some x ∨ x = h.next) := by
  have hg : (Nat.ble ((n + k) * bytes) 1099511627776 && Nat.ble (n + k) 1099511627776 && Nat.ble 1 s && news.all scalar) = true := by
    rw [nat_ble b1, nat_ble b2, nat_ble s1, hs]; rfl
  unfold appV
  rw [hy]
  simp only [ownSl]
  unfold appA
  rw [hg]
  simp only [cond_true]
  have hall : (cells ++ news).all scalar = true := by rw [List.all_append, o.sc, hs]; rfl
  have hlen : (cells ++ news).length = (n + k) * s := by rw [List.length_append, o.len, hk, Nat.add_mul]
  by_cases k0 : k = 0
  · subst k0
    have hn : news = [] := List.eq_nil_of_length_eq_zero (by simpa using hk)
    subst hn
    refine ⟨u, h, ?_, by simpa using o, Same.refl _ _, fun x hx => .inl hx⟩
    cases hu : u with
    | none =>
      simp only [Option.map_none, nat_beq, nat_ble (Nat.le_refl n), cond_true, Nat.add_zero]
    | some x =>
      obtain ⟨h1, h2, h3⟩ := o.use x hu
      simp only [Option.map_some, h1, nat_beq, Bool.not_true, cond_false, Nat.add_zero, nat_ble (Nat.le_refl n), cond_true]
  · cases hu : u with
    | none =>
      have n0 := o.non hu
      subst n0
      have c0 : cells = [] := List.eq_nil_of_length_eq_zero (by simpa using o.len)
      subst c0
      refine ⟨some h.next, h.new ⟨news, k * s, s, true, true⟩, ?_, ⟨fun x hx => ?_, by simp, by simpa using hlen, by simpa using hall⟩, Same.new, fun x hx => .inr (by cases hx; rfl)⟩
      · simp only [Option.map_none, nat_beq_f k0, cond_false, nat_beq, Bool.and_true, cond_true, Option.map_some, Nat.zero_add]
      · cases hx
        exact ⟨by rw [new_get, if_pos rfl]; simp, Nat.lt_succ_self _, by omega⟩
    | some x =>
      obtain ⟨h1, h2, h3⟩ := o.use x hu
      have hrd : h.rds x 0 (n * s) = some cells := by
        rw [rds_of h1 (by simp [o.len])]
        simp [← o.len]
      have hl1 : 1 ≤ cells.length := by rw [o.len]; exact Nat.mul_pos h3 s1
      refine ⟨some h.next, (h.kill x ⟨cells, n * s, s, true, true⟩).new ⟨cells ++ news, (n + k) * s, s, true, true⟩, ?_, ⟨fun y hy => ?_, by simp, hlen, hall⟩, ?_, fun y hy => .inr (by cases hy; rfl)⟩
      · simp only [Option.map_some, h1, nat_beq, Bool.not_true, cond_false, nat_ble_f (show ¬ n + k ≤ n by omega), hrd, Nat.zero_add, Bool.and_true, cond_true, o.sc, nat_ble hl1]
      · cases hy
        exact ⟨by rw [new_get]; exact if_pos rfl, Nat.lt_succ_self _, by omega⟩
      · exact (Same.setB (S := fun j => some x = some j) (k := _) rfl).trans (Same.new (S := fun j => some x = some j)) (fun _ _ hj => hj)

/-- part of a block, to be read -/
structure RdAt (h : Heap) (x o s n cap : Nat) (cells : List Value) : Prop where
  blk : ∃ k, h.blks.get x = some k ∧ k.s = s ∧ (k.cells.drop o).take (n * s) = cells ∧ o + n * s ≤ k.cells.length
  cap : n ≤ cap
  lt : x < h.next

theorem RdAt.same {h h' : Heap} {x o s n cap : Nat} {cells : List Value} {S : Nat → Prop} (r : RdAt h x o s n cap cells) (m : Same h h' S) (hx : ¬ S x) : RdAt h' x o s n cap cells :=
  ⟨by rw [m.get x r.lt hx]; exact r.blk, r.cap, Nat.lt_of_lt_of_le r.lt m.next⟩

theorem RdAt.len {h : Heap} {x o s n cap : Nat} {cells : List Value} (r : RdAt h x o s n cap cells) : cells.length = n * s := by
  obtain ⟨k, _, _, h3, h4⟩ := r.blk
  rw [← h3]; simp; omega

theorem RdAt.rd {h : Heap} {x o s n cap : Nat} {cells : List Value} (r : RdAt h x o s n cap cells) {i : Nat} (hi : i < n * s) : h.rd x (o + i) = cells[i]? := by
  obtain ⟨k, h1, _, h3, _⟩ := r.blk
  rw [rd_of h1, ← h3, List.getElem?_take, if_pos hi, List.getElem?_drop]

theorem RdAt.src {h : Heap} {x o s n cap : Nat} {cells : List Value} (r : RdAt h x o s n cap cells) : srcCells h s (.slice (some ⟨x, o, none⟩) n cap) = some (cells, n) := by
  obtain ⟨k, h1, _, h3, h4⟩ := r.blk
  show (match h.rds x o (n * s) with | some l => some (l, n) | none => none) = _
  rw [rds_of h1 h4, h3]

theorem RdAt.sub {h : Heap} {x o s n cap lo hi : Nat} {cells : List Value} (r : RdAt h x o s n cap cells) (h1 : lo ≤ hi) (h2 : hi ≤ n) : RdAt h x (o + lo * s) s (hi - lo) (cap - lo) ((cells.drop (lo * s)).take ((hi - lo) * s)) := by
  obtain ⟨k, k1, k2, k3, k4⟩ := r.blk
  have hc := r.cap
  have e1 : hi * s = lo * s + (hi - lo) * s := by rw [← Nat.add_mul]; congr 1; omega
  have e2 : hi * s ≤ n * s := Nat.mul_le_mul_right _ h2
  refine ⟨⟨k, k1, k2, ?_, by omega⟩, by omega, r.lt⟩
  rw [← k3, List.drop_take, List.drop_drop, List.take_take]
  congr 1
  · omega

/-- a block that is new -/
theorem RdAt.fresh (h : Heap) (cells : List Value) (n s : Nat) (own gr : Bool) (hl : cells.length = n * s) : RdAt (h.new ⟨cells, n * s, s, own, gr⟩) h.next 0 s n n cells :=
  ⟨⟨_, by rw [new_get]; exact if_pos rfl, rfl, by rw [List.drop_zero, ← hl, List.take_length], by simp [hl]⟩, Nat.le_refl _, Nat.lt_succ_self _⟩

def appZV (h : Heap) (s bytes : Nat) (zero : List Value) (X Y : Value) : Option (Value × Heap) := match X, asNat Y with
  | .slice base len cap, some n => bif Nat.ble n 1099511627776 then appA h s bytes base len cap (rep zero n) n else none
  | _, _ => none
theorem eop_appZ {ts : T Value} {h : Heap} {s bytes : Nat} {zero : List Value} {x y : Opd} : eop ts h (.appZ s bytes zero x y) = appZV h s bytes zero (ev ts x) (ev ts y) := (rfl)

theorem asNat_I (n : Nat) : asNat (I n) = some n := by simp [asNat]

/-- new ones behind a slice that is none -/
theorem appZ_nil {h : Heap} {s bytes n : Nat} {zero : List Value} (n0 : 0 < n) (b1 : n * bytes ≤ 1099511627776) (b2 : n ≤ 1099511627776) (s1 : 1 ≤ s) (hs : (rep zero n).all scalar = true) :
    appZV h s bytes zero (.slice none 0 0) (I n) = some (.slice (some ⟨h.next, 0, none⟩) n n, h.new ⟨rep zero n, n * s, s, true, true⟩) := by
  unfold appZV
  rw [asNat_I]
  simp only [nat_ble b2, cond_true, appA, Nat.zero_add, nat_ble b1, nat_ble s1, hs, Bool.and_true, nat_beq_f (show n ≠ 0 by omega), cond_false, nat_beq]

theorem rep_int (n : Nat) : rep [I 0] n = (List.replicate n (0 : Int)).map I := by
  induction n with
  | zero => rfl
  | succ n ih => rw [rep, ih]; rfl

/-- what is laid behind none: an empty row still, or a row of one's own -/
def Mid (h : Heap) (s n : Nat) (v : Value) (cells : List Value) (y : Nat) : Prop :=
  (n = 0 ∧ cells = [] ∧ v = .slice (some ⟨y, 0, none⟩) 0 0 ∧ h.blks.get y = some ⟨[], 0, s, true, false⟩ ∧ y < h.next) ∨ (v = ownSl (some y) n ∧ OwnAt h (some y) s n cells)

theorem Mid.same {h h' : Heap} {s n y : Nat} {v : Value} {cells : List Value} {S : Nat → Prop} (a : Mid h s n v cells y) (m : Same h h' S) (hy : ¬ S y) : Mid h' s n v cells y := by
  rcases a with ⟨h1, h2, h3, h4, h5⟩ | ⟨h1, h2⟩
  · exact .inl ⟨h1, h2, h3, by rw [m.get y h5 hy]; exact h4, Nat.lt_of_lt_of_le h5 m.next⟩
  · exact .inr ⟨h1, h2.same m (fun x hx => by cases hx; exact hy)⟩

theorem app_empty {h : Heap} {y s k bytes : Nat} {news : List Value} {Y : Value} (hb : h.blks.get y = some ⟨[], 0, s, true, false⟩) (hlt : y < h.next) (hy : srcCells h s Y = some (news, k)) (hk : news.length = k * s) (hs : news.all scalar = true) (s1 : 1 ≤ s)
    (b1 : k * bytes ≤ 1099511627776) (b2 : k ≤ 1099511627776) :
    ∃ v h' z, appV h s bytes (.slice (some ⟨y, 0, none⟩) 0 0) Y = some (v, h') ∧ Mid h' s k v news z ∧ Same h h' (fun _ => False) ∧ (z = y ∨ z = h.next) ∧ (k ≠ 0 → OwnAt h' (some z) s k news ∧ v = ownSl (some z) k) := by
  have hg : (Nat.ble ((0 + k) * bytes) 1099511627776 && Nat.ble (0 + k) 1099511627776 && Nat.ble 1 s && news.all scalar) = true := by
    rw [Nat.zero_add, nat_ble b1, nat_ble b2, nat_ble s1, hs]; rfl
  unfold appV
  rw [hy]
  simp only
  unfold appA
  rw [hg]
  simp only [cond_true, hb, nat_beq, Bool.not_true, cond_false]
  by_cases k0 : k = 0
  · subst k0
    have hn : news = [] := List.eq_nil_of_length_eq_zero (by simpa using hk)
    subst hn
    refine ⟨_, h, y, ?_, .inl ⟨rfl, rfl, rfl, hb, hlt⟩, Same.refl _ _, .inl rfl, fun hn => absurd rfl hn⟩
    simp only [Nat.add_zero, nat_ble (Nat.le_refl 0), cond_true, nat_beq]
  · have hrd : h.rds y 0 (0 * s) = some [] := by
      rw [rds_of hb (by simp)]; simp
    have ho : OwnAt (h.new ⟨news, k * s, s, true, true⟩) (some h.next) s k news := ⟨fun x hx => by cases hx; exact ⟨by rw [new_get]; exact if_pos rfl, Nat.lt_succ_self _, by omega⟩, by simp, hk, hs⟩
    refine ⟨_, h.new ⟨news, k * s, s, true, true⟩, h.next, ?_, .inr ⟨rfl, ho⟩, Same.new, .inr rfl, fun _ => ⟨ho, rfl⟩⟩
    simp only [nat_ble_f (show ¬ k ≤ 0 by omega), cond_false, hrd, Bool.false_and, Nat.zero_add, List.nil_append, ownSl, Option.map_some]

/-- one more behind it -/
theorem app_mid {h : Heap} {s n k bytes y : Nat} {v Y : Value} {cells news : List Value} (a : Mid h s n v cells y) (hy : srcCells h s Y = some (news, k)) (hk : news.length = k * s) (hs : news.all scalar = true) (s1 : 1 ≤ s) (k0 : k ≠ 0) (b1 : (n + k) * bytes ≤ 1099511627776) (b2 : n + k ≤ 1099511627776) :
    ∃ z h', appV h s bytes v Y = some (ownSl (some z) (n + k), h') ∧ OwnAt h' (some z) s (n + k) (cells ++ news) ∧ Same h h' (fun j => j = y) ∧ (z = y ∨ z = h.next) := by
  rcases a with ⟨rfl, rfl, rfl, h4, h5⟩ | ⟨rfl, h2⟩
  · rw [Nat.zero_add] at b1 b2 ⊢
    obtain ⟨v, h', z, e, _, e3, e4, e5⟩ := app_empty (bytes := bytes) h4 h5 hy hk hs s1 b1 b2
    obtain ⟨e6, rfl⟩ := e5 k0
    exact ⟨z, h', e, e6, e3.mono (fun _ x => x.elim), e4⟩
  · obtain ⟨u', h', e1, e2, e3, e4⟩ := app_own (bytes := bytes) h2 hy hk hs s1 b1 b2
    cases hu : u' with
    | none => rw [hu] at e2; have := e2.non rfl; omega
    | some z =>
      rw [hu] at e1 e2 e4
      exact ⟨z, h', e1, e2, e3.mono (fun j hj => (Option.some.inj hj).symm), (e4 z rfl).imp_left (fun e => (Option.some.inj e).symm)⟩

theorem src_nil (h : Heap) (s : Nat) : srcCells h s (.slice none 0 0) = some ([], 0) := (rfl)
theorem src_vague (h : Heap) (s b o k : Nat) : srcCells h s (.slice (some ⟨b, o, some k⟩) 0 0) = some ([], 0) := (rfl)

/-- append where there is room -/
theorem app_in {h : Heap} {x s n k cap N bytes : Nat} {gr : Bool} {done rest news : List Value} {Y : Value} (hb : h.blks.get x = some ⟨done ++ rest, N, s, true, gr⟩) (hd : done.length = n * s) (hy : srcCells h s Y = some (news, k)) (hk : news.length = k * s) (hr : news.length ≤ rest.length) (hs : news.all scalar = true) (s1 : 1 ≤ s) (k0 : k ≠ 0) (hc : n + k ≤ cap)
    (b1 : (n + k) * bytes ≤ 1099511627776) (b2 : n + k ≤ 1099511627776) :
    appV h s bytes (.slice (some ⟨x, 0, none⟩) n cap) Y = some (.slice (some ⟨x, 0, none⟩) (n + k) cap, h.setB x ⟨(done ++ news) ++ rest.drop news.length, N, s, true, gr⟩) := by
  have hg : (Nat.ble ((n + k) * bytes) 1099511627776 && Nat.ble (n + k) 1099511627776 && Nat.ble 1 s && news.all scalar) = true := by
    rw [nat_ble b1, nat_ble b2, nat_ble s1, hs]; rfl
  unfold appV
  rw [hy]
  simp only
  unfold appA
  rw [hg]
  simp only [cond_true, hb, nat_beq, Bool.not_true, cond_false, nat_ble hc, nat_beq_f k0, Nat.zero_add]
  have hw : h.wrs x (n * s) news = some (h.setB x ⟨(done ++ news) ++ rest.drop news.length, N, s, true, gr⟩) := by
    unfold Heap.wrs
    rw [hb]
    have hl : leLen (done ++ rest) (n * s + news.length) = true := leLen_le (by rw [List.length_append]; omega)
    simp only [hl, hs, Bool.and_true, cond_true, spl_eq]
    have e : splice (done ++ rest) (n * s) news = (done ++ news) ++ rest.drop news.length := by
      unfold splice
      rw [← hd, List.take_left', List.drop_append, List.drop_eq_nil_of_le (by omega)]
      · simp
      · rfl
    rw [e]; rfl
  rw [hw]

theorem app_in' {h : Heap} {x s n k cap N bytes : Nat} {gr : Bool} {done rest news : List Value} {Y : Value} (hb : h.blks.get x = some ⟨done ++ rest, N, s, true, gr⟩) (hd : done.length = n * s) (hy : srcCells h s Y = some (news, k)) (hk : news.length = k * s) (hr : news.length ≤ rest.length) (hs : news.all scalar = true) (s1 : 1 ≤ s) (k0 : k ≠ 0) (hc : n + k ≤ cap)
    (b1 : (n + k) * bytes ≤ 1099511627776) (b2 : n + k ≤ 1099511627776) :
    ∃ h', appV h s bytes (.slice (some ⟨x, 0, none⟩) n cap) Y = some (.slice (some ⟨x, 0, none⟩) (n + k) cap, h') ∧ h'.blks.get x = some ⟨(done ++ news) ++ rest.drop news.length, N, s, true, gr⟩ ∧ Same h h' (fun j => j = x) :=
  ⟨_, app_in hb hd hy hk hr hs s1 k0 hc b1 b2, by rw [setB_get]; exact if_pos rfl, Same.setB rfl⟩

/-- a slice of a slice: the model's, of values -/
def slV (h : Heap) (s : Nat) (X : Value) (lo hi : Option Value) : Option Value := match (match lo with | some l => asNat l | none => some 0) with
  | none => none
  | some l => match X with
    | .slice base len cap => (match (match hi with | some l => asNat l | none => some len) with
      | some hh => bif Nat.ble l hh && Nat.ble hh cap then (match base with
        | none => some (.slice none (hh - l) (cap - l))
        | some ⟨b, o, none⟩ => (match h.blks.get b with
          | some k => bif Nat.beq k.s s then
              (bif Nat.beq cap l then some (.slice (some ⟨b, o, some 0⟩) 0 0) else some (.slice (some ⟨b, o + l * s, none⟩) (hh - l) (cap - l)))
            else none
          | none => none)
        | some ⟨b, o, some q⟩ => bif Nat.beq len 0 && Nat.beq cap 0 then some (.slice (some ⟨b, o, some q⟩) 0 0) else none) else none
      | none => none)
    | _ => none

theorem rop_slice {ts : T Value} {h : Heap} {s : Nat} {x : Opd} {lo hi : Option Opd} : rop ts h (.slice s x lo hi none) = slV h s (ev ts x) (evO ts lo) (evO ts hi) := by
  show (match asNO ts 0 lo with | none => none | some l => _) = _
  unfold slV
  have e1 : asNO ts 0 lo = (match evO ts lo with | some l => asNat l | none => some 0) := by cases lo <;> rfl
  rw [e1]
  cases (match evO ts lo with | some l => asNat l | none => some 0) with
  | none => rfl
  | some l =>
    simp only
    cases ev ts x with
    | slice base len cap =>
      simp only
      have e2 : asNO ts len hi = (match evO ts hi with | some l => asNat l | none => some len) := by cases hi <;> rfl
      rw [e2]
      cases (match evO ts hi with | some l => asNat l | none => some len) with
      | none => rfl
      | some hh =>
        simp only [asNO, nat_ble (Nat.le_refl cap), Option.isNone_none, Bool.true_or, Bool.and_true, Option.isSome_none, Bool.false_and, cond_false]
        rfl
    | _ => rfl

def ldV (h : Heap) (v : Value) : Option Value := match v with
  | .pointer (some ⟨b, o, none⟩) => h.rd b o
  | _ => none
theorem rop_load1 {ts : T Value} {h : Heap} {x : Opd} : rop ts h (.load1 x) = ldV h (ev ts x) := (rfl)
theorem ldV_ptr (h : Heap) (b o : Nat) : ldV h (.pointer (some ⟨b, o, none⟩)) = h.rd b o := (rfl)
def capV (h : Heap) (v : Value) : Option Value := match v with
  | .slice none _ c => some (.int .i64 c)
  | .slice (some ⟨b, o, none⟩) _ cap => (match h.blks.get b with
    | some k => bif k.grown && Nat.beq (o + cap * k.s) k.n then none else some (.int .i64 cap)
    | none => none)
  | _ => none
theorem rop_cap {ts : T Value} {h : Heap} {x : Opd} : rop ts h (.cap x) = capV h (ev ts x) := (rfl)
theorem capV_nil (h : Heap) (n c : Nat) : capV h (.slice none n c) = some (.int .i64 c) := (rfl)

theorem RdAt.cut {h : Heap} {x o s n cap lo hi : Nat} {cells : List Value} (r : RdAt h x o s n cap cells) (h1 : lo ≤ hi) (h2 : hi ≤ n) (h3 : lo ≠ cap) : slV h s (.slice (some ⟨x, o, none⟩) n cap) (some (I lo)) (some (I hi)) = some (.slice (some ⟨x, o + lo * s, none⟩) (hi - lo) (cap - lo)) := by
  obtain ⟨k, k1, k2, _, _⟩ := r.blk
  have hc := r.cap
  unfold slV
  simp only [asNat_I, nat_ble h1, nat_ble (show hi ≤ cap by omega), Bool.and_true, cond_true, k1, k2, nat_beq, nat_beq_f (Ne.symm h3), cond_false]

theorem RdAt.to {h : Heap} {x o s n cap hi : Nat} {cells : List Value} (r : RdAt h x o s n cap cells) (h2 : hi ≤ cap) (h3 : cap ≠ 0) : slV h s (.slice (some ⟨x, o, none⟩) n cap) none (some (I hi)) = some (.slice (some ⟨x, o, none⟩) hi cap) := by
  obtain ⟨k, k1, k2, _, _⟩ := r.blk
  unfold slV
  simp only [asNat_I, nat_ble (Nat.zero_le hi), nat_ble h2, Bool.and_true, cond_true, k1, k2, nat_beq, nat_beq_f h3, cond_false, Nat.zero_mul, Nat.add_zero, Nat.sub_zero]

theorem RdAt.from {h : Heap} {x o s n cap lo : Nat} {cells : List Value} (r : RdAt h x o s n cap cells) (h1 : lo ≤ n) (h3 : lo ≠ cap) : slV h s (.slice (some ⟨x, o, none⟩) n cap) (some (I lo)) none = some (.slice (some ⟨x, o + lo * s, none⟩) (n - lo) (cap - lo)) := by
  obtain ⟨k, k1, k2, _, _⟩ := r.blk
  have hc := r.cap
  unfold slV
  simp only [asNat_I, nat_ble h1, nat_ble hc, Bool.and_true, cond_true, k1, k2, nat_beq, nat_beq_f (Ne.symm h3), cond_false]

theorem RdAt.end {h : Heap} {x o s n : Nat} {cells : List Value} (r : RdAt h x o s n n cells) : slV h s (.slice (some ⟨x, o, none⟩) n n) (some (I n)) none = some (.slice (some ⟨x, o, some 0⟩) 0 0) := by
  obtain ⟨k, k1, k2, _, _⟩ := r.blk
  unfold slV
  simp only [asNat_I, nat_ble (Nat.le_refl n), Bool.and_true, cond_true, k1, k2, nat_beq]

theorem slV_nil_to (h : Heap) (s : Nat) : slV h s (.slice none 0 0) none (some (I 0)) = some (.slice none 0 0) := (rfl)
theorem slV_nil_from (h : Heap) (s : Nat) : slV h s (.slice none 0 0) (some (I 0)) none = some (.slice none 0 0) := (rfl)

theorem OwnAt.rd {h : Heap} {x s n : Nat} {cells : List Value} (o : OwnAt h (some x) s n cells) : RdAt h x 0 s n n cells := by
  obtain ⟨h1, h2, _⟩ := o.use x rfl
  exact ⟨⟨_, h1, rfl, by rw [List.drop_zero, ← o.len, List.take_length], by simp [o.len]⟩, Nat.le_refl _, h2⟩

theorem OwnAt.to {h : Heap} {u : Option Nat} {s N n : Nat} {cells : List Value} (o : OwnAt h u s N cells) (hn : n ≤ N) : ∃ v, slV h s (ownSl u N) none (some (I n)) = some v ∧ srcCells h s v = some (cells.take (n * s), n) := by
  cases u with
  | none =>
    have := o.non rfl
    subst this
    have hn : n = 0 := by omega
    subst hn
    exact ⟨.slice none 0 0, rfl, by simp [src_nil]⟩
  | some y =>
    have h1 := (o.use y rfl).2.2
    refine ⟨_, o.rd.to (hi := n) hn (by omega), ?_⟩
    show (match h.rds y 0 (n * s) with | some l => some (l, n) | none => none) = _
    rw [rds_of (o.use y rfl).1 (by simp [o.len]; exact Nat.mul_le_mul_right _ hn)]
    simp

theorem OwnAt.from {h : Heap} {u : Option Nat} {s N n : Nat} {cells : List Value} (o : OwnAt h u s N cells) (hn : n ≤ N) : ∃ v, slV h s (ownSl u N) (some (I n)) none = some v ∧ srcCells h s v = some (cells.drop (n * s), N - n) := by
  cases u with
  | none =>
    have := o.non rfl
    subst this
    have hn : n = 0 := by omega
    subst hn
    have : cells = [] := List.eq_nil_of_length_eq_zero (by simpa using o.len)
    subst this
    exact ⟨.slice none 0 0, rfl, by simp [src_nil]⟩
  | some y =>
    by_cases he : n = N
    · subst he
      refine ⟨_, o.rd.end, ?_⟩
      rw [src_vague, List.drop_eq_nil_of_le (by rw [o.len]; exact Nat.le_refl _)]; simp
    · refine ⟨_, o.rd.from (lo := n) hn he, ?_⟩
      have e1 : N * s = n * s + (N - n) * s := by rw [← Nat.add_mul]; congr 1; omega
      show (match h.rds y (0 + n * s) ((N - n) * s) with | some l => some (l, N - n) | none => none) = _
      rw [rds_of (o.use y rfl).1 (by simp [o.len]; omega)]
      simp only [Nat.zero_add]
      rw [List.take_of_length_le (by simp [o.len]; omega)]

/-! ### rounds, one by one -/

section
variable {P : Program} {N : Nat} {ro : Option Nat} {bc : ACode} {ts : T Value} {h : Heap} {Z : AExit → T Value → Heap → Prop}

def LW (P : Program) (N : Nat) (ro : Option Nat) (bc : ACode) (ts : T Value) (h : Heap) (Z : AExit → T Value → Heap → Prop) : Prop := ∃ e ts' h' m, LRun P N ro bc e ts' h' ts h m ∧ Z e ts' h'

def lwQ (P : Program) (N : Nat) (ro : Option Nat) (bc : ACode) (Z : AExit → T Value → Heap → Prop) : AExit → T Value → Heap → Prop
  | .normal, ts, h => LW P N ro bc ts h Z
  | e, ts, h => Z e ts h

theorem cw_lw (x : LW P N ro bc ts h Z) : CW P N ro (.loop bc) ts h Z := let ⟨_, _, _, _, r, q⟩ := x; ⟨_, _, _, cf_loop r, q⟩

theorem lw_step (x : cwf P N ro bc ts h (lwQ P N ro bc Z)) : LW P N ro bc ts h Z := by
  obtain ⟨e, t1, h1, c, q⟩ := cwf_cw x
  cases e with
  | normal => obtain ⟨e, t2, h2, m, r, q⟩ := q; exact ⟨e, t2, h2, _, .step c r, q⟩
  | exit id => exact ⟨_, _, _, _, .last (by simp) c, q⟩
  | ret => exact ⟨_, _, _, _, .last (by simp) c, q⟩

theorem lwQ_normal : lwQ P N ro bc Z .normal ts h = LW P N ro bc ts h Z := (rfl)
theorem lwQ_exit {id : Nat} : lwQ P N ro bc Z (.exit id) ts h = Z (.exit id) ts h := (rfl)
theorem lwQ_ret : lwQ P N ro bc Z .ret ts h = Z .ret ts h := (rfl)
end

end
end Go.Proofs.YtpeihcpclcibgaaGreat.Ai
/- Arguments that come in: a slice of whole numbers. -/
namespace Go.Proofs.YtpeihcpclcibgaaGreat.Ai
noncomputable section
open Go.RowKit

/-- a slice of whole numbers that came in: nil, or a row of so many cells -/
def IsRow (k : IntKind) (w : World) (a : Option Addr) (len cap : Nat) (zs : List Int) : Prop :=
  (a = none ∧ len = 0 ∧ cap = 0 ∧ zs = []) ∨
  ∃ x, a = some x ∧ len ≤ cap ∧ cap ≤ maxLen ∧ zs.length = cap ∧ (∀ i, i < zs.length → w.cell? (x.add i) = some (.int k (zs.getD i 0))) ∧ ∀ n ∈ zs, (Lit.int k n).wf = true

/-- the numbers, to be read -/
def IntsAt (h : Heap) (v : Value) (L : List Int) : Prop := (L = [] ∧ ∃ base cap, v = .slice base 0 cap) ∨ ∃ x p cap, v = .slice (some ⟨x, p, none⟩) L.length cap ∧ RdAt h x p 1 L.length cap (L.map I)

theorem cell_cells {w : World} {b o : Nat} {v : Value} (h : w.cell? ⟨b, o, none⟩ = some v) : ∃ cc el fr, w.heap[b]? = some (.cells cc el fr) ∧ cc[o]? = some v := by
  unfold World.cell? at h
  cases hb : w.heap[b]? with
  | none => simp [hb] at h
  | some ob => cases ob <;> simp_all

theorem ints_in {C : CRel} {W : World} {a : Option Addr} {len cap : Nat} {zs : List Int} (r : IsRow .i64 W a len cap zs) :
    ∃ (h : Heap) (μ : Map) (v : Value), Rel C μ h ⟨W.heap.size, fun _ => none⟩ W W ∧ VRel μ v (.slice a len cap) ∧ IntsAt h v (zs.take len) := by
  rcases r with ⟨rfl, rfl, rfl, rfl⟩ | ⟨x, rfl, hl, _, hz, hcell, _⟩
  · exact ⟨heap0, _, .slice none 0 0, rel0 W, .same _ rfl, .inl ⟨rfl, _, _, rfl⟩⟩
  · by_cases hc : cap = 0
    · have hl0 : len = 0 := by omega
      subst hc; subst hl0
      exact ⟨heap0, _, .slice (some ⟨0, 0, some 0⟩) 0 0, rel0 W, .vague 0 0 0 x 0, .inl ⟨by simp, _, _, rfl⟩⟩
    · obtain ⟨b, off, spot⟩ := x
      have hc0 := hcell 0 (by omega)
      have hspot : spot = none := by simpa [Addr.add] using World.cell?_spot hc0
      subst hspot
      have hadd : ∀ i, (⟨b, off, none⟩ : Addr).add i = ⟨b, off + i, none⟩ := fun i => by unfold Addr.add; split <;> simp_all
      have hb : b < W.heap.size := by
        obtain ⟨cc, el, fr, h1, _⟩ := cell_cells (by simpa [Addr.add] using hc0)
        exact (Array.getElem?_eq_some_iff.1 h1).1
      have hgz : ∀ j k, (T.nil.put 0 (⟨zs.map I, cap, 1, false, false⟩ : Blk)).get j = some k → j = 0 ∧ k = ⟨zs.map I, cap, 1, false, false⟩ := fun j k hj => by
        by_cases h0 : j = 0
        · subst h0; rw [T.get_put_same] at hj; exact ⟨rfl, (Option.some.inj hj).symm⟩
        · rw [T.get_put_other _ _ h0, T.get_nil] at hj; cases hj
      refine ⟨⟨T.nil.put 0 ⟨zs.map I, cap, 1, false, false⟩, 1, .nil, []⟩, fun j => if j = 0 then some ⟨b, off, 0, 1, cap⟩ else none, .slice (some ⟨0, 0, none⟩) len cap, ?_, ?_, ?_⟩
      · refine { below := Below.refl _ _, size := Nat.le_refl _, zk := fun i o h => (by cases h), fresh := fun j e he => ?_, blk := fun j k hj => ?_, apart := fun j j' k k' e e' hj _ _ ho => ?_, aux := ⟨fun b k h => by simp [T.get_nil] at h, fun b b' k k' e e' h => by simp [T.get_nil] at h, fun m h => by simp at h, List.Pairwise.nil⟩ }
        · by_cases h0 : j = 0
          · subst h0; exact Nat.lt_succ_self _
          · simp [h0] at he
        · obtain ⟨rfl, rfl⟩ := hgz j k hj
          refine ⟨_, if_pos rfl, ⟨rfl, rfl, by simp [hz], fun _ => rfl, fun h => (by cases h), fun _ => hb, fun i v hi => ?_⟩⟩
          have hi' : i < zs.length := by
            have := (List.getElem?_eq_some_iff.1 hi).1
            simpa using this
          obtain ⟨cc, el, fr, h1, h2⟩ := cell_cells (show W.cell? ⟨b, off + i, none⟩ = _ by rw [← hadd]; exact hcell i hi')
          have e : v = I (zs.getD i 0) := by
            simp only [List.getElem?_map, List.getElem?_eq_getElem hi', Option.map_some, Option.some.injEq] at hi
            rw [← hi]; simp [hi']
          exact ⟨cc, el, fr, _, h1, h2, by rw [e]; exact .same _ rfl⟩
        · obtain ⟨_, rfl⟩ := hgz j k hj
          cases ho
      · have := VRel.slice (μ := fun j => if j = 0 then some (⟨b, off, 0, 1, cap⟩ : Ent) else none) 0 0 len cap ⟨b, off, 0, 1, cap⟩ (if_pos rfl)
        simpa using this
      · by_cases hl0 : len = 0
        · subst hl0
          exact .inl ⟨by simp, _, _, rfl⟩
        · refine .inr ⟨0, 0, cap, by simp [hz, Nat.min_eq_left hl], ⟨⟨(⟨zs.map I, cap, 1, false, false⟩ : Blk), T.get_put_same T.nil 0 (⟨zs.map I, cap, 1, false, false⟩ : Blk), rfl, ?_, by simp [hz]; omega⟩, by simp; omega, Nat.lt_succ_self _⟩⟩
          simp [List.map_take, hz, Nat.min_eq_left hl]

/-- what is shown of a law, from what came in -/
theorem law_calls {P : Program} {f : Nat} {args args' : List Value} {h : Heap} {μ : Map} {W : World} {X : Heap → Prop} (s : FSpec P f args h fun v h' => v = .bool true ∧ X h') (R : Rel (Cc P) μ h ⟨W.heap.size, fun _ => none⟩ W W) (ha : VsRel μ args args') :
    Calls P f args'.toArray W fun e w' => e = .returned (.bool true) ∧ Below W.heap.size W w' := by
  obtain ⟨v, h', F, rfl, _⟩ := s
  refine (F.calls _ _ μ W args' R ha).mono ?_
  rintro e w' ⟨μ', v', rfl, _, R', hv⟩
  exact ⟨by rw [hv.bool], R'.below⟩

end
end Go.Proofs.YtpeihcpclcibgaaGreat.Ai
/- Rows of cells that come in, whatever they hold; new rows of so many. -/
namespace Go.Proofs.YtpeihcpclcibgaaGreat.Ai
noncomputable section
open Go.RowKit

/-- a slice to be read, of so many elements -/
def RowAt (h : Heap) (v : Value) (s n : Nat) (cells : List Value) (u : Option Nat) : Prop :=
  (n = 0 ∧ cells = [] ∧ (v = .slice none 0 0 ∨ ∃ b o k, v = .slice (some ⟨b, o, some k⟩) 0 0)) ∨ ∃ x p cap, u = some x ∧ v = .slice (some ⟨x, p, none⟩) n cap ∧ RdAt h x p s n cap cells

theorem RowAt.src {h : Heap} {v : Value} {s n : Nat} {cells : List Value} {u : Option Nat} (a : RowAt h v s n cells u) : srcCells h s v = some (cells, n) := by
  rcases a with ⟨rfl, rfl, rfl | ⟨b, o, k, rfl⟩⟩ | ⟨x, p, cap, _, rfl, r⟩
  · rfl
  · rfl
  · exact r.src

theorem RowAt.same {h h' : Heap} {v : Value} {s n : Nat} {cells : List Value} {u : Option Nat} {S : Nat → Prop} (a : RowAt h v s n cells u) (m : Same h h' S) (hu : ∀ x, u = some x → ¬ S x) : RowAt h' v s n cells u := by
  rcases a with a | ⟨x, p, cap, e, e2, r⟩
  · exact .inl a
  · exact .inr ⟨x, p, cap, e, e2, r.same m (hu x e)⟩

theorem RowAt.norm {h : Heap} {v : Value} {s n : Nat} {cells : List Value} {u : Option Nat} (a : RowAt h v s n cells u) : ∃ u', RowAt h v s n cells u' ∧ ∀ y, u' = some y → y < h.next := by
  rcases a with a | ⟨x, p, cap, e, e2, r⟩
  · exact ⟨none, .inl a, fun y hy => by cases hy⟩
  · exact ⟨some x, .inr ⟨x, p, cap, rfl, e2, r⟩, fun y hy => by cases hy; exact r.lt⟩

theorem RowAt.len {h : Heap} {v : Value} {s n : Nat} {cells : List Value} {u : Option Nat} (a : RowAt h v s n cells u) : ∃ base cap, v = .slice base n cap := by
  rcases a with ⟨rfl, rfl, rfl | ⟨b, o, k, rfl⟩⟩ | ⟨x, p, cap, _, rfl, r⟩ <;> exact ⟨_, _, rfl⟩

theorem RowAt.of_own {h : Heap} {u : Option Nat} {s n : Nat} {cells : List Value} (o : OwnAt h u s n cells) : RowAt h (ownSl u n) s n cells u := by
  cases u with
  | none =>
    have := o.non rfl
    subst this
    exact .inl ⟨rfl, List.eq_nil_of_length_eq_zero (by simpa using o.len), .inl rfl⟩
  | some y => exact .inr ⟨y, 0, n, rfl, rfl, o.rd⟩

/-- a slice that came in: its cells, up to its capacity -/
def InRow (w : World) (a : Option Addr) (s len cap : Nat) (vs : List Value) : Prop :=
  (a = none ∧ len = 0 ∧ cap = 0 ∧ vs = []) ∨ ∃ x, a = some x ∧ len ≤ cap ∧ vs.length = cap * s ∧ (∀ (i : Nat) (v : Value), vs[i]? = some v → w.cell? (x.add i) = some v) ∧ vs.all plain = true

theorem row_add {C : CRel} {W : World} {h : Heap} {μ : Map} (R : Rel C μ h ⟨W.heap.size, fun _ => none⟩ W W) {a : Option Addr} {s len cap : Nat} {vs : List Value} (s1 : 1 ≤ s) (r : InRow W a s len cap vs) :
    ∃ (h' : Heap) (μ' : Map) (v : Value) (u : Option Nat), Rel C μ' h' ⟨W.heap.size, fun _ => none⟩ W W ∧ μ.le μ' ∧ VRel μ' v (.slice a len cap) ∧ RowAt h' v s len (vs.take (len * s)) u ∧ Same h h' (fun _ => False) ∧ (∀ y, u = some y → h.next ≤ y) := by
  rcases r with ⟨rfl, rfl, rfl, rfl⟩ | ⟨x, rfl, hl, hz, hcell, hp⟩
  · exact ⟨h, μ, .slice none 0 0, none, R, μ.le_refl, .same _ rfl, .inl ⟨rfl, by simp, .inl rfl⟩, Same.refl _ _, fun y hy => by cases hy⟩
  · by_cases hc : cap = 0
    · have hl0 : len = 0 := by omega
      subst hc; subst hl0
      exact ⟨h, μ, .slice (some ⟨0, 0, some 0⟩) 0 0, none, R, μ.le_refl, .vague 0 0 0 x 0, .inl ⟨rfl, by simp, .inr ⟨_, _, _, rfl⟩⟩, Same.refl _ _, fun y hy => by cases hy⟩
    · obtain ⟨b, off, spot⟩ := x
      have hpos : 0 < vs.length := by rw [hz]; exact Nat.mul_pos (by omega) (by omega)
      have hc0 := hcell 0 vs[0] (List.getElem?_eq_getElem hpos)
      have hspot : spot = none := by simpa [Addr.add] using World.cell?_spot hc0
      subst hspot
      have hadd : ∀ i, (⟨b, off, none⟩ : Addr).add i = ⟨b, off + i, none⟩ := fun i => by unfold Addr.add; split <;> simp_all
      have hb : b < W.heap.size := by
        obtain ⟨cc, el, fr, h1, _⟩ := cell_cells (by simpa [Addr.add] using hc0)
        exact (Array.getElem?_eq_some_iff.1 h1).1
      have hle : μ.le (μ.put h.next ⟨b, off, 0, s, cap * s⟩) := Map.le_put (R.next_none (Nat.le_refl _))
      refine ⟨h.new ⟨vs, cap * s, s, false, false⟩, μ.put h.next ⟨b, off, 0, s, cap * s⟩, .slice (some ⟨h.next, 0, none⟩) len cap, some h.next, ?_, hle, ?_, ?_, Same.new, fun y hy => by cases hy; exact Nat.le_refl _⟩
      · refine { below := R.below, size := R.size, zk := R.zk, fresh := fun j e he => ?_, blk := fun j k hj => ?_, apart := fun j j' k k' e e' hj hj' hne ho ho' n1 n2 he he' => ?_, aux := R.aux.keep hle (fun i o ho _ => ho) }
        · rw [new_next]
          by_cases h0 : j = h.next
          · omega
          · rw [Map.put_other h0] at he
            have := R.fresh j e he; omega
        · rw [new_get] at hj
          by_cases h0 : j = h.next
          · rw [if_pos h0, Option.some.injEq] at hj
            subst hj; subst h0
            refine ⟨_, Map.put_same _ _ _, ⟨rfl, rfl, by simp [hz], fun _ => rfl, fun h => (by cases h), fun _ => hb, fun i v hi => ?_⟩⟩
            obtain ⟨cc, el, fr, h1, h2⟩ := cell_cells (show W.cell? ⟨b, off + i, none⟩ = _ by rw [← hadd]; exact hcell i v hi)
            exact ⟨cc, el, fr, _, h1, h2, .same _ (List.all_eq_true.1 hp v (List.mem_of_getElem? hi))⟩
          · rw [if_neg h0] at hj
            obtain ⟨e, he, xx⟩ := R.blk j k hj
            exact ⟨e, hle _ _ he, xx.mono hle (fun _ _ => rfl)⟩
        · rw [new_get] at hj hj'
          by_cases h0 : j = h.next
          · rw [if_pos h0, Option.some.injEq] at hj
            subst hj; cases ho
          · by_cases h0' : j' = h.next
            · rw [if_pos h0', Option.some.injEq] at hj'
              subst hj'; cases ho'
            · rw [if_neg h0] at hj
              rw [if_neg h0'] at hj'
              rw [Map.put_other h0] at he
              rw [Map.put_other h0'] at he'
              exact R.apart j j' k k' e e' hj hj' hne ho ho' n1 n2 he he'
      · have := VRel.slice (μ := μ.put h.next ⟨b, off, 0, s, cap * s⟩) h.next 0 len cap ⟨b, off, 0, s, cap * s⟩ (Map.put_same _ _ _)
        simpa using this
      · refine .inr ⟨h.next, 0, cap, rfl, rfl, ⟨⟨_, by rw [new_get]; exact if_pos rfl, rfl, by simp, ?_⟩, hl, Nat.lt_succ_self _⟩⟩
        simp only [hz, Nat.zero_add]
        exact Nat.mul_le_mul_right _ hl

/-! ### new rows of so many -/

def mkSV (h : Heap) (s bytes : Nat) (zero : List Value) (L C : Value) : Option (Value × Heap) := match asNat L, asNat C with
  | some l, some c => bif Nat.ble l c && Nat.ble (bytes * c) 1099511627776 && Nat.ble c 1099511627776 then some (.slice (some ⟨h.next, 0, none⟩) l c, h.new { cells := rep zero c, n := c * s, s := s, own := true, grown := false }) else none
  | _, _ => none
theorem eop_mkS {ts : T Value} {h : Heap} {s bytes : Nat} {zero : List Value} {l c : Opd} : eop ts h (.mkS s bytes zero l c) = mkSV h s bytes zero (ev ts l) (ev ts c) := (rfl)
theorem mkS_ok {h : Heap} {s bytes n : Nat} {zero : List Value} (b1 : bytes * n ≤ 1099511627776) (b2 : n ≤ 1099511627776) : mkSV h s bytes zero (I n) (I n) = some (.slice (some ⟨h.next, 0, none⟩) n n, h.new ⟨rep zero n, n * s, s, true, false⟩) := by
  unfold mkSV
  rw [asNat_I]
  simp only [nat_ble (Nat.le_refl n), nat_ble b1, nat_ble b2, Bool.and_true, cond_true]

end
end Go.Proofs.YtpeihcpclcibgaaGreat.Ai
/- A region of open order in which nothing turns: every reading comes to the same wherever it runs. -/
namespace Go.Proofs.YtpeihcpclcibgaaGreat.Ai
noncomputable section
open Go.RowKit

section
variable {P : Program} {N : Nat} {ro : Option Nat} {cf : CallF} {ts ts' : T Value} {h : Heap}

/-- what is kept of what was read -/
def recOk (h : Heap) (r : Rec) : Prop := match r.o.op with
  | .r q => wantedA r.ts r.o.guard = true → rop r.ts h q = some r.v ∧ veq r.v r.v = true
  | _ => True

/-- one behind the other, the heap as it is -/
def dqf (cf : CallF) : List AOper → T Value → Heap → (T Value → Prop) → Prop
  | [], ts, _, Q => Q ts
  | o :: r, ts, h, Q => match wantedA ts o.guard with
    | true => (match o.op with
      | .r q => (match rop ts h q with
        | some v => veq v v = true ∧ dqf cf r (putA ts o.dst v) h Q
        | none => False)
      | q => (match step1 cf ts h q with
        | some (v, k) => k = h ∧ dqf cf r (putA ts o.dst v) h Q
        | none => False))
    | false => dqf cf r (putA ts o.dst undef) h Q

theorem dqf_trace {Q : T Value → Prop} : ∀ {l : List AOper} {ts : T Value}, dqf cf l ts h Q → ∃ recs hs ts', runTrace cf l ts h = some (recs, hs, ts', h) ∧ (∀ k ∈ hs, k = h) ∧ (∀ r ∈ recs, recOk h r) ∧ Q ts'
  | [], ts, q => ⟨[], [], ts, runTrace_nil _ _ _, by simp, by simp, q⟩
  | o :: r, ts, q => by
    unfold dqf at q
    have fin : ∀ v, (wantedA ts o.guard = true ∧ step1 cf ts h o.op = some (v, h) ∨ wantedA ts o.guard = false ∧ v = undef) → recOk h ⟨o, ts, v⟩ → dqf cf r (putA ts o.dst v) h Q → ∃ recs hs ts', runTrace cf (o :: r) ts h = some (recs, hs, ts', h) ∧ (∀ k ∈ hs, k = h) ∧ (∀ r ∈ recs, recOk h r) ∧ Q ts' := by
      intro v hv hr hq
      obtain ⟨recs, hs, ts', e, e1, e2, e3⟩ := dqf_trace hq
      refine ⟨⟨o, ts, v⟩ :: recs, (bif isE o.op then h :: hs else hs), ts', ?_, ?_, ?_, e3⟩
      · rw [runTrace_cons]
        rcases hv with ⟨h1, h2⟩ | ⟨h1, rfl⟩
        · simp only [h1, h2, e]
        · simp only [h1, e]
      · intro k hk
        cases hE : isE o.op <;> rw [hE] at hk <;> simp at hk
        · exact e1 k hk
        · rcases hk with hk | hk
          · exact hk
          · exact e1 k hk
      · intro x hx
        rcases List.mem_cons.1 hx with rfl | hx
        · exact hr
        · exact e2 x hx
    split at q
    · rename_i hw
      split at q
      · rename_i q' ho
        split at q
        · rename_i v hv
          refine fin v (.inl ⟨hw, by simp only [ho, step1, step1Q, hv]⟩) ?_ q.2
          unfold recOk
          simp only [ho]
          exact fun _ => ⟨hv, q.1⟩
        · exact q.elim
      · rename_i hno
        split at q
        · rename_i v k hv
          obtain ⟨rfl, q⟩ := q
          refine fin v (.inl ⟨hw, hv⟩) ?_ q
          unfold recOk
          split
          · rename_i q' ho; exact (hno q' ho).elim
          · trivial
        · exact q.elim
    · rename_i hw
      refine fin undef (.inr ⟨hw, rfl⟩) ?_ q
      unfold recOk
      split
      · intro hx; rw [hw] at hx; cases hx
      · trivial

theorem chkR_quiet {ts : T Value} {q : ROp} {v : Value} (hr : rop ts h q = some v) (hv : veq v v = true) : ∀ (hs : List Heap), (∀ k ∈ hs, k = h) → chkR ts q v hs = true := by
  intro hs
  induction hs with
  | nil => intro _; rfl
  | cons k hs ih =>
    intro hk
    have e := hk k (by simp)
    unfold chkR
    rw [e, hr]
    simp only [hv, ih (fun j hj => hk j (List.mem_cons_of_mem _ hj)), Bool.and_true]

theorem chk_quiet {hs : List Heap} (hk : ∀ k ∈ hs, k = h) : ∀ {recs : List Rec} {ws : List (Nat × Nat)}, (∀ r ∈ recs, recOk h r) → chkAll hs recs ws = true
  | [], ws, _ => chkAll_nil hs ws
  | r :: rs, [], _ => chkAll_nil' hs (r :: rs)
  | r :: rs, (lo, hi) :: ws, hr => by
    rw [chkAll_cons, chk_quiet hk (fun x hx => hr x (List.mem_cons_of_mem _ hx)), Bool.and_true]
    have h0 := hr r (by simp)
    unfold recOk at h0
    unfold chk1
    split
    · rename_i q ho
      simp only [ho] at h0
      cases Nat.beq lo hi with
      | true => rfl
      | false =>
        simp only [cond_false]
        split
        · rename_i hw
          obtain ⟨h1, h2⟩ := h0 hw
          exact chkR_quiet h1 h2 _ (fun k hk' => hk k (List.mem_of_mem_drop (List.mem_of_mem_take hk')))
        · rfl
    · rfl

theorem run_quiet {Q : T Value → Prop} : ∀ {l : List AOper} {ts : T Value}, dqf cf l ts h Q → ∃ ts', runOps cf l ts h = some (ts', h) ∧ Q ts'
  | [], ts, q => ⟨ts, runOps_nil _ _ _, q⟩
  | o :: r, ts, q => by
    unfold dqf at q
    split at q
    · rename_i hw
      split at q
      · rename_i q' ho
        split at q
        · rename_i v hv
          obtain ⟨ts', e, hq⟩ := run_quiet q.2
          exact ⟨ts', by rw [runOps_cons, hw]; simp only [ho, step1, step1Q, hv]; exact e, hq⟩
        · exact q.elim
      · split at q
        · rename_i v k hv
          obtain ⟨hk, q⟩ := q
          rw [hk] at hv
          obtain ⟨ts', e, hq⟩ := run_quiet q
          exact ⟨ts', by rw [runOps_cons, hw]; simp only [hv]; exact e, hq⟩
        · exact q.elim
    · rename_i hw
      obtain ⟨ts', e, hq⟩ := run_quiet q
      exact ⟨ts', by rw [runOps_cons, hw]; exact e, hq⟩

theorem cw_quiet {Q : AExit → T Value → Heap → Prop} (cf : CallF) (hcf : CfOk P cf) {l : List AOper} {win : List (Nat × Nat)} (x : dqf cf l ts h fun t => Q .normal t h) : CW P N ro (.draw l win) ts h Q := by
  cases win with
  | nil =>
    obtain ⟨ts', e, hq⟩ := run_quiet x
    exact ⟨_, _, _, cf_draw hcf (by unfold runDraw; exact e), hq⟩
  | cons w ws =>
    obtain ⟨recs, hs, ts', e, e1, e2, e3⟩ := dqf_trace x
    refine ⟨_, _, _, cf_draw hcf ?_, e3⟩
    unfold runDraw
    simp only [e]
    rw [chk_quiet (fun k hk => by rcases List.mem_cons.1 hk with hk | hk; exact hk; exact e1 k hk) e2]
    rfl

theorem cwf_quiet {Q : AExit → T Value → Heap → Prop} (cf : CallF) (hcf : CfOk P cf) {l : List AOper} {w : Nat × Nat} {ws : List (Nat × Nat)} (x : dqf cf l ts h fun t => Q .normal t h) : cwf P N ro (.draw l (w :: ws)) ts h Q := cw_quiet cf hcf x

theorem veq_int (k : IntKind) (n : Int) : veq (.int k n) (.int k n) = true := by simp [veq, veq1]
theorem veq_slice (a : Option Addr) (n c : Nat) : veq (.slice a n c) (.slice a n c) = true := by simp [veq, veq1]

variable {r : List AOper} {dst : Option Nat} {q : AOp} {S : T Value → Prop}
def bq (cf : CallF) (r : List AOper) (ts : T Value) (dst : Option Nat) (h : Heap) (S : T Value → Prop) (v : Value) : Prop := dqf cf r (putA ts dst v) h S
def bqv (cf : CallF) (r : List AOper) (ts : T Value) (dst : Option Nat) (h : Heap) (S : T Value → Prop) (v : Value) : Prop := veq v v = true ∧ dqf cf r (putA ts dst v) h S
def bq2 (cf : CallF) (r : List AOper) (ts : T Value) (dst : Option Nat) (h : Heap) (S : T Value → Prop) (v : Value) (k : Heap) : Prop := k = h ∧ dqf cf r (putA ts dst v) h S
theorem bq_eq (v : Value) : bq cf r ts dst h S v = dqf cf r (putA ts dst v) h S := (rfl)
theorem bqv_eq (v : Value) : bqv cf r ts dst h S v = (veq v v = true ∧ dqf cf r (putA ts dst v) h S) := (rfl)
theorem bq2_eq (v : Value) (k : Heap) : bq2 cf r ts dst h S v k = (k = h ∧ dqf cf r (putA ts dst v) h S) := (rfl)
theorem q_nil : dqf cf [] ts h S = S ts := (rfl)
theorem q_p {q : POp} : dqf cf (⟨dst, .p q, none⟩ :: r) ts h S = optQ (pop ts q) (bq cf r ts dst h S) := by
  show (match (match pop ts q with | some v => some (v, h) | none => none) with | some (v, k) => k = h ∧ dqf cf r (putA ts dst v) h S | none => False) = _
  cases pop ts q with
  | none => rfl
  | some v => simp [optQ, bq]
theorem q_r {q : ROp} : dqf cf (⟨dst, .r q, none⟩ :: r) ts h S = optQ (rop ts h q) (bqv cf r ts dst h S) := by
  show (match rop ts h q with | some v => veq v v = true ∧ dqf cf r (putA ts dst v) h S | none => False) = _
  cases rop ts h q <;> rfl
theorem q_call {f : Nat} {l : List Opd} : dqf cf (⟨dst, .call f l, none⟩ :: r) ts h S = opt2 (cf (.fn f) (evs ts l) h) (bq2 cf r ts dst h S) := (rfl)
theorem q_on {t : Nat} {b : Bool} (hb : isB (look ts t) b = true) : dqf cf (⟨dst, q, some (t, b)⟩ :: r) ts h S = dqf cf (⟨dst, q, none⟩ :: r) ts h S := by
  show (match isB (look ts t) b with | true => _ | false => _) = _
  rw [hb]; rfl
theorem q_off {t : Nat} {b : Bool} (hb : isB (look ts t) b = false) : dqf cf (⟨dst, q, some (t, b)⟩ :: r) ts h S = dqf cf r (putA ts dst undef) h S := by
  show (match isB (look ts t) b with | true => _ | false => _) = _
  rw [hb]
end
end
end Go.Proofs.YtpeihcpclcibgaaGreat.Ai
/- A region of open order in which what is read stays as it is, whatever else turns. -/
namespace Go.Proofs.YtpeihcpclcibgaaGreat.Ai
noncomputable section
open Go.RowKit

section
variable {P : Program} {N : Nat} {ro : Option Nat} {cf : CallF} {ts ts' : T Value} {h : Heap} {J : Heap → Prop}

def recJ (J : Heap → Prop) (r : Rec) : Prop := match r.o.op with
  | .r q => wantedA r.ts r.o.guard = true → (∀ k, J k → rop r.ts k q = some r.v) ∧ veq r.v r.v = true
  | _ => True

/-- one behind the other; J holds all the while, and each reading is the same wherever J holds -/
def djf (J : Heap → Prop) (cf : CallF) : List AOper → T Value → Heap → (T Value → Heap → Prop) → Prop
  | [], ts, h, Q => Q ts h
  | o :: r, ts, h, Q => match wantedA ts o.guard with
    | true => (match o.op with
      | .r q => ∃ v, (∀ k, J k → rop ts k q = some v) ∧ veq v v = true ∧ djf J cf r (putA ts o.dst v) h Q
      | q => (match step1 cf ts h q with
        | some (v, k) => J k ∧ djf J cf r (putA ts o.dst v) k Q
        | none => False))
    | false => djf J cf r (putA ts o.dst undef) h Q

theorem djf_trace {Q : T Value → Heap → Prop} : ∀ {l : List AOper} {ts : T Value} {h : Heap}, J h → djf J cf l ts h Q → ∃ recs hs ts' h', runTrace cf l ts h = some (recs, hs, ts', h') ∧ (∀ k ∈ hs, J k) ∧ (∀ r ∈ recs, recJ J r) ∧ Q ts' h'
  | [], ts, h, _, q => ⟨[], [], ts, h, runTrace_nil _ _ _, by simp, by simp, q⟩
  | o :: r, ts, h, hJ, q => by
    unfold djf at q
    have fin : ∀ v k, J k → (wantedA ts o.guard = true ∧ step1 cf ts h o.op = some (v, k) ∨ wantedA ts o.guard = false ∧ v = undef ∧ k = h) → recJ J ⟨o, ts, v⟩ → djf J cf r (putA ts o.dst v) k Q → ∃ recs hs ts' h', runTrace cf (o :: r) ts h = some (recs, hs, ts', h') ∧ (∀ k ∈ hs, J k) ∧ (∀ r ∈ recs, recJ J r) ∧ Q ts' h' := by
      intro v k hk hv hr hq
      obtain ⟨recs, hs, ts', h', e, e1, e2, e3⟩ := djf_trace hk hq
      refine ⟨⟨o, ts, v⟩ :: recs, (bif isE o.op then k :: hs else hs), ts', h', ?_, ?_, ?_, e3⟩
      · rw [runTrace_cons]
        rcases hv with ⟨h1, h2⟩ | ⟨h1, rfl, rfl⟩
        · simp only [h1, h2, e]
        · simp only [h1, e]
      · intro x hx
        cases hE : isE o.op <;> rw [hE] at hx <;> simp at hx
        · exact e1 x hx
        · rcases hx with hx | hx
          · rw [hx]; exact hk
          · exact e1 x hx
      · intro x hx
        rcases List.mem_cons.1 hx with rfl | hx
        · exact hr
        · exact e2 x hx
    split at q
    · rename_i hw
      split at q
      · rename_i q' ho
        obtain ⟨v, h1, h2, q⟩ := q
        refine fin v h hJ (.inl ⟨hw, by simp only [ho, step1, step1Q, h1 h hJ]⟩) ?_ q
        unfold recJ
        simp only [ho]
        exact fun _ => ⟨h1, h2⟩
      · rename_i hno
        split at q
        · rename_i v k hv
          refine fin v k q.1 (.inl ⟨hw, hv⟩) ?_ q.2
          unfold recJ
          split
          · rename_i q' ho; exact (hno q' ho).elim
          · trivial
        · exact q.elim
    · rename_i hw
      refine fin undef h hJ (.inr ⟨hw, rfl, rfl⟩) ?_ q
      unfold recJ
      split
      · intro hx; rw [hw] at hx; cases hx
      · trivial

theorem chkR_calm {ts : T Value} {q : ROp} {v : Value} (hr : ∀ k, J k → rop ts k q = some v) (hv : veq v v = true) : ∀ (hs : List Heap), (∀ k ∈ hs, J k) → chkR ts q v hs = true := by
  intro hs
  induction hs with
  | nil => intro _; rfl
  | cons k hs ih =>
    intro hk
    unfold chkR
    rw [hr k (hk k (by simp))]
    simp only [hv, ih (fun j hj => hk j (List.mem_cons_of_mem _ hj)), Bool.and_true]

theorem chk_calm {hs : List Heap} (hk : ∀ k ∈ hs, J k) : ∀ {recs : List Rec} {ws : List (Nat × Nat)}, (∀ r ∈ recs, recJ J r) → chkAll hs recs ws = true
  | [], ws, _ => chkAll_nil hs ws
  | r :: rs, [], _ => chkAll_nil' hs (r :: rs)
  | r :: rs, (lo, hi) :: ws, hr => by
    rw [chkAll_cons, chk_calm hk (fun x hx => hr x (List.mem_cons_of_mem _ hx)), Bool.and_true]
    have h0 := hr r (by simp)
    unfold recJ at h0
    unfold chk1
    split
    · rename_i q ho
      simp only [ho] at h0
      cases Nat.beq lo hi with
      | true => rfl
      | false =>
        simp only [cond_false]
        split
        · rename_i hw
          obtain ⟨h1, h2⟩ := h0 hw
          exact chkR_calm h1 h2 _ (fun k hk' => hk k (List.mem_of_mem_drop (List.mem_of_mem_take hk')))
        · rfl
    · rfl

theorem cwf_calm {Q : AExit → T Value → Heap → Prop} (J : Heap → Prop) (cf : CallF) (hcf : CfOk P cf) {l : List AOper} {w : Nat × Nat} {ws : List (Nat × Nat)} (hJ : J h) (x : djf J cf l ts h (Q .normal)) : cwf P N ro (.draw l (w :: ws)) ts h Q := by
  obtain ⟨recs, hs, ts', h', e, e1, e2, e3⟩ := djf_trace hJ x
  refine ⟨_, _, _, cf_draw hcf ?_, e3⟩
  unfold runDraw
  simp only [e]
  rw [chk_calm (fun k hk => by rcases List.mem_cons.1 hk with hk | hk; rw [hk]; exact hJ; exact e1 k hk) e2]
  rfl

variable {r : List AOper} {dst : Option Nat} {q : AOp} {S : T Value → Heap → Prop}
def bj (J : Heap → Prop) (cf : CallF) (r : List AOper) (ts : T Value) (dst : Option Nat) (h : Heap) (S : T Value → Heap → Prop) (v : Value) : Prop := djf J cf r (putA ts dst v) h S
def bj2 (J : Heap → Prop) (cf : CallF) (r : List AOper) (ts : T Value) (dst : Option Nat) (S : T Value → Heap → Prop) (v : Value) (k : Heap) : Prop := J k ∧ djf J cf r (putA ts dst v) k S
theorem bj_eq (v : Value) : bj J cf r ts dst h S v = djf J cf r (putA ts dst v) h S := (rfl)
theorem j_nil : djf J cf [] ts h S = S ts h := (rfl)
theorem j_p {q : POp} (hJ : J h) : djf J cf (⟨dst, .p q, none⟩ :: r) ts h S = optQ (pop ts q) (bj J cf r ts dst h S) := by
  show (match (match pop ts q with | some v => some (v, h) | none => none) with | some (v, k) => J k ∧ djf J cf r (putA ts dst v) k S | none => False) = _
  cases pop ts q with
  | none => rfl
  | some v => simp [optQ, bj, hJ]
theorem j_load {x : Opd} : djf J cf (⟨dst, .r (.load1 x), none⟩ :: r) ts h S = ∃ v, (∀ k, J k → ldV k (ev ts x) = some v) ∧ veq v v = true ∧ bj J cf r ts dst h S v := (rfl)
theorem j_call {f : Nat} {l : List Opd} : djf J cf (⟨dst, .call f l, none⟩ :: r) ts h S = opt2 (cf (.fn f) (evs ts l) h) (bj2 J cf r ts dst S) := (rfl)
theorem bj2_eq (v : Value) (k : Heap) : bj2 J cf r ts dst S v k = (J k ∧ djf J cf r (putA ts dst v) k S) := (rfl)
theorem j_on {t : Nat} {b : Bool} (hb : isB (look ts t) b = true) : djf J cf (⟨dst, q, some (t, b)⟩ :: r) ts h S = djf J cf (⟨dst, q, none⟩ :: r) ts h S := by
  show (match isB (look ts t) b with | true => _ | false => _) = _
  rw [hb]; rfl
theorem j_off {t : Nat} {b : Bool} (hb : isB (look ts t) b = false) : djf J cf (⟨dst, q, some (t, b)⟩ :: r) ts h S = djf J cf r (putA ts dst undef) h S := by
  show (match isB (look ts t) b with | true => _ | false => _) = _
  rw [hb]
end
end
end Go.Proofs.YtpeihcpclcibgaaGreat.Ai
/- A region of open order: what is kept from turning to turning; each reading is the same in all heaps of its window. -/
namespace Go.Proofs.YtpeihcpclcibgaaGreat.Ai
noncomputable section
open Go.RowKit

section
variable {P : Program} {N : Nat} {ro : Option Nat} {cf : CallF} {ts ts' : T Value} {h : Heap} {J : Nat → Heap → Prop}

/-- of one reading and its window -/
def recW (J : Nat → Heap → Prop) (r : Rec) (w : Nat × Nat) : Prop := match r.o.op with
  | .r q => wantedA r.ts r.o.guard = true → (∀ j k, w.1 ≤ j → j ≤ w.2 → J j k → rop r.ts k q = some r.v) ∧ veq r.v r.v = true
  | _ => True

def recsW (J : Nat → Heap → Prop) : List Rec → List (Nat × Nat) → Prop
  | r :: rs, w :: ws => recW J r w ∧ recsW J rs ws
  | _, _ => True

/-- one behind the other; the i-th turning leads to a heap of which J i holds -/
def dwin (J : Nat → Heap → Prop) (cf : CallF) : List AOper → List (Nat × Nat) → Nat → T Value → Heap → (T Value → Heap → Prop) → Prop
  | [], _, _, ts, h, Q => Q ts h
  | o :: r, ws, i, ts, h, Q => match wantedA ts o.guard with
    | true => (match o.op with
      | .p q => (match pop ts q with
        | some v => dwin J cf r ws.tail i (putA ts o.dst v) h Q
        | none => False)
      | .r q => ∃ v, rop ts h q = some v ∧ (∀ j k, (ws.headD (0, 0)).1 ≤ j → j ≤ (ws.headD (0, 0)).2 → J j k → rop ts k q = some v) ∧ veq v v = true ∧ dwin J cf r ws.tail i (putA ts o.dst v) h Q
      | q => (match step1 cf ts h q with
        | some (v, k) => J (i + 1) k ∧ dwin J cf r ws.tail (i + 1) (putA ts o.dst v) k Q
        | none => False))
    | false => bif isE o.op then J (i + 1) h ∧ dwin J cf r ws.tail (i + 1) (putA ts o.dst undef) h Q else dwin J cf r ws.tail i (putA ts o.dst undef) h Q

/-- from the i-th on -/
def HsOk (J : Nat → Heap → Prop) (i : Nat) (hs : List Heap) : Prop := ∀ j k, hs[j]? = some k → J (i + j) k

theorem HsOk.cons {i : Nat} {k : Heap} {hs : List Heap} (a : J i k) (b : HsOk J (i + 1) hs) : HsOk J i (k :: hs) := by
  intro j m hj
  cases j with
  | zero => simp at hj; subst hj; exact a
  | succ j => simp at hj; have := b j m hj; rwa [show i + 1 + j = i + (j + 1) by omega] at this

theorem dwin_trace {Q : T Value → Heap → Prop} : ∀ {l : List AOper} {ws : List (Nat × Nat)} {i : Nat} {ts : T Value} {h : Heap}, dwin J cf l ws i ts h Q → ∃ recs hs ts' h', runTrace cf l ts h = some (recs, hs, ts', h') ∧ HsOk J (i + 1) hs ∧ recsW J recs ws ∧ Q ts' h'
  | [], ws, i, ts, h, q => ⟨[], [], ts, h, runTrace_nil _ _ _, fun j k hj => by simp at hj, by unfold recsW; trivial, q⟩
  | o :: r, ws, i, ts, h, q => by
    unfold dwin at q
    have stay : isE o.op = false → ∀ v, (wantedA ts o.guard = true ∧ step1 cf ts h o.op = some (v, h) ∨ wantedA ts o.guard = false ∧ v = undef) → (∀ w, ws.head? = some w → recW J ⟨o, ts, v⟩ w) → dwin J cf r ws.tail i (putA ts o.dst v) h Q → ∃ recs hs ts' h', runTrace cf (o :: r) ts h = some (recs, hs, ts', h') ∧ HsOk J (i + 1) hs ∧ recsW J recs ws ∧ Q ts' h' := by
      intro hE v hv hr hq
      obtain ⟨recs, hs, ts', h', e, e1, e2, e3⟩ := dwin_trace hq
      refine ⟨⟨o, ts, v⟩ :: recs, hs, ts', h', ?_, e1, ?_, e3⟩
      · rw [runTrace_cons]
        rcases hv with ⟨h1, h2⟩ | ⟨h1, rfl⟩
        · simp only [h1, h2, e, hE, cond_false]
        · simp only [h1, e, hE, cond_false]
      · cases ws with
        | nil => unfold recsW; trivial
        | cons w ws => exact ⟨hr w rfl, e2⟩
    have turn : isE o.op = true → ∀ v k, (wantedA ts o.guard = true ∧ step1 cf ts h o.op = some (v, k) ∨ wantedA ts o.guard = false ∧ v = undef ∧ k = h) → J (i + 1) k → dwin J cf r ws.tail (i + 1) (putA ts o.dst v) k Q → ∃ recs hs ts' h', runTrace cf (o :: r) ts h = some (recs, hs, ts', h') ∧ HsOk J (i + 1) hs ∧ recsW J recs ws ∧ Q ts' h' := by
      intro hE v k hv hJ hq
      obtain ⟨recs, hs, ts', h', e, e1, e2, e3⟩ := dwin_trace hq
      refine ⟨⟨o, ts, v⟩ :: recs, k :: hs, ts', h', ?_, HsOk.cons hJ e1, ?_, e3⟩
      · rw [runTrace_cons]
        rcases hv with ⟨h1, h2⟩ | ⟨h1, rfl, rfl⟩
        · simp only [h1, h2, e, hE, cond_true]
        · simp only [h1, e, hE, cond_true]
      · cases ws with
        | nil => unfold recsW; trivial
        | cons w ws =>
          refine ⟨?_, e2⟩
          unfold recW
          split
          · rename_i q' ho
            have ho' : o.op = .r q' := ho
            rw [ho'] at hE; cases hE
          · trivial
    split at q
    · rename_i hw
      split at q
      · rename_i q' ho
        split at q
        · rename_i v hv
          refine stay (by rw [ho]; rfl) v (.inl ⟨hw, by simp only [ho, step1, step1Q, hv]⟩) (fun w _ => ?_) q
          unfold recW
          split
          · rename_i q2 ho2
            have ho2' : o.op = .r q2 := ho2
            rw [ho] at ho2'; cases ho2'
          · trivial
        · exact q.elim
      · rename_i q' ho
        obtain ⟨v, h0, h1, h2, q⟩ := q
        refine stay (by rw [ho]; rfl) v (.inl ⟨hw, by simp only [ho, step1, step1Q, h0]⟩) (fun w hw' => ?_) q
        unfold recW
        simp only [ho]
        refine fun _ => ⟨?_, h2⟩
        cases ws with
        | nil => simp at hw'
        | cons w0 ws => simp at hw'; subst hw'; exact h1
      · rename_i hnp hnr
        split at q
        · rename_i v k hv
          have hE : isE o.op = true := by
            cases ho : o.op with
            | p q2 => exact (hnp q2 ho).elim
            | r q2 => exact (hnr q2 ho).elim
            | bad => rw [ho] at hv; simp [step1, step1Q] at hv
            | _ => rfl
          exact turn hE v k (.inl ⟨hw, hv⟩) q.1 q.2
        · exact q.elim
    · rename_i hw
      cases hE : isE o.op with
      | true => rw [hE] at q; exact turn hE undef h (.inr ⟨hw, rfl, rfl⟩) q.1 q.2
      | false =>
        rw [hE] at q
        refine stay hE undef (.inr ⟨hw, rfl⟩) (fun w _ => ?_) q
        unfold recW
        split
        · intro hx; rw [hw] at hx; cases hx
        · trivial

theorem chkR_win {ts : T Value} {q : ROp} {v : Value} (hv : veq v v = true) : ∀ (hs : List Heap), (∀ k ∈ hs, rop ts k q = some v) → chkR ts q v hs = true := by
  intro hs
  induction hs with
  | nil => intro _; rfl
  | cons k hs ih =>
    intro hk
    unfold chkR
    rw [hk k (by simp)]
    simp only [hv, ih (fun j hj => hk j (List.mem_cons_of_mem _ hj)), Bool.and_true]

theorem chk_win {hs : List Heap} (hk : HsOk J 0 hs) : ∀ {recs : List Rec} {ws : List (Nat × Nat)}, recsW J recs ws → chkAll hs recs ws = true
  | [], ws, _ => chkAll_nil hs ws
  | r :: rs, [], _ => chkAll_nil' hs (r :: rs)
  | r :: rs, (lo, hi) :: ws, hr => by
    have hr' : recW J r (lo, hi) ∧ recsW J rs ws := hr
    rw [chkAll_cons, chk_win hk hr'.2, Bool.and_true]
    have h0 := hr'.1
    unfold recW at h0
    unfold chk1
    split
    · rename_i q ho
      simp only [ho] at h0
      cases Nat.beq lo hi with
      | true => rfl
      | false =>
        simp only [cond_false]
        split
        · rename_i hw
          obtain ⟨h1, h2⟩ := h0 hw
          refine chkR_win h2 _ (fun k hk' => ?_)
          obtain ⟨j, hj⟩ := List.getElem?_of_mem hk'
          rw [List.getElem?_take] at hj
          split at hj
          · rename_i hlt
            rw [List.getElem?_drop] at hj
            have := hk _ _ hj
            rw [Nat.zero_add] at this
            exact h1 _ _ (by omega) (by omega) this
          · cases hj
        · rfl
    · rfl

theorem cwf_win {Q : AExit → T Value → Heap → Prop} (J : Nat → Heap → Prop) (cf : CallF) (hcf : CfOk P cf) {l : List AOper} {w : Nat × Nat} {ws : List (Nat × Nat)} (hJ : J 0 h) (x : dwin J cf l (w :: ws) 0 ts h (Q .normal)) : cwf P N ro (.draw l (w :: ws)) ts h Q := by
  obtain ⟨recs, hs, ts', h', e, e1, e2, e3⟩ := dwin_trace x
  refine ⟨_, _, _, cf_draw hcf ?_, e3⟩
  unfold runDraw
  simp only [e]
  rw [chk_win (HsOk.cons hJ e1) e2]
  rfl

variable {r : List AOper} {ws : List (Nat × Nat)} {i lo hi : Nat} {dst : Option Nat} {q : AOp} {S : T Value → Heap → Prop}
def bw (J : Nat → Heap → Prop) (cf : CallF) (r : List AOper) (ws : List (Nat × Nat)) (i : Nat) (ts : T Value) (dst : Option Nat) (h : Heap) (S : T Value → Heap → Prop) (v : Value) : Prop := dwin J cf r ws i (putA ts dst v) h S
def bwr (J : Nat → Heap → Prop) (cf : CallF) (r : List AOper) (ws : List (Nat × Nat)) (i lo hi : Nat) (ts : T Value) (dst : Option Nat) (h : Heap) (q : ROp) (S : T Value → Heap → Prop) (v : Value) : Prop := (∀ j k, lo ≤ j → j ≤ hi → J j k → rop ts k q = some v) ∧ veq v v = true ∧ dwin J cf r ws i (putA ts dst v) h S
def bw2 (J : Nat → Heap → Prop) (cf : CallF) (r : List AOper) (ws : List (Nat × Nat)) (i : Nat) (ts : T Value) (dst : Option Nat) (S : T Value → Heap → Prop) (v : Value) (k : Heap) : Prop := J i k ∧ dwin J cf r ws i (putA ts dst v) k S
theorem bw_eq (v : Value) : bw J cf r ws i ts dst h S v = dwin J cf r ws i (putA ts dst v) h S := (rfl)
theorem bwr_eq {q : ROp} (v : Value) : bwr J cf r ws i lo hi ts dst h q S v = ((∀ j k, lo ≤ j → j ≤ hi → J j k → rop ts k q = some v) ∧ veq v v = true ∧ dwin J cf r ws i (putA ts dst v) h S) := (rfl)
theorem bw2_eq (v : Value) (k : Heap) : bw2 J cf r ws i ts dst S v k = (J i k ∧ dwin J cf r ws i (putA ts dst v) k S) := (rfl)
theorem w_nil : dwin J cf [] ws i ts h S = S ts h := (rfl)
theorem w_p {q : POp} : dwin J cf (⟨dst, .p q, none⟩ :: r) ((lo, hi) :: ws) i ts h S = optQ (pop ts q) (bw J cf r ws i ts dst h S) := by
  show (match pop ts q with | some v => dwin J cf r ws i (putA ts dst v) h S | none => False) = _
  cases pop ts q <;> rfl
theorem w_r {q : ROp} : dwin J cf (⟨dst, .r q, none⟩ :: r) ((lo, hi) :: ws) i ts h S = optQ (rop ts h q) (bwr J cf r ws i lo hi ts dst h q S) := by
  show (∃ v, rop ts h q = some v ∧ (∀ j k, lo ≤ j → j ≤ hi → J j k → rop ts k q = some v) ∧ veq v v = true ∧ dwin J cf r ws i (putA ts dst v) h S) = _
  cases hr : rop ts h q with
  | none => simp [optQ]
  | some v => simp [optQ, bwr]
theorem w_e {q : EOp} : dwin J cf (⟨dst, .e q, none⟩ :: r) ((lo, hi) :: ws) i ts h S = opt2 (eop ts h q) (bw2 J cf r ws (i + 1) ts dst S) := (rfl)
theorem w_call {f : Nat} {l : List Opd} : dwin J cf (⟨dst, .call f l, none⟩ :: r) ((lo, hi) :: ws) i ts h S = opt2 (cf (.fn f) (evs ts l) h) (bw2 J cf r ws (i + 1) ts dst S) := (rfl)
theorem w_on {t : Nat} {b : Bool} (hb : isB (look ts t) b = true) : dwin J cf (⟨dst, q, some (t, b)⟩ :: r) ws i ts h S = dwin J cf (⟨dst, q, none⟩ :: r) ws i ts h S := by
  show (match isB (look ts t) b with | true => _ | false => _) = _
  rw [hb]; rfl
theorem w_offp {t : Nat} {b : Bool} {q : POp} (hb : isB (look ts t) b = false) : dwin J cf (⟨dst, .p q, some (t, b)⟩ :: r) ((lo, hi) :: ws) i ts h S = dwin J cf r ws i (putA ts dst undef) h S := by
  show (match isB (look ts t) b with | true => _ | false => _) = _
  rw [hb]; rfl
theorem w_offr {t : Nat} {b : Bool} {q : ROp} (hb : isB (look ts t) b = false) : dwin J cf (⟨dst, .r q, some (t, b)⟩ :: r) ((lo, hi) :: ws) i ts h S = dwin J cf r ws i (putA ts dst undef) h S := by
  show (match isB (look ts t) b with | true => _ | false => _) = _
  rw [hb]; rfl
theorem w_offc {t : Nat} {b : Bool} {f : Nat} {l : List Opd} (hb : isB (look ts t) b = false) : dwin J cf (⟨dst, .call f l, some (t, b)⟩ :: r) ((lo, hi) :: ws) i ts h S = (J (i + 1) h ∧ dwin J cf r ws (i + 1) (putA ts dst undef) h S) := by
  show (match isB (look ts t) b with | true => _ | false => _) = _
  rw [hb]; rfl
end
end
end Go.Proofs.YtpeihcpclcibgaaGreat.Ai
/- Rounds of a loop over a function, step by step. -/
namespace Go.Proofs.YtpeihcpclcibgaaGreat.Ai
noncomputable section
open Go.RowKit

/-- the same but for the marks -/
structure SameB (h h' : Heap) (S : Nat → Prop) : Prop where
  next : h.next ≤ h'.next
  loops : ∀ j, j < h.next → ¬ S j → h'.loops.get j = h.loops.get j
  get : ∀ j, j < h.next → ¬ S j → h'.blks.get j = h.blks.get j

theorem Same.toB {h h' : Heap} {S : Nat → Prop} (a : Same h h' S) : SameB h h' S := ⟨a.next, a.loops, a.get⟩
theorem SameB.trans {h k m : Heap} {S T : Nat → Prop} (a : SameB h k S) (b : SameB k m T) (hT : ∀ j, j < h.next → T j → S j) : SameB h m S :=
  ⟨Nat.le_trans a.next b.next, fun j hj hs => by rw [b.loops j (Nat.lt_of_lt_of_le hj a.next) (fun ht => hs (hT j hj ht)), a.loops j hj hs], fun j hj hs => by
    rw [b.get j (Nat.lt_of_lt_of_le hj a.next) (fun ht => hs (hT j hj ht)), a.get j hj hs]⟩
theorem SameB.close {h k : Heap} {S : Nat → Prop} (a : SameB h k S) : Same h { k with marks := h.marks } S := ⟨a.next, a.loops, rfl, a.get⟩
theorem SameB.of {h k : Heap} {S : Nat → Prop} (a : SameB h k S) (m : k.marks = h.marks) : Same h k S := ⟨a.next, a.loops, m, a.get⟩

theorem SameB.less {h k : Heap} {F : Nat → Prop} {b : Nat} (a : SameB h k (fun j => F j ∨ j = b)) (hl : k.loops.get b = h.loops.get b) (hb : k.blks.get b = h.blks.get b) : SameB h k F :=
  ⟨a.next, fun j hj hs => by
    by_cases e : j = b
    · rw [e]; exact hl
    · exact a.loops j hj (fun x => x.elim hs e), fun j hj hs => by
    by_cases e : j = b
    · rw [e]; exact hb
    · exact a.get j hj (fun x => x.elim hs e)⟩
theorem SameB.mono {h k : Heap} {S T : Nat → Prop} (a : SameB h k S) (hT : ∀ j, S j → T j) : SameB h k T := ⟨a.next, fun j hj ht => a.loops j hj (fun hs => ht (hT j hs)), fun j hj ht => a.get j hj (fun hs => ht (hT j hs))⟩
theorem MemAt.sameB {h h' : Heap} {b : Nat} {u : Option Nat} {C : List Int} {z c o r : Int} {S : Nat → Prop} (m : MemAt h b u C z c o r) (s : SameB h h' S) (hb : ¬ S b) (hu : ∀ x, u = some x → ¬ S x) : MemAt h' b u C z c o r :=
  ⟨by rw [s.get b m.lt hb]; exact m.blk, fun x hx => by
    obtain ⟨h1, h2, h3, h4⟩ := m.use x hx
    exact ⟨by rw [s.get x h3 (hu x hx)]; exact h1, h2, Nat.lt_of_lt_of_le h3 s.next, h4⟩, m.non, Nat.lt_of_lt_of_le m.lt s.next⟩

def Heap.setL (h : Heap) (b : Nat) (k : LRec) (M : List Nat) : Heap := { h with loops := h.loops.put b k, marks := M }
theorem setL_loops (h : Heap) (b : Nat) (k : LRec) (M : List Nat) (j : Nat) : (h.setL b k M).loops.get j = if j = b then some k else h.loops.get j := by
  unfold Heap.setL
  split
  · rename_i e; subst e; exact T.get_put_same _ _ _
  · rename_i e; exact T.get_put_other _ _ e
theorem setL_blks (h : Heap) (b : Nat) (k : LRec) (M : List Nat) : (h.setL b k M).blks = h.blks := (rfl)
theorem setL_next (h : Heap) (b : Nat) (k : LRec) (M : List Nat) : (h.setL b k M).next = h.next := (rfl)
theorem setL_marks (h : Heap) (b : Nat) (k : LRec) (M : List Nat) : (h.setL b k M).marks = M := (rfl)
theorem sameB_setL (h : Heap) (b : Nat) (k : LRec) (M : List Nat) : SameB h (h.setL b k M) (fun j => j = b) :=
  ⟨Nat.le_refl _, fun j _ hs => by rw [setL_loops, if_neg hs], fun _ _ _ => rfl⟩

theorem beginR_eq {b : Nat} {h : Heap} {k : LRec} (hk : h.loops.get b = some k) (h0 : k.st = 0) : beginR b h = some (h.setL b { k with st := 1 } h.marks) := by
  unfold beginR; rw [hk]; simp only [h0, nat_beq, cond_true]; rfl
theorem endR_normal {b : Nat} {M : List Nat} {h : Heap} {k : LRec} (hk : h.loops.get b = some k) : endR .normal b M h = some (.bool true, h.setL b { k with st := 0, pend := none } M) := by
  unfold endR; rw [hk]; rfl
theorem endL_normal {b : Nat} {ts : T Value} {h : Heap} {k : LRec} (hk : h.loops.get b = some k) (h0 : k.st ≠ 1) (hp : k.pend = none) : endL b ts h = some (.normal, ts, h.setL b { k with st := 3 } h.marks) := by
  unfold endL; rw [hk]; simp only [nat_beq_f h0, cond_false, hp]; rfl

/-- the heap in which a loop outside of a round begins -/
def Heap.enter (h : Heap) (k : LRec) : Heap := { h with next := h.next + 2, loops := h.loops.put (h.next + 1) k, marks := h.next :: h.marks }
theorem enterL_none (h : Heap) (k : LRec) : enterL none k h = some (h.next + 1, h.enter k) := (rfl)
theorem enter_next (h : Heap) (k : LRec) : (h.enter k).next = h.next + 2 := (rfl)
theorem enter_loops (h : Heap) (k : LRec) (j : Nat) : (h.enter k).loops.get j = if j = h.next + 1 then some k else h.loops.get j := by
  unfold Heap.enter
  split
  · rename_i e
    show (h.loops.put (h.next + 1) k).get j = some k
    rw [e, T.get_put_same]
  · rename_i e
    show (h.loops.put (h.next + 1) k).get j = h.loops.get j
    rw [T.get_put_other _ _ e]
theorem enter_blks (h : Heap) (k : LRec) : (h.enter k).blks = h.blks := (rfl)
theorem sameB_enter (h : Heap) (k : LRec) : SameB h (h.enter k) (fun _ => False) :=
  ⟨by rw [enter_next]; omega, fun j hj _ => by rw [enter_loops, if_neg (by omega)], fun _ _ _ => rfl⟩

/-- a round that comes to its end: v tells that the loop goes on -/
theorem yspec_round {P : Program} {b : Nat} {args : List Value} {h : Heap} {k : LRec} {Q : Value → Heap → Prop} {N : Nat} {ts : T Value} {ps : List Nat} {asg body : ACode} (hk : h.loops.get b = some k) (kts : k.ts = ts) (kn : k.n = N) (kps : k.ps = ps) (kasg : k.asg = asg) (kbody : k.body = body) (h0 : k.st = 0) (hp0 : k.pend = none) (hlen : args.length = ps.length) (hps : ps.all (Nat.blt · N) = true)
    (x : ∀ q1, q1 = h.setL b { k with st := 1 } h.marks → cwf P N (some b) asg (putPs ts ps args) h fun e t1 h1 => e = .normal ∧ h1 = h ∧ cwf P N (some b) body t1 q1 fun e _ h3 => e = .normal ∧ h3.loops.get b = some { k with st := 1 } ∧ Q (.bool true) (h3.setL b k h.marks)) : YSpec P b args h Q := by
  subst kts kn kps kasg kbody
  refine yspec_of hk hlen hps ?_
  refine cwf_mono (x _ rfl) ?_
  rintro e t1 h1 ⟨rfl, rfl, y⟩
  refine ⟨rfl, _, beginR_eq hk h0, ?_⟩
  refine cwf_mono y ?_
  rintro e t2 h3 ⟨rfl, h4, q⟩
  refine ⟨_, _, endR_normal h4, ?_⟩
  have : ({ k with st := 0, pend := none } : LRec) = k := by cases k; simp_all
  show Q (.bool true) (h3.setL b { ({ k with st := 1 } : LRec) with st := 0, pend := none } h1.marks)
  have e2 : ({ ({ k with st := 1 } : LRec) with st := 0, pend := none } : LRec) = k := this
  rw [e2]; exact q

/-- a loop over a function, outside of a round, that is not left -/
theorem cw_range' {P : Program} {N : Nat} {g : Nat} {ps : List Nat} {asg body : ACode} {f : Nat} {fs cs : Array Value} {ts : T Value} {h : Heap} {Z : AExit → T Value → Heap → Prop} (hg : look ts g = .func (.func f) fs cs)
    (x : ∀ k : LRec, k.ts = ts → k.n = N → k.ps = ps → k.asg = asg → k.body = body → k.st = 0 → k.pend = none → FSpec P f (fs.toList ++ [.func (.yield (h.next + 1)) #[] #[]] ++ cs.toList) (h.enter k) fun _ h2 => h2.loops.get (h.next + 1) = some k ∧ Z .normal ts (h2.setL (h.next + 1) { k with st := 3 } h2.marks)) : CW P N none (.rangeF (.t g) N ps asg body) ts h Z := by
  refine cw_range (g := .t g) hg (enterL_none _ _) ?_
  obtain ⟨v, h2, F, hl, z⟩ := x { ts := ts, n := N, ps := ps, asg := asg, body := body, st := 0, pend := none } rfl rfl rfl rfl rfl rfl rfl
  exact ⟨v, h2, F, _, _, _, endL_normal hl (fun e => Nat.noConfusion e) rfl, z⟩

theorem cw_gen {P : Program} {N : Nat} {ro : Option Nat} {ac : ACode} {ts : T Value} {h : Heap} {Z : AExit → T Value → Heap → Prop} (R : T Value → Prop) (hr : R ts) (x : ∀ t, R t → CW P N ro ac t h Z) : CW P N ro ac ts h Z := x ts hr

/-- a call of a function value, to be put into what is known -/
def callW (cf : CallF) (x : Value) (args : List Value) (h : Heap) : Option (Value × Heap) := match x with
  | .func (.func f) fs cs => cf (.fn f) (fs.toList ++ args ++ cs.toList) h
  | .func (.yield b) _ _ => cf (.yield b) args h
  | _ => none

theorem callV_cf {P : Program} {x : Value} {args : List Value} {h : Heap} {Q : Value → Heap → Prop} (hx : callV P x args h Q) : ∃ v h' cf, CfOk P cf ∧ callW cf x args h = some (v, h') ∧ Q v h' := by
  unfold callV at hx
  split at hx
  · obtain ⟨v, h', F, q⟩ := hx
    exact ⟨v, h', _, cfOf_ok F cf00_ok, cfOf_eq, q⟩
  · obtain ⟨v, h', F, q⟩ := hx
    exact ⟨v, h', _, cfY_ok F cf00_ok, cfY_eq, q⟩
  · exact hx.elim

/-- none of these functions -/
def notFn (x : Value) (l : List Nat) : Prop := ∀ f fs cs, x = .func (.func f) fs cs → f ∉ l

theorem callW_cfOf {f : Nat} {a : List Value} {k : Heap} {v : Value} {k' : Heap} {cf : CallF} {x : Value} {args : List Value} {h : Heap} (n : notFn x [f]) : callW (cfOf f a k v k' cf) x args h = callW cf x args h := by
  unfold callW
  split
  · rename_i g fs cs
    exact cfOf_ne (fun e => n g fs cs rfl (by simp [e]))
  · unfold cfOf; rw [if_neg]; rintro ⟨h1, _⟩; cases h1
  · rfl

section
variable {P : Program} {N : Nat} {cf : CallF} {ts : T Value} {h : Heap} {J : Nat → Heap → Prop} {r : List AOper} {ws : List (Nat × Nat)} {i lo hi : Nat} {dst : Option Nat} {S : T Value → Heap → Prop}
theorem w_callv {x : Opd} {l : List Opd} : dwin J cf (⟨dst, .callv x l, none⟩ :: r) ((lo, hi) :: ws) i ts h S = opt2 (callW cf (ev ts x) (evs ts l) h) (bw2 J cf r ws (i + 1) ts dst S) := by
  show (match (match ev ts x with
    | .func (.func f) fs cs => cf (.fn f) (fs.toList ++ evs ts l ++ cs.toList) h
    | .func (.yield b) _ _ => cf (.yield b) (evs ts l) h
    | _ => none) with | some (v, k) => J (i + 1) k ∧ dwin J cf r ws (i + 1) (putA ts dst v) k S | none => False) = _
  unfold callW
  rfl
theorem d_callv {x : Opd} {l : List Opd} : dwf cf (⟨dst, .callv x l, none⟩ :: r) ts h S = opt2 (callW cf (ev ts x) (evs ts l) h) (bd2 cf r ts dst S) := by
  show (match (match ev ts x with
    | .func (.func f) fs cs => cf (.fn f) (fs.toList ++ evs ts l ++ cs.toList) h
    | .func (.yield b) _ _ => cf (.yield b) (evs ts l) h
    | _ => none) with | some (v, k) => dwf cf r (putA ts dst v) k S | none => False) = _
  unfold callW
  rfl
end

/-- a function value is one cell -/
def isFunc : Value → Bool
  | .func _ _ _ => true
  | _ => false
theorem isFunc_scalar {v : Value} (h : isFunc v = true) : scalar v = true := by cases v <;> first | rfl | cases h

theorem box1 {h : Heap} {v : Value} (hs : scalar v = true) : boxV h 1 v = some (.pointer (some ⟨h.next, 0, none⟩), h.new ⟨[v], 1, 1, true, false⟩) := by
  unfold boxV; rw [cells_scalar hs]; rfl
theorem eop_alloc {ts : T Value} {h : Heap} {z : List Value} : eop ts h (.alloc z) = some (.pointer (some ⟨h.next, 0, none⟩), h.new ⟨z, z.length, z.length, true, false⟩) := (rfl)
theorem cwf_range {P : Program} {N M : Nat} {ro : Option Nat} {g : Opd} {ps : List Nat} {asg body : ACode} {ts : T Value} {h : Heap} {Z : AExit → T Value → Heap → Prop} : cwf P N ro (.rangeF g M ps asg body) ts h Z = CW P N ro (.rangeF g M ps asg body) ts h Z := (rfl)
theorem putPs_nil (ts : T Value) : putPs ts [] [] = ts := (rfl)
theorem putPs_cons (ts : T Value) (p : Nat) (ps : List Nat) (v : Value) (vs : List Value) : putPs ts (p :: ps) (v :: vs) = putPs (ts.put p v) ps vs := (rfl)

end
end Go.Proofs.YtpeihcpclcibgaaGreat.Ai
