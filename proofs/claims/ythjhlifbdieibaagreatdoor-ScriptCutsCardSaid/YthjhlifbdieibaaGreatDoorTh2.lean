/- A run of the program's code over an abstract heap, and that it is the model's: part Th2 of the theory. -/
import Derived.Test.YthjhlifbdieibaaGreatDoorTh1
import Derived.ChangeSame
import Derived.WalkKit
import Derived.ProofKit
import Derived.OpenShut
import Derived.Below
namespace Go.Proofs.YthjhlifbdieibaaGreatDoor.Ai
noncomputable section
set_option linter.all false
open Go.RowKit Go.WideShapes Go.ChangeShapes
def T.ofList {α : Type} : List (Nat × α) -> T α
 | [] => .nil
 | (k, x) :: r => (T.ofList r).put k x
theorem T.get_ofList {α : Type} {x : α} {k : Nat} : ∀ {l : List (Nat × α)}, (T.ofList l).get k = some x -> (k, x) ∈ l
 | [], h => by cases h
 | (j, y) :: r, h => by
  simp only [T.ofList] at h
  by_cases hj : k = j
  ·subst hj
   rw [T.get_put_same] at h
   simp only [Option.some.injEq] at h
   simp [h]
  ·rw [T.get_put_other _ _ hj] at h
   exact List.mem_cons_of_mem _ (T.get_ofList h)
def Al6 (P : Program) : List (Nat × Aac) -> Prop
 | [] => True
 | (k, x) :: r => Aag P k = some x /\ Al6 P r
theorem Al6.mem {P : Program} : ∀ {l : List (Nat × Aac)}, Al6 P l -> ∀ {k x}, (k, x) ∈ l -> Aag P k = some x
 | [], _, _, _, h => by cases h
 | (j, y) :: r, ha, k, x, h => by
  rcases List.mem_cons.1 h with h | h
  ·cases h; exact ha.1
  ·exact Al6.mem ha.2 h
theorem Ans {P : Program} {t : T Aac} {l : List (Nat × Aac)} (ht : t = T.ofList l) (ha : Al6 P l) : Abk P t.get := by
 intro f af h
 rw [ht] at h
 exact ha.mem (T.get_ofList h)
theorem Arq {H : Type} {enc : TypeId × Value -> H} {P : Program} {f : Func} {s : ChangeSpec} {apart fresh handsOn again : Bool} {W W' : World} {args : Array Value} {v : Value} {ds gs : List (DataW H)} {before pa pv : List MemPlace}
  (hW : DataW.Whole enc P f.params.toList s.vars apart W args.toList ds gs before)
  (hres : ∀ (b : Nat) (sp : Nat -> Bool) (hd : Bool), DataW.TrodAll enc P W' b sp hd f.resultTypes.toList (v.resultList f.resultTypes.size) (s.fn H (ds ++ gs)).results [])
  (hargs : ∀ sp : Nat -> Bool, (∀ p ∈ before, sp p.block = true) -> DataW.TrodAll enc P W' 0 sp true f.params.toList args.toList (s.fn H (ds ++ gs)).args pa)
  (hvars : ∀ sp : Nat -> Bool, (∀ p ∈ before, sp p.block = true) -> DataW.TrodVars enc P W' sp s.vars (s.fn H (ds ++ gs)).vars pv)
  (hps : before = pa ++ pv) (hb : Below W.heap.size W W')
  (hok : ∀ (j : Nat) (t : TypeId) (r : Value), f.resultTypes[j]? = some t -> (v.resultList f.resultTypes.size)[j]? = some r -> Value.okWide P W' .any 0 t r) :
  s.post enc P f apart fresh handsOn again W args v W' := by
 have below : ∀ p ∈ before, p.block < W.heap.size := fun p hp => hW.lt p hp
 have inOld : ∀ p ∈ before, (fun b => decide (b < W.heap.size)) p.block = true := fun p hp => by simpa using below p hp
 have may : ∀ p, p ∈ before -> p ∈ before /\ (p ∈ ([] : List MemPlace) \/ p ∈ pa \/ p ∈ pv) := fun p hp => ⟨hp, .inr (by rw [hps, List.mem_append] at hp; exact hp)⟩
 refine ⟨ds, gs, before, [], pa, pv, hW, hres _ _ _, hargs _ inOld, hvars _ inOld, World.keptBut_mono may (hb.frame (· ∈ before)), fun _ => ?_⟩
 obtain ⟨_, _, _, _, _, hz, hn⟩ := hW
 have pall : ∀ p ∈ before, (fun _ : Nat => true) p.block = true := fun _ _ => rfl
 refine ⟨hok, _, _, ([] ++ pa) ++ pv, ⟨[] ++ pa, pv, trodAll_append (hargs _ pall) (hres _ _ _), hvars _ pall, rfl, ?_, ?_⟩, ?_⟩
 ·intro b off hp
  have hin : MemPlace.cell b off ∈ before := by rw [hps]; simpa using hp
  rw [hb.frozen (below _ hin)]
  exact hz b off hin
 ·intro ha
  have := hn ha
  rw [hps] at this
  simpa using this
 ·intro p hp _
  rw [hps]
  simpa using hp
open Go.RowKit
structure Sub (h' h : Aaa) : Prop where
 nq : h'.nq = h.nq
 blk : ∀ b k, h'.bqs.get b = some k -> h.bqs.get b = some k
 lqs : ∀ b k, h'.lqs.get b = some k -> h.lqs.get b = some k
 mq : h'.mq = h.mq
theorem Rel.sub {C : Af2} {μ : Map} {h h' : Aaa} {B : Fr} {w0 w : World} (R : Rel C μ h B w0 w) (s : Sub h' h) : Rel C μ h' B w0 w :=
 ⟨R.below, R.size, R.zk, fun b e he => by rw [s.nq]; exact R.fresh b e he, fun b k hb => R.blk b k (s.blk b k hb),
  fun b b' k k' e e' hb hb' => R.apart b b' k k' e e' (s.blk b k hb) (s.blk b' k' hb'),
  ⟨fun b k hb => R.aux.loop b k (s.lqs b k hb), fun b b' k k' e e' hb hb' => R.aux.lapart b b' k k' e e' (s.lqs b k hb) (s.lqs b' k' hb'), fun m hm => R.aux.mark m (by rw [<- s.mq]; exact hm), by rw [s.mq]; exact R.aux.mapart⟩⟩
theorem Af5.sub {P : Program} {f : Nat} {args : List Value} {h h1 h' h2 : Aaa} {v : Value} (x : Af5 P f args h v h') (s1 : Sub h h1) (s2 : Sub h2 h') : Af5 P f args h1 v h2 :=
 ⟨x.ok, by rw [s2.mq, x.mq, s1.mq], fun B w0 μ w args' R ha => (x.calls B w0 μ w args' (R.sub s1) ha).mono fun e w' ⟨μ', v', q1, q2, q3, q4⟩ => ⟨μ', v', q1, q2, q3.sub s2, q4⟩⟩
def Aqa : List Value -> List Value -> Bool
 | [], [] => true
 | a :: l, b :: r => veq a b && Aqa l r
 | _, _ => false
theorem Agh : ∀ {a b : List Value}, Aqa a b = true -> a = b
 | [], [], _ => rfl
 | a :: l, b :: r, h => by
  simp only [Aqa, Bool.and_eq_true] at h
  rw [Ak9 h.1, Agh h.2]
 | [], _ :: _, h => by cases h
 | _ :: _, [], h => by cases h
def Alm (a b : Blk) : Bool := Nat.beq a.n b.n && Nat.beq a.s b.s && (a.own == b.own) && (a.grown == b.grown) && Aqa a.cells b.cells
theorem Ak8 {a b : Blk} (h : Alm a b = true) : a = b := by
 simp only [Alm, Bool.and_eq_true, beq_iff_eq] at h
 obtain ⟨⟨⟨⟨h1, h2⟩, h3⟩, h4⟩, h5⟩ := h
 cases a; cases b
 simp only at h1 h2 h3 h4 h5
 rw [Agh h5, Nat.eq_of_beq_eq_true h1, Nat.eq_of_beq_eq_true h2, h3, h4]
def Arp (t : T Blk) : List (Nat × Blk) -> Bool
 | [] => true
 | (b, k) :: r => (match t.get b with
  | some k' => Alm k k'
  | none => false) && Arp t r
theorem Air {t : T Blk} : ∀ {l : List (Nat × Blk)}, Arp t l = true -> ∀ b k, (b, k) ∈ l -> t.get b = some k
 | [], _, b, k, hm => by cases hm
 | (b0, k0) :: l, h, b, k, hm => by
  simp only [Arp, Bool.and_eq_true] at h
  rcases List.mem_cons.1 hm with hm | hm
  ·cases hm
   have h1 := h.1
   split at h1
   ·rename_i k' hk; rw [hk, Ak8 h1]
   ·cases h1
  ·exact Air h.2 b k hm
def An4 : List Nat -> List Nat -> Bool
 | [], [] => true
 | a :: l, b :: r => Nat.beq a b && An4 l r
 | _, _ => false
theorem Ajc : ∀ {a b : List Nat}, An4 a b = true -> a = b
 | [], [], _ => rfl
 | a :: l, b :: r, h => by
  simp only [An4, Bool.and_eq_true] at h
  rw [Nat.eq_of_beq_eq_true h.1, Ajc h.2]
 | [], _ :: _, h => by cases h
 | _ :: _, [], h => by cases h
structure Aej where
 bl : List (Nat × Blk)
 nq : Nat
 mq : List Nat
def Aej.heap (p : Aej) : Aaa := ⟨T.ofList p.bl, p.nq, .nil, p.mq⟩
def Aej.inB (p : Aej) (h : Aaa) : Bool := Nat.beq p.nq h.nq && An4 p.mq h.mq && Arp h.bqs p.bl
theorem Aej.sub {p : Aej} {h : Aaa} (hp : p.inB h = true) : Sub p.heap h := by
 simp only [Aej.inB, Bool.and_eq_true] at hp
 refine ⟨Nat.eq_of_beq_eq_true hp.1.1, fun b k hb => Air hp.2 b k (T.get_ofList hb), fun b k hb => ?_, Ajc hp.1.2⟩
 simp [Aej.heap, T.get_nil] at hb
structure Akl where
 f : Nat
 args : List Value
 h : Aej
 v : Value
 h' : Aej
def Aiy : List Akl -> Agw
 | [], _, _, _ => none
 | e :: r, f, args, h => bif Nat.beq e.f f && Nat.beq e.h.nq h.nq then (bif Aqa e.args args && e.h.inB h then some (e.v, e.h'.heap) else none) else Aiy r f args h
def Akl.Ok (P : Program) (e : Akl) : Prop := Af5 P e.f e.args e.h.heap e.v e.h'.heap
theorem Al4 {P : Program} : ∀ {l : List Akl}, (∀ e ∈ l, e.Ok P) -> Ad1 P (Aiy l)
 | [], _, f, args, h, v, h', hv => by simp [Aiy] at hv
 | e :: l, hl, f, args, h, v, h', hv => by
  simp only [Aiy] at hv
  cases hc : (Nat.beq e.f f && Nat.beq e.h.nq h.nq) with
  | false => rw [hc] at hv; exact Al4 (fun e he => hl e (List.mem_cons_of_mem _ he)) f args h v h' hv
  | true =>
   rw [hc] at hv; simp only [cond_true] at hv
   simp only [Bool.and_eq_true] at hc
   cases hd : (Aqa e.args args && e.h.inB h) with
   | false => rw [hd] at hv; cases hv
   | true =>
    rw [hd] at hv; simp only [cond_true, Option.some.injEq, Prod.mk.injEq] at hv
    simp only [Bool.and_eq_true] at hd
    obtain ⟨rfl, rfl⟩ := hv
    have h1 := Nat.eq_of_beq_eq_true hc.1
    have h2 := Agh hd.1
    subst h1; subst h2
    exact (hl e (by simp)).sub (Aej.sub hd.2) ⟨rfl, fun _ _ q => q, fun _ _ q => q, rfl⟩
def Ars : Value -> Value -> Bool
 | .tuple a, .tuple b => Aqa a.toList b.toList
 | a, b => veq a b
theorem Aoy {a b : Value} (h : Ars a b = true) : a = b := by
 unfold Ars at h
 split at h
 ·congr 1
  exact Array.ext' (Agh h)
 ·exact Ak9 h
def Ari (e : Akl) : Option (Value × Aaa) -> Bool
 | some (v, h') => Ars e.v v && e.h'.inB h'
 | none => false
theorem Aro {P : Program} {mm : Agw} {tab : Nat -> Option Aac} (hT : Abk P tab) (hM : Ad1 P mm) {n : Nat} {e : Akl} (h : Ari e (Abg mm tab (Aek mm tab n) (.fn e.f) e.args e.h.heap) = true) : e.Ok P := by
 unfold Ari at h
 split at h
 ·rename_i v h' hc
  simp only [Bool.and_eq_true] at h
  have h1 := Aoy h.1
  have := Ame hT hM hc
  rw [<- h1] at this
  exact this.sub ⟨rfl, fun _ _ q => q, fun _ _ q => q, rfl⟩ (Aej.sub h.2)
 ·cases h
theorem Aop {P : Program} {mm : Agw} {tab : Nat -> Option Aac} (hT : Abk P tab) (hM : Ad1 P mm) {n f : Nat} (h : Age (Abg mm tab (Aek mm tab n) (.fn f) [] Aeb) = true) (w : World) :
  Calls P f #[] w fun e w' => e = .returned (.bool true) /\ Below w.heap.size w w' := by
 unfold Age at h
 split at h
 ·rename_i h' hc
  have := ((Acm (B := ⟨w.heap.size, fun _ => none⟩) (w0 := w) hT hM n).fn f [] Aeb _ h' hc).2 _ w [] (Aq1 w) (.nil _)
  refine this.mono ?_
  rintro e w' ⟨μ', v', rfl, _, R, hv⟩
  exact ⟨by rw [hv.bool], R.below⟩
 ·cases h
open Go.RowKit
structure CSt where
 tl : List (Nat × Value)
 ph : Aej
def CSt.ts (s : CSt) : T Value := T.ofList s.tl
def CSt.h (s : CSt) : Aaa := s.ph.heap
def Acg (P : Program) (N : Nat) (ro : Option Nat) (ac : Abi) (ts : T Value) (h : Aaa) (e : Aa6) (ts' : T Value) (h' : Aaa) : Prop :=
 ∀ c, Aaf P N c = ac -> ∀ (B : Fr) (w0 : World) (μ : Map) (M0 : List Nat) (lr : Option Nat) (a : Act) (w : World), Rel (Cc P) μ h B w0 w -> Aap μ ts a -> a.tmps.size = N -> Aij μ ro lr -> Mk μ M0 h a -> c.wpIn (FW lr) 0 P (Aed P μ N M0 e ts' h' B w0) a w
section
variable {P : Program} {N : Nat} {ro : Option Nat} {ac bc : Abi} {ts t1 ts' : T Value} {h h1 h' : Aaa} {e : Aa6}
theorem Aqc {mm : Agw} {tab : Nat -> Option Aac} (hT : Abk P tab) (hM : Ad1 P mm) {n : Nat} (hv : Aek mm tab n ro ac ts h = some (e, ts', h')) : Acg P N ro ac ts h e ts' h' := by
 rintro c rfl B w0 μ M0 lr a w R r hN hro hk
 exact Adt (P := P) (B := B) (w0 := w0) n (fun k _ => Ahs hT hM k) n (Nat.le_refl _) N c ro lr ts ts' h h' e μ M0 a w hv R r hN hro hk
theorem Aqy (x : Acg P N ro ac ts h .normal t1 h1) (y : Acg P N ro bc t1 h1 e ts' h') : Acg P N ro (.seq ac bc) ts h e ts' h' := by
 intro c hc B w0 μ M0 lr a w R r hN hro hk
 cases c with
 | seq c d =>
  simp only [Aaf, Abi.seq.injEq] at hc
  refine wpIn_seq (wpIn_mono (x c hc.1 B w0 μ M0 lr a w R r hN hro hk) ?_)
  rintro e1 a1 w1 ⟨rfl, p1, μ2, p3, p4, p5, p6⟩
  simp only [Aj0, Exit.then]
  refine wpIn_mono (y d hc.2 B w0 μ2 M0 lr a1 w1 p4 p5 p1 (hro.mono p3) p6) ?_
  rintro e2 a2 w2 ⟨q1, q2⟩
  exact ⟨q1, q2.le p3⟩
 | region id ops d => cases d <;> simp only [Aaf] at hc <;> split at hc <;> first | cases hc | (cases hb : (P.follows .mixedOrders && Adh (Aef [] (ops.toList.map Ack)) _ (ops.toList.map Ack)) <;> (rw [hb] at hc; cases hc))
 | cond => simp only [Aaf] at hc; split at hc <;> cases hc
 | rangeFunc g ps asg body =>
  simp only [Aaf] at hc; split at hc
  ·cases hb : ps.toList.all (Nat.blt · N) <;> (rw [hb] at hc; cases hc)
  ·cases hc
 | _ => simp [Aaf] at hc
theorem An7 {id : Nat} (x : Acg P N ro bc ts h (.exit id) ts' h') : Acg P N ro (.block id bc) ts h .normal ts' h' := by
 intro c hc B w0 μ M0 lr a w R r hN hro hk
 cases c with
 | block i c =>
  simp only [Aaf, Abi.block.injEq] at hc
  obtain ⟨rfl, hc⟩ := hc
  refine wpIn_block (wpIn_mono (x c hc B w0 μ M0 lr a w R r hN hro hk) ?_)
  rintro e1 a1 w1 ⟨rfl, hp⟩
  simp only [Aj0, Exit.inBlock, if_true]
  exact ⟨rfl, hp⟩
 | region id ops d => cases d <;> simp only [Aaf] at hc <;> split at hc <;> first | cases hc | (cases hb : (P.follows .mixedOrders && Adh (Aef [] (ops.toList.map Ack)) _ (ops.toList.map Ack)) <;> (rw [hb] at hc; cases hc))
 | cond => simp only [Aaf] at hc; split at hc <;> cases hc
 | rangeFunc g ps asg body =>
  simp only [Aaf] at hc; split at hc
  ·cases hb : ps.toList.all (Nat.blt · N) <;> (rw [hb] at hc; cases hc)
  ·cases hc
 | _ => simp [Aaf] at hc
inductive Am8 (P : Program) (N : Nat) (ro : Option Nat) (b : Abi) (e : Aa6) (ts' : T Value) (h' : Aaa) : T Value -> Aaa -> Nat -> Prop
 | last {ts : T Value} {h : Aaa} (ne : e ≠ .normal) (x : Acg P N ro b ts h e ts' h') : Am8 P N ro b e ts' h' ts h 0
 | step {ts t1 : T Value} {h h1 : Aaa} {n : Nat} (x : Acg P N ro b ts h .normal t1 h1) (y : Am8 P N ro b e ts' h' t1 h1 n) : Am8 P N ro b e ts' h' ts h (n + 1)
theorem Apg {n : Nat} (x : Am8 P N ro bc e ts' h' ts h n) : Acg P N ro (.loop bc) ts h e ts' h' := by
 intro c hc B w0 μ M0 lr a w R r hN hro hk
 cases c with
 | loop c =>
  simp only [Aaf, Abi.loop.injEq] at hc
  refine Ad0 (fun k a' w' => a'.tmps.size = N /\ ∃ ts1 h1 μ1, μ.le μ1 /\ Rel (Cc P) μ1 h1 B w0 w' /\ Aap μ1 ts1 a' /\ Mk μ1 M0 h1 a' /\ Am8 P N ro bc e ts' h' ts1 h1 k) ?_ n a w ⟨hN, ts, h, μ, μ.le_refl, R, r, hk, x⟩
  rintro k a1 w1 ⟨hN1, ts1, h1, μ1, hle1, R1, r1, hk1, x1⟩
  cases x1 with
  | last ne y =>
   refine wpIn_mono (y c hc B w0 μ1 M0 lr a1 w1 R1 r1 hN1 (hro.mono hle1) hk1) ?_
   rintro e1 a2 w2 ⟨rfl, hp⟩
   cases e with
   | normal => exact (ne rfl).elim
   | exit id => exact ⟨rfl, hp.le hle1⟩
   | ret => exact ⟨rfl, hp.le hle1⟩
  | step y z =>
   refine wpIn_mono (y c hc B w0 μ1 M0 lr a1 w1 R1 r1 hN1 (hro.mono hle1) hk1) ?_
   rintro e1 a2 w2 ⟨rfl, p1, μ2, p3, p4, p5, p6⟩
   exact ⟨_, Nat.lt_succ_self _, p1, _, _, μ2, hle1.trans p3, p4, p5, p6, z⟩
 | region id ops d => cases d <;> simp only [Aaf] at hc <;> split at hc <;> first | cases hc | (cases hb : (P.follows .mixedOrders && Adh (Aef [] (ops.toList.map Ack)) _ (ops.toList.map Ack)) <;> (rw [hb] at hc; cases hc))
 | cond => simp only [Aaf] at hc; split at hc <;> cases hc
 | rangeFunc g ps asg body =>
  simp only [Aaf] at hc; split at hc
  ·cases hb : ps.toList.all (Nat.blt · N) <;> (rw [hb] at hc; cases hc)
  ·cases hc
 | _ => simp [Aaf] at hc
def fin (ex : ExF) (b : Abi) : Nat -> T Value -> Aaa -> Option (Aa6 × T Value × Aaa)
 | 0, ts, h => match ex none b ts h with
  | some (.normal, _, _) => none
  | r => r
 | k + 1, ts, h => match ex none b ts h with
  | some (.normal, t1, h1) => fin ex b k t1 h1
  | _ => none
def Atj (N : Nat) (t' t : T Value) : Prop := ∀ (μ : Map) (a : Act), a.tmps.size = N -> Aap μ t a -> Aap μ t' a
theorem Acg.post {t2 : T Value} {h2 : Aaa} (x : Acg P N ro ac ts h e ts' h') (st : Atj N t2 ts') (sh : Sub h2 h') : Acg P N ro ac ts h e t2 h2 :=
 fun c hc B w0 μ M0 lr a w R r hN hro hk => wpIn_mono (x c hc B w0 μ M0 lr a w R r hN hro hk) (by
  rintro e1 a1 w1 ⟨p0, p1, μ2, p3, p4, p5, new, p6, p7⟩
  exact ⟨p0, p1, μ2, p3, p4.sub sh, st μ2 a1 p1 p5, new, by rw [sh.mq]; exact p6, p7⟩)
theorem Am8.post {t2 : T Value} {h2 : Aaa} {m : Nat} (x : Am8 P N ro bc e ts' h' ts h m) (st : Atj N t2 ts') (sh : Sub h2 h') : Am8 P N ro bc e t2 h2 ts h m := by
 induction x with
 | last ne y => exact .last ne (y.post st sh)
 | step y _ ih => exact .step y ih
def Atm (t' t : T Value) : Nat -> Bool
 | 0 => true
 | k + 1 => (match t'.get k with
  | none => (match t.get k with
   | none => true
   | some v => (match v with
    | .tuple a => a.toList.isEmpty
    | _ => false))
  | some u => Ars u (Aax t k)) && Atm t' t k
def CSt.inB (s : CSt) (N : Nat) (t : T Value) (h : Aaa) : Bool := s.tl.all (fun x => Nat.blt x.1 N) && Atm s.ts t N && s.ph.inB h
theorem CSt.hsub {s : CSt} {t : T Value} {h : Aaa} (hs : s.inB N t h = true) : Sub s.h h := by
 simp only [CSt.inB, Bool.and_eq_true] at hs
 exact Aej.sub hs.2
theorem Agz {tab : Nat -> Option Aac} (hT : Abk P tab) {f : Nat} {af : Aac} (hf : tab f = some af) {args : List Value} (hl : Nat.ble args.length af.n = true) {h2 : Aaa} (hb : Acg P af.n none af.body (Ab3 .nil 0 args) h e ts' h2) (he : ∀ id, e ≠ .exit id) {vs : List Value} (hvs : Ab1 ts' h2 af.res = some vs) :
  ∀ B w0 μ w args', Rel (Cc P) μ h B w0 w -> Aam μ args args' -> Calls P f args'.toArray w (Ab5 P μ { h2 with mq := h.mq } B w0 (Adj vs)) := by
 have ht := hT f af hf
 unfold Aag at ht
 split at ht
 ·rename_i fn hfn
  have hfn' : P.funcs[f]? = some fn := by simpa using hfn
  unfold Ae7 at ht
  split at ht
  ·rename_i c res hbody hres
   cases hname : fn.name == "runtime.NumGoroutine" with
   | true => rw [hname] at ht; cases ht
   | false =>
    rw [hname] at ht; simp only [cond_false, Option.some.injEq] at ht
    subst ht
    intro B w0 μ w args' R hargs
    have hle := Aao hl
    simp only at hle
    have hsz : (args'.toArray ++ Array.replicate (fn.ntmps - args'.toArray.size) undef).size = fn.ntmps := by
     have := hargs.1
     simp; omega
    have r0 : Aap μ (Ab3 .nil 0 args) { tmps := args'.toArray ++ Array.replicate (fn.ntmps - args'.toArray.size) undef, defers := [] } := by
     intro t
     rw [Adq]
     simp only [Nat.not_lt_zero, if_false, Nat.zero_add, Nat.sub_zero, Array.getD_eq_getD_getElem?]
     by_cases hlt : t < args.length
     ·rw [if_pos hlt, List.getElem?_eq_getElem hlt]
      have hlt' : t < args'.length := by rw [<- hargs.1]; exact hlt
      rw [Array.getElem?_append_left (by simpa using hlt')]
      simp only [List.getElem?_toArray, List.getElem?_eq_getElem hlt', Option.getD_some]
      exact hargs.2 t _ _ (List.getElem?_eq_getElem hlt) (List.getElem?_eq_getElem hlt')
     ·rw [if_neg hlt]
      rw [Array.getElem?_append_right (by have := hargs.1; simp; omega), Array.getElem?_replicate]
      have : Aax T.nil t = undef := rfl
      rw [this]
      split <;> exact Ac1 μ
    have hwp := hb c rfl B w0 μ h.mq none _ w R r0 hsz trivial ⟨[], rfl, rfl⟩
    refine Aiw (ro := none) (n := 0) (callsIn_of_wp_marks hfn' hbody trivial (wpIn_mono hwp ?_))
    rintro x a' w' ⟨rfl, p1, μ2, p3, p4, p5, new, m1, m2⟩
    have fin : LeavesInM (FW none) 0 P fn a'.tmps (Ab5 P μ { h2 with mq := h.mq } B w0 (Adj vs)) a'.defers .returning w' := by
     rw [m2]
     refine Adm new h2 w' m1 p4 (fun w3 R3 => ?_)
     have hvs3 : Ab1 ts' { h2 with mq := h.mq } res = some vs := by
      rw [<- hvs]; exact (Ado res)
     obtain ⟨vs', g1, g2, g3⟩ := Aem R3 p5 fn.results.toList res vs hres hvs3
     have hrun := Ad5 fn.results.toList vs' g3 g2
     refine ⟨Adj vs', ?_, μ2, Adj vs', rfl, p3, R3, Ag1 g1⟩
     unfold results
     rw [Array.mapM_eq_mapM_toList]
     simp only [Sem.run_bind, Sem.run_map]
     erw [hrun]
     simp only [Result.andThen_ok, Sem.run_pure]
     rw [Ajb]
    cases e with
    | normal => exact fin
    | ret => exact fin
    | exit id => exact (he id rfl).elim
  ·cases ht
 ·cases ht
end
open Go.RowKit
section
variable {P : Program} {N : Nat} {ro : Option Nat} {ac bc : Abi} {ts ts' : T Value} {h h' : Aaa}
theorem Rel.later {C : Af2} {μ : Map} {h : Aaa} {B : Fr} {w0 w w' : World} (R : Rel C μ h B w0 w) (b : Below w.heap.size w w') : Rel C μ h B w0 w' := by
 have hw : ∀ i, i < w.heap.size -> w'.heap[i]? = w.heap[i]? := b.block
 have hlt : ∀ {i : Nat} {o : Obj}, w.heap[i]? = some o -> i < w.heap.size := fun h => (Array.getElem?_eq_some_iff.1 h).1
 refine ⟨R.below.trans (b.mono R.size), Nat.le_trans R.size b.size, fun i o hz => ?_, R.fresh, fun b k hb => ?_, R.apart, R.aux.keep μ.le_refl (Ads hw)⟩
 ·have := R.zk i o hz
  rw [hw _ (hlt this)]; exact this
 ·obtain ⟨e, he, x⟩ := R.blk b k hb
  exact ⟨e, he, x.mono μ.le_refl hw⟩
theorem Af5.frame {f : Nat} {args : List Value} {v : Value} {h0 : Aaa} (x : Af5 P f args Aeb v h0) (ha : args.all Aa9 = true) (hv : Aa9 v = true) (h : Aaa) : Af5 P f args h v h := by
 refine ⟨x.ok, rfl, fun B w0 μ w args' R hargs => ?_⟩
 have e : args' = args := by
  apply List.ext_getElem?
  intro i
  cases hi : args[i]? with
  | none =>
   have : args.length <= i := by simpa using hi
   rw [List.getElem?_eq_none (by rw [<- hargs.1]; exact this)]
  | some a =>
   obtain ⟨a', h1, h2⟩ := hargs.get hi
   rw [h1, h2.of_plain (List.all_eq_true.1 ha a (List.mem_of_getElem? hi))]
 subst e
 refine (x.calls ⟨w.heap.size, fun _ => none⟩ w _ w args' (Aq1 w) (Aam.of_plain ha)).mono ?_
 rintro e w' ⟨μ', v', rfl, _, R', hv'⟩
 rw [hv'.of_plain hv]
 exact ⟨μ, v, rfl, μ.le_refl, R.later R'.below, .same _ hv⟩
def CW (P : Program) (N : Nat) (ro : Option Nat) (ac : Abi) (ts : T Value) (h : Aaa) (Q : Aa6 -> T Value -> Aaa -> Prop) : Prop := ∃ e ts' h', Acg P N ro ac ts h e ts' h' /\ Q e ts' h'
variable {Q : Aa6 -> T Value -> Aaa -> Prop}
theorem Atu (P : Program) : Abk P (fun _ => none) := fun f af h => by cases h
theorem cf0 {e : Aa6} (hv : Aek (fun _ _ _ => none) (fun _ => none) 1 ro ac ts h = some (e, ts', h')) : Acg P N ro ac ts h e ts' h' := Aqc (Atu P) (Ard P) hv
theorem Apc (q : Q .normal ts h) : CW P N ro .skip ts h Q := ⟨_, _, _, cf0 rfl, q⟩
theorem Arl (q : Q .ret ts h) : CW P N ro .ret ts h Q := ⟨_, _, _, cf0 rfl, q⟩
theorem Ap8 {id : Nat} (q : Q (.exit id) ts h) : CW P N ro (.exit id) ts h Q := ⟨_, _, _, cf0 rfl, q⟩
def Ase (P : Program) (N : Nat) (ro : Option Nat) (bc : Abi) (Q : Aa6 -> T Value -> Aaa -> Prop) : Aa6 -> T Value -> Aaa -> Prop
 | .normal, ts, h => CW P N ro bc ts h Q
 | e, ts, h => Q e ts h
theorem Afs {e : Aa6} (ne : e ≠ .normal) (x : Acg P N ro ac ts h e ts' h') : Acg P N ro (.seq ac bc) ts h e ts' h' := by
 intro c hc B w0 μ M0 lr a w R r hN hro hk
 cases c with
 | seq c d =>
  simp only [Aaf, Abi.seq.injEq] at hc
  refine wpIn_seq (wpIn_mono (x c hc.1 B w0 μ M0 lr a w R r hN hro hk) ?_)
  rintro e1 a1 w1 ⟨rfl, hp⟩
  cases e with
  | normal => exact (ne rfl).elim
  | exit id => exact ⟨rfl, hp⟩
  | ret => exact ⟨rfl, hp⟩
 | region id ops d => cases d <;> simp only [Aaf] at hc <;> split at hc <;> first | cases hc | (cases hb : (P.follows .mixedOrders && Adh (Aef [] (ops.toList.map Ack)) _ (ops.toList.map Ack)) <;> (rw [hb] at hc; cases hc))
 | cond => simp only [Aaf] at hc; split at hc <;> cases hc
 | rangeFunc g ps asg body =>
  simp only [Aaf] at hc; split at hc
  ·cases hb : ps.toList.all (Nat.blt · N) <;> (rw [hb] at hc; cases hc)
  ·cases hc
 | _ => simp [Aaf] at hc
theorem Aqx (x : CW P N ro ac ts h (Ase P N ro bc Q)) : CW P N ro (.seq ac bc) ts h Q := by
 obtain ⟨e, t1, h1, c, q⟩ := x
 cases e with
 | normal =>
  obtain ⟨e, t2, h2, d, q⟩ := q
  exact ⟨e, t2, h2, Aqy c d, q⟩
 | exit id => exact ⟨_, _, _, Afs (by simp) c, q⟩
 | ret => exact ⟨_, _, _, Afs (by simp) c, q⟩
theorem Amc {c : Opd} {e : Aa6} {b : Bool} (hb : ev ts c = .bool b) (x : Acg P N ro (bif b then ac else bc) ts h e ts' h') : Acg P N ro (.cond c ac bc) ts h e ts' h' := by
 intro d hd B w0 μ M0 lr a w R r hN hro hk
 cases d with
 | cond c0 x0 y0 =>
  simp only [Aaf] at hd
  split at hd
  ·rename_i c' hcc
   simp only [Abi.cond.injEq] at hd
   obtain ⟨rfl, hx, hy⟩ := hd
   have hr := Aab r hcc
   rw [hb] at hr
   cases b with
   | true => exact wpIn_cond_true hr.bool (x x0 hx B w0 μ M0 lr a w R r hN hro hk)
   | false => exact wpIn_cond_false hr.bool (x y0 hy B w0 μ M0 lr a w R r hN hro hk)
  ·cases hd
 | region id ops d => cases d <;> simp only [Aaf] at hd <;> split at hd <;> first | cases hd | (cases hb : (P.follows .mixedOrders && Adh (Aef [] (ops.toList.map Ack)) _ (ops.toList.map Ack)) <;> (rw [hb] at hd; cases hd))
 | rangeFunc g ps asg body =>
  simp only [Aaf] at hd; split at hd
  ·cases hb : ps.toList.all (Nat.blt · N) <;> (rw [hb] at hd; cases hd)
  ·cases hd
 | _ => simp [Aaf] at hd
theorem Ao5 {c : Opd} {b : Bool} (hb : ev ts c = .bool b) (x : b = true -> CW P N ro ac ts h Q) (y : b = false -> CW P N ro bc ts h Q) : CW P N ro (.cond c ac bc) ts h Q := by
 cases b with
 | true => obtain ⟨e, t, k, d, q⟩ := x rfl; exact ⟨e, t, k, Amc hb d, q⟩
 | false => obtain ⟨e, t, k, d, q⟩ := y rfl; exact ⟨e, t, k, Amc hb d, q⟩
theorem Ac6 {id : Nat} {e : Aa6} (ne : e ≠ .exit id) (x : Acg P N ro bc ts h e ts' h') : Acg P N ro (.block id bc) ts h e ts' h' := by
 intro c hc B w0 μ M0 lr a w R r hN hro hk
 cases c with
 | block i c =>
  simp only [Aaf, Abi.block.injEq] at hc
  obtain ⟨rfl, hc⟩ := hc
  refine wpIn_block (wpIn_mono (x c hc B w0 μ M0 lr a w R r hN hro hk) ?_)
  rintro e1 a1 w1 ⟨rfl, hp⟩
  cases e with
  | normal => exact ⟨rfl, hp⟩
  | exit j =>
   have : j ≠ i := fun hj => ne (by rw [hj])
   simp only [Aj0, Exit.inBlock, if_neg this]
   exact ⟨rfl, hp⟩
  | ret => exact ⟨rfl, hp⟩
 | region id ops d => cases d <;> simp only [Aaf] at hc <;> split at hc <;> first | cases hc | (cases hb : (P.follows .mixedOrders && Adh (Aef [] (ops.toList.map Ack)) _ (ops.toList.map Ack)) <;> (rw [hb] at hc; cases hc))
 | cond => simp only [Aaf] at hc; split at hc <;> cases hc
 | rangeFunc g ps asg body =>
  simp only [Aaf] at hc; split at hc
  ·cases hb : ps.toList.all (Nat.blt · N) <;> (rw [hb] at hc; cases hc)
  ·cases hc
 | _ => simp [Aaf] at hc
def Aft (id : Nat) (Q : Aa6 -> T Value -> Aaa -> Prop) : Aa6 -> T Value -> Aaa -> Prop
 | .exit j, ts, h => if j = id then Q .normal ts h else Q (.exit j) ts h
 | e, ts, h => Q e ts h
theorem Ane {id : Nat} (x : CW P N ro bc ts h (Aft id Q)) : CW P N ro (.block id bc) ts h Q := by
 obtain ⟨e, t1, h1, c, q⟩ := x
 cases e with
 | normal => exact ⟨_, _, _, Ac6 (by simp) c, q⟩
 | ret => exact ⟨_, _, _, Ac6 (by simp) c, q⟩
 | exit j =>
  simp only [Aft] at q
  split at q
  ·rename_i hj; subst hj; exact ⟨_, _, _, An7 c, q⟩
  ·rename_i hj; exact ⟨_, _, _, Ac6 (by simpa using hj) c, q⟩
def Ajg (I : Nat -> T Value -> Aaa -> Prop) (n : Nat) (Q : Aa6 -> T Value -> Aaa -> Prop) : Aa6 -> T Value -> Aaa -> Prop
 | .normal, ts, h => ∃ m, m < n /\ I m ts h
 | e, ts, h => Q e ts h
theorem Aeo (I : Nat -> T Value -> Aaa -> Prop) (hI : ∀ n ts h, I n ts h -> CW P N ro bc ts h (Ajg I n Q)) {n : Nat} {ts : T Value} {h : Aaa} (h0 : I n ts h) : CW P N ro (.loop bc) ts h Q := by
 have key : ∀ n ts h, I n ts h -> ∃ e ts' h' m, Am8 P N ro bc e ts' h' ts h m /\ Q e ts' h' := by
  intro n
  induction n using Nat.strongRecOn with
  | _ n ih =>
   intro ts h hi
   obtain ⟨e, t1, h1, c, q⟩ := hI n ts h hi
   cases e with
   | normal =>
    obtain ⟨m, hm, hi'⟩ := q
    obtain ⟨e, t2, h2, k, r, q⟩ := ih m hm t1 h1 hi'
    exact ⟨e, t2, h2, _, .step c r, q⟩
   | exit id => exact ⟨_, _, _, _, .last (by simp) c, q⟩
   | ret => exact ⟨_, _, _, _, .last (by simp) c, q⟩
 obtain ⟨e, t, k, m, r, q⟩ := key n ts h h0
 exact ⟨e, t, k, Apg r, q⟩
theorem CW.mono {Q' : Aa6 -> T Value -> Aaa -> Prop} (x : CW P N ro ac ts h Q) (m : ∀ e ts' h', Q e ts' h' -> Q' e ts' h') : CW P N ro ac ts h Q' :=
 let ⟨e, t, k, c, q⟩ := x
 ⟨e, t, k, c, m _ _ _ q⟩
def Ajj (P : Program) (cf : Aas) : Prop := ∀ B w0, Acj P cf B w0
inductive Am9 (P : Program) : List Aah -> T Value -> Aaa -> T Value -> Aaa -> Prop
 | nil {ts : T Value} {h : Aaa} : Am9 P [] ts h ts h
 | cons {o : Aah} {r : List Aah} {ts ts' : T Value} {h h1 h' : Aaa} {v : Value} (cf : Aas) (hc : Ajj P cf) (hw : Aa2 ts o.guard = true) (hs : Aa5 cf ts h o.op = some (v, h1)) (x : Am9 P r (Abr ts o.dst v) h1 ts' h') : Am9 P (o :: r) ts h ts' h'
 | skip {o : Aah} {r : List Aah} {ts ts' : T Value} {h h' : Aaa} (hw : Aa2 ts o.guard = false) (x : Am9 P r (Abr ts o.dst undef) h ts' h') : Am9 P (o :: r) ts h ts' h'
theorem Am9.mq {l : List Aah} {ts ts' : T Value} {h h' : Aaa} (x : Am9 P l ts h ts' h') : h'.mq = h.mq := by
 induction x with
 | nil => rfl
 | cons cf hc _ hs _ ih => rw [ih, Ad9 (hc ⟨0, fun _ => none⟩ default).mq hs]
 | skip _ _ ih => exact ih
theorem Ajm {ro : Option Nat} {B : Fr} {w0 : World} {ops : Array Oper} {Q : Exit -> Act -> World -> Prop} : ∀ (l : List Oper) (l' : List Aah), Abe P N ops l = some l' ->
  ∀ (μ : Map) (h h' : Aaa) (ts ts' : T Value) (a : Act) (w : World), Rel (Cc P) μ h B w0 w -> Aap μ ts a -> a.tmps.size = N -> Am9 P l' ts h ts' h' -> (∀ a' w', Arc P μ N a.defers ts' h' B w0 a' w' -> Q .normal a' w') ->
  wpListIn (FW ro) 0 P ops Q l a w := by
 intro l
 induction l with
 | nil =>
  intro l' hl μ h h' ts ts' a w R r hN hv hQ
  simp only [Abe, Option.some.injEq] at hl; subst hl
  cases hv
  exact hQ a w ⟨hN, rfl, μ, μ.le_refl, R, r⟩
 | cons o l ih =>
  intro l' hl μ h h' ts ts' a w R r hN hv hQ
  simp only [Abe] at hl
  split at hl
  ·rename_i ao l2 hao hl2
   simp only [Option.some.injEq] at hl; subst hl
   have k := Ad6 hao
   have hw := Aee k r hN
   have hd : Aho a.tmps.size o.dst = true := by rw [hN]; exact k.dok
   refine wpListIn_step (fun K hK => ?_)
   cases hv with
   | cons cf hc hwa hs x =>
    rw [hwa] at hw
    rw [if_pos hw]
    refine Ap6 k.form k.nod (hc B w0) R r hs (fun μ' v' w' hle R' hv' => hK _ _ ?_)
    refine ih l2 hl2 μ' _ h' _ ts' _ w' R' (Ace (r.mono hle) hv' hd) (by rw [Adw]; exact hN) (by rw [<- k.dst]; exact x) (fun a' w'' hp => hQ a' w'' ?_)
    obtain ⟨p1, p2, μ2, p3, p4, p5⟩ := hp
    exact ⟨p1, by rw [p2, Acc], μ2, hle.trans p3, p4, p5⟩
   | skip hwa x =>
    rw [hwa] at hw
    rw [if_neg (by rw [hw]; simp)]
    refine ⟨fun _ _ => trivial, hK _ _ ?_⟩
    refine ih l2 hl2 μ h h' _ ts' _ w R (Ace r (Ac1 μ) hd) (by rw [Adw]; exact hN) (by rw [<- k.dst]; exact x) (fun a' w'' hp => hQ a' w'' ?_)
    obtain ⟨p1, p2, μ2, p3, p4, p5⟩ := hp
    exact ⟨p1, by rw [p2, Acc], μ2, p3, p4, p5⟩
  ·cases hl
theorem Arh {l : List Aah} (x : Am9 P l ts h ts' h') : Acg P N ro (.ops l) ts h .normal ts' h' := by
 intro c hc B w0 μ M0 lr a w R r hN hro hk
 cases c with
 | region id ops d =>
  cases d with
  | false =>
   simp only [Aaf] at hc
   split at hc
   ·rename_i l0 hl
    simp only [Abi.ops.injEq] at hc
    subst hc
    exact wpIn_region_list (Ajm ops.toList l0 hl μ h h' ts ts' a w R r hN x (fun a' w' hp => ⟨rfl, hp.x R hk x.mq⟩))
   ·cases hc
  | true =>
   simp only [Aaf] at hc
   split at hc
   ·cases hb : (P.follows .mixedOrders && Adh (Aef [] (ops.toList.map Ack)) _ (ops.toList.map Ack)) <;> (rw [hb] at hc; cases hc)
   ·cases hc
 | cond => simp only [Aaf] at hc; split at hc <;> cases hc
 | rangeFunc g ps asg body =>
  simp only [Aaf] at hc; split at hc
  ·cases hb : ps.toList.all (Nat.blt · N) <;> (rw [hb] at hc; cases hc)
  ·cases hc
 | _ => simp [Aaf] at hc
theorem Ami {cf : Aas} (hcf : Ajj P cf) {l : List Aah} {win : List (Nat × Nat)} (hr : Aep cf l win ts h = some (ts', h')) : Acg P N ro (.draw l win) ts h .normal ts' h' := by
 intro c hc B w0 μ M0 lr a w R r hN hro hk
 cases c with
 | region id ops d =>
  cases d with
  | false =>
   simp only [Aaf] at hc
   split at hc <;> cases hc
  | true =>
   simp only [Aaf] at hc
   split at hc
   ·rename_i l0 hl
    cases hok : (P.follows .mixedOrders && Adh (Aef [] (ops.toList.map Ack)) l0 (ops.toList.map Ack)) with
    | false => rw [hok] at hc; cases hc
    | true =>
     rw [hok] at hc; simp only [cond_true, Abi.draw.injEq] at hc
     simp only [Bool.and_eq_true] at hok
     obtain ⟨rfl, rfl⟩ := hc
     obtain ⟨recs, hs, htr, hck⟩ := Af9 hr
     obtain ⟨hlen, hops⟩ := Ada (P := P) (N := N) (ops := ops) ops.toList l0 hl
     have S := Acq.of hok.2 rfl
     have tr := Ai9 _ _ _ _ _ _ _ _ htr
     refine wpIn_region_any hok.1 ?_
     refine Aiz (Q := Aed P μ N M0 .normal ts' h' B w0) (μ := μ) (ds := a.defers) S (by rw [hlen]; simp) (fun i o ho => hops i o (by simpa using ho)) (fun i o ho => ?_) tr hck (fun B => hcf B w0) (fun a' w' hp => ⟨rfl, hp.x R hk (Acr (hcf B w0).mq _ _ _ _ _ _ _ htr)⟩) ops.size _ a _ ?_ ?_
     ·have : ops.toList[i]? = some o := by simpa using ho
      simp [this]
     ·refine .inl ⟨⟨by rw [hlen]; simp, ?_, hN, rfl, μ, ts, h, μ.le_refl, ?_, R.drew, r, ?_, fun t _ _ => rfl⟩, fun _ hq => ?_⟩
      ·intro i j hi
       simp only [Array.getD_eq_getD_getElem?, Array.getElem?_replicate] at hi
       split at hi <;> simp at hi
      ·have : (List.range l0.length).countP (fun e => Aat l0 e && (Array.replicate ops.size false).getD e false) = 0 := by
        apply List.countP_eq_zero.2
        intro e _
        simp only [Array.getD_eq_getD_getElem?, Array.getElem?_replicate]
        split <;> simp
       rw [this]; rfl
      ·intro j o rj t _ _ _ hl'
       simp only [Array.getD_eq_getD_getElem?, Array.getElem?_replicate] at hl'
       split at hl' <;> simp at hl'
      ·simp only [Array.getD_eq_getD_getElem?, Array.getElem?_replicate] at hq
       split at hq <;> simp at hq
     ·refine Nat.le_trans List.countP_le_length ?_
      rw [List.length_range, hlen]; simp
   ·cases hc
 | cond => simp only [Aaf] at hc; split at hc <;> cases hc
 | rangeFunc g ps asg body =>
  simp only [Aaf] at hc; split at hc
  ·cases hb : ps.toList.all (Nat.blt · N) <;> (rw [hb] at hc; cases hc)
  ·cases hc
 | _ => simp [Aaf] at hc
def OW (P : Program) (l : List Aah) (ts : T Value) (h : Aaa) (Q : T Value -> Aaa -> Prop) : Prop := ∃ ts' h', Am9 P l ts h ts' h' /\ Q ts' h'
theorem Aqm {l : List Aah} (x : OW P l ts h (Q .normal)) : CW P N ro (.ops l) ts h Q := let ⟨_, _, r, q⟩ := x; ⟨_, _, _, Arh r, q⟩
def DW (cf : Aas) (l : List Aah) (ts : T Value) (h : Aaa) (Q : T Value -> Aaa -> Prop) : Prop := ∃ ts' h', Ad3 cf l ts h = some (ts', h') /\ Q ts' h'
theorem Apu (cf : Aas) (hcf : Ajj P cf) {l : List Aah} (x : DW cf l ts h (Q .normal)) : CW P N ro (.draw l []) ts h Q := let ⟨_, _, r, q⟩ := x; ⟨_, _, _, Ami hcf r, q⟩
def Afu : Aas := fun _ _ _ => none
theorem Abx : Ajj P Afu := by intro B w0; constructor <;> intro _ _ _ _ _ h <;> cases h
open Classical in
noncomputable def Ah4 (f : Nat) (args : List Value) (h : Aaa) (v : Value) (h' : Aaa) (cf : Aas) : Aas := fun t a k => if t = .fn f /\ a = args /\ k = h then some (v, h') else cf t a k
theorem Ac5 {f : Nat} {args : List Value} {h : Aaa} {v : Value} {h' : Aaa} {cf : Aas} (x : Af5 P f args h v h') (y : Ajj P cf) : Ajj P (Ah4 f args h v h' cf) := by
 refine fun B w0 => ⟨fun g a k u k' hv => ?_, fun b a k u k' hv => ?_, fun t a k u k' hv => ?_⟩ <;> unfold Ah4 at hv <;> split at hv
 ·rename_i hc
  obtain ⟨h1, rfl, rfl⟩ := hc
  cases h1; cases hv
  exact ⟨x.ok, x.calls B w0⟩
 ·exact (y B w0).fn _ _ _ _ _ hv
 ·rename_i hc; exact absurd hc.1 (by simp)
 ·exact (y B w0).yield _ _ _ _ _ hv
 ·rename_i hc
  obtain ⟨h1, rfl, rfl⟩ := hc
  cases hv
  exact x.mq
 ·exact (y B w0).mq _ _ _ _ _ hv
theorem Ac4 {f : Nat} {args : List Value} {h : Aaa} {v : Value} {h' : Aaa} {cf : Aas} : Ah4 f args h v h' cf (.fn f) args h = some (v, h') := by simp [Ah4]
variable {R : T Value -> Aaa -> Prop} {r : List Aah} {d : Nat}
theorem Aql : OW P [] ts h R ↔ R ts h := ⟨fun ⟨_, _, x, q⟩ => by cases x; exact q, fun q => ⟨_, _, .nil, q⟩⟩
theorem Afg {o : Aah} (cf : Aas) (hc : Ajj P cf) {v : Value} {h1 : Aaa} (hw : Aa2 ts o.guard = true) (hs : Aa5 cf ts h o.op = some (v, h1)) (x : OW P r (Abr ts o.dst v) h1 R) : OW P (o :: r) ts h R :=
 let ⟨_, _, y, q⟩ := x
 ⟨_, _, .cons cf hc hw hs y, q⟩
def fnQ (h : Aaa) (res : List Al2) (Q : Value -> Aaa -> Prop) : Aa6 -> T Value -> Aaa -> Prop
 | .exit _, _, _ => False
 | _, ts, h2 => ∃ vs, Ab1 ts h2 res = some vs /\ Q (Adj vs) { h2 with mq := h.mq }
def Ac9 (P : Program) (f : Nat) (args : List Value) (h : Aaa) (Q : Value -> Aaa -> Prop) : Prop := ∃ v h', Af5 P f args h v h' /\ Q v h'
theorem An1 {tab : Nat -> Option Aac} (hT : Abk P tab) {f : Nat} {af : Aac} (hf : tab f = some af) {args : List Value} (hl : Nat.ble args.length af.n = true) {h : Aaa} {Q : Value -> Aaa -> Prop} (hb : CW P af.n none af.body (Ab3 .nil 0 args) h (fnQ h af.res Q)) : Ac9 P f args h Q := by
 obtain ⟨e, ts', h2, c, q⟩ := hb
 have fin : (∀ id, e ≠ .exit id) -> ∀ vs, Ab1 ts' h2 af.res = some vs -> Af5 P f args h (Adj vs) { h2 with mq := h.mq } := fun ne vs hvs => by
  refine ⟨?_, rfl, fun B w0 μ w args' R ha => Agz hT hf hl c ne hvs B w0 μ w args' R ha⟩
  have ht := hT f af hf
  unfold Aag at ht
  split at ht
  ·rename_i fn hfn
   have hfn' : P.funcs[f]? = some fn := by simpa using hfn
   unfold Ae7 at ht
   split at ht
   ·rename_i c res hbody hres
    cases hname : fn.name == "runtime.NumGoroutine" with
    | true => rw [hname] at ht; cases ht
    | false => exact ⟨fn, hfn', by simpa using hname, by simp [hbody]⟩
   ·cases ht
  ·cases ht
 cases e with
 | exit id => exact q.elim
 | normal => obtain ⟨vs, h1, h2⟩ := q; exact ⟨_, _, fin (by simp) vs h1, h2⟩
 | ret => obtain ⟨vs, h1, h2⟩ := q; exact ⟨_, _, fin (by simp) vs h1, h2⟩
structure Aqk (P : Program) (b : Nat) (args : List Value) (h : Aaa) (v : Value) (h' : Aaa) : Prop where
 mq : h'.mq = h.mq
 round : ∀ B w0 μ w args' e, Rel (Cc P) μ h B w0 w -> Aam μ args args' -> μ b = some e ->
  ∃ f tmps asg body, (Instr.yield e.blk args'.toArray).run P w = .ok (.round e.blk f tmps asg body) w /\ RoundIn Fence.wide 0 P e.blk f tmps asg body w (Ab5 P μ h' B w0 v)
open Classical in
noncomputable def cfY (b : Nat) (args : List Value) (h : Aaa) (v : Value) (h' : Aaa) (cf : Aas) : Aas := fun t a k => if t = .yield b /\ a = args /\ k = h then some (v, h') else cf t a k
theorem Arf {b : Nat} {args : List Value} {h : Aaa} {v : Value} {h' : Aaa} {cf : Aas} (x : Aqk P b args h v h') (y : Ajj P cf) : Ajj P (cfY b args h v h' cf) := by
 refine fun B w0 => ⟨fun g a k u k' hv => ?_, fun g a k u k' hv => ?_, fun t a k u k' hv => ?_⟩ <;> unfold cfY at hv <;> split at hv
 ·rename_i hc; exact absurd hc.1 (by simp)
 ·exact (y B w0).fn _ _ _ _ _ hv
 ·rename_i hc
  obtain ⟨h1, rfl, rfl⟩ := hc
  cases h1; cases hv
  exact fun μ w args' e R ha he => x.round B w0 μ w args' e R ha he
 ·exact (y B w0).yield _ _ _ _ _ hv
 ·rename_i hc
  obtain ⟨h1, rfl, rfl⟩ := hc
  cases hv
  exact x.mq
 ·exact (y B w0).mq _ _ _ _ _ hv
theorem Aq3 {b : Nat} {args : List Value} {h : Aaa} {v : Value} {h' : Aaa} {cf : Aas} : cfY b args h v h' cf (.yield b) args h = some (v, h') := by simp [cfY]
def As0 (P : Program) (b : Nat) (args : List Value) (h : Aaa) (Q : Value -> Aaa -> Prop) : Prop := ∃ v h', Aqk P b args h v h' /\ Q v h'
def owf (P : Program) : List Aah -> T Value -> Aaa -> (T Value -> Aaa -> Prop) -> Prop
 | [], ts, h, Q => Q ts h
 | o :: r, ts, h, Q => match Aa2 ts o.guard with
  | true => (match o.op with
   | .call f l => Ac9 P f (evs ts l) h (fun v k => owf P r (Abr ts o.dst v) k Q)
   | .callv x l => (match ev ts x with
    | .func (.func f) fs cs => Ac9 P f (fs.toList ++ evs ts l ++ cs.toList) h (fun v k => owf P r (Abr ts o.dst v) k Q)
    | .func (.yield b) _ _ => As0 P b (evs ts l) h (fun v k => owf P r (Abr ts o.dst v) k Q)
    | _ => False)
   | .invoke tbl x l => (match ev ts x with
    | .iface t v => (match Akt t tbl with
     | some f => Ac9 P f (v :: evs ts l) h (fun v k => owf P r (Abr ts o.dst v) k Q)
     | none => False)
    | _ => False)
   | q => (match Aa5 Afu ts h q with
    | some (v, k) => owf P r (Abr ts o.dst v) k Q
    | none => False))
  | false => owf P r (Abr ts o.dst undef) h Q
theorem Afn {Q : T Value -> Aaa -> Prop} : ∀ {l : List Aah} {ts : T Value} {h : Aaa}, owf P l ts h Q -> OW P l ts h Q
 | [], ts, h, q => Aql.2 q
 | o :: r, ts, h, q => by
  unfold owf at q
  split at q
  ·rename_i hw
   split at q
   ·rename_i f l ho
    obtain ⟨v, h1, F, q⟩ := q
    exact Afg (Ah4 f (evs ts l) h v h1 Afu) (Ac5 F Abx) hw (v := v) (h1 := h1) (by simp only [Aa5, Aa8, ho]; exact Ac4) (Afn q)
   ·rename_i x l ho
    split at q
    ·rename_i f fs cs he
     obtain ⟨v, h1, F, q⟩ := q
     exact Afg (Ah4 f (fs.toList ++ evs ts l ++ cs.toList) h v h1 Afu) (Ac5 F Abx) hw (v := v) (h1 := h1) (by simp only [Aa5, Aa8, ho, he]; exact Ac4) (Afn q)
    ·rename_i b fs cs he
     obtain ⟨v, h1, F, q⟩ := q
     exact Afg (cfY b (evs ts l) h v h1 Afu) (Arf F Abx) hw (v := v) (h1 := h1) (by simp only [Aa5, Aa8, ho, he]; exact Aq3) (Afn q)
    ·exact q.elim
   ·rename_i tbl x l ho
    split at q
    ·rename_i t0 v0 he
     split at q
     ·rename_i f hf
      obtain ⟨v, h1, F, q⟩ := q
      exact Afg (Ah4 f (v0 :: evs ts l) h v h1 Afu) (Ac5 F Abx) hw (v := v) (h1 := h1) (by simp only [Aa5, Aa8, ho, he, hf]; exact Ac4) (Afn q)
     ·exact q.elim
    ·exact q.elim
   ·split at q
    ·rename_i v h1 hs
     exact Afg Afu Abx hw hs (Afn q)
    ·exact q.elim
  ·rename_i hw
   obtain ⟨ts', h', y, q⟩ := Afn q
   exact ⟨_, _, .skip hw y, q⟩
def behind (P : Program) (r : List Aah) (ts : T Value) (dst : Option Nat) (Q : T Value -> Aaa -> Prop) (v : Value) (h : Aaa) : Prop := owf P r (Abr ts dst v) h Q
variable {q : AOp} {dst : Option Nat} {S : T Value -> Aaa -> Prop}
theorem Apt : owf P [] ts h S = S ts h := (rfl)
theorem As7 {q : POp} : owf P (⟨dst, .p q, none⟩ :: r) ts h S = match pop ts q with | some v => owf P r (Abr ts dst v) h S | none => False := by
 show (match (match pop ts q with | some v => some (v, h) | none => none) with | some (v, k) => owf P r (Abr ts dst v) k S | none => False) = _
 cases pop ts q <;> rfl
theorem As8 {q : ROp} : owf P (⟨dst, .r q, none⟩ :: r) ts h S = match rop ts h q with | some v => owf P r (Abr ts dst v) h S | none => False := by
 show (match (match rop ts h q with | some v => some (v, h) | none => none) with | some (v, k) => owf P r (Abr ts dst v) k S | none => False) = _
 cases rop ts h q <;> rfl
theorem Asd {q : EOp} : owf P (⟨dst, .e q, none⟩ :: r) ts h S = match eop ts h q with | some (v, k) => owf P r (Abr ts dst v) k S | none => False := (rfl)
theorem Aoi {f : Nat} {l : List Opd} : owf P (⟨dst, .call f l, none⟩ :: r) ts h S = Ac9 P f (evs ts l) h (behind P r ts dst S) := (rfl)
theorem Ahr {t : Nat} {b : Bool} : owf P (⟨dst, q, some (t, b)⟩ :: r) ts h S = bif isB (Aax ts t) b then owf P (⟨dst, q, none⟩ :: r) ts h S else owf P r (Abr ts dst undef) h S := by
 show (match isB (Aax ts t) b with | true => _ | false => _) = _
 cases isB (Aax ts t) b <;> rfl
def dwf (cf : Aas) : List Aah -> T Value -> Aaa -> (T Value -> Aaa -> Prop) -> Prop
 | [], ts, h, Q => Q ts h
 | o :: r, ts, h, Q => match Aa2 ts o.guard with
  | true => (match Aa5 cf ts h o.op with
    | some (v, k) => dwf cf r (Abr ts o.dst v) k Q
    | none => False)
  | false => dwf cf r (Abr ts o.dst undef) h Q
theorem Ak4 {cf : Aas} {Q : T Value -> Aaa -> Prop} : ∀ {l : List Aah} {ts : T Value} {h : Aaa}, dwf cf l ts h Q -> DW cf l ts h Q
 | [], ts, h, q => ⟨ts, h, rfl, q⟩
 | o :: r, ts, h, q => by
  unfold dwf at q
  split at q
  ·rename_i hw
   split at q
   ·rename_i v h1 hs
    obtain ⟨ts', h', y, q⟩ := Ak4 q
    exact ⟨ts', h', by rw [Acd, hw]; simp only [hs]; exact y, q⟩
   ·exact q.elim
  ·rename_i hw
   obtain ⟨ts', h', y, q⟩ := Ak4 q
   exact ⟨ts', h', by rw [Acd, hw]; exact y, q⟩
variable {cf : Aas}
theorem Ape : dwf cf [] ts h S = S ts h := (rfl)
theorem Ar9 {q : POp} : dwf cf (⟨dst, .p q, none⟩ :: r) ts h S = match pop ts q with | some v => dwf cf r (Abr ts dst v) h S | none => False := by
 show (match (match pop ts q with | some v => some (v, h) | none => none) with | some (v, k) => dwf cf r (Abr ts dst v) k S | none => False) = _
 cases pop ts q <;> rfl
theorem Ar8 {q : ROp} : dwf cf (⟨dst, .r q, none⟩ :: r) ts h S = match rop ts h q with | some v => dwf cf r (Abr ts dst v) h S | none => False := by
 show (match (match rop ts h q with | some v => some (v, h) | none => none) with | some (v, k) => dwf cf r (Abr ts dst v) k S | none => False) = _
 cases rop ts h q <;> rfl
theorem Asa {q : EOp} : dwf cf (⟨dst, .e q, none⟩ :: r) ts h S = match eop ts h q with | some (v, k) => dwf cf r (Abr ts dst v) k S | none => False := (rfl)
theorem Anz {f : Nat} {l : List Opd} : dwf cf (⟨dst, .call f l, none⟩ :: r) ts h S = match cf (.fn f) (evs ts l) h with | some (v, k) => dwf cf r (Abr ts dst v) k S | none => False := (rfl)
theorem Ag7 {t : Nat} {b : Bool} : dwf cf (⟨dst, q, some (t, b)⟩ :: r) ts h S = bif isB (Aax ts t) b then dwf cf (⟨dst, q, none⟩ :: r) ts h S else dwf cf r (Abr ts dst undef) h S := by
 show (match isB (Aax ts t) b with | true => _ | false => _) = _
 cases isB (Aax ts t) b <;> rfl
def cwf (P : Program) (N : Nat) (ro : Option Nat) : Abi -> T Value -> Aaa -> (Aa6 -> T Value -> Aaa -> Prop) -> Prop
 | .skip, ts, h, Q => Q .normal ts h
 | .ret, ts, h, Q => Q .ret ts h
 | .exit id, ts, h, Q => Q (.exit id) ts h
 | .ops l, ts, h, Q => owf P l ts h (Q .normal)
 | .draw l [], ts, h, Q => ∃ cf, Ajj P cf /\ dwf cf l ts h (Q .normal)
 | .seq a b, ts, h, Q => cwf P N ro a ts h (fun e t k => match e with | .normal => cwf P N ro b t k Q | e => Q e t k)
 | .cond c a b, ts, h, Q => match ev ts c with
  | .bool β => bif β then cwf P N ro a ts h Q else cwf P N ro b ts h Q
  | _ => False
 | .block id b, ts, h, Q => cwf P N ro b ts h (Aft id Q)
 | c, ts, h, Q => CW P N ro c ts h Q
def andThen (P : Program) (N : Nat) (ro : Option Nat) (b : Abi) (Q : Aa6 -> T Value -> Aaa -> Prop) (e : Aa6) (ts : T Value) (h : Aaa) : Prop := match e with
 | .normal => cwf P N ro b ts h Q
 | e => Q e ts h
theorem Adf : ∀ {c : Abi} {ts : T Value} {h : Aaa} {Q : Aa6 -> T Value -> Aaa -> Prop}, cwf P N ro c ts h Q -> CW P N ro c ts h Q := by
 intro c
 induction c with
 | skip => exact fun q => Apc q
 | ret => exact fun q => Arl q
 | exit id => exact fun q => Ap8 q
 | ops l => exact fun q => Aqm (Afn q)
 | draw l win =>
  intro ts h Q q
  cases win with
  | nil => obtain ⟨cf, hcf, q⟩ := q; exact Apu cf hcf (Ak4 q)
  | cons => exact q
 | seq a b iha ihb =>
  intro ts h Q q
  refine Aqx ((iha q).mono ?_)
  intro e t k q
  cases e with
  | normal => exact ihb q
  | exit id => exact q
  | ret => exact q
 | cond c a b iha ihb =>
  intro ts h Q q
  unfold cwf at q
  split at q
  ·rename_i β hb
   refine Ao5 hb (fun h1 => ?_) (fun h1 => ?_)
   ·subst h1; exact iha q
   ·subst h1; exact ihb q
  ·exact q.elim
 | block id b ih => exact fun q => Ane (ih q)
 | loop b _ => exact fun q => q
 | rangeF g n ps asg body _ _ => exact fun q => q
 | bad => exact fun q => q
variable {Z : Aa6 -> T Value -> Aaa -> Prop}
theorem Aob : cwf P N ro .skip ts h Z = Z .normal ts h := (rfl)
theorem Ap5 : cwf P N ro .ret ts h Z = Z .ret ts h := (rfl)
theorem Aoc {id : Nat} : cwf P N ro (.exit id) ts h Z = Z (.exit id) ts h := (rfl)
theorem Apb {l : List Aah} : cwf P N ro (.ops l) ts h Z = owf P l ts h (Z .normal) := (rfl)
theorem An6 {l : List Aah} : cwf P N ro (.draw l []) ts h Z = ∃ cf, Ajj P cf /\ dwf cf l ts h (Z .normal) := (rfl)
theorem Apa : cwf P N ro (.seq ac bc) ts h Z = cwf P N ro ac ts h (andThen P N ro bc Z) := (rfl)
theorem Ajd {c : Opd} : cwf P N ro (.cond c ac bc) ts h Z = match ev ts c with | .bool β => bif β then cwf P N ro ac ts h Z else cwf P N ro bc ts h Z | _ => False := (rfl)
theorem Al1 {id : Nat} : cwf P N ro (.block id bc) ts h Z = cwf P N ro bc ts h (Aft id Z) := (rfl)
theorem Anb : cwf P N ro (.loop bc) ts h Z = CW P N ro (.loop bc) ts h Z := (rfl)
theorem Afv : andThen P N ro bc Z .normal ts h = cwf P N ro bc ts h Z := (rfl)
theorem Ah5 : andThen P N ro bc Z .ret ts h = Z .ret ts h := (rfl)
theorem Ag3 {id : Nat} : andThen P N ro bc Z (.exit id) ts h = Z (.exit id) ts h := (rfl)
theorem Agi {id : Nat} : Aft id Z .normal ts h = Z .normal ts h := (rfl)
theorem Ajy {id : Nat} : Aft id Z .ret ts h = Z .ret ts h := (rfl)
theorem Aib {id j : Nat} : Aft id Z (.exit j) ts h = if j = id then Z .normal ts h else Z (.exit j) ts h := (rfl)
theorem Agn {I : Nat -> T Value -> Aaa -> Prop} {n : Nat} : Ajg I n Z .normal ts h = ∃ m, m < n /\ I m ts h := (rfl)
theorem Ajw {I : Nat -> T Value -> Aaa -> Prop} {n : Nat} : Ajg I n Z .ret ts h = Z .ret ts h := (rfl)
theorem Aig {I : Nat -> T Value -> Aaa -> Prop} {n id : Nat} : Ajg I n Z (.exit id) ts h = Z (.exit id) ts h := (rfl)
theorem Aj6 {k : Aaa} {res : List Al2} {Q : Value -> Aaa -> Prop} : fnQ k res Q .normal ts h = ∃ vs, Ab1 ts h res = some vs /\ Q (Adj vs) { h with mq := k.mq } := (rfl)
theorem Aox {k : Aaa} {res : List Al2} {Q : Value -> Aaa -> Prop} : fnQ k res Q .ret ts h = ∃ vs, Ab1 ts h res = some vs /\ Q (Adj vs) { h with mq := k.mq } := (rfl)
theorem An2 (t : T Value) (d i : Nat) (v : Value) : Aax (t.put d v) i = if i = d then v else Aax t i := by
 split
 ·rename_i e; subst e; exact Abc _ _ _
 ·rename_i e; exact Aay _ _ e
theorem Abf {tab : Nat -> Option Aac} (hT : Abk P tab) {f : Nat} {af : Aac} (hf : tab f = some af) {args : List Value} (hl : Nat.ble args.length af.n = true) {h : Aaa} {Q : Value -> Aaa -> Prop} (hb : cwf P af.n none af.body (Ab3 .nil 0 args) h (fnQ h af.res Q)) : Ac9 P f args h Q := An1 hT hf hl (Adf hb)
end
open Go.RowKit
abbrev I (a : Int) : Value := .int .i64 a
structure Aa4 (h h' : Aaa) (S : Nat -> Prop) : Prop where
 nq : h.nq <= h'.nq
 lqs : ∀ j, j < h.nq -> ¬ S j -> h'.lqs.get j = h.lqs.get j
 mq : h'.mq = h.mq
 get : ∀ j, j < h.nq -> ¬ S j -> h'.bqs.get j = h.bqs.get j
theorem Aa4.refl (h : Aaa) (S : Nat -> Prop) : Aa4 h h S := ⟨Nat.le_refl _, fun _ _ _ => rfl, rfl, fun _ _ _ => rfl⟩
theorem Aa4.trans {h k m : Aaa} {S T : Nat -> Prop} (a : Aa4 h k S) (b : Aa4 k m T) (hT : ∀ j, j < h.nq -> T j -> S j) : Aa4 h m S :=
 ⟨Nat.le_trans a.nq b.nq, fun j hj hs => by rw [b.lqs j (Nat.lt_of_lt_of_le hj a.nq) (fun ht => hs (hT j hj ht)), a.lqs j hj hs], by rw [b.mq, a.mq], fun j hj hs => by
  rw [b.get j (Nat.lt_of_lt_of_le hj a.nq) (fun ht => hs (hT j hj ht)), a.get j hj hs]⟩
theorem Aa4.mono {h k : Aaa} {S T : Nat -> Prop} (a : Aa4 h k S) (hT : ∀ j, S j -> T j) : Aa4 h k T := ⟨a.nq, fun j hj ht => a.lqs j hj (fun hs => ht (hT j hs)), a.mq, fun j hj ht => a.get j hj (fun hs => ht (hT j hs))⟩
def Aaa.setB (h : Aaa) (b : Nat) (k : Blk) : Aaa := { h with bqs := h.bqs.put b k }
theorem Abn (h : Aaa) (b : Nat) (k : Blk) (j : Nat) : (h.setB b k).bqs.get j = if j = b then some k else h.bqs.get j := by
 unfold Aaa.setB
 split
 ·rename_i e; subst e; exact T.get_put_same _ _ _
 ·rename_i e; exact T.get_put_other _ _ e
theorem Ach (h : Aaa) (k : Blk) (j : Nat) : (h.new k).bqs.get j = if j = h.nq then some k else h.bqs.get j := Abn h h.nq k j
theorem Ang (h : Aaa) (k : Blk) : (h.new k).nq = h.nq + 1 := (rfl)
theorem Aa4.setB {h : Aaa} {b : Nat} {k : Blk} {S : Nat -> Prop} (hb : S b) : Aa4 h (h.setB b k) S := ⟨Nat.le_refl _, fun _ _ _ => rfl, rfl, fun j _ hs => by
 rw [Abn, if_neg (fun e => hs (by rw [e]; exact hb))]⟩
theorem Aa4.new {h : Aaa} {k : Blk} {S : Nat -> Prop} : Aa4 h (h.new k) S := ⟨Nat.le_succ _, fun _ _ _ => rfl, rfl, fun j hj _ => by
 rw [Ach, if_neg (Nat.ne_of_lt hj)]⟩
theorem Ago {l : List Value} {n : Nat} (h : n <= l.length) : Ag6 l n = true := by rw [Aeg]; exact Nat.ble_eq_true_of_le h
theorem Aga (v : Value) (l : List Value) : ∀ (o : Nat), o < l.length -> splice l o [v] = l.set o v := by
 intro o h
 apply List.ext_getElem?
 intro i
 unfold splice
 simp only [List.length_singleton]
 rw [List.getElem?_set]
 rw [List.append_assoc, List.getElem?_append]
 simp only [List.length_take, Nat.min_eq_left (Nat.le_of_lt h)]
 by_cases h1 : i < o
 ·rw [if_pos h1, if_neg (by omega), List.getElem?_take, if_pos h1]
 ·rw [if_neg h1]
  by_cases h2 : i = o
  ·subst h2; simp [h]
  ·rw [if_neg (by omega), List.getElem?_append_right (by simp; omega), List.getElem?_drop]
   simp only [List.length_singleton]
   congr 1; omega
theorem Amt {h : Aaa} {b o : Nat} {k : Blk} (hb : h.bqs.get b = some k) : h.rd b o = k.cells[o]? := by
 unfold Aaa.rd; rw [hb]; exact Amk _ _
theorem Acu {h : Aaa} {b o n : Nat} {k : Blk} (hb : h.bqs.get b = some k) (hl : o + n <= k.cells.length) : h.rds b o n = some ((k.cells.drop o).take n) := by
 unfold Aaa.rds; rw [hb]; simp only [Ago hl, cond_true]
theorem Apy {h : Aaa} {b o : Nat} {k : Blk} {v : Value} (hb : h.bqs.get b = some k) (ho : k.own = true) (hl : o < k.cells.length) (hs : Aau v = true) : h.wrs b o [v] = some (h.setB b { k with cells := k.cells.set o v }) := by
 unfold Aaa.wrs; rw [hb]
 have : o + 1 <= k.cells.length := hl
 simp only [List.length_cons, List.length_nil, Nat.zero_add, Ago this, ho, List.all_cons, hs, List.all_nil, Bool.and_true, cond_true, Ag5, Aga _ _ _ hl]
 rfl
section
variable {P : Program} {N : Nat} {ro : Option Nat} {cf : Aas} {ts : T Value} {h : Aaa} {S : T Value -> Aaa -> Prop} {Z : Aa6 -> T Value -> Aaa -> Prop} {r : List Aah} {dst : Option Nat} {q : AOp} {ac bc : Abi}
def Ao8 (o : Option Value) (k : Value -> Prop) : Prop := match o with
 | some v => k v
 | none => False
def Aqd (o : Option (Value × Aaa)) (k : Value -> Aaa -> Prop) : Prop := match o with
 | some (v, h) => k v h
 | none => False
theorem Aml (v : Value) (k : Value -> Prop) : Ao8 (some v) k = k v := (rfl)
theorem Ak1 (v : Value) (h : Aaa) (k : Value -> Aaa -> Prop) : Aqd (some (v, h)) k = k v h := (rfl)
def bo (P : Program) (r : List Aah) (ts : T Value) (dst : Option Nat) (h : Aaa) (S : T Value -> Aaa -> Prop) (v : Value) : Prop := owf P r (Abr ts dst v) h S
def bd (cf : Aas) (r : List Aah) (ts : T Value) (dst : Option Nat) (h : Aaa) (S : T Value -> Aaa -> Prop) (v : Value) : Prop := dwf cf r (Abr ts dst v) h S
def bd2 (cf : Aas) (r : List Aah) (ts : T Value) (dst : Option Nat) (S : T Value -> Aaa -> Prop) (v : Value) (h : Aaa) : Prop := dwf cf r (Abr ts dst v) h S
theorem Asn (v : Value) : bo P r ts dst h S v = owf P r (Abr ts dst v) h S := (rfl)
theorem Asl (v : Value) : bd cf r ts dst h S v = dwf cf r (Abr ts dst v) h S := (rfl)
theorem Aqu (v : Value) : bd2 cf r ts dst S v h = dwf cf r (Abr ts dst v) h S := (rfl)
theorem Akw (v : Value) : behind P r ts dst S v h = owf P r (Abr ts dst v) h S := (rfl)
theorem o_p {q : POp} : owf P (⟨dst, .p q, none⟩ :: r) ts h S = Ao8 (pop ts q) (bo P r ts dst h S) := As7
theorem o_r {q : ROp} : owf P (⟨dst, .r q, none⟩ :: r) ts h S = Ao8 (rop ts h q) (bo P r ts dst h S) := As8
theorem o_e {q : EOp} : owf P (⟨dst, .e q, none⟩ :: r) ts h S = Aqd (eop ts h q) (behind P r ts dst S) := Asd
theorem d_p {q : POp} : dwf cf (⟨dst, .p q, none⟩ :: r) ts h S = Ao8 (pop ts q) (bd cf r ts dst h S) := Ar9
theorem d_r {q : ROp} : dwf cf (⟨dst, .r q, none⟩ :: r) ts h S = Ao8 (rop ts h q) (bd cf r ts dst h S) := Ar8
theorem d_e {q : EOp} : dwf cf (⟨dst, .e q, none⟩ :: r) ts h S = Aqd (eop ts h q) (bd2 cf r ts dst S) := Asa
theorem Aqw {f : Nat} {l : List Opd} : dwf cf (⟨dst, .call f l, none⟩ :: r) ts h S = Aqd (cf (.fn f) (evs ts l) h) (bd2 cf r ts dst S) := Anz
theorem Aty {t : Nat} {b : Bool} (hb : isB (Aax ts t) b = true) : owf P (⟨dst, q, some (t, b)⟩ :: r) ts h S = owf P (⟨dst, q, none⟩ :: r) ts h S := by rw [Ahr, hb]; rfl
theorem As5 {t : Nat} {b : Bool} (hb : isB (Aax ts t) b = false) : owf P (⟨dst, q, some (t, b)⟩ :: r) ts h S = owf P r (Abr ts dst undef) h S := by rw [Ahr, hb]; rfl
theorem Atn {t : Nat} {b : Bool} (hb : isB (Aax ts t) b = true) : dwf cf (⟨dst, q, some (t, b)⟩ :: r) ts h S = dwf cf (⟨dst, q, none⟩ :: r) ts h S := by rw [Ag7, hb]; rfl
theorem Arw {t : Nat} {b : Bool} (hb : isB (Aax ts t) b = false) : dwf cf (⟨dst, q, some (t, b)⟩ :: r) ts h S = dwf cf r (Abr ts dst undef) h S := by rw [Ag7, hb]; rfl
theorem Aqj {c : Opd} (hb : isB (ev ts c) true = true) : cwf P N ro (.cond c ac bc) ts h Z = cwf P N ro ac ts h Z := by
 rw [Ajd]
 cases hc : ev ts c <;> rw [hc] at hb <;> simp [isB] at hb
 subst hb; rfl
theorem Apo {c : Opd} (hb : isB (ev ts c) false = true) : cwf P N ro (.cond c ac bc) ts h Z = cwf P N ro bc ts h Z := by
 rw [Ajd]
 cases hc : ev ts c <;> rw [hc] at hb <;> simp [isB] at hb
 subst hb; rfl
theorem An3 (b : Bool) : isB (.bool b) true = b := (rfl)
theorem Ali (b : Bool) : isB (.bool b) false = !b := by cases b <;> rfl
end
theorem Ahq (a : Option Addr) (n c : Nat) : Aau (.slice a n c) = true := by simp [Aau]
theorem Akj (k : IntKind) (n : Int) : Aau (.int k n) = true := by simp [Aau]
theorem Ake (a : Option Addr) : Aau (.pointer a) = true := by simp [Aau]
theorem Ah6 (b : Bool) : Aau (.bool b) = true := by simp [Aau]
theorem Akk : Aaw .i64 0 = 0 := by decide
theorem Ark : min 3 64 = 3 := (rfl)
theorem Aqp : Adj [] = .tuple #[] := (rfl)
theorem Aqr (v : Value) : Adj [v] = v := (rfl)
theorem Ara (v u : Value) (l : List Value) : Adj (v :: u :: l) = .tuple (v :: u :: l).toArray := (rfl)
theorem Ae0 {v : Value} (h : Aau v = true) : v.cells.toList = [v] := by
 cases v <;> first | rfl | (cases h)
def st1 (h : Aaa) (p v : Value) : Option (Value × Aaa) := match p with
 | .pointer (some ⟨b, o, none⟩) => (match h.wrs b o [v] with
  | some h' => some (undef, h')
  | none => none)
 | _ => none
theorem Akm {ts : T Value} {h : Aaa} {a x : Opd} (hs : Aau (ev ts x) = true) : eop ts h (.store 1 a x) = st1 h (ev ts a) (ev ts x) := by
 show (match ev ts a with
  | .pointer (some ⟨b, o, none⟩) => (bif Nat.beq (ev ts x).cells.toList.length 1 && Nat.ble 1 1 then (match h.wrs b o (ev ts x).cells.toList with
    | some h' => some (undef, h')
    | none => none) else none)
  | _ => none) = _
 rw [Ae0 hs]; rfl
def Ath (h : Aaa) (s len : Nat) (o : Option (List Value)) : Option (Value × Aaa) := match o with
 | some cs => some (.slice (some ⟨h.nq, 0, none⟩) len len, h.new { cells := cs, n := len * s, s := s, own := true, grown := false })
 | none => none
theorem Amn (h : Aaa) (s len : Nat) (cs : List Value) : Ath h s len (some cs) = some (.slice (some ⟨h.nq, 0, none⟩) len len, h.new { cells := cs, n := len * s, s := s, own := true, grown := false }) := (rfl)
theorem Akd {ts : T Value} {h : Aaa} {s len : Nat} {zero : List Value} {ps : List (Nat × Nat × Opd)} : eop ts h (.buildS s len zero ps) = Ath h s len (Adr zero (evP ts ps)) := (rfl)
theorem App {ts : T Value} : evP ts [] = [] := (rfl)
theorem Anx {ts : T Value} {a b : Nat} {x : Opd} {r : List (Nat × Nat × Opd)} : evP ts ((a, b, x) :: r) = (a, b, ev ts x) :: evP ts r := (rfl)
theorem Alt (cells : List Value) : Adr cells [] = some cells := (rfl)
theorem Ak2 {cells : List Value} {off : Nat} {v : Value} {r : List (Nat × Nat × Value)} (hv : Aau v = true) (ho : off < cells.length) : Adr cells ((off, 1, v) :: r) = Adr (cells.set off v) r := by
 show (bif Nat.beq v.cells.toList.length 1 && Nat.ble (off + 1) cells.length then Adr (splice cells off v.cells.toList) r else none) = _
 rw [Ae0 hv, Aga _ _ _ ho, Nat.ble_eq_true_of_le (show off + 1 <= cells.length from ho)]
 rfl
theorem Aji {v u x y : Value} : Adr [v, u] [(0, 2, .agg #[x, y])] = some [x, y] := (rfl)
def Ati (h : Aaa) (n : Nat) (v : Value) : Option (Value × Aaa) := bif Nat.beq v.cells.toList.length n then some (.pointer (some ⟨h.nq, 0, none⟩), h.new { cells := v.cells.toList, n := n, s := n, own := true, grown := false }) else none
theorem Apm {ts : T Value} {h : Aaa} {n : Nat} {x : Opd} : eop ts h (.box n x) = Ati h n (ev ts x) := (rfl)
theorem Art (h : Aaa) (a b c d e : Value) : Ati h 5 (.agg #[a, b, c, d, e]) = some (.pointer (some ⟨h.nq, 0, none⟩), h.new ⟨[a, b, c, d, e], 5, 5, true, false⟩) := (rfl)
theorem Aka (n k : Int) (k0 : 0 < k) : n.tmod k = n % k /\ 0 <= n.tmod k \/ n.tmod k = n % k - k /\ n.tmod k < 0 := by
 have h := @Int.tmod_eq_emod n k
 have em := Int.emod_nonneg n (show k ≠ 0 by omega)
 have el := Int.emod_lt_of_pos n k0
 split at h <;> omega
theorem Abh {a : Int} (h0 : -9223372036854775808 <= a) (h1 : a < 9223372036854775808) : Aaw .i64 a = a := by
 rw [Ab8]; exact IntWalk.i64_in _ (by omega)
abbrev Aid (u : Option Nat) (C : List Int) : Value := .slice (u.map fun x => ⟨x, 0, none⟩) C.length C.length
def Alf (sl : Value) (z c o r : Int) : Blk := ⟨[sl, I z, I c, I o, I r], 5, 5, true, false⟩
def Al8 (C : List Int) : Blk := ⟨C.map I, C.length, 1, true, true⟩
structure Ae3 (h : Aaa) (b : Nat) (u : Option Nat) (C : List Int) (z c o r : Int) : Prop where
 blk : h.bqs.get b = some (Alf (Aid u C) z c o r)
 use : ∀ x, u = some x -> h.bqs.get x = some (Al8 C) /\ x ≠ b /\ x < h.nq /\ C ≠ []
 non : u = none -> C = []
 lt : b < h.nq
theorem Ae3.same {h h' : Aaa} {b : Nat} {u : Option Nat} {C : List Int} {z c o r : Int} {S : Nat -> Prop} (m : Ae3 h b u C z c o r) (s : Aa4 h h' S) (hb : ¬ S b) (hu : ∀ x, u = some x -> ¬ S x) : Ae3 h' b u C z c o r :=
 ⟨by rw [s.get b m.lt hb]; exact m.blk, fun x hx => by
  obtain ⟨h1, h2, h3, h4⟩ := m.use x hx
  exact ⟨by rw [s.get x h3 (hu x hx)]; exact h1, h2, Nat.lt_of_lt_of_le h3 s.nq, h4⟩, m.non, Nat.lt_of_lt_of_le m.lt s.nq⟩
section
variable {h : Aaa} {b : Nat} {u : Option Nat} {C : List Int} {z c o r : Int} (m : Ae3 h b u C z c o r)
include m
theorem Ae3.rd0 : h.rd b 0 = some (Aid u C) := Amt m.blk
theorem Ae3.set (z' c' o' r' : Int) : Ae3 (h.setB b (Alf (Aid u C) z' c' o' r')) b u C z' c' o' r' :=
 ⟨by rw [Abn, if_pos rfl], fun x hx => by
  obtain ⟨h1, h2, h3, h4⟩ := m.use x hx
  exact ⟨by rw [Abn, if_neg h2]; exact h1, h2, h3, h4⟩, m.non, m.lt⟩
end
theorem Acz (h k : Aaa) (e : k.mq = h.mq) : ({ k with mq := h.mq } : Aaa) = k := by rw [<- e]
def Aqg (h : Aaa) (s bytes : Nat) (X Y : Value) : Option (Value × Aaa) := match X, Abo h s Y with
 | .slice base len cap, some (news, n) => Alr h s bytes base len cap news n
 | _, _ => none
theorem Apz {ts : T Value} {h : Aaa} {s bytes : Nat} {x y : Opd} : eop ts h (.app s bytes x y) = Aqg h s bytes (ev ts x) (ev ts y) := (rfl)
abbrev Aca (u : Option Nat) (n : Nat) : Value := .slice (u.map fun x => ⟨x, 0, none⟩) n n
structure Abd (h : Aaa) (u : Option Nat) (s n : Nat) (cells : List Value) : Prop where
 use : ∀ x, u = some x -> h.bqs.get x = some ⟨cells, n * s, s, true, true⟩ /\ x < h.nq /\ 1 <= n
 non : u = none -> n = 0
 len : cells.length = n * s
 sc : cells.all Aau = true
theorem Abd.nil (h : Aaa) (s : Nat) : Abd h none s 0 [] := { use := fun x hx => (by cases hx), non := fun _ => rfl, len := (by simp), sc := rfl }
theorem Abd.same {h h' : Aaa} {u : Option Nat} {s n : Nat} {cells : List Value} {S : Nat -> Prop} (o : Abd h u s n cells) (m : Aa4 h h' S) (hu : ∀ x, u = some x -> ¬ S x) : Abd h' u s n cells :=
 ⟨fun x hx => by
  obtain ⟨h1, h2, h3⟩ := o.use x hx
  exact ⟨by rw [m.get x h2 (hu x hx)]; exact h1, Nat.lt_of_lt_of_le h2 m.nq, h3⟩, o.non, o.len, o.sc⟩
theorem Ae3.own {h : Aaa} {b : Nat} {u : Option Nat} {C : List Int} {z c o r : Int} (m : Ae3 h b u C z c o r) : Abd h u 1 C.length (C.map I) :=
 ⟨fun x hx => by
  obtain ⟨h1, _, h3, h4⟩ := m.use x hx
  exact ⟨by rw [h1, Nat.mul_one]; rfl, h3, List.length_pos_iff.2 h4⟩, fun hu => by rw [m.non hu]; rfl, by simp, by simp [Aau]⟩
theorem Ae3.of_own {h : Aaa} {b : Nat} {u : Option Nat} {C : List Int} (a : Abd h u 1 C.length (C.map I)) (hu : ∀ x, u = some x -> x ≠ b) (hb : b < h.nq) (z c o r : Int) : Ae3 (h.setB b (Alf (Aid u C) z c o r)) b u C z c o r :=
 ⟨by rw [Abn, if_pos rfl], fun x hx => by
  obtain ⟨h1, h2, h3⟩ := a.use x hx
  exact ⟨by rw [Abn, if_neg (hu x hx), h1, Nat.mul_one]; rfl, hu x hx, h2, List.length_pos_iff.1 h3⟩, fun hn => List.eq_nil_of_length_eq_zero (a.non hn), hb⟩
theorem Aa7 {a b : Nat} (h : a <= b) : Nat.ble a b = true := Nat.ble_eq_true_of_le h
theorem Agx {a b : Nat} (h : ¬ a <= b) : Nat.ble a b = false := by
 cases hc : Nat.ble a b with
 | false => rfl
 | true => exact absurd (Nat.le_of_ble_eq_true hc) h
theorem Abw (a : Nat) : Nat.beq a a = true := Nat.beq_refl a
theorem Aei {a b : Nat} (h : a ≠ b) : Nat.beq a b = false := by
 rcases Aan a b with ⟨h1, h2⟩ | ⟨h1, _⟩
 ·exact absurd h2 h
 ·exact h1
theorem Ah7 {h : Aaa} {u : Option Nat} {s n k bytes : Nat} {cells news : List Value} {Y : Value} (o : Abd h u s n cells) (hy : Abo h s Y = some (news, k)) (hk : news.length = k * s) (hs : news.all Aau = true) (s1 : 1 <= s)
  (b1 : (n + k) * bytes <= 1099511627776) (b2 : n + k <= 1099511627776) :
  ∃ u' h', Aqg h s bytes (Aca u n) Y = some (Aca u' (n + k), h') /\ Abd h' u' s (n + k) (cells ++ news) /\ Aa4 h h' (fun j => u = some j) /\ (∀ x, u' = some x -> u = some x \/ x = h.nq) := by
 have hg : (Nat.ble ((n + k) * bytes) 1099511627776 && Nat.ble (n + k) 1099511627776 && Nat.ble 1 s && news.all Aau) = true := by
  rw [Aa7 b1, Aa7 b2, Aa7 s1, hs]; rfl
 unfold Aqg
 rw [hy]
 simp only [Aca]
 unfold Alr
 rw [hg]
 simp only [cond_true]
 have hall : (cells ++ news).all Aau = true := by rw [List.all_append, o.sc, hs]; rfl
 have hlen : (cells ++ news).length = (n + k) * s := by rw [List.length_append, o.len, hk, Nat.add_mul]
 by_cases k0 : k = 0
 ·subst k0
  have hn : news = [] := List.eq_nil_of_length_eq_zero (by simpa using hk)
  subst hn
  refine ⟨u, h, ?_, by simpa using o, Aa4.refl _ _, fun x hx => .inl hx⟩
  cases hu : u with
  | none =>
   simp only [Option.map_none, Abw, Aa7 (Nat.le_refl n), cond_true, Nat.add_zero]
  | some x =>
   obtain ⟨h1, h2, h3⟩ := o.use x hu
   simp only [Option.map_some, h1, Abw, Bool.not_true, cond_false, Nat.add_zero, Aa7 (Nat.le_refl n), cond_true]
 ·cases hu : u with
  | none =>
   have n0 := o.non hu
   subst n0
   have c0 : cells = [] := List.eq_nil_of_length_eq_zero (by simpa using o.len)
   subst c0
   refine ⟨some h.nq, h.new ⟨news, k * s, s, true, true⟩, ?_, ⟨fun x hx => ?_, by simp, by simpa using hlen, by simpa using hall⟩, Aa4.new, fun x hx => .inr (by cases hx; rfl)⟩
   ·simp only [Option.map_none, Aei k0, cond_false, Abw, Bool.and_true, cond_true, Option.map_some, Nat.zero_add]
   ·cases hx
    exact ⟨by rw [Ach, if_pos rfl]; simp, Nat.lt_succ_self _, by omega⟩
  | some x =>
   obtain ⟨h1, h2, h3⟩ := o.use x hu
   have hrd : h.rds x 0 (n * s) = some cells := by
    rw [Acu h1 (by simp [o.len])]
    simp [<- o.len]
   have hl1 : 1 <= cells.length := by rw [o.len]; exact Nat.mul_pos h3 s1
   refine ⟨some h.nq, (h.kill x ⟨cells, n * s, s, true, true⟩).new ⟨cells ++ news, (n + k) * s, s, true, true⟩, ?_, ⟨fun y hy => ?_, by simp, hlen, hall⟩, ?_, fun y hy => .inr (by cases hy; rfl)⟩
   ·simp only [Option.map_some, h1, Abw, Bool.not_true, cond_false, Agx (show ¬ n + k <= n by omega), hrd, Nat.zero_add, Bool.and_true, cond_true, o.sc, Aa7 hl1]
   ·cases hy
    exact ⟨by rw [Ach]; exact if_pos rfl, Nat.lt_succ_self _, by omega⟩
   ·exact (Aa4.setB (S := fun j => some x = some j) (k := _) rfl).trans (Aa4.new (S := fun j => some x = some j)) (fun _ _ hj => hj)
structure Ael (h : Aaa) (x o s n cap : Nat) (cells : List Value) : Prop where
 blk : ∃ k, h.bqs.get x = some k /\ k.s = s /\ (k.cells.drop o).take (n * s) = cells /\ o + n * s <= k.cells.length
 cap : n <= cap
 lt : x < h.nq
theorem Ael.same {h h' : Aaa} {x o s n cap : Nat} {cells : List Value} {S : Nat -> Prop} (r : Ael h x o s n cap cells) (m : Aa4 h h' S) (hx : ¬ S x) : Ael h' x o s n cap cells :=
 ⟨by rw [m.get x r.lt hx]; exact r.blk, r.cap, Nat.lt_of_lt_of_le r.lt m.nq⟩
theorem Ael.len {h : Aaa} {x o s n cap : Nat} {cells : List Value} (r : Ael h x o s n cap cells) : cells.length = n * s := by
 obtain ⟨k, _, _, h3, h4⟩ := r.blk
 rw [<- h3]; simp; omega
theorem Ael.rd {h : Aaa} {x o s n cap : Nat} {cells : List Value} (r : Ael h x o s n cap cells) {i : Nat} (hi : i < n * s) : h.rd x (o + i) = cells[i]? := by
 obtain ⟨k, h1, _, h3, _⟩ := r.blk
 rw [Amt h1, <- h3, List.getElem?_take, if_pos hi, List.getElem?_drop]
theorem Ael.src {h : Aaa} {x o s n cap : Nat} {cells : List Value} (r : Ael h x o s n cap cells) : Abo h s (.slice (some ⟨x, o, none⟩) n cap) = some (cells, n) := by
 obtain ⟨k, h1, _, h3, h4⟩ := r.blk
 show (match h.rds x o (n * s) with | some l => some (l, n) | none => none) = _
 rw [Acu h1 h4, h3]
theorem Ael.sub {h : Aaa} {x o s n cap lo hi : Nat} {cells : List Value} (r : Ael h x o s n cap cells) (h1 : lo <= hi) (h2 : hi <= n) : Ael h x (o + lo * s) s (hi - lo) (cap - lo) ((cells.drop (lo * s)).take ((hi - lo) * s)) := by
 obtain ⟨k, k1, k2, k3, k4⟩ := r.blk
 have hc := r.cap
 have e1 : hi * s = lo * s + (hi - lo) * s := by rw [<- Nat.add_mul]; congr 1; omega
 have e2 : hi * s <= n * s := Nat.mul_le_mul_right _ h2
 refine ⟨⟨k, k1, k2, ?_, by omega⟩, by omega, r.lt⟩
 rw [<- k3, List.drop_take, List.drop_drop, List.take_take]
 congr 1
 ·omega
theorem Ael.fresh (h : Aaa) (cells : List Value) (n s : Nat) (own gr : Bool) (hl : cells.length = n * s) : Ael (h.new ⟨cells, n * s, s, own, gr⟩) h.nq 0 s n n cells :=
 ⟨⟨_, by rw [Ach]; exact if_pos rfl, rfl, by rw [List.drop_zero, <- hl, List.take_length], by simp [hl]⟩, Nat.le_refl _, Nat.lt_succ_self _⟩
def Ask (h : Aaa) (s bytes : Nat) (zero : List Value) (X Y : Value) : Option (Value × Aaa) := match X, Adz Y with
 | .slice base len cap, some n => bif Nat.ble n 1099511627776 then Alr h s bytes base len cap (rep zero n) n else none
 | _, _ => none
theorem Anw {ts : T Value} {h : Aaa} {s bytes : Nat} {zero : List Value} {x y : Opd} : eop ts h (.appZ s bytes zero x y) = Ask h s bytes zero (ev ts x) (ev ts y) := (rfl)
theorem Aev (n : Nat) : Adz (I n) = some n := by simp [Adz]
def Mid (h : Aaa) (s n : Nat) (v : Value) (cells : List Value) (y : Nat) : Prop :=
 (n = 0 /\ cells = [] /\ v = .slice (some ⟨y, 0, none⟩) 0 0 /\ h.bqs.get y = some ⟨[], 0, s, true, false⟩ /\ y < h.nq) \/ (v = Aca (some y) n /\ Abd h (some y) s n cells)
theorem Mid.same {h h' : Aaa} {s n y : Nat} {v : Value} {cells : List Value} {S : Nat -> Prop} (a : Mid h s n v cells y) (m : Aa4 h h' S) (hy : ¬ S y) : Mid h' s n v cells y := by
 rcases a with ⟨h1, h2, h3, h4, h5⟩ | ⟨h1, h2⟩
 ·exact .inl ⟨h1, h2, h3, by rw [m.get y h5 hy]; exact h4, Nat.lt_of_lt_of_le h5 m.nq⟩
 ·exact .inr ⟨h1, h2.same m (fun x hx => by cases hx; exact hy)⟩
theorem Aha {h : Aaa} {y s k bytes : Nat} {news : List Value} {Y : Value} (hb : h.bqs.get y = some ⟨[], 0, s, true, false⟩) (hlt : y < h.nq) (hy : Abo h s Y = some (news, k)) (hk : news.length = k * s) (hs : news.all Aau = true) (s1 : 1 <= s)
  (b1 : k * bytes <= 1099511627776) (b2 : k <= 1099511627776) :
  ∃ v h' z, Aqg h s bytes (.slice (some ⟨y, 0, none⟩) 0 0) Y = some (v, h') /\ Mid h' s k v news z /\ Aa4 h h' (fun _ => False) /\ (z = y \/ z = h.nq) /\ (k ≠ 0 -> Abd h' (some z) s k news /\ v = Aca (some z) k) := by
 have hg : (Nat.ble ((0 + k) * bytes) 1099511627776 && Nat.ble (0 + k) 1099511627776 && Nat.ble 1 s && news.all Aau) = true := by
  rw [Nat.zero_add, Aa7 b1, Aa7 b2, Aa7 s1, hs]; rfl
 unfold Aqg
 rw [hy]
 simp only
 unfold Alr
 rw [hg]
 simp only [cond_true, hb, Abw, Bool.not_true, cond_false]
 by_cases k0 : k = 0
 ·subst k0
  have hn : news = [] := List.eq_nil_of_length_eq_zero (by simpa using hk)
  subst hn
  refine ⟨_, h, y, ?_, .inl ⟨rfl, rfl, rfl, hb, hlt⟩, Aa4.refl _ _, .inl rfl, fun hn => absurd rfl hn⟩
  simp only [Nat.add_zero, Aa7 (Nat.le_refl 0), cond_true, Abw]
 ·have hrd : h.rds y 0 (0 * s) = some [] := by
   rw [Acu hb (by simp)]; simp
  have ho : Abd (h.new ⟨news, k * s, s, true, true⟩) (some h.nq) s k news := ⟨fun x hx => by cases hx; exact ⟨by rw [Ach]; exact if_pos rfl, Nat.lt_succ_self _, by omega⟩, by simp, hk, hs⟩
  refine ⟨_, h.new ⟨news, k * s, s, true, true⟩, h.nq, ?_, .inr ⟨rfl, ho⟩, Aa4.new, .inr rfl, fun _ => ⟨ho, rfl⟩⟩
  simp only [Agx (show ¬ k <= 0 by omega), cond_false, hrd, Bool.false_and, Nat.zero_add, List.nil_append, Aca, Option.map_some]
theorem Ak0 (h : Aaa) (s : Nat) : Abo h s (.slice none 0 0) = some ([], 0) := (rfl)
theorem Alv (h : Aaa) (s b o k : Nat) : Abo h s (.slice (some ⟨b, o, some k⟩) 0 0) = some ([], 0) := (rfl)
def slV (h : Aaa) (s : Nat) (X : Value) (lo hi : Option Value) : Option Value := match (match lo with | some l => Adz l | none => some 0) with
 | none => none
 | some l => match X with
  | .slice base len cap => (match (match hi with | some l => Adz l | none => some len) with
   | some hh => bif Nat.ble l hh && Nat.ble hh cap then (match base with
    | none => some (.slice none (hh - l) (cap - l))
    | some ⟨b, o, none⟩ => (match h.bqs.get b with
     | some k => bif Nat.beq k.s s then
       (bif Nat.beq cap l then some (.slice (some ⟨b, o, some 0⟩) 0 0) else some (.slice (some ⟨b, o + l * s, none⟩) (hh - l) (cap - l)))
      else none
     | none => none)
    | some ⟨b, o, some q⟩ => bif Nat.beq len 0 && Nat.beq cap 0 then some (.slice (some ⟨b, o, some q⟩) 0 0) else none) else none
   | none => none)
  | _ => none
theorem Ahz {ts : T Value} {h : Aaa} {s : Nat} {x : Opd} {lo hi : Option Opd} : rop ts h (.slice s x lo hi none) = slV h s (ev ts x) (evO ts lo) (evO ts hi) := by
 show (match Ae4 ts 0 lo with | none => none | some l => _) = _
 unfold slV
 have e1 : Ae4 ts 0 lo = (match evO ts lo with | some l => Adz l | none => some 0) := by cases lo <;> rfl
 rw [e1]
 cases (match evO ts lo with | some l => Adz l | none => some 0) with
 | none => rfl
 | some l =>
  simp only
  cases ev ts x with
  | slice base len cap =>
   simp only
   have e2 : Ae4 ts len hi = (match evO ts hi with | some l => Adz l | none => some len) := by cases hi <;> rfl
   rw [e2]
   cases (match evO ts hi with | some l => Adz l | none => some len) with
   | none => rfl
   | some hh =>
    simp only [Ae4, Aa7 (Nat.le_refl cap), Option.isNone_none, Bool.true_or, Bool.and_true, Option.isSome_none, Bool.false_and, cond_false]
    rfl
  | _ => rfl
def ldV (h : Aaa) (v : Value) : Option Value := match v with
 | .pointer (some ⟨b, o, none⟩) => h.rd b o
 | _ => none
theorem Alh {ts : T Value} {h : Aaa} {x : Opd} : rop ts h (.load1 x) = ldV h (ev ts x) := (rfl)
theorem Apd (h : Aaa) (b o : Nat) : ldV h (.pointer (some ⟨b, o, none⟩)) = h.rd b o := (rfl)
def Atg (h : Aaa) (v : Value) : Option Value := match v with
 | .slice none _ c => some (.int .i64 c)
 | .slice (some ⟨b, o, none⟩) _ cap => (match h.bqs.get b with
  | some k => bif k.grown && Nat.beq (o + cap * k.s) k.n then none else some (.int .i64 cap)
  | none => none)
 | _ => none
theorem Aor {ts : T Value} {h : Aaa} {x : Opd} : rop ts h (.cap x) = Atg h (ev ts x) := (rfl)
theorem An5 (h : Aaa) (n c : Nat) : Atg h (.slice none n c) = some (.int .i64 c) := (rfl)
theorem Ael.cut {h : Aaa} {x o s n cap lo hi : Nat} {cells : List Value} (r : Ael h x o s n cap cells) (h1 : lo <= hi) (h2 : hi <= n) (h3 : lo ≠ cap) : slV h s (.slice (some ⟨x, o, none⟩) n cap) (some (I lo)) (some (I hi)) = some (.slice (some ⟨x, o + lo * s, none⟩) (hi - lo) (cap - lo)) := by
 obtain ⟨k, k1, k2, _, _⟩ := r.blk
 have hc := r.cap
 unfold slV
 simp only [Aev, Aa7 h1, Aa7 (show hi <= cap by omega), Bool.and_true, cond_true, k1, k2, Abw, Aei (Ne.symm h3), cond_false]
theorem Ael.to {h : Aaa} {x o s n cap hi : Nat} {cells : List Value} (r : Ael h x o s n cap cells) (h2 : hi <= cap) (h3 : cap ≠ 0) : slV h s (.slice (some ⟨x, o, none⟩) n cap) none (some (I hi)) = some (.slice (some ⟨x, o, none⟩) hi cap) := by
 obtain ⟨k, k1, k2, _, _⟩ := r.blk
 unfold slV
 simp only [Aev, Aa7 (Nat.zero_le hi), Aa7 h2, Bool.and_true, cond_true, k1, k2, Abw, Aei h3, cond_false, Nat.zero_mul, Nat.add_zero, Nat.sub_zero]
theorem Ael.from {h : Aaa} {x o s n cap lo : Nat} {cells : List Value} (r : Ael h x o s n cap cells) (h1 : lo <= n) (h3 : lo ≠ cap) : slV h s (.slice (some ⟨x, o, none⟩) n cap) (some (I lo)) none = some (.slice (some ⟨x, o + lo * s, none⟩) (n - lo) (cap - lo)) := by
 obtain ⟨k, k1, k2, _, _⟩ := r.blk
 have hc := r.cap
 unfold slV
 simp only [Aev, Aa7 h1, Aa7 hc, Bool.and_true, cond_true, k1, k2, Abw, Aei (Ne.symm h3), cond_false]
theorem Ael.end {h : Aaa} {x o s n : Nat} {cells : List Value} (r : Ael h x o s n n cells) : slV h s (.slice (some ⟨x, o, none⟩) n n) (some (I n)) none = some (.slice (some ⟨x, o, some 0⟩) 0 0) := by
 obtain ⟨k, k1, k2, _, _⟩ := r.blk
 unfold slV
 simp only [Aev, Aa7 (Nat.le_refl n), Bool.and_true, cond_true, k1, k2, Abw]
theorem Aj9 (h : Aaa) (s : Nat) : slV h s (.slice none 0 0) none (some (I 0)) = some (.slice none 0 0) := (rfl)
theorem Ahh (h : Aaa) (s : Nat) : slV h s (.slice none 0 0) (some (I 0)) none = some (.slice none 0 0) := (rfl)
theorem Abd.rd {h : Aaa} {x s n : Nat} {cells : List Value} (o : Abd h (some x) s n cells) : Ael h x 0 s n n cells := by
 obtain ⟨h1, h2, _⟩ := o.use x rfl
 exact ⟨⟨_, h1, rfl, by rw [List.drop_zero, <- o.len, List.take_length], by simp [o.len]⟩, Nat.le_refl _, h2⟩
theorem Abd.to {h : Aaa} {u : Option Nat} {s N n : Nat} {cells : List Value} (o : Abd h u s N cells) (hn : n <= N) : ∃ v, slV h s (Aca u N) none (some (I n)) = some v /\ Abo h s v = some (cells.take (n * s), n) := by
 cases u with
 | none =>
  have := o.non rfl
  subst this
  have hn : n = 0 := by omega
  subst hn
  exact ⟨.slice none 0 0, rfl, by simp [Ak0]⟩
 | some y =>
  have h1 := (o.use y rfl).2.2
  refine ⟨_, o.rd.to (hi := n) hn (by omega), ?_⟩
  show (match h.rds y 0 (n * s) with | some l => some (l, n) | none => none) = _
  rw [Acu (o.use y rfl).1 (by simp [o.len]; exact Nat.mul_le_mul_right _ hn)]
  simp
theorem Abd.from {h : Aaa} {u : Option Nat} {s N n : Nat} {cells : List Value} (o : Abd h u s N cells) (hn : n <= N) : ∃ v, slV h s (Aca u N) (some (I n)) none = some v /\ Abo h s v = some (cells.drop (n * s), N - n) := by
 cases u with
 | none =>
  have := o.non rfl
  subst this
  have hn : n = 0 := by omega
  subst hn
  have : cells = [] := List.eq_nil_of_length_eq_zero (by simpa using o.len)
  subst this
  exact ⟨.slice none 0 0, rfl, by simp [Ak0]⟩
 | some y =>
  by_cases he : n = N
  ·subst he
   refine ⟨_, o.rd.end, ?_⟩
   rw [Alv, List.drop_eq_nil_of_le (by rw [o.len]; exact Nat.le_refl _)]; simp
  ·refine ⟨_, o.rd.from (lo := n) hn he, ?_⟩
   have e1 : N * s = n * s + (N - n) * s := by rw [<- Nat.add_mul]; congr 1; omega
   show (match h.rds y (0 + n * s) ((N - n) * s) with | some l => some (l, N - n) | none => none) = _
   rw [Acu (o.use y rfl).1 (by simp [o.len]; omega)]
   simp only [Nat.zero_add]
   rw [List.take_of_length_le (by simp [o.len]; omega)]
section
variable {P : Program} {N : Nat} {ro : Option Nat} {bc : Abi} {ts : T Value} {h : Aaa} {Z : Aa6 -> T Value -> Aaa -> Prop}
def LW (P : Program) (N : Nat) (ro : Option Nat) (bc : Abi) (ts : T Value) (h : Aaa) (Z : Aa6 -> T Value -> Aaa -> Prop) : Prop := ∃ e ts' h' m, Am8 P N ro bc e ts' h' ts h m /\ Z e ts' h'
def lwQ (P : Program) (N : Nat) (ro : Option Nat) (bc : Abi) (Z : Aa6 -> T Value -> Aaa -> Prop) : Aa6 -> T Value -> Aaa -> Prop
 | .normal, ts, h => LW P N ro bc ts h Z
 | e, ts, h => Z e ts h
theorem Ajs : lwQ P N ro bc Z .normal ts h = LW P N ro bc ts h Z := (rfl)
theorem An9 {id : Nat} : lwQ P N ro bc Z (.exit id) ts h = Z (.exit id) ts h := (rfl)
theorem Ap1 : lwQ P N ro bc Z .ret ts h = Z .ret ts h := (rfl)
end
open Go.RowKit
def Aln (h : Aaa) (v : Value) (L : List Int) : Prop := (L = [] /\ ∃ base cap, v = .slice base 0 cap) \/ ∃ x p cap, v = .slice (some ⟨x, p, none⟩) L.length cap /\ Ael h x p 1 L.length cap (L.map I)
theorem Aeq {w : World} {b o : Nat} {v : Value} (h : w.cell? ⟨b, o, none⟩ = some v) : ∃ cc el fr, w.heap[b]? = some (.cells cc el fr) /\ cc[o]? = some v := by
 unfold World.cell? at h
 cases hb : w.heap[b]? with
 | none => simp [hb] at h
 | some ob => cases ob <;> simp_all
theorem Ahf {P : Program} {f : Nat} {args args' : List Value} {h : Aaa} {μ : Map} {W : World} {X : Aaa -> Prop} (s : Ac9 P f args h fun v h' => v = .bool true /\ X h') (R : Rel (Cc P) μ h ⟨W.heap.size, fun _ => none⟩ W W) (ha : Aam μ args args') :
  Calls P f args'.toArray W fun e w' => e = .returned (.bool true) /\ Below W.heap.size W w' := by
 obtain ⟨v, h', F, rfl, _⟩ := s
 refine (F.calls _ _ μ W args' R ha).mono ?_
 rintro e w' ⟨μ', v', rfl, _, R', hv⟩
 exact ⟨by rw [hv.bool], R'.below⟩
open Go.RowKit
def Aav (h : Aaa) (v : Value) (s n : Nat) (cells : List Value) (u : Option Nat) : Prop :=
 (n = 0 /\ cells = [] /\ (v = .slice none 0 0 \/ ∃ b o k, v = .slice (some ⟨b, o, some k⟩) 0 0)) \/ ∃ x p cap, u = some x /\ v = .slice (some ⟨x, p, none⟩) n cap /\ Ael h x p s n cap cells
theorem Aav.src {h : Aaa} {v : Value} {s n : Nat} {cells : List Value} {u : Option Nat} (a : Aav h v s n cells u) : Abo h s v = some (cells, n) := by
 rcases a with ⟨rfl, rfl, rfl | ⟨b, o, k, rfl⟩⟩ | ⟨x, p, cap, _, rfl, r⟩
 ·rfl
 ·rfl
 ·exact r.src
theorem Aav.same {h h' : Aaa} {v : Value} {s n : Nat} {cells : List Value} {u : Option Nat} {S : Nat -> Prop} (a : Aav h v s n cells u) (m : Aa4 h h' S) (hu : ∀ x, u = some x -> ¬ S x) : Aav h' v s n cells u := by
 rcases a with a | ⟨x, p, cap, e, e2, r⟩
 ·exact .inl a
 ·exact .inr ⟨x, p, cap, e, e2, r.same m (hu x e)⟩
theorem Aav.norm {h : Aaa} {v : Value} {s n : Nat} {cells : List Value} {u : Option Nat} (a : Aav h v s n cells u) : ∃ u', Aav h v s n cells u' /\ ∀ y, u' = some y -> y < h.nq := by
 rcases a with a | ⟨x, p, cap, e, e2, r⟩
 ·exact ⟨none, .inl a, fun y hy => by cases hy⟩
 ·exact ⟨some x, .inr ⟨x, p, cap, rfl, e2, r⟩, fun y hy => by cases hy; exact r.lt⟩
theorem Aav.len {h : Aaa} {v : Value} {s n : Nat} {cells : List Value} {u : Option Nat} (a : Aav h v s n cells u) : ∃ base cap, v = .slice base n cap := by
 rcases a with ⟨rfl, rfl, rfl | ⟨b, o, k, rfl⟩⟩ | ⟨x, p, cap, _, rfl, r⟩ <;> exact ⟨_, _, rfl⟩
theorem Aav.of_own {h : Aaa} {u : Option Nat} {s n : Nat} {cells : List Value} (o : Abd h u s n cells) : Aav h (Aca u n) s n cells u := by
 cases u with
 | none =>
  have := o.non rfl
  subst this
  exact .inl ⟨rfl, List.eq_nil_of_length_eq_zero (by simpa using o.len), .inl rfl⟩
 | some y => exact .inr ⟨y, 0, n, rfl, rfl, o.rd⟩
def Ahk (w : World) (a : Option Addr) (s len cap : Nat) (vs : List Value) : Prop :=
 (a = none /\ len = 0 /\ cap = 0 /\ vs = []) \/ ∃ x, a = some x /\ len <= cap /\ vs.length = cap * s /\ (∀ (i : Nat) (v : Value), vs[i]? = some v -> w.cell? (x.add i) = some v) /\ vs.all Aa9 = true
theorem Am4 {C : Af2} {W : World} {h : Aaa} {μ : Map} (R : Rel C μ h ⟨W.heap.size, fun _ => none⟩ W W) {a : Option Addr} {s len cap : Nat} {vs : List Value} (s1 : 1 <= s) (r : Ahk W a s len cap vs) :
  ∃ (h' : Aaa) (μ' : Map) (v : Value) (u : Option Nat), Rel C μ' h' ⟨W.heap.size, fun _ => none⟩ W W /\ μ.le μ' /\ Aa3 μ' v (.slice a len cap) /\ Aav h' v s len (vs.take (len * s)) u /\ Aa4 h h' (fun _ => False) /\ (∀ y, u = some y -> h.nq <= y) := by
 rcases r with ⟨rfl, rfl, rfl, rfl⟩ | ⟨x, rfl, hl, hz, hcell, hp⟩
 ·exact ⟨h, μ, .slice none 0 0, none, R, μ.le_refl, .same _ rfl, .inl ⟨rfl, by simp, .inl rfl⟩, Aa4.refl _ _, fun y hy => by cases hy⟩
 ·by_cases hc : cap = 0
  ·have hl0 : len = 0 := by omega
   subst hc; subst hl0
   exact ⟨h, μ, .slice (some ⟨0, 0, some 0⟩) 0 0, none, R, μ.le_refl, .vague 0 0 0 x 0, .inl ⟨rfl, by simp, .inr ⟨_, _, _, rfl⟩⟩, Aa4.refl _ _, fun y hy => by cases hy⟩
  ·obtain ⟨b, off, spot⟩ := x
   have hpos : 0 < vs.length := by rw [hz]; exact Nat.mul_pos (by omega) (by omega)
   have hc0 := hcell 0 vs[0] (List.getElem?_eq_getElem hpos)
   have hspot : spot = none := by simpa [Addr.add] using World.cell?_spot hc0
   subst hspot
   have hadd : ∀ i, (⟨b, off, none⟩ : Addr).add i = ⟨b, off + i, none⟩ := fun i => by unfold Addr.add; split <;> simp_all
   have hb : b < W.heap.size := by
    obtain ⟨cc, el, fr, h1, _⟩ := Aeq (by simpa [Addr.add] using hc0)
    exact (Array.getElem?_eq_some_iff.1 h1).1
   have hle : μ.le (μ.put h.nq ⟨b, off, 0, s, cap * s⟩) := Map.le_put (R.next_none (Nat.le_refl _))
   refine ⟨h.new ⟨vs, cap * s, s, false, false⟩, μ.put h.nq ⟨b, off, 0, s, cap * s⟩, .slice (some ⟨h.nq, 0, none⟩) len cap, some h.nq, ?_, hle, ?_, ?_, Aa4.new, fun y hy => by cases hy; exact Nat.le_refl _⟩
   ·refine { below := R.below, size := R.size, zk := R.zk, fresh := fun j e he => ?_, blk := fun j k hj => ?_, apart := fun j j' k k' e e' hj hj' hne ho ho' n1 n2 he he' => ?_, aux := R.aux.keep hle (fun i o ho _ => ho) }
    ·rw [Ang]
     by_cases h0 : j = h.nq
     ·omega
     ·rw [Map.put_other h0] at he
      have := R.fresh j e he; omega
    ·rw [Ach] at hj
     by_cases h0 : j = h.nq
     ·rw [if_pos h0, Option.some.injEq] at hj
      subst hj; subst h0
      refine ⟨_, Map.put_same _ _ _, ⟨rfl, rfl, by simp [hz], fun _ => rfl, fun h => (by cases h), fun _ => hb, fun i v hi => ?_⟩⟩
      obtain ⟨cc, el, fr, h1, h2⟩ := Aeq (show W.cell? ⟨b, off + i, none⟩ = _ by rw [<- hadd]; exact hcell i v hi)
      exact ⟨cc, el, fr, _, h1, h2, .same _ (List.all_eq_true.1 hp v (List.mem_of_getElem? hi))⟩
     ·rw [if_neg h0] at hj
      obtain ⟨e, he, xx⟩ := R.blk j k hj
      exact ⟨e, hle _ _ he, xx.mono hle (fun _ _ => rfl)⟩
    ·rw [Ach] at hj hj'
     by_cases h0 : j = h.nq
     ·rw [if_pos h0, Option.some.injEq] at hj
      subst hj; cases ho
     ·by_cases h0' : j' = h.nq
      ·rw [if_pos h0', Option.some.injEq] at hj'
       subst hj'; cases ho'
      ·rw [if_neg h0] at hj
       rw [if_neg h0'] at hj'
       rw [Map.put_other h0] at he
       rw [Map.put_other h0'] at he'
       exact R.apart j j' k k' e e' hj hj' hne ho ho' n1 n2 he he'
   ·have := Aa3.slice (μ := μ.put h.nq ⟨b, off, 0, s, cap * s⟩) h.nq 0 len cap ⟨b, off, 0, s, cap * s⟩ (Map.put_same _ _ _)
    simpa using this
   ·refine .inr ⟨h.nq, 0, cap, rfl, rfl, ⟨⟨_, by rw [Ach]; exact if_pos rfl, rfl, by simp, ?_⟩, hl, Nat.lt_succ_self _⟩⟩
    simp only [hz, Nat.zero_add]
    exact Nat.mul_le_mul_right _ hl
open Go.RowKit
section
variable {P : Program} {N : Nat} {ro : Option Nat} {cf : Aas} {ts ts' : T Value} {h : Aaa}
theorem Ah8 (k : IntKind) (n : Int) : veq (.int k n) (.int k n) = true := by simp [veq, Aom]
theorem Ab0 (a : Option Addr) (n c : Nat) : veq (.slice a n c) (.slice a n c) = true := by simp [veq, Aom]
variable {r : List Aah} {dst : Option Nat} {q : AOp} {S : T Value -> Prop}
end
open Go.RowKit
section
variable {P : Program} {N : Nat} {ro : Option Nat} {cf : Aas} {ts ts' : T Value} {h : Aaa} {J : Aaa -> Prop}
def Aok (J : Aaa -> Prop) (r : Rec) : Prop := match r.o.op with
 | .r q => Aa2 r.ts r.o.guard = true -> (∀ k, J k -> rop r.ts k q = some r.v) /\ veq r.v r.v = true
 | _ => True
def djf (J : Aaa -> Prop) (cf : Aas) : List Aah -> T Value -> Aaa -> (T Value -> Aaa -> Prop) -> Prop
 | [], ts, h, Q => Q ts h
 | o :: r, ts, h, Q => match Aa2 ts o.guard with
  | true => (match o.op with
   | .r q => ∃ v, (∀ k, J k -> rop ts k q = some v) /\ veq v v = true /\ djf J cf r (Abr ts o.dst v) h Q
   | q => (match Aa5 cf ts h q with
    | some (v, k) => J k /\ djf J cf r (Abr ts o.dst v) k Q
    | none => False))
  | false => djf J cf r (Abr ts o.dst undef) h Q
theorem Ah0 {Q : T Value -> Aaa -> Prop} : ∀ {l : List Aah} {ts : T Value} {h : Aaa}, J h -> djf J cf l ts h Q -> ∃ recs hs ts' h', Abz cf l ts h = some (recs, hs, ts', h') /\ (∀ k ∈ hs, J k) /\ (∀ r ∈ recs, Aok J r) /\ Q ts' h'
 | [], ts, h, _, q => ⟨[], [], ts, h, Acn _ _ _, by simp, by simp, q⟩
 | o :: r, ts, h, hJ, q => by
  unfold djf at q
  have fin : ∀ v k, J k -> (Aa2 ts o.guard = true /\ Aa5 cf ts h o.op = some (v, k) \/ Aa2 ts o.guard = false /\ v = undef /\ k = h) -> Aok J ⟨o, ts, v⟩ -> djf J cf r (Abr ts o.dst v) k Q -> ∃ recs hs ts' h', Abz cf (o :: r) ts h = some (recs, hs, ts', h') /\ (∀ k ∈ hs, J k) /\ (∀ r ∈ recs, Aok J r) /\ Q ts' h' := by
   intro v k hk hv hr hq
   obtain ⟨recs, hs, ts', h', e, e1, e2, e3⟩ := Ah0 hk hq
   refine ⟨⟨o, ts, v⟩ :: recs, (bif isE o.op then k :: hs else hs), ts', h', ?_, ?_, ?_, e3⟩
   ·rw [Ab9]
    rcases hv with ⟨h1, h2⟩ | ⟨h1, rfl, rfl⟩
    ·simp only [h1, h2, e]
    ·simp only [h1, e]
   ·intro x hx
    cases hE : isE o.op <;> rw [hE] at hx <;> simp at hx
    ·exact e1 x hx
    ·rcases hx with hx | hx
     ·rw [hx]; exact hk
     ·exact e1 x hx
   ·intro x hx
    rcases List.mem_cons.1 hx with rfl | hx
    ·exact hr
    ·exact e2 x hx
  split at q
  ·rename_i hw
   split at q
   ·rename_i q' ho
    obtain ⟨v, h1, h2, q⟩ := q
    refine fin v h hJ (.inl ⟨hw, by simp only [ho, Aa5, Aa8, h1 h hJ]⟩) ?_ q
    unfold Aok
    simp only [ho]
    exact fun _ => ⟨h1, h2⟩
   ·rename_i hno
    split at q
    ·rename_i v k hv
     refine fin v k q.1 (.inl ⟨hw, hv⟩) ?_ q.2
     unfold Aok
     split
     ·rename_i q' ho; exact (hno q' ho).elim
     ·trivial
    ·exact q.elim
  ·rename_i hw
   refine fin undef h hJ (.inr ⟨hw, rfl, rfl⟩) ?_ q
   unfold Aok
   split
   ·intro hx; rw [hw] at hx; cases hx
   ·trivial
theorem Amg {ts : T Value} {q : ROp} {v : Value} (hr : ∀ k, J k -> rop ts k q = some v) (hv : veq v v = true) : ∀ (hs : List Aaa), (∀ k ∈ hs, J k) -> Apj ts q v hs = true := by
 intro hs
 induction hs with
 | nil => intro _; rfl
 | cons k hs ih =>
  intro hk
  unfold Apj
  rw [hr k (hk k (by simp))]
  simp only [hv, ih (fun j hj => hk j (List.mem_cons_of_mem _ hj)), Bool.and_true]
theorem Aje {hs : List Aaa} (hk : ∀ k ∈ hs, J k) : ∀ {recs : List Rec} {ws : List (Nat × Nat)}, (∀ r ∈ recs, Aok J r) -> Ac2 hs recs ws = true
 | [], ws, _ => Af4 hs ws
 | r :: rs, [], _ => Ad7 hs (r :: rs)
 | r :: rs, (lo, hi) :: ws, hr => by
  rw [Ad8, Aje hk (fun x hx => hr x (List.mem_cons_of_mem _ hx)), Bool.and_true]
  have h0 := hr r (by simp)
  unfold Aok at h0
  unfold Are
  split
  ·rename_i q ho
   simp only [ho] at h0
   cases Nat.beq lo hi with
   | true => rfl
   | false =>
    simp only [cond_false]
    split
    ·rename_i hw
     obtain ⟨h1, h2⟩ := h0 hw
     exact Amg h1 h2 _ (fun k hk' => hk k (List.mem_of_mem_drop (List.mem_of_mem_take hk')))
    ·rfl
  ·rfl
theorem Agm {Q : Aa6 -> T Value -> Aaa -> Prop} (J : Aaa -> Prop) (cf : Aas) (hcf : Ajj P cf) {l : List Aah} {w : Nat × Nat} {ws : List (Nat × Nat)} (hJ : J h) (x : djf J cf l ts h (Q .normal)) : cwf P N ro (.draw l (w :: ws)) ts h Q := by
 obtain ⟨recs, hs, ts', h', e, e1, e2, e3⟩ := Ah0 hJ x
 refine ⟨_, _, _, Ami hcf ?_, e3⟩
 unfold Aep
 simp only [e]
 rw [Aje (fun k hk => by rcases List.mem_cons.1 hk with hk | hk; rw [hk]; exact hJ; exact e1 k hk) e2]
 rfl
variable {r : List Aah} {dst : Option Nat} {q : AOp} {S : T Value -> Aaa -> Prop}
def bj (J : Aaa -> Prop) (cf : Aas) (r : List Aah) (ts : T Value) (dst : Option Nat) (h : Aaa) (S : T Value -> Aaa -> Prop) (v : Value) : Prop := djf J cf r (Abr ts dst v) h S
def bj2 (J : Aaa -> Prop) (cf : Aas) (r : List Aah) (ts : T Value) (dst : Option Nat) (S : T Value -> Aaa -> Prop) (v : Value) (k : Aaa) : Prop := J k /\ djf J cf r (Abr ts dst v) k S
theorem Ae1 (v : Value) : bj J cf r ts dst h S v = djf J cf r (Abr ts dst v) h S := (rfl)
theorem Ae6 : djf J cf [] ts h S = S ts h := (rfl)
theorem j_p {q : POp} (hJ : J h) : djf J cf (⟨dst, .p q, none⟩ :: r) ts h S = Ao8 (pop ts q) (bj J cf r ts dst h S) := by
 show (match (match pop ts q with | some v => some (v, h) | none => none) with | some (v, k) => J k /\ djf J cf r (Abr ts dst v) k S | none => False) = _
 cases pop ts q with
 | none => rfl
 | some v => simp [Ao8, bj, hJ]
theorem Add {x : Opd} : djf J cf (⟨dst, .r (.load1 x), none⟩ :: r) ts h S = ∃ v, (∀ k, J k -> ldV k (ev ts x) = some v) /\ veq v v = true /\ bj J cf r ts dst h S v := (rfl)
theorem Ade {f : Nat} {l : List Opd} : djf J cf (⟨dst, .call f l, none⟩ :: r) ts h S = Aqd (cf (.fn f) (evs ts l) h) (bj2 J cf r ts dst S) := (rfl)
theorem Adi (v : Value) (k : Aaa) : bj2 J cf r ts dst S v k = (J k /\ djf J cf r (Abr ts dst v) k S) := (rfl)
theorem Ako {t : Nat} {b : Bool} (hb : isB (Aax ts t) b = true) : djf J cf (⟨dst, q, some (t, b)⟩ :: r) ts h S = djf J cf (⟨dst, q, none⟩ :: r) ts h S := by
 show (match isB (Aax ts t) b with | true => _ | false => _) = _
 rw [hb]; rfl
theorem Ae2 {t : Nat} {b : Bool} (hb : isB (Aax ts t) b = false) : djf J cf (⟨dst, q, some (t, b)⟩ :: r) ts h S = djf J cf r (Abr ts dst undef) h S := by
 show (match isB (Aax ts t) b with | true => _ | false => _) = _
 rw [hb]
end
open Go.RowKit
section
variable {P : Program} {N : Nat} {ro : Option Nat} {cf : Aas} {ts ts' : T Value} {h : Aaa} {J : Nat -> Aaa -> Prop}
def Asi (J : Nat -> Aaa -> Prop) (i : Nat) (hs : List Aaa) : Prop := ∀ j k, hs[j]? = some k -> J (i + j) k
theorem Asi.cons {i : Nat} {k : Aaa} {hs : List Aaa} (a : J i k) (b : Asi J (i + 1) hs) : Asi J i (k :: hs) := by
 intro j m hj
 cases j with
 | zero => simp at hj; subst hj; exact a
 | succ j => simp at hj; have := b j m hj; rwa [show i + 1 + j = i + (j + 1) by omega] at this
variable {r : List Aah} {ws : List (Nat × Nat)} {i lo hi : Nat} {dst : Option Nat} {q : AOp} {S : T Value -> Aaa -> Prop}
end
open Go.RowKit
structure Ae5 (h h' : Aaa) (S : Nat -> Prop) : Prop where
 nq : h.nq <= h'.nq
 lqs : ∀ j, j < h.nq -> ¬ S j -> h'.lqs.get j = h.lqs.get j
 get : ∀ j, j < h.nq -> ¬ S j -> h'.bqs.get j = h.bqs.get j
theorem Ae5.trans {h k m : Aaa} {S T : Nat -> Prop} (a : Ae5 h k S) (b : Ae5 k m T) (hT : ∀ j, j < h.nq -> T j -> S j) : Ae5 h m S :=
 ⟨Nat.le_trans a.nq b.nq, fun j hj hs => by rw [b.lqs j (Nat.lt_of_lt_of_le hj a.nq) (fun ht => hs (hT j hj ht)), a.lqs j hj hs], fun j hj hs => by
  rw [b.get j (Nat.lt_of_lt_of_le hj a.nq) (fun ht => hs (hT j hj ht)), a.get j hj hs]⟩
theorem Ae5.of {h k : Aaa} {S : Nat -> Prop} (a : Ae5 h k S) (m : k.mq = h.mq) : Aa4 h k S := ⟨a.nq, a.lqs, m, a.get⟩
theorem Ae5.less {h k : Aaa} {F : Nat -> Prop} {b : Nat} (a : Ae5 h k (fun j => F j \/ j = b)) (hl : k.lqs.get b = h.lqs.get b) (hb : k.bqs.get b = h.bqs.get b) : Ae5 h k F :=
 ⟨a.nq, fun j hj hs => by
  by_cases e : j = b
  ·rw [e]; exact hl
  ·exact a.lqs j hj (fun x => x.elim hs e), fun j hj hs => by
  by_cases e : j = b
  ·rw [e]; exact hb
  ·exact a.get j hj (fun x => x.elim hs e)⟩
theorem Ae5.mono {h k : Aaa} {S T : Nat -> Prop} (a : Ae5 h k S) (hT : ∀ j, S j -> T j) : Ae5 h k T := ⟨a.nq, fun j hj ht => a.lqs j hj (fun hs => ht (hT j hs)), fun j hj ht => a.get j hj (fun hs => ht (hT j hs))⟩
def Aaa.enter (h : Aaa) (k : Ah9) : Aaa := { h with nq := h.nq + 2, lqs := h.lqs.put (h.nq + 1) k, mq := h.nq :: h.mq }
section
variable {P : Program} {N : Nat} {cf : Aas} {ts : T Value} {h : Aaa} {J : Nat -> Aaa -> Prop} {r : List Aah} {ws : List (Nat × Nat)} {i lo hi : Nat} {dst : Option Nat} {S : T Value -> Aaa -> Prop}
end
open Go.RowKit
abbrev pp (b : Nat) : Value := .pointer (some ⟨b, 0, none⟩)
def qM (d a : Nat) : Aah := ⟨some d, .p (.mov (.t a)), none⟩
def qF (d k a : Nat) : Aah := ⟨some d, .p (.fieldAddr k (.t a)), none⟩
def qN (d a : Nat) : Aah := ⟨some d, .p (.nilchk (.t a)), none⟩
def qL (d a : Nat) : Aah := ⟨some d, .r (.load1 (.t a)), none⟩
def qE (d a : Nat) (k : Int) : Aah := ⟨some d, .p (.bin .eql false (.t a) (.c (.int .i64 k))), none⟩
def qA (d a : Nat) (k : Int) : Aah := ⟨some d, .p (.bin .add false (.t a) (.c (.int .i64 k))), none⟩
def qD (d f : Nat) (l : List Opd) : Aah := ⟨some d, .call f l, none⟩
def qI (d : Nat) (k : Int) : Aah := ⟨some d, .p (.mov (.c (.int .i64 k))), none⟩
def qB (d : Nat) (b : Bool) : Aah := ⟨some d, .p (.mov (.c (.bool b))), none⟩
def qS (n a b : Nat) : Aah := ⟨none, .e (.store n (.t a) (.t b)), none⟩
def qK (n a : Nat) (k : Int) : Aah := ⟨none, .e (.store n (.t a) (.c (.int .i64 k))), none⟩
def qG (d a g : Nat) (b : Bool) : Aah := ⟨some d, .p (.mov (.t a)), some (g, b)⟩
def qX (d i a : Nat) : Aah := ⟨some d, .p (.ext i (.t a)), none⟩
def qZ (d a : Nat) : Aah := ⟨some d, .p (.len false (.t a)), none⟩
def qJ (d a b : Nat) : Aah := ⟨some d, .p (.bin .lss false (.t a) (.t b)), none⟩
def qO (d a b : Nat) : Aah := ⟨some d, .p (.pick (.t a) (.c (.bool true)) (.t b)), none⟩
def qP (d a b : Nat) : Aah := ⟨some d, .p (.pick (.t a) (.t b) (.c (.bool false))), none⟩
def qV (d : Nat) : Aah := ⟨some d, .p (.mov (.c (.slice none 0 0))), none⟩
def qW (d s a b : Nat) : Aah := ⟨some d, .p (.idxS s (.t a) (.t b)), none⟩
def qY (d a : Nat) : Aah := ⟨some d, .p (.not (.t a)), none⟩
def qR (d n a : Nat) : Aah := ⟨some d, .r (.loadN n (.t a)), none⟩
theorem Asc (d a b : Nat) : qO d a b = ⟨some d, .p (.pick (.t a) (.c (.bool true)) (.t b)), none⟩ := (rfl)
theorem Atf (d a b : Nat) : qP d a b = ⟨some d, .p (.pick (.t a) (.t b) (.c (.bool false))), none⟩ := (rfl)
theorem Atc (d : Nat) : qV d = ⟨some d, .p (.mov (.c (.slice none 0 0))), none⟩ := (rfl)
theorem As2 (d s a b : Nat) : qW d s a b = ⟨some d, .p (.idxS s (.t a) (.t b)), none⟩ := (rfl)
theorem Asr (d a : Nat) : qY d a = ⟨some d, .p (.not (.t a)), none⟩ := (rfl)
theorem Ar7 (d n a : Nat) : qR d n a = ⟨some d, .r (.loadN n (.t a)), none⟩ := (rfl)
theorem Asv (d a : Nat) : qM d a = ⟨some d, .p (.mov (.t a)), none⟩ := (rfl)
theorem Arv (d k a : Nat) : qF d k a = ⟨some d, .p (.fieldAddr k (.t a)), none⟩ := (rfl)
theorem As1 (d a : Nat) : qN d a = ⟨some d, .p (.nilchk (.t a)), none⟩ := (rfl)
theorem Ar1 (d a : Nat) : qL d a = ⟨some d, .r (.load1 (.t a)), none⟩ := (rfl)
theorem Ash (d a : Nat) (k : Int) : qE d a k = ⟨some d, .p (.bin .eql false (.t a) (.c (.int .i64 k))), none⟩ := (rfl)
theorem Asm (d a : Nat) (k : Int) : qA d a k = ⟨some d, .p (.bin .add false (.t a) (.c (.int .i64 k))), none⟩ := (rfl)
theorem As4 (d f : Nat) (l : List Opd) : qD d f l = ⟨some d, .call f l, none⟩ := (rfl)
theorem Ary (d : Nat) (k : Int) : qI d k = ⟨some d, .p (.mov (.c (.int .i64 k))), none⟩ := (rfl)
theorem Arz (d : Nat) (b : Bool) : qB d b = ⟨some d, .p (.mov (.c (.bool b))), none⟩ := (rfl)
theorem Ar5 (n a b : Nat) : qS n a b = ⟨none, .e (.store n (.t a) (.t b)), none⟩ := (rfl)
theorem Asw (n a : Nat) (k : Int) : qK n a k = ⟨none, .e (.store n (.t a) (.c (.int .i64 k))), none⟩ := (rfl)
theorem Ate (d a g : Nat) (b : Bool) : qG d a g b = ⟨some d, .p (.mov (.t a)), some (g, b)⟩ := (rfl)
theorem Asp (d i a : Nat) : qX d i a = ⟨some d, .p (.ext i (.t a)), none⟩ := (rfl)
theorem Asz (d a : Nat) : qZ d a = ⟨some d, .p (.len false (.t a)), none⟩ := (rfl)
theorem Asb (d a b : Nat) : qJ d a b = ⟨some d, .p (.bin .lss false (.t a) (.t b)), none⟩ := (rfl)
set_option maxRecDepth 20000
set_option linter.defProp false
def SS := And.intro @pop.eq_1 (And.intro @Aby.eq_1 (And.intro @Aby.eq_2 (And.intro @Aby.eq_3 (And.intro @Aby.eq_4 (And.intro @Aby.eq_5 (And.intro @Aby.eq_6 (And.intro @Aby.eq_7 (And.intro @Aby.eq_8 (And.intro @Aby.eq_9 (And.intro @Aby.eq_10 (And.intro @Aby.eq_11 (And.intro @Aby.eq_12 (And.intro @Aby.eq_13 (And.intro @Aby.eq_14 (And.intro @Aby.eq_15 (And.intro @Aby.eq_16 (And.intro @Aby.eq_17 (And.intro @Aby.eq_18 (And.intro @Aby.eq_19 (And.intro @Aby.eq_20 (And.intro @Aby.eq_21 (And.intro @Aby.eq_22 (And.intro @Aby.eq_23 (And.intro @Aby.eq_24 (And.intro @Aby.eq_25 (And.intro @Aby.eq_26 (And.intro @ev.eq_1 (And.intro @ev.eq_2 (And.intro @evO.eq_1 (And.intro @evO.eq_2 (And.intro @evs.eq_1 (And.intro @evs.eq_2 (And.intro @Abr.eq_1 (And.intro @Abr.eq_2 (And.intro @Ab3.eq_1 (And.intro @Ab3.eq_2 (And.intro @Ac7.eq_1 (And.intro @Ac7.eq_2 (And.intro @Ac7.eq_3 (And.intro @Ac7.eq_4 (And.intro @Ac7.eq_5 (And.intro @Ac7.eq_6 (And.intro @Ac7.eq_7 (And.intro @Ac7.eq_8 (And.intro @Ac7.eq_9 (And.intro @Ac7.eq_10 (And.intro @Ac7.eq_11 (And.intro @Ac7.eq_12 (And.intro @Ac7.eq_13 (And.intro @Ac7.eq_14 (And.intro @Ac7.eq_15 (And.intro @Ac7.eq_16 (And.intro @Ac7.eq_17 (And.intro @Ac7.eq_19 (And.intro @Ac7.eq_20 (And.intro @Ac7.eq_22 (And.intro @Ac7.eq_23 (And.intro @Ac7.eq_24 (And.intro @Ab1.eq_1 (And.intro @Ab1.eq_2 (And.intro @Am6.eq_1 (And.intro @Am6.eq_2 (And.intro @Am6.eq_3 (And.intro @Abs.eq_1 (And.intro @Abs.eq_2 (And.intro @Abs.eq_3 (And.intro @Abs.eq_4 (And.intro @Abs.eq_5 (And.intro @Abs.eq_6 (And.intro @Go.IntKind.bits.eq_1 (And.intro @Go.IntKind.bits.eq_2 (And.intro @Go.IntKind.bits.eq_3 (And.intro @Go.IntKind.bits.eq_4 (And.intro @Go.IntKind.bits.eq_5 (And.intro @Go.IntKind.bits.eq_6 (And.intro @Go.IntKind.bits.eq_7 (And.intro @Go.IntKind.bits.eq_8 (And.intro @st1.eq_1 (And.intro @Asc (And.intro @Atf (And.intro @Atc (And.intro @As2 (And.intro @Asr (And.intro @Ar7 (And.intro @Asv (And.intro @Arv (And.intro @As1 (And.intro @Ar1 (And.intro @Ash (And.intro @Asm (And.intro @As4 (And.intro @Ary (And.intro @Arz (And.intro @Ar5 (And.intro @Asw (And.intro @Ate (And.intro @Asp (And.intro @Asz (And.intro @Asb (And.intro @Apa (And.intro @Apb (And.intro @Ap5 (And.intro @Aqj (And.intro @Apo (And.intro @Aob (And.intro @Al1 (And.intro @Aoc (And.intro @Anb (And.intro @An6 (And.intro @Afv (And.intro @Ah5 (And.intro @Ag3 (And.intro @Agi (And.intro @Ajy (And.intro @Aib (And.intro @Ajs (And.intro @An9 (And.intro @Ap1 (And.intro @Agn (And.intro @Ajw (And.intro @Aig (And.intro @Aj6 (And.intro @Aox (And.intro @Apt (And.intro @o_p (And.intro @o_r (And.intro @o_e (And.intro @Aoi (And.intro @Aty (And.intro @As5 (And.intro @Akw (And.intro @Asn (And.intro @Asl (And.intro @Aqu (And.intro @Aml (And.intro @Ak1 (And.intro @Ape (And.intro @d_p (And.intro @d_r (And.intro @d_e (And.intro @Aqw (And.intro @Atn (And.intro @Arw (And.intro @Alh (And.intro @Apd (And.intro @Ahz (And.intro @Aor (And.intro @An5 (And.intro @Aj9 (And.intro @Ahh (And.intro @Anw (And.intro @An2 (And.intro @An3 (And.intro @Ali (And.intro @Ai5 (And.intro @Aqr (And.intro @Ara (And.intro @Aqp (And.intro @Akm (And.intro @Apz (And.intro @Apm (And.intro @Art (And.intro @Akd (And.intro @Amn (And.intro @App (And.intro @Anx (And.intro @Alt (And.intro @Ak2 (And.intro @Aji (And.intro @List.length_cons.{0} (And.intro @List.length_nil.{0} (And.intro @List.set_cons_zero.{0} (And.intro @List.set_cons_succ.{0} (And.intro @Nat.lt_add_one (And.intro @Int.toNat_natCast (And.intro @Int.natCast_nonneg (And.intro @Nat.zero_mul (And.intro @Nat.mul_one (And.intro @Nat.add_zero (And.intro @Int.natCast_zero (And.intro @Int.natCast_one (And.intro @Int.cast_ofNat_Int (And.intro @Int.sub_zero (And.intro @Akk (And.intro @Ark (And.intro @Ahq (And.intro @Akj (And.intro @Ake (And.intro @Ah6 (And.intro @Option.isNone_some.{0} (And.intro @Option.isNone_none.{0} (And.intro @Ag4 (And.intro @decide_true (And.intro @decide_false (And.intro @cond_true.{1} (And.intro @cond_false.{1} (And.intro @ite_true.{1} (And.intro @ite_false.{1} (And.intro @Bool.true_and (And.intro @Bool.and_true (And.intro @Bool.false_and (And.intro @Bool.and_false (And.intro @Bool.not_true (And.intro @Bool.not_false (And.intro @Nat.zero_add (And.intro @Option.some.injEq.{0} (And.intro @exists_eq_left'.{1} (And.intro @true_and (And.intro @and_true (And.intro @List.getElem?_cons_zero.{0} (And.intro @List.getElem?_cons_succ.{0} (@List.toList_toArray.{0}))))))))))))))))))))))))))))))))))))))))))))))))))))))))))))))))))))))))))))))))))))))))))))))))))))))))))))))))))))))))))))))))))))))))))))))))))))))))))))))))))))))))))))))))))))))))))))))))))))))))))))))))))))
end
end Go.Proofs.YthjhlifbdieibaaGreatDoor.Ai
