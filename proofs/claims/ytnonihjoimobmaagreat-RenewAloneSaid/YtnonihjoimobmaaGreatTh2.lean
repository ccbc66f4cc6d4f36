/- A run of the program's code over an abstract heap, and that it is the model's: part Th2 of the theory. -/
import Derived.Test.YtnonihjoimobmaaGreatTh1
import Derived.ChangeSame
import Derived.WalkKit
import Derived.ProofKit
import Derived.OpenShut
import Derived.Below
namespace Go.Proofs.YtnonihjoimobmaaGreat.Ai
noncomputable section
set_option linter.all false
open Go.RowKit Go.WideShapes Go.ChangeShapes
def T.ofList {α : Type} : List (Nat × α) -> T α
 | [] => .nil
 | (k, x) :: r => (T.ofList r).put k x
theorem T.get_ofList {α : Type} {x : α} {k : Nat} : ∀ {l : List (Nat × α)}, (T.ofList l).get k = some x -> (k, x) ∈ l
 | [], h => by cases h
 | (j, y) :: r, h => by
  simp only [T.ofList] at h
  by_cases hj : k = j
  ·subst hj
   rw [T.get_put_same] at h
   simp only [Option.some.injEq] at h
   simp [h]
  ·rw [T.get_put_other _ _ hj] at h
   exact List.mem_cons_of_mem _ (T.get_ofList h)
def Aze (P : Program) : List (Nat × Aae) -> Prop
 | [] => True
 | (k, x) :: r => Aap P k = some x /\ Aze P r
theorem Aze.mem {P : Program} : ∀ {l : List (Nat × Aae)}, Aze P l -> ∀ {k x}, (k, x) ∈ l -> Aap P k = some x
 | [], _, _, _, h => by cases h
 | (j, y) :: r, ha, k, x, h => by
  rcases List.mem_cons.1 h with h | h
  ·cases h; exact ha.1
  ·exact Aze.mem ha.2 h
theorem A0l {P : Program} {t : T Aae} {l : List (Nat × Aae)} (ht : t = T.ofList l) (ha : Aze P l) : Aa0 P t.get := by
 intro f af h
 rw [ht] at h
 exact ha.mem (T.get_ofList h)
theorem A6v {H : Type} {enc : TypeId × Value -> H} {P : Program} {f : Func} {s : ChangeSpec} {apart fresh handsOn again : Bool} {W W' : World} {args : Array Value} {v : Value} {ds gs : List (DataW H)} {before pa pv : List MemPlace}
  (hW : DataW.Whole enc P f.params.toList s.vars apart W args.toList ds gs before)
  (hres : ∀ (b : Nat) (sp : Nat -> Bool) (hd : Bool), DataW.TrodAll enc P W' b sp hd f.resultTypes.toList (v.resultList f.resultTypes.size) (s.fn H (ds ++ gs)).results [])
  (hargs : ∀ sp : Nat -> Bool, (∀ p ∈ before, sp p.block = true) -> DataW.TrodAll enc P W' 0 sp true f.params.toList args.toList (s.fn H (ds ++ gs)).args pa)
  (hvars : ∀ sp : Nat -> Bool, (∀ p ∈ before, sp p.block = true) -> DataW.TrodVars enc P W' sp s.vars (s.fn H (ds ++ gs)).vars pv)
  (hps : before = pa ++ pv) (hb : Below W.heap.size W W')
  (hok : ∀ (j : Nat) (t : TypeId) (r : Value), f.resultTypes[j]? = some t -> (v.resultList f.resultTypes.size)[j]? = some r -> Value.okWide P W' .any 0 t r) :
  s.post enc P f apart fresh handsOn again W args v W' := by
 have below : ∀ p ∈ before, p.block < W.heap.size := fun p hp => hW.lt p hp
 have inOld : ∀ p ∈ before, (fun b => decide (b < W.heap.size)) p.block = true := fun p hp => by simpa using below p hp
 have may : ∀ p, p ∈ before -> p ∈ before /\ (p ∈ ([] : List MemPlace) \/ p ∈ pa \/ p ∈ pv) := fun p hp => ⟨hp, .inr (by rw [hps, List.mem_append] at hp; exact hp)⟩
 refine ⟨ds, gs, before, [], pa, pv, hW, hres _ _ _, hargs _ inOld, hvars _ inOld, World.keptBut_mono may (hb.frame (· ∈ before)), fun _ => ?_⟩
 obtain ⟨_, _, _, _, _, hz, hn⟩ := hW
 have pall : ∀ p ∈ before, (fun _ : Nat => true) p.block = true := fun _ _ => rfl
 refine ⟨hok, _, _, ([] ++ pa) ++ pv, ⟨[] ++ pa, pv, trodAll_append (hargs _ pall) (hres _ _ _), hvars _ pall, rfl, ?_, ?_⟩, ?_⟩
 ·intro b off hp
  have hin : MemPlace.cell b off ∈ before := by rw [hps]; simpa using hp
  rw [hb.frozen (below _ hin)]
  exact hz b off hin
 ·intro ha
  have := hn ha
  rw [hps] at this
  simpa using this
 ·intro p hp _
  rw [hps]
  simpa using hp
open Go.RowKit
structure Sub (h' h : Aac) : Prop where
 nq : h'.nq = h.nq
 blk : ∀ b k, h'.bqs.get b = some k -> h.bqs.get b = some k
 lqs : ∀ b k, h'.lqs.get b = some k -> h.lqs.get b = some k
 mq : h'.mq = h.mq
theorem Rel.sub {C : Ana} {μ : Map} {h h' : Aac} {B : Fr} {w0 w : World} (R : Rel C μ h B w0 w) (s : Sub h' h) : Rel C μ h' B w0 w :=
 ⟨R.below, R.size, R.zk, fun b e he => by rw [s.nq]; exact R.fresh b e he, fun b k hb => R.blk b k (s.blk b k hb),
  fun b b' k k' e e' hb hb' => R.apart b b' k k' e e' (s.blk b k hb) (s.blk b' k' hb'),
  ⟨fun b k hb => R.aux.loop b k (s.lqs b k hb), fun b b' k k' e e' hb hb' => R.aux.lapart b b' k k' e e' (s.lqs b k hb) (s.lqs b' k' hb'), fun m hm => R.aux.mark m (by rw [<- s.mq]; exact hm), by rw [s.mq]; exact R.aux.mapart⟩⟩
theorem Aa3.sub {P : Program} {f : Nat} {args : List Value} {h h1 h' h2 : Aac} {v : Value} (x : Aa3 P f args h v h') (s1 : Sub h h1) (s2 : Sub h2 h') : Aa3 P f args h1 v h2 :=
 ⟨x.ok, by rw [s2.mq, x.mq, s1.mq], fun B w0 μ w args' R ha => (x.calls B w0 μ w args' (R.sub s1) ha).mono fun e w' ⟨μ', v', q1, q2, q3, q4⟩ => ⟨μ', v', q1, q2, q3.sub s2, q4⟩⟩
def A4t : List Value -> List Value -> Bool
 | [], [] => true
 | a :: l, b :: r => veq a b && A4t l r
 | _, _ => false
theorem Aom : ∀ {a b : List Value}, A4t a b = true -> a = b
 | [], [], _ => rfl
 | a :: l, b :: r, h => by
  simp only [A4t, Bool.and_eq_true] at h
  rw [At8 h.1, Aom h.2]
 | [], _ :: _, h => by cases h
 | _ :: _, [], h => by cases h
def Axt (a b : Blk) : Bool := Nat.beq a.n b.n && Nat.beq a.s b.s && (a.own == b.own) && (a.grown == b.grown) && A4t a.cells b.cells
theorem Ayl {a b : Blk} (h : Axt a b = true) : a = b := by
 simp only [Axt, Bool.and_eq_true, beq_iff_eq] at h
 obtain ⟨⟨⟨⟨h1, h2⟩, h3⟩, h4⟩, h5⟩ := h
 cases a; cases b
 simp only at h1 h2 h3 h4 h5
 rw [Aom h5, Nat.eq_of_beq_eq_true h1, Nat.eq_of_beq_eq_true h2, h3, h4]
def A6q (t : T Blk) : List (Nat × Blk) -> Bool
 | [] => true
 | (b, k) :: r => (match t.get b with
  | some k' => Axt k k'
  | none => false) && A6q t r
theorem As2 {t : T Blk} : ∀ {l : List (Nat × Blk)}, A6q t l = true -> ∀ b k, (b, k) ∈ l -> t.get b = some k
 | [], _, b, k, hm => by cases hm
 | (b0, k0) :: l, h, b, k, hm => by
  simp only [A6q, Bool.and_eq_true] at h
  rcases List.mem_cons.1 hm with hm | hm
  ·cases hm
   have h1 := h.1
   split at h1
   ·rename_i k' hk; rw [hk, Ayl h1]
   ·cases h1
  ·exact As2 h.2 b k hm
def A0y : List Nat -> List Nat -> Bool
 | [], [] => true
 | a :: l, b :: r => Nat.beq a b && A0y l r
 | _, _ => false
theorem Atc : ∀ {a b : List Nat}, A0y a b = true -> a = b
 | [], [], _ => rfl
 | a :: l, b :: r, h => by
  simp only [A0y, Bool.and_eq_true] at h
  rw [Nat.eq_of_beq_eq_true h.1, Atc h.2]
 | [], _ :: _, h => by cases h
 | _ :: _, [], h => by cases h
structure Ajf where
 bl : List (Nat × Blk)
 nq : Nat
 mq : List Nat
def Ajf.heap (p : Ajf) : Aac := ⟨T.ofList p.bl, p.nq, .nil, p.mq⟩
def Ajf.inB (p : Ajf) (h : Aac) : Bool := Nat.beq p.nq h.nq && A0y p.mq h.mq && A6q h.bqs p.bl
theorem Ajf.sub {p : Ajf} {h : Aac} (hp : p.inB h = true) : Sub p.heap h := by
 simp only [Ajf.inB, Bool.and_eq_true] at hp
 refine ⟨Nat.eq_of_beq_eq_true hp.1.1, fun b k hb => As2 hp.2 b k (T.get_ofList hb), fun b k hb => ?_, Atc hp.1.2⟩
 simp [Ajf.heap, T.get_nil] at hb
structure Auh where
 f : Nat
 args : List Value
 h : Ajf
 v : Value
 h' : Ajf
def Atw : List Auh -> Amx
 | [], _, _, _ => none
 | e :: r, f, args, h => bif Nat.beq e.f f && Nat.beq e.h.nq h.nq then (bif A4t e.args args && e.h.inB h then some (e.v, e.h'.heap) else none) else Atw r f args h
def Auh.Ok (P : Program) (e : Auh) : Prop := Aa3 P e.f e.args e.h.heap e.v e.h'.heap
theorem Ayk {P : Program} : ∀ {l : List Auh}, (∀ e ∈ l, e.Ok P) -> Agx P (Atw l)
 | [], _, f, args, h, v, h', hv => by simp [Atw] at hv
 | e :: l, hl, f, args, h, v, h', hv => by
  simp only [Atw] at hv
  cases hc : (Nat.beq e.f f && Nat.beq e.h.nq h.nq) with
  | false => rw [hc] at hv; exact Ayk (fun e he => hl e (List.mem_cons_of_mem _ he)) f args h v h' hv
  | true =>
   rw [hc] at hv; simp only [cond_true] at hv
   simp only [Bool.and_eq_true] at hc
   cases hd : (A4t e.args args && e.h.inB h) with
   | false => rw [hd] at hv; cases hv
   | true =>
    rw [hd] at hv; simp only [cond_true, Option.some.injEq, Prod.mk.injEq] at hv
    simp only [Bool.and_eq_true] at hd
    obtain ⟨rfl, rfl⟩ := hv
    have h1 := Nat.eq_of_beq_eq_true hc.1
    have h2 := Aom hd.1
    subst h1; subst h2
    exact (hl e (by simp)).sub (Ajf.sub hd.2) ⟨rfl, fun _ _ q => q, fun _ _ q => q, rfl⟩
def A6s : Value -> Value -> Bool
 | .tuple a, .tuple b => A4t a.toList b.toList
 | a, b => veq a b
theorem A3l {a b : Value} (h : A6s a b = true) : a = b := by
 unfold A6s at h
 split at h
 ·congr 1
  exact Array.ext' (Aom h)
 ·exact At8 h
def A5g (e : Auh) : Option (Value × Aac) -> Bool
 | some (v, h') => A6s e.v v && e.h'.inB h'
 | none => false
theorem A6p {P : Program} {mm : Amx} {tab : Nat -> Option Aae} (hT : Aa0 P tab) (hM : Agx P mm) {n : Nat} {e : Auh} (h : A5g e (Acn mm tab (Ahc mm tab n) (.fn e.f) e.args e.h.heap) = true) : e.Ok P := by
 unfold A5g at h
 split at h
 ·rename_i v h' hc
  simp only [Bool.and_eq_true] at h
  have h1 := A3l h.1
  have := Aw1 hT hM hc
  rw [<- h1] at this
  exact this.sub ⟨rfl, fun _ _ q => q, fun _ _ q => q, rfl⟩ (Ajf.sub h.2)
 ·cases h
theorem A2w {P : Program} {mm : Amx} {tab : Nat -> Option Aae} (hT : Aa0 P tab) (hM : Agx P mm) {n f : Nat} (h : Asz (Acn mm tab (Ahc mm tab n) (.fn f) [] Af1) = true) (w : World) :
  Calls P f #[] w fun e w' => e = .returned (.bool true) /\ Below w.heap.size w w' := by
 unfold Asz at h
 split at h
 ·rename_i h' hc
  have := ((Afc (B := ⟨w.heap.size, fun _ => none⟩) (w0 := w) hT hM n).fn f [] Af1 _ h' hc).2 _ w [] (A6u w) (.nil _)
  refine this.mono ?_
  rintro e w' ⟨μ', v', rfl, _, R, hv⟩
  exact ⟨by rw [hv.bool], R.below⟩
 ·cases h
open Go.RowKit
structure CSt where
 tl : List (Nat × Value)
 ph : Ajf
def CSt.ts (s : CSt) : T Value := T.ofList s.tl
def CSt.h (s : CSt) : Aac := s.ph.heap
def Aeg (P : Program) (N : Nat) (ro : Option Nat) (ac : Acb) (ts : T Value) (h : Aac) (e : Abz) (ts' : T Value) (h' : Aac) : Prop :=
 ∀ c, Aai P N c = ac -> ∀ (B : Fr) (w0 : World) (μ : Map) (M0 : List Nat) (lr : Option Nat) (a : Act) (w : World), Rel (Cc P) μ h B w0 w -> Abj μ ts a -> a.tmps.size = N -> Arh μ ro lr -> Mk μ M0 h a -> c.wpIn (FW lr) 0 P (Aja P μ N M0 e ts' h' B w0) a w
section
variable {P : Program} {N : Nat} {ro : Option Nat} {ac bc : Acb} {ts t1 ts' : T Value} {h h1 h' : Aac} {e : Abz}
theorem A4b {mm : Amx} {tab : Nat -> Option Aae} (hT : Aa0 P tab) (hM : Agx P mm) {n : Nat} (hv : Ahc mm tab n ro ac ts h = some (e, ts', h')) : Aeg P N ro ac ts h e ts' h' := by
 rintro c rfl B w0 μ M0 lr a w R r hN hro hk
 exact Ah1 (P := P) (B := B) (w0 := w0) n (fun k _ => Apb hT hM k) n (Nat.le_refl _) N c ro lr ts ts' h h' e μ M0 a w hv R r hN hro hk
theorem A5n (x : Aeg P N ro ac ts h .normal t1 h1) (y : Aeg P N ro bc t1 h1 e ts' h') : Aeg P N ro (.seq ac bc) ts h e ts' h' := by
 intro c hc B w0 μ M0 lr a w R r hN hro hk
 cases c with
 | seq c d =>
  simp only [Aai, Acb.seq.injEq] at hc
  refine wpIn_seq (wpIn_mono (x c hc.1 B w0 μ M0 lr a w R r hN hro hk) ?_)
  rintro e1 a1 w1 ⟨rfl, p1, μ2, p3, p4, p5, p6⟩
  simp only [Avp, Exit.then]
  refine wpIn_mono (y d hc.2 B w0 μ2 M0 lr a1 w1 p4 p5 p1 (hro.mono p3) p6) ?_
  rintro e2 a2 w2 ⟨q1, q2⟩
  exact ⟨q1, q2.le p3⟩
 | region id ops d => cases d <;> simp only [Aai] at hc <;> split at hc <;> first | cases hc | (cases hb : (P.follows .mixedOrders && Af5 (Aij [] (ops.toList.map Aeo)) _ (ops.toList.map Aeo)) <;> (rw [hb] at hc; cases hc))
 | cond => simp only [Aai] at hc; split at hc <;> cases hc
 | rangeFunc g ps asg body =>
  simp only [Aai] at hc; split at hc
  ·cases hb : ps.toList.all (Nat.blt · N) <;> (rw [hb] at hc; cases hc)
  ·cases hc
 | _ => simp [Aai] at hc
theorem A1b {id : Nat} (x : Aeg P N ro bc ts h (.exit id) ts' h') : Aeg P N ro (.block id bc) ts h .normal ts' h' := by
 intro c hc B w0 μ M0 lr a w R r hN hro hk
 cases c with
 | block i c =>
  simp only [Aai, Acb.block.injEq] at hc
  obtain ⟨rfl, hc⟩ := hc
  refine wpIn_block (wpIn_mono (x c hc B w0 μ M0 lr a w R r hN hro hk) ?_)
  rintro e1 a1 w1 ⟨rfl, hp⟩
  simp only [Avp, Exit.inBlock, if_true]
  exact ⟨rfl, hp⟩
 | region id ops d => cases d <;> simp only [Aai] at hc <;> split at hc <;> first | cases hc | (cases hb : (P.follows .mixedOrders && Af5 (Aij [] (ops.toList.map Aeo)) _ (ops.toList.map Aeo)) <;> (rw [hb] at hc; cases hc))
 | cond => simp only [Aai] at hc; split at hc <;> cases hc
 | rangeFunc g ps asg body =>
  simp only [Aai] at hc; split at hc
  ·cases hb : ps.toList.all (Nat.blt · N) <;> (rw [hb] at hc; cases hc)
  ·cases hc
 | _ => simp [Aai] at hc
inductive A0a (P : Program) (N : Nat) (ro : Option Nat) (b : Acb) (e : Abz) (ts' : T Value) (h' : Aac) : T Value -> Aac -> Nat -> Prop
 | last {ts : T Value} {h : Aac} (ne : e ≠ .normal) (x : Aeg P N ro b ts h e ts' h') : A0a P N ro b e ts' h' ts h 0
 | step {ts t1 : T Value} {h h1 : Aac} {n : Nat} (x : Aeg P N ro b ts h .normal t1 h1) (y : A0a P N ro b e ts' h' t1 h1 n) : A0a P N ro b e ts' h' ts h (n + 1)
theorem Azz {n : Nat} (x : A0a P N ro bc e ts' h' ts h n) : Aeg P N ro (.loop bc) ts h e ts' h' := by
 intro c hc B w0 μ M0 lr a w R r hN hro hk
 cases c with
 | loop c =>
  simp only [Aai, Acb.loop.injEq] at hc
  refine Ah7 (fun k a' w' => a'.tmps.size = N /\ ∃ ts1 h1 μ1, μ.le μ1 /\ Rel (Cc P) μ1 h1 B w0 w' /\ Abj μ1 ts1 a' /\ Mk μ1 M0 h1 a' /\ A0a P N ro bc e ts' h' ts1 h1 k) ?_ n a w ⟨hN, ts, h, μ, μ.le_refl, R, r, hk, x⟩
  rintro k a1 w1 ⟨hN1, ts1, h1, μ1, hle1, R1, r1, hk1, x1⟩
  cases x1 with
  | last ne y =>
   refine wpIn_mono (y c hc B w0 μ1 M0 lr a1 w1 R1 r1 hN1 (hro.mono hle1) hk1) ?_
   rintro e1 a2 w2 ⟨rfl, hp⟩
   cases e with
   | normal => exact (ne rfl).elim
   | exit id => exact ⟨rfl, hp.le hle1⟩
   | ret => exact ⟨rfl, hp.le hle1⟩
  | step y z =>
   refine wpIn_mono (y c hc B w0 μ1 M0 lr a1 w1 R1 r1 hN1 (hro.mono hle1) hk1) ?_
   rintro e1 a2 w2 ⟨rfl, p1, μ2, p3, p4, p5, p6⟩
   exact ⟨_, Nat.lt_succ_self _, p1, _, _, μ2, hle1.trans p3, p4, p5, p6, z⟩
 | region id ops d => cases d <;> simp only [Aai] at hc <;> split at hc <;> first | cases hc | (cases hb : (P.follows .mixedOrders && Af5 (Aij [] (ops.toList.map Aeo)) _ (ops.toList.map Aeo)) <;> (rw [hb] at hc; cases hc))
 | cond => simp only [Aai] at hc; split at hc <;> cases hc
 | rangeFunc g ps asg body =>
  simp only [Aai] at hc; split at hc
  ·cases hb : ps.toList.all (Nat.blt · N) <;> (rw [hb] at hc; cases hc)
  ·cases hc
 | _ => simp [Aai] at hc
def fin (ex : ExF) (b : Acb) : Nat -> T Value -> Aac -> Option (Abz × T Value × Aac)
 | 0, ts, h => match ex none b ts h with
  | some (.normal, _, _) => none
  | r => r
 | k + 1, ts, h => match ex none b ts h with
  | some (.normal, t1, h1) => fin ex b k t1 h1
  | _ => none
def A8v (N : Nat) (t' t : T Value) : Prop := ∀ (μ : Map) (a : Act), a.tmps.size = N -> Abj μ t a -> Abj μ t' a
theorem Aeg.post {t2 : T Value} {h2 : Aac} (x : Aeg P N ro ac ts h e ts' h') (st : A8v N t2 ts') (sh : Sub h2 h') : Aeg P N ro ac ts h e t2 h2 :=
 fun c hc B w0 μ M0 lr a w R r hN hro hk => wpIn_mono (x c hc B w0 μ M0 lr a w R r hN hro hk) (by
  rintro e1 a1 w1 ⟨p0, p1, μ2, p3, p4, p5, new, p6, p7⟩
  exact ⟨p0, p1, μ2, p3, p4.sub sh, st μ2 a1 p1 p5, new, by rw [sh.mq]; exact p6, p7⟩)
theorem A0a.post {t2 : T Value} {h2 : Aac} {m : Nat} (x : A0a P N ro bc e ts' h' ts h m) (st : A8v N t2 ts') (sh : Sub h2 h') : A0a P N ro bc e t2 h2 ts h m := by
 induction x with
 | last ne y => exact .last ne (y.post st sh)
 | step y _ ih => exact .step y ih
def A8r (t' t : T Value) : Nat -> Bool
 | 0 => true
 | k + 1 => (match t'.get k with
  | none => (match t.get k with
   | none => true
   | some v => (match v with
    | .tuple a => a.toList.isEmpty
    | _ => false))
  | some u => A6s u (look t k)) && A8r t' t k
def CSt.inB (s : CSt) (N : Nat) (t : T Value) (h : Aac) : Bool := s.tl.all (fun x => Nat.blt x.1 N) && A8r s.ts t N && s.ph.inB h
theorem CSt.hsub {s : CSt} {t : T Value} {h : Aac} (hs : s.inB N t h = true) : Sub s.h h := by
 simp only [CSt.inB, Bool.and_eq_true] at hs
 exact Ajf.sub hs.2
theorem Aoq {tab : Nat -> Option Aae} (hT : Aa0 P tab) {f : Nat} {af : Aae} (hf : tab f = some af) {args : List Value} (hl : Nat.ble args.length af.n = true) {h2 : Aac} (hb : Aeg P af.n none af.body (Ad1 .nil 0 args) h e ts' h2) (he : ∀ id, e ≠ .exit id) {vs : List Value} (hvs : Ad8 ts' h2 af.res = some vs) :
  ∀ B w0 μ w args', Rel (Cc P) μ h B w0 w -> Aa9 μ args args' -> Calls P f args'.toArray w (Aeu P μ { h2 with mq := h.mq } B w0 (Ag2 vs)) := by
 have ht := hT f af hf
 unfold Aap at ht
 split at ht
 ·rename_i fn hfn
  have hfn' : P.funcs[f]? = some fn := by simpa using hfn
  unfold Akd at ht
  split at ht
  ·rename_i c res hbody hres
   cases hname : fn.name == "runtime.NumGoroutine" with
   | true => rw [hname] at ht; cases ht
   | false =>
    rw [hname] at ht; simp only [cond_false, Option.some.injEq] at ht
    subst ht
    intro B w0 μ w args' R hargs
    have hle := Abe hl
    simp only at hle
    have hsz : (args'.toArray ++ Array.replicate (fn.ntmps - args'.toArray.size) undef).size = fn.ntmps := by
     have := hargs.1
     simp; omega
    have r0 : Abj μ (Ad1 .nil 0 args) { tmps := args'.toArray ++ Array.replicate (fn.ntmps - args'.toArray.size) undef, defers := [] } := by
     intro t
     rw [Ahh]
     simp only [Nat.not_lt_zero, if_false, Nat.zero_add, Nat.sub_zero, Array.getD_eq_getD_getElem?]
     by_cases hlt : t < args.length
     ·rw [if_pos hlt, List.getElem?_eq_getElem hlt]
      have hlt' : t < args'.length := by rw [<- hargs.1]; exact hlt
      rw [Array.getElem?_append_left (by simpa using hlt')]
      simp only [List.getElem?_toArray, List.getElem?_eq_getElem hlt', Option.getD_some]
      exact hargs.2 t _ _ (List.getElem?_eq_getElem hlt) (List.getElem?_eq_getElem hlt')
     ·rw [if_neg hlt]
      rw [Array.getElem?_append_right (by have := hargs.1; simp; omega), Array.getElem?_replicate]
      have : look T.nil t = undef := rfl
      rw [this]
      split <;> exact Agb μ
    have hwp := hb c rfl B w0 μ h.mq none _ w R r0 hsz trivial ⟨[], rfl, rfl⟩
    refine Atj (ro := none) (n := 0) (callsIn_of_wp_marks hfn' hbody trivial (wpIn_mono hwp ?_))
    rintro x a' w' ⟨rfl, p1, μ2, p3, p4, p5, new, m1, m2⟩
    have fin : LeavesInM (FW none) 0 P fn a'.tmps (Aeu P μ { h2 with mq := h.mq } B w0 (Ag2 vs)) a'.defers .returning w' := by
     rw [m2]
     refine Ag4 new h2 w' m1 p4 (fun w3 R3 => ?_)
     have hvs3 : Ad8 ts' { h2 with mq := h.mq } res = some vs := by
      rw [<- hvs]; exact (Ag7 res)
     obtain ⟨vs', g1, g2, g3⟩ := Ajx R3 p5 fn.results.toList res vs hres hvs3
     have hrun := Aie fn.results.toList vs' g3 g2
     refine ⟨Ag2 vs', ?_, μ2, Ag2 vs', rfl, p3, R3, Aql g1⟩
     unfold results
     rw [Array.mapM_eq_mapM_toList]
     simp only [Sem.run_bind, Sem.run_map]
     erw [hrun]
     simp only [Result.andThen_ok, Sem.run_pure]
     rw [At6]
    cases e with
    | normal => exact fin
    | ret => exact fin
    | exit id => exact (he id rfl).elim
  ·cases ht
 ·cases ht
end
open Go.RowKit
section
variable {P : Program} {N : Nat} {ro : Option Nat} {ac bc : Acb} {ts ts' : T Value} {h h' : Aac}
theorem Rel.later {C : Ana} {μ : Map} {h : Aac} {B : Fr} {w0 w w' : World} (R : Rel C μ h B w0 w) (b : Below w.heap.size w w') : Rel C μ h B w0 w' := by
 have hw : ∀ i, i < w.heap.size -> w'.heap[i]? = w.heap[i]? := b.block
 have hlt : ∀ {i : Nat} {o : Obj}, w.heap[i]? = some o -> i < w.heap.size := fun h => (Array.getElem?_eq_some_iff.1 h).1
 refine ⟨R.below.trans (b.mono R.size), Nat.le_trans R.size b.size, fun i o hz => ?_, R.fresh, fun b k hb => ?_, R.apart, R.aux.keep μ.le_refl (Ag9 hw)⟩
 ·have := R.zk i o hz
  rw [hw _ (hlt this)]; exact this
 ·obtain ⟨e, he, x⟩ := R.blk b k hb
  exact ⟨e, he, x.mono μ.le_refl hw⟩
theorem Aa3.frame {f : Nat} {args : List Value} {v : Value} {h0 : Aac} (x : Aa3 P f args Af1 v h0) (ha : args.all Acu = true) (hv : Acu v = true) (h : Aac) : Aa3 P f args h v h := by
 refine ⟨x.ok, rfl, fun B w0 μ w args' R hargs => ?_⟩
 have e : args' = args := by
  apply List.ext_getElem?
  intro i
  cases hi : args[i]? with
  | none =>
   have : args.length <= i := by simpa using hi
   rw [List.getElem?_eq_none (by rw [<- hargs.1]; exact this)]
  | some a =>
   obtain ⟨a', h1, h2⟩ := hargs.get hi
   rw [h1, h2.of_plain (List.all_eq_true.1 ha a (List.mem_of_getElem? hi))]
 subst e
 refine (x.calls ⟨w.heap.size, fun _ => none⟩ w _ w args' (A6u w) (Aa9.of_plain ha)).mono ?_
 rintro e w' ⟨μ', v', rfl, _, R', hv'⟩
 rw [hv'.of_plain hv]
 exact ⟨μ, v, rfl, μ.le_refl, R.later R'.below, .same _ hv⟩
def CW (P : Program) (N : Nat) (ro : Option Nat) (ac : Acb) (ts : T Value) (h : Aac) (Q : Abz -> T Value -> Aac -> Prop) : Prop := ∃ e ts' h', Aeg P N ro ac ts h e ts' h' /\ Q e ts' h'
variable {Q : Abz -> T Value -> Aac -> Prop}
theorem A9h (P : Program) : Aa0 P (fun _ => none) := fun f af h => by cases h
theorem cf0 {e : Abz} (hv : Ahc (fun _ _ _ => none) (fun _ => none) 1 ro ac ts h = some (e, ts', h')) : Aeg P N ro ac ts h e ts' h' := A4b (A9h P) (A13 P) hv
theorem A34 (q : Q .normal ts h) : CW P N ro .skip ts h Q := ⟨_, _, _, cf0 rfl, q⟩
theorem A5h (q : Q .ret ts h) : CW P N ro .ret ts h Q := ⟨_, _, _, cf0 rfl, q⟩
theorem A3p {id : Nat} (q : Q (.exit id) ts h) : CW P N ro (.exit id) ts h Q := ⟨_, _, _, cf0 rfl, q⟩
def A8k (P : Program) (N : Nat) (ro : Option Nat) (bc : Acb) (Q : Abz -> T Value -> Aac -> Prop) : Abz -> T Value -> Aac -> Prop
 | .normal, ts, h => CW P N ro bc ts h Q
 | e, ts, h => Q e ts h
theorem Al1 {e : Abz} (ne : e ≠ .normal) (x : Aeg P N ro ac ts h e ts' h') : Aeg P N ro (.seq ac bc) ts h e ts' h' := by
 intro c hc B w0 μ M0 lr a w R r hN hro hk
 cases c with
 | seq c d =>
  simp only [Aai, Acb.seq.injEq] at hc
  refine wpIn_seq (wpIn_mono (x c hc.1 B w0 μ M0 lr a w R r hN hro hk) ?_)
  rintro e1 a1 w1 ⟨rfl, hp⟩
  cases e with
  | normal => exact (ne rfl).elim
  | exit id => exact ⟨rfl, hp⟩
  | ret => exact ⟨rfl, hp⟩
 | region id ops d => cases d <;> simp only [Aai] at hc <;> split at hc <;> first | cases hc | (cases hb : (P.follows .mixedOrders && Af5 (Aij [] (ops.toList.map Aeo)) _ (ops.toList.map Aeo)) <;> (rw [hb] at hc; cases hc))
 | cond => simp only [Aai] at hc; split at hc <;> cases hc
 | rangeFunc g ps asg body =>
  simp only [Aai] at hc; split at hc
  ·cases hb : ps.toList.all (Nat.blt · N) <;> (rw [hb] at hc; cases hc)
  ·cases hc
 | _ => simp [Aai] at hc
theorem A5l (x : CW P N ro ac ts h (A8k P N ro bc Q)) : CW P N ro (.seq ac bc) ts h Q := by
 obtain ⟨e, t1, h1, c, q⟩ := x
 cases e with
 | normal =>
  obtain ⟨e, t2, h2, d, q⟩ := q
  exact ⟨e, t2, h2, A5n c d, q⟩
 | exit id => exact ⟨_, _, _, Al1 (by simp) c, q⟩
 | ret => exact ⟨_, _, _, Al1 (by simp) c, q⟩
theorem Ayr {c : Opd} {e : Abz} {b : Bool} (hb : ev ts c = .bool b) (x : Aeg P N ro (bif b then ac else bc) ts h e ts' h') : Aeg P N ro (.cond c ac bc) ts h e ts' h' := by
 intro d hd B w0 μ M0 lr a w R r hN hro hk
 cases d with
 | cond c0 x0 y0 =>
  simp only [Aai] at hd
  split at hd
  ·rename_i c' hcc
   simp only [Acb.cond.injEq] at hd
   obtain ⟨rfl, hx, hy⟩ := hd
   have hr := Aag r hcc
   rw [hb] at hr
   cases b with
   | true => exact wpIn_cond_true hr.bool (x x0 hx B w0 μ M0 lr a w R r hN hro hk)
   | false => exact wpIn_cond_false hr.bool (x y0 hy B w0 μ M0 lr a w R r hN hro hk)
  ·cases hd
 | region id ops d => cases d <;> simp only [Aai] at hd <;> split at hd <;> first | cases hd | (cases hb : (P.follows .mixedOrders && Af5 (Aij [] (ops.toList.map Aeo)) _ (ops.toList.map Aeo)) <;> (rw [hb] at hd; cases hd))
 | rangeFunc g ps asg body =>
  simp only [Aai] at hd; split at hd
  ·cases hb : ps.toList.all (Nat.blt · N) <;> (rw [hb] at hd; cases hd)
  ·cases hd
 | _ => simp [Aai] at hd
theorem A3e {c : Opd} {b : Bool} (hb : ev ts c = .bool b) (x : b = true -> CW P N ro ac ts h Q) (y : b = false -> CW P N ro bc ts h Q) : CW P N ro (.cond c ac bc) ts h Q := by
 cases b with
 | true => obtain ⟨e, t, k, d, q⟩ := x rfl; exact ⟨e, t, k, Ayr hb d, q⟩
 | false => obtain ⟨e, t, k, d, q⟩ := y rfl; exact ⟨e, t, k, Ayr hb d, q⟩
theorem Agt {id : Nat} {e : Abz} (ne : e ≠ .exit id) (x : Aeg P N ro bc ts h e ts' h') : Aeg P N ro (.block id bc) ts h e ts' h' := by
 intro c hc B w0 μ M0 lr a w R r hN hro hk
 cases c with
 | block i c =>
  simp only [Aai, Acb.block.injEq] at hc
  obtain ⟨rfl, hc⟩ := hc
  refine wpIn_block (wpIn_mono (x c hc B w0 μ M0 lr a w R r hN hro hk) ?_)
  rintro e1 a1 w1 ⟨rfl, hp⟩
  cases e with
  | normal => exact ⟨rfl, hp⟩
  | exit j =>
   have : j ≠ i := fun hj => ne (by rw [hj])
   simp only [Avp, Exit.inBlock, if_neg this]
   exact ⟨rfl, hp⟩
  | ret => exact ⟨rfl, hp⟩
 | region id ops d => cases d <;> simp only [Aai] at hc <;> split at hc <;> first | cases hc | (cases hb : (P.follows .mixedOrders && Af5 (Aij [] (ops.toList.map Aeo)) _ (ops.toList.map Aeo)) <;> (rw [hb] at hc; cases hc))
 | cond => simp only [Aai] at hc; split at hc <;> cases hc
 | rangeFunc g ps asg body =>
  simp only [Aai] at hc; split at hc
  ·cases hb : ps.toList.all (Nat.blt · N) <;> (rw [hb] at hc; cases hc)
  ·cases hc
 | _ => simp [Aai] at hc
def Aj6 (id : Nat) (Q : Abz -> T Value -> Aac -> Prop) : Abz -> T Value -> Aac -> Prop
 | .exit j, ts, h => if j = id then Q .normal ts h else Q (.exit j) ts h
 | e, ts, h => Q e ts h
theorem A0p {id : Nat} (x : CW P N ro bc ts h (Aj6 id Q)) : CW P N ro (.block id bc) ts h Q := by
 obtain ⟨e, t1, h1, c, q⟩ := x
 cases e with
 | normal => exact ⟨_, _, _, Agt (by simp) c, q⟩
 | ret => exact ⟨_, _, _, Agt (by simp) c, q⟩
 | exit j =>
  simp only [Aj6] at q
  split at q
  ·rename_i hj; subst hj; exact ⟨_, _, _, A1b c, q⟩
  ·rename_i hj; exact ⟨_, _, _, Agt (by simpa using hj) c, q⟩
def Asy (I : Nat -> T Value -> Aac -> Prop) (n : Nat) (Q : Abz -> T Value -> Aac -> Prop) : Abz -> T Value -> Aac -> Prop
 | .normal, ts, h => ∃ m, m < n /\ I m ts h
 | e, ts, h => Q e ts h
theorem Ac6 (I : Nat -> T Value -> Aac -> Prop) (hI : ∀ n ts h, I n ts h -> CW P N ro bc ts h (Asy I n Q)) {n : Nat} {ts : T Value} {h : Aac} (h0 : I n ts h) : CW P N ro (.loop bc) ts h Q := by
 have key : ∀ n ts h, I n ts h -> ∃ e ts' h' m, A0a P N ro bc e ts' h' ts h m /\ Q e ts' h' := by
  intro n
  induction n using Nat.strongRecOn with
  | _ n ih =>
   intro ts h hi
   obtain ⟨e, t1, h1, c, q⟩ := hI n ts h hi
   cases e with
   | normal =>
    obtain ⟨m, hm, hi'⟩ := q
    obtain ⟨e, t2, h2, k, r, q⟩ := ih m hm t1 h1 hi'
    exact ⟨e, t2, h2, _, .step c r, q⟩
   | exit id => exact ⟨_, _, _, _, .last (by simp) c, q⟩
   | ret => exact ⟨_, _, _, _, .last (by simp) c, q⟩
 obtain ⟨e, t, k, m, r, q⟩ := key n ts h h0
 exact ⟨e, t, k, Azz r, q⟩
theorem CW.mono {Q' : Abz -> T Value -> Aac -> Prop} (x : CW P N ro ac ts h Q) (m : ∀ e ts' h', Q e ts' h' -> Q' e ts' h') : CW P N ro ac ts h Q' :=
 let ⟨e, t, k, c, q⟩ := x
 ⟨e, t, k, c, m _ _ _ q⟩
def Ajg (P : Program) (cf : Aa7) : Prop := ∀ B w0, Ae5 P cf B w0
inductive A0d (P : Program) : List Aao -> T Value -> Aac -> T Value -> Aac -> Prop
 | nil {ts : T Value} {h : Aac} : A0d P [] ts h ts h
 | cons {o : Aao} {r : List Aao} {ts ts' : T Value} {h h1 h' : Aac} {v : Value} (cf : Aa7) (hc : Ajg P cf) (hw : Abk ts o.guard = true) (hs : Aby cf ts h o.op = some (v, h1)) (x : A0d P r (Aci ts o.dst v) h1 ts' h') : A0d P (o :: r) ts h ts' h'
 | skip {o : Aao} {r : List Aao} {ts ts' : T Value} {h h' : Aac} (hw : Abk ts o.guard = false) (x : A0d P r (Aci ts o.dst undef) h ts' h') : A0d P (o :: r) ts h ts' h'
theorem A0d.mq {l : List Aao} {ts ts' : T Value} {h h' : Aac} (x : A0d P l ts h ts' h') : h'.mq = h.mq := by
 induction x with
 | nil => rfl
 | cons cf hc _ hs _ ih => rw [ih, Aic (hc ⟨0, fun _ => none⟩ default).mq hs]
 | skip _ _ ih => exact ih
theorem Av3 {ro : Option Nat} {B : Fr} {w0 : World} {ops : Array Oper} {Q : Exit -> Act -> World -> Prop} : ∀ (l : List Oper) (l' : List Aao), Ac3 P N ops l = some l' ->
  ∀ (μ : Map) (h h' : Aac) (ts ts' : T Value) (a : Act) (w : World), Rel (Cc P) μ h B w0 w -> Abj μ ts a -> a.tmps.size = N -> A0d P l' ts h ts' h' -> (∀ a' w', A5m P μ N a.defers ts' h' B w0 a' w' -> Q .normal a' w') ->
  wpListIn (FW ro) 0 P ops Q l a w := by
 intro l
 induction l with
 | nil =>
  intro l' hl μ h h' ts ts' a w R r hN hv hQ
  simp only [Ac3, Option.some.injEq] at hl; subst hl
  cases hv
  exact hQ a w ⟨hN, rfl, μ, μ.le_refl, R, r⟩
 | cons o l ih =>
  intro l' hl μ h h' ts ts' a w R r hN hv hQ
  simp only [Ac3] at hl
  split at hl
  ·rename_i ao l2 hao hl2
   simp only [Option.some.injEq] at hl; subst hl
   have k := Aii hao
   have hw := Ajj k r hN
   have hd : Aoy a.tmps.size o.dst = true := by rw [hN]; exact k.dok
   refine wpListIn_step (fun K hK => ?_)
   cases hv with
   | cons cf hc hwa hs x =>
    rw [hwa] at hw
    rw [if_pos hw]
    refine A30 k.form k.nod (hc B w0) R r hs (fun μ' v' w' hle R' hv' => hK _ _ ?_)
    refine ih l2 hl2 μ' _ h' _ ts' _ w' R' (Ae7 (r.mono hle) hv' hd) (by rw [Ahk]; exact hN) (by rw [<- k.dst]; exact x) (fun a' w'' hp => hQ a' w'' ?_)
    obtain ⟨p1, p2, μ2, p3, p4, p5⟩ := hp
    exact ⟨p1, by rw [p2, Ae1], μ2, hle.trans p3, p4, p5⟩
   | skip hwa x =>
    rw [hwa] at hw
    rw [if_neg (by rw [hw]; simp)]
    refine ⟨fun _ _ => trivial, hK _ _ ?_⟩
    refine ih l2 hl2 μ h h' _ ts' _ w R (Ae7 r (Agb μ) hd) (by rw [Ahk]; exact hN) (by rw [<- k.dst]; exact x) (fun a' w'' hp => hQ a' w'' ?_)
    obtain ⟨p1, p2, μ2, p3, p4, p5⟩ := hp
    exact ⟨p1, by rw [p2, Ae1], μ2, p3, p4, p5⟩
  ·cases hl
theorem A6m {l : List Aao} (x : A0d P l ts h ts' h') : Aeg P N ro (.ops l) ts h .normal ts' h' := by
 intro c hc B w0 μ M0 lr a w R r hN hro hk
 cases c with
 | region id ops d =>
  cases d with
  | false =>
   simp only [Aai] at hc
   split at hc
   ·rename_i l0 hl
    simp only [Acb.ops.injEq] at hc
    subst hc
    exact wpIn_region_list (Av3 ops.toList l0 hl μ h h' ts ts' a w R r hN x (fun a' w' hp => ⟨rfl, hp.x R hk x.mq⟩))
   ·cases hc
  | true =>
   simp only [Aai] at hc
   split at hc
   ·cases hb : (P.follows .mixedOrders && Af5 (Aij [] (ops.toList.map Aeo)) _ (ops.toList.map Aeo)) <;> (rw [hb] at hc; cases hc)
   ·cases hc
 | cond => simp only [Aai] at hc; split at hc <;> cases hc
 | rangeFunc g ps asg body =>
  simp only [Aai] at hc; split at hc
  ·cases hb : ps.toList.all (Nat.blt · N) <;> (rw [hb] at hc; cases hc)
  ·cases hc
 | _ => simp [Aai] at hc
theorem Ak8 {cf : Aa7} (hcf : Ajg P cf) {l : List Aao} {win : List (Nat × Nat)} (hr : Agv cf l win ts h = some (ts', h')) : Aeg P N ro (.draw l win) ts h .normal ts' h' := by
 intro c hc B w0 μ M0 lr a w R r hN hro hk
 cases c with
 | region id ops d =>
  cases d with
  | false =>
   simp only [Aai] at hc
   split at hc <;> cases hc
  | true =>
   simp only [Aai] at hc
   split at hc
   ·rename_i l0 hl
    cases hok : (P.follows .mixedOrders && Af5 (Aij [] (ops.toList.map Aeo)) l0 (ops.toList.map Aeo)) with
    | false => rw [hok] at hc; cases hc
    | true =>
     rw [hok] at hc; simp only [cond_true, Acb.draw.injEq] at hc
     simp only [Bool.and_eq_true] at hok
     obtain ⟨rfl, rfl⟩ := hc
     obtain ⟨recs, hs, htr, hck⟩ := Amy hr
     obtain ⟨hlen, hops⟩ := Agj (P := P) (N := N) (ops := ops) ops.toList l0 hl
     have S := Afv.of hok.2 rfl
     have tr := Atd _ _ _ _ _ _ _ _ htr
     refine wpIn_region_any hok.1 ?_
     refine Atu (Q := Aja P μ N M0 .normal ts' h' B w0) (μ := μ) (ds := a.defers) S (by rw [hlen]; simp) (fun i o ho => hops i o (by simpa using ho)) (fun i o ho => ?_) tr hck (fun B => hcf B w0) (fun a' w' hp => ⟨rfl, hp.x R hk (Aft (hcf B w0).mq _ _ _ _ _ _ _ htr)⟩) ops.size _ a _ ?_ ?_
     ·have : ops.toList[i]? = some o := by simpa using ho
      simp [this]
     ·refine .inl ⟨⟨by rw [hlen]; simp, ?_, hN, rfl, μ, ts, h, μ.le_refl, ?_, R.drew, r, ?_, fun t _ _ => rfl⟩, fun _ hq => ?_⟩
      ·intro i j hi
       simp only [Array.getD_eq_getD_getElem?, Array.getElem?_replicate] at hi
       split at hi <;> simp at hi
      ·have : (List.range l0.length).countP (fun e => Abv l0 e && (Array.replicate ops.size false).getD e false) = 0 := by
        apply List.countP_eq_zero.2
        intro e _
        simp only [Array.getD_eq_getD_getElem?, Array.getElem?_replicate]
        split <;> simp
       rw [this]; rfl
      ·intro j o rj t _ _ _ hl'
       simp only [Array.getD_eq_getD_getElem?, Array.getElem?_replicate] at hl'
       split at hl' <;> simp at hl'
      ·simp only [Array.getD_eq_getD_getElem?, Array.getElem?_replicate] at hq
       split at hq <;> simp at hq
     ·refine Nat.le_trans List.countP_le_length ?_
      rw [List.length_range, hlen]; simp
   ·cases hc
 | cond => simp only [Aai] at hc; split at hc <;> cases hc
 | rangeFunc g ps asg body =>
  simp only [Aai] at hc; split at hc
  ·cases hb : ps.toList.all (Nat.blt · N) <;> (rw [hb] at hc; cases hc)
  ·cases hc
 | _ => simp [Aai] at hc
def OW (P : Program) (l : List Aao) (ts : T Value) (h : Aac) (Q : T Value -> Aac -> Prop) : Prop := ∃ ts' h', A0d P l ts h ts' h' /\ Q ts' h'
theorem A5d {l : List Aao} (x : OW P l ts h (Q .normal)) : CW P N ro (.ops l) ts h Q := let ⟨_, _, r, q⟩ := x; ⟨_, _, _, A6m r, q⟩
def DW (cf : Aa7) (l : List Aao) (ts : T Value) (h : Aac) (Q : T Value -> Aac -> Prop) : Prop := ∃ ts' h', Ahd cf l ts h = some (ts', h') /\ Q ts' h'
theorem A4u (cf : Aa7) (hcf : Ajg P cf) {l : List Aao} (x : DW cf l ts h (Q .normal)) : CW P N ro (.draw l []) ts h Q := let ⟨_, _, r, q⟩ := x; ⟨_, _, _, Ak8 hcf r, q⟩
def Agy : Aa7 := fun _ _ _ => none
theorem Abo : Ajg P Agy := by intro B w0; constructor <;> intro _ _ _ _ _ h <;> cases h
open Classical in
noncomputable def Ad9 (f : Nat) (args : List Value) (h : Aac) (v : Value) (h' : Aac) (cf : Aa7) : Aa7 := fun t a k => if t = .fn f /\ a = args /\ k = h then some (v, h') else cf t a k
theorem Aba {f : Nat} {args : List Value} {h : Aac} {v : Value} {h' : Aac} {cf : Aa7} (x : Aa3 P f args h v h') (y : Ajg P cf) : Ajg P (Ad9 f args h v h' cf) := by
 refine fun B w0 => ⟨fun g a k u k' hv => ?_, fun b a k u k' hv => ?_, fun t a k u k' hv => ?_⟩ <;> unfold Ad9 at hv <;> split at hv
 ·rename_i hc
  obtain ⟨h1, rfl, rfl⟩ := hc
  cases h1; cases hv
  exact ⟨x.ok, x.calls B w0⟩
 ·exact (y B w0).fn _ _ _ _ _ hv
 ·rename_i hc; exact absurd hc.1 (by simp)
 ·exact (y B w0).yield _ _ _ _ _ hv
 ·rename_i hc
  obtain ⟨h1, rfl, rfl⟩ := hc
  cases hv
  exact x.mq
 ·exact (y B w0).mq _ _ _ _ _ hv
theorem Abd {f : Nat} {args : List Value} {h : Aac} {v : Value} {h' : Aac} {cf : Aa7} : Ad9 f args h v h' cf (.fn f) args h = some (v, h') := by simp [Ad9]
theorem Acd {f g : Nat} {args a : List Value} {h k : Aac} {v : Value} {h' : Aac} {cf : Aa7} (n : g ≠ f) : Ad9 f args h v h' cf (.fn g) a k = cf (.fn g) a k := by
 unfold Ad9; rw [if_neg]; rintro ⟨h1, _⟩; cases h1; exact n rfl
variable {R : T Value -> Aac -> Prop} {r : List Aao} {d : Nat}
theorem A52 : OW P [] ts h R ↔ R ts h := ⟨fun ⟨_, _, x, q⟩ => by cases x; exact q, fun q => ⟨_, _, .nil, q⟩⟩
theorem Ala {o : Aao} (cf : Aa7) (hc : Ajg P cf) {v : Value} {h1 : Aac} (hw : Abk ts o.guard = true) (hs : Aby cf ts h o.op = some (v, h1)) (x : OW P r (Aci ts o.dst v) h1 R) : OW P (o :: r) ts h R :=
 let ⟨_, _, y, q⟩ := x
 ⟨_, _, .cons cf hc hw hs y, q⟩
def fnQ (h : Aac) (res : List Ays) (Q : Value -> Aac -> Prop) : Abz -> T Value -> Aac -> Prop
 | .exit _, _, _ => False
 | _, ts, h2 => ∃ vs, Ad8 ts h2 res = some vs /\ Q (Ag2 vs) { h2 with mq := h.mq }
def Aah (P : Program) (f : Nat) (args : List Value) (h : Aac) (Q : Value -> Aac -> Prop) : Prop := ∃ v h', Aa3 P f args h v h' /\ Q v h'
theorem A16 {tab : Nat -> Option Aae} (hT : Aa0 P tab) {f : Nat} {af : Aae} (hf : tab f = some af) {args : List Value} (hl : Nat.ble args.length af.n = true) {h : Aac} {Q : Value -> Aac -> Prop} (hb : CW P af.n none af.body (Ad1 .nil 0 args) h (fnQ h af.res Q)) : Aah P f args h Q := by
 obtain ⟨e, ts', h2, c, q⟩ := hb
 have fin : (∀ id, e ≠ .exit id) -> ∀ vs, Ad8 ts' h2 af.res = some vs -> Aa3 P f args h (Ag2 vs) { h2 with mq := h.mq } := fun ne vs hvs => by
  refine ⟨?_, rfl, fun B w0 μ w args' R ha => Aoq hT hf hl c ne hvs B w0 μ w args' R ha⟩
  have ht := hT f af hf
  unfold Aap at ht
  split at ht
  ·rename_i fn hfn
   have hfn' : P.funcs[f]? = some fn := by simpa using hfn
   unfold Akd at ht
   split at ht
   ·rename_i c res hbody hres
    cases hname : fn.name == "runtime.NumGoroutine" with
    | true => rw [hname] at ht; cases ht
    | false => exact ⟨fn, hfn', by simpa using hname, by simp [hbody]⟩
   ·cases ht
  ·cases ht
 cases e with
 | exit id => exact q.elim
 | normal => obtain ⟨vs, h1, h2⟩ := q; exact ⟨_, _, fin (by simp) vs h1, h2⟩
 | ret => obtain ⟨vs, h1, h2⟩ := q; exact ⟨_, _, fin (by simp) vs h1, h2⟩
structure A4y (P : Program) (b : Nat) (args : List Value) (h : Aac) (v : Value) (h' : Aac) : Prop where
 mq : h'.mq = h.mq
 round : ∀ B w0 μ w args' e, Rel (Cc P) μ h B w0 w -> Aa9 μ args args' -> μ b = some e ->
  ∃ f tmps asg body, (Instr.yield e.blk args'.toArray).run P w = .ok (.round e.blk f tmps asg body) w /\ RoundIn Fence.wide 0 P e.blk f tmps asg body w (Aeu P μ h' B w0 v)
open Classical in
noncomputable def cfY (b : Nat) (args : List Value) (h : Aac) (v : Value) (h' : Aac) (cf : Aa7) : Aa7 := fun t a k => if t = .yield b /\ a = args /\ k = h then some (v, h') else cf t a k
theorem A2s {b : Nat} {args : List Value} {h : Aac} {v : Value} {h' : Aac} {cf : Aa7} (x : A4y P b args h v h') (y : Ajg P cf) : Ajg P (cfY b args h v h' cf) := by
 refine fun B w0 => ⟨fun g a k u k' hv => ?_, fun g a k u k' hv => ?_, fun t a k u k' hv => ?_⟩ <;> unfold cfY at hv <;> split at hv
 ·rename_i hc; exact absurd hc.1 (by simp)
 ·exact (y B w0).fn _ _ _ _ _ hv
 ·rename_i hc
  obtain ⟨h1, rfl, rfl⟩ := hc
  cases h1; cases hv
  exact fun μ w args' e R ha he => x.round B w0 μ w args' e R ha he
 ·exact (y B w0).yield _ _ _ _ _ hv
 ·rename_i hc
  obtain ⟨h1, rfl, rfl⟩ := hc
  cases hv
  exact x.mq
 ·exact (y B w0).mq _ _ _ _ _ hv
theorem A2y {b : Nat} {args : List Value} {h : Aac} {v : Value} {h' : Aac} {cf : Aa7} : cfY b args h v h' cf (.yield b) args h = some (v, h') := by simp [cfY]
def Awm (P : Program) (b : Nat) (args : List Value) (h : Aac) (Q : Value -> Aac -> Prop) : Prop := ∃ v h', A4y P b args h v h' /\ Q v h'
theorem A00 {b : Nat} {args : List Value} {k : Aht} (hk : h.lqs.get b = some k) (hlen : args.length = k.ps.length) (hps : k.ps.all (Nat.blt · k.n) = true) {ts1 ts2 : T Value} {h1 h2 h3 : Aac} {e : Abz} {v : Value}
  (x : Aeg P k.n (some b) k.asg (Al8 k.ts k.ps args) h .normal ts1 h1) (hb : Al2 b h1 = some h2) (y : Aeg P k.n (some b) k.body ts1 h2 e ts2 h3) (he : A03 e b h.mq h3 = some (v, h')) : A4y P b args h v h' := by
 refine ⟨Ani he, fun B w0 μ w args' E R hargs hE => ?_⟩
 obtain ⟨e', he', old, r, h1', h2', h3', h4, h5, h6, h7, h8⟩ := R.aux.loop b k hk
 rw [hE] at he'; cases he'
 have hsz : args'.toArray.size = r.params.size := by
  rw [<- Array.length_toList (xs := r.params), h4, <- hlen, hargs.1]; simp
 refine ⟨r.fn, _, r.assign, r.body, run_yield h1' hsz, ?_⟩
 have hfold : (r.params.zip args'.toArray).foldl (fun (tmps : Array Value) (x : Tmp × Value) => tmps.setIfInBounds x.1 x.2) r.tmps = (k.ps.zip args').foldl (fun (t : Array Value) (x : Tmp × Value) => t.setIfInBounds x.1 x.2) r.tmps := by
  rw [<- Array.foldl_toList, Array.toList_zip, h4]
 rw [hfold]
 have r0 := Aky k.ps args args' k.ts r.tmps hargs hlen (by rw [h5]; exact hps) h6
 have hwp := x r.assign h7 B w0 μ h.mq (some E.blk) _ w R r0 (by rw [Ajl]; exact h5) ⟨E, hE, rfl⟩ ⟨[], rfl, rfl⟩
 refine roundIn_of_wpIn (F := FW none) trivial (wpIn_mono hwp ?_)
 rintro x a1 w1 ⟨rfl, p1, μ1, p3, p4, p5, p6⟩
 obtain ⟨w2, q1, q2, q3⟩ := Aj9 (P := P) p4 (p3 _ _ hE) hb
 refine ⟨w2, q1, ?_⟩
 have hk1 : Mk μ1 h.mq h2 a1 := p6.step p4 μ1.le_refl q3 rfl
 have hwp2 := y r.body h8 B w0 μ1 h.mq (some E.blk) a1 w2 q2 p5 p1 ⟨E, p3 _ _ hE, rfl⟩ hk1
 refine wpIn_mono hwp2 ?_
 rintro x a2 w3 ⟨rfl, s1, μ2, s3, s4, s5, new, s6, s7⟩
 have hsub : h.mq.Sublist h3.mq := by rw [s6]; exact List.sublist_append_right _ _
 obtain ⟨w4, u1, u2, u3⟩ := Ams (P := P) s4 (s3 _ _ (p3 _ _ hE)) hsub he
 cases e with
 | normal => exact ⟨v, w4, u1, μ2, v, rfl, p3.trans s3, u2, u3⟩
 | ret => exact ⟨v, w4, u1, μ2, v, rfl, p3.trans s3, u2, u3⟩
 | exit id => exact ⟨v, w4, u1, μ2, v, rfl, p3.trans s3, u2, u3⟩
theorem A0e {cf : Aa7} (hcf : Ajg P cf) {g : Opd} {ps : List Nat} {asg body : Acb} {f : Nat} {fs cs : Array Value} {b : Nat} {h1 h2 : Aac} {u : Value} {e : Abz} (hg : ev ts g = .func (.func f) fs cs)
  (hen : Al3 ro { ts := ts, n := N, ps := ps, asg := asg, body := body, st := 0, pend := none } h = some (b, h1)) (hcl : cf (.fn f) (fs.toList ++ [.func (.yield b) #[] #[]] ++ cs.toList) h1 = some (u, h2)) (hend : A29 b ts h2 = some (e, ts', h')) : Aeg P N ro (.rangeF g N ps asg body) ts h e ts' h' := by
 intro c hc B w0 μ M0 lr a w R r hN hro hk
 cases c with
 | rangeFunc g0 ps0 asg0 body0 =>
  simp only [Aai] at hc
  split at hc
  ·rename_i g' hg'
   cases hps : ps0.toList.all (Nat.blt · N) with
   | false => rw [hps] at hc; cases hc
   | true =>
    rw [hps] at hc; simp only [cond_true, Acb.rangeF.injEq] at hc
    obtain ⟨rfl, _, rfl, rfl, rfl⟩ := hc
    have hr := Aag r hg'
    rw [hg] at hr
    have hcm := hcf B w0
    obtain ⟨g1, g2⟩ := hcm.fn f _ h1 u h2 hcl
    have hX : ∃ fs' cs' : Array Value, a.eval g0 = .func (.func f) fs' cs' /\ Aa9 μ fs.toList fs'.toList /\ Aa9 μ cs.toList cs'.toList := by
     generalize a.eval g0 = X at hr
     cases hr with
     | same _ hp => simp [Acu] at hp
     | func _ _ fs' _ cs' q0 q1 q2 q3 q4 => exact ⟨fs', cs', rfl, ⟨q1, q2⟩, ⟨q3, q4⟩⟩
    obtain ⟨fs', cs', hX, k1, k2⟩ := hX
    refine wpIn_rangeFunc (fun fn _ => ?_)
    obtain ⟨μ1, E, mark, w1, en1, en2, en3, en4, en5⟩ := Aj4 (P := P) R hro hen (a := a) (ps := ps0) (assign := asg0) (body := body0) rfl rfl r hN rfl rfl rfl fn
    have hy : Ab9 μ1 (.func (.yield b) #[] #[]) (.func (.yield E.blk) #[] #[]) := .yield b E en3
    have g3 := g2 μ1 w1 (fs'.toList ++ [.func (.yield E.blk) #[] #[]] ++ cs'.toList) en4 (((k1.mono en2).append (.single hy)).append (k2.mono en2))
    have e1 : (fs'.toList ++ [Value.func (.yield E.blk) #[] #[]] ++ cs'.toList).toArray = fs' ++ (#[.func (.yield E.blk) #[] #[]] ++ cs') := by apply Array.ext'; simp
    rw [e1] at g3
    have hinv := Aei g1 (fs' ++ (#[.func (.yield E.blk) #[] #[]] ++ cs')) w1
    refine ⟨E.blk, mark, w1, { target := .fn (.func f) cs', args := fs' ++ #[.func (.yield E.blk) #[] #[]] }, w1, f, fs' ++ (#[.func (.yield E.blk) #[] #[]] ++ cs'), w1, en1, ?_, ?_, ?_, Ahz, ?_⟩
    ·simp [resolve, hX, Deferred.ofValue, show ∀ v, a.eval (.const v) = v from fun _ => rfl]
    ·intro _ _; trivial
    ·rw [<- Array.append_assoc] at hinv ⊢
     simpa only [invoke] using hinv
    ·refine Af3 (g3.mono ?_)
     rintro x w' ⟨μ2, v', rfl, q1, q2, _⟩
     obtain ⟨rfl, jump, w'', j1, j2, j3, j4⟩ := Am2 (P := P) q2 (q1 _ _ en3) hend
     have hm2 : h2.mq = h1.mq := hcm.mq _ _ _ _ _ hcl
     have hk2 : Mk μ2 M0 h' { a with defers := mark ++ a.defers } := (en5 M0 hk).step en4 q1 (by rw [j3, hm2]) rfl
     have hp : Ary P μ N M0 ts' h' B w0 { a with defers := mark ++ a.defers } w'' := ⟨hN, μ2, en2.trans q1, j2, r.mono (en2.trans q1), hk2⟩
     refine ⟨jump, w'', j1, ?_⟩
     rcases j4 with ⟨rfl, rfl⟩ | ⟨rfl, rfl⟩ | ⟨id, rfl, rfl⟩
     ·exact ⟨rfl, hp⟩
     ·exact wpIn_ret ⟨rfl, hp⟩
     ·exact wpIn_exit ⟨rfl, hp⟩
  ·cases hc
 | region id ops d => cases d <;> simp only [Aai] at hc <;> split at hc <;> first | cases hc | (cases hb : (P.follows .mixedOrders && Af5 (Aij [] (ops.toList.map Aeo)) _ (ops.toList.map Aeo)) <;> (rw [hb] at hc; cases hc))
 | cond => simp only [Aai] at hc; split at hc <;> cases hc
 | _ => simp [Aai] at hc
def owf (P : Program) : List Aao -> T Value -> Aac -> (T Value -> Aac -> Prop) -> Prop
 | [], ts, h, Q => Q ts h
 | o :: r, ts, h, Q => match Abk ts o.guard with
  | true => (match o.op with
   | .call f l => Aah P f (evs ts l) h (fun v k => owf P r (Aci ts o.dst v) k Q)
   | .callv x l => (match ev ts x with
    | .func (.func f) fs cs => Aah P f (fs.toList ++ evs ts l ++ cs.toList) h (fun v k => owf P r (Aci ts o.dst v) k Q)
    | .func (.yield b) _ _ => Awm P b (evs ts l) h (fun v k => owf P r (Aci ts o.dst v) k Q)
    | _ => False)
   | .invoke tbl x l => (match ev ts x with
    | .iface t v => (match Aw6 t tbl with
     | some f => Aah P f (v :: evs ts l) h (fun v k => owf P r (Aci ts o.dst v) k Q)
     | none => False)
    | _ => False)
   | q => (match Aby Agy ts h q with
    | some (v, k) => owf P r (Aci ts o.dst v) k Q
    | none => False))
  | false => owf P r (Aci ts o.dst undef) h Q
theorem Al4 {Q : T Value -> Aac -> Prop} : ∀ {l : List Aao} {ts : T Value} {h : Aac}, owf P l ts h Q -> OW P l ts h Q
 | [], ts, h, q => A52.2 q
 | o :: r, ts, h, q => by
  unfold owf at q
  split at q
  ·rename_i hw
   split at q
   ·rename_i f l ho
    obtain ⟨v, h1, F, q⟩ := q
    exact Ala (Ad9 f (evs ts l) h v h1 Agy) (Aba F Abo) hw (v := v) (h1 := h1) (by simp only [Aby, Acc, ho]; exact Abd) (Al4 q)
   ·rename_i x l ho
    split at q
    ·rename_i f fs cs he
     obtain ⟨v, h1, F, q⟩ := q
     exact Ala (Ad9 f (fs.toList ++ evs ts l ++ cs.toList) h v h1 Agy) (Aba F Abo) hw (v := v) (h1 := h1) (by simp only [Aby, Acc, ho, he]; exact Abd) (Al4 q)
    ·rename_i b fs cs he
     obtain ⟨v, h1, F, q⟩ := q
     exact Ala (cfY b (evs ts l) h v h1 Agy) (A2s F Abo) hw (v := v) (h1 := h1) (by simp only [Aby, Acc, ho, he]; exact A2y) (Al4 q)
    ·exact q.elim
   ·rename_i tbl x l ho
    split at q
    ·rename_i t0 v0 he
     split at q
     ·rename_i f hf
      obtain ⟨v, h1, F, q⟩ := q
      exact Ala (Ad9 f (v0 :: evs ts l) h v h1 Agy) (Aba F Abo) hw (v := v) (h1 := h1) (by simp only [Aby, Acc, ho, he, hf]; exact Abd) (Al4 q)
     ·exact q.elim
    ·exact q.elim
   ·split at q
    ·rename_i v h1 hs
     exact Ala Agy Abo hw hs (Al4 q)
    ·exact q.elim
  ·rename_i hw
   obtain ⟨ts', h', y, q⟩ := Al4 q
   exact ⟨_, _, .skip hw y, q⟩
def behind (P : Program) (r : List Aao) (ts : T Value) (dst : Option Nat) (Q : T Value -> Aac -> Prop) (v : Value) (h : Aac) : Prop := owf P r (Aci ts dst v) h Q
variable {q : AOp} {dst : Option Nat} {S : T Value -> Aac -> Prop}
theorem Akj : owf P [] ts h S = S ts h := (rfl)
theorem A66 {q : POp} : owf P (⟨dst, .p q, none⟩ :: r) ts h S = match pop ts q with | some v => owf P r (Aci ts dst v) h S | none => False := by
 show (match (match pop ts q with | some v => some (v, h) | none => none) with | some (v, k) => owf P r (Aci ts dst v) k S | none => False) = _
 cases pop ts q <;> rfl
theorem A68 {q : ROp} : owf P (⟨dst, .r q, none⟩ :: r) ts h S = match rop ts h q with | some v => owf P r (Aci ts dst v) h S | none => False := by
 show (match (match rop ts h q with | some v => some (v, h) | none => none) with | some (v, k) => owf P r (Aci ts dst v) k S | none => False) = _
 cases rop ts h q <;> rfl
theorem A7d {q : EOp} : owf P (⟨dst, .e q, none⟩ :: r) ts h S = match eop ts h q with | some (v, k) => owf P r (Aci ts dst v) k S | none => False := (rfl)
theorem A02 {f : Nat} {l : List Opd} : owf P (⟨dst, .call f l, none⟩ :: r) ts h S = Aah P f (evs ts l) h (behind P r ts dst S) := (rfl)
def Ar8 (P : Program) (x : Value) (args : List Value) (h : Aac) (Q : Value -> Aac -> Prop) : Prop := match x with
 | .func (.func f) fs cs => Aah P f (fs.toList ++ args ++ cs.toList) h Q
 | .func (.yield b) _ _ => Awm P b args h Q
 | _ => False
theorem Ay2 {f : Nat} {fs cs : Array Value} {args : List Value} {Q : Value -> Aac -> Prop} : Ar8 P (.func (.func f) fs cs) args h Q = Aah P f (fs.toList ++ args ++ cs.toList) h Q := (rfl)
theorem Aq3 {b : Nat} {fs cs : Array Value} {args : List Value} {Q : Value -> Aac -> Prop} : Ar8 P (.func (.yield b) fs cs) args h Q = Awm P b args h Q := (rfl)
theorem A3b {x : Opd} {l : List Opd} : owf P (⟨dst, .callv x l, none⟩ :: r) ts h S = Ar8 P (ev ts x) (evs ts l) h (behind P r ts dst S) := (rfl)
theorem Ao9 {t : Nat} {b : Bool} : owf P (⟨dst, q, some (t, b)⟩ :: r) ts h S = bif isB (look ts t) b then owf P (⟨dst, q, none⟩ :: r) ts h S else owf P r (Aci ts dst undef) h S := by
 show (match isB (look ts t) b with | true => _ | false => _) = _
 cases isB (look ts t) b <;> rfl
def dwf (cf : Aa7) : List Aao -> T Value -> Aac -> (T Value -> Aac -> Prop) -> Prop
 | [], ts, h, Q => Q ts h
 | o :: r, ts, h, Q => match Abk ts o.guard with
  | true => (match Aby cf ts h o.op with
    | some (v, k) => dwf cf r (Aci ts o.dst v) k Q
    | none => False)
  | false => dwf cf r (Aci ts o.dst undef) h Q
theorem Aym {cf : Aa7} {Q : T Value -> Aac -> Prop} : ∀ {l : List Aao} {ts : T Value} {h : Aac}, dwf cf l ts h Q -> DW cf l ts h Q
 | [], ts, h, q => ⟨ts, h, rfl, q⟩
 | o :: r, ts, h, q => by
  unfold dwf at q
  split at q
  ·rename_i hw
   split at q
   ·rename_i v h1 hs
    obtain ⟨ts', h', y, q⟩ := Aym q
    exact ⟨ts', h', by rw [Ade, hw]; simp only [hs]; exact y, q⟩
   ·exact q.elim
  ·rename_i hw
   obtain ⟨ts', h', y, q⟩ := Aym q
   exact ⟨ts', h', by rw [Ade, hw]; exact y, q⟩
variable {cf : Aa7}
theorem A26 : dwf cf [] ts h S = S ts h := (rfl)
theorem A7m {q : POp} : dwf cf (⟨dst, .p q, none⟩ :: r) ts h S = match pop ts q with | some v => dwf cf r (Aci ts dst v) h S | none => False := by
 show (match (match pop ts q with | some v => some (v, h) | none => none) with | some (v, k) => dwf cf r (Aci ts dst v) k S | none => False) = _
 cases pop ts q <;> rfl
theorem A7i {q : ROp} : dwf cf (⟨dst, .r q, none⟩ :: r) ts h S = match rop ts h q with | some v => dwf cf r (Aci ts dst v) h S | none => False := by
 show (match (match rop ts h q with | some v => some (v, h) | none => none) with | some (v, k) => dwf cf r (Aci ts dst v) k S | none => False) = _
 cases rop ts h q <;> rfl
theorem A8c {q : EOp} : dwf cf (⟨dst, .e q, none⟩ :: r) ts h S = match eop ts h q with | some (v, k) => dwf cf r (Aci ts dst v) k S | none => False := (rfl)
theorem A0k {f : Nat} {l : List Opd} : dwf cf (⟨dst, .call f l, none⟩ :: r) ts h S = match cf (.fn f) (evs ts l) h with | some (v, k) => dwf cf r (Aci ts dst v) k S | none => False := (rfl)
theorem Aot {t : Nat} {b : Bool} : dwf cf (⟨dst, q, some (t, b)⟩ :: r) ts h S = bif isB (look ts t) b then dwf cf (⟨dst, q, none⟩ :: r) ts h S else dwf cf r (Aci ts dst undef) h S := by
 show (match isB (look ts t) b with | true => _ | false => _) = _
 cases isB (look ts t) b <;> rfl
def cwf (P : Program) (N : Nat) (ro : Option Nat) : Acb -> T Value -> Aac -> (Abz -> T Value -> Aac -> Prop) -> Prop
 | .skip, ts, h, Q => Q .normal ts h
 | .ret, ts, h, Q => Q .ret ts h
 | .exit id, ts, h, Q => Q (.exit id) ts h
 | .ops l, ts, h, Q => owf P l ts h (Q .normal)
 | .draw l [], ts, h, Q => ∃ cf, Ajg P cf /\ dwf cf l ts h (Q .normal)
 | .seq a b, ts, h, Q => cwf P N ro a ts h (fun e t k => match e with | .normal => cwf P N ro b t k Q | e => Q e t k)
 | .cond c a b, ts, h, Q => match ev ts c with
  | .bool β => bif β then cwf P N ro a ts h Q else cwf P N ro b ts h Q
  | _ => False
 | .block id b, ts, h, Q => cwf P N ro b ts h (Aj6 id Q)
 | c, ts, h, Q => CW P N ro c ts h Q
def andThen (P : Program) (N : Nat) (ro : Option Nat) (b : Acb) (Q : Abz -> T Value -> Aac -> Prop) (e : Abz) (ts : T Value) (h : Aac) : Prop := match e with
 | .normal => cwf P N ro b ts h Q
 | e => Q e ts h
theorem Acf : ∀ {c : Acb} {ts : T Value} {h : Aac} {Q : Abz -> T Value -> Aac -> Prop}, cwf P N ro c ts h Q -> CW P N ro c ts h Q := by
 intro c
 induction c with
 | skip => exact fun q => A34 q
 | ret => exact fun q => A5h q
 | exit id => exact fun q => A3p q
 | ops l => exact fun q => A5d (Al4 q)
 | draw l win =>
  intro ts h Q q
  cases win with
  | nil => obtain ⟨cf, hcf, q⟩ := q; exact A4u cf hcf (Aym q)
  | cons => exact q
 | seq a b iha ihb =>
  intro ts h Q q
  refine A5l ((iha q).mono ?_)
  intro e t k q
  cases e with
  | normal => exact ihb q
  | exit id => exact q
  | ret => exact q
 | cond c a b iha ihb =>
  intro ts h Q q
  unfold cwf at q
  split at q
  ·rename_i β hb
   refine A3e hb (fun h1 => ?_) (fun h1 => ?_)
   ·subst h1; exact iha q
   ·subst h1; exact ihb q
  ·exact q.elim
 | block id b ih => exact fun q => A0p (ih q)
 | loop b _ => exact fun q => q
 | rangeF g n ps asg body _ _ => exact fun q => q
 | bad => exact fun q => q
theorem Agg {S S' : T Value -> Aac -> Prop} (m : ∀ ts h, S ts h -> S' ts h) : ∀ {l : List Aao} {ts : T Value} {h : Aac}, owf P l ts h S -> owf P l ts h S'
 | [], ts, h, q => m _ _ q
 | o :: r, ts, h, q => by
  unfold owf at q ⊢
  split at q
  ·split at q
   ·obtain ⟨v, k, F, q⟩ := q; exact ⟨v, k, F, Agg m q⟩
   ·split at q
    ·obtain ⟨v, k, F, q⟩ := q; exact ⟨v, k, F, Agg m q⟩
    ·obtain ⟨v, k, F, q⟩ := q; exact ⟨v, k, F, Agg m q⟩
    ·exact q.elim
   ·split at q
    ·split at q
     ·obtain ⟨v, k, F, q⟩ := q; exact ⟨v, k, F, Agg m q⟩
     ·exact q.elim
    ·exact q.elim
   ·split at q
    ·exact Agg m q
    ·exact q.elim
  ·exact Agg m q
theorem An6 {cf : Aa7} {S S' : T Value -> Aac -> Prop} (m : ∀ ts h, S ts h -> S' ts h) : ∀ {l : List Aao} {ts : T Value} {h : Aac}, dwf cf l ts h S -> dwf cf l ts h S'
 | [], ts, h, q => m _ _ q
 | o :: r, ts, h, q => by
  unfold dwf at q ⊢
  split at q
  ·split at q
   ·exact An6 m q
   ·exact q.elim
  ·exact An6 m q
theorem Atm : ∀ {c : Acb} {ts : T Value} {h : Aac} {Q Q' : Abz -> T Value -> Aac -> Prop}, cwf P N ro c ts h Q -> (∀ e ts h, Q e ts h -> Q' e ts h) -> cwf P N ro c ts h Q' := by
 intro c
 induction c with
 | skip => exact fun q m => m _ _ _ q
 | ret => exact fun q m => m _ _ _ q
 | exit id => exact fun q m => m _ _ _ q
 | ops l => exact fun q m => Agg (m _) q
 | draw l win =>
  intro ts h Q Q' q m
  cases win with
  | nil => obtain ⟨cf, hcf, q⟩ := q; exact ⟨cf, hcf, An6 (m _) q⟩
  | cons => exact CW.mono q m
 | seq a b iha ihb =>
  intro ts h Q Q' q m
  refine iha q ?_
  intro e t k q
  cases e with
  | normal => exact ihb q m
  | exit id => exact m _ _ _ q
  | ret => exact m _ _ _ q
 | cond c a b iha ihb =>
  intro ts h Q Q' q m
  unfold cwf at q ⊢
  split at q
  ·rename_i β hb
   cases β with
   | true => exact iha q m
   | false => exact ihb q m
  ·exact q.elim
 | block id b ih =>
  intro ts h Q Q' q m
  refine ih q ?_
  intro e t k q
  cases e with
  | normal => exact m _ _ _ q
  | ret => exact m _ _ _ q
  | exit j =>
   simp only [Aj6] at q ⊢
   split at q
   ·rename_i e; rw [if_pos e]; exact m _ _ _ q
   ·rename_i e; rw [if_neg e]; exact m _ _ _ q
 | loop b _ => exact fun q m => CW.mono q m
 | rangeF g n ps asg body _ _ => exact fun q m => CW.mono q m
 | bad => exact fun q m => CW.mono q m
variable {Z : Abz -> T Value -> Aac -> Prop}
theorem A0j : cwf P N ro .skip ts h Z = Z .normal ts h := (rfl)
theorem Azf : cwf P N ro .ret ts h Z = Z .ret ts h := (rfl)
theorem A2j {id : Nat} : cwf P N ro (.exit id) ts h Z = Z (.exit id) ts h := (rfl)
theorem Ar0 {l : List Aao} : cwf P N ro (.ops l) ts h Z = owf P l ts h (Z .normal) := (rfl)
theorem A0i {l : List Aao} : cwf P N ro (.draw l []) ts h Z = ∃ cf, Ajg P cf /\ dwf cf l ts h (Z .normal) := (rfl)
theorem Ant : cwf P N ro (.seq ac bc) ts h Z = cwf P N ro ac ts h (andThen P N ro bc Z) := (rfl)
theorem Atf {c : Opd} : cwf P N ro (.cond c ac bc) ts h Z = match ev ts c with | .bool β => bif β then cwf P N ro ac ts h Z else cwf P N ro bc ts h Z | _ => False := (rfl)
theorem Ai1 {id : Nat} : cwf P N ro (.block id bc) ts h Z = cwf P N ro bc ts h (Aj6 id Z) := (rfl)
theorem Asu : cwf P N ro (.loop bc) ts h Z = CW P N ro (.loop bc) ts h Z := (rfl)
theorem Ab1 : andThen P N ro bc Z .normal ts h = cwf P N ro bc ts h Z := (rfl)
theorem Arm : andThen P N ro bc Z .ret ts h = Z .ret ts h := (rfl)
theorem Ao0 {id : Nat} : andThen P N ro bc Z (.exit id) ts h = Z (.exit id) ts h := (rfl)
theorem Agq {id : Nat} : Aj6 id Z .normal ts h = Z .normal ts h := (rfl)
theorem Avn {id : Nat} : Aj6 id Z .ret ts h = Z .ret ts h := (rfl)
theorem Aia {id j : Nat} : Aj6 id Z (.exit j) ts h = if j = id then Z .normal ts h else Z (.exit j) ts h := (rfl)
theorem Ans {I : Nat -> T Value -> Aac -> Prop} {n : Nat} : Asy I n Z .normal ts h = ∃ m, m < n /\ I m ts h := (rfl)
theorem Awc {I : Nat -> T Value -> Aac -> Prop} {n : Nat} : Asy I n Z .ret ts h = Z .ret ts h := (rfl)
theorem Aso {I : Nat -> T Value -> Aac -> Prop} {n id : Nat} : Asy I n Z (.exit id) ts h = Z (.exit id) ts h := (rfl)
theorem Avs {k : Aac} {res : List Ays} {Q : Value -> Aac -> Prop} : fnQ k res Q .normal ts h = ∃ vs, Ad8 ts h res = some vs /\ Q (Ag2 vs) { h with mq := k.mq } := (rfl)
theorem Azy {k : Aac} {res : List Ays} {Q : Value -> Aac -> Prop} : fnQ k res Q .ret ts h = ∃ vs, Ad8 ts h res = some vs /\ Q (Ag2 vs) { h with mq := k.mq } := (rfl)
theorem A1g (t : T Value) (d i : Nat) (v : Value) : look (t.put d v) i = if i = d then v else look t i := by
 split
 ·rename_i e; subst e; exact Acx _ _ _
 ·rename_i e; exact Ab2 _ _ e
theorem Aaa {tab : Nat -> Option Aae} (hT : Aa0 P tab) {f : Nat} {af : Aae} (hf : tab f = some af) {args : List Value} (hl : Nat.ble args.length af.n = true) {h : Aac} {Q : Value -> Aac -> Prop} (hb : cwf P af.n none af.body (Ad1 .nil 0 args) h (fnQ h af.res Q)) : Aah P f args h Q := A16 hT hf hl (Acf hb)
theorem A18 {g : Opd} {ps : List Nat} {asg body : Acb} {f : Nat} {fs cs : Array Value} {b : Nat} {h1 : Aac} (hg : ev ts g = .func (.func f) fs cs) (hen : Al3 ro { ts := ts, n := N, ps := ps, asg := asg, body := body, st := 0, pend := none } h = some (b, h1))
  (x : Aah P f (fs.toList ++ [.func (.yield b) #[] #[]] ++ cs.toList) h1 fun _ h2 => ∃ e ts' h', A29 b ts h2 = some (e, ts', h') /\ Z e ts' h') : CW P N ro (.rangeF g N ps asg body) ts h Z := by
 obtain ⟨u, h2, F, e, ts', h', he, z⟩ := x
 exact ⟨e, ts', h', A0e (Aba F Abo) hg hen Abd he, z⟩
theorem A0m {b : Nat} {args : List Value} {k : Aht} {Q : Value -> Aac -> Prop} (hk : h.lqs.get b = some k) (hlen : args.length = k.ps.length) (hps : k.ps.all (Nat.blt · k.n) = true)
  (x : cwf P k.n (some b) k.asg (Al8 k.ts k.ps args) h fun e t1 h1 => e = .normal /\ ∃ h2, Al2 b h1 = some h2 /\ cwf P k.n (some b) k.body t1 h2 fun e _ h3 => ∃ v h', A03 e b h.mq h3 = some (v, h') /\ Q v h') : Awm P b args h Q := by
 obtain ⟨e, t1, h1, c, rfl, h2, hb, y⟩ := Acf x
 obtain ⟨e, t2, h3, d, v, h', he, q⟩ := Acf y
 exact ⟨v, h', A00 hk hlen hps c hb d he, q⟩
end
open Go.RowKit
abbrev I (a : Int) : Value := .int .i64 a
structure Aad (h h' : Aac) (S : Nat -> Prop) : Prop where
 nq : h.nq <= h'.nq
 lqs : ∀ j, j < h.nq -> ¬ S j -> h'.lqs.get j = h.lqs.get j
 mq : h'.mq = h.mq
 get : ∀ j, j < h.nq -> ¬ S j -> h'.bqs.get j = h.bqs.get j
theorem Aad.refl (h : Aac) (S : Nat -> Prop) : Aad h h S := ⟨Nat.le_refl _, fun _ _ _ => rfl, rfl, fun _ _ _ => rfl⟩
theorem Aad.trans {h k m : Aac} {S T : Nat -> Prop} (a : Aad h k S) (b : Aad k m T) (hT : ∀ j, j < h.nq -> T j -> S j) : Aad h m S :=
 ⟨Nat.le_trans a.nq b.nq, fun j hj hs => by rw [b.lqs j (Nat.lt_of_lt_of_le hj a.nq) (fun ht => hs (hT j hj ht)), a.lqs j hj hs], by rw [b.mq, a.mq], fun j hj hs => by
  rw [b.get j (Nat.lt_of_lt_of_le hj a.nq) (fun ht => hs (hT j hj ht)), a.get j hj hs]⟩
theorem Aad.mono {h k : Aac} {S T : Nat -> Prop} (a : Aad h k S) (hT : ∀ j, S j -> T j) : Aad h k T := ⟨a.nq, fun j hj ht => a.lqs j hj (fun hs => ht (hT j hs)), a.mq, fun j hj ht => a.get j hj (fun hs => ht (hT j hs))⟩
def Aac.setB (h : Aac) (b : Nat) (k : Blk) : Aac := { h with bqs := h.bqs.put b k }
theorem Aaz (h : Aac) (b : Nat) (k : Blk) (j : Nat) : (h.setB b k).bqs.get j = if j = b then some k else h.bqs.get j := by
 unfold Aac.setB
 split
 ·rename_i e; subst e; exact T.get_put_same _ _ _
 ·rename_i e; exact T.get_put_other _ _ e
theorem Aqi (h : Aac) (b : Nat) (k : Blk) : (h.setB b k).nq = h.nq := (rfl)
theorem Aa5 (h : Aac) (k : Blk) (j : Nat) : (h.new k).bqs.get j = if j = h.nq then some k else h.bqs.get j := Aaz h h.nq k j
theorem Aet (h : Aac) (k : Blk) : (h.new k).nq = h.nq + 1 := (rfl)
theorem Aad.setB {h : Aac} {b : Nat} {k : Blk} {S : Nat -> Prop} (hb : S b) : Aad h (h.setB b k) S := ⟨Nat.le_refl _, fun _ _ _ => rfl, rfl, fun j _ hs => by
 rw [Aaz, if_neg (fun e => hs (by rw [e]; exact hb))]⟩
theorem Aad.new {h : Aac} {k : Blk} {S : Nat -> Prop} : Aad h (h.new k) S := ⟨Nat.le_succ _, fun _ _ _ => rfl, rfl, fun j hj _ => by
 rw [Aa5, if_neg (Nat.ne_of_lt hj)]⟩
theorem Aiu {l : List Value} {n : Nat} (h : n <= l.length) : Anx l n = true := by rw [Aji]; exact Nat.ble_eq_true_of_le h
theorem Amz (v : Value) (l : List Value) : ∀ (o : Nat), o < l.length -> splice l o [v] = l.set o v := by
 intro o h
 apply List.ext_getElem?
 intro i
 unfold splice
 simp only [List.length_singleton]
 rw [List.getElem?_set]
 rw [List.append_assoc, List.getElem?_append]
 simp only [List.length_take, Nat.min_eq_left (Nat.le_of_lt h)]
 by_cases h1 : i < o
 ·rw [if_pos h1, if_neg (by omega), List.getElem?_take, if_pos h1]
 ·rw [if_neg h1]
  by_cases h2 : i = o
  ·subst h2; simp [h]
  ·rw [if_neg (by omega), List.getElem?_append_right (by simp; omega), List.getElem?_drop]
   simp only [List.length_singleton]
   congr 1; omega
theorem Abb {h : Aac} {b o : Nat} {k : Blk} (hb : h.bqs.get b = some k) : h.rd b o = k.cells[o]? := by
 unfold Aac.rd; rw [hb]; exact Ay4 _ _
theorem Ae8 {h : Aac} {b o n : Nat} {k : Blk} (hb : h.bqs.get b = some k) (hl : o + n <= k.cells.length) : h.rds b o n = some ((k.cells.drop o).take n) := by
 unfold Aac.rds; rw [hb]; simp only [Aiu hl, cond_true]
theorem Ab7 {h : Aac} {b o : Nat} {k : Blk} {v : Value} (hb : h.bqs.get b = some k) (ho : k.own = true) (hl : o < k.cells.length) (hs : Aas v = true) : h.wrs b o [v] = some (h.setB b { k with cells := k.cells.set o v }) := by
 unfold Aac.wrs; rw [hb]
 have : o + 1 <= k.cells.length := hl
 simp only [List.length_cons, List.length_nil, Nat.zero_add, Aiu this, ho, List.all_cons, hs, List.all_nil, Bool.and_true, cond_true, Ai4, Amz _ _ _ hl]
 rfl
section
variable {P : Program} {N : Nat} {ro : Option Nat} {cf : Aa7} {ts : T Value} {h : Aac} {S : T Value -> Aac -> Prop} {Z : Abz -> T Value -> Aac -> Prop} {r : List Aao} {dst : Option Nat} {q : AOp} {ac bc : Acb}
def Att (o : Option Value) (k : Value -> Prop) : Prop := match o with
 | some v => k v
 | none => False
def A0h (o : Option (Value × Aac)) (k : Value -> Aac -> Prop) : Prop := match o with
 | some (v, h) => k v h
 | none => False
theorem Apc (v : Value) (k : Value -> Prop) : Att (some v) k = k v := (rfl)
theorem Apu (v : Value) (h : Aac) (k : Value -> Aac -> Prop) : A0h (some (v, h)) k = k v h := (rfl)
def bo (P : Program) (r : List Aao) (ts : T Value) (dst : Option Nat) (h : Aac) (S : T Value -> Aac -> Prop) (v : Value) : Prop := owf P r (Aci ts dst v) h S
def bd (cf : Aa7) (r : List Aao) (ts : T Value) (dst : Option Nat) (h : Aac) (S : T Value -> Aac -> Prop) (v : Value) : Prop := dwf cf r (Aci ts dst v) h S
def bd2 (cf : Aa7) (r : List Aao) (ts : T Value) (dst : Option Nat) (S : T Value -> Aac -> Prop) (v : Value) (h : Aac) : Prop := dwf cf r (Aci ts dst v) h S
theorem A57 (v : Value) : bo P r ts dst h S v = owf P r (Aci ts dst v) h S := (rfl)
theorem A8b (v : Value) : bd cf r ts dst h S v = dwf cf r (Aci ts dst v) h S := (rfl)
theorem A5y (v : Value) : bd2 cf r ts dst S v h = dwf cf r (Aci ts dst v) h S := (rfl)
theorem Ajk (v : Value) : behind P r ts dst S v h = owf P r (Aci ts dst v) h S := (rfl)
theorem o_p {q : POp} : owf P (⟨dst, .p q, none⟩ :: r) ts h S = Att (pop ts q) (bo P r ts dst h S) := A66
theorem o_r {q : ROp} : owf P (⟨dst, .r q, none⟩ :: r) ts h S = Att (rop ts h q) (bo P r ts dst h S) := A68
theorem o_e {q : EOp} : owf P (⟨dst, .e q, none⟩ :: r) ts h S = A0h (eop ts h q) (behind P r ts dst S) := A7d
theorem d_p {q : POp} : dwf cf (⟨dst, .p q, none⟩ :: r) ts h S = Att (pop ts q) (bd cf r ts dst h S) := A7m
theorem d_r {q : ROp} : dwf cf (⟨dst, .r q, none⟩ :: r) ts h S = Att (rop ts h q) (bd cf r ts dst h S) := A7i
theorem d_e {q : EOp} : dwf cf (⟨dst, .e q, none⟩ :: r) ts h S = A0h (eop ts h q) (bd2 cf r ts dst S) := A8c
theorem A6h {f : Nat} {l : List Opd} : dwf cf (⟨dst, .call f l, none⟩ :: r) ts h S = A0h (cf (.fn f) (evs ts l) h) (bd2 cf r ts dst S) := A0k
theorem A9g {t : Nat} {b : Bool} (hb : isB (look ts t) b = true) : owf P (⟨dst, q, some (t, b)⟩ :: r) ts h S = owf P (⟨dst, q, none⟩ :: r) ts h S := by rw [Ao9, hb]; rfl
theorem A7x {t : Nat} {b : Bool} (hb : isB (look ts t) b = false) : owf P (⟨dst, q, some (t, b)⟩ :: r) ts h S = owf P r (Aci ts dst undef) h S := by rw [Ao9, hb]; rfl
theorem A9a {t : Nat} {b : Bool} (hb : isB (look ts t) b = true) : dwf cf (⟨dst, q, some (t, b)⟩ :: r) ts h S = dwf cf (⟨dst, q, none⟩ :: r) ts h S := by rw [Aot, hb]; rfl
theorem A7f {t : Nat} {b : Bool} (hb : isB (look ts t) b = false) : dwf cf (⟨dst, q, some (t, b)⟩ :: r) ts h S = dwf cf r (Aci ts dst undef) h S := by rw [Aot, hb]; rfl
theorem A6e {c : Opd} (hb : isB (ev ts c) true = true) : cwf P N ro (.cond c ac bc) ts h Z = cwf P N ro ac ts h Z := by
 rw [Atf]
 cases hc : ev ts c <;> rw [hc] at hb <;> simp [isB] at hb
 subst hb; rfl
theorem A4e {c : Opd} (hb : isB (ev ts c) false = true) : cwf P N ro (.cond c ac bc) ts h Z = cwf P N ro bc ts h Z := by
 rw [Atf]
 cases hc : ev ts c <;> rw [hc] at hb <;> simp [isB] at hb
 subst hb; rfl
theorem A2k (b : Bool) : isB (.bool b) true = b := (rfl)
theorem Ax6 (b : Bool) : isB (.bool b) false = !b := by cases b <;> rfl
end
theorem Ab4 (a : Option Addr) (n c : Nat) : Aas (.slice a n c) = true := by simp [Aas]
theorem Aat (k : IntKind) (n : Int) : Aas (.int k n) = true := by simp [Aas]
theorem Acs (a : Option Addr) : Aas (.pointer a) = true := by simp [Aas]
theorem Aih (b : Bool) : Aas (.bool b) = true := by simp [Aas]
theorem Auv : Aan .i64 0 = 0 := by decide
theorem A6n : min 3 64 = 3 := (rfl)
theorem A6c : Ag2 [] = .tuple #[] := (rfl)
theorem Ay3 (v : Value) : Ag2 [v] = v := (rfl)
theorem A6d (v u : Value) (l : List Value) : Ag2 (v :: u :: l) = .tuple (v :: u :: l).toArray := (rfl)
theorem Ahb {v : Value} (h : Aas v = true) : v.cells.toList = [v] := by
 cases v <;> first | rfl | (cases h)
def st1 (h : Aac) (p v : Value) : Option (Value × Aac) := match p with
 | .pointer (some ⟨b, o, none⟩) => (match h.wrs b o [v] with
  | some h' => some (undef, h')
  | none => none)
 | _ => none
theorem Am4 {ts : T Value} {h : Aac} {a x : Opd} (hs : Aas (ev ts x) = true) : eop ts h (.store 1 a x) = st1 h (ev ts a) (ev ts x) := by
 show (match ev ts a with
  | .pointer (some ⟨b, o, none⟩) => (bif Nat.beq (ev ts x).cells.toList.length 1 && Nat.ble 1 1 then (match h.wrs b o (ev ts x).cells.toList with
    | some h' => some (undef, h')
    | none => none) else none)
  | _ => none) = _
 rw [Ahb hs]; rfl
def A8x (h : Aac) (s len : Nat) (o : Option (List Value)) : Option (Value × Aac) := match o with
 | some cs => some (.slice (some ⟨h.nq, 0, none⟩) len len, h.new { cells := cs, n := len * s, s := s, own := true, grown := false })
 | none => none
theorem Azb (h : Aac) (s len : Nat) (cs : List Value) : A8x h s len (some cs) = some (.slice (some ⟨h.nq, 0, none⟩) len len, h.new { cells := cs, n := len * s, s := s, own := true, grown := false }) := (rfl)
theorem Avx {ts : T Value} {h : Aac} {s len : Nat} {zero : List Value} {ps : List (Nat × Nat × Opd)} : eop ts h (.buildS s len zero ps) = A8x h s len (Aew zero (evP ts ps)) := (rfl)
theorem A4p {ts : T Value} : evP ts [] = [] := (rfl)
theorem A07 {ts : T Value} {a b : Nat} {x : Opd} {r : List (Nat × Nat × Opd)} : evP ts ((a, b, x) :: r) = (a, b, ev ts x) :: evP ts r := (rfl)
theorem Az5 (cells : List Value) : Aew cells [] = some cells := (rfl)
theorem Awn {cells : List Value} {off : Nat} {v : Value} {r : List (Nat × Nat × Value)} (hv : Aas v = true) (ho : off < cells.length) : Aew cells ((off, 1, v) :: r) = Aew (cells.set off v) r := by
 show (bif Nat.beq v.cells.toList.length 1 && Nat.ble (off + 1) cells.length then Aew (splice cells off v.cells.toList) r else none) = _
 rw [Ahb hv, Amz _ _ _ ho, Nat.ble_eq_true_of_le (show off + 1 <= cells.length from ho)]
 rfl
theorem Aui {v u x y : Value} : Aew [v, u] [(0, 2, .agg #[x, y])] = some [x, y] := (rfl)
def A2o (h : Aac) (n : Nat) (v : Value) : Option (Value × Aac) := bif Nat.beq v.cells.toList.length n then some (.pointer (some ⟨h.nq, 0, none⟩), h.new { cells := v.cells.toList, n := n, s := n, own := true, grown := false }) else none
theorem A31 {ts : T Value} {h : Aac} {n : Nat} {x : Opd} : eop ts h (.box n x) = A2o h n (ev ts x) := (rfl)
theorem A64 (h : Aac) (a b c d e : Value) : A2o h 5 (.agg #[a, b, c, d, e]) = some (.pointer (some ⟨h.nq, 0, none⟩), h.new ⟨[a, b, c, d, e], 5, 5, true, false⟩) := (rfl)
theorem Auk (n k : Int) (k0 : 0 < k) : n.tmod k = n % k /\ 0 <= n.tmod k \/ n.tmod k = n % k - k /\ n.tmod k < 0 := by
 have h := @Int.tmod_eq_emod n k
 have em := Int.emod_nonneg n (show k ≠ 0 by omega)
 have el := Int.emod_lt_of_pos n k0
 split at h <;> omega
theorem Aav {a : Int} (h0 : -9223372036854775808 <= a) (h1 : a < 9223372036854775808) : Aan .i64 a = a := by
 rw [Ahw]; exact IntWalk.i64_in _ (by omega)
abbrev Ad6 (u : Option Nat) (C : List Int) : Value := .slice (u.map fun x => ⟨x, 0, none⟩) C.length C.length
def Ac9 (sl : Value) (z c o r : Int) : Blk := ⟨[sl, I z, I c, I o, I r], 5, 5, true, false⟩
def Aeq (C : List Int) : Blk := ⟨C.map I, C.length, 1, true, true⟩
structure Aa2 (h : Aac) (b : Nat) (u : Option Nat) (C : List Int) (z c o r : Int) : Prop where
 blk : h.bqs.get b = some (Ac9 (Ad6 u C) z c o r)
 use : ∀ x, u = some x -> h.bqs.get x = some (Aeq C) /\ x ≠ b /\ x < h.nq /\ C ≠ []
 non : u = none -> C = []
 lt : b < h.nq
theorem Aa2.same {h h' : Aac} {b : Nat} {u : Option Nat} {C : List Int} {z c o r : Int} {S : Nat -> Prop} (m : Aa2 h b u C z c o r) (s : Aad h h' S) (hb : ¬ S b) (hu : ∀ x, u = some x -> ¬ S x) : Aa2 h' b u C z c o r :=
 ⟨by rw [s.get b m.lt hb]; exact m.blk, fun x hx => by
  obtain ⟨h1, h2, h3, h4⟩ := m.use x hx
  exact ⟨by rw [s.get x h3 (hu x hx)]; exact h1, h2, Nat.lt_of_lt_of_le h3 s.nq, h4⟩, m.non, Nat.lt_of_lt_of_le m.lt s.nq⟩
section
variable {h : Aac} {b : Nat} {u : Option Nat} {C : List Int} {z c o r : Int} (m : Aa2 h b u C z c o r)
include m
theorem Aa2.rd0 : h.rd b 0 = some (Ad6 u C) := Abb m.blk
theorem Aa2.rd1 : h.rd b 1 = some (I z) := Abb m.blk
theorem Aa2.rd2 : h.rd b 2 = some (I c) := Abb m.blk
theorem Aa2.rd3 : h.rd b 3 = some (I o) := Abb m.blk
theorem Aa2.rd4 : h.rd b 4 = some (I r) := Abb m.blk
theorem Aa2.wr2 (x : Int) : h.wrs b 2 [I x] = some (h.setB b (Ac9 (Ad6 u C) z x o r)) := Ab7 m.blk rfl (by simp [Ac9]) rfl
theorem Aa2.wr3 (x : Int) : h.wrs b 3 [I x] = some (h.setB b (Ac9 (Ad6 u C) z c x r)) := Ab7 m.blk rfl (by simp [Ac9]) rfl
theorem Aa2.wr4 (x : Int) : h.wrs b 4 [I x] = some (h.setB b (Ac9 (Ad6 u C) z c o x)) := Ab7 m.blk rfl (by simp [Ac9]) rfl
theorem Aa2.set (z' c' o' r' : Int) : Aa2 (h.setB b (Ac9 (Ad6 u C) z' c' o' r')) b u C z' c' o' r' :=
 ⟨by rw [Aaz, if_pos rfl], fun x hx => by
  obtain ⟨h1, h2, h3, h4⟩ := m.use x hx
  exact ⟨by rw [Aaz, if_neg h2]; exact h1, h2, h3, h4⟩, m.non, m.lt⟩
end
theorem Aab (h k : Aac) (e : k.mq = h.mq) : ({ k with mq := h.mq } : Aac) = k := by rw [<- e]
def Aqv (h : Aac) (s bytes : Nat) (X Y : Value) : Option (Value × Aac) := match X, Ach h s Y with
 | .slice base len cap, some (news, n) => Arg h s bytes base len cap news n
 | _, _ => none
theorem A3d {ts : T Value} {h : Aac} {s bytes : Nat} {x y : Opd} : eop ts h (.app s bytes x y) = Aqv h s bytes (ev ts x) (ev ts y) := (rfl)
abbrev Aal (u : Option Nat) (n : Nat) : Value := .slice (u.map fun x => ⟨x, 0, none⟩) n n
structure Abh (h : Aac) (u : Option Nat) (s n : Nat) (cells : List Value) : Prop where
 use : ∀ x, u = some x -> h.bqs.get x = some ⟨cells, n * s, s, true, true⟩ /\ x < h.nq /\ 1 <= n
 non : u = none -> n = 0
 len : cells.length = n * s
 sc : cells.all Aas = true
theorem Abh.nil (h : Aac) (s : Nat) : Abh h none s 0 [] := { use := fun x hx => (by cases hx), non := fun _ => rfl, len := (by simp), sc := rfl }
theorem Abh.same {h h' : Aac} {u : Option Nat} {s n : Nat} {cells : List Value} {S : Nat -> Prop} (o : Abh h u s n cells) (m : Aad h h' S) (hu : ∀ x, u = some x -> ¬ S x) : Abh h' u s n cells :=
 ⟨fun x hx => by
  obtain ⟨h1, h2, h3⟩ := o.use x hx
  exact ⟨by rw [m.get x h2 (hu x hx)]; exact h1, Nat.lt_of_lt_of_le h2 m.nq, h3⟩, o.non, o.len, o.sc⟩
theorem Aa2.own {h : Aac} {b : Nat} {u : Option Nat} {C : List Int} {z c o r : Int} (m : Aa2 h b u C z c o r) : Abh h u 1 C.length (C.map I) :=
 ⟨fun x hx => by
  obtain ⟨h1, _, h3, h4⟩ := m.use x hx
  exact ⟨by rw [h1, Nat.mul_one]; rfl, h3, List.length_pos_iff.2 h4⟩, fun hu => by rw [m.non hu]; rfl, by simp, by simp [Aas]⟩
theorem A39 {h : Aac} {b : Nat} {sl v : Value} {z c o r : Int} (hb : h.bqs.get b = some (Ac9 sl z c o r)) (hv : Aas v = true) : h.wrs b 0 [v] = some (h.setB b (Ac9 v z c o r)) := Ab7 hb rfl (by simp [Ac9]) hv
theorem Aa2.of_own {h : Aac} {b : Nat} {u : Option Nat} {C : List Int} (a : Abh h u 1 C.length (C.map I)) (hu : ∀ x, u = some x -> x ≠ b) (hb : b < h.nq) (z c o r : Int) : Aa2 (h.setB b (Ac9 (Ad6 u C) z c o r)) b u C z c o r :=
 ⟨by rw [Aaz, if_pos rfl], fun x hx => by
  obtain ⟨h1, h2, h3⟩ := a.use x hx
  exact ⟨by rw [Aaz, if_neg (hu x hx), h1, Nat.mul_one]; rfl, hu x hx, h2, List.length_pos_iff.1 h3⟩, fun hn => List.eq_nil_of_length_eq_zero (a.non hn), hb⟩
theorem Abl {a b : Nat} (h : a <= b) : Nat.ble a b = true := Nat.ble_eq_true_of_le h
theorem App {a b : Nat} (h : ¬ a <= b) : Nat.ble a b = false := by
 cases hc : Nat.ble a b with
 | false => rfl
 | true => exact absurd (Nat.le_of_ble_eq_true hc) h
theorem Adk (a : Nat) : Nat.beq a a = true := Nat.beq_refl a
theorem Afa {a b : Nat} (h : a ≠ b) : Nat.beq a b = false := by
 rcases Aa6 a b with ⟨h1, h2⟩ | ⟨h1, _⟩
 ·exact absurd h2 h
 ·exact h1
theorem Ad5 {h : Aac} {u : Option Nat} {s n k bytes : Nat} {cells news : List Value} {Y : Value} (o : Abh h u s n cells) (hy : Ach h s Y = some (news, k)) (hk : news.length = k * s) (hs : news.all Aas = true) (s1 : 1 <= s)
  (b1 : (n + k) * bytes <= 1099511627776) (b2 : n + k <= 1099511627776) :
  ∃ u' h', Aqv h s bytes (Aal u n) Y = some (Aal u' (n + k), h') /\ Abh h' u' s (n + k) (cells ++ news) /\ Aad h h' (fun j => u = some j) /\ (∀ x, u' = some x -> u = some x \/ x = h.nq) := by
 have hg : (Nat.ble ((n + k) * bytes) 1099511627776 && Nat.ble (n + k) 1099511627776 && Nat.ble 1 s && news.all Aas) = true := by
  rw [Abl b1, Abl b2, Abl s1, hs]; rfl
 unfold Aqv
 rw [hy]
 simp only [Aal]
 unfold Arg
 rw [hg]
 simp only [cond_true]
 have hall : (cells ++ news).all Aas = true := by rw [List.all_append, o.sc, hs]; rfl
 have hlen : (cells ++ news).length = (n + k) * s := by rw [List.length_append, o.len, hk, Nat.add_mul]
 by_cases k0 : k = 0
 ·subst k0
  have hn : news = [] := List.eq_nil_of_length_eq_zero (by simpa using hk)
  subst hn
  refine ⟨u, h, ?_, by simpa using o, Aad.refl _ _, fun x hx => .inl hx⟩
  cases hu : u with
  | none =>
   simp only [Option.map_none, Adk, Abl (Nat.le_refl n), cond_true, Nat.add_zero]
  | some x =>
   obtain ⟨h1, h2, h3⟩ := o.use x hu
   simp only [Option.map_some, h1, Adk, Bool.not_true, cond_false, Nat.add_zero, Abl (Nat.le_refl n), cond_true]
 ·cases hu : u with
  | none =>
   have n0 := o.non hu
   subst n0
   have c0 : cells = [] := List.eq_nil_of_length_eq_zero (by simpa using o.len)
   subst c0
   refine ⟨some h.nq, h.new ⟨news, k * s, s, true, true⟩, ?_, ⟨fun x hx => ?_, by simp, by simpa using hlen, by simpa using hall⟩, Aad.new, fun x hx => .inr (by cases hx; rfl)⟩
   ·simp only [Option.map_none, Afa k0, cond_false, Adk, Bool.and_true, cond_true, Option.map_some, Nat.zero_add]
   ·cases hx
    exact ⟨by rw [Aa5, if_pos rfl]; simp, Nat.lt_succ_self _, by omega⟩
  | some x =>
   obtain ⟨h1, h2, h3⟩ := o.use x hu
   have hrd : h.rds x 0 (n * s) = some cells := by
    rw [Ae8 h1 (by simp [o.len])]
    simp [<- o.len]
   have hl1 : 1 <= cells.length := by rw [o.len]; exact Nat.mul_pos h3 s1
   refine ⟨some h.nq, (h.kill x ⟨cells, n * s, s, true, true⟩).new ⟨cells ++ news, (n + k) * s, s, true, true⟩, ?_, ⟨fun y hy => ?_, by simp, hlen, hall⟩, ?_, fun y hy => .inr (by cases hy; rfl)⟩
   ·simp only [Option.map_some, h1, Adk, Bool.not_true, cond_false, App (show ¬ n + k <= n by omega), hrd, Nat.zero_add, Bool.and_true, cond_true, o.sc, Abl hl1]
   ·cases hy
    exact ⟨by rw [Aa5]; exact if_pos rfl, Nat.lt_succ_self _, by omega⟩
   ·exact (Aad.setB (S := fun j => some x = some j) (k := _) rfl).trans (Aad.new (S := fun j => some x = some j)) (fun _ _ hj => hj)
structure Abq (h : Aac) (x o s n cap : Nat) (cells : List Value) : Prop where
 blk : ∃ k, h.bqs.get x = some k /\ k.s = s /\ (k.cells.drop o).take (n * s) = cells /\ o + n * s <= k.cells.length
 cap : n <= cap
 lt : x < h.nq
theorem Abq.same {h h' : Aac} {x o s n cap : Nat} {cells : List Value} {S : Nat -> Prop} (r : Abq h x o s n cap cells) (m : Aad h h' S) (hx : ¬ S x) : Abq h' x o s n cap cells :=
 ⟨by rw [m.get x r.lt hx]; exact r.blk, r.cap, Nat.lt_of_lt_of_le r.lt m.nq⟩
theorem Abq.len {h : Aac} {x o s n cap : Nat} {cells : List Value} (r : Abq h x o s n cap cells) : cells.length = n * s := by
 obtain ⟨k, _, _, h3, h4⟩ := r.blk
 rw [<- h3]; simp; omega
theorem Abq.rd {h : Aac} {x o s n cap : Nat} {cells : List Value} (r : Abq h x o s n cap cells) {i : Nat} (hi : i < n * s) : h.rd x (o + i) = cells[i]? := by
 obtain ⟨k, h1, _, h3, _⟩ := r.blk
 rw [Abb h1, <- h3, List.getElem?_take, if_pos hi, List.getElem?_drop]
theorem Abq.src {h : Aac} {x o s n cap : Nat} {cells : List Value} (r : Abq h x o s n cap cells) : Ach h s (.slice (some ⟨x, o, none⟩) n cap) = some (cells, n) := by
 obtain ⟨k, h1, _, h3, h4⟩ := r.blk
 show (match h.rds x o (n * s) with | some l => some (l, n) | none => none) = _
 rw [Ae8 h1 h4, h3]
theorem Abq.sub {h : Aac} {x o s n cap lo hi : Nat} {cells : List Value} (r : Abq h x o s n cap cells) (h1 : lo <= hi) (h2 : hi <= n) : Abq h x (o + lo * s) s (hi - lo) (cap - lo) ((cells.drop (lo * s)).take ((hi - lo) * s)) := by
 obtain ⟨k, k1, k2, k3, k4⟩ := r.blk
 have hc := r.cap
 have e1 : hi * s = lo * s + (hi - lo) * s := by rw [<- Nat.add_mul]; congr 1; omega
 have e2 : hi * s <= n * s := Nat.mul_le_mul_right _ h2
 refine ⟨⟨k, k1, k2, ?_, by omega⟩, by omega, r.lt⟩
 rw [<- k3, List.drop_take, List.drop_drop, List.take_take]
 congr 1
 ·omega
theorem Abq.fresh (h : Aac) (cells : List Value) (n s : Nat) (own gr : Bool) (hl : cells.length = n * s) : Abq (h.new ⟨cells, n * s, s, own, gr⟩) h.nq 0 s n n cells :=
 ⟨⟨_, by rw [Aa5]; exact if_pos rfl, rfl, by rw [List.drop_zero, <- hl, List.take_length], by simp [hl]⟩, Nat.le_refl _, Nat.lt_succ_self _⟩
def A3x (h : Aac) (s bytes : Nat) (zero : List Value) (X Y : Value) : Option (Value × Aac) := match X, Ag1 Y with
 | .slice base len cap, some n => bif Nat.ble n 1099511627776 then Arg h s bytes base len cap (rep zero n) n else none
 | _, _ => none
theorem A2f {ts : T Value} {h : Aac} {s bytes : Nat} {zero : List Value} {x y : Opd} : eop ts h (.appZ s bytes zero x y) = A3x h s bytes zero (ev ts x) (ev ts y) := (rfl)
theorem Ajq (n : Nat) : Ag1 (I n) = some n := by simp [Ag1]
theorem A19 {h : Aac} {s bytes n : Nat} {zero : List Value} (n0 : 0 < n) (b1 : n * bytes <= 1099511627776) (b2 : n <= 1099511627776) (s1 : 1 <= s) (hs : (rep zero n).all Aas = true) :
  A3x h s bytes zero (.slice none 0 0) (I n) = some (.slice (some ⟨h.nq, 0, none⟩) n n, h.new ⟨rep zero n, n * s, s, true, true⟩) := by
 unfold A3x
 rw [Ajq]
 simp only [Abl b2, cond_true, Arg, Nat.zero_add, Abl b1, Abl s1, hs, Bool.and_true, Afa (show n ≠ 0 by omega), cond_false, Adk]
theorem Alx (n : Nat) : rep [I 0] n = (List.replicate n (0 : Int)).map I := by
 induction n with
 | zero => rfl
 | succ n ih => rw [rep, ih]; rfl
def Mid (h : Aac) (s n : Nat) (v : Value) (cells : List Value) (y : Nat) : Prop :=
 (n = 0 /\ cells = [] /\ v = .slice (some ⟨y, 0, none⟩) 0 0 /\ h.bqs.get y = some ⟨[], 0, s, true, false⟩ /\ y < h.nq) \/ (v = Aal (some y) n /\ Abh h (some y) s n cells)
theorem Mid.same {h h' : Aac} {s n y : Nat} {v : Value} {cells : List Value} {S : Nat -> Prop} (a : Mid h s n v cells y) (m : Aad h h' S) (hy : ¬ S y) : Mid h' s n v cells y := by
 rcases a with ⟨h1, h2, h3, h4, h5⟩ | ⟨h1, h2⟩
 ·exact .inl ⟨h1, h2, h3, by rw [m.get y h5 hy]; exact h4, Nat.lt_of_lt_of_le h5 m.nq⟩
 ·exact .inr ⟨h1, h2.same m (fun x hx => by cases hx; exact hy)⟩
theorem Alr {h : Aac} {y s k bytes : Nat} {news : List Value} {Y : Value} (hb : h.bqs.get y = some ⟨[], 0, s, true, false⟩) (hlt : y < h.nq) (hy : Ach h s Y = some (news, k)) (hk : news.length = k * s) (hs : news.all Aas = true) (s1 : 1 <= s)
  (b1 : k * bytes <= 1099511627776) (b2 : k <= 1099511627776) :
  ∃ v h' z, Aqv h s bytes (.slice (some ⟨y, 0, none⟩) 0 0) Y = some (v, h') /\ Mid h' s k v news z /\ Aad h h' (fun _ => False) /\ (z = y \/ z = h.nq) /\ (k ≠ 0 -> Abh h' (some z) s k news /\ v = Aal (some z) k) := by
 have hg : (Nat.ble ((0 + k) * bytes) 1099511627776 && Nat.ble (0 + k) 1099511627776 && Nat.ble 1 s && news.all Aas) = true := by
  rw [Nat.zero_add, Abl b1, Abl b2, Abl s1, hs]; rfl
 unfold Aqv
 rw [hy]
 simp only
 unfold Arg
 rw [hg]
 simp only [cond_true, hb, Adk, Bool.not_true, cond_false]
 by_cases k0 : k = 0
 ·subst k0
  have hn : news = [] := List.eq_nil_of_length_eq_zero (by simpa using hk)
  subst hn
  refine ⟨_, h, y, ?_, .inl ⟨rfl, rfl, rfl, hb, hlt⟩, Aad.refl _ _, .inl rfl, fun hn => absurd rfl hn⟩
  simp only [Nat.add_zero, Abl (Nat.le_refl 0), cond_true, Adk]
 ·have hrd : h.rds y 0 (0 * s) = some [] := by
   rw [Ae8 hb (by simp)]; simp
  have ho : Abh (h.new ⟨news, k * s, s, true, true⟩) (some h.nq) s k news := ⟨fun x hx => by cases hx; exact ⟨by rw [Aa5]; exact if_pos rfl, Nat.lt_succ_self _, by omega⟩, by simp, hk, hs⟩
  refine ⟨_, h.new ⟨news, k * s, s, true, true⟩, h.nq, ?_, .inr ⟨rfl, ho⟩, Aad.new, .inr rfl, fun _ => ⟨ho, rfl⟩⟩
  simp only [App (show ¬ k <= 0 by omega), cond_false, hrd, Bool.false_and, Nat.zero_add, List.nil_append, Aal, Option.map_some]
theorem A3w {h : Aac} {s n k bytes y : Nat} {v Y : Value} {cells news : List Value} (a : Mid h s n v cells y) (hy : Ach h s Y = some (news, k)) (hk : news.length = k * s) (hs : news.all Aas = true) (s1 : 1 <= s) (k0 : k ≠ 0) (b1 : (n + k) * bytes <= 1099511627776) (b2 : n + k <= 1099511627776) :
  ∃ z h', Aqv h s bytes v Y = some (Aal (some z) (n + k), h') /\ Abh h' (some z) s (n + k) (cells ++ news) /\ Aad h h' (fun j => j = y) /\ (z = y \/ z = h.nq) := by
 rcases a with ⟨rfl, rfl, rfl, h4, h5⟩ | ⟨rfl, h2⟩
 ·rw [Nat.zero_add] at b1 b2 ⊢
  obtain ⟨v, h', z, e, _, e3, e4, e5⟩ := Alr (bytes := bytes) h4 h5 hy hk hs s1 b1 b2
  obtain ⟨e6, rfl⟩ := e5 k0
  exact ⟨z, h', e, e6, e3.mono (fun _ x => x.elim), e4⟩
 ·obtain ⟨u', h', e1, e2, e3, e4⟩ := Ad5 (bytes := bytes) h2 hy hk hs s1 b1 b2
  cases hu : u' with
  | none => rw [hu] at e2; have := e2.non rfl; omega
  | some z =>
   rw [hu] at e1 e2 e4
   exact ⟨z, h', e1, e2, e3.mono (fun j hj => (Option.some.inj hj).symm), (e4 z rfl).imp_left (fun e => (Option.some.inj e).symm)⟩
theorem Awo (h : Aac) (s : Nat) : Ach h s (.slice none 0 0) = some ([], 0) := (rfl)
theorem Axm (h : Aac) (s b o k : Nat) : Ach h s (.slice (some ⟨b, o, some k⟩) 0 0) = some ([], 0) := (rfl)
theorem A56 {h : Aac} {x s n k cap N bytes : Nat} {gr : Bool} {done rest news : List Value} {Y : Value} (hb : h.bqs.get x = some ⟨done ++ rest, N, s, true, gr⟩) (hd : done.length = n * s) (hy : Ach h s Y = some (news, k)) (hk : news.length = k * s) (hr : news.length <= rest.length) (hs : news.all Aas = true) (s1 : 1 <= s) (k0 : k ≠ 0) (hc : n + k <= cap)
  (b1 : (n + k) * bytes <= 1099511627776) (b2 : n + k <= 1099511627776) :
  Aqv h s bytes (.slice (some ⟨x, 0, none⟩) n cap) Y = some (.slice (some ⟨x, 0, none⟩) (n + k) cap, h.setB x ⟨(done ++ news) ++ rest.drop news.length, N, s, true, gr⟩) := by
 have hg : (Nat.ble ((n + k) * bytes) 1099511627776 && Nat.ble (n + k) 1099511627776 && Nat.ble 1 s && news.all Aas) = true := by
  rw [Abl b1, Abl b2, Abl s1, hs]; rfl
 unfold Aqv
 rw [hy]
 simp only
 unfold Arg
 rw [hg]
 simp only [cond_true, hb, Adk, Bool.not_true, cond_false, Abl hc, Afa k0, Nat.zero_add]
 have hw : h.wrs x (n * s) news = some (h.setB x ⟨(done ++ news) ++ rest.drop news.length, N, s, true, gr⟩) := by
  unfold Aac.wrs
  rw [hb]
  have hl : Anx (done ++ rest) (n * s + news.length) = true := Aiu (by rw [List.length_append]; omega)
  simp only [hl, hs, Bool.and_true, cond_true, Ai4]
  have e : splice (done ++ rest) (n * s) news = (done ++ news) ++ rest.drop news.length := by
   unfold splice
   rw [<- hd, List.take_left', List.drop_append, List.drop_eq_nil_of_le (by omega)]
   ·simp
   ·rfl
  rw [e]; rfl
 rw [hw]
theorem Aig {h : Aac} {x s n k cap N bytes : Nat} {gr : Bool} {done rest news : List Value} {Y : Value} (hb : h.bqs.get x = some ⟨done ++ rest, N, s, true, gr⟩) (hd : done.length = n * s) (hy : Ach h s Y = some (news, k)) (hk : news.length = k * s) (hr : news.length <= rest.length) (hs : news.all Aas = true) (s1 : 1 <= s) (k0 : k ≠ 0) (hc : n + k <= cap)
  (b1 : (n + k) * bytes <= 1099511627776) (b2 : n + k <= 1099511627776) :
  ∃ h', Aqv h s bytes (.slice (some ⟨x, 0, none⟩) n cap) Y = some (.slice (some ⟨x, 0, none⟩) (n + k) cap, h') /\ h'.bqs.get x = some ⟨(done ++ news) ++ rest.drop news.length, N, s, true, gr⟩ /\ Aad h h' (fun j => j = x) :=
 ⟨_, A56 hb hd hy hk hr hs s1 k0 hc b1 b2, by rw [Aaz]; exact if_pos rfl, Aad.setB rfl⟩
def slV (h : Aac) (s : Nat) (X : Value) (lo hi : Option Value) : Option Value := match (match lo with | some l => Ag1 l | none => some 0) with
 | none => none
 | some l => match X with
  | .slice base len cap => (match (match hi with | some l => Ag1 l | none => some len) with
   | some hh => bif Nat.ble l hh && Nat.ble hh cap then (match base with
    | none => some (.slice none (hh - l) (cap - l))
    | some ⟨b, o, none⟩ => (match h.bqs.get b with
     | some k => bif Nat.beq k.s s then
       (bif Nat.beq cap l then some (.slice (some ⟨b, o, some 0⟩) 0 0) else some (.slice (some ⟨b, o + l * s, none⟩) (hh - l) (cap - l)))
      else none
     | none => none)
    | some ⟨b, o, some q⟩ => bif Nat.beq len 0 && Nat.beq cap 0 then some (.slice (some ⟨b, o, some q⟩) 0 0) else none) else none
   | none => none)
  | _ => none
theorem Ayg {ts : T Value} {h : Aac} {s : Nat} {x : Opd} {lo hi : Option Opd} : rop ts h (.slice s x lo hi none) = slV h s (ev ts x) (evO ts lo) (evO ts hi) := by
 show (match Akc ts 0 lo with | none => none | some l => _) = _
 unfold slV
 have e1 : Akc ts 0 lo = (match evO ts lo with | some l => Ag1 l | none => some 0) := by cases lo <;> rfl
 rw [e1]
 cases (match evO ts lo with | some l => Ag1 l | none => some 0) with
 | none => rfl
 | some l =>
  simp only
  cases ev ts x with
  | slice base len cap =>
   simp only
   have e2 : Akc ts len hi = (match evO ts hi with | some l => Ag1 l | none => some len) := by cases hi <;> rfl
   rw [e2]
   cases (match evO ts hi with | some l => Ag1 l | none => some len) with
   | none => rfl
   | some hh =>
    simp only [Akc, Abl (Nat.le_refl cap), Option.isNone_none, Bool.true_or, Bool.and_true, Option.isSome_none, Bool.false_and, cond_false]
    rfl
  | _ => rfl
def ldV (h : Aac) (v : Value) : Option Value := match v with
 | .pointer (some ⟨b, o, none⟩) => h.rd b o
 | _ => none
theorem Axq {ts : T Value} {h : Aac} {x : Opd} : rop ts h (.load1 x) = ldV h (ev ts x) := (rfl)
theorem A38 (h : Aac) (b o : Nat) : ldV h (.pointer (some ⟨b, o, none⟩)) = h.rd b o := (rfl)
def A8y (h : Aac) (v : Value) : Option Value := match v with
 | .slice none _ c => some (.int .i64 c)
 | .slice (some ⟨b, o, none⟩) _ cap => (match h.bqs.get b with
  | some k => bif k.grown && Nat.beq (o + cap * k.s) k.n then none else some (.int .i64 cap)
  | none => none)
 | _ => none
theorem A4c {ts : T Value} {h : Aac} {x : Opd} : rop ts h (.cap x) = A8y h (ev ts x) := (rfl)
theorem A1r (h : Aac) (n c : Nat) : A8y h (.slice none n c) = some (.int .i64 c) := (rfl)
theorem Abq.cut {h : Aac} {x o s n cap lo hi : Nat} {cells : List Value} (r : Abq h x o s n cap cells) (h1 : lo <= hi) (h2 : hi <= n) (h3 : lo ≠ cap) : slV h s (.slice (some ⟨x, o, none⟩) n cap) (some (I lo)) (some (I hi)) = some (.slice (some ⟨x, o + lo * s, none⟩) (hi - lo) (cap - lo)) := by
 obtain ⟨k, k1, k2, _, _⟩ := r.blk
 have hc := r.cap
 unfold slV
 simp only [Ajq, Abl h1, Abl (show hi <= cap by omega), Bool.and_true, cond_true, k1, k2, Adk, Afa (Ne.symm h3), cond_false]
theorem Abq.to {h : Aac} {x o s n cap hi : Nat} {cells : List Value} (r : Abq h x o s n cap cells) (h2 : hi <= cap) (h3 : cap ≠ 0) : slV h s (.slice (some ⟨x, o, none⟩) n cap) none (some (I hi)) = some (.slice (some ⟨x, o, none⟩) hi cap) := by
 obtain ⟨k, k1, k2, _, _⟩ := r.blk
 unfold slV
 simp only [Ajq, Abl (Nat.zero_le hi), Abl h2, Bool.and_true, cond_true, k1, k2, Adk, Afa h3, cond_false, Nat.zero_mul, Nat.add_zero, Nat.sub_zero]
theorem Abq.from {h : Aac} {x o s n cap lo : Nat} {cells : List Value} (r : Abq h x o s n cap cells) (h1 : lo <= n) (h3 : lo ≠ cap) : slV h s (.slice (some ⟨x, o, none⟩) n cap) (some (I lo)) none = some (.slice (some ⟨x, o + lo * s, none⟩) (n - lo) (cap - lo)) := by
 obtain ⟨k, k1, k2, _, _⟩ := r.blk
 have hc := r.cap
 unfold slV
 simp only [Ajq, Abl h1, Abl hc, Bool.and_true, cond_true, k1, k2, Adk, Afa (Ne.symm h3), cond_false]
theorem Abq.end {h : Aac} {x o s n : Nat} {cells : List Value} (r : Abq h x o s n n cells) : slV h s (.slice (some ⟨x, o, none⟩) n n) (some (I n)) none = some (.slice (some ⟨x, o, some 0⟩) 0 0) := by
 obtain ⟨k, k1, k2, _, _⟩ := r.blk
 unfold slV
 simp only [Ajq, Abl (Nat.le_refl n), Bool.and_true, cond_true, k1, k2, Adk]
theorem Avc (h : Aac) (s : Nat) : slV h s (.slice none 0 0) none (some (I 0)) = some (.slice none 0 0) := (rfl)
theorem Apo (h : Aac) (s : Nat) : slV h s (.slice none 0 0) (some (I 0)) none = some (.slice none 0 0) := (rfl)
theorem Abh.rd {h : Aac} {x s n : Nat} {cells : List Value} (o : Abh h (some x) s n cells) : Abq h x 0 s n n cells := by
 obtain ⟨h1, h2, _⟩ := o.use x rfl
 exact ⟨⟨_, h1, rfl, by rw [List.drop_zero, <- o.len, List.take_length], by simp [o.len]⟩, Nat.le_refl _, h2⟩
theorem Abh.to {h : Aac} {u : Option Nat} {s N n : Nat} {cells : List Value} (o : Abh h u s N cells) (hn : n <= N) : ∃ v, slV h s (Aal u N) none (some (I n)) = some v /\ Ach h s v = some (cells.take (n * s), n) := by
 cases u with
 | none =>
  have := o.non rfl
  subst this
  have hn : n = 0 := by omega
  subst hn
  exact ⟨.slice none 0 0, rfl, by simp [Awo]⟩
 | some y =>
  have h1 := (o.use y rfl).2.2
  refine ⟨_, o.rd.to (hi := n) hn (by omega), ?_⟩
  show (match h.rds y 0 (n * s) with | some l => some (l, n) | none => none) = _
  rw [Ae8 (o.use y rfl).1 (by simp [o.len]; exact Nat.mul_le_mul_right _ hn)]
  simp
theorem Abh.from {h : Aac} {u : Option Nat} {s N n : Nat} {cells : List Value} (o : Abh h u s N cells) (hn : n <= N) : ∃ v, slV h s (Aal u N) (some (I n)) none = some v /\ Ach h s v = some (cells.drop (n * s), N - n) := by
 cases u with
 | none =>
  have := o.non rfl
  subst this
  have hn : n = 0 := by omega
  subst hn
  have : cells = [] := List.eq_nil_of_length_eq_zero (by simpa using o.len)
  subst this
  exact ⟨.slice none 0 0, rfl, by simp [Awo]⟩
 | some y =>
  by_cases he : n = N
  ·subst he
   refine ⟨_, o.rd.end, ?_⟩
   rw [Axm, List.drop_eq_nil_of_le (by rw [o.len]; exact Nat.le_refl _)]; simp
  ·refine ⟨_, o.rd.from (lo := n) hn he, ?_⟩
   have e1 : N * s = n * s + (N - n) * s := by rw [<- Nat.add_mul]; congr 1; omega
   show (match h.rds y (0 + n * s) ((N - n) * s) with | some l => some (l, N - n) | none => none) = _
   rw [Ae8 (o.use y rfl).1 (by simp [o.len]; omega)]
   simp only [Nat.zero_add]
   rw [List.take_of_length_le (by simp [o.len]; omega)]
section
variable {P : Program} {N : Nat} {ro : Option Nat} {bc : Acb} {ts : T Value} {h : Aac} {Z : Abz -> T Value -> Aac -> Prop}
def LW (P : Program) (N : Nat) (ro : Option Nat) (bc : Acb) (ts : T Value) (h : Aac) (Z : Abz -> T Value -> Aac -> Prop) : Prop := ∃ e ts' h' m, A0a P N ro bc e ts' h' ts h m /\ Z e ts' h'
def lwQ (P : Program) (N : Nat) (ro : Option Nat) (bc : Acb) (Z : Abz -> T Value -> Aac -> Prop) : Abz -> T Value -> Aac -> Prop
 | .normal, ts, h => LW P N ro bc ts h Z
 | e, ts, h => Z e ts h
theorem Apt (x : LW P N ro bc ts h Z) : CW P N ro (.loop bc) ts h Z := let ⟨_, _, _, _, r, q⟩ := x; ⟨_, _, _, Azz r, q⟩
theorem Acm (x : cwf P N ro bc ts h (lwQ P N ro bc Z)) : LW P N ro bc ts h Z := by
 obtain ⟨e, t1, h1, c, q⟩ := Acf x
 cases e with
 | normal => obtain ⟨e, t2, h2, m, r, q⟩ := q; exact ⟨e, t2, h2, _, .step c r, q⟩
 | exit id => exact ⟨_, _, _, _, .last (by simp) c, q⟩
 | ret => exact ⟨_, _, _, _, .last (by simp) c, q⟩
theorem Av7 : lwQ P N ro bc Z .normal ts h = LW P N ro bc ts h Z := (rfl)
theorem A10 {id : Nat} : lwQ P N ro bc Z (.exit id) ts h = Z (.exit id) ts h := (rfl)
theorem A3a : lwQ P N ro bc Z .ret ts h = Z .ret ts h := (rfl)
end
open Go.RowKit
def Ah5 (h : Aac) (v : Value) (L : List Int) : Prop := (L = [] /\ ∃ base cap, v = .slice base 0 cap) \/ ∃ x p cap, v = .slice (some ⟨x, p, none⟩) L.length cap /\ Abq h x p 1 L.length cap (L.map I)
theorem Anf {w : World} {b o : Nat} {v : Value} (h : w.cell? ⟨b, o, none⟩ = some v) : ∃ cc el fr, w.heap[b]? = some (.cells cc el fr) /\ cc[o]? = some v := by
 unfold World.cell? at h
 cases hb : w.heap[b]? with
 | none => simp [hb] at h
 | some ob => cases ob <;> simp_all
theorem Ayf {P : Program} {f : Nat} {args args' : List Value} {h : Aac} {μ : Map} {W : World} {X : Aac -> Prop} (s : Aah P f args h fun v h' => v = .bool true /\ X h') (R : Rel (Cc P) μ h ⟨W.heap.size, fun _ => none⟩ W W) (ha : Aa9 μ args args') :
  Calls P f args'.toArray W fun e w' => e = .returned (.bool true) /\ Below W.heap.size W w' := by
 obtain ⟨v, h', F, rfl, _⟩ := s
 refine (F.calls _ _ μ W args' R ha).mono ?_
 rintro e w' ⟨μ', v', rfl, _, R', hv⟩
 exact ⟨by rw [hv.bool], R'.below⟩
open Go.RowKit
def Adx (h : Aac) (v : Value) (s n : Nat) (cells : List Value) (u : Option Nat) : Prop :=
 (n = 0 /\ cells = [] /\ (v = .slice none 0 0 \/ ∃ b o k, v = .slice (some ⟨b, o, some k⟩) 0 0)) \/ ∃ x p cap, u = some x /\ v = .slice (some ⟨x, p, none⟩) n cap /\ Abq h x p s n cap cells
theorem Adx.src {h : Aac} {v : Value} {s n : Nat} {cells : List Value} {u : Option Nat} (a : Adx h v s n cells u) : Ach h s v = some (cells, n) := by
 rcases a with ⟨rfl, rfl, rfl | ⟨b, o, k, rfl⟩⟩ | ⟨x, p, cap, _, rfl, r⟩
 ·rfl
 ·rfl
 ·exact r.src
theorem Adx.same {h h' : Aac} {v : Value} {s n : Nat} {cells : List Value} {u : Option Nat} {S : Nat -> Prop} (a : Adx h v s n cells u) (m : Aad h h' S) (hu : ∀ x, u = some x -> ¬ S x) : Adx h' v s n cells u := by
 rcases a with a | ⟨x, p, cap, e, e2, r⟩
 ·exact .inl a
 ·exact .inr ⟨x, p, cap, e, e2, r.same m (hu x e)⟩
theorem Adx.len {h : Aac} {v : Value} {s n : Nat} {cells : List Value} {u : Option Nat} (a : Adx h v s n cells u) : ∃ base cap, v = .slice base n cap := by
 rcases a with ⟨rfl, rfl, rfl | ⟨b, o, k, rfl⟩⟩ | ⟨x, p, cap, _, rfl, r⟩ <;> exact ⟨_, _, rfl⟩
theorem Adx.of_own {h : Aac} {u : Option Nat} {s n : Nat} {cells : List Value} (o : Abh h u s n cells) : Adx h (Aal u n) s n cells u := by
 cases u with
 | none =>
  have := o.non rfl
  subst this
  exact .inl ⟨rfl, List.eq_nil_of_length_eq_zero (by simpa using o.len), .inl rfl⟩
 | some y => exact .inr ⟨y, 0, n, rfl, rfl, o.rd⟩
def Ap6 (w : World) (a : Option Addr) (s len cap : Nat) (vs : List Value) : Prop :=
 (a = none /\ len = 0 /\ cap = 0 /\ vs = []) \/ ∃ x, a = some x /\ len <= cap /\ vs.length = cap * s /\ (∀ (i : Nat) (v : Value), vs[i]? = some v -> w.cell? (x.add i) = some v) /\ vs.all Acu = true
theorem Az1 {C : Ana} {W : World} {h : Aac} {μ : Map} (R : Rel C μ h ⟨W.heap.size, fun _ => none⟩ W W) {a : Option Addr} {s len cap : Nat} {vs : List Value} (s1 : 1 <= s) (r : Ap6 W a s len cap vs) :
  ∃ (h' : Aac) (μ' : Map) (v : Value) (u : Option Nat), Rel C μ' h' ⟨W.heap.size, fun _ => none⟩ W W /\ μ.le μ' /\ Ab9 μ' v (.slice a len cap) /\ Adx h' v s len (vs.take (len * s)) u /\ Aad h h' (fun _ => False) /\ (∀ y, u = some y -> h.nq <= y) := by
 rcases r with ⟨rfl, rfl, rfl, rfl⟩ | ⟨x, rfl, hl, hz, hcell, hp⟩
 ·exact ⟨h, μ, .slice none 0 0, none, R, μ.le_refl, .same _ rfl, .inl ⟨rfl, by simp, .inl rfl⟩, Aad.refl _ _, fun y hy => by cases hy⟩
 ·by_cases hc : cap = 0
  ·have hl0 : len = 0 := by omega
   subst hc; subst hl0
   exact ⟨h, μ, .slice (some ⟨0, 0, some 0⟩) 0 0, none, R, μ.le_refl, .vague 0 0 0 x 0, .inl ⟨rfl, by simp, .inr ⟨_, _, _, rfl⟩⟩, Aad.refl _ _, fun y hy => by cases hy⟩
  ·obtain ⟨b, off, spot⟩ := x
   have hpos : 0 < vs.length := by rw [hz]; exact Nat.mul_pos (by omega) (by omega)
   have hc0 := hcell 0 vs[0] (List.getElem?_eq_getElem hpos)
   have hspot : spot = none := by simpa [Addr.add] using World.cell?_spot hc0
   subst hspot
   have hadd : ∀ i, (⟨b, off, none⟩ : Addr).add i = ⟨b, off + i, none⟩ := fun i => by unfold Addr.add; split <;> simp_all
   have hb : b < W.heap.size := by
    obtain ⟨cc, el, fr, h1, _⟩ := Anf (by simpa [Addr.add] using hc0)
    exact (Array.getElem?_eq_some_iff.1 h1).1
   have hle : μ.le (μ.put h.nq ⟨b, off, 0, s, cap * s⟩) := Map.le_put (R.next_none (Nat.le_refl _))
   refine ⟨h.new ⟨vs, cap * s, s, false, false⟩, μ.put h.nq ⟨b, off, 0, s, cap * s⟩, .slice (some ⟨h.nq, 0, none⟩) len cap, some h.nq, ?_, hle, ?_, ?_, Aad.new, fun y hy => by cases hy; exact Nat.le_refl _⟩
   ·refine { below := R.below, size := R.size, zk := R.zk, fresh := fun j e he => ?_, blk := fun j k hj => ?_, apart := fun j j' k k' e e' hj hj' hne ho ho' n1 n2 he he' => ?_, aux := R.aux.keep hle (fun i o ho _ => ho) }
    ·rw [Aet]
     by_cases h0 : j = h.nq
     ·omega
     ·rw [Map.put_other h0] at he
      have := R.fresh j e he; omega
    ·rw [Aa5] at hj
     by_cases h0 : j = h.nq
     ·rw [if_pos h0, Option.some.injEq] at hj
      subst hj; subst h0
      refine ⟨_, Map.put_same _ _ _, ⟨rfl, rfl, by simp [hz], fun _ => rfl, fun h => (by cases h), fun _ => hb, fun i v hi => ?_⟩⟩
      obtain ⟨cc, el, fr, h1, h2⟩ := Anf (show W.cell? ⟨b, off + i, none⟩ = _ by rw [<- hadd]; exact hcell i v hi)
      exact ⟨cc, el, fr, _, h1, h2, .same _ (List.all_eq_true.1 hp v (List.mem_of_getElem? hi))⟩
     ·rw [if_neg h0] at hj
      obtain ⟨e, he, xx⟩ := R.blk j k hj
      exact ⟨e, hle _ _ he, xx.mono hle (fun _ _ => rfl)⟩
    ·rw [Aa5] at hj hj'
     by_cases h0 : j = h.nq
     ·rw [if_pos h0, Option.some.injEq] at hj
      subst hj; cases ho
     ·by_cases h0' : j' = h.nq
      ·rw [if_pos h0', Option.some.injEq] at hj'
       subst hj'; cases ho'
      ·rw [if_neg h0] at hj
       rw [if_neg h0'] at hj'
       rw [Map.put_other h0] at he
       rw [Map.put_other h0'] at he'
       exact R.apart j j' k k' e e' hj hj' hne ho ho' n1 n2 he he'
   ·have := Ab9.slice (μ := μ.put h.nq ⟨b, off, 0, s, cap * s⟩) h.nq 0 len cap ⟨b, off, 0, s, cap * s⟩ (Map.put_same _ _ _)
    simpa using this
   ·refine .inr ⟨h.nq, 0, cap, rfl, rfl, ⟨⟨_, by rw [Aa5]; exact if_pos rfl, rfl, by simp, ?_⟩, hl, Nat.lt_succ_self _⟩⟩
    simp only [hz, Nat.zero_add]
    exact Nat.mul_le_mul_right _ hl
def A60 (h : Aac) (s bytes : Nat) (zero : List Value) (L C : Value) : Option (Value × Aac) := match Ag1 L, Ag1 C with
 | some l, some c => bif Nat.ble l c && Nat.ble (bytes * c) 1099511627776 && Nat.ble c 1099511627776 then some (.slice (some ⟨h.nq, 0, none⟩) l c, h.new { cells := rep zero c, n := c * s, s := s, own := true, grown := false }) else none
 | _, _ => none
theorem Ayp {ts : T Value} {h : Aac} {s bytes : Nat} {zero : List Value} {l c : Opd} : eop ts h (.mkS s bytes zero l c) = A60 h s bytes zero (ev ts l) (ev ts c) := (rfl)
theorem Az7 {h : Aac} {s bytes n : Nat} {zero : List Value} (b1 : bytes * n <= 1099511627776) (b2 : n <= 1099511627776) : A60 h s bytes zero (I n) (I n) = some (.slice (some ⟨h.nq, 0, none⟩) n n, h.new ⟨rep zero n, n * s, s, true, false⟩) := by
 unfold A60
 rw [Ajq]
 simp only [Abl (Nat.le_refl n), Abl b1, Abl b2, Bool.and_true, cond_true]
open Go.RowKit
section
variable {P : Program} {N : Nat} {ro : Option Nat} {cf : Aa7} {ts ts' : T Value} {h : Aac}
def Apk (h : Aac) (r : Rec) : Prop := match r.o.op with
 | .r q => Abk r.ts r.o.guard = true -> rop r.ts h q = some r.v /\ veq r.v r.v = true
 | _ => True
def dqf (cf : Aa7) : List Aao -> T Value -> Aac -> (T Value -> Prop) -> Prop
 | [], ts, _, Q => Q ts
 | o :: r, ts, h, Q => match Abk ts o.guard with
  | true => (match o.op with
   | .r q => (match rop ts h q with
    | some v => veq v v = true /\ dqf cf r (Aci ts o.dst v) h Q
    | none => False)
   | q => (match Aby cf ts h q with
    | some (v, k) => k = h /\ dqf cf r (Aci ts o.dst v) h Q
    | none => False))
  | false => dqf cf r (Aci ts o.dst undef) h Q
theorem Aov {Q : T Value -> Prop} : ∀ {l : List Aao} {ts : T Value}, dqf cf l ts h Q -> ∃ recs hs ts', Acy cf l ts h = some (recs, hs, ts', h) /\ (∀ k ∈ hs, k = h) /\ (∀ r ∈ recs, Apk h r) /\ Q ts'
 | [], ts, q => ⟨[], [], ts, Ads _ _ _, by simp, by simp, q⟩
 | o :: r, ts, q => by
  unfold dqf at q
  have fin : ∀ v, (Abk ts o.guard = true /\ Aby cf ts h o.op = some (v, h) \/ Abk ts o.guard = false /\ v = undef) -> Apk h ⟨o, ts, v⟩ -> dqf cf r (Aci ts o.dst v) h Q -> ∃ recs hs ts', Acy cf (o :: r) ts h = some (recs, hs, ts', h) /\ (∀ k ∈ hs, k = h) /\ (∀ r ∈ recs, Apk h r) /\ Q ts' := by
   intro v hv hr hq
   obtain ⟨recs, hs, ts', e, e1, e2, e3⟩ := Aov hq
   refine ⟨⟨o, ts, v⟩ :: recs, (bif isE o.op then h :: hs else hs), ts', ?_, ?_, ?_, e3⟩
   ·rw [Acz]
    rcases hv with ⟨h1, h2⟩ | ⟨h1, rfl⟩
    ·simp only [h1, h2, e]
    ·simp only [h1, e]
   ·intro k hk
    cases hE : isE o.op <;> rw [hE] at hk <;> simp at hk
    ·exact e1 k hk
    ·rcases hk with hk | hk
     ·exact hk
     ·exact e1 k hk
   ·intro x hx
    rcases List.mem_cons.1 hx with rfl | hx
    ·exact hr
    ·exact e2 x hx
  split at q
  ·rename_i hw
   split at q
   ·rename_i q' ho
    split at q
    ·rename_i v hv
     refine fin v (.inl ⟨hw, by simp only [ho, Aby, Acc, hv]⟩) ?_ q.2
     unfold Apk
     simp only [ho]
     exact fun _ => ⟨hv, q.1⟩
    ·exact q.elim
   ·rename_i hno
    split at q
    ·rename_i v k hv
     obtain ⟨rfl, q⟩ := q
     refine fin v (.inl ⟨hw, hv⟩) ?_ q
     unfold Apk
     split
     ·rename_i q' ho; exact (hno q' ho).elim
     ·trivial
    ·exact q.elim
  ·rename_i hw
   refine fin undef (.inr ⟨hw, rfl⟩) ?_ q
   unfold Apk
   split
   ·intro hx; rw [hw] at hx; cases hx
   ·trivial
theorem Aus {ts : T Value} {q : ROp} {v : Value} (hr : rop ts h q = some v) (hv : veq v v = true) : ∀ (hs : List Aac), (∀ k ∈ hs, k = h) -> Axr ts q v hs = true := by
 intro hs
 induction hs with
 | nil => intro _; rfl
 | cons k hs ih =>
  intro hk
  have e := hk k (by simp)
  unfold Axr
  rw [e, hr]
  simp only [hv, ih (fun j hj => hk j (List.mem_cons_of_mem _ hj)), Bool.and_true]
theorem Apf {hs : List Aac} (hk : ∀ k ∈ hs, k = h) : ∀ {recs : List Rec} {ws : List (Nat × Nat)}, (∀ r ∈ recs, Apk h r) -> Aff hs recs ws = true
 | [], ws, _ => Ahy hs ws
 | r :: rs, [], _ => Afd hs (r :: rs)
 | r :: rs, (lo, hi) :: ws, hr => by
  rw [Ae6, Apf hk (fun x hx => hr x (List.mem_cons_of_mem _ hx)), Bool.and_true]
  have h0 := hr r (by simp)
  unfold Apk at h0
  unfold A32
  split
  ·rename_i q ho
   simp only [ho] at h0
   cases Nat.beq lo hi with
   | true => rfl
   | false =>
    simp only [cond_false]
    split
    ·rename_i hw
     obtain ⟨h1, h2⟩ := h0 hw
     exact Aus h1 h2 _ (fun k hk' => hk k (List.mem_of_mem_drop (List.mem_of_mem_take hk')))
    ·rfl
  ·rfl
theorem Ai5 {Q : T Value -> Prop} : ∀ {l : List Aao} {ts : T Value}, dqf cf l ts h Q -> ∃ ts', Ahd cf l ts h = some (ts', h) /\ Q ts'
 | [], ts, q => ⟨ts, Ahl _ _ _, q⟩
 | o :: r, ts, q => by
  unfold dqf at q
  split at q
  ·rename_i hw
   split at q
   ·rename_i q' ho
    split at q
    ·rename_i v hv
     obtain ⟨ts', e, hq⟩ := Ai5 q.2
     exact ⟨ts', by rw [Ade, hw]; simp only [ho, Aby, Acc, hv]; exact e, hq⟩
    ·exact q.elim
   ·split at q
    ·rename_i v k hv
     obtain ⟨hk, q⟩ := q
     rw [hk] at hv
     obtain ⟨ts', e, hq⟩ := Ai5 q
     exact ⟨ts', by rw [Ade, hw]; simp only [hv]; exact e, hq⟩
    ·exact q.elim
  ·rename_i hw
   obtain ⟨ts', e, hq⟩ := Ai5 q
   exact ⟨ts', by rw [Ade, hw]; exact e, hq⟩
theorem A1e {Q : Abz -> T Value -> Aac -> Prop} (cf : Aa7) (hcf : Ajg P cf) {l : List Aao} {win : List (Nat × Nat)} (x : dqf cf l ts h fun t => Q .normal t h) : CW P N ro (.draw l win) ts h Q := by
 cases win with
 | nil =>
  obtain ⟨ts', e, hq⟩ := Ai5 x
  exact ⟨_, _, _, Ak8 hcf (by unfold Agv; exact e), hq⟩
 | cons w ws =>
  obtain ⟨recs, hs, ts', e, e1, e2, e3⟩ := Aov x
  refine ⟨_, _, _, Ak8 hcf ?_, e3⟩
  unfold Agv
  simp only [e]
  rw [Apf (fun k hk => by rcases List.mem_cons.1 hk with hk | hk; exact hk; exact e1 k hk) e2]
  rfl
theorem Awl {Q : Abz -> T Value -> Aac -> Prop} (cf : Aa7) (hcf : Ajg P cf) {l : List Aao} {w : Nat × Nat} {ws : List (Nat × Nat)} (x : dqf cf l ts h fun t => Q .normal t h) : cwf P N ro (.draw l (w :: ws)) ts h Q := A1e cf hcf x
theorem Ac4 (k : IntKind) (n : Int) : veq (.int k n) (.int k n) = true := by simp [veq, Atr]
theorem Ag5 (a : Option Addr) (n c : Nat) : veq (.slice a n c) (.slice a n c) = true := by simp [veq, Atr]
variable {r : List Aao} {dst : Option Nat} {q : AOp} {S : T Value -> Prop}
def bq (cf : Aa7) (r : List Aao) (ts : T Value) (dst : Option Nat) (h : Aac) (S : T Value -> Prop) (v : Value) : Prop := dqf cf r (Aci ts dst v) h S
def bqv (cf : Aa7) (r : List Aao) (ts : T Value) (dst : Option Nat) (h : Aac) (S : T Value -> Prop) (v : Value) : Prop := veq v v = true /\ dqf cf r (Aci ts dst v) h S
def bq2 (cf : Aa7) (r : List Aao) (ts : T Value) (dst : Option Nat) (h : Aac) (S : T Value -> Prop) (v : Value) (k : Aac) : Prop := k = h /\ dqf cf r (Aci ts dst v) h S
theorem A8d (v : Value) : bq cf r ts dst h S v = dqf cf r (Aci ts dst v) h S := (rfl)
theorem A5w (v : Value) : bqv cf r ts dst h S v = (veq v v = true /\ dqf cf r (Aci ts dst v) h S) := (rfl)
theorem A5o (v : Value) (k : Aac) : bq2 cf r ts dst h S v k = (k = h /\ dqf cf r (Aci ts dst v) h S) := (rfl)
theorem A65 : dqf cf [] ts h S = S ts := (rfl)
theorem q_p {q : POp} : dqf cf (⟨dst, .p q, none⟩ :: r) ts h S = Att (pop ts q) (bq cf r ts dst h S) := by
 show (match (match pop ts q with | some v => some (v, h) | none => none) with | some (v, k) => k = h /\ dqf cf r (Aci ts dst v) h S | none => False) = _
 cases pop ts q with
 | none => rfl
 | some v => simp [Att, bq]
theorem q_r {q : ROp} : dqf cf (⟨dst, .r q, none⟩ :: r) ts h S = Att (rop ts h q) (bqv cf r ts dst h S) := by
 show (match rop ts h q with | some v => veq v v = true /\ dqf cf r (Aci ts dst v) h S | none => False) = _
 cases rop ts h q <;> rfl
theorem A6l {f : Nat} {l : List Opd} : dqf cf (⟨dst, .call f l, none⟩ :: r) ts h S = A0h (cf (.fn f) (evs ts l) h) (bq2 cf r ts dst h S) := (rfl)
theorem A85 {t : Nat} {b : Bool} (hb : isB (look ts t) b = true) : dqf cf (⟨dst, q, some (t, b)⟩ :: r) ts h S = dqf cf (⟨dst, q, none⟩ :: r) ts h S := by
 show (match isB (look ts t) b with | true => _ | false => _) = _
 rw [hb]; rfl
end
open Go.RowKit
section
variable {P : Program} {N : Nat} {ro : Option Nat} {cf : Aa7} {ts ts' : T Value} {h : Aac} {J : Aac -> Prop}
def A22 (J : Aac -> Prop) (r : Rec) : Prop := match r.o.op with
 | .r q => Abk r.ts r.o.guard = true -> (∀ k, J k -> rop r.ts k q = some r.v) /\ veq r.v r.v = true
 | _ => True
def djf (J : Aac -> Prop) (cf : Aa7) : List Aao -> T Value -> Aac -> (T Value -> Aac -> Prop) -> Prop
 | [], ts, h, Q => Q ts h
 | o :: r, ts, h, Q => match Abk ts o.guard with
  | true => (match o.op with
   | .r q => ∃ v, (∀ k, J k -> rop ts k q = some v) /\ veq v v = true /\ djf J cf r (Aci ts o.dst v) h Q
   | q => (match Aby cf ts h q with
    | some (v, k) => J k /\ djf J cf r (Aci ts o.dst v) k Q
    | none => False))
  | false => djf J cf r (Aci ts o.dst undef) h Q
theorem Ap0 {Q : T Value -> Aac -> Prop} : ∀ {l : List Aao} {ts : T Value} {h : Aac}, J h -> djf J cf l ts h Q -> ∃ recs hs ts' h', Acy cf l ts h = some (recs, hs, ts', h') /\ (∀ k ∈ hs, J k) /\ (∀ r ∈ recs, A22 J r) /\ Q ts' h'
 | [], ts, h, _, q => ⟨[], [], ts, h, Ads _ _ _, by simp, by simp, q⟩
 | o :: r, ts, h, hJ, q => by
  unfold djf at q
  have fin : ∀ v k, J k -> (Abk ts o.guard = true /\ Aby cf ts h o.op = some (v, k) \/ Abk ts o.guard = false /\ v = undef /\ k = h) -> A22 J ⟨o, ts, v⟩ -> djf J cf r (Aci ts o.dst v) k Q -> ∃ recs hs ts' h', Acy cf (o :: r) ts h = some (recs, hs, ts', h') /\ (∀ k ∈ hs, J k) /\ (∀ r ∈ recs, A22 J r) /\ Q ts' h' := by
   intro v k hk hv hr hq
   obtain ⟨recs, hs, ts', h', e, e1, e2, e3⟩ := Ap0 hk hq
   refine ⟨⟨o, ts, v⟩ :: recs, (bif isE o.op then k :: hs else hs), ts', h', ?_, ?_, ?_, e3⟩
   ·rw [Acz]
    rcases hv with ⟨h1, h2⟩ | ⟨h1, rfl, rfl⟩
    ·simp only [h1, h2, e]
    ·simp only [h1, e]
   ·intro x hx
    cases hE : isE o.op <;> rw [hE] at hx <;> simp at hx
    ·exact e1 x hx
    ·rcases hx with hx | hx
     ·rw [hx]; exact hk
     ·exact e1 x hx
   ·intro x hx
    rcases List.mem_cons.1 hx with rfl | hx
    ·exact hr
    ·exact e2 x hx
  split at q
  ·rename_i hw
   split at q
   ·rename_i q' ho
    obtain ⟨v, h1, h2, q⟩ := q
    refine fin v h hJ (.inl ⟨hw, by simp only [ho, Aby, Acc, h1 h hJ]⟩) ?_ q
    unfold A22
    simp only [ho]
    exact fun _ => ⟨h1, h2⟩
   ·rename_i hno
    split at q
    ·rename_i v k hv
     refine fin v k q.1 (.inl ⟨hw, hv⟩) ?_ q.2
     unfold A22
     split
     ·rename_i q' ho; exact (hno q' ho).elim
     ·trivial
    ·exact q.elim
  ·rename_i hw
   refine fin undef h hJ (.inr ⟨hw, rfl, rfl⟩) ?_ q
   unfold A22
   split
   ·intro hx; rw [hw] at hx; cases hx
   ·trivial
theorem Ax5 {ts : T Value} {q : ROp} {v : Value} (hr : ∀ k, J k -> rop ts k q = some v) (hv : veq v v = true) : ∀ (hs : List Aac), (∀ k ∈ hs, J k) -> Axr ts q v hs = true := by
 intro hs
 induction hs with
 | nil => intro _; rfl
 | cons k hs ih =>
  intro hk
  unfold Axr
  rw [hr k (hk k (by simp))]
  simp only [hv, ih (fun j hj => hk j (List.mem_cons_of_mem _ hj)), Bool.and_true]
theorem As8 {hs : List Aac} (hk : ∀ k ∈ hs, J k) : ∀ {recs : List Rec} {ws : List (Nat × Nat)}, (∀ r ∈ recs, A22 J r) -> Aff hs recs ws = true
 | [], ws, _ => Ahy hs ws
 | r :: rs, [], _ => Afd hs (r :: rs)
 | r :: rs, (lo, hi) :: ws, hr => by
  rw [Ae6, As8 hk (fun x hx => hr x (List.mem_cons_of_mem _ hx)), Bool.and_true]
  have h0 := hr r (by simp)
  unfold A22 at h0
  unfold A32
  split
  ·rename_i q ho
   simp only [ho] at h0
   cases Nat.beq lo hi with
   | true => rfl
   | false =>
    simp only [cond_false]
    split
    ·rename_i hw
     obtain ⟨h1, h2⟩ := h0 hw
     exact Ax5 h1 h2 _ (fun k hk' => hk k (List.mem_of_mem_drop (List.mem_of_mem_take hk')))
    ·rfl
  ·rfl
theorem Anp {Q : Abz -> T Value -> Aac -> Prop} (J : Aac -> Prop) (cf : Aa7) (hcf : Ajg P cf) {l : List Aao} {w : Nat × Nat} {ws : List (Nat × Nat)} (hJ : J h) (x : djf J cf l ts h (Q .normal)) : cwf P N ro (.draw l (w :: ws)) ts h Q := by
 obtain ⟨recs, hs, ts', h', e, e1, e2, e3⟩ := Ap0 hJ x
 refine ⟨_, _, _, Ak8 hcf ?_, e3⟩
 unfold Agv
 simp only [e]
 rw [As8 (fun k hk => by rcases List.mem_cons.1 hk with hk | hk; rw [hk]; exact hJ; exact e1 k hk) e2]
 rfl
variable {r : List Aao} {dst : Option Nat} {q : AOp} {S : T Value -> Aac -> Prop}
def bj (J : Aac -> Prop) (cf : Aa7) (r : List Aao) (ts : T Value) (dst : Option Nat) (h : Aac) (S : T Value -> Aac -> Prop) (v : Value) : Prop := djf J cf r (Aci ts dst v) h S
def bj2 (J : Aac -> Prop) (cf : Aa7) (r : List Aao) (ts : T Value) (dst : Option Nat) (S : T Value -> Aac -> Prop) (v : Value) (k : Aac) : Prop := J k /\ djf J cf r (Aci ts dst v) k S
theorem Apl (v : Value) : bj J cf r ts dst h S v = djf J cf r (Aci ts dst v) h S := (rfl)
theorem A1d : djf J cf [] ts h S = S ts h := (rfl)
theorem j_p {q : POp} (hJ : J h) : djf J cf (⟨dst, .p q, none⟩ :: r) ts h S = Att (pop ts q) (bj J cf r ts dst h S) := by
 show (match (match pop ts q with | some v => some (v, h) | none => none) with | some (v, k) => J k /\ djf J cf r (Aci ts dst v) k S | none => False) = _
 cases pop ts q with
 | none => rfl
 | some v => simp [Att, bj, hJ]
theorem Am9 {x : Opd} : djf J cf (⟨dst, .r (.load1 x), none⟩ :: r) ts h S = ∃ v, (∀ k, J k -> ldV k (ev ts x) = some v) /\ veq v v = true /\ bj J cf r ts dst h S v := (rfl)
theorem Alj {f : Nat} {l : List Opd} : djf J cf (⟨dst, .call f l, none⟩ :: r) ts h S = A0h (cf (.fn f) (evs ts l) h) (bj2 J cf r ts dst S) := (rfl)
theorem Apq (v : Value) (k : Aac) : bj2 J cf r ts dst S v k = (J k /\ djf J cf r (Aci ts dst v) k S) := (rfl)
theorem A2n {t : Nat} {b : Bool} (hb : isB (look ts t) b = true) : djf J cf (⟨dst, q, some (t, b)⟩ :: r) ts h S = djf J cf (⟨dst, q, none⟩ :: r) ts h S := by
 show (match isB (look ts t) b with | true => _ | false => _) = _
 rw [hb]; rfl
theorem A24 {t : Nat} {b : Bool} (hb : isB (look ts t) b = false) : djf J cf (⟨dst, q, some (t, b)⟩ :: r) ts h S = djf J cf r (Aci ts dst undef) h S := by
 show (match isB (look ts t) b with | true => _ | false => _) = _
 rw [hb]
end
open Go.RowKit
section
variable {P : Program} {N : Nat} {ro : Option Nat} {cf : Aa7} {ts ts' : T Value} {h : Aac} {J : Nat -> Aac -> Prop}
def A2q (J : Nat -> Aac -> Prop) (r : Rec) (w : Nat × Nat) : Prop := match r.o.op with
 | .r q => Abk r.ts r.o.guard = true -> (∀ j k, w.1 <= j -> j <= w.2 -> J j k -> rop r.ts k q = some r.v) /\ veq r.v r.v = true
 | _ => True
def Anr (J : Nat -> Aac -> Prop) : List Rec -> List (Nat × Nat) -> Prop
 | r :: rs, w :: ws => A2q J r w /\ Anr J rs ws
 | _, _ => True
def Ajr (J : Nat -> Aac -> Prop) (cf : Aa7) : List Aao -> List (Nat × Nat) -> Nat -> T Value -> Aac -> (T Value -> Aac -> Prop) -> Prop
 | [], _, _, ts, h, Q => Q ts h
 | o :: r, ws, i, ts, h, Q => match Abk ts o.guard with
  | true => (match o.op with
   | .p q => (match pop ts q with
    | some v => Ajr J cf r ws.tail i (Aci ts o.dst v) h Q
    | none => False)
   | .r q => ∃ v, rop ts h q = some v /\ (∀ j k, (ws.headD (0, 0)).1 <= j -> j <= (ws.headD (0, 0)).2 -> J j k -> rop ts k q = some v) /\ veq v v = true /\ Ajr J cf r ws.tail i (Aci ts o.dst v) h Q
   | q => (match Aby cf ts h q with
    | some (v, k) => J (i + 1) k /\ Ajr J cf r ws.tail (i + 1) (Aci ts o.dst v) k Q
    | none => False))
  | false => bif isE o.op then J (i + 1) h /\ Ajr J cf r ws.tail (i + 1) (Aci ts o.dst undef) h Q else Ajr J cf r ws.tail i (Aci ts o.dst undef) h Q
def A0x (J : Nat -> Aac -> Prop) (i : Nat) (hs : List Aac) : Prop := ∀ j k, hs[j]? = some k -> J (i + j) k
theorem A0x.cons {i : Nat} {k : Aac} {hs : List Aac} (a : J i k) (b : A0x J (i + 1) hs) : A0x J i (k :: hs) := by
 intro j m hj
 cases j with
 | zero => simp at hj; subst hj; exact a
 | succ j => simp at hj; have := b j m hj; rwa [show i + 1 + j = i + (j + 1) by omega] at this
theorem Ajt {Q : T Value -> Aac -> Prop} : ∀ {l : List Aao} {ws : List (Nat × Nat)} {i : Nat} {ts : T Value} {h : Aac}, Ajr J cf l ws i ts h Q -> ∃ recs hs ts' h', Acy cf l ts h = some (recs, hs, ts', h') /\ A0x J (i + 1) hs /\ Anr J recs ws /\ Q ts' h'
 | [], ws, i, ts, h, q => ⟨[], [], ts, h, Ads _ _ _, fun j k hj => by simp at hj, by unfold Anr; trivial, q⟩
 | o :: r, ws, i, ts, h, q => by
  unfold Ajr at q
  have stay : isE o.op = false -> ∀ v, (Abk ts o.guard = true /\ Aby cf ts h o.op = some (v, h) \/ Abk ts o.guard = false /\ v = undef) -> (∀ w, ws.head? = some w -> A2q J ⟨o, ts, v⟩ w) -> Ajr J cf r ws.tail i (Aci ts o.dst v) h Q -> ∃ recs hs ts' h', Acy cf (o :: r) ts h = some (recs, hs, ts', h') /\ A0x J (i + 1) hs /\ Anr J recs ws /\ Q ts' h' := by
   intro hE v hv hr hq
   obtain ⟨recs, hs, ts', h', e, e1, e2, e3⟩ := Ajt hq
   refine ⟨⟨o, ts, v⟩ :: recs, hs, ts', h', ?_, e1, ?_, e3⟩
   ·rw [Acz]
    rcases hv with ⟨h1, h2⟩ | ⟨h1, rfl⟩
    ·simp only [h1, h2, e, hE, cond_false]
    ·simp only [h1, e, hE, cond_false]
   ·cases ws with
    | nil => unfold Anr; trivial
    | cons w ws => exact ⟨hr w rfl, e2⟩
  have turn : isE o.op = true -> ∀ v k, (Abk ts o.guard = true /\ Aby cf ts h o.op = some (v, k) \/ Abk ts o.guard = false /\ v = undef /\ k = h) -> J (i + 1) k -> Ajr J cf r ws.tail (i + 1) (Aci ts o.dst v) k Q -> ∃ recs hs ts' h', Acy cf (o :: r) ts h = some (recs, hs, ts', h') /\ A0x J (i + 1) hs /\ Anr J recs ws /\ Q ts' h' := by
   intro hE v k hv hJ hq
   obtain ⟨recs, hs, ts', h', e, e1, e2, e3⟩ := Ajt hq
   refine ⟨⟨o, ts, v⟩ :: recs, k :: hs, ts', h', ?_, A0x.cons hJ e1, ?_, e3⟩
   ·rw [Acz]
    rcases hv with ⟨h1, h2⟩ | ⟨h1, rfl, rfl⟩
    ·simp only [h1, h2, e, hE, cond_true]
    ·simp only [h1, e, hE, cond_true]
   ·cases ws with
    | nil => unfold Anr; trivial
    | cons w ws =>
     refine ⟨?_, e2⟩
     unfold A2q
     split
     ·rename_i q' ho
      have ho' : o.op = .r q' := ho
      rw [ho'] at hE; cases hE
     ·trivial
  split at q
  ·rename_i hw
   split at q
   ·rename_i q' ho
    split at q
    ·rename_i v hv
     refine stay (by rw [ho]; rfl) v (.inl ⟨hw, by simp only [ho, Aby, Acc, hv]⟩) (fun w _ => ?_) q
     unfold A2q
     split
     ·rename_i q2 ho2
      have ho2' : o.op = .r q2 := ho2
      rw [ho] at ho2'; cases ho2'
     ·trivial
    ·exact q.elim
   ·rename_i q' ho
    obtain ⟨v, h0, h1, h2, q⟩ := q
    refine stay (by rw [ho]; rfl) v (.inl ⟨hw, by simp only [ho, Aby, Acc, h0]⟩) (fun w hw' => ?_) q
    unfold A2q
    simp only [ho]
    refine fun _ => ⟨?_, h2⟩
    cases ws with
    | nil => simp at hw'
    | cons w0 ws => simp at hw'; subst hw'; exact h1
   ·rename_i hnp hnr
    split at q
    ·rename_i v k hv
     have hE : isE o.op = true := by
      cases ho : o.op with
      | p q2 => exact (hnp q2 ho).elim
      | r q2 => exact (hnr q2 ho).elim
      | bad => rw [ho] at hv; simp [Aby, Acc] at hv
      | _ => rfl
     exact turn hE v k (.inl ⟨hw, hv⟩) q.1 q.2
    ·exact q.elim
  ·rename_i hw
   cases hE : isE o.op with
   | true => rw [hE] at q; exact turn hE undef h (.inr ⟨hw, rfl, rfl⟩) q.1 q.2
   | false =>
    rw [hE] at q
    refine stay hE undef (.inr ⟨hw, rfl⟩) (fun w _ => ?_) q
    unfold A2q
    split
    ·intro hx; rw [hw] at hx; cases hx
    ·trivial
theorem A1m {ts : T Value} {q : ROp} {v : Value} (hv : veq v v = true) : ∀ (hs : List Aac), (∀ k ∈ hs, rop ts k q = some v) -> Axr ts q v hs = true := by
 intro hs
 induction hs with
 | nil => intro _; rfl
 | cons k hs ih =>
  intro hk
  unfold Axr
  rw [hk k (by simp)]
  simp only [hv, ih (fun j hj => hk j (List.mem_cons_of_mem _ hj)), Bool.and_true]
theorem Ay7 {hs : List Aac} (hk : A0x J 0 hs) : ∀ {recs : List Rec} {ws : List (Nat × Nat)}, Anr J recs ws -> Aff hs recs ws = true
 | [], ws, _ => Ahy hs ws
 | r :: rs, [], _ => Afd hs (r :: rs)
 | r :: rs, (lo, hi) :: ws, hr => by
  have hr' : A2q J r (lo, hi) /\ Anr J rs ws := hr
  rw [Ae6, Ay7 hk hr'.2, Bool.and_true]
  have h0 := hr'.1
  unfold A2q at h0
  unfold A32
  split
  ·rename_i q ho
   simp only [ho] at h0
   cases Nat.beq lo hi with
   | true => rfl
   | false =>
    simp only [cond_false]
    split
    ·rename_i hw
     obtain ⟨h1, h2⟩ := h0 hw
     refine A1m h2 _ (fun k hk' => ?_)
     obtain ⟨j, hj⟩ := List.getElem?_of_mem hk'
     rw [List.getElem?_take] at hj
     split at hj
     ·rename_i hlt
      rw [List.getElem?_drop] at hj
      have := hk _ _ hj
      rw [Nat.zero_add] at this
      exact h1 _ _ (by omega) (by omega) this
     ·cases hj
    ·rfl
  ·rfl
theorem Adz {Q : Abz -> T Value -> Aac -> Prop} (J : Nat -> Aac -> Prop) (cf : Aa7) (hcf : Ajg P cf) {l : List Aao} {w : Nat × Nat} {ws : List (Nat × Nat)} (hJ : J 0 h) (x : Ajr J cf l (w :: ws) 0 ts h (Q .normal)) : cwf P N ro (.draw l (w :: ws)) ts h Q := by
 obtain ⟨recs, hs, ts', h', e, e1, e2, e3⟩ := Ajt x
 refine ⟨_, _, _, Ak8 hcf ?_, e3⟩
 unfold Agv
 simp only [e]
 rw [Ay7 (A0x.cons hJ e1) e2]
 rfl
variable {r : List Aao} {ws : List (Nat × Nat)} {i lo hi : Nat} {dst : Option Nat} {q : AOp} {S : T Value -> Aac -> Prop}
def bw (J : Nat -> Aac -> Prop) (cf : Aa7) (r : List Aao) (ws : List (Nat × Nat)) (i : Nat) (ts : T Value) (dst : Option Nat) (h : Aac) (S : T Value -> Aac -> Prop) (v : Value) : Prop := Ajr J cf r ws i (Aci ts dst v) h S
def bwr (J : Nat -> Aac -> Prop) (cf : Aa7) (r : List Aao) (ws : List (Nat × Nat)) (i lo hi : Nat) (ts : T Value) (dst : Option Nat) (h : Aac) (q : ROp) (S : T Value -> Aac -> Prop) (v : Value) : Prop := (∀ j k, lo <= j -> j <= hi -> J j k -> rop ts k q = some v) /\ veq v v = true /\ Ajr J cf r ws i (Aci ts dst v) h S
def bw2 (J : Nat -> Aac -> Prop) (cf : Aa7) (r : List Aao) (ws : List (Nat × Nat)) (i : Nat) (ts : T Value) (dst : Option Nat) (S : T Value -> Aac -> Prop) (v : Value) (k : Aac) : Prop := J i k /\ Ajr J cf r ws i (Aci ts dst v) k S
theorem Ain (v : Value) : bw J cf r ws i ts dst h S v = Ajr J cf r ws i (Aci ts dst v) h S := (rfl)
theorem Afr {q : ROp} (v : Value) : bwr J cf r ws i lo hi ts dst h q S v = ((∀ j k, lo <= j -> j <= hi -> J j k -> rop ts k q = some v) /\ veq v v = true /\ Ajr J cf r ws i (Aci ts dst v) h S) := (rfl)
theorem Ad3 (v : Value) (k : Aac) : bw2 J cf r ws i ts dst S v k = (J i k /\ Ajr J cf r ws i (Aci ts dst v) k S) := (rfl)
theorem Aiv : Ajr J cf [] ws i ts h S = S ts h := (rfl)
theorem w_p {q : POp} : Ajr J cf (⟨dst, .p q, none⟩ :: r) ((lo, hi) :: ws) i ts h S = Att (pop ts q) (bw J cf r ws i ts dst h S) := by
 show (match pop ts q with | some v => Ajr J cf r ws i (Aci ts dst v) h S | none => False) = _
 cases pop ts q <;> rfl
theorem w_r {q : ROp} : Ajr J cf (⟨dst, .r q, none⟩ :: r) ((lo, hi) :: ws) i ts h S = Att (rop ts h q) (bwr J cf r ws i lo hi ts dst h q S) := by
 show (∃ v, rop ts h q = some v /\ (∀ j k, lo <= j -> j <= hi -> J j k -> rop ts k q = some v) /\ veq v v = true /\ Ajr J cf r ws i (Aci ts dst v) h S) = _
 cases hr : rop ts h q with
 | none => simp [Att]
 | some v => simp [Att, bwr]
theorem w_e {q : EOp} : Ajr J cf (⟨dst, .e q, none⟩ :: r) ((lo, hi) :: ws) i ts h S = A0h (eop ts h q) (bw2 J cf r ws (i + 1) ts dst S) := (rfl)
theorem Afl {f : Nat} {l : List Opd} : Ajr J cf (⟨dst, .call f l, none⟩ :: r) ((lo, hi) :: ws) i ts h S = A0h (cf (.fn f) (evs ts l) h) (bw2 J cf r ws (i + 1) ts dst S) := (rfl)
theorem Awg {t : Nat} {b : Bool} (hb : isB (look ts t) b = true) : Ajr J cf (⟨dst, q, some (t, b)⟩ :: r) ws i ts h S = Ajr J cf (⟨dst, q, none⟩ :: r) ws i ts h S := by
 show (match isB (look ts t) b with | true => _ | false => _) = _
 rw [hb]; rfl
end
open Go.RowKit
structure Ac2 (h h' : Aac) (S : Nat -> Prop) : Prop where
 nq : h.nq <= h'.nq
 lqs : ∀ j, j < h.nq -> ¬ S j -> h'.lqs.get j = h.lqs.get j
 get : ∀ j, j < h.nq -> ¬ S j -> h'.bqs.get j = h.bqs.get j
theorem Aad.toB {h h' : Aac} {S : Nat -> Prop} (a : Aad h h' S) : Ac2 h h' S := ⟨a.nq, a.lqs, a.get⟩
theorem Ac2.trans {h k m : Aac} {S T : Nat -> Prop} (a : Ac2 h k S) (b : Ac2 k m T) (hT : ∀ j, j < h.nq -> T j -> S j) : Ac2 h m S :=
 ⟨Nat.le_trans a.nq b.nq, fun j hj hs => by rw [b.lqs j (Nat.lt_of_lt_of_le hj a.nq) (fun ht => hs (hT j hj ht)), a.lqs j hj hs], fun j hj hs => by
  rw [b.get j (Nat.lt_of_lt_of_le hj a.nq) (fun ht => hs (hT j hj ht)), a.get j hj hs]⟩
theorem Ac2.close {h k : Aac} {S : Nat -> Prop} (a : Ac2 h k S) : Aad h { k with mq := h.mq } S := ⟨a.nq, a.lqs, rfl, a.get⟩
theorem Ac2.of {h k : Aac} {S : Nat -> Prop} (a : Ac2 h k S) (m : k.mq = h.mq) : Aad h k S := ⟨a.nq, a.lqs, m, a.get⟩
theorem Ac2.less {h k : Aac} {F : Nat -> Prop} {b : Nat} (a : Ac2 h k (fun j => F j \/ j = b)) (hl : k.lqs.get b = h.lqs.get b) (hb : k.bqs.get b = h.bqs.get b) : Ac2 h k F :=
 ⟨a.nq, fun j hj hs => by
  by_cases e : j = b
  ·rw [e]; exact hl
  ·exact a.lqs j hj (fun x => x.elim hs e), fun j hj hs => by
  by_cases e : j = b
  ·rw [e]; exact hb
  ·exact a.get j hj (fun x => x.elim hs e)⟩
theorem Ac2.mono {h k : Aac} {S T : Nat -> Prop} (a : Ac2 h k S) (hT : ∀ j, S j -> T j) : Ac2 h k T := ⟨a.nq, fun j hj ht => a.lqs j hj (fun hs => ht (hT j hs)), fun j hj ht => a.get j hj (fun hs => ht (hT j hs))⟩
theorem Aa2.sameB {h h' : Aac} {b : Nat} {u : Option Nat} {C : List Int} {z c o r : Int} {S : Nat -> Prop} (m : Aa2 h b u C z c o r) (s : Ac2 h h' S) (hb : ¬ S b) (hu : ∀ x, u = some x -> ¬ S x) : Aa2 h' b u C z c o r :=
 ⟨by rw [s.get b m.lt hb]; exact m.blk, fun x hx => by
  obtain ⟨h1, h2, h3, h4⟩ := m.use x hx
  exact ⟨by rw [s.get x h3 (hu x hx)]; exact h1, h2, Nat.lt_of_lt_of_le h3 s.nq, h4⟩, m.non, Nat.lt_of_lt_of_le m.lt s.nq⟩
def Aac.setL (h : Aac) (b : Nat) (k : Aht) (M : List Nat) : Aac := { h with lqs := h.lqs.put b k, mq := M }
theorem Aez (h : Aac) (b : Nat) (k : Aht) (M : List Nat) (j : Nat) : (h.setL b k M).lqs.get j = if j = b then some k else h.lqs.get j := by
 unfold Aac.setL
 split
 ·rename_i e; subst e; exact T.get_put_same _ _ _
 ·rename_i e; exact T.get_put_other _ _ e
theorem Ajo (h : Aac) (b : Nat) (k : Aht) (M : List Nat) : (h.setL b k M).mq = M := (rfl)
theorem Adw (h : Aac) (b : Nat) (k : Aht) (M : List Nat) : Ac2 h (h.setL b k M) (fun j => j = b) :=
 ⟨Nat.le_refl _, fun j _ hs => by rw [Aez, if_neg hs], fun _ _ _ => rfl⟩
theorem Awz {b : Nat} {h : Aac} {k : Aht} (hk : h.lqs.get b = some k) (h0 : k.st = 0) : Al2 b h = some (h.setL b { k with st := 1 } h.mq) := by
 unfold Al2; rw [hk]; simp only [h0, Adk, cond_true]; rfl
theorem Aqz {b : Nat} {M : List Nat} {h : Aac} {k : Aht} (hk : h.lqs.get b = some k) : A03 .normal b M h = some (.bool true, h.setL b { k with st := 0, pend := none } M) := by
 unfold A03; rw [hk]; rfl
theorem Arb {b : Nat} {ts : T Value} {h : Aac} {k : Aht} (hk : h.lqs.get b = some k) (h0 : k.st ≠ 1) (hp : k.pend = none) : A29 b ts h = some (.normal, ts, h.setL b { k with st := 3 } h.mq) := by
 unfold A29; rw [hk]; simp only [Afa h0, cond_false, hp]; rfl
def Aac.enter (h : Aac) (k : Aht) : Aac := { h with nq := h.nq + 2, lqs := h.lqs.put (h.nq + 1) k, mq := h.nq :: h.mq }
theorem Aqy (h : Aac) (k : Aht) : Al3 none k h = some (h.nq + 1, h.enter k) := (rfl)
theorem Ave (h : Aac) (k : Aht) : (h.enter k).nq = h.nq + 2 := (rfl)
theorem Aim (h : Aac) (k : Aht) (j : Nat) : (h.enter k).lqs.get j = if j = h.nq + 1 then some k else h.lqs.get j := by
 unfold Aac.enter
 split
 ·rename_i e
  show (h.lqs.put (h.nq + 1) k).get j = some k
  rw [e, T.get_put_same]
 ·rename_i e
  show (h.lqs.put (h.nq + 1) k).get j = h.lqs.get j
  rw [T.get_put_other _ _ e]
theorem Ak0 (h : Aac) (k : Aht) : Ac2 h (h.enter k) (fun _ => False) :=
 ⟨by rw [Ave]; omega, fun j hj _ => by rw [Aim, if_neg (by omega)], fun _ _ _ => rfl⟩
theorem Alo {P : Program} {b : Nat} {args : List Value} {h : Aac} {k : Aht} {Q : Value -> Aac -> Prop} {N : Nat} {ts : T Value} {ps : List Nat} {asg body : Acb} (hk : h.lqs.get b = some k) (kts : k.ts = ts) (kn : k.n = N) (kps : k.ps = ps) (kasg : k.asg = asg) (kbody : k.body = body) (h0 : k.st = 0) (hp0 : k.pend = none) (hlen : args.length = ps.length) (hps : ps.all (Nat.blt · N) = true)
  (x : ∀ q1, q1 = h.setL b { k with st := 1 } h.mq -> cwf P N (some b) asg (Al8 ts ps args) h fun e t1 h1 => e = .normal /\ h1 = h /\ cwf P N (some b) body t1 q1 fun e _ h3 => e = .normal /\ h3.lqs.get b = some { k with st := 1 } /\ Q (.bool true) (h3.setL b k h.mq)) : Awm P b args h Q := by
 subst kts kn kps kasg kbody
 refine A0m hk hlen hps ?_
 refine Atm (x _ rfl) ?_
 rintro e t1 h1 ⟨rfl, rfl, y⟩
 refine ⟨rfl, _, Awz hk h0, ?_⟩
 refine Atm y ?_
 rintro e t2 h3 ⟨rfl, h4, q⟩
 refine ⟨_, _, Aqz h4, ?_⟩
 have : ({ k with st := 0, pend := none } : Aht) = k := by cases k; simp_all
 show Q (.bool true) (h3.setL b { ({ k with st := 1 } : Aht) with st := 0, pend := none } h1.mq)
 have e2 : ({ ({ k with st := 1 } : Aht) with st := 0, pend := none } : Aht) = k := this
 rw [e2]; exact q
theorem Aqc {P : Program} {N : Nat} {g : Nat} {ps : List Nat} {asg body : Acb} {f : Nat} {fs cs : Array Value} {ts : T Value} {h : Aac} {Z : Abz -> T Value -> Aac -> Prop} (hg : look ts g = .func (.func f) fs cs)
  (x : ∀ k : Aht, k.ts = ts -> k.n = N -> k.ps = ps -> k.asg = asg -> k.body = body -> k.st = 0 -> k.pend = none -> Aah P f (fs.toList ++ [.func (.yield (h.nq + 1)) #[] #[]] ++ cs.toList) (h.enter k) fun _ h2 => h2.lqs.get (h.nq + 1) = some k /\ Z .normal ts (h2.setL (h.nq + 1) { k with st := 3 } h2.mq)) : CW P N none (.rangeF (.t g) N ps asg body) ts h Z := by
 refine A18 (g := .t g) hg (Aqy _ _) ?_
 obtain ⟨v, h2, F, hl, z⟩ := x { ts := ts, n := N, ps := ps, asg := asg, body := body, st := 0, pend := none } rfl rfl rfl rfl rfl rfl rfl
 exact ⟨v, h2, F, _, _, _, Arb hl (fun e => Nat.noConfusion e) rfl, z⟩
theorem A2u {P : Program} {N : Nat} {ro : Option Nat} {ac : Acb} {ts : T Value} {h : Aac} {Z : Abz -> T Value -> Aac -> Prop} (R : T Value -> Prop) (hr : R ts) (x : ∀ t, R t -> CW P N ro ac t h Z) : CW P N ro ac ts h Z := x ts hr
def Ap1 (cf : Aa7) (x : Value) (args : List Value) (h : Aac) : Option (Value × Aac) := match x with
 | .func (.func f) fs cs => cf (.fn f) (fs.toList ++ args ++ cs.toList) h
 | .func (.yield b) _ _ => cf (.yield b) args h
 | _ => none
theorem Ats {P : Program} {x : Value} {args : List Value} {h : Aac} {Q : Value -> Aac -> Prop} (hx : Ar8 P x args h Q) : ∃ v h' cf, Ajg P cf /\ Ap1 cf x args h = some (v, h') /\ Q v h' := by
 unfold Ar8 at hx
 split at hx
 ·obtain ⟨v, h', F, q⟩ := hx
  exact ⟨v, h', _, Aba F Abo, Abd, q⟩
 ·obtain ⟨v, h', F, q⟩ := hx
  exact ⟨v, h', _, A2s F Abo, A2y, q⟩
 ·exact hx.elim
def Av4 (x : Value) (l : List Nat) : Prop := ∀ f fs cs, x = .func (.func f) fs cs -> f ∉ l
theorem Ahx {f : Nat} {a : List Value} {k : Aac} {v : Value} {k' : Aac} {cf : Aa7} {x : Value} {args : List Value} {h : Aac} (n : Av4 x [f]) : Ap1 (Ad9 f a k v k' cf) x args h = Ap1 cf x args h := by
 unfold Ap1
 split
 ·rename_i g fs cs
  exact Acd (fun e => n g fs cs rfl (by simp [e]))
 ·unfold Ad9; rw [if_neg]; rintro ⟨h1, _⟩; cases h1
 ·rfl
section
variable {P : Program} {N : Nat} {cf : Aa7} {ts : T Value} {h : Aac} {J : Nat -> Aac -> Prop} {r : List Aao} {ws : List (Nat × Nat)} {i lo hi : Nat} {dst : Option Nat} {S : T Value -> Aac -> Prop}
theorem Awy {x : Opd} {l : List Opd} : Ajr J cf (⟨dst, .callv x l, none⟩ :: r) ((lo, hi) :: ws) i ts h S = A0h (Ap1 cf (ev ts x) (evs ts l) h) (bw2 J cf r ws (i + 1) ts dst S) := by
 show (match (match ev ts x with
  | .func (.func f) fs cs => cf (.fn f) (fs.toList ++ evs ts l ++ cs.toList) h
  | .func (.yield b) _ _ => cf (.yield b) (evs ts l) h
  | _ => none) with | some (v, k) => J (i + 1) k /\ Ajr J cf r ws (i + 1) (Aci ts dst v) k S | none => False) = _
 unfold Ap1
 rfl
end
def A2z : Value -> Bool
 | .func _ _ _ => true
 | _ => false
theorem Agm {v : Value} (h : A2z v = true) : Aas v = true := by cases v <;> first | rfl | cases h
theorem A45 {h : Aac} {v : Value} (hs : Aas v = true) : A2o h 1 v = some (.pointer (some ⟨h.nq, 0, none⟩), h.new ⟨[v], 1, 1, true, false⟩) := by
 unfold A2o; rw [Ahb hs]; rfl
theorem Aw8 {ts : T Value} {h : Aac} {z : List Value} : eop ts h (.alloc z) = some (.pointer (some ⟨h.nq, 0, none⟩), h.new ⟨z, z.length, z.length, true, false⟩) := (rfl)
theorem Alk {P : Program} {N M : Nat} {ro : Option Nat} {g : Opd} {ps : List Nat} {asg body : Acb} {ts : T Value} {h : Aac} {Z : Abz -> T Value -> Aac -> Prop} : cwf P N ro (.rangeF g M ps asg body) ts h Z = CW P N ro (.rangeF g M ps asg body) ts h Z := (rfl)
theorem Azj (ts : T Value) : Al8 ts [] [] = ts := (rfl)
theorem Auj (ts : T Value) (p : Nat) (ps : List Nat) (v : Value) (vs : List Value) : Al8 ts (p :: ps) (v :: vs) = Al8 (ts.put p v) ps vs := (rfl)
open Go.RowKit
abbrev pp (b : Nat) : Value := .pointer (some ⟨b, 0, none⟩)
def qM (d a : Nat) : Aao := ⟨some d, .p (.mov (.t a)), none⟩
def qF (d k a : Nat) : Aao := ⟨some d, .p (.fieldAddr k (.t a)), none⟩
def qN (d a : Nat) : Aao := ⟨some d, .p (.nilchk (.t a)), none⟩
def qL (d a : Nat) : Aao := ⟨some d, .r (.load1 (.t a)), none⟩
def qE (d a : Nat) (k : Int) : Aao := ⟨some d, .p (.bin .eql false (.t a) (.c (.int .i64 k))), none⟩
def qA (d a : Nat) (k : Int) : Aao := ⟨some d, .p (.bin .add false (.t a) (.c (.int .i64 k))), none⟩
def qD (d f : Nat) (l : List Opd) : Aao := ⟨some d, .call f l, none⟩
def qI (d : Nat) (k : Int) : Aao := ⟨some d, .p (.mov (.c (.int .i64 k))), none⟩
def qB (d : Nat) (b : Bool) : Aao := ⟨some d, .p (.mov (.c (.bool b))), none⟩
def qS (n a b : Nat) : Aao := ⟨none, .e (.store n (.t a) (.t b)), none⟩
def qK (n a : Nat) (k : Int) : Aao := ⟨none, .e (.store n (.t a) (.c (.int .i64 k))), none⟩
def qG (d a g : Nat) (b : Bool) : Aao := ⟨some d, .p (.mov (.t a)), some (g, b)⟩
def qX (d i a : Nat) : Aao := ⟨some d, .p (.ext i (.t a)), none⟩
def qZ (d a : Nat) : Aao := ⟨some d, .p (.len false (.t a)), none⟩
def qJ (d a b : Nat) : Aao := ⟨some d, .p (.bin .lss false (.t a) (.t b)), none⟩
def qO (d a b : Nat) : Aao := ⟨some d, .p (.pick (.t a) (.c (.bool true)) (.t b)), none⟩
def qP (d a b : Nat) : Aao := ⟨some d, .p (.pick (.t a) (.t b) (.c (.bool false))), none⟩
def qV (d : Nat) : Aao := ⟨some d, .p (.mov (.c (.slice none 0 0))), none⟩
def qW (d s a b : Nat) : Aao := ⟨some d, .p (.idxS s (.t a) (.t b)), none⟩
def qY (d a : Nat) : Aao := ⟨some d, .p (.not (.t a)), none⟩
def qR (d n a : Nat) : Aao := ⟨some d, .r (.loadN n (.t a)), none⟩
theorem A78 (d a b : Nat) : qO d a b = ⟨some d, .p (.pick (.t a) (.c (.bool true)) (.t b)), none⟩ := (rfl)
theorem A8i (d a b : Nat) : qP d a b = ⟨some d, .p (.pick (.t a) (.t b) (.c (.bool false))), none⟩ := (rfl)
theorem A7s (d : Nat) : qV d = ⟨some d, .p (.mov (.c (.slice none 0 0))), none⟩ := (rfl)
theorem A76 (d s a b : Nat) : qW d s a b = ⟨some d, .p (.idxS s (.t a) (.t b)), none⟩ := (rfl)
theorem A8h (d a : Nat) : qY d a = ⟨some d, .p (.not (.t a)), none⟩ := (rfl)
theorem A67 (d n a : Nat) : qR d n a = ⟨some d, .r (.loadN n (.t a)), none⟩ := (rfl)
theorem A8n (d a : Nat) : qM d a = ⟨some d, .p (.mov (.t a)), none⟩ := (rfl)
theorem A69 (d k a : Nat) : qF d k a = ⟨some d, .p (.fieldAddr k (.t a)), none⟩ := (rfl)
theorem A7n (d a : Nat) : qN d a = ⟨some d, .p (.nilchk (.t a)), none⟩ := (rfl)
theorem A73 (d a : Nat) : qL d a = ⟨some d, .r (.load1 (.t a)), none⟩ := (rfl)
theorem A63 (d a : Nat) (k : Int) : qE d a k = ⟨some d, .p (.bin .eql false (.t a) (.c (.int .i64 k))), none⟩ := (rfl)
theorem A8g (d a : Nat) (k : Int) : qA d a k = ⟨some d, .p (.bin .add false (.t a) (.c (.int .i64 k))), none⟩ := (rfl)
theorem A8o (d f : Nat) (l : List Opd) : qD d f l = ⟨some d, .call f l, none⟩ := (rfl)
theorem A8q (d : Nat) (k : Int) : qI d k = ⟨some d, .p (.mov (.c (.int .i64 k))), none⟩ := (rfl)
theorem A72 (d : Nat) (b : Bool) : qB d b = ⟨some d, .p (.mov (.c (.bool b))), none⟩ := (rfl)
theorem A7a (n a b : Nat) : qS n a b = ⟨none, .e (.store n (.t a) (.t b)), none⟩ := (rfl)
theorem A7e (n a : Nat) (k : Int) : qK n a k = ⟨none, .e (.store n (.t a) (.c (.int .i64 k))), none⟩ := (rfl)
theorem A7p (d a g : Nat) (b : Bool) : qG d a g b = ⟨some d, .p (.mov (.t a)), some (g, b)⟩ := (rfl)
theorem A70 (d i a : Nat) : qX d i a = ⟨some d, .p (.ext i (.t a)), none⟩ := (rfl)
theorem A6z (d a : Nat) : qZ d a = ⟨some d, .p (.len false (.t a)), none⟩ := (rfl)
theorem A7j (d a b : Nat) : qJ d a b = ⟨some d, .p (.bin .lss false (.t a) (.t b)), none⟩ := (rfl)
set_option maxRecDepth 20000
set_option linter.defProp false
def SS := And.intro @pop.eq_1 (And.intro @Aee.eq_1 (And.intro @Aee.eq_2 (And.intro @Aee.eq_3 (And.intro @Aee.eq_4 (And.intro @Aee.eq_5 (And.intro @Aee.eq_6 (And.intro @Aee.eq_7 (And.intro @Aee.eq_8 (And.intro @Aee.eq_9 (And.intro @Aee.eq_10 (And.intro @Aee.eq_11 (And.intro @Aee.eq_12 (And.intro @Aee.eq_13 (And.intro @Aee.eq_14 (And.intro @Aee.eq_15 (And.intro @Aee.eq_16 (And.intro @Aee.eq_17 (And.intro @Aee.eq_18 (And.intro @Aee.eq_19 (And.intro @Aee.eq_20 (And.intro @Aee.eq_21 (And.intro @Aee.eq_22 (And.intro @Aee.eq_23 (And.intro @Aee.eq_24 (And.intro @Aee.eq_25 (And.intro @Aee.eq_26 (And.intro @ev.eq_1 (And.intro @ev.eq_2 (And.intro @evO.eq_1 (And.intro @evO.eq_2 (And.intro @evs.eq_1 (And.intro @evs.eq_2 (And.intro @Aci.eq_1 (And.intro @Aci.eq_2 (And.intro @Ad1.eq_1 (And.intro @Ad1.eq_2 (And.intro @Agl.eq_1 (And.intro @Agl.eq_2 (And.intro @Agl.eq_3 (And.intro @Agl.eq_4 (And.intro @Agl.eq_5 (And.intro @Agl.eq_6 (And.intro @Agl.eq_7 (And.intro @Agl.eq_8 (And.intro @Agl.eq_9 (And.intro @Agl.eq_10 (And.intro @Agl.eq_11 (And.intro @Agl.eq_12 (And.intro @Agl.eq_13 (And.intro @Agl.eq_14 (And.intro @Agl.eq_15 (And.intro @Agl.eq_16 (And.intro @Agl.eq_17 (And.intro @Agl.eq_19 (And.intro @Agl.eq_20 (And.intro @Agl.eq_22 (And.intro @Agl.eq_23 (And.intro @Agl.eq_24 (And.intro @Ad8.eq_1 (And.intro @Ad8.eq_2 (And.intro @Aya.eq_1 (And.intro @Aya.eq_2 (And.intro @Aya.eq_3 (And.intro @Adu.eq_1 (And.intro @Adu.eq_2 (And.intro @Adu.eq_3 (And.intro @Adu.eq_4 (And.intro @Adu.eq_5 (And.intro @Adu.eq_6 (And.intro @Go.IntKind.bits.eq_1 (And.intro @Go.IntKind.bits.eq_2 (And.intro @Go.IntKind.bits.eq_3 (And.intro @Go.IntKind.bits.eq_4 (And.intro @Go.IntKind.bits.eq_5 (And.intro @Go.IntKind.bits.eq_6 (And.intro @Go.IntKind.bits.eq_7 (And.intro @Go.IntKind.bits.eq_8 (And.intro @st1.eq_1 (And.intro @A78 (And.intro @A8i (And.intro @A7s (And.intro @A76 (And.intro @A8h (And.intro @A67 (And.intro @A8n (And.intro @A69 (And.intro @A7n (And.intro @A73 (And.intro @A63 (And.intro @A8g (And.intro @A8o (And.intro @A8q (And.intro @A72 (And.intro @A7a (And.intro @A7e (And.intro @A7p (And.intro @A70 (And.intro @A6z (And.intro @A7j (And.intro @Ant (And.intro @Ar0 (And.intro @Azf (And.intro @A6e (And.intro @A4e (And.intro @A0j (And.intro @Ai1 (And.intro @A2j (And.intro @Asu (And.intro @A0i (And.intro @Ab1 (And.intro @Arm (And.intro @Ao0 (And.intro @Agq (And.intro @Avn (And.intro @Aia (And.intro @Av7 (And.intro @A10 (And.intro @A3a (And.intro @Ans (And.intro @Awc (And.intro @Aso (And.intro @Avs (And.intro @Azy (And.intro @Akj (And.intro @o_p (And.intro @o_r (And.intro @o_e (And.intro @A02 (And.intro @A9g (And.intro @A7x (And.intro @Ajk (And.intro @A57 (And.intro @A8b (And.intro @A5y (And.intro @Apc (And.intro @Apu (And.intro @A26 (And.intro @d_p (And.intro @d_r (And.intro @d_e (And.intro @A6h (And.intro @A9a (And.intro @A7f (And.intro @Axq (And.intro @A38 (And.intro @Ayg (And.intro @A4c (And.intro @A1r (And.intro @Avc (And.intro @Apo (And.intro @A2f (And.intro @A1g (And.intro @A2k (And.intro @Ax6 (And.intro @Asx (And.intro @Ay3 (And.intro @A6d (And.intro @A6c (And.intro @Am4 (And.intro @A3d (And.intro @A31 (And.intro @A64 (And.intro @Avx (And.intro @Azb (And.intro @A4p (And.intro @A07 (And.intro @Az5 (And.intro @Awn (And.intro @Aui (And.intro @List.length_cons.{0} (And.intro @List.length_nil.{0} (And.intro @List.set_cons_zero.{0} (And.intro @List.set_cons_succ.{0} (And.intro @Nat.lt_add_one (And.intro @Int.toNat_natCast (And.intro @Int.natCast_nonneg (And.intro @Nat.zero_mul (And.intro @Nat.mul_one (And.intro @Nat.add_zero (And.intro @Int.natCast_zero (And.intro @Int.natCast_one (And.intro @Int.cast_ofNat_Int (And.intro @Int.sub_zero (And.intro @Auv (And.intro @A6n (And.intro @Ab4 (And.intro @Aat (And.intro @Acs (And.intro @Aih (And.intro @Option.isNone_some.{0} (And.intro @Option.isNone_none.{0} (And.intro @Aqm (And.intro @decide_true (And.intro @decide_false (And.intro @cond_true.{1} (And.intro @cond_false.{1} (And.intro @ite_true.{1} (And.intro @ite_false.{1} (And.intro @Bool.true_and (And.intro @Bool.and_true (And.intro @Bool.false_and (And.intro @Bool.and_false (And.intro @Bool.not_true (And.intro @Bool.not_false (And.intro @Nat.zero_add (And.intro @Option.some.injEq.{0} (And.intro @exists_eq_left'.{1} (And.intro @true_and (And.intro @and_true (And.intro @List.getElem?_cons_zero.{0} (And.intro @List.getElem?_cons_succ.{0} (@List.toList_toArray.{0}))))))))))))))))))))))))))))))))))))))))))))))))))))))))))))))))))))))))))))))))))))))))))))))))))))))))))))))))))))))))))))))))))))))))))))))))))))))))))))))))))))))))))))))))))))))))))))))))))))))))))))))))))))
def SV := And.intro @A3b (And.intro @Ay2 (And.intro @Aq3 (And.intro @List.nil_append.{0} (And.intro @List.append_nil.{0} (And.intro @List.cons_append.{0} (And.intro @Aw8 (And.intro @Alk (And.intro @Azj (@Auj)))))))))
end
end Go.Proofs.YtnonihjoimobmaaGreat.Ai
