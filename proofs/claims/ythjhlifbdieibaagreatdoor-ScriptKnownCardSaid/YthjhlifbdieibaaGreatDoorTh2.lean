/- A run of the program's code over an abstract heap, and that it is the model's: part Th2 of the theory. -/
import Derived.Test.YthjhlifbdieibaaGreatDoorTh1
import Derived.ChangeSame
/- The last step of a law's row, where it is known that nothing below has turned; and what a table of functions owes. -/
namespace Go.Proofs.YthjhlifbdieibaaGreatDoor.Ai
noncomputable section
open Go.RowKit Go.WideShapes Go.ChangeShapes

def T.ofList {α : Type} : List (Nat × α) → T α
  | [] => .nil
  | (k, x) :: r => (T.ofList r).put k x

theorem T.get_ofList {α : Type} {x : α} {k : Nat} : ∀ {l : List (Nat × α)}, (T.ofList l).get k = some x → (k, x) ∈ l
  | [], h => by cases h
  | (j, y) :: r, h => by
    simp only [T.ofList] at h
    by_cases hj : k = j
    · subst hj
      rw [T.get_put_same] at h
      simp only [Option.some.injEq] at h
      simp [h]
    · rw [T.get_put_other _ _ hj] at h
      exact List.mem_cons_of_mem _ (T.get_ofList h)

/-- each of them is the program's -/
def AllOk (P : Program) : List (Nat × AFunc) → Prop
  | [] => True
  | (k, x) :: r => tabOf P k = some x ∧ AllOk P r

theorem AllOk.mem {P : Program} : ∀ {l : List (Nat × AFunc)}, AllOk P l → ∀ {k x}, (k, x) ∈ l → tabOf P k = some x
  | [], _, _, _, h => by cases h
  | (j, y) :: r, ha, k, x, h => by
    rcases List.mem_cons.1 h with h | h
    · cases h; exact ha.1
    · exact AllOk.mem ha.2 h

theorem tabOk_of {P : Program} {t : T AFunc} {l : List (Nat × AFunc)} (ht : t = T.ofList l) (ha : AllOk P l) : TabOk P t.get := by
  intro f af h
  rw [ht] at h
  exact ha.mem (T.get_ofList h)

/-- A law's post, where of the world behind the call it is known alone that nothing below has turned. -/
theorem law_post {H : Type} {enc : TypeId × Value → H} {P : Program} {f : Func} {s : ChangeSpec} {apart fresh handsOn again : Bool} {W W' : World} {args : Array Value} {v : Value} {ds gs : List (DataW H)} {before pa pv : List MemPlace}
    (hW : DataW.Whole enc P f.params.toList s.vars apart W args.toList ds gs before)
    (hres : ∀ (b : Nat) (sp : Nat → Bool) (hd : Bool), DataW.TrodAll enc P W' b sp hd f.resultTypes.toList (v.resultList f.resultTypes.size) (s.fn H (ds ++ gs)).results [])
    (hargs : ∀ sp : Nat → Bool, (∀ p ∈ before, sp p.block = true) → DataW.TrodAll enc P W' 0 sp true f.params.toList args.toList (s.fn H (ds ++ gs)).args pa)
    (hvars : ∀ sp : Nat → Bool, (∀ p ∈ before, sp p.block = true) → DataW.TrodVars enc P W' sp s.vars (s.fn H (ds ++ gs)).vars pv)
    (hps : before = pa ++ pv) (hb : Below W.heap.size W W')
    (hok : ∀ (j : Nat) (t : TypeId) (r : Value), f.resultTypes[j]? = some t → (v.resultList f.resultTypes.size)[j]? = some r → Value.okWide P W' .any 0 t r) :
    s.post enc P f apart fresh handsOn again W args v W' := by
  have below : ∀ p ∈ before, p.block < W.heap.size := fun p hp => hW.lt p hp
  have inOld : ∀ p ∈ before, (fun b => decide (b < W.heap.size)) p.block = true := fun p hp => by simpa using below p hp
  have may : ∀ p, p ∈ before → p ∈ before ∧ (p ∈ ([] : List MemPlace) ∨ p ∈ pa ∨ p ∈ pv) := fun p hp => ⟨hp, .inr (by rw [hps, List.mem_append] at hp; exact hp)⟩
  refine ⟨ds, gs, before, [], pa, pv, hW, hres _ _ _, hargs _ inOld, hvars _ inOld, World.keptBut_mono may (hb.frame (· ∈ before)), fun _ => ?_⟩
  obtain ⟨_, _, _, _, _, hz, hn⟩ := hW
  have pall : ∀ p ∈ before, (fun _ : Nat => true) p.block = true := fun _ _ => rfl
  refine ⟨hok, _, _, ([] ++ pa) ++ pv, ⟨[] ++ pa, pv, trodAll_append (hargs _ pall) (hres _ _ _), hvars _ pall, rfl, ?_, ?_⟩, ?_⟩
  · intro b off hp
    have hin : MemPlace.cell b off ∈ before := by rw [hps]; simpa using hp
    rw [hb.frozen (below _ hin)]
    exact hz b off hin
  · intro ha
    have := hn ha
    rw [hps] at this
    simpa using this
  · intro p hp _
    rw [hps]
    simpa using hp

end
end Go.Proofs.YthjhlifbdieibaaGreatDoor.Ai
/- Calls that are known, by what was printed of them. -/
namespace Go.Proofs.YthjhlifbdieibaaGreatDoor.Ai
noncomputable section
open Go.RowKit

/-- less is told -/
structure Sub (h' h : Heap) : Prop where
  next : h'.next = h.next
  blk : ∀ b k, h'.blks.get b = some k → h.blks.get b = some k
  loops : ∀ b k, h'.loops.get b = some k → h.loops.get b = some k
  marks : h'.marks = h.marks

theorem Rel.sub {C : CRel} {μ : Map} {h h' : Heap} {B : Fr} {w0 w : World} (R : Rel C μ h B w0 w) (s : Sub h' h) : Rel C μ h' B w0 w :=
  ⟨R.below, R.size, R.zk, fun b e he => by rw [s.next]; exact R.fresh b e he, fun b k hb => R.blk b k (s.blk b k hb),
    fun b b' k k' e e' hb hb' => R.apart b b' k k' e e' (s.blk b k hb) (s.blk b' k' hb'),
    ⟨fun b k hb => R.aux.loop b k (s.loops b k hb), fun b b' k k' e e' hb hb' => R.aux.lapart b b' k k' e e' (s.loops b k hb) (s.loops b' k' hb'), fun m hm => R.aux.mark m (by rw [← s.marks]; exact hm), by rw [s.marks]; exact R.aux.mapart⟩⟩

theorem Fact.sub {P : Program} {f : Nat} {args : List Value} {h h1 h' h2 : Heap} {v : Value} (x : Fact P f args h v h') (s1 : Sub h h1) (s2 : Sub h2 h') : Fact P f args h1 v h2 :=
  ⟨x.ok, by rw [s2.marks, x.marks, s1.marks], fun B w0 μ w args' R ha => (x.calls B w0 μ w args' (R.sub s1) ha).mono fun e w' ⟨μ', v', q1, q2, q3, q4⟩ => ⟨μ', v', q1, q2, q3.sub s2, q4⟩⟩

def veqL : List Value → List Value → Bool
  | [], [] => true
  | a :: l, b :: r => veq a b && veqL l r
  | _, _ => false

theorem veqL_eq : ∀ {a b : List Value}, veqL a b = true → a = b
  | [], [], _ => rfl
  | a :: l, b :: r, h => by
    simp only [veqL, Bool.and_eq_true] at h
    rw [veq_eq h.1, veqL_eq h.2]
  | [], _ :: _, h => by cases h
  | _ :: _, [], h => by cases h

def beqBlk (a b : Blk) : Bool := Nat.beq a.ty b.ty && Nat.beq a.n b.n && Nat.beq a.s b.s && (a.own == b.own) && (a.grown == b.grown) && veqL a.cells b.cells

theorem beqBlk_eq {a b : Blk} (h : beqBlk a b = true) : a = b := by
  simp only [beqBlk, Bool.and_eq_true, beq_iff_eq] at h
  obtain ⟨⟨⟨⟨⟨h0, h1⟩, h2⟩, h3⟩, h4⟩, h5⟩ := h
  cases a; cases b
  simp only at h0 h1 h2 h3 h4 h5
  rw [veqL_eq h5, Nat.eq_of_beq_eq_true h0, Nat.eq_of_beq_eq_true h1, Nat.eq_of_beq_eq_true h2, h3, h4]

/-- are all these blocks there? -/
def subB (t : T Blk) : List (Nat × Blk) → Bool
  | [] => true
  | (b, k) :: r => (match t.get b with
    | some k' => beqBlk k k'
    | none => false) && subB t r

theorem subB_mem {t : T Blk} : ∀ {l : List (Nat × Blk)}, subB t l = true → ∀ b k, (b, k) ∈ l → t.get b = some k
  | [], _, b, k, hm => by cases hm
  | (b0, k0) :: l, h, b, k, hm => by
    simp only [subB, Bool.and_eq_true] at h
    rcases List.mem_cons.1 hm with hm | hm
    · cases hm
      have h1 := h.1
      split at h1
      · rename_i k' hk; rw [hk, beqBlk_eq h1]
      · cases h1
    · exact subB_mem h.2 b k hm

def natsB : List Nat → List Nat → Bool
  | [], [] => true
  | a :: l, b :: r => Nat.beq a b && natsB l r
  | _, _ => false

theorem natsB_eq : ∀ {a b : List Nat}, natsB a b = true → a = b
  | [], [], _ => rfl
  | a :: l, b :: r, h => by
    simp only [natsB, Bool.and_eq_true] at h
    rw [Nat.eq_of_beq_eq_true h.1, natsB_eq h.2]
  | [], _ :: _, h => by cases h
  | _ :: _, [], h => by cases h

/-- a heap that was printed -/
structure PHeap where
  bl : List (Nat × Blk)
  next : Nat
  marks : List Nat

def PHeap.heap (p : PHeap) : Heap := ⟨T.ofList p.bl, p.next, .nil, p.marks⟩

/-- does the heap have all that? -/
def PHeap.inB (p : PHeap) (h : Heap) : Bool := Nat.beq p.next h.next && natsB p.marks h.marks && subB h.blks p.bl

theorem PHeap.sub {p : PHeap} {h : Heap} (hp : p.inB h = true) : Sub p.heap h := by
  simp only [PHeap.inB, Bool.and_eq_true] at hp
  refine ⟨Nat.eq_of_beq_eq_true hp.1.1, fun b k hb => subB_mem hp.2 b k (T.get_ofList hb), fun b k hb => ?_, natsB_eq hp.1.2⟩
  simp [PHeap.heap, T.get_nil] at hb

structure Known where
  f : Nat
  args : List Value
  h : PHeap
  v : Value
  h' : PHeap

def memoOf : List Known → Memo
  | [], _, _, _ => none
  | e :: r, f, args, h => bif Nat.beq e.f f && Nat.beq e.h.next h.next then (bif veqL e.args args && e.h.inB h then some (e.v, e.h'.heap) else none) else memoOf r f args h

def Known.Ok (P : Program) (e : Known) : Prop := Fact P e.f e.args e.h.heap e.v e.h'.heap

theorem memoOf_ok {P : Program} : ∀ {l : List Known}, (∀ e ∈ l, e.Ok P) → MemoOk P (memoOf l)
  | [], _, f, args, h, v, h', hv => by simp [memoOf] at hv
  | e :: l, hl, f, args, h, v, h', hv => by
    simp only [memoOf] at hv
    cases hc : (Nat.beq e.f f && Nat.beq e.h.next h.next) with
    | false => rw [hc] at hv; exact memoOf_ok (fun e he => hl e (List.mem_cons_of_mem _ he)) f args h v h' hv
    | true =>
      rw [hc] at hv; simp only [cond_true] at hv
      simp only [Bool.and_eq_true] at hc
      cases hd : (veqL e.args args && e.h.inB h) with
      | false => rw [hd] at hv; cases hv
      | true =>
        rw [hd] at hv; simp only [cond_true, Option.some.injEq, Prod.mk.injEq] at hv
        simp only [Bool.and_eq_true] at hd
        obtain ⟨rfl, rfl⟩ := hv
        have h1 := Nat.eq_of_beq_eq_true hc.1
        have h2 := veqL_eq hd.1
        subst h1; subst h2
        exact (hl e (by simp)).sub (PHeap.sub hd.2) ⟨rfl, fun _ _ q => q, fun _ _ q => q, rfl⟩

/-- what a call came to: one value, or a row of them -/
def veqR : Value → Value → Bool
  | .tuple a, .tuple b => veqL a.toList b.toList
  | a, b => veq a b

theorem veqR_eq {a b : Value} (h : veqR a b = true) : a = b := by
  unfold veqR at h
  split at h
  · congr 1
    exact Array.ext' (veqL_eq h)
  · exact veq_eq h

/-- does a run come to that, and more? -/
def comes (e : Known) : Option (Value × Heap) → Bool
  | some (v, h') => veqR e.v v && e.h'.inB h'
  | none => false

theorem known_of {P : Program} {mm : Memo} {tab : Nat → Option AFunc} (hT : TabOk P tab) (hM : MemoOk P mm) {n : Nat} {e : Known} (h : comes e (callF mm tab (exec mm tab n) (.fn e.f) e.args e.h.heap) = true) : e.Ok P := by
  unfold comes at h
  split at h
  · rename_i v h' hc
    simp only [Bool.and_eq_true] at h
    have h1 := veqR_eq h.1
    have := fact_of hT hM hc
    rw [← h1] at this
    exact this.sub ⟨rfl, fun _ _ q => q, fun _ _ q => q, rfl⟩ (PHeap.sub h.2)
  · cases h

/-- a run with nothing given, with calls that are known -/
theorem closed_known {P : Program} {mm : Memo} {tab : Nat → Option AFunc} (hT : TabOk P tab) (hM : MemoOk P mm) {n f : Nat} (h : okTrue (callF mm tab (exec mm tab n) (.fn f) [] heap0) = true) (w : World) :
    Calls P f #[] w fun e w' => e = .returned (.bool true) ∧ Below w.heap.size w w' := by
  unfold okTrue at h
  split at h
  · rename_i h' hc
    have := ((calls_sound (B := ⟨w.heap.size, fun _ => none⟩) (w0 := w) hT hM n).fn f [] heap0 _ h' hc).2 _ w [] (rel0 w) (.nil _)
    refine this.mono ?_
    rintro e w' ⟨μ', v', rfl, _, R, hv⟩
    exact ⟨by rw [hv.bool], R.below⟩
  · cases h

end
end Go.Proofs.YthjhlifbdieibaaGreatDoor.Ai
