/- The records of loops over functions, and the marks. -/
import Derived.Test.YtedldiimhbebdaaAiSoundM
import Derived.RangeFuncNested
namespace Go.Proofs.Ytedldiimhbebdaa.Ai
noncomputable section
open Go.RowKit

section
variable {C : CRel} {P : Program} {μ : Map} {h : Heap} {B : Fr} {w0 w : World}

theorem Rel.setAux (R : Rel C μ h B w0 w) {L : T LRec} {M : List Nat} (x : AuxOk C μ L M B w) : Rel C μ { h with loops := L, marks := M } B w0 w :=
  ⟨R.below, R.size, R.zk, R.fresh, R.blk, R.apart, x⟩

theorem putObj_other {l : Nat} {o : Obj} {i : Nat} (hne : i ≠ l) : (w.putObj l o).heap[i]? = w.heap[i]? := World.putObj_heap_other hne

/-- a block that is no row is turned -/
theorem Rel.putX (R : Rel C μ h B w0 w) {l : Nat} {o o' : Obj} (hl : w.heap[l]? = some o) (ho : isRow o = false) (hB : B.own l) {L : T LRec} {M : List Nat} (x : AuxOk C μ L M B (w.putObj l o')) :
    Rel C μ { h with loops := L, marks := M } B w0 (w.putObj l o') := by
  have hne : ∀ {i : Nat} {cc : Array Value} {el : TypeId} {fr : Nat × Nat}, w.heap[i]? = some (.cells cc el fr) → i ≠ l := fun hi hil => by
    subst hil; rw [hl] at hi; cases hi; cases ho
  refine ⟨R.below.trans ⟨rfl, rfl, rfl, by simp, fun i hi => putObj_other (by have := hB.1; omega)⟩, by have := R.size; simp; omega, fun i o hz => by rw [putObj_other (hB.ne hz)]; exact R.zk i o hz, R.fresh, fun b k hb => ?_, R.apart, x⟩
  obtain ⟨e, he, y⟩ := R.blk b k hb
  refine ⟨e, he, y.s, y.n, y.len, y.grown, fun hw => ?_, y.ro, fun i v hi => ?_⟩
  · obtain ⟨g1, g2, cc, el, g3, g4⟩ := y.own hw
    exact ⟨g1, g2, cc, el, by rw [putObj_other (hne g3)]; exact g3, g4⟩
  · obtain ⟨cc, el, fr, v', g1, g2, g3⟩ := y.cell i v hi
    exact ⟨cc, el, fr, v', by rw [putObj_other (hne g1)]; exact g1, g2, g3⟩

/-- a block is laid that is no row -/
theorem Rel.allocX (R : Rel C μ h B w0 w) (o : Obj) : Rel C (μ.put h.next ⟨w.heap.size, 0, 0, 0, 0⟩) { h with next := h.next + 1 } B w0 (w.alloc o) ∧ μ.le (μ.put h.next ⟨w.heap.size, 0, 0, 0, 0⟩) := by
  have hle : μ.le (μ.put h.next ⟨w.heap.size, 0, 0, 0, 0⟩) := Map.le_put (R.next_none (Nat.le_refl _))
  have hold : ∀ i, i < w.heap.size → (w.alloc o).heap[i]? = w.heap[i]? := fun i hi => Below.heap_alloc _ _ _ hi
  refine ⟨⟨R.below.alloc R.size _, by have := R.size; simp; omega, R.zk_old hold, fun b e hb => ?_, fun b k hb => ?_, fun b b' k k' e e' hb hb' hn o1 o2 n1 n2 he he' => ?_, R.aux.keep hle (keeps_of_old hold)⟩, hle⟩
  · by_cases hbn : b = h.next
    · subst hbn; simp
    · rw [Map.put_other hbn] at hb
      have := R.fresh b e hb; simp; omega
  · obtain ⟨e, he, y⟩ := R.blk b k hb
    exact ⟨e, hle _ _ he, y.mono hle hold⟩
  · obtain ⟨f, hf, _⟩ := R.blk b k hb
    obtain ⟨f', hf', _⟩ := R.blk b' k' hb'
    rw [hle _ _ hf] at he; cases he
    rw [hle _ _ hf'] at he'; cases he'
    exact R.apart b b' k k' _ _ hb hb' hn o1 o2 n1 n2 hf hf'

theorem AuxOk.addMark {L : T LRec} {M : List Nat} (x : AuxOk C μ L M B w) {m : Nat} {e : Ent} (he : μ m = some e) (hB : B.own e.blk) (hw : w.heap[e.blk]? = some (.deferred (some [])))
    (hd : ∀ m' ∈ M, ∀ e', μ m' = some e' → e.blk ≠ e'.blk) : AuxOk C μ L (m :: M) B w := by
  refine ⟨x.loop, x.lapart, fun m' hm' => ?_, List.pairwise_cons.2 ⟨fun m' hm' f f' hf hf' => ?_, x.mapart⟩⟩
  · rcases List.mem_cons.1 hm' with hm' | hm'
    · subst hm'; exact ⟨e, he, hB, hw⟩
    · exact x.mark m' hm'
  · rw [he] at hf; cases hf
    exact hd m' hm' f' hf'

theorem AuxOk.addLoop {L : T LRec} {M : List Nat} (x : AuxOk C μ L M B w) {b : Nat} {k : LRec} {e : Ent} (he : μ b = some e) (hk : LRel C μ B w k e)
    (hd : ∀ b' k' e', L.get b' = some k' → μ b' = some e' → e.blk ≠ e'.blk) : AuxOk C μ (L.put b k) M B w := by
  refine ⟨fun b' k' hb' => ?_, fun b1 b2 k1 k2 e1 e2 h1 h2 hn m1 m2 => ?_, x.mark, x.mapart⟩
  · by_cases hb : b' = b
    · subst hb; rw [T.get_put_same] at hb'; cases hb'; exact ⟨e, he, hk⟩
    · rw [T.get_put_other _ _ hb] at hb'; exact x.loop b' k' hb'
  · by_cases c1 : b1 = b
    · subst c1
      rw [he] at m1; cases m1
      rw [T.get_put_other _ _ (Ne.symm hn)] at h2
      exact hd b2 k2 e2 h2 m2
    · rw [T.get_put_other _ _ c1] at h1
      by_cases c2 : b2 = b
      · subst c2
        rw [he] at m2; cases m2
        exact fun hc => hd b1 k1 e1 h1 m1 hc.symm
      · rw [T.get_put_other _ _ c2] at h2
        exact x.lapart b1 b2 k1 k2 e1 e2 h1 h2 hn m1 m2

theorem AuxOk.sub {L : T LRec} {M M' : List Nat} (x : AuxOk C μ L M B w) (hs : M'.Sublist M) : AuxOk C μ L M' B w :=
  ⟨x.loop, x.lapart, fun m hm => x.mark m (hs.subset hm), x.mapart.sublist hs⟩

/-- a loop's record is turned -/
theorem Rel.setSt (R : Rel C μ h B w0 w) {b : Nat} {k : LRec} {e : Ent} {r : Loop} (hb : h.loops.get b = some k) (he : μ b = some e) (hr : w.heap[e.blk]? = some (.loop r)) {st : Nat} {pend : Option AExit} {S : LoopState} {Pn : Option Code}
    (hS : S = stX st) (hP : Pn = pend.map codeX) {M : List Nat} (hM : M.Sublist h.marks) :
    Rel C μ { h with loops := h.loops.put b { k with st := st, pend := pend }, marks := M } B w0 (w.putObj e.blk (.loop { r with state := S, pending := Pn })) := by
  obtain ⟨e', he', old, r', h1, h2, h3, h4, h5, h6, h7, h8⟩ := R.aux.loop b k hb
  rw [he] at he'; cases he'
  rw [hr] at h1; cases h1
  have hlt : e.blk < w.heap.size := (Array.getElem?_eq_some_iff.1 hr).1
  have hx := R.aux.sub hM
  refine R.putX hr rfl old ⟨fun b1 k1 hb1 => ?_, fun b1 b2 k1 k2 e1 e2 g1 g2 hn m1 m2 => ?_, fun m hm => ?_, hx.mapart⟩
  · by_cases hbb : b1 = b
    · subst hbb
      rw [T.get_put_same] at hb1; cases hb1
      exact ⟨e, he, old, _, World.putObj_heap_same hlt, hS, hP, h4, h5, h6, h7, h8⟩
    · rw [T.get_put_other _ _ hbb] at hb1
      obtain ⟨e1, he1, o1, r1, x1, x2⟩ := R.aux.loop b1 k1 hb1
      exact ⟨e1, he1, o1, r1, by rw [putObj_other (R.aux.lapart b1 b k1 k e1 e hb1 hb hbb he1 he)]; exact x1, x2⟩
  · have hx : ∀ b3 k3, (h.loops.put b { k with st := st, pend := pend }).get b3 = some k3 → ∃ k4, h.loops.get b3 = some k4 := by
      intro b3 k3 g
      by_cases hbb : b3 = b
      · subst hbb; exact ⟨k, hb⟩
      · rw [T.get_put_other _ _ hbb] at g; exact ⟨k3, g⟩
    obtain ⟨k3, g3⟩ := hx b1 k1 g1
    obtain ⟨k4, g4⟩ := hx b2 k2 g2
    exact R.aux.lapart b1 b2 k3 k4 e1 e2 g3 g4 hn m1 m2
  · obtain ⟨e1, he1, o1, x1⟩ := hx.mark m hm
    refine ⟨e1, he1, o1, ?_⟩
    rw [putObj_other (fun hc => by rw [hc, hr] at x1; cases x1)]; exact x1

/-- a block for deferred calls is come to -/
theorem Rel.takeMark (R : Rel C μ h B w0 w) {m : Nat} {M : List Nat} (hm : h.marks = m :: M) : ∃ e, μ m = some e ∧ (Instr.takeDeferred e.blk).run P w = .ok [] (w.putObj e.blk (.deferred none)) ∧
    Rel C μ { h with marks := M } B w0 (w.putObj e.blk (.deferred none)) := by
  obtain ⟨e, he, hB, hw⟩ := R.aux.mark m (by rw [hm]; simp)
  refine ⟨e, he, run_takeDeferred hw, ?_⟩
  have hp := R.aux.mapart
  rw [hm] at hp
  obtain ⟨hp1, hp2⟩ := List.pairwise_cons.1 hp
  refine R.putX (L := h.loops) hw rfl hB ⟨fun b k hb => ?_, R.aux.lapart, fun m' hm' => ?_, hp2⟩
  · obtain ⟨e1, he1, o1, r1, x1, x2⟩ := R.aux.loop b k hb
    exact ⟨e1, he1, o1, r1, by rw [putObj_other (fun hc => by rw [hc, hw] at x1; cases x1)]; exact x1, x2⟩
  · obtain ⟨e1, he1, o1, x1⟩ := R.aux.mark m' (by rw [hm]; exact List.mem_cons_of_mem _ hm')
    exact ⟨e1, he1, o1, by rw [putObj_other (fun hc => hp1 m' hm' e e1 he he1 hc.symm)]; exact x1⟩

/-- the deferred call that a mark is -/
def mkD (μ : Map) (m : Nat) : Deferred := { target := .collected (((μ m).map (·.blk)).getD 0), args := #[] }

/-- the marks of an activation -/
def Mk (μ : Map) (M0 : List Nat) (h : Heap) (a : Act) : Prop := ∃ new, h.marks = new ++ M0 ∧ a.defers = new.map (mkD μ)

theorem mkD_le {μ' : Map} (hle : μ.le μ') {m : Nat} {e : Ent} (he : μ m = some e) : mkD μ' m = mkD μ m := by simp [mkD, he, hle _ _ he]

theorem Mk.step {μ' : Map} {M0 : List Nat} {h' : Heap} {a a' : Act} (x : Mk μ M0 h a) (R : Rel C μ h B w0 w) (hle : μ.le μ') (hm : h'.marks = h.marks) (hd : a'.defers = a.defers) : Mk μ' M0 h' a' := by
  obtain ⟨new, h1, h2⟩ := x
  refine ⟨new, hm.trans h1, ?_⟩
  rw [hd, h2]
  refine List.map_congr_left (fun m hmm => ?_)
  obtain ⟨e, he, _⟩ := R.aux.mark m (by rw [h1]; exact List.mem_append_left _ hmm)
  exact (mkD_le hle he).symm

theorem leaves_marks {F : Fence} {n : Nat} {fn : Func} {tmps : Array Value} {Q : Ending → World → Prop} {M0 : List Nat} : ∀ (new : List Nat) (h : Heap) (w : World), h.marks = new ++ M0 → Rel C μ h B w0 w →
    (∀ w', Rel C μ { h with marks := M0 } B w0 w' → ∃ v, (results fn tmps).run P w' = .ok v w' ∧ Q (.returned v) w') → LeavesInM F n P fn tmps Q (new.map (mkD μ)) .returning w
  | [], h, w, hm, R, hQ => by
    have : { h with marks := M0 } = h := by cases h; simp_all
    exact hQ w (by rw [this]; exact R)
  | m :: new, h, w, hm, R, hQ => by
    obtain ⟨e, he, h1, h2⟩ := R.takeMark (P := P) (m := m) (M := new ++ M0) (by simpa using hm)
    refine ⟨by simp, .inl ⟨e.blk, _, by simp [mkD, he], h1, ?_⟩⟩
    exact leaves_marks new { h with marks := new ++ M0 } _ rfl h2 hQ

/-- the round's loop, told and in the model -/
def RoRel (μ : Map) : Option Nat → Option Nat → Prop
  | none, none => True
  | some b, some l => ∃ e, μ b = some e ∧ e.blk = l
  | _, _ => False

theorem RoRel.mono {μ' : Map} {ro l : Option Nat} (hle : μ.le μ') (x : RoRel μ ro l) : RoRel μ' ro l := by
  match ro, l, x with
  | none, none, _ => trivial
  | some b, some l, ⟨e, he, h⟩ => exact ⟨e, hle _ _ he, h⟩

theorem enterL_sound (R : Rel C μ h B w0 w) {ro l : Option Nat} (hro : RoRel μ ro l) {k : LRec} {b : Nat} {h1 : Heap} (hv : enterL ro k h = some (b, h1)) {a : Act} {ps : Array Tmp} {assign body : Code} (hst : k.st = 0) (hpe : k.pend = none)
    (hts : TsRel μ k.ts a) (hN : a.tmps.size = k.n) (hps : ps.toList = k.ps) (hasg : C k.n assign k.asg) (hbody : C k.n body k.body) (fn : FuncId) :
    ∃ μ1 e mark w1, (Instr.enterLoop fn a.tmps ps assign body l).run P w = .ok (e.blk, mark) w1 ∧ μ.le μ1 ∧ μ1 b = some e ∧ Rel C μ1 h1 B w0 w1 ∧ (∀ M0, Mk μ M0 h a → Mk μ1 M0 h1 { a with defers := mark ++ a.defers }) := by
  cases ro with
  | none =>
    cases l with
    | some l => exact hro.elim
    | none =>
      simp only [enterL, Option.some.injEq, Prod.mk.injEq] at hv
      obtain ⟨rfl, rfl⟩ := hv
      obtain ⟨R1, hle1⟩ := R.allocX (.deferred (some []))
      have hnew1 := World.alloc_heap_new w (.deferred (some []))
      have R1' := R1.setAux (R1.aux.addMark (m := h.next) (e := ⟨w.heap.size, 0, 0, 0, 0⟩) (Map.put_same _ _ _) R.own_size hnew1 (fun m' hm' e' he' => by
        obtain ⟨f, hf, _, hw⟩ := R.aux.mark m' hm'
        rw [hle1 _ _ hf] at he'; cases he'
        have := (Array.getElem?_eq_some_iff.1 hw).1
        exact fun hc => by simp at hc; omega))
      obtain ⟨R2, hle2⟩ := R1'.allocX (.loop { state := .ready, pending := none, fn, tmps := a.tmps, params := ps, assign, body, defers := w.heap.size })
      have hnew2 := World.alloc_heap_new (w.alloc (.deferred (some []))) (.loop { state := .ready, pending := none, fn, tmps := a.tmps, params := ps, assign, body, defers := w.heap.size })
      have hb1 := R1'.aux
      refine ⟨_, ⟨(w.alloc (.deferred (some []))).heap.size, 0, 0, 0, 0⟩, [{ target := .collected w.heap.size, args := #[] }], _, ?_, hle1.trans hle2, Map.put_same _ _ _, R2.setAux (R2.aux.addLoop (b := h.next + 1) (k := k) (Map.put_same _ _ _) ⟨R1'.own_size, _, hnew2, by rw [hst]; rfl, by rw [hpe]; rfl, hps, hN, hts.mono (hle1.trans hle2), hasg, hbody⟩ ?_), ?_⟩
      · have := run_enterLoop_outer (P := P) (w := w) fn a.tmps ps assign body
        simpa using this
      · intro b' k' e' hb' he'
        obtain ⟨f, hf, _, r1, hw, _⟩ := hb1.loop b' k' hb'
        rw [hle2 _ _ hf] at he'; cases he'
        have := (Array.getElem?_eq_some_iff.1 hw).1
        exact fun hc => by rw [← hc] at this; simp at this
      · rintro M0 ⟨new, g1, g2⟩
        refine ⟨h.next :: new, by simp [g1], ?_⟩
        have hh : ∀ m ∈ new, mkD ((μ.put h.next ⟨w.heap.size, 0, 0, 0, 0⟩).put (h.next + 1) ⟨(w.alloc (.deferred (some []))).heap.size, 0, 0, 0, 0⟩) m = mkD μ m := fun m hm => by
          obtain ⟨e, he, _⟩ := R.aux.mark m (by rw [g1]; exact List.mem_append_left _ hm)
          exact mkD_le (hle1.trans hle2) he
        have h0 : mkD ((μ.put h.next ⟨w.heap.size, 0, 0, 0, 0⟩).put (h.next + 1) ⟨(w.alloc (.deferred (some []))).heap.size, 0, 0, 0, 0⟩) h.next = { target := .collected w.heap.size, args := #[] } := by
          simp [mkD, Map.put_other (show h.next ≠ h.next + 1 by omega), Map.put_same]
        rw [List.map_cons, List.map_congr_left hh, ← g2]
        simp only [List.cons_append, List.nil_append]
        rw [← h0]
  | some b0 =>
    cases l with
    | none => exact hro.elim
    | some l =>
      obtain ⟨e0, he0, rfl⟩ := hro
      simp only [enterL] at hv
      split at hv
      · cases hv
      · rename_i k0 hk0
        simp only [Option.some.injEq, Prod.mk.injEq] at hv
        obtain ⟨rfl, rfl⟩ := hv
        obtain ⟨e1, he1, old, r0, hr0, _⟩ := R.aux.loop b0 k0 hk0
        rw [he0] at he1; cases he1
        obtain ⟨R2, hle2⟩ := R.allocX (.loop { state := .ready, pending := none, fn, tmps := a.tmps, params := ps, assign, body, defers := r0.defers })
        have hnew2 := World.alloc_heap_new w (.loop { state := .ready, pending := none, fn, tmps := a.tmps, params := ps, assign, body, defers := r0.defers })
        refine ⟨_, ⟨w.heap.size, 0, 0, 0, 0⟩, [], _, run_enterLoop_inner hr0 fn a.tmps ps assign body, hle2, Map.put_same _ _ _, R2.setAux (R2.aux.addLoop (b := h.next) (k := k) (Map.put_same _ _ _) ⟨R.own_size, _, hnew2, by rw [hst]; rfl, by rw [hpe]; rfl, hps, hN, hts.mono hle2, hasg, hbody⟩ ?_), ?_⟩
        · intro b' k' e' hb' he'
          obtain ⟨f, hf, _, r1, hw, _⟩ := R.aux.loop b' k' hb'
          rw [hle2 _ _ hf] at he'; cases he'
          have := (Array.getElem?_eq_some_iff.1 hw).1
          exact fun hc => by rw [← hc] at this; simp at this
        · intro M0 x
          exact x.step R hle2 rfl rfl

end
end
end Go.Proofs.Ytedldiimhbebdaa.Ai
