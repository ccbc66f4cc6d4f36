/- The text's order of a region, told operation by operation. -/
import Derived.Test.YtedldiimhbebdaaAiSoundD
namespace Go.Proofs.Ytedldiimhbebdaa.Ai
noncomputable section
open Go.RowKit

/-- how many operations that turn the heap stand ahead of one -/
def cE (l : List AOper) (i : Nat) : Nat := (List.range i).countP (isEat l)

theorem cE_cons (o : AOper) (l : List AOper) : ∀ i, cE (o :: l) (i + 1) = (bif isE o.op then 1 else 0) + cE l i := by
  intro i
  unfold cE
  rw [List.range_succ_eq_map, List.countP_cons, List.countP_map]
  have e1 : (isEat (o :: l) ∘ Nat.succ) = isEat l := by
    funext j; simp [isEat]
  rw [e1]
  have e2 : isEat (o :: l) 0 = isE o.op := by simp [isEat]
  rw [e2]
  cases isE o.op <;> simp <;> omega

theorem cE_succ (l : List AOper) (i : Nat) : cE l (i + 1) = cE l i + (bif isEat l i then 1 else 0) := by
  unfold cE
  rw [List.range_succ, List.countP_append]
  cases h : isEat l i <;> simp [h]

theorem step1_pure {cf : CallF} {ts : T Value} {h h1 : Heap} {A : AOp} {v : Value} (he : isE A = false) (hv : step1 cf ts h A = some (v, h1)) : h1 = h := by
  cases A with
  | p q => simp only [step1, step1Q] at hv; split at hv <;> simp at hv; exact hv.2.symm
  | r q => simp only [step1, step1Q] at hv; split at hv <;> simp at hv; exact hv.2.symm
  | e q => cases he
  | call f l => cases he
  | callv x l => cases he
  | invoke tbl x l => cases he
  | bad => simp [step1, step1Q] at hv

def ran (cf : CallF) (ts : T Value) (h : Heap) (o : AOper) : Option (Value × Heap) := match wantedA ts o.guard with
  | true => step1 cf ts h o.op
  | false => some (undef, h)

theorem ran_pure {cf : CallF} {ts : T Value} {h h1 : Heap} {o : AOper} {v : Value} (he : isE o.op = false) (hv : ran cf ts h o = some (v, h1)) : h1 = h := by
  unfold ran at hv
  split at hv
  · exact step1_pure he hv
  · simp only [Option.some.injEq, Prod.mk.injEq] at hv; exact hv.2.symm

structure TraceOk (cf : CallF) (l : List AOper) (ts : T Value) (h : Heap) (recs : List Rec) (hs : List Heap) (ts' : T Value) (h' : Heap) : Prop where
  len : recs.length = l.length
  hlen : hs.length = cE l l.length
  step : ∀ (i : Nat) (o : AOper), l[i]? = some o → ∃ r, recs[i]? = some r ∧ r.o = o ∧ ∃ ha hb, (h :: hs)[cE l i]? = some ha ∧ (h :: hs)[cE l (i + 1)]? = some hb ∧ ran cf r.ts ha o = some (r.v, hb)
  last : (h :: hs)[cE l l.length]? = some h'
  old : ∀ (i : Nat) (r : Rec) (t : Nat), recs[i]? = some r → (∀ (j : Nat) (o : AOper), j < i → l[j]? = some o → o.dst ≠ some t) → look r.ts t = look ts t
  new : ∀ (i : Nat) (r : Rec) (j : Nat) (o : AOper) (rj : Rec) (t : Nat), recs[i]? = some r → j < i → l[j]? = some o → recs[j]? = some rj → o.dst = some t → (∀ (j' : Nat) (o' : AOper), j < j' → j' < i → l[j']? = some o' → o'.dst ≠ some t) → look r.ts t = rj.v
  old' : ∀ (t : Nat), (∀ (j : Nat) (o : AOper), l[j]? = some o → o.dst ≠ some t) → look ts' t = look ts t
  new' : ∀ (j : Nat) (o : AOper) (rj : Rec) (t : Nat), l[j]? = some o → recs[j]? = some rj → o.dst = some t → (∀ (j' : Nat) (o' : AOper), j < j' → l[j']? = some o' → o'.dst ≠ some t) → look ts' t = rj.v

theorem look_put_same (ts : T Value) (d : Nat) (v : Value) : look (ts.put d v) d = v := by simp [look, T.get_put_same]
theorem look_put_other (ts : T Value) {d t : Nat} (v : Value) (h : t ≠ d) : look (ts.put d v) t = look ts t := by simp [look, T.get_put_other _ _ h]
theorem look_putA_other (ts : T Value) {d : Option Nat} {t : Nat} (v : Value) (h : d ≠ some t) : look (putA ts d v) t = look ts t := by
  cases d with
  | none => rfl
  | some d => exact look_put_other ts v (fun e => h (by rw [e]))

theorem trace_ok (cf : CallF) : ∀ (l : List AOper) (ts : T Value) (h : Heap) (recs : List Rec) (hs : List Heap) (ts' : T Value) (h' : Heap), runTrace cf l ts h = some (recs, hs, ts', h') → TraceOk cf l ts h recs hs ts' h' := by
  intro l
  induction l with
  | nil =>
    intro ts h recs hs ts' h' hv
    simp only [runTrace_nil, Option.some.injEq, Prod.mk.injEq] at hv
    obtain ⟨rfl, rfl, rfl, rfl⟩ := hv
    exact ⟨rfl, by simp [cE], fun i o hi => by simp at hi, by simp [cE], fun i r t hr => by simp at hr, fun i r j o rj t hr => by simp at hr, fun t _ => rfl, fun j o rj t hj => by simp at hj⟩
  | cons o l ih =>
    intro ts h recs hs ts' h' hv
    simp only [runTrace_cons] at hv
    split at hv
    · rename_i v h1 hran
      have hran : ran cf ts h o = some (v, h1) := hran
      split at hv
      · rename_i recs2 hs2 ts2 h2 htr
        simp only [Option.some.injEq, Prod.mk.injEq] at hv
        obtain ⟨rfl, rfl, rfl, rfl⟩ := hv
        have k := ih _ _ _ _ _ _ htr
        -- the heaps
        have heaps : ∀ i, (h :: (bif isE o.op then h1 :: hs2 else hs2))[cE (o :: l) (i + 1)]? = (h1 :: hs2)[cE l i]? := by
          intro i
          rw [cE_cons]
          cases he : isE o.op with
          | true => simp only [cond_true]; rw [Nat.add_comm, List.getElem?_cons_succ]
          | false =>
            have := ran_pure he hran
            subst this
            simp
        have heap0 : (h :: (bif isE o.op then h1 :: hs2 else hs2))[cE (o :: l) 0]? = some h := by simp [cE]
        refine ⟨by simp [k.len], ?_, ?_, ?_, ?_, ?_, ?_, ?_⟩
        · have := k.hlen
          rw [List.length_cons, cE_cons]
          cases isE o.op <;> simp <;> omega
        · intro i oi hi
          cases i with
          | zero =>
            simp only [List.getElem?_cons_zero, Option.some.injEq] at hi; subst hi
            exact ⟨⟨o, ts, v⟩, by simp, rfl, h, h1, heap0, by rw [heaps 0]; simp [cE], hran⟩
          | succ i =>
            obtain ⟨r, g1, g2, ha, hb, g3, g4, g5⟩ := k.step i oi (by simpa using hi)
            exact ⟨r, by simpa using g1, g2, ha, hb, by rw [heaps i]; exact g3, by rw [heaps (i + 1)]; exact g4, g5⟩
        · rw [List.length_cons, heaps l.length]; exact k.last
        · intro i r t hr hno
          cases i with
          | zero => simp only [List.getElem?_cons_zero, Option.some.injEq] at hr; subst hr; rfl
          | succ i =>
            rw [k.old i r t (by simpa using hr) (fun j o' hj ho' => hno (j + 1) o' (by omega) (by simpa using ho'))]
            exact look_putA_other _ _ (hno 0 o (by omega) (by simp))
        · intro i r j oj rj t hr hj hoj hrj hd hno
          cases i with
          | zero => omega
          | succ i =>
            cases j with
            | zero =>
              simp only [List.getElem?_cons_zero, Option.some.injEq] at hoj hrj; subst hoj; subst hrj
              rw [k.old i r t (by simpa using hr) (fun j o' hj ho' => hno (j + 1) o' (by omega) (by omega) (by simpa using ho'))]
              simp only [hd, putA]; exact look_put_same _ _ _
            | succ j =>
              exact k.new i r j oj rj t (by simpa using hr) (by omega) (by simpa using hoj) (by simpa using hrj) hd (fun j' o' a b c => hno (j' + 1) o' (by omega) (by omega) (by simpa using c))
        · intro t hno
          rw [k.old' t (fun j o' ho' => hno (j + 1) o' (by simpa using ho'))]
          exact look_putA_other _ _ (hno 0 o (by simp))
        · intro j oj rj t hoj hrj hd hno
          cases j with
          | zero =>
            simp only [List.getElem?_cons_zero, Option.some.injEq] at hoj hrj; subst hoj; subst hrj
            rw [k.old' t (fun j o' ho' => hno (j + 1) o' (by omega) (by simpa using ho'))]
            simp only [hd, putA]; exact look_put_same _ _ _
          | succ j => exact k.new' j oj rj t (by simpa using hoj) (by simpa using hrj) hd (fun j' o' a c => hno (j' + 1) o' (by omega) (by simpa using c))
      · cases hv
    · cases hv

theorem chkAll_get {hs : List Heap} : ∀ {recs : List Rec} {win : List (Nat × Nat)}, chkAll hs recs win = true → ∀ (i : Nat) (r : Rec) (lo hi : Nat), recs[i]? = some r → win[i]? = some (lo, hi) → ∀ (q : ROp), r.o.op = .r q → lo ≠ hi → wantedA r.ts r.o.guard = true → chkR r.ts q r.v ((hs.drop lo).take (hi + 1 - lo)) = true
  | [], _, _, i, r, lo, hi, hr, _, _, _, _, _ => by simp at hr
  | _ :: _, [], _, i, r, lo, hi, _, hw, _, _, _, _ => by simp at hw
  | r0 :: recs, (lo0, hi0) :: win, h, i, r, lo, hi, hr, hw, q, hq, hne, hwa => by
    simp only [chkAll_cons, chk1, Bool.and_eq_true] at h
    cases i with
    | zero =>
      simp only [List.getElem?_cons_zero, Option.some.injEq] at hr hw
      subst hr; cases hw
      have h1 := h.1
      rw [hq] at h1
      simp only at h1
      rcases beq_cases lo0 hi0 with ⟨b1, b2⟩ | ⟨b1, b2⟩
      · exact absurd b2 hne
      · rw [b1] at h1; simp only [cond_false, hwa] at h1; exact h1
    | succ i => exact chkAll_get h.2 i r lo hi (by simpa using hr) (by simpa using hw) q hq hne hwa

theorem chkR_get {ts : T Value} {q : ROp} {v : Value} : ∀ {hs : List Heap}, chkR ts q v hs = true → ∀ h ∈ hs, rop ts h q = some v
  | [], _, h, hm => by cases hm
  | h0 :: hs, hc, h, hm => by
    simp only [chkR, Bool.and_eq_true] at hc
    rcases List.mem_cons.1 hm with rfl | hm
    · have := hc.1
      split at this
      · rename_i u hu; rw [hu, veq_eq this]
      · cases this
    · exact chkR_get hc.2 h hm

theorem runOps_trace (cf : CallF) : ∀ (l : List AOper) (ts ts' : T Value) (h h' : Heap), runOps cf l ts h = some (ts', h') → ∃ recs hs, runTrace cf l ts h = some (recs, hs, ts', h') ∧ recs.map (·.o) = l
  | [], ts, ts', h, h', hv => by
    simp only [runOps_nil, Option.some.injEq, Prod.mk.injEq] at hv
    obtain ⟨rfl, rfl⟩ := hv
    exact ⟨[], [], by rw [runTrace_nil], rfl⟩
  | o :: r, ts, ts', h, h', hv => by
    simp only [runOps_cons] at hv
    rw [runTrace_cons]
    split at hv
    · split at hv
      · rename_i v h1 hs1
        obtain ⟨recs, hs, g1, g2⟩ := runOps_trace cf r _ _ _ _ hv
        simp only [hs1, g1]
        exact ⟨_, _, rfl, by simp [g2]⟩
      · cases hv
    · obtain ⟨recs, hs, g1, g2⟩ := runOps_trace cf r _ _ _ _ hv
      simp only [g1]
      exact ⟨_, _, rfl, by simp [g2]⟩

theorem chk_triv (hs : List Heap) : ∀ (l : List AOper) (ws : List (Nat × Nat)) (recs : List Rec), trivW l ws = true → recs.map (·.o) = l → chkAll hs recs ws = true
  | _, [], recs, _, _ => chkAll_nil' hs recs
  | l, _ :: _, [], _, _ => chkAll_nil hs _
  | [], _ :: _, _ :: _, _, hm => by simp at hm
  | o :: l, (lo, hi) :: ws, r :: recs, ht, hm => by
    simp only [trivW, Bool.and_eq_true] at ht
    simp only [List.map_cons, List.cons.injEq] at hm
    rw [chkAll_cons, chk_triv hs l ws recs ht.2 hm.2, Bool.and_true]
    have h1 := ht.1
    rw [← hm.1] at h1
    unfold chk1
    split at h1
    · simp only [h1, cond_true]
    · rfl

theorem draw_trace {cf : CallF} {l : List AOper} {ws : List (Nat × Nat)} {ts ts' : T Value} {h h' : Heap} (hv : runDraw cf l (winsOf l ws) ts h = some (ts', h')) : ∃ recs hs, runTrace cf l ts h = some (recs, hs, ts', h') ∧ chkAll (h :: hs) recs ws = true := by
  unfold winsOf at hv
  cases ht : trivW l ws with
  | true =>
    rw [ht] at hv; simp only [cond_true, runDraw] at hv
    obtain ⟨recs, hs, g1, g2⟩ := runOps_trace cf l _ _ _ _ hv
    exact ⟨recs, hs, g1, chk_triv _ l ws recs ht g2⟩
  | false =>
    rw [ht] at hv; simp only [cond_false] at hv
    unfold runDraw at hv
    split at hv
    · obtain ⟨recs, hs, g1, g2⟩ := runOps_trace cf l _ _ _ _ hv
      exact ⟨recs, hs, g1, chkAll_nil' _ _⟩
    · split at hv
      · rename_i recs hs t3 h3 htr
        cases hck : chkAll (h :: hs) recs _ with
        | false => rw [hck] at hv; cases hv
        | true =>
          rw [hck] at hv; simp only [cond_true, Option.some.injEq, Prod.mk.injEq] at hv
          obtain ⟨rfl, rfl⟩ := hv
          exact ⟨recs, hs, htr, hck⟩
      · cases hv

end
end Go.Proofs.Ytedldiimhbebdaa.Ai
