/- A region whose order is open: whatever order its edges allow, it comes to what the text's order comes to. -/
import Derived.Test.YtedldiimhbebdaaAiSoundO
namespace Go.Proofs.Ytedldiimhbebdaa.Ai
noncomputable section
open Go.RowKit

/-! ### what must have been behind what -/

def Anc (E : Nat → List Nat) (i j : Nat) : Prop := ∀ S : Nat → Prop, (∀ x y, S x → y ∈ E x → S y) → S i → S j

theorem mask_bit (tbl : List Nat) (j : Nat) : ∀ (es : List Nat) (m : Nat), (es.foldl (fun m j => m ||| (2 ^ j ||| tbl.getD j 0)) m).testBit j = true →
    m.testBit j = true ∨ ∃ e ∈ es, j = e ∨ (tbl.getD e 0).testBit j = true := by
  intro es
  induction es with
  | nil => intro m h; exact .inl h
  | cons e es ih =>
    intro m h
    simp only [List.foldl_cons] at h
    rcases ih _ h with h1 | ⟨e', h1, h2⟩
    · simp only [Nat.testBit_or, Bool.or_eq_true, Nat.testBit_two_pow] at h1
      rcases h1 with h1 | h1 | h1
      · exact .inl h1
      · exact .inr ⟨e, by simp, .inl (of_decide_eq_true h1).symm⟩
      · exact .inr ⟨e, by simp, .inr h1⟩
    · exact .inr ⟨e', by simp [h1], h2⟩

theorem mkTbl_anc (E : Nat → List Nat) : ∀ (eds : List (List Nat)) (tbl : List Nat), (∀ k es, eds[k]? = some es → E (tbl.length + k) = es) → (∀ i j, anc tbl i j = true → Anc E i j) →
    ∀ i j, anc (mkTbl tbl eds) i j = true → Anc E i j := by
  intro eds
  induction eds with
  | nil => intro tbl _ h; exact h
  | cons es eds ih =>
    intro tbl hE h
    simp only [mkTbl]
    refine ih _ ?_ ?_
    · intro k es' hk
      have := hE (k + 1) es' (by simpa using hk)
      rw [List.length_append]; simpa [Nat.add_assoc, Nat.add_comm 1 k] using this
    · intro i j hij
      unfold anc at hij
      by_cases hi : i < tbl.length
      · rw [List.getD_eq_getElem?_getD, List.getElem?_append_left hi, ← List.getD_eq_getElem?_getD] at hij
        exact h i j hij
      · by_cases hi2 : i = tbl.length
        · subst hi2
          rw [List.getD_eq_getElem?_getD, List.getElem?_append_right (Nat.le_refl _)] at hij
          simp only [Nat.sub_self, List.getElem?_cons_zero, Option.getD_some] at hij
          have e0 := hE 0 es (by simp)
          simp only [Nat.add_zero] at e0
          rcases mask_bit tbl j es 0 hij with h1 | ⟨e, h1, h2⟩
          · simp at h1
          · intro S hS hi
            have he : S e := hS _ e hi (by rw [e0]; exact h1)
            rcases h2 with rfl | h2
            · exact he
            · exact h e j h2 S hS he
        · rw [List.getD_eq_getElem?_getD, List.getElem?_eq_none (by simp; omega)] at hij
          simp at hij

theorem okEdges_lt : ∀ (eds : List (List Nat)) (i : Nat), okEdges i eds = true → ∀ k es, eds[k]? = some es → ∀ e ∈ es, e < i + k
  | [], i, _, k, es, hk, e, he => by simp at hk
  | es0 :: eds, i, h, k, es, hk, e, he => by
    simp only [okEdges, Bool.and_eq_true] at h
    cases k with
    | zero =>
      simp only [List.getElem?_cons_zero, Option.some.injEq] at hk; subst hk
      have : Nat.ble (e + 1) i = true := List.all_eq_true.1 h.1 e he
      have := ble_true this; omega
    | succ k =>
      have := okEdges_lt eds (i + 1) h.2 k es (by simpa using hk) e he
      omega

/-! ### an operation looks at its slots alone -/

section congr
variable {ts ts' : T Value}

theorem ev_congr {x : Opd} (h : ∀ t ∈ tmpsOf [x], look ts t = look ts' t) : ev ts x = ev ts' x := by
  cases x with
  | t i => exact h i (by simp [tmpsOf])
  | c v => rfl

theorem tmpsOf_append : ∀ (l r : List Opd), tmpsOf (l ++ r) = tmpsOf l ++ tmpsOf r
  | [], r => rfl
  | .t i :: l, r => by simp [tmpsOf, tmpsOf_append l r]
  | .c v :: l, r => by simp [tmpsOf, tmpsOf_append l r]

theorem tmpsOf_mem {l : List Opd} {i : Nat} (h : Opd.t i ∈ l) : i ∈ tmpsOf l := by
  induction l with
  | nil => cases h
  | cons x l ih =>
    cases x with
    | t j =>
      simp only [tmpsOf, List.mem_cons]
      rcases List.mem_cons.1 h with h | h
      · cases h; exact .inl rfl
      · exact .inr (ih h)
    | c v =>
      simp only [tmpsOf]
      rcases List.mem_cons.1 h with h | h
      · cases h
      · exact ih h

theorem evl_congr {l : List Opd} (h : ∀ t ∈ tmpsOf l, look ts t = look ts' t) : ∀ x ∈ l, ev ts x = ev ts' x := by
  intro x hx
  cases x with
  | t i => exact h i (tmpsOf_mem hx)
  | c v => rfl

theorem evP_congr : ∀ {ps : List (Nat × Nat × Opd)}, (∀ x ∈ opdsParts ps, ev ts x = ev ts' x) → evP ts ps = evP ts' ps
  | [], _ => rfl
  | (a, b, x) :: ps, h => by
    simp only [evP]
    rw [h x (by simp [opdsParts]), evP_congr (ps := ps) (fun y hy => h y (by simp [opdsParts, hy]))]

theorem evs_congr : ∀ {l : List Opd}, (∀ x ∈ l, ev ts x = ev ts' x) → evs ts l = evs ts' l
  | [], _ => rfl
  | x :: l, h => by
    simp only [evs]
    rw [h x (by simp), evs_congr (l := l) (fun y hy => h y (by simp [hy]))]

theorem pop_congr {q : POp} (h : ∀ x ∈ opdsP q, ev ts x = ev ts' x) : pop ts q = pop ts' q := by
  cases q <;> simp only [opdsP, List.mem_cons, List.not_mem_nil, or_false, forall_eq_or_imp, forall_eq] at h <;> simp only [pop, popQ] <;> first
    | rfl
    | (rw [h]; done)
    | (rw [h.1, h.2]; done)
    | (rw [h.1, h.2.1, h.2.2]; done)
    | (rw [evP_congr h])
    | (rw [evs_congr (fun x hx => h x (by simp only [List.mem_append]; exact .inl hx)), evs_congr (fun x hx => h x (by simp only [List.mem_append]; exact .inr hx))])

theorem asNO_congr {o : Option Opd} {d : Nat} (h : ∀ x ∈ opdsO o, ev ts x = ev ts' x) : asNO ts d o = asNO ts' d o := by
  cases o with
  | none => rfl
  | some x => simp only [asNO]; rw [h x (by simp [opdsO])]

theorem rop_congr {q : ROp} {h : Heap} (hx : ∀ x ∈ opdsR q, ev ts x = ev ts' x) : rop ts h q = rop ts' h q := by
  cases q with
  | load1 x => simp only [rop, ropQ]; rw [hx x (by simp [opdsR])]
  | loadN n x => simp only [rop, ropQ]; rw [hx x (by simp [opdsR])]
  | cap x => simp only [rop, ropQ]; rw [hx x (by simp [opdsR])]
  | slice s x lo hi mx =>
    have h0 := hx x (by simp [opdsR])
    have h1 : ∀ d, asNO ts d lo = asNO ts' d lo := fun d => asNO_congr (fun y hy => hx y (by simp [opdsR, hy]))
    have h2 : ∀ d, asNO ts d hi = asNO ts' d hi := fun d => asNO_congr (fun y hy => hx y (by simp [opdsR, hy]))
    have h3 : ∀ d, asNO ts d mx = asNO ts' d mx := fun d => asNO_congr (fun y hy => hx y (by simp [opdsR, hy]))
    simp only [rop, ropQ, h0, h1, h2, h3]

theorem eop_congr {q : EOp} {h : Heap} (hx : ∀ x ∈ opdsE q, ev ts x = ev ts' x) : eop ts h q = eop ts' h q := by
  cases q <;> simp only [opdsE, List.mem_cons, List.not_mem_nil, or_false, forall_eq_or_imp, forall_eq] at hx <;> simp only [eop, eopQ] <;> first
    | rfl
    | (rw [hx]; done)
    | (rw [hx.1, hx.2]; done)
    | (rw [evP_congr hx])

theorem step1_congr {cf : CallF} {h : Heap} {A : AOp} (hx : ∀ x ∈ opds A, ev ts x = ev ts' x) : step1 cf ts h A = step1 cf ts' h A := by
  cases A with
  | p q => simp only [step1, step1Q]; rw [pop_congr hx]
  | r q => simp only [step1, step1Q]; rw [rop_congr hx]
  | e q => simp only [step1, step1Q]; rw [eop_congr hx]
  | call f l => simp only [step1, step1Q]; rw [evs_congr (l := l) hx]
  | callv x l =>
    simp only [step1, step1Q]
    rw [hx x (by simp [opds]), evs_congr (l := l) (fun y hy => hx y (by simp [opds, hy]))]
  | invoke tbl x l =>
    simp only [step1, step1Q]
    rw [hx x (by simp [opds]), evs_congr (l := l) (fun y hy => hx y (by simp [opds, hy]))]
  | bad => rfl

theorem oper_congr {cf : CallF} {o : AOper} (hx : ∀ t ∈ reads o, look ts t = look ts' t) : wantedA ts o.guard = wantedA ts' o.guard ∧ ∀ h, step1 cf ts h o.op = step1 cf ts' h o.op := by
  constructor
  · cases hg : o.guard with
    | none => rfl
    | some p =>
      obtain ⟨t, b⟩ := p
      simp only [wantedA]
      rw [hx t (by simp [reads, hg])]
  · intro h
    exact step1_congr (evl_congr (fun t ht => hx t (by simp [reads, ht])))

end congr

end
end Go.Proofs.Ytedldiimhbebdaa.Ai
