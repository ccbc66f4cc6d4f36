/- A region whose order is open. -/
import Derived.Test.YtedldiimhbebdaaAiSoundX
namespace Go.Proofs.Ytedldiimhbebdaa.Ai
noncomputable section
open Go.RowKit

theorem countP_lt {α : Type} (p q : α → Bool) : ∀ (l : List α), (∀ x ∈ l, q x = true → p x = true) → (∃ x ∈ l, p x = true ∧ q x = false) → l.countP q < l.countP p
  | [], _, ⟨x, hx, _⟩ => by cases hx
  | y :: l, h, ⟨x, hx, h1, h2⟩ => by
    have hm : l.countP q ≤ l.countP p := List.countP_mono_left (fun z hz => h z (List.mem_cons_of_mem _ hz))
    simp only [List.countP_cons]
    rcases List.mem_cons.1 hx with rfl | hx
    · rw [h1, h2]; simp; omega
    · have := countP_lt p q l (fun z hz => h z (List.mem_cons_of_mem _ hz)) ⟨x, hx, h1, h2⟩
      have hy := h y (by simp)
      cases hq : q y with
      | true => rw [hy hq]; simp; omega
      | false => cases p y <;> simp <;> omega

theorem countP_below (p : Nat → Bool) (n : Nat) : ∀ i, i ≤ n → (List.range n).countP (fun e => p e && Nat.blt e i) = (List.range i).countP p := by
  induction n with
  | zero => intro i hi; have : i = 0 := by omega
            subst this; simp
  | succ n ih =>
    intro i hi
    rw [List.range_succ, List.countP_append]
    by_cases h : i = n + 1
    · subst h
      rw [List.range_succ, List.countP_append]
      have e1 : (List.range n).countP (fun e => p e && Nat.blt e (n + 1)) = (List.range n).countP p := by
        refine List.countP_congr (fun x hx => ?_)
        have : Nat.blt x (n + 1) = true := Nat.ble_eq_true_of_le (by have := List.mem_range.1 hx; omega)
        simp [this]
      have e2 : Nat.blt n (n + 1) = true := Nat.ble_eq_true_of_le (by omega)
      rw [e1]; simp [e2]
    · rw [ih i (by omega)]
      have e2 : Nat.blt n i = false := by
        cases hb : Nat.blt n i with
        | false => rfl
        | true => have := Nat.le_of_ble_eq_true hb; omega
      simp [e2]

structure Statics (tbl : List Nat) (l : List AOper) (E : Nat → List Nat) (n F : Nat) : Prop where
  len : l.length = n
  lt : ∀ i, i < n → ∀ e ∈ E i, e < i
  ancE : ∀ i j, anc tbl i j = true → Anc E i j
  dst : ∀ (i j : Nat) (oi oj : AOper) (d : Nat), l[i]? = some oi → l[j]? = some oj → oi.dst = some d → oj.dst = some d → i = j
  rd : ∀ (i j : Nat) (oi oj : AOper) (d : Nat), l[i]? = some oi → l[j]? = some oj → oj.dst = some d → d ∈ reads oi → i = j ∨ anc tbl i j = true ∨ anc tbl j i = true
  ef : ∀ (i j : Nat), i < n → j < n → isEat l i = true → isEat l j = true → i = j ∨ anc tbl i j = true ∨ anc tbl j i = true ∨ (i = F ∧ j < F) ∨ (j = F ∧ i < F)
  fl : ∀ o, l[F]? = some o → newOp o.op = true ∧ o.guard = none ∧ ∃ d, o.dst = some d
  beh : ∀ o, l[F]? = some o → ∀ i, i < n → anc tbl i F = true ∨ F ∈ E i → ∀ e, e < F → isEat l e = true → anc tbl i e = true

theorem blt_true {a b : Nat} (h : Nat.blt a b = true) : a < b := Nat.lt_of_succ_le (Nat.le_of_ble_eq_true h)
theorem blt_iff {a b : Nat} : Nat.blt a b = true ↔ a < b := ⟨blt_true, fun h => Nat.ble_eq_true_of_le h⟩

theorem Statics.of {tbl : List Nat} {l : List AOper} {eds : List (List Nat)} (h : okDraw tbl l eds = true) (ht : tbl = mkTbl [] eds) : Statics tbl l (fun i => (eds[i]?).getD []) l.length (findFl tbl l) := by
  unfold okDraw at h
  simp only [Bool.and_eq_true] at h
  obtain ⟨⟨⟨h1, h2⟩, hfl⟩, h3⟩ := h
  have h2 := Nat.eq_of_beq_eq_true h2
  have pair : ∀ (i j : Nat) (oi oj : AOper), l[i]? = some oi → l[j]? = some oj → okPair tbl l (findFl tbl l) i j = true := by
    intro i j oi oj hi hj
    have hi' := (List.getElem?_eq_some_iff.1 hi).1
    have hj' := (List.getElem?_eq_some_iff.1 hj).1
    exact List.all_eq_true.1 (List.all_eq_true.1 h3 i (List.mem_range.2 hi')) j (List.mem_range.2 hj')
  refine ⟨rfl, ?_, ?_, ?_, ?_, ?_, ?_, ?_⟩
  · intro i hi e he
    have hi' : i < eds.length := by omega
    rw [List.getElem?_eq_getElem hi'] at he
    have := okEdges_lt eds 0 h1 i _ (List.getElem?_eq_getElem hi') e he
    omega
  · rw [ht]
    refine mkTbl_anc _ eds [] (fun k es hk => by simp [hk]) (fun i j hij => ?_)
    simp [anc] at hij
  · intro i j oi oj d hi hj d1 d2
    have hp := pair i j oi oj hi hj
    unfold okPair at hp
    simp only [hi, hj, d1, d2, Bool.or_eq_true, Bool.and_eq_true] at hp
    rcases hp with hp | ⟨⟨hp, _⟩, _⟩
    · exact Nat.eq_of_beq_eq_true hp
    · simp at hp
  · intro i j oi oj d hi hj d2 hr
    have hp := pair i j oi oj hi hj
    unfold okPair at hp
    simp only [hi, hj, d2, Bool.or_eq_true, Bool.and_eq_true] at hp
    rcases hp with hp | ⟨⟨_, hp⟩, _⟩
    · exact .inl (Nat.eq_of_beq_eq_true hp)
    · have hany : (reads oi).any (Nat.beq d) = true := List.any_eq_true.2 ⟨d, hr, Nat.beq_refl d⟩
      rw [hany] at hp
      simp at hp
      exact .inr hp
  · intro i j hi hj ei ej
    have hp := pair i j _ _ (List.getElem?_eq_getElem hi) (List.getElem?_eq_getElem hj)
    unfold okPair at hp
    simp only [isEat, List.getElem?_eq_getElem hi] at ei
    simp only [isEat, List.getElem?_eq_getElem hj] at ej
    simp only [List.getElem?_eq_getElem hi, List.getElem?_eq_getElem hj, Bool.or_eq_true, Bool.and_eq_true, ei, ej] at hp
    rcases hp with hp | ⟨_, hp⟩
    · exact .inl (Nat.eq_of_beq_eq_true hp)
    · rcases hp with (((hp | hp) | hp) | hp) | hp
      · simp at hp
      · exact .inr (.inl hp)
      · exact .inr (.inr (.inl hp))
      · exact .inr (.inr (.inr (.inl ⟨Nat.eq_of_beq_eq_true hp.1, blt_true hp.2⟩)))
      · exact .inr (.inr (.inr (.inr ⟨Nat.eq_of_beq_eq_true hp.1, blt_true hp.2⟩)))
  · intro o ho
    unfold okFl at hfl
    rw [ho] at hfl
    simp only [Bool.and_eq_true] at hfl
    exact ⟨hfl.1.1.1, Option.isNone_iff_eq_none.1 hfl.1.1.2, Option.isSome_iff_exists.1 hfl.1.2⟩
  · intro o ho i hi ha e he hE
    unfold okFl at hfl
    rw [ho] at hfl
    simp only [Bool.and_eq_true] at hfl
    have := List.all_eq_true.1 hfl.2 i (List.mem_range.2 hi)
    have hz : (!(anc tbl i (findFl tbl l)) && !(((eds[i]?).getD []).any (Nat.beq (findFl tbl l)))) = false := by
      rcases ha with ha | ha
      · rw [ha]; rfl
      · have : ((eds[i]?).getD []).any (Nat.beq (findFl tbl l)) = true := List.any_eq_true.2 ⟨_, ha, Nat.beq_refl _⟩
        rw [this]; simp
    rw [hz, Bool.false_or] at this
    have := List.all_eq_true.1 this e (List.mem_range.2 he)
    rw [hE] at this
    simpa using this

section
variable {P : Program} {B : Fr} {w0 : World} {cf : CallF} {N n : Nat} {ops : Array Oper} {l : List AOper} {tbl : List Nat} {E : Nat → List Nat}
  {recs : List Rec} {hs : List Heap} {ts ts' : T Value} {h h' : Heap} {Q : Exit → Act → World → Prop}

theorem compOpers_get : ∀ (l1 : List Oper) (l2 : List AOper), compOpers P N ops l1 = some l2 → l2.length = l1.length ∧ ∀ (i : Nat) (o : Oper), l1[i]? = some o → ∃ ao, l2[i]? = some ao ∧ OperOk P N ops o ao
  | [], l2, hc => by
    simp only [compOpers, Option.some.injEq] at hc; subst hc
    exact ⟨rfl, fun i o hi => by simp at hi⟩
  | o :: l1, l2, hc => by
    simp only [compOpers] at hc
    split at hc
    · rename_i ao l3 h1 h2
      simp only [Option.some.injEq] at hc; subst hc
      obtain ⟨g1, g2⟩ := compOpers_get l1 l3 h2
      refine ⟨by simp [g1], fun i oi hi => ?_⟩
      cases i with
      | zero => simp only [List.getElem?_cons_zero, Option.some.injEq] at hi; subst hi; exact ⟨ao, by simp, compOper_ok h1⟩
      | succ i => obtain ⟨a1, a2, a3⟩ := g2 i oi (by simpa using hi); exact ⟨a1, by simpa using a2, a3⟩
    · cases hc

/-- where a region stands: what has run, what that came to -/
structure Stand (P : Program) (B : Fr) (w0 : World) (N : Nat) (l : List AOper) (E : Nat → List Nat) (n : Nat) (recs : List Rec) (hall : List Heap) (ts : T Value) (μ : Map) (ds : List Deferred) (x : Option Nat) (listed : Array Bool) (a : Act) (w : World) : Prop where
  size : listed.size = n
  closed : ∀ i j, listed.getD i false = true → j ∈ E i → listed.getD j false = true
  tsz : a.tmps.size = N
  dfs : a.defers = ds
  st : ∃ μ' tsS hh, μ.le μ' ∧ hall[(List.range n).countP (fun e => isEat l e && listed.getD e false)]? = some hh ∧ Rel (Cc P) μ' hh B w0 w ∧ TsRel μ' tsS a ∧
    (∀ (j : Nat) (o : AOper) (r : Rec) (t : Nat), x ≠ some t → l[j]? = some o → recs[j]? = some r → listed.getD j false = true → o.dst = some t → look tsS t = r.v) ∧
    (∀ (t : Nat), x ≠ some t → (∀ (j : Nat) (o : AOper), l[j]? = some o → listed.getD j false = true → o.dst ≠ some t) → look tsS t = look ts t)

theorem getD_set {listed : Array Bool} {i j : Nat} (hi : i < listed.size) : (listed.setIfInBounds i true).getD j false = (decide (j = i) || listed.getD j false) := by
  simp only [Array.getD_eq_getD_getElem?, Array.getElem?_setIfInBounds]
  by_cases h : i = j
  · subst h; simp [hi]
  · simp [h, Ne.symm h]

/-- the slots that an operation looks at that may run now -/
theorem ready_look {F : Nat} (S : Statics tbl l E n F) (tr : TraceOk cf l ts h recs hs ts' h')
    {listed : Array Bool} (hcl : ∀ i j, listed.getD i false = true → j ∈ E i → listed.getD j false = true) {i : Nat} (hi : i < n) (hno : listed.getD i false = false) (hrd : ∀ j ∈ E i, listed.getD j false = true)
    {o : AOper} (ho : l[i]? = some o) {tsS : T Value} (h1 : ∀ (j : Nat) (oj : AOper) (r : Rec) (t : Nat), t ∈ reads o → l[j]? = some oj → recs[j]? = some r → listed.getD j false = true → oj.dst = some t → look tsS t = r.v)
    (h2 : ∀ (t : Nat), t ∈ reads o → (∀ (j : Nat) (o : AOper), l[j]? = some o → listed.getD j false = true → o.dst ≠ some t) → look tsS t = look ts t) :
    ∃ r ha hb, recs[i]? = some r ∧ (h :: hs)[cE l i]? = some ha ∧ (h :: hs)[cE l (i + 1)]? = some hb ∧ ran cf r.ts ha o = some (r.v, hb) ∧ ∀ t ∈ reads o, look tsS t = look r.ts t := by
  obtain ⟨r, hr, _, ha, hb, g1, g2, g3⟩ := tr.step i o ho
  -- what is behind and ahead of i
  have ancIn : ∀ j, anc tbl i j = true → listed.getD j false = true ∨ j = i := by
    intro j hj
    have := S.ancE i j hj (fun x => listed.getD x false = true ∨ x = i) (fun x y hx hy => by
      rcases hx with hx | rfl
      · exact .inl (hcl x y hx hy)
      · exact .inl (hrd y hy)) (.inr rfl)
    exact this
  have ancLe : ∀ x y, x < n → anc tbl x y = true → y ≤ x := by
    intro x y hx hxy
    exact S.ancE x y hxy (fun z => z ≤ x) (fun a b ha hb => by
      have := S.lt a (by omega) b hb; omega) (Nat.le_refl _)
  have ancOut : ∀ j, j < n → anc tbl j i = true → listed.getD j false = true → False := by
    intro j hj hji hl
    have := S.ancE j i hji (fun x => listed.getD x false = true) (fun x y hx hy => hcl x y hx hy) hl
    rw [hno] at this; cases this
  have lens := S.len
  -- the slots that it looks at
  have hlook : ∀ t ∈ reads o, look tsS t = look r.ts t := by
    intro t ht
    by_cases hw : ∃ (j : Nat) (oj : AOper), l[j]? = some oj ∧ oj.dst = some t
    · obtain ⟨j, oj, hj, hd⟩ := hw
      have hjn : j < n := by rw [← lens]; exact (List.getElem?_eq_some_iff.1 hj).1
      have uniq : ∀ (j' : Nat) (o' : AOper), l[j']? = some o' → o'.dst = some t → j' = j := fun j' o' hj' hd' => S.dst j' j o' oj t hj' hj hd' hd
      obtain ⟨rj, hrj, _⟩ := tr.step j oj hj
      have notS : listed.getD j false = false → look tsS t = look ts t := fun hf => h2 t ht (fun j' o' hj' hl hd' => by
        rw [uniq j' o' hj' hd', hf] at hl; cases hl)
      have notB : ¬ (j < i) → look r.ts t = look ts t := fun hf => tr.old i r t hr (fun j' o' hlt hj' hd' => hf (by rw [← uniq j' o' hj' hd']; exact hlt))
      rcases S.rd i j o oj t ho hj hd ht with hij | hij | hij
      · subst hij
        rw [notS hno, notB (Nat.lt_irrefl _)]
      · by_cases hji : j = i
        · subst hji; rw [notS hno, notB (Nat.lt_irrefl _)]
        · have hlt : j < i := by have := ancLe i j hi hij; omega
          have hl : listed.getD j false = true := (ancIn j hij).resolve_right hji
          rw [h1 j oj rj t ht hj hrj hl hd]
          exact (tr.new i r j oj rj t hr hlt hj hrj hd (fun j' o' a b c hd' => by have := uniq j' o' c hd'; omega)).symm
      · by_cases hji : j = i
        · subst hji; rw [notS hno, notB (Nat.lt_irrefl _)]
        · have hge : ¬ (j < i) := by have := ancLe j i hjn hij; omega
          have hl : listed.getD j false = false := by
            cases hq : listed.getD j false with
            | false => rfl
            | true => exact (ancOut j hjn hij hq).elim
          rw [notS hl, notB hge]
    · rw [h2 t ht (fun j' o' hj' _ hd' => hw ⟨j', o', hj', hd'⟩), tr.old i r t hr (fun j' o' _ hj' hd' => hw ⟨j', o', hj', hd'⟩)]
  exact ⟨r, ha, hb, hr, g1, g2, g3, hlook⟩

/-- one operation that may run now: it comes to what it came to in the text's order -/
theorem ready_step {F : Nat} (S : Statics tbl l E n F) (tr : TraceOk cf l ts h recs hs ts' h') (hck : chkAll (h :: hs) recs ((List.range n).map (winOf tbl (effs l))) = true)
    {listed : Array Bool} (_hsz : listed.size = n) (hcl : ∀ i j, listed.getD i false = true → j ∈ E i → listed.getD j false = true) {i : Nat} (hi : i < n) (hno : listed.getD i false = false) (hrd : ∀ j ∈ E i, listed.getD j false = true)
    {o : AOper} (ho : l[i]? = some o) {tsS : T Value} (h1 : ∀ (j : Nat) (oj : AOper) (r : Rec) (t : Nat), t ∈ reads o → l[j]? = some oj → recs[j]? = some r → listed.getD j false = true → oj.dst = some t → look tsS t = r.v)
    (h2 : ∀ (t : Nat), t ∈ reads o → (∀ (j : Nat) (o : AOper), l[j]? = some o → listed.getD j false = true → o.dst ≠ some t) → look tsS t = look ts t) (hord : isE o.op = true → ∀ e, e < n → isEat l e = true → e ≠ i → (listed.getD e false = true ↔ e < i)) {hh : Heap}
    (hhh : (h :: hs)[(List.range n).countP (fun e => isEat l e && listed.getD e false)]? = some hh) :
    ∃ r h2, recs[i]? = some r ∧ ran cf tsS hh o = some (r.v, h2) ∧ (h :: hs)[(List.range n).countP (fun e => isEat l e && (decide (e = i) || listed.getD e false))]? = some h2 := by
  obtain ⟨r, hr, hro, ha, hb, g1, g2, g3⟩ := tr.step i o ho
  -- what is behind and ahead of i
  have ancIn : ∀ j, anc tbl i j = true → listed.getD j false = true ∨ j = i := by
    intro j hj
    have := S.ancE i j hj (fun x => listed.getD x false = true ∨ x = i) (fun x y hx hy => by
      rcases hx with hx | rfl
      · exact .inl (hcl x y hx hy)
      · exact .inl (hrd y hy)) (.inr rfl)
    exact this
  have ancLe : ∀ x y, x < n → anc tbl x y = true → y ≤ x := by
    intro x y hx hxy
    exact S.ancE x y hxy (fun z => z ≤ x) (fun a b ha hb => by
      have := S.lt a (by omega) b hb; omega) (Nat.le_refl _)
  have ancOut : ∀ j, j < n → anc tbl j i = true → listed.getD j false = true → False := by
    intro j hj hji hl
    have := S.ancE j i hji (fun x => listed.getD x false = true) (fun x y hx hy => hcl x y hx hy) hl
    rw [hno] at this; cases this
  have lens := S.len
  -- the slots that it looks at
  have hlook : ∀ t ∈ reads o, look tsS t = look r.ts t := by
    intro t ht
    by_cases hw : ∃ (j : Nat) (oj : AOper), l[j]? = some oj ∧ oj.dst = some t
    · obtain ⟨j, oj, hj, hd⟩ := hw
      have hjn : j < n := by rw [← lens]; exact (List.getElem?_eq_some_iff.1 hj).1
      have uniq : ∀ (j' : Nat) (o' : AOper), l[j']? = some o' → o'.dst = some t → j' = j := fun j' o' hj' hd' => S.dst j' j o' oj t hj' hj hd' hd
      obtain ⟨rj, hrj, _⟩ := tr.step j oj hj
      have notS : listed.getD j false = false → look tsS t = look ts t := fun hf => h2 t ht (fun j' o' hj' hl hd' => by
        rw [uniq j' o' hj' hd', hf] at hl; cases hl)
      have notB : ¬ (j < i) → look r.ts t = look ts t := fun hf => tr.old i r t hr (fun j' o' hlt hj' hd' => hf (by rw [← uniq j' o' hj' hd']; exact hlt))
      rcases S.rd i j o oj t ho hj hd ht with hij | hij | hij
      · subst hij
        rw [notS hno, notB (Nat.lt_irrefl _)]
      · by_cases hji : j = i
        · subst hji; rw [notS hno, notB (Nat.lt_irrefl _)]
        · have hlt : j < i := by have := ancLe i j hi hij; omega
          have hl : listed.getD j false = true := (ancIn j hij).resolve_right hji
          rw [h1 j oj rj t ht hj hrj hl hd]
          exact (tr.new i r j oj rj t hr hlt hj hrj hd (fun j' o' a b c hd' => by have := uniq j' o' c hd'; omega)).symm
      · by_cases hji : j = i
        · subst hji; rw [notS hno, notB (Nat.lt_irrefl _)]
        · have hge : ¬ (j < i) := by have := ancLe j i hjn hij; omega
          have hl : listed.getD j false = false := by
            cases hq : listed.getD j false with
            | false => rfl
            | true => exact (ancOut j hjn hij hq).elim
          rw [notS hl, notB hge]
    · rw [h2 t ht (fun j' o' hj' _ hd' => hw ⟨j', o', hj', hd'⟩), tr.old i r t hr (fun j' o' _ hj' hd' => hw ⟨j', o', hj', hd'⟩)]
  have cong := oper_congr (cf := cf) hlook
  have ranEq : ∀ H, ran cf tsS H o = ran cf r.ts H o := by
    intro H; unfold ran; rw [cong.1, cong.2]
  have hE : isEat l i = isE o.op := by simp [isEat, ho]
  have hiN : i ≤ n := Nat.le_of_lt hi
  refine ⟨r, ?_⟩
  cases he : isE o.op with
  | true =>
    -- it turns the heap: those ahead of it have run, those behind it have not
    have same : (List.range n).countP (fun e => isEat l e && listed.getD e false) = cE l i := by
      unfold cE
      rw [← countP_below (isEat l) n i hiN]
      refine List.countP_congr (fun e hen => ?_)
      have hen := List.mem_range.1 hen
      cases hq : isEat l e with
      | false => simp
      | true =>
        simp only [Bool.true_and]
        by_cases hei : e = i
        · subst hei; rw [hno]; simp
        · rw [hord he e hen hq hei, blt_iff]
    have next : (List.range n).countP (fun e => isEat l e && (decide (e = i) || listed.getD e false)) = cE l (i + 1) := by
      unfold cE
      rw [← countP_below (isEat l) n (i + 1) hi]
      refine List.countP_congr (fun e hen => ?_)
      have hen := List.mem_range.1 hen
      cases hq : isEat l e with
      | false => simp
      | true =>
        simp only [Bool.true_and]
        by_cases hei : e = i
        · subst hei; simp
        · rw [Bool.or_eq_true, hord he e hen hq hei, blt_iff]
          simp [hei]; omega
    rw [same, g1] at hhh
    simp only [Option.some.injEq] at hhh
    subst hhh
    exact ⟨hb, hr, by rw [ranEq]; exact g3, by rw [next]; exact g2⟩
  | false =>
    have next : (List.range n).countP (fun e => isEat l e && (decide (e = i) || listed.getD e false)) = (List.range n).countP (fun e => isEat l e && listed.getD e false) := by
      refine List.countP_congr (fun e _ => ?_)
      by_cases hei : e = i
      · subst hei; rw [hE, he]; simp
      · simp [hei]
    have hab : hb = ha := ran_pure he g3
    subst hab
    refine ⟨hh, hr, ?_, by rw [next]; exact hhh⟩
    rw [ranEq]
    unfold ran at g3 ⊢
    cases hwa : wantedA r.ts o.guard with
    | false =>
      rw [hwa] at g3; simp only [Option.some.injEq, Prod.mk.injEq] at g3 ⊢
      exact ⟨g3.1, trivial⟩
    | true =>
      rw [hwa] at g3; simp only at g3 ⊢
      cases hop : o.op with
      | p q =>
        rw [hop] at g3; simp only [step1, step1Q] at g3 ⊢
        split at g3
        · rename_i u hu; simp only [Option.some.injEq, Prod.mk.injEq] at g3; rw [g3.1]
        · cases g3
      | e q => rw [hop] at he; cases he
      | call f q => rw [hop] at he; cases he
      | callv x q => rw [hop] at he; cases he
      | invoke tbl x q => rw [hop] at he; cases he
      | bad => rw [hop] at g3; simp [step1, step1Q] at g3
      | r q =>
        rw [hop] at g3; simp only [step1, step1Q] at g3 ⊢
        have g4 : rop r.ts hb q = some r.v := by
          split at g3
          · rename_i u hu; simp only [Option.some.injEq, Prod.mk.injEq] at g3; rw [hu, g3.1]
          · cases g3
        -- between which numbers of turnings
        have key : rop r.ts hh q = some r.v := by
          have lo : (winOf tbl (effs l) i).1 ≤ (List.range n).countP (fun e => isEat l e && listed.getD e false) := by
            simp only [winOf, effs, List.filter_filter, ← List.countP_eq_length_filter, lens]
            refine List.countP_mono_left (fun e _ hx => ?_)
            simp only [Bool.and_eq_true] at hx ⊢
            refine ⟨hx.2, (ancIn e hx.1).resolve_right (fun hei => ?_)⟩
            subst hei
            have := hx.2
            rw [ho] at this; simp only at this; rw [this] at he; cases he
          have hi' : (List.range n).countP (fun e => isEat l e && listed.getD e false) ≤ (winOf tbl (effs l) i).2 := by
            simp only [winOf, effs, List.filter_filter, ← List.countP_eq_length_filter, lens]
            refine List.countP_mono_left (fun e hen hx => ?_)
            simp only [Bool.and_eq_true] at hx ⊢
            refine ⟨?_, hx.1⟩
            cases hq : anc tbl e i with
            | false => rfl
            | true => exact (ancOut e (List.mem_range.1 hen) hq hx.2).elim
          have lo2 : (winOf tbl (effs l) i).1 ≤ cE l i := by
            unfold cE
            rw [← countP_below (isEat l) n i hiN]
            simp only [winOf, effs, List.filter_filter, ← List.countP_eq_length_filter, lens]
            refine List.countP_mono_left (fun e _ hx => ?_)
            simp only [Bool.and_eq_true] at hx ⊢
            refine ⟨hx.2, blt_iff.2 ?_⟩
            have := ancLe i e hi hx.1
            have hne : e ≠ i := fun hei => by
              subst hei
              have := hx.2
              rw [ho] at this; simp only at this; rw [this] at he; cases he
            omega
          have hi2 : cE l i ≤ (winOf tbl (effs l) i).2 := by
            unfold cE
            rw [← countP_below (isEat l) n i hiN]
            simp only [winOf, effs, List.filter_filter, ← List.countP_eq_length_filter, lens]
            refine List.countP_mono_left (fun e hen hx => ?_)
            simp only [Bool.and_eq_true] at hx ⊢
            refine ⟨?_, hx.1⟩
            cases hq : anc tbl e i with
            | false => rfl
            | true =>
              have := ancLe e i (List.mem_range.1 hen) hq
              have := blt_true hx.2
              omega
          by_cases heq : (winOf tbl (effs l) i).1 = (winOf tbl (effs l) i).2
          · have : (List.range n).countP (fun e => isEat l e && listed.getD e false) = cE l i := by omega
            rw [this, g1] at hhh
            simp only [Option.some.injEq] at hhh
            subst hhh
            exact g4
          · have hwin : ((List.range n).map (winOf tbl (effs l)))[i]? = some ((winOf tbl (effs l) i).1, (winOf tbl (effs l) i).2) := by
              rw [List.getElem?_map, List.getElem?_range hi]; rfl
            have hc := chkAll_get hck i r _ _ hr hwin q (by rw [hro]; exact hop) heq (by rw [hro]; exact hwa)
            refine chkR_get hc hh ?_
            refine List.mem_of_getElem? (i := (List.range n).countP (fun e => isEat l e && listed.getD e false) - (winOf tbl (effs l) i).1) ?_
            rw [List.getElem?_take, if_pos (by omega), List.getElem?_drop]
            rw [show (winOf tbl (effs l) i).1 + ((List.range n).countP (fun e => isEat l e && listed.getD e false) - (winOf tbl (effs l) i).1) = (List.range n).countP (fun e => isEat l e && listed.getD e false) by omega]
            exact hhh
        rw [key]

end
end
end Go.Proofs.Ytedldiimhbebdaa.Ai
