/- A region whose order is open, as a whole; code; calls. -/
import Derived.Test.YtedldiimhbebdaaAiSoundL
import Derived.OrdersIn
namespace Go.Proofs.Ytedldiimhbebdaa.Ai
noncomputable section
open Go.RowKit

section
variable {P : Program} {B : Fr} {w0 : World} {cf : CallF} {N n : Nat} {ops : Array Oper} {l : List AOper} {tbl : List Nat} {E : Nat → List Nat}
  {recs : List Rec} {hs : List Heap} {ts ts' : T Value} {h h' : Heap} {Q : Exit → Act → World → Prop} {μ : Map} {ds : List Deferred}

theorem ready_mem {listed : Array Bool} {i : Nat} (hm : i ∈ Region.ready .any ops listed) : i < ops.size ∧ listed.getD i true = false ∧ ∀ o, ops[i]? = some o → ∀ e ∈ o.after, Region.binds .any e = true → listed.getD e.on false = true := by
  simp only [Region.ready, List.mem_filter, List.mem_range, Bool.and_eq_true, Bool.not_eq_true'] at hm
  obtain ⟨h1, h2, h3⟩ := hm
  refine ⟨h1, h2, fun o ho e he hb => ?_⟩
  rw [ho] at h3
  simp only [Option.map_some, Option.getD_some, Array.all_eq_true_iff_forall_mem] at h3
  have := h3 e he
  rw [hb] at this
  simpa using this

theorem ready_nil {listed : Array Bool} (hsz : listed.size = ops.size) (hE : ∀ i o, ops[i]? = some o → E i = edges o) (hlt : ∀ i, i < ops.size → ∀ e ∈ E i, e < i) (hn : Region.ready .any ops listed = []) : ∀ i, i < ops.size → listed.getD i false = true := by
  intro i
  induction i using Nat.strongRecOn with
  | _ i ih =>
    intro hi
    cases hq : listed.getD i false with
    | true => rfl
    | false =>
      exfalso
      have hmem : i ∈ Region.ready .any ops listed := by
        simp only [Region.ready, List.mem_filter, List.mem_range, Bool.and_eq_true, Bool.not_eq_true']
        have ho : ops[i]? = some ops[i] := Array.getElem?_eq_getElem hi
        refine ⟨hi, ?_, ?_⟩
        · have hi' : i < listed.size := by omega
          simp only [Array.getD_eq_getD_getElem?, Array.getElem?_eq_getElem hi', Option.getD_some] at hq ⊢
          exact hq
        · rw [ho]
          simp only [Option.map_some, Option.getD_some, Array.all_eq_true_iff_forall_mem]
          intro e he
          cases hb : Region.binds .any e with
          | false => rfl
          | true =>
            have hin : e.on ∈ E i := by
              rw [hE i _ ho]
              simp only [edges, List.mem_map, List.mem_filter]
              exact ⟨e, ⟨by simpa using he, hb⟩, rfl⟩
            have := hlt i hi e.on hin
            simp [ih e.on this (by omega)]
      rw [hn] at hmem
      cases hmem

theorem run_step {ro : Option Nat} {F : Nat} (S : Statics tbl l E n F) (tr : TraceOk cf l ts h recs hs ts' h') (hck : chkAll (h :: hs) recs ((List.range n).map (winOf tbl (effs l))) = true) (hc : CallsOk P cf B w0)
    {x : Option Nat} {listed : Array Bool} {a : Act} {w : World} (st : Stand P B w0 N l E n recs (h :: hs) ts μ ds x listed a w) {i : Nat} (hi : i < n) (hno : listed.getD i false = false) (hrd : ∀ j ∈ E i, listed.getD j false = true)
    {o : Oper} (ho : ops[i]? = some o) {ao : AOper} (hao : l[i]? = some ao) (k : OperOk P N ops o ao) (hx : ∀ t, x = some t → t ∉ reads ao ∧ ao.dst ≠ some t)
    (hord : isE ao.op = true → ∀ e, e < n → isEat l e = true → e ≠ i → (listed.getD e false = true ↔ e < i)) {K : Act → World → Prop}
    (hK : ∀ a' w', Stand P B w0 N l E n recs (h :: hs) ts μ ds x (listed.setIfInBounds i true) a' w' → (∀ t, x = some t → a'.tmps.getD t undef = a.tmps.getD t undef) → K a' w') : wpOpIn (FW ro) 0 P ops Q i K a w := by
  have hisz : i < listed.size := by rw [st.size]; exact hi
  obtain ⟨μ', tsS, hh, g1, g2, g3, g4, g5, g6⟩ := st.st
  obtain ⟨r, hh2, r1, r2, r3⟩ := ready_step S tr hck st.size st.closed hi hno hrd hao (fun j oj rj t ht => g5 j oj rj t (fun he => (hx t he).1 ht)) (fun t ht => g6 t (fun he => (hx t he).1 ht)) hord g2
  -- where it stands then
  have stand : ∀ (a' : Act) (w' : World) (μ2 : Map) (v' : Value), a' = a.put o.dst v' → μ'.le μ2 → Rel (Cc P) μ2 hh2 B w0 w' → VRel μ2 r.v v' → Stand P B w0 N l E n recs (h :: hs) ts μ ds x (listed.setIfInBounds i true) a' w' ∧ (∀ t, x = some t → a'.tmps.getD t undef = a.tmps.getD t undef) := by
    intro a' w' μ2 v' ha' hle R' hv'
    subst ha'
    have gd := fun j => getD_set (j := j) hisz
    refine ⟨⟨by simp [st.size], ?_, by rw [put_size]; exact st.tsz, by rw [put_defers]; exact st.dfs, μ2, putA tsS ao.dst r.v, hh2, g1.trans hle, ?_, R', ?_, ?_, ?_⟩, ?_⟩
    · intro x y hx hy
      rw [gd, Bool.or_eq_true] at hx ⊢
      rcases hx with hx | hx
      · have := of_decide_eq_true hx
        subst this
        exact .inr (hrd y hy)
      · exact .inr (st.closed x y hx hy)
    · have : (fun e => isEat l e && (listed.setIfInBounds i true).getD e false) = fun e => isEat l e && (decide (e = i) || listed.getD e false) := by
        funext e; rw [gd]
      rw [this]; exact r3
    · rw [k.dst]
      exact tsrel_put (g4.mono hle) hv' (by rw [st.tsz]; exact k.dok)
    · intro j o rj t hxt hj hrj hl hd
      rw [gd, Bool.or_eq_true] at hl
      by_cases hji : j = i
      · subst hji
        rw [hao] at hj; cases hj
        rw [r1] at hrj; cases hrj
        simp only [hd, putA]; exact look_put_same _ _ _
      · have hl := hl.resolve_left (by simpa using hji)
        have hne : ao.dst ≠ some t := fun hd' => hji (S.dst j i o ao t hj hao hd hd')
        rw [look_putA_other _ _ hne]
        exact g5 j o rj t hxt hj hrj hl hd
    · intro t hxt hno'
      have hne : ao.dst ≠ some t := hno' i ao hao (by rw [gd]; simp)
      rw [look_putA_other _ _ hne]
      exact g6 t hxt (fun j o hj hl => hno' j o hj (by rw [gd, hl]; simp))
    · intro t ht
      have hne := (hx t ht).2
      rw [k.dst] at hne
      cases hd : o.dst with
      | none => rfl
      | some d =>
        have hdt : d ≠ t := fun he => hne (by rw [hd, he])
        simp only [Act.put, Array.getD_eq_getD_getElem?, Array.getElem?_setIfInBounds, if_neg hdt]
  unfold wpOpIn
  rw [ho]
  simp only
  have hw := wanted_eq k g4 st.tsz
  unfold ran at r2
  cases hwa : wantedA tsS ao.guard with
  | true =>
    rw [hwa] at hw r2; simp only at r2
    rw [if_pos hw]
    exact op_wp k.form k.nod hc g3 g4 r2 (fun μ2 v' w' hle R' hv' => hK _ _ (stand _ _ μ2 v' rfl hle R' hv').1 (stand _ _ μ2 v' rfl hle R' hv').2)
  | false =>
    rw [hwa] at hw r2; simp only [Option.some.injEq, Prod.mk.injEq] at r2
    rw [if_neg (by rw [hw]; simp)]
    have hs := stand _ _ μ' undef rfl μ'.le_refl (by rw [← r2.2]; exact g3) (by rw [← r2.1]; exact undef_rel μ')
    exact ⟨fun _ _ => trivial, hK _ _ hs.1 hs.2⟩

/-- one has run ahead of its place: its row is there, and is not told of yet -/
structure StandP (P : Program) (B : Fr) (w0 : World) (N : Nat) (l : List AOper) (E : Nat → List Nat) (n F : Nat) (recs : List Rec) (hall : List Heap) (ts : T Value) (μ : Map) (ds : List Deferred) (listed : Array Bool) (a : Act) (w : World) : Prop where
  lf : listed.getD F false = true
  clF : ∀ j ∈ E F, listed.getD j false = true
  st : ∃ (c : Nat) (cc : Array Value) (el : TypeId) (V : Value) (k : Blk) (tF : Nat) (rF : Rec) (ha : Heap) (oF : AOper) (μ1 : Map),
    l[F]? = some oF ∧ oF.dst = some tF ∧ recs[F]? = some rF ∧ hall[cE l F]? = some ha ∧ hall[cE l (F + 1)]? = some (ha.new k) ∧ k.own = true ∧ k.cells.length ≤ k.n ∧ cc.size = k.n ∧
    (∀ (i : Nat) (v : Value), k.cells[i]? = some v → ∃ v', cc[i]? = some v' ∧ VRel μ1 v v') ∧ (∀ ν : Map, VRel (ν.put ha.next ⟨c, 0, 0, k.s, k.n⟩) rF.v V) ∧ B.own c ∧ μ.le μ1 ∧ a.tmps.getD tF undef = V ∧
    Stand P (B.with c (.cells cc el (0, 0))) w0 N l E n recs hall ts μ1 ds (some tF) (listed.setIfInBounds F false) a w

theorem getD_unset {listed : Array Bool} {i j : Nat} (hi : i < listed.size) : (listed.setIfInBounds i false).getD j false = (!(decide (j = i)) && listed.getD j false) := by
  simp only [Array.getD_eq_getD_getElem?, Array.getElem?_setIfInBounds]
  by_cases h : i = j
  · subst h; simp [hi]
  · simp [h, Ne.symm h]

theorem absorb_stand {F : Nat} (S : Statics tbl l E n F) (hF : F < n) {listed : Array Bool} {a : Act} {w : World} (p : StandP P B w0 N l E n F recs (h :: hs) ts μ ds listed a w) (hall : ∀ e, e < F → isEat l e = true → listed.getD e false = true) :
    Stand P B w0 N l E n recs (h :: hs) ts μ ds none listed a w := by
  obtain ⟨c, cc, el, V, k, tF, rF, ha, oF, μ1, p1, p2, p3, p4, p5, p6, p7, p8, p9, p10, p11, p12, p13, st⟩ := p.st
  have hsz : F < listed.size := by have := st.size; simp at this; omega
  have gd := fun j => getD_unset (j := j) hsz
  have hEF : isEat l F = true := by
    obtain ⟨q1, _⟩ := S.fl oF p1
    simp only [isEat, p1]
    cases hop : oF.op <;> rw [hop] at q1 <;> first | rfl | cases q1
  have ancLe : ∀ x y, x < n → anc tbl x y = true → y ≤ x := by
    intro x y hx hxy
    exact S.ancE x y hxy (fun z => z ≤ x) (fun a b ha hb => by
      have := S.lt a (by omega) b hb; omega) (Nat.le_refl _)
  -- which have run, but it
  have key : ∀ e, e < n → isEat l e = true → ((listed.setIfInBounds F false).getD e false = true ↔ e < F) := by
    intro e he hE
    constructor
    · intro hl
      rcases S.ef e F he hF hE hEF with hx | hx | hx | hx | hx
      · subst hx; rw [gd] at hl; simp at hl
      · have := S.ancE e F hx (fun z => (listed.setIfInBounds F false).getD z false = true) (fun x y hx hy => st.closed x y hx hy) hl
        rw [gd] at this; simp at this
      · have := ancLe F e hF hx
        by_cases hef : e = F
        · subst hef; rw [gd] at hl; simp at hl
        · omega
      · omega
      · exact hx.2
    · intro hlt
      rw [gd, hall e hlt hE]; simp; omega
  have cnt : (List.range n).countP (fun e => isEat l e && (listed.setIfInBounds F false).getD e false) = cE l F := by
    unfold cE
    rw [← countP_below (isEat l) n F (by omega)]
    refine List.countP_congr (fun e hen => ?_)
    have hen := List.mem_range.1 hen
    cases hq : isEat l e with
    | false => simp
    | true => simp only [Bool.true_and]; rw [key e hen hq, blt_iff]
  have cnt2 : (List.range n).countP (fun e => isEat l e && listed.getD e false) = cE l (F + 1) := by
    unfold cE
    rw [← countP_below (isEat l) n (F + 1) hF]
    refine List.countP_congr (fun e hen => ?_)
    have hen := List.mem_range.1 hen
    cases hq : isEat l e with
    | false => simp
    | true =>
      simp only [Bool.true_and]; rw [blt_iff]
      by_cases hef : e = F
      · subst hef; rw [p.lf]; simp
      · have := key e hen hq
        rw [gd] at this
        simp only [hef, decide_false, Bool.not_false, Bool.true_and] at this
        rw [this]; omega
  obtain ⟨μ', tsS, hh, g1, g2, g3, g4, g5, g6⟩ := st.st
  rw [cnt, p4] at g2; simp only [Option.some.injEq] at g2; subst g2
  obtain ⟨R', hle⟩ := g3.absorb p11 k p6 p7 p8 (fun i v hi => by obtain ⟨v', q1, q2⟩ := p9 i v hi; exact ⟨v', q1, q2.mono g1⟩)
  refine ⟨by have := st.size; simpa using this, ?_, st.tsz, st.dfs, _, tsS.put tF rF.v, ha.new k, (p12.trans g1).trans hle, by rw [cnt2]; exact p5, R', ?_, ?_, ?_⟩
  · intro i j hi hj
    by_cases hiF : i = F
    · subst hiF; exact p.clF j hj
    · have := st.closed i j (by rw [gd, hi]; simp [hiF]) hj
      rw [gd, Bool.and_eq_true] at this; exact this.2
  · intro t
    by_cases ht : t = tF
    · subst ht; rw [look_put_same, p13]; exact p10 μ'
    · rw [look_put_other _ _ ht]; exact (g4 t).mono hle
  · intro j o rj t _ hj hrj hl hd
    by_cases hjF : j = F
    · subst hjF
      rw [p1] at hj; cases hj
      rw [p3] at hrj; cases hrj
      rw [p2] at hd; cases hd
      exact look_put_same _ _ _
    · have hne : t ≠ tF := fun ht => hjF (S.dst j F o oF t hj p1 hd (by rw [p2, ht]))
      rw [look_put_other _ _ hne]
      exact g5 j o rj t (fun he => hne (by cases he; rfl)) hj hrj (by rw [gd, hl]; simp [hjF]) hd
  · intro t _ hno'
    have hne : t ≠ tF := fun ht => hno' F oF p1 p.lf (by rw [p2, ht])
    rw [look_put_other _ _ hne]
    exact g6 t (fun he => hne (by cases he; rfl)) (fun j o hj hl => hno' j o hj (by rw [gd, Bool.and_eq_true] at hl; exact hl.2))

/-- it runs ahead of its place -/
theorem run_early {ro : Option Nat} {F : Nat} (S : Statics tbl l E n F) (hF : F < n) (tr : TraceOk cf l ts h recs hs ts' h')
    {listed : Array Bool} {a : Act} {w : World} (st : Stand P B w0 N l E n recs (h :: hs) ts μ ds none listed a w) (hno : listed.getD F false = false) (hrd : ∀ j ∈ E F, listed.getD j false = true)
    {o : Oper} (ho : ops[F]? = some o) {ao : AOper} (hao : l[F]? = some ao) (k : OperOk P N ops o ao) {K : Act → World → Prop}
    (hK : ∀ a' w', StandP P B w0 N l E n F recs (h :: hs) ts μ ds (listed.setIfInBounds F true) a' w' → K a' w') : wpOpIn (FW ro) 0 P ops Q F K a w := by
  have hsz : F < listed.size := by rw [st.size]; exact hF
  obtain ⟨μ', tsS, hh, g1, g2, g3, g4, g5, g6⟩ := st.st
  obtain ⟨r, ha, hb, r1, r2, r3, r4, r5⟩ := ready_look S tr st.closed hF hno hrd hao (fun j oj rj t _ => g5 j oj rj t (by simp)) (fun t _ => g6 t (by simp))
  obtain ⟨q1, q2, tF, q3⟩ := S.fl ao hao
  have cong := oper_congr (cf := cf) r5
  have hw := wanted_eq k g4 st.tsz
  rw [q2] at hw
  have hs1 : step1 cf tsS ha ao.op = some (r.v, hb) := by
    rw [cong.2 ha]
    unfold ran at r4
    rw [q2] at r4
    exact r4
  have hdid : DidN P μ' ha hb a w o r.v ∧ ∀ c, o.op ≠ .defer c := by
    refine ⟨new_did k.form q1 g4 hs1, fun c hcq => ?_⟩
    have := k.nod c hcq
    rw [this] at q1; cases q1
  obtain ⟨⟨kb, cc, el, V, d0, d1, _, d3, d4, d5, d6, d7, d8⟩, hnd⟩ := hdid
  subst d0
  unfold wpOpIn
  rw [ho]
  simp only
  have hw1 : Region.wanted o (yielded ops a.tmps) = true := hw
  rw [if_pos hw1]
  refine op_in hnd ?_
  rw [d6, Oper.uponIn_value]
  have hd : o.dst = some tF := by rw [← k.dst]; exact q3
  have hlt : tF < a.tmps.size := by
    have := k.dok
    rw [hd, ← st.tsz] at this
    have : Nat.ble (tF + 1) a.tmps.size = true := this
    have := ble_true this; omega
  have eqS : (listed.setIfInBounds F true).setIfInBounds F false = listed := by
    apply Array.ext_getElem?
    intro i
    simp only [Array.getElem?_setIfInBounds, Array.size_setIfInBounds]
    by_cases hi : F = i
    · subst hi
      rw [if_pos rfl, if_pos hsz, Array.getElem?_eq_getElem hsz]
      simp only [Array.getD_eq_getD_getElem?, Array.getElem?_eq_getElem hsz, Option.getD_some] at hno
      rw [hno]
    · rw [if_neg hi, if_neg hi]
  refine hK _ _ ⟨by rw [getD_set hsz]; simp, fun j hj => by rw [getD_set hsz, hrd j hj]; simp, w.heap.size, cc, el, V, kb, tF, r, ha, ao, μ', hao, q3, r1, r2, r3, d1, d3, d4, d5, d7, g3.own_size, g1, ?_, ?_⟩
  · rw [hd]
    show (a.tmps.setIfInBounds tF V).getD tF undef = V
    simp only [Array.getD_eq_getD_getElem?, Array.getElem?_setIfInBounds]
    simp [hlt]
  · rw [eqS]
    refine ⟨st.size, st.closed, by rw [put_size]; exact st.tsz, by rw [put_defers]; exact st.dfs, μ', tsS.put tF (.map (some 0)), hh, μ'.le_refl, g2, g3.ahead cc el, ?_, ?_, ?_⟩
    · have := tsrel_put g4 (v := .map (some 0)) (v' := V) (.top V d8) (d := o.dst) (by rw [st.tsz]; exact k.dok)
      rw [hd] at this ⊢
      exact this
    · intro j oj rj t hxt hj hrj hl hdj
      rw [look_put_other _ _ (fun he => hxt (by rw [he]))]
      exact g5 j oj rj t (by simp) hj hrj hl hdj
    · intro t hxt hno'
      rw [look_put_other _ _ (fun he => hxt (by rw [he]))]
      exact g6 t (by simp) hno'

theorem draw_any {ro : Option Nat} {F : Nat} (S : Statics tbl l E n F) (hnn : n = ops.size) (hops : ∀ (i : Nat) (o : Oper), ops[i]? = some o → ∃ ao, l[i]? = some ao ∧ OperOk P N ops o ao) (hE : ∀ i o, ops[i]? = some o → E i = edges o) (tr : TraceOk cf l ts h recs hs ts' h')
    (hck : chkAll (h :: hs) recs ((List.range n).map (winOf tbl (effs l))) = true) (hc : ∀ B, CallsOk P cf B w0) (hQ : ∀ a' w', Post P μ N ds ts' h' B w0 a' w' → Q .normal a' w') :
    ∀ (fuel : Nat) (listed : Array Bool) (a : Act) (w : World), (Stand P B w0 N l E n recs (h :: hs) ts μ ds none listed a w ∧ (F < n → listed.getD F false = true → ∀ e, e < F → isEat l e = true → listed.getD e false = true)) ∨
      (F < n ∧ (∃ e, e < F ∧ isEat l e = true ∧ listed.getD e false = false) ∧ StandP P B w0 N l E n F recs (h :: hs) ts μ ds listed a w) →
      (List.range n).countP (fun e => !listed.getD e false) ≤ fuel → wpAnyIn (FW ro) 0 P .any ops Q fuel listed a w := by
  have done : ∀ (listed : Array Bool) (a : Act) (w : World), Stand P B w0 N l E n recs (h :: hs) ts μ ds none listed a w → (∀ i, i < ops.size → listed.getD i false = true) → Q .normal a w := by
    intro listed a w st hall
    obtain ⟨μ', tsS, hh, h1, h2, h3, h4, h5, h6⟩ := st.st
    refine hQ a w ⟨st.tsz, st.dfs, μ', h1, ?_, ?_⟩
    · have : (List.range n).countP (fun e => isEat l e && listed.getD e false) = cE l l.length := by
        unfold cE
        rw [S.len]
        refine List.countP_congr (fun e he => ?_)
        rw [hall e (by rw [← hnn]; exact List.mem_range.1 he)]
        simp
      rw [this, tr.last] at h2
      simp only [Option.some.injEq] at h2
      rw [h2]; exact h3
    · intro t
      have hl : look ts' t = look tsS t := by
        by_cases hw : ∃ (j : Nat) (oj : AOper), l[j]? = some oj ∧ oj.dst = some t
        · obtain ⟨j, oj, hj, hd⟩ := hw
          obtain ⟨rj, hrj, _⟩ := tr.step j oj hj
          have hjn : j < n := by rw [← S.len]; exact (List.getElem?_eq_some_iff.1 hj).1
          rw [h5 j oj rj t (by simp) hj hrj (hall j (by omega)) hd]
          exact tr.new' j oj rj t hj hrj hd (fun j' o' hlt hj' hd' => by have := S.dst j' j o' oj t hj' hj hd' hd; omega)
        · rw [h6 t (by simp) (fun j' o' hj' _ hd' => hw ⟨j', o', hj', hd'⟩)]
          exact tr.old' t (fun j' o' hj' hd' => hw ⟨j', o', hj', hd'⟩)
      rw [hl]; exact h4 t
  have hlt : ∀ i, i < ops.size → ∀ e ∈ E i, e < i := fun i hi => S.lt i (by omega)
  have ancLe : ∀ x y, x < n → anc tbl x y = true → y ≤ x := by
    intro x y hx hxy
    exact S.ancE x y hxy (fun z => z ≤ x) (fun a b ha hb => by
      have := S.lt a (by omega) b hb; omega) (Nat.le_refl _)
  intro fuel
  induction fuel with
  | zero =>
    intro listed a w st hf
    have hall : ∀ i, i < n → listed.getD i false = true := by
      intro i hi
      cases hq : listed.getD i false with
      | true => rfl
      | false =>
        have : 0 < (List.range n).countP (fun e => !listed.getD e false) := List.countP_pos_iff.2 ⟨i, List.mem_range.2 hi, by simp [hq]⟩
        omega
    rcases st with ⟨st, _⟩ | ⟨hF, ⟨e, e1, _, e3⟩, _⟩
    · refine ⟨?_, done listed a w st (fun i hi => hall i (by omega))⟩
      apply List.eq_nil_iff_forall_not_mem.2
      intro i hm
      obtain ⟨h1, h2, _⟩ := ready_mem hm
      have := hall i (by omega)
      have hi' : i < listed.size := by rw [st.size]; omega
      simp only [Array.getD_eq_getD_getElem?, Array.getElem?_eq_getElem hi', Option.getD_some] at this h2
      rw [this] at h2; cases h2
    · rw [hall e (by omega)] at e3; cases e3
  | succ fuel ih =>
    intro listed a w st hf
    have hsize : listed.size = n := by
      rcases st with ⟨st, _⟩ | ⟨_, _, st⟩
      · exact st.size
      · obtain ⟨c, cc, el, V, k, tF, rF, ha, oF, μ1, p1, p2, p3, p4, p5, p6, p7, p8, p9, p10, p11, p12, p13, st⟩ := st.st
        have := st.size; simpa using this
    refine ⟨fun hnil => ?_, fun i hm => ?_⟩
    · have hall := ready_nil (by rw [hsize, hnn]) hE hlt hnil
      rcases st with ⟨st, _⟩ | ⟨hF, ⟨e, e1, _, e3⟩, _⟩
      · exact done listed a w st hall
      · rw [hall e (by omega)] at e3; cases e3
    obtain ⟨h1, h2, h3⟩ := ready_mem hm
    have hi : i < n := by omega
    have hisz : i < listed.size := by rw [hsize]; exact hi
    have hno : listed.getD i false = false := by
      simp only [Array.getD_eq_getD_getElem?, Array.getElem?_eq_getElem hisz, Option.getD_some] at h2 ⊢
      exact h2
    have ho : ops[i]? = some ops[i] := Array.getElem?_eq_getElem h1
    obtain ⟨ao, hao, k⟩ := hops i _ ho
    have hrd : ∀ j ∈ E i, listed.getD j false = true := by
      intro j hj
      rw [hE i _ ho] at hj
      simp only [edges, List.mem_map, List.mem_filter] at hj
      obtain ⟨e, ⟨e1, e2⟩, rfl⟩ := hj
      exact h3 _ ho e (by simpa using e1) e2
    have hcnt : (List.range n).countP (fun e => !(listed.setIfInBounds i true).getD e false) ≤ fuel := by
      have := countP_lt (fun e => !listed.getD e false) (fun e => !(listed.setIfInBounds i true).getD e false) (List.range n) (fun e _ he => by
        rw [getD_set hisz] at he
        simp only [Bool.not_or, Bool.and_eq_true] at he
        exact he.2) ⟨i, List.mem_range.2 hi, by simp [hno], by rw [getD_set hisz]; simp⟩
      omega
    have hE' : isEat l i = isE ao.op := by simp [isEat, hao]
    rcases st with ⟨st, nf⟩ | ⟨hF, mis, p⟩
    · -- what must have run, must not have
      have ancIn : ∀ j, anc tbl i j = true → listed.getD j false = true ∨ j = i := fun j hj => S.ancE i j hj (fun x => listed.getD x false = true ∨ x = i) (fun x y hx hy => by
        rcases hx with hx | rfl
        · exact .inl (st.closed x y hx hy)
        · exact .inl (hrd y hy)) (.inr rfl)
      have ancOut : ∀ j, anc tbl j i = true → listed.getD j false = true → False := fun j hji hl => by
        have := S.ancE j i hji (fun x => listed.getD x false = true) (fun x y hx hy => st.closed x y hx hy) hl
        rw [hno] at this; cases this
      by_cases hearly : i = F ∧ ∃ e, e < F ∧ isEat l e = true ∧ listed.getD e false = false
      · obtain ⟨rfl, e, e1, e2, e3⟩ := hearly
        refine run_early S hi tr st hno hrd ho hao k (fun a' w' p => ih _ _ _ (.inr ⟨hi, ⟨e, e1, e2, ?_⟩, p⟩) hcnt)
        rw [getD_set hisz, e3]; simp; omega
      · refine run_step S tr hck (hc B) st hi hno hrd ho hao k (fun t ht => by cases ht) (fun he e hen hq hei => ?_) (fun a' w' st' _ => ih _ _ _ (.inl ⟨st', fun hF hl e heF hq => ?_⟩) hcnt)
        · rcases S.ef i e hi hen (by rw [hE', he]) hq with hx | hx | hx | hx | hx
          · exact absurd hx.symm hei
          · have h1 := (ancIn e hx).resolve_right hei
            have h2 := ancLe i e hi hx
            exact ⟨fun _ => by omega, fun _ => h1⟩
          · have h2 := ancLe e i hen hx
            exact ⟨fun hl => (ancOut e hx hl).elim, fun hlt => by omega⟩
          · refine ⟨fun _ => by omega, fun _ => ?_⟩
            cases hl : listed.getD e false with
            | true => rfl
            | false => exact (hearly ⟨hx.1, e, hx.2, hq, hl⟩).elim
          · refine ⟨fun hl => ?_, fun hlt => by omega⟩
            have := nf (by omega) (by rw [← hx.1]; exact hl) i hx.2 (by rw [hE', he])
            rw [hno] at this; cases this
        · rw [getD_set hisz] at hl ⊢
          simp only [Bool.or_eq_true, decide_eq_true_eq] at hl ⊢
          by_cases hFi : F = i
          · right
            cases hl2 : listed.getD e false with
            | true => rfl
            | false => exact (hearly ⟨hFi.symm, e, heF, hq, hl2⟩).elim
          · exact .inr (nf hF (hl.resolve_left hFi) e heF hq)
    · -- one is ahead of its place
      have hiF : i ≠ F := fun he => by subst he; rw [p.lf] at hno; cases hno
      obtain ⟨c, cc, el, V, kb, tF, rF, ha, oF, μ1, p1, p2, p3, p4, p5, p6, p7, p8, p9, p10, p11, p12, p13, st⟩ := p.st
      have hszF : F < listed.size := by rw [hsize]; exact hF
      have gd := fun j => getD_unset (j := j) hszF
      obtain ⟨e0, m1, m2, m3⟩ := mis
      have closed : ∀ x y, listed.getD x false = true → y ∈ E x → listed.getD y false = true := fun x y hx hy => by
        by_cases hxF : x = F
        · subst hxF; exact p.clF y hy
        · have := st.closed x y (by rw [gd, hx]; simp [hxF]) hy
          rw [gd, Bool.and_eq_true] at this; exact this.2
      have ancIn : ∀ j, anc tbl i j = true → listed.getD j false = true ∨ j = i := fun j hj => S.ancE i j hj (fun x => listed.getD x false = true ∨ x = i) (fun x y hx hy => by
        rcases hx with hx | rfl
        · exact .inl (closed x y hx hy)
        · exact .inl (hrd y hy)) (.inr rfl)
      have ancOut : ∀ j, anc tbl j i = true → listed.getD j false = true → False := fun j hji hl => by
        have := S.ancE j i hji (fun x => listed.getD x false = true) (fun x y hx hy => closed x y hx hy) hl
        rw [hno] at this; cases this
      have notBeh : ¬ (anc tbl i F = true ∨ F ∈ E i) := fun hb => by
        have h0 := S.beh oF p1 i hi hb e0 m1 m2
        rcases ancIn e0 h0 with hl | hl
        · rw [hl] at m3; cases m3
        · subst hl
          rcases hb with hb | hb
          · have := ancLe e0 F hi hb; omega
          · have := S.lt e0 hi F hb; omega
      have hno' : (listed.setIfInBounds F false).getD i false = false := by rw [gd, hno]; simp
      have hrd' : ∀ j ∈ E i, (listed.setIfInBounds F false).getD j false = true := fun j hj => by
        rw [gd, hrd j hj]
        have : j ≠ F := fun he => notBeh (.inr (by rw [← he]; exact hj))
        simp [this]
      have comm : (listed.setIfInBounds F false).setIfInBounds i true = (listed.setIfInBounds i true).setIfInBounds F false := Array.setIfInBounds_comm _ _ (Ne.symm hiF)
      have hx : ∀ t, some tF = some t → t ∉ reads ao ∧ ao.dst ≠ some t := fun t ht => by
        cases ht
        refine ⟨fun hr => ?_, fun hd => hiF (S.dst i F ao oF tF hao p1 hd p2)⟩
        rcases S.rd i F ao oF tF hao p1 p2 hr with hx | hx | hx
        · exact hiF hx
        · exact notBeh (.inl hx)
        · exact ancOut F hx p.lf
      refine run_step S tr hck (hc _) st hi hno' hrd' ho hao k hx (fun he e hen hq hei => ?_) (fun a' w' st' hV => ?_)
      · rw [gd]
        rcases S.ef i e hi hen (by rw [hE', he]) hq with hx | hx | hx | hx | hx
        · exact absurd hx.symm hei
        · have g1 := (ancIn e hx).resolve_right hei
          have g2 := ancLe i e hi hx
          have g3 : e ≠ F := fun heF => notBeh (.inl (by rw [← heF]; exact hx))
          rw [g1]; simp [g3]; omega
        · have g2 := ancLe e i hen hx
          have g3 : listed.getD e false = false := by
            cases hl : listed.getD e false with
            | false => rfl
            | true => exact (ancOut e hx hl).elim
          rw [g3]; simp; omega
        · exact absurd hx.1 hiF
        · rw [hx.1]; simp; omega
      · rw [comm] at st'
        have p' : StandP P B w0 N l E n F recs (h :: hs) ts μ ds (listed.setIfInBounds i true) a' w' :=
          ⟨by rw [getD_set hisz, p.lf]; simp, fun j hj => by rw [getD_set hisz, p.clF j hj]; simp, c, cc, el, V, kb, tF, rF, ha, oF, μ1, p1, p2, p3, p4, p5, p6, p7, p8, p9, p10, p11, p12, by rw [hV tF rfl]; exact p13, st'⟩
        by_cases hmis : ∃ e, e < F ∧ isEat l e = true ∧ (listed.setIfInBounds i true).getD e false = false
        · exact ih _ _ _ (.inr ⟨hF, hmis, p'⟩) hcnt
        · have hall : ∀ e, e < F → isEat l e = true → (listed.setIfInBounds i true).getD e false = true := fun e he hq => by
            cases hl : (listed.setIfInBounds i true).getD e false with
            | true => rfl
            | false => exact (hmis ⟨e, he, hq, hl⟩).elim
          exact ih _ _ _ (.inl ⟨absorb_stand S hF p' hall, fun _ _ => hall⟩) hcnt

end

/-! ### code -/

def concE : AExit → Exit
  | .normal => .normal
  | .exit id => .exit id
  | .ret => .ret

theorem wpIn_loop_fuel {F : Fence} {n0 : Nat} {P : Program} {c : Code} {Q : Exit → Act → World → Prop} (I : Nat → Act → World → Prop) (round : ∀ n a w, I n a w → c.wpIn F n0 P (Exit.then (fun a' w' => ∃ m, m < n ∧ I m a' w') Q) a w) :
    ∀ n a w, I n a w → (Code.loop c).wpIn F n0 P Q a w := by
  intro n a w h₀ b k cs hro hb hr
  have key : ∀ n a w, I n a w → ∃ e a' w', Q e a' w' ∧ ArrivesIn (Machine.fenced P F) P (lone (b.atR a (.code c :: .inLoop c :: k)) cs w) b k cs e a' w' := by
    intro n
    induction n using Nat.strongRecOn with
    | _ n ih =>
      intro a w hI
      obtain ⟨e, a₁, w₁, hq, harr⟩ := round n a w hI b (.inLoop c :: k) cs hro hb hr
      cases e with
      | normal =>
        obtain ⟨m, hlt, hI₁⟩ := hq
        obtain ⟨e₂, a₂, w₂, hq₂, harr₂⟩ := ih m hlt a₁ w₁ hI₁
        exact ⟨e₂, a₂, w₂, hq₂, .of_steps (StepsIn.trans harr (.one (fenced_calm hb hr rfl) stepR_inLoop)) harr₂⟩
      | exit id => exact ⟨_, a₁, w₁, hq, .pass (x := .inLoop c) rfl (fun _ _ => .inl (by simp)) harr⟩
      | goto l => exact ⟨_, a₁, w₁, hq, .pass (x := .inLoop c) rfl (fun _ _ => .inl (by simp)) harr⟩
      | ret => exact ⟨_, a₁, w₁, hq, .pass (x := .inLoop c) rfl (fun _ _ => .inl (by simp)) harr⟩
      | panic ch => exact ⟨_, a₁, w₁, hq, .pass (x := .inLoop c) rfl (fun _ _ => .inl (by simp)) harr⟩
      | outgrown => exact ⟨_, a₁, w₁, hq, .pass (x := .inLoop c) rfl (fun _ _ => .inl (by simp)) harr⟩
  obtain ⟨e, a', w', hq, harr⟩ := key n a w h₀
  exact ⟨e, a', w', hq, .of_steps (.one (fenced_calm hb hr rfl) stepR_loop) harr⟩

/-- a table of the program's functions, made ready -/
def TabOk (P : Program) (tab : Nat → Option AFunc) : Prop := ∀ f af, tab f = some af → tabOf P f = some af

/-- what is known behind code -/
def XPost (P : Program) (μ : Map) (N : Nat) (M0 : List Nat) (ts' : T Value) (h' : Heap) (B : Fr) (w0 : World) (a' : Act) (w' : World) : Prop :=
  a'.tmps.size = N ∧ ∃ μ', μ.le μ' ∧ Rel (Cc P) μ' h' B w0 w' ∧ TsRel μ' ts' a' ∧ Mk μ' M0 h' a'

def CodePost (P : Program) (μ : Map) (N : Nat) (M0 : List Nat) (e : AExit) (ts' : T Value) (h' : Heap) (B : Fr) (w0 : World) : Exit → Act → World → Prop :=
  fun x a' w' => x = concE e ∧ XPost P μ N M0 ts' h' B w0 a' w'

theorem XPost.le {P : Program} {μ μ' : Map} {N : Nat} {M0 : List Nat} {ts' : T Value} {h' : Heap} {B : Fr} {w0 : World} {a' : Act} {w' : World} (hle : μ.le μ') (p : XPost P μ' N M0 ts' h' B w0 a' w') : XPost P μ N M0 ts' h' B w0 a' w' :=
  let ⟨p1, μ2, p3, p4, p5, p6⟩ := p
  ⟨p1, μ2, hle.trans p3, p4, p5, p6⟩

theorem Post.x {P : Program} {μ : Map} {N : Nat} {M0 : List Nat} {ts' : T Value} {h h' : Heap} {B : Fr} {w0 w : World} {a a' : Act} {w' : World} (p : Post P μ N a.defers ts' h' B w0 a' w') (R : Rel (Cc P) μ h B w0 w) (k : Mk μ M0 h a) (hm : h'.marks = h.marks) : XPost P μ N M0 ts' h' B w0 a' w' :=
  let ⟨p1, p2, μ2, p3, p4, p5⟩ := p
  ⟨p1, μ2, p3, p4, p5, k.step R p3 hm p2⟩

theorem endL_sound {C : CRel} {P : Program} {μ : Map} {h h' : Heap} {B : Fr} {w0 w : World} (R : Rel C μ h B w0 w) {b : Nat} {ts ts' : T Value} {e : AExit} {E : Ent} (he : μ b = some E) (hv : endL b ts h = some (e, ts', h')) :
    ts' = ts ∧ ∃ jump w', (Instr.endLoop E.blk).run P w = .ok jump w' ∧ Rel C μ h' B w0 w' ∧ h'.marks = h.marks ∧ ((jump = none ∧ e = .normal) ∨ (jump = some .ret ∧ e = .ret) ∨ ∃ id, jump = some (.exit id) ∧ e = .exit id) := by
  unfold endL at hv
  split at hv
  · rename_i k hk
    obtain ⟨e', he', old, r, h1, h2, h3, h4⟩ := R.aux.loop b k hk
    rw [he] at he'; cases he'
    rcases beq_cases k.st 1 with ⟨b1, b2⟩ | ⟨b1, b2⟩
    · rw [b1] at hv; cases hv
    · rw [b1] at hv; simp only [cond_false] at hv
      have hnb : r.state ≠ .busy := by
        rw [h2]; intro hc
        match hs : k.st, hc with
        | 0, hc => simp [stX] at hc
        | 1, _ => exact b2 hs
        | 2, hc => simp [stX] at hc
        | _ + 3, hc => simp [stX] at hc
      have hend := run_endLoop (P := P) h1 hnb
      have R' := R.setSt hk he h1 (st := 3) (pend := k.pend) (S := .exhausted) (Pn := r.pending) rfl h3 (List.Sublist.refl _)
      split at hv
      · rename_i hp
        simp only [Option.some.injEq, Prod.mk.injEq] at hv; obtain ⟨rfl, rfl, rfl⟩ := hv
        exact ⟨rfl, r.pending, _, hend, R', rfl, .inl ⟨by rw [h3, hp]; rfl, rfl⟩⟩
      · cases hv
      · rename_i x hx hp
        simp only [Option.some.injEq, Prod.mk.injEq] at hv; obtain ⟨rfl, rfl, rfl⟩ := hv
        refine ⟨rfl, r.pending, _, hend, R', rfl, .inr ?_⟩
        cases x with
        | normal => exact absurd rfl hx
        | ret => exact .inl ⟨by rw [h3, hp]; rfl, rfl⟩
        | exit id => exact .inr ⟨id, by rw [h3, hp]; rfl, rfl⟩
  · cases hv

theorem range_sound {P : Program} {mm : Memo} {tab : Nat → Option AFunc} {B : Fr} {w0 : World} {m N : Nat} (hcm : CallsOk P (callF mm tab (exec mm tab m)) B w0) {g : Operand} {ps : Array Tmp} {asg body : Code} {ro l : Option Nat} {ts ts' : T Value} {h h' : Heap} {e : AExit} {μ : Map} {M0 : List Nat} {a : Act} {w : World}
    (hv : exec mm tab (m + 1) ro (compCode P N (.rangeFunc g ps asg body)) ts h = some (e, ts', h')) (R : Rel (Cc P) μ h B w0 w) (r : TsRel μ ts a) (hN : a.tmps.size = N) (hro : RoRel μ ro l) (hk : Mk μ M0 h a) :
    (Code.rangeFunc g ps asg body).wpIn (FW l) 0 P (CodePost P μ N M0 e ts' h' B w0) a w := by
  simp only [compCode] at hv
  split at hv
  · rename_i g' hg
    cases hps : ps.toList.all (Nat.blt · N) with
    | false => rw [hps] at hv; simp [exec_succ, execQ] at hv
    | true =>
      rw [hps] at hv; simp only [cond_true, exec_succ, execQ] at hv
      have hr := compOpd_rel r hg
      split at hv
      · rename_i f fs cs hfn
        rw [hfn] at hr
        split at hv
        · rename_i b h1 hen
          split at hv
          · rename_i u h2 hcl
            obtain ⟨g1, g2⟩ := hcm.fn f _ h1 u h2 hcl
            have hX : ∃ fs' cs' : Array Value, a.eval g = .func (.func f) fs' cs' ∧ VsRel μ fs.toList fs'.toList ∧ VsRel μ cs.toList cs'.toList := by
              generalize a.eval g = X at hr
              cases hr with
              | same _ hp => simp [plain] at hp
              | func _ _ fs' _ cs' q0 q1 q2 q3 q4 => exact ⟨fs', cs', rfl, ⟨q1, q2⟩, ⟨q3, q4⟩⟩
            obtain ⟨fs', cs', hX, k1, k2⟩ := hX
            refine wpIn_rangeFunc (fun fn _ => ?_)
            obtain ⟨μ1, E, mark, w1, en1, en2, en3, en4, en5⟩ := enterL_sound (P := P) R hro hen (a := a) (ps := ps) (assign := asg) (body := body) rfl rfl r hN rfl rfl rfl fn
            have hy : VRel μ1 (.func (.yield b) #[] #[]) (.func (.yield E.blk) #[] #[]) := .yield b E en3
            have g3 := g2 μ1 w1 (fs'.toList ++ [.func (.yield E.blk) #[] #[]] ++ cs'.toList) en4 (((k1.mono en2).append (.single hy)).append (k2.mono en2))
            have e1 : (fs'.toList ++ [Value.func (.yield E.blk) #[] #[]] ++ cs'.toList).toArray = fs' ++ (#[.func (.yield E.blk) #[] #[]] ++ cs') := by apply Array.ext'; simp
            rw [e1] at g3
            have hinv := callFunc_run g1 (fs' ++ (#[.func (.yield E.blk) #[] #[]] ++ cs')) w1
            refine ⟨E.blk, mark, w1, { target := .fn (.func f) cs', args := fs' ++ #[.func (.yield E.blk) #[] #[]] }, w1, f, fs' ++ (#[.func (.yield E.blk) #[] #[]] ++ cs'), w1, en1, ?_, ?_, ?_, depth_FW, ?_⟩
            · simp [resolve, hX, Deferred.ofValue, show ∀ v, a.eval (.const v) = v from fun _ => rfl]
            · intro _ _; trivial
            · rw [← Array.append_assoc] at hinv ⊢
              simpa only [invoke] using hinv
            · refine callsIn_FW (g3.mono ?_)
              rintro x w' ⟨μ2, v', rfl, q1, q2, _⟩
              obtain ⟨rfl, jump, w'', j1, j2, j3, j4⟩ := endL_sound (P := P) q2 (q1 _ _ en3) hv
              have hm2 : h2.marks = h1.marks := hcm.marks _ _ _ _ _ hcl
              have hk2 : Mk μ2 M0 h' { a with defers := mark ++ a.defers } := (en5 M0 hk).step en4 q1 (by rw [j3, hm2]) rfl
              have hp : XPost P μ N M0 ts' h' B w0 { a with defers := mark ++ a.defers } w'' := ⟨hN, μ2, en2.trans q1, j2, r.mono (en2.trans q1), hk2⟩
              refine ⟨jump, w'', j1, ?_⟩
              rcases j4 with ⟨rfl, rfl⟩ | ⟨rfl, rfl⟩ | ⟨id, rfl, rfl⟩
              · exact ⟨rfl, hp⟩
              · exact wpIn_ret ⟨rfl, hp⟩
              · exact wpIn_exit ⟨rfl, hp⟩
          · cases hv
        · cases hv
      · cases hv
  · simp [exec_succ, execQ] at hv

theorem exec_sound {P : Program} {mm : Memo} {tab : Nat → Option AFunc} {B : Fr} {w0 : World} (n : Nat) (hcall : ∀ m, m < n → ∀ B, CallsOk P (callF mm tab (exec mm tab m)) B w0) :
    ∀ m, m ≤ n → ∀ (N : Nat) (c : Code) (ro l : Option Nat) (ts ts' : T Value) (h h' : Heap) (e : AExit) (μ : Map) (M0 : List Nat) (a : Act) (w : World), exec mm tab m ro (compCode P N c) ts h = some (e, ts', h') → Rel (Cc P) μ h B w0 w → TsRel μ ts a → a.tmps.size = N →
      RoRel μ ro l → Mk μ M0 h a → c.wpIn (FW l) 0 P (CodePost P μ N M0 e ts' h' B w0) a w := by
  intro m0
  induction m0 using Nat.strongRecOn with
  | _ m0 ih0 =>
  cases m0 with
  | zero => intro _ N c ro l ts ts' h h' e μ M0 a w hv; simp [exec_zero] at hv
  | succ m =>
    intro hm N c
    have ih := ih0 m (by omega) (by omega)
    have hcm := hcall m (by omega)
    cases c with
    | skip =>
      intro ro l ts ts' h h' e μ M0 a w hv R r hN hro hk
      simp only [compCode, exec_succ, execQ, Option.some.injEq, Prod.mk.injEq] at hv
      obtain ⟨rfl, rfl, rfl⟩ := hv
      exact wpIn_skip ⟨rfl, hN, μ, μ.le_refl, R, r, hk⟩
    | ret =>
      intro ro l ts ts' h h' e μ M0 a w hv R r hN hro hk
      simp only [compCode, exec_succ, execQ, Option.some.injEq, Prod.mk.injEq] at hv
      obtain ⟨rfl, rfl, rfl⟩ := hv
      exact wpIn_ret ⟨rfl, hN, μ, μ.le_refl, R, r, hk⟩
    | exit id =>
      intro ro l ts ts' h h' e μ M0 a w hv R r hN hro hk
      simp only [compCode, exec_succ, execQ, Option.some.injEq, Prod.mk.injEq] at hv
      obtain ⟨rfl, rfl, rfl⟩ := hv
      exact wpIn_exit ⟨rfl, hN, μ, μ.le_refl, R, r, hk⟩
    | region id ops d =>
      intro ro l ts ts' h h' e μ M0 a w hv R r hN hro hk
      cases d with
      | false =>
        simp only [compCode] at hv
        split at hv
        · rename_i l hl
          simp only [exec_succ, execQ] at hv
          split at hv
          · rename_i t2 h2 hr
            simp only [Option.some.injEq, Prod.mk.injEq] at hv
            obtain ⟨rfl, rfl, rfl⟩ := hv
            exact wpIn_region_list (runOps_sound (hcm B) ops.toList l hl μ h h2 ts t2 a w R r hN hr (fun a' w' hp => ⟨rfl, hp.x R hk (runOps_marks (hcm B).marks _ _ _ _ _ hr)⟩))
          · cases hv
        · simp [exec_succ, execQ] at hv
      | true =>
        simp only [compCode] at hv
        split at hv
        · rename_i l hl
          cases hok : (P.follows .mixedOrders && okDraw (mkTbl [] (ops.toList.map edges)) l (ops.toList.map edges)) with
          | false => rw [hok] at hv; simp [exec_succ, execQ] at hv
          | true =>
            rw [hok] at hv; simp only [cond_true, exec_succ, execQ] at hv
            simp only [Bool.and_eq_true] at hok
            split at hv
            · rename_i t2 h2 hr
              simp only [Option.some.injEq, Prod.mk.injEq] at hv
              obtain ⟨rfl, rfl, rfl⟩ := hv
              obtain ⟨recs, hs, htr, hck⟩ := draw_trace hr
              obtain ⟨hlen, hops⟩ := compOpers_get (P := P) (N := N) (ops := ops) ops.toList l hl
              have S := Statics.of hok.2 rfl
              have tr := trace_ok _ _ _ _ _ _ _ _ htr
              refine wpIn_region_any hok.1 ?_
              refine draw_any (Q := CodePost P μ N M0 .normal t2 h2 B w0) (μ := μ) (ds := a.defers) S (by rw [hlen]; simp) (fun i o ho => hops i o (by simpa using ho)) (fun i o ho => ?_) tr hck hcm (fun a' w' hp => ⟨rfl, hp.x R hk (runTrace_marks (hcm B).marks _ _ _ _ _ _ _ htr)⟩) ops.size _ a _ ?_ ?_
              · have : ops.toList[i]? = some o := by simpa using ho
                simp [this]
              · refine .inl ⟨⟨by rw [hlen]; simp, ?_, hN, rfl, μ, ts, h, μ.le_refl, ?_, R.drew, r, ?_, fun t _ _ => rfl⟩, fun _ hq => ?_⟩
                · intro i j hi
                  simp only [Array.getD_eq_getD_getElem?, Array.getElem?_replicate] at hi
                  split at hi <;> simp at hi
                · have : (List.range l.length).countP (fun e => isEat l e && (Array.replicate ops.size false).getD e false) = 0 := by
                    apply List.countP_eq_zero.2
                    intro e _
                    simp only [Array.getD_eq_getD_getElem?, Array.getElem?_replicate]
                    split <;> simp
                  rw [this]; rfl
                · intro j o rj t _ _ _ hl'
                  simp only [Array.getD_eq_getD_getElem?, Array.getElem?_replicate] at hl'
                  split at hl' <;> simp at hl'
                · simp only [Array.getD_eq_getD_getElem?, Array.getElem?_replicate] at hq
                  split at hq <;> simp at hq
              · refine Nat.le_trans List.countP_le_length ?_
                rw [List.length_range, hlen]; simp
            · cases hv
        · simp [exec_succ, execQ] at hv
    | seq x y =>
      intro ro l ts ts' h h' e μ M0 a w hv R r hN hro hk
      simp only [compCode, exec_succ, execQ] at hv
      refine wpIn_seq ?_
      split at hv
      · rename_i t2 h2 hx
        refine wpIn_mono (ih N x ro l ts t2 h h2 .normal μ M0 a w hx R r hN hro hk) ?_
        rintro e1 a1 w1 ⟨rfl, p1, μ2, p3, p4, p5, p6⟩
        simp only [concE, Exit.then]
        have := ih N y ro l t2 ts' h2 h' e μ2 M0 a1 w1 hv p4 p5 p1 (hro.mono p3) p6
        refine wpIn_mono this ?_
        rintro e2 a2 w2 ⟨q1, q2⟩
        exact ⟨q1, q2.le p3⟩
      · rename_i hnn
        have hx : exec mm tab m ro (compCode P N x) ts h = some (e, ts', h') := hv
        refine wpIn_mono (ih N x ro l ts ts' h h' e μ M0 a w hx R r hN hro hk) ?_
        rintro e1 a1 w1 ⟨rfl, hp⟩
        cases e with
        | normal => exact (hnn _ _ hx).elim
        | exit id => exact ⟨rfl, hp⟩
        | ret => exact ⟨rfl, hp⟩
    | cond c x y =>
      intro ro l ts ts' h h' e μ M0 a w hv R r hN hro hk
      simp only [compCode] at hv
      split at hv
      · rename_i c' hcc
        simp only [exec_succ, execQ] at hv
        have hr := compOpd_rel r hcc
        split at hv
        · rename_i hb
          rw [hb] at hr
          exact wpIn_cond_true hr.bool (ih N x ro l ts ts' h h' e μ M0 a w hv R r hN hro hk)
        · rename_i hb
          rw [hb] at hr
          exact wpIn_cond_false hr.bool (ih N y ro l ts ts' h h' e μ M0 a w hv R r hN hro hk)
        · cases hv
      · simp [exec_succ, execQ] at hv
    | block id x =>
      intro ro l ts ts' h h' e μ M0 a w hv R r hN hro hk
      simp only [compCode, exec_succ, execQ] at hv
      refine wpIn_block ?_
      split at hv
      · rename_i id' t2 h2 hx
        refine wpIn_mono (ih N x ro l ts t2 h h2 (.exit id') μ M0 a w hx R r hN hro hk) ?_
        rintro e1 a1 w1 ⟨rfl, hp⟩
        simp only [concE, Exit.inBlock]
        rcases beq_cases id' id with ⟨b1, b2⟩ | ⟨b1, b2⟩
        · rw [b1] at hv; simp only [cond_true, Option.some.injEq, Prod.mk.injEq] at hv
          obtain ⟨rfl, rfl, rfl⟩ := hv
          rw [if_pos b2]; exact ⟨rfl, hp⟩
        · rw [b1] at hv; simp only [cond_false, Option.some.injEq, Prod.mk.injEq] at hv
          obtain ⟨rfl, rfl, rfl⟩ := hv
          rw [if_neg b2]; exact ⟨rfl, hp⟩
      · rename_i hnn
        have hx : exec mm tab m ro (compCode P N x) ts h = some (e, ts', h') := hv
        refine wpIn_mono (ih N x ro l ts ts' h h' e μ M0 a w hx R r hN hro hk) ?_
        rintro e1 a1 w1 ⟨rfl, hp⟩
        cases e with
        | normal => exact ⟨rfl, hp⟩
        | exit id' => exact (hnn _ _ _ hx).elim
        | ret => exact ⟨rfl, hp⟩
    | loop x =>
      intro ro l ts ts' h h' e μ M0 a w hv R r hN hro hk
      -- a round after the other
      refine wpIn_loop_fuel (fun k a' w' => k ≤ m + 1 ∧ a'.tmps.size = N ∧ ∃ ts1 h1 μ1, μ.le μ1 ∧ Rel (Cc P) μ1 h1 B w0 w' ∧ TsRel μ1 ts1 a' ∧ Mk μ1 M0 h1 a' ∧ exec mm tab k ro (compCode P N (.loop x)) ts1 h1 = some (e, ts', h')) ?_ (m + 1) a w ⟨Nat.le_refl _, hN, ts, h, μ, μ.le_refl, R, r, hk, hv⟩
      rintro k a1 w1 ⟨hk', hN1, ts1, h1, μ1, hle1, R1, r1, hk1, hv1⟩
      cases k with
      | zero => simp [exec_zero] at hv1
      | succ k =>
        simp only [compCode, exec_succ, execQ] at hv1
        have ihk := ih0 k (by omega) (by omega) N x ro l
        split at hv1
        · rename_i t2 h2 hx
          refine wpIn_mono (ihk _ _ _ _ _ μ1 M0 a1 w1 hx R1 r1 hN1 (hro.mono hle1) hk1) ?_
          rintro e1 a2 w2 ⟨rfl, p1, μ2, p3, p4, p5, p6⟩
          exact ⟨k, by omega, by omega, p1, t2, h2, μ2, hle1.trans p3, p4, p5, p6, hv1⟩
        · rename_i hnn
          refine wpIn_mono (ihk _ _ _ _ _ μ1 M0 a1 w1 hv1 R1 r1 hN1 (hro.mono hle1) hk1) ?_
          rintro e1 a2 w2 ⟨rfl, hp⟩
          cases e with
          | normal => exact (hnn _ _ hv1).elim
          | exit id => exact ⟨rfl, hp.le hle1⟩
          | ret => exact ⟨rfl, hp.le hle1⟩
    | rangeFunc g ps asg body =>
      intro ro l ts ts' h h' e μ M0 a w hv R r hN hro hk
      exact range_sound (hcm B) hv R r hN hro hk
    | _ =>
      intro ro l ts ts' h h' e μ M0 a w hv
      simp [compCode, exec_succ, execQ] at hv

/-! ### calls -/

theorem putArgs_look : ∀ (l : List Value) (ts : T Value) (i t : Nat), look (putArgs ts i l) t = if t < i then look ts t else if t < i + l.length then (l[t - i]?).getD undef else look ts t
  | [], ts, i, t => by simp [putArgs]; intro a b; omega
  | v :: l, ts, i, t => by
    simp only [putArgs]
    rw [putArgs_look l _ (i + 1) t]
    by_cases h1 : t < i
    · rw [if_pos (by omega), if_pos h1]; exact look_put_other _ _ (by omega)
    · rw [if_neg h1]
      by_cases h2 : t = i
      · subst h2
        rw [if_pos (by omega), if_pos (by simp)]; simp [look_put_same]
      · rw [if_neg (by omega)]
        simp only [List.length_cons]
        by_cases h3 : t < i + 1 + l.length
        · rw [if_pos h3, if_pos (by omega)]
          rw [show t - i = (t - (i + 1)) + 1 by omega, List.getElem?_cons_succ]
        · rw [if_neg h3, if_neg (by omega)]; exact look_put_other _ _ h2

theorem results_run {P : Program} {w : World} {tmps : Array Value} : ∀ (rs : List ResultVar) (vs' : List Value), (∀ (i : Nat) (r : ResultVar), rs[i]? = some r → ∃ v', vs'[i]? = some v' ∧ (match r with
      | .tmp t => (pure (tmps.getD t undef) : Sem Value)
      | .cell a t => do loadVar t (← asAddr (tmps.getD a undef))).run P w = .ok v' w) → vs'.length = rs.length →
    (rs.mapM (fun (r : ResultVar) => (match r with
      | .tmp t => (pure (tmps.getD t undef) : Sem Value)
      | .cell a t => do loadVar t (← asAddr (tmps.getD a undef))))).run P w = .ok vs' w
  | [], vs', _, hl => by
    have : vs' = [] := List.eq_nil_of_length_eq_zero hl
    subst this; simp
  | r :: rs, vs', h, hl => by
    cases vs' with
    | nil => simp at hl
    | cons v' vs' =>
      obtain ⟨v'', h1, h2⟩ := h 0 r (by simp)
      simp only [List.getElem?_cons_zero, Option.some.injEq] at h1; subst h1
      have ih := results_run rs vs' (fun i r hi => by
        obtain ⟨x, x1, x2⟩ := h (i + 1) r (by simpa using hi)
        exact ⟨x, by simpa using x1, x2⟩) (by simpa using hl)
      simp only [List.mapM_cons, Sem.run_bind, h2, Result.andThen_ok, ih, Sem.run_pure]

theorem resAll_rel {P : Program} {μ : Map} {h : Heap} {B : Fr} {w0 w : World} {ts : T Value} {a : Act} (R : Rel (Cc P) μ h B w0 w) (r : TsRel μ ts a) : ∀ (rs : List ResultVar) (res : List ARes) (vs : List Value), compRes P rs = some res → resAll ts h res = some vs →
    ∃ vs' : List Value, VsRel μ vs vs' ∧ vs'.length = rs.length ∧ ∀ (i : Nat) (x : ResultVar), rs[i]? = some x → ∃ v', vs'[i]? = some v' ∧ (match x with
      | .tmp t => (pure (a.tmps.getD t undef) : Sem Value)
      | .cell a' t => do loadVar t (← asAddr (a.tmps.getD a' undef))).run P w = .ok v' w
  | [], res, vs, h1, h2 => by
    simp only [compRes, Option.some.injEq] at h1; subst h1
    simp only [resAll, Option.some.injEq] at h2; subst h2
    exact ⟨[], .nil μ, rfl, fun i x hx => by simp at hx⟩
  | x :: rs, res, vs, h1, h2 => by
    simp only [compRes] at h1
    split at h1
    · rename_i y res2 hy hrs
      simp only [Option.some.injEq] at h1; subst h1
      simp only [resAll] at h2
      split at h2
      · rename_i v vs2 hv hvs
        simp only [Option.some.injEq] at h2; subst h2
        obtain ⟨vs', g1, g2, g3⟩ := resAll_rel R r rs res2 vs2 hrs hvs
        have one : ∃ v', VRel μ v v' ∧ (match x with
            | .tmp t => (pure (a.tmps.getD t undef) : Sem Value)
            | .cell a' t => do loadVar t (← asAddr (a.tmps.getD a' undef))).run P w = .ok v' w := by
          cases x with
          | tmp t =>
            simp only [compRes1, Option.some.injEq] at hy; subst hy
            simp only [resA, Option.some.injEq] at hv; subst hv
            exact ⟨_, r t, rfl⟩
          | cell a' t =>
            have hr := r a'
            simp only [compRes1] at hy
            split at hy
            · rename_i q i hq hi
              simp only [Option.some.injEq] at hy; subst hy
              simp only [resA] at hv
              split at hv
              · rename_i b o' hb
                rw [hb] at hr
                obtain ⟨e, he, hX⟩ := hr.ptr_inv
                split at hv
                · rename_i l hl
                  simp only [Option.some.injEq] at hv; subst hv
                  obtain ⟨l', k1, k2, k3⟩ := R.rds hl he
                  have hload := run_loadCells_list (P := P) w ⟨e.blk, e.base + o', none⟩ l' k2
                  rw [k1] at hload
                  refine ⟨.agg l'.toArray, .agg _ _ (by simpa using k3.1) (by simpa using k3.2), ?_⟩
                  simp [hX, asAddr, loadVar, isAgg_true (.inl ⟨q, hq⟩), sizeOf, typeInfo, hi, hload]
                · cases hv
              · cases hv
            · rename_i q q' i hq hi
              simp only [Option.some.injEq] at hy; subst hy
              simp only [resA] at hv
              split at hv
              · rename_i b o' hb
                rw [hb] at hr
                obtain ⟨e, he, hX⟩ := hr.ptr_inv
                split at hv
                · rename_i l hl
                  simp only [Option.some.injEq] at hv; subst hv
                  obtain ⟨l', k1, k2, k3⟩ := R.rds hl he
                  have hload := run_loadCells_list (P := P) w ⟨e.blk, e.base + o', none⟩ l' k2
                  rw [k1] at hload
                  refine ⟨.agg l'.toArray, .agg _ _ (by simpa using k3.1) (by simpa using k3.2), ?_⟩
                  simp [hX, asAddr, loadVar, isAgg_true (.inr ⟨q, q', hq⟩), sizeOf, typeInfo, hi, hload]
                · cases hv
              · cases hv
            · rename_i d i hn1 hn2 hd hi
              simp only [Option.some.injEq] at hy; subst hy
              simp only [resA] at hv
              split at hv
              · rename_i b o' hb
                rw [hb] at hr
                obtain ⟨e, he, hX⟩ := hr.ptr_inv
                obtain ⟨v', k1, k2⟩ := R.rd hv he
                have hd1 : ∀ q, d ≠ .struct q := fun q hq => hn1 q (by rw [← hq])
                have hd2 : ∀ q q', d ≠ .array q q' := fun q q' hq => hn2 q q' (by rw [← hq])
                refine ⟨v', k2, ?_⟩
                have ha : (isAgg t).run P w = .ok false w := by
                  unfold isAgg
                  cases d <;> first | (exact absurd rfl (hd1 _)) | (exact absurd rfl (hd2 _ _)) | simp [run_underlying hd]
                simp [hX, asAddr, loadVar, ha, k1]
              · cases hv
            · cases hy
        obtain ⟨v', o1, o2⟩ := one
        refine ⟨v' :: vs', .cons o1 g1, by simp [g2], fun i z hz => ?_⟩
        cases i with
        | zero => simp only [List.getElem?_cons_zero, Option.some.injEq] at hz; subst hz; exact ⟨v', by simp, o2⟩
        | succ i => obtain ⟨q, q1, q2⟩ := g3 i z (by simpa using hz); exact ⟨q, by simpa using q1, q2⟩
      · cases h2
    · cases h1

theorem mkRes_rel {μ : Map} {vs vs' : List Value} (h : VsRel μ vs vs') : VRel μ (mkRes vs) (mkRes vs') := by
  match vs, vs', h with
  | [v], [v'], h => exact h.2 0 v v' rfl rfl
  | [], [], h => exact .tuple _ _ (by simp) (fun i v v' a _ => by simp at a)
  | v :: u :: r, v' :: u' :: r', h => exact .tuple _ _ (by simpa using h.1) (by simpa using h.2)
  | [], _ :: _, h => simp [VsRel] at h
  | _ :: _, [], h => simp [VsRel] at h
  | [_], _ :: _ :: _, h => simp [VsRel] at h
  | _ :: _ :: _, [_], h => simp [VsRel] at h

theorem mkRes_eq (vs : List Value) : (if h : vs.toArray.size = 1 then vs.toArray[0] else Value.tuple vs.toArray) = mkRes vs := by
  match vs with
  | [v] => rfl
  | [] => rfl
  | v :: u :: r =>
    rw [dif_neg (by simp)]; rfl

theorem resA_marks {ts : T Value} {h : Heap} {M : List Nat} (x : ARes) : resA ts { h with marks := M } x = resA ts h x := by cases x <;> rfl

theorem resAll_marks {ts : T Value} {h : Heap} {M : List Nat} : ∀ (l : List ARes), resAll ts { h with marks := M } l = resAll ts h l
  | [] => rfl
  | x :: l => by simp only [resAll, resA_marks, resAll_marks l]

theorem putPs_size : ∀ (ps : List Nat) (vs' : List Value) (tmps : Array Value), ((ps.zip vs').foldl (fun (t : Array Value) (x : Tmp × Value) => t.setIfInBounds x.1 x.2) tmps).size = tmps.size
  | [], _, _ => rfl
  | _ :: _, [], _ => rfl
  | p :: ps, v :: vs', tmps => by simp only [List.zip_cons_cons, List.foldl_cons]; rw [putPs_size ps vs']; simp

theorem putPs_rel {μ : Map} : ∀ (ps : List Nat) (vs vs' : List Value) (ts : T Value) (tmps : Array Value), VsRel μ vs vs' → vs.length = ps.length → ps.all (Nat.blt · tmps.size) = true → TsRel μ ts { tmps := tmps, defers := [] } →
    TsRel μ (putPs ts ps vs) { tmps := (ps.zip vs').foldl (fun (t : Array Value) (x : Tmp × Value) => t.setIfInBounds x.1 x.2) tmps, defers := [] }
  | [], vs, vs', ts, tmps, _, hl, _, r => by
    have : vs = [] := List.eq_nil_of_length_eq_zero hl
    subst this
    simpa [putPs] using r
  | p :: ps, [], _, _, _, _, hl, _, _ => by simp at hl
  | p :: ps, v :: vs, [], _, _, hv, _, _, _ => by simp [VsRel] at hv
  | p :: ps, v :: vs, v' :: vs', ts, tmps, hv, hl, hp, r => by
    simp only [List.all_cons, Bool.and_eq_true] at hp
    have hd : dstOk tmps.size (some p) = true := hp.1
    have h0 := tsrel_put (a := { tmps := tmps, defers := [] }) r (hv.2 0 v v' rfl rfl) hd
    have := putPs_rel ps vs vs' (putA ts (some p) v) (tmps.setIfInBounds p v') ⟨by simpa using hv.1, fun i x x' a b => hv.2 (i + 1) x x' (by simpa using a) (by simpa using b)⟩ (by simpa using hl) (by simpa using hp.2) h0
    simpa only [List.zip_cons_cons, List.foldl_cons, putPs, putA] using this

/-- what is known of a call -/
structure Fact (P : Program) (f : Nat) (args : List Value) (h : Heap) (v : Value) (h' : Heap) : Prop where
  ok : FnOk P f
  marks : h'.marks = h.marks
  calls : ∀ B w0 μ w args', Rel (Cc P) μ h B w0 w → VsRel μ args args' → Calls P f args'.toArray w (CallPost P μ h' B w0 v)

def MemoOk (P : Program) (mm : Memo) : Prop := ∀ f args h v h', mm f args h = some (v, h') → Fact P f args h v h'

theorem fn_sound {P : Program} {mm : Memo} {tab : Nat → Option AFunc} {B : Fr} {w0 : World} (hT : TabOk P tab) (hM : MemoOk P mm) (m : Nat) (ih : ∀ k, k < m → ∀ B, CallsOk P (callF mm tab (exec mm tab k)) B w0) (f : Nat) (args : List Value) (h : Heap) (v : Value) (h' : Heap)
    (hv : callF mm tab (exec mm tab m) (.fn f) args h = some (v, h')) : FnOk P f ∧ ∀ μ w args', Rel (Cc P) μ h B w0 w → VsRel μ args args' → Calls P f args'.toArray w (CallPost P μ h' B w0 v) := by
  unfold callF at hv
  simp only at hv
  split at hv
  · rename_i r hr
    simp only [Option.some.injEq] at hv
    have := hM f args h v h' (by rw [← hv]; exact hr)
    exact ⟨this.ok, this.calls B w0⟩
  split at hv
  · cases hv
  · rename_i af haf
    have ht := hT f af haf
    unfold tabOf at ht
    split at ht
    · rename_i fn hfn
      have hfn' : P.funcs[f]? = some fn := by simpa using hfn
      unfold compFunc at ht
      split at ht
      · rename_i c res hbody hres
        cases hname : fn.name == "runtime.NumGoroutine" with
        | true => rw [hname] at ht; cases ht
        | false =>
          rw [hname] at ht; simp only [cond_false, Option.some.injEq] at ht
          subst ht
          have hok : FnOk P f := ⟨fn, hfn', by simpa using hname, by simp [hbody]⟩
          refine ⟨hok, fun μ w args' R hargs => ?_⟩
          cases hle : Nat.ble args.length fn.ntmps with
          | false => simp only [hle] at hv; cases hv
          | true =>
            simp only [hle, cond_true] at hv
            have hle := ble_true hle
            have hsz : (args'.toArray ++ Array.replicate (fn.ntmps - args'.toArray.size) undef).size = fn.ntmps := by
              have := hargs.1
              simp; omega
            have r0 : TsRel μ (putArgs .nil 0 args) { tmps := args'.toArray ++ Array.replicate (fn.ntmps - args'.toArray.size) undef, defers := [] } := by
              intro t
              rw [putArgs_look]
              simp only [Nat.not_lt_zero, if_false, Nat.zero_add, Nat.sub_zero, Array.getD_eq_getD_getElem?]
              by_cases hlt : t < args.length
              · rw [if_pos hlt, List.getElem?_eq_getElem hlt]
                have hlt' : t < args'.length := by rw [← hargs.1]; exact hlt
                rw [Array.getElem?_append_left (by simpa using hlt')]
                simp only [List.getElem?_toArray, List.getElem?_eq_getElem hlt', Option.getD_some]
                exact hargs.2 t _ _ (List.getElem?_eq_getElem hlt) (List.getElem?_eq_getElem hlt')
              · rw [if_neg hlt]
                rw [Array.getElem?_append_right (by have := hargs.1; simp; omega), Array.getElem?_replicate]
                have : look T.nil t = undef := rfl
                rw [this]
                split <;> exact undef_rel μ
            split at hv
            · cases hv
            · rename_i e ts' h2 hnx hex
              split at hv
              · rename_i vs hvs
                simp only [Option.some.injEq, Prod.mk.injEq] at hv
                obtain ⟨rfl, rfl⟩ := hv
                have hwp := exec_sound (P := P) (B := B) (w0 := w0) m (fun k hk => ih k hk) m (Nat.le_refl _) fn.ntmps c none none _ ts' h h2 e μ h.marks _ w hex R r0 hsz trivial ⟨[], rfl, rfl⟩
                refine calls_FW (ro := none) (n := 0) (callsIn_of_wp_marks hfn' hbody trivial (wpIn_mono hwp ?_))
                rintro x a' w' ⟨rfl, p1, μ2, p3, p4, p5, new, m1, m2⟩
                have fin : LeavesInM (FW none) 0 P fn a'.tmps (CallPost P μ { h2 with marks := h.marks } B w0 (mkRes vs)) a'.defers .returning w' := by
                  rw [m2]
                  refine leaves_marks new h2 w' m1 p4 (fun w3 R3 => ?_)
                  have hvs3 : resAll ts' { h2 with marks := h.marks } res = some vs := by
                    rw [← hvs]; exact (resAll_marks res)
                  obtain ⟨vs', g1, g2, g3⟩ := resAll_rel R3 p5 fn.results.toList res vs hres hvs3
                  have hrun := results_run fn.results.toList vs' g3 g2
                  refine ⟨mkRes vs', ?_, μ2, mkRes vs', rfl, p3, R3, mkRes_rel g1⟩
                  unfold results
                  rw [Array.mapM_eq_mapM_toList]
                  simp only [Sem.run_bind, Sem.run_map]
                  erw [hrun]
                  simp only [Result.andThen_ok, Sem.run_pure]
                  rw [mkRes_eq]
                cases e with
                | normal => exact fin
                | ret => exact fin
                | exit id => exact (hnx id rfl).elim
              · cases hv
            · cases hv
      · cases ht
    · cases ht

theorem beginR_sound {C : CRel} {P : Program} {μ : Map} {h h' : Heap} {B : Fr} {w0 w : World} (R : Rel C μ h B w0 w) {b : Nat} {E : Ent} (he : μ b = some E) (hv : beginR b h = some h') :
    ∃ w', (Instr.beginRound E.blk).run P w = .ok () w' ∧ Rel C μ h' B w0 w' ∧ h'.marks = h.marks := by
  unfold beginR at hv
  split at hv
  · rename_i k hk
    obtain ⟨e', he', old, r, h1, h2, h3, h4⟩ := R.aux.loop b k hk
    rw [he] at he'; cases he'
    rcases beq_cases k.st 0 with ⟨b1, b2⟩ | ⟨b1, b2⟩
    · rw [b1] at hv; simp only [cond_true, Option.some.injEq] at hv; subst hv
      exact ⟨_, run_beginRound h1 (by rw [h2, b2]; rfl), R.setSt hk he h1 (st := 1) (pend := k.pend) (S := .busy) (Pn := r.pending) rfl h3 (List.Sublist.refl _), rfl⟩
    · rw [b1] at hv; cases hv
  · cases hv

theorem endR_sound {C : CRel} {P : Program} {μ : Map} {h h' : Heap} {B : Fr} {w0 w : World} (R : Rel C μ h B w0 w) {b : Nat} {E : Ent} (he : μ b = some E) {e : AExit} {M : List Nat} (hM : M.Sublist h.marks) {v : Value} (hv : endR e b M h = some (v, h')) :
    ∃ w', (Instr.endRound E.blk (bif isN e then none else some (codeX e))).run P w = .ok v w' ∧ Rel C μ h' B w0 w' ∧ VRel μ v v := by
  unfold endR at hv
  split at hv
  · rename_i k hk
    obtain ⟨e', he', old, r, h1, h2, h3, h4⟩ := R.aux.loop b k hk
    rw [he] at he'; cases he'
    simp only [Option.some.injEq, Prod.mk.injEq] at hv
    obtain ⟨rfl, rfl⟩ := hv
    have hrun := run_endRound (P := P) (bif isN e then none else some (codeX e)) h1
    have R' := R.setSt hk he h1 (st := bif isN e then 0 else 2) (pend := bif isN e then none else some e) (S := if (bif isN e then none else some (codeX e) : Option Code).isNone then .ready else .done) (Pn := bif isN e then none else some (codeX e)) (by cases e <;> rfl) (by cases e <;> rfl) hM
    refine ⟨_, ?_, R', .same _ rfl⟩
    rw [hrun]
    cases e <;> rfl
  · cases hv

theorem yield_sound {P : Program} {mm : Memo} {tab : Nat → Option AFunc} {B : Fr} {w0 : World} (m : Nat) (ih : ∀ k, k < m → ∀ B, CallsOk P (callF mm tab (exec mm tab k)) B w0) (b : Nat) (args : List Value) (h : Heap) (v : Value) (h' : Heap)
    (hv : callF mm tab (exec mm tab m) (.yield b) args h = some (v, h')) (μ : Map) (w : World) (args' : List Value) (E : Ent) (R : Rel (Cc P) μ h B w0 w) (hargs : VsRel μ args args') (hE : μ b = some E) :
    ∃ f tmps asg body, (Instr.yield E.blk args'.toArray).run P w = .ok (.round E.blk f tmps asg body) w ∧ RoundIn Fence.wide 0 P E.blk f tmps asg body w (CallPost P μ h' B w0 v) := by
  unfold callF at hv
  simp only at hv
  split at hv
  · cases hv
  · rename_i k hk
    obtain ⟨e', he', old, r, h1, h2, h3, h4, h5, h6, h7, h8⟩ := R.aux.loop b k hk
    rw [hE] at he'; cases he'
    cases hc : (Nat.beq args.length k.ps.length && k.ps.all (Nat.blt · k.n)) with
    | false => rw [hc] at hv; cases hv
    | true =>
      rw [hc] at hv; simp only [cond_true] at hv
      simp only [Bool.and_eq_true] at hc
      have hlen : args.length = k.ps.length := Nat.eq_of_beq_eq_true hc.1
      have hsz : args'.toArray.size = r.params.size := by
        rw [← Array.length_toList (xs := r.params), h4, ← hlen, hargs.1]; simp
      refine ⟨r.fn, _, r.assign, r.body, run_yield h1 hsz, ?_⟩
      have hfold : (r.params.zip args'.toArray).foldl (fun (tmps : Array Value) (x : Tmp × Value) => tmps.setIfInBounds x.1 x.2) r.tmps = (k.ps.zip args').foldl (fun (t : Array Value) (x : Tmp × Value) => t.setIfInBounds x.1 x.2) r.tmps := by
        rw [← Array.foldl_toList, Array.toList_zip, h4]
      rw [hfold]
      split at hv
      · rename_i ts1 h1' hasg
        split at hv
        · rename_i h2' hbeg
          split at hv
          · rename_i e ts2 h3' hbody
            rw [← h7] at hasg
            rw [← h8] at hbody
            have r0 := putPs_rel k.ps args args' k.ts r.tmps hargs hlen (by rw [h5]; exact hc.2) h6
            have hwp := exec_sound (P := P) (B := B) (w0 := w0) m (fun k hk => ih k hk) m (Nat.le_refl _) k.n r.assign (some b) (some E.blk) _ ts1 h h1' .normal μ h.marks _ w hasg R r0 (by rw [putPs_size]; exact h5) ⟨E, hE, rfl⟩ ⟨[], rfl, rfl⟩
            refine roundIn_of_wpIn (F := FW none) trivial (wpIn_mono hwp ?_)
            rintro x a1 w1 ⟨rfl, p1, μ1, p3, p4, p5, p6⟩
            obtain ⟨w2, q1, q2, q3⟩ := beginR_sound (P := P) p4 (p3 _ _ hE) hbeg
            refine ⟨w2, q1, ?_⟩
            have hk1 : Mk μ1 h.marks h2' a1 := p6.step p4 μ1.le_refl q3 rfl
            have hwp2 := exec_sound (P := P) (B := B) (w0 := w0) m (fun k hk => ih k hk) m (Nat.le_refl _) k.n r.body (some b) (some E.blk) _ ts2 h2' h3' e μ1 h.marks a1 w2 hbody q2 p5 p1 ⟨E, p3 _ _ hE, rfl⟩ hk1
            refine wpIn_mono hwp2 ?_
            rintro x a2 w3 ⟨rfl, s1, μ2, s3, s4, s5, new, s6, s7⟩
            have hsub : h.marks.Sublist h3'.marks := by rw [s6]; exact List.sublist_append_right _ _
            obtain ⟨w4, u1, u2, u3⟩ := endR_sound (P := P) s4 (s3 _ _ (p3 _ _ hE)) hsub hv
            cases e with
            | normal => exact ⟨v, w4, u1, μ2, v, rfl, p3.trans s3, u2, u3⟩
            | ret => exact ⟨v, w4, u1, μ2, v, rfl, p3.trans s3, u2, u3⟩
            | exit id => exact ⟨v, w4, u1, μ2, v, rfl, p3.trans s3, u2, u3⟩
          · cases hv
        · cases hv
      · cases hv

theorem calls_all {P : Program} {mm : Memo} {tab : Nat → Option AFunc} {w0 : World} (hT : TabOk P tab) (hM : MemoOk P mm) : ∀ m B, CallsOk P (callF mm tab (exec mm tab m)) B w0 := by
  intro m
  induction m using Nat.strongRecOn with
  | _ m ih => exact fun B => ⟨fun f args h v h' hv => fn_sound hT hM m ih f args h v h' hv, fun b args h v h' hv μ w args' e R ha he => yield_sound m ih b args h v h' hv μ w args' e R ha he, callF_marks (fun f args h v h' hq => (hM f args h v h' hq).marks) _ _⟩

theorem calls_sound {P : Program} {mm : Memo} {tab : Nat → Option AFunc} {B : Fr} {w0 : World} (hT : TabOk P tab) (hM : MemoOk P mm) (m : Nat) : CallsOk P (callF mm tab (exec mm tab m)) B w0 := calls_all hT hM m B

/-- a call that was run is known -/
theorem fact_of {P : Program} {mm : Memo} {tab : Nat → Option AFunc} (hT : TabOk P tab) (hM : MemoOk P mm) {m f : Nat} {args : List Value} {h : Heap} {v : Value} {h' : Heap} (hv : callF mm tab (exec mm tab m) (.fn f) args h = some (v, h')) : Fact P f args h v h' :=
  ⟨((calls_sound (B := ⟨0, fun _ => none⟩) (w0 := default) hT hM m).fn f args h v h' hv).1, (calls_sound (B := ⟨0, fun _ => none⟩) (w0 := default) hT hM m).marks _ _ _ _ _ hv,
    fun B w0 μ w args' R ha => ((calls_sound (B := B) (w0 := w0) hT hM m).fn f args h v h' hv).2 μ w args' R ha⟩

theorem memo0 (P : Program) : MemoOk P (fun _ _ _ => none) := fun _ _ _ _ _ h => by cases h

/-! ### a run with nothing given -/

def okTrue : Option (Value × Heap) → Bool
  | some (.bool true, _) => true
  | _ => false

def heap0 : Heap := ⟨.nil, 0, .nil, []⟩

theorem rel0 {C : CRel} (w : World) : Rel C (fun _ => none) heap0 ⟨w.heap.size, fun _ => none⟩ w w :=
  { below := Below.refl _ _, size := Nat.le_refl _, zk := fun i o h => (by cases h), fresh := fun b e h => by simp at h, blk := fun b k h => by simp [heap0, T.get_nil] at h, apart := fun b b' k k' e e' h => by simp [heap0, T.get_nil] at h, aux := ⟨fun b k h => by simp [heap0, T.get_nil] at h, fun b b' k k' e e' h => by simp [heap0, T.get_nil] at h, fun m h => by simp [heap0] at h, List.Pairwise.nil⟩ }

theorem closed_run {P : Program} {tab : Nat → Option AFunc} (hT : TabOk P tab) {n f : Nat} (h : okTrue (call tab n f [] heap0) = true) (w : World) :
    Calls P f #[] w fun e w' => e = .returned (.bool true) ∧ Below w.heap.size w w' := by
  unfold okTrue at h
  split at h
  · rename_i h' hc
    have := ((calls_sound (B := ⟨w.heap.size, fun _ => none⟩) (w0 := w) hT (memo0 P) n).fn f [] heap0 _ h' hc).2 _ w [] (rel0 w) (.nil _)
    refine this.mono ?_
    rintro e w' ⟨μ', v', rfl, _, R, hv⟩
    exact ⟨by rw [hv.bool], R.below⟩
  · cases h

end
end Go.Proofs.Ytedldiimhbebdaa.Ai
