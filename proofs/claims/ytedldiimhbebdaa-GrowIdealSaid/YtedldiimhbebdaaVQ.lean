/- The tree that grow makes, whatever others make between: in plain lists and numbers. -/
import Derived.Test.YtedldiimhbebdaaVL
import Derived.Test.YtedldiimhbebdaaGX
namespace Go.Proofs.Ytedldiimhbebdaa.Ai
open Go.Proofs.Ytedldiimhbebdaa
noncomputable section
set_option linter.unusedVariables false

theorem ok_congr {C C' : List Int} (hl : C.length ≤ C'.length) : ∀ t : Tr, (∀ a ∈ t.adrs, at0 C' a = at0 C a) → t.ok C → t.ok C' := by
  intro t
  induction t using Tr.ind with
  | e a => exact fun _ h => ⟨h.1, by have := h.2; omega⟩
  | l a k v => exact fun e h => ⟨h.1, by have := h.2.1; omega, by rw [e a (by simp [Tr.adrs])]; exact h.2.2.1, by rw [e (a + 1) (by simp [Tr.adrs])]; exact h.2.2.2⟩
  | i a sz sh ch sm ks cs ih =>
    intro e h
    have e' : ∀ b, b ∈ List.range' a (2 * cs.length + 4) ++ adrss cs → at0 C' b = at0 C b := e
    obtain ⟨⟨q1, q2, q3, q4⟩, ⟨p0, p1, p2, p3, p4⟩, hsh, hsz, hks, hcs, hoks⟩ := h
    have er : ∀ b, a ≤ b → b < a + (2 * cs.length + 4) → at0 C' b = at0 C b := fun b h1 h2 => e' b (by simp [List.mem_range'_1]; omega)
    refine ⟨⟨q1, by omega, q3, q4⟩, ⟨by rw [er _ (by omega) (by omega)]; exact p0, by rw [er _ (by omega) (by omega)]; exact p1, by rw [er _ (by omega) (by omega)]; exact p2, by rw [er _ (by omega) (by omega)]; exact p3, by rw [er _ (by omega) (by omega)]; exact p4⟩, hsh, hsz, fun i hi => by rw [er _ (by omega) (by omega)]; exact hks i hi, fun i hi => by rw [er _ (by omega) (by omega)]; exact hcs i hi, ?_⟩
    have key : ∀ cs' : List Tr, (∀ c ∈ cs', c ∈ cs) → (∀ b ∈ adrss cs', at0 C' b = at0 C b) → oks C cs' → oks C' cs' := by
      intro cs'
      induction cs' with
      | nil => intro _ _ _; trivial
      | cons c cs' ihc =>
        intro hm hb ho
        exact ⟨ih c (hm c (by simp)) (fun b hb' => hb b (by simp [adrss, hb'])) ho.1, ihc (fun x hx => hm x (List.mem_cons_of_mem _ hx)) (fun b hb' => hb b (by simp [adrss, hb'])) ho.2⟩
    exact key cs (fun _ h => h) (fun b hb => e' b (by simp [hb])) hoks
theorem oks_congr {C C' : List Int} (hl : C.length ≤ C'.length) : ∀ cs : List Tr, (∀ a ∈ adrss cs, at0 C' a = at0 C a) → oks C cs → oks C' cs
  | [], _, _ => trivial
  | c :: cs, e, h => ⟨ok_congr hl c (fun a ha => e a (by simp [adrss, ha])) h.1, oks_congr hl cs (fun a ha => e a (by simp [adrss, ha])) h.2⟩

theorem at0_app {C X : List Int} {a : Nat} (h1 : 1 ≤ a) (h2 : a ≤ C.length) : at0 (C ++ X) a = at0 C a := by
  unfold at0
  rw [if_neg (by omega), if_neg (by omega), List.getElem?_append_left (by omega)]

def fitL : List Tr → List (List Pr) → Prop
  | [], [] => True
  | t :: ts, l :: ls => t.fits l ∧ fitL ts ls
  | _, _ => False
theorem fitL_len : ∀ {ts : List Tr} {ls : List (List Pr)}, fitL ts ls → ts.length = ls.length
  | [], [], _ => rfl
  | t :: ts, l :: ls, h => by simp [fitL_len h.2]
theorem fitL_app : ∀ {ts : List Tr} {ls : List (List Pr)} {t : Tr} {l : List Pr}, fitL ts ls → t.fits l → fitL (ts ++ [t]) (ls ++ [l])
  | [], [], t, l, _, h => ⟨h, trivial⟩
  | s :: ts, k :: ls, t, l, h, h2 => ⟨h.1, fitL_app h.2 h2⟩
theorem fitL_take : ∀ {ts : List Tr} {ls : List (List Pr)} (n : Nat), fitL ts ls → fitL (ts.take n) (ls.take n)
  | _, _, 0, _ => by simp [fitL]
  | [], [], n + 1, _ => trivial
  | t :: ts, l :: ls, n + 1, h => ⟨h.1, fitL_take n h.2⟩
theorem fitL_drop : ∀ {ts : List Tr} {ls : List (List Pr)} (n : Nat), fitL ts ls → fitL (ts.drop n) (ls.drop n)
  | _, _, 0, h => h
  | [], [], n + 1, _ => trivial
  | t :: ts, l :: ls, n + 1, h => fitL_drop n h.2
theorem fitss_of : ∀ {ts : List Tr} {ls : List (List Pr)} {l : List Pr} {i n : Nat}, fitL ts ls → ls = (List.range' i n).map (partL l) → fitss ts l i
  | [], _, l, i, n, _, _ => trivial
  | t :: ts, [], l, i, n, h, _ => h.elim
  | t :: ts, k :: ls, l, i, 0, h, e => by simp at e
  | t :: ts, k :: ls, l, i, n + 1, h, e => by
    rw [List.range'_succ, List.map_cons, List.cons.injEq] at e
    exact ⟨e.1 ▸ h.1, fitss_of h.2 e.2⟩

/-- the words' trees: each lies there, apart from the others -/
structure GTree (C : List Int) (Ts : List Tr) (SL : List (List Pr)) : Prop where
  fits : fitL Ts SL
  ok : oks C Ts
  adr : ∀ i ∈ adrss Ts, 8 ≤ i ∧ i ≤ C.length
  nodup : (adrss Ts).Nodup
  len : 7 ≤ C.length

theorem GTree.pad {C : List Int} {Ts : List Tr} {SL : List (List Pr)} (g : GTree C Ts SL) (X : List Int) : GTree (C ++ X) Ts SL :=
  ⟨g.fits, oks_congr (by simp) Ts (fun a ha => at0_app (by have := g.adr a ha; omega) (g.adr a ha).2) g.ok, fun i hi => by have := g.adr i hi; rw [List.length_append]; omega, g.nodup, by rw [List.length_append]; have := g.len; omega⟩

def mkT (a : Nat) (l : List Pr) (cs : List Tr) : Tr := match l with
  | [] => .empty a
  | [p] => .leaf a p.1 p.2
  | l => .inner a (l.length : Nat) 0 0 0 (keysF l (degN l.length)) cs
theorem mkT_two {a : Nat} {l : List Pr} {cs : List Tr} (h : 2 ≤ l.length) : mkT a l cs = .inner a (l.length : Nat) 0 0 0 (keysF l (degN l.length)) cs := by
  match l, h with
  | p :: q :: l, _ => rfl

theorem oks_take {C : List Int} : ∀ {cs : List Tr} (n : Nat), oks C cs → oks C (cs.take n)
  | _, 0, _ => by simp [oks]
  | [], n + 1, _ => trivial
  | c :: cs, n + 1, h => ⟨h.1, oks_take n h.2⟩
theorem oks_drop {C : List Int} : ∀ {cs : List Tr} (n : Nat), oks C cs → oks C (cs.drop n)
  | _, 0, h => h
  | [], n + 1, _ => trivial
  | c :: cs, n + 1, h => oks_drop n h.2

theorem GTree.step {C : List Int} {Ts : List Tr} {SL : List (List Pr)} (g : GTree C Ts SL) {l : List Pr} (hl : l.length ≤ 120) (hk : kidsOf l ≤ SL.length) (hv : SL.drop (SL.length - kidsOf l) = (List.range (kidsOf l)).map (partL l)) :
    ∃ t, GTree (gstep (C, Ts.map Tr.word) l).1 (Ts.take (SL.length - kidsOf l) ++ [t]) (SL.take (SL.length - kidsOf l) ++ [l]) ∧ (gstep (C, Ts.map Tr.word) l).2 = (Ts.take (SL.length - kidsOf l) ++ [t]).map Tr.word := by
  have hlen := fitL_len g.fits
  have hwl : (Ts.map Tr.word).length = SL.length := by simp [hlen]
  generalize hn : SL.length - kidsOf l = n at hv
  have hsplit : adrss Ts = adrss (Ts.take n) ++ adrss (Ts.drop n) := by rw [← adrss_app, List.take_append_drop]
  have hnd := g.nodup
  rw [hsplit, List.nodup_append] at hnd
  obtain ⟨nd1, nd2, nd3⟩ := hnd
  have ad1 : ∀ i ∈ adrss (Ts.take n), 8 ≤ i ∧ i ≤ C.length := fun i hi => g.adr i (by rw [hsplit]; simp [hi])
  have ad2 : ∀ i ∈ adrss (Ts.drop n), 8 ≤ i ∧ i ≤ C.length := fun i hi => g.adr i (by rw [hsplit]; simp [hi])
  have fd := fitL_drop n g.fits
  have hdl : (Ts.drop n).length = kidsOf l := by rw [List.length_drop]; omega
  have hch : (Ts.map Tr.word).drop n = (Ts.drop n).map Tr.word := by rw [List.map_drop]
  have L7 := g.len
  have hg1 : (gstep (C, Ts.map Tr.word) l).1 = C ++ recOf l ((Ts.drop n).map Tr.word) := by
    show C ++ recOf l ((Ts.map Tr.word).drop ((Ts.map Tr.word).length - kidsOf l)) = _
    rw [hwl, hn, hch]
  have hg2 : (gstep (C, Ts.map Tr.word) l).2 = (Ts.take n).map Tr.word ++ [((C.length : Int) + 1) * 8 + kindOf l] := by
    show (Ts.map Tr.word).take ((Ts.map Tr.word).length - kidsOf l) ++ _ = _
    rw [hwl, hn, List.map_take]
  refine ⟨mkT (C.length + 1) l (Ts.drop n), ?_, ?_⟩
  rotate_left
  · rw [hg2, List.map_append]
    congr 1
    by_cases h2 : 2 ≤ l.length
    · rw [mkT_two h2, kindOf_two h2]
      simp [Tr.word, Tr.adr, Tr.kind]
    · match l, h2 with
      | [], _ => simp [mkT, Tr.word, Tr.adr, Tr.kind, kindOf]
      | [p], _ => simp [mkT, Tr.word, Tr.adr, Tr.kind, kindOf]
      | _ :: _ :: _, h2 => simp at h2
  rw [hg1]
  have okp : oks (C ++ recOf l ((Ts.drop n).map Tr.word)) (Ts.take n) := oks_congr (by simp) _ (fun a ha => at0_app (by have := ad1 a ha; omega) (ad1 a ha).2) (oks_take n g.ok)
  have okd : oks (C ++ recOf l ((Ts.drop n).map Tr.word)) (Ts.drop n) := oks_congr (by simp) _ (fun a ha => at0_app (by have := ad2 a ha; omega) (ad2 a ha).2) (oks_drop n g.ok)
  have at1 : ∀ (R : List Int) (j : Nat) (v : Int), R[j]? = some v → at0 (C ++ R) (C.length + 1 + j) = v := by
    intro R j v h
    unfold at0
    rw [if_neg (by omega), show C.length + 1 + j - 1 = C.length + j by omega, List.getElem?_append_right (by omega), show C.length + j - C.length = j by omega, h]; rfl
  have main : (mkT (C.length + 1) l (Ts.drop n)).fits l ∧ (mkT (C.length + 1) l (Ts.drop n)).ok (C ++ recOf l ((Ts.drop n).map Tr.word)) ∧ (∀ i ∈ (mkT (C.length + 1) l (Ts.drop n)).adrs, i ∈ adrss (Ts.drop n) ∨ (C.length + 1 ≤ i ∧ i ≤ (C ++ recOf l ((Ts.drop n).map Tr.word)).length)) ∧ (mkT (C.length + 1) l (Ts.drop n)).adrs.Nodup := by
    by_cases h2 : 2 ≤ l.length
    · have pn := partN h2 hl
      have d2 := pn.deg2
      rw [kidsOf_two h2] at hdl hv hk
      have kl := keysF_len l (degN l.length)
      rw [mkT_two h2, recOf_two h2] at *
      have wl : ((Ts.drop n).map Tr.word).length = degN l.length := by rw [List.length_map]; exact hdl
      have rl : ([(degN l.length : Int), (l.length : Int), 0, 0, 0] ++ keysF l (degN l.length) ++ (Ts.drop n).map Tr.word).length = 2 * degN l.length + 4 := by
        rw [List.length_append, List.length_append, kl, wl]; simp; omega
      generalize hcs : Ts.drop n = cs at *
      have ha : ∀ (j : Nat) (v : Int), ([(degN l.length : Int), (l.length : Int), 0, 0, 0] ++ keysF l (degN l.length) ++ cs.map Tr.word)[j]? = some v → at0 (C ++ ([(degN l.length : Int), (l.length : Int), 0, 0, 0] ++ keysF l (degN l.length) ++ cs.map Tr.word)) (C.length + 1 + j) = v := at1 _
      refine ⟨⟨⟨h2, hl⟩, ⟨rfl, rfl, rfl, rfl⟩, rfl, hdl, fitss_of fd (by rw [hv, List.range_eq_range'])⟩, ⟨⟨by omega, by rw [List.length_append, rl]; omega, by omega, by omega⟩, ⟨by rw [hdl]; exact ha 0 _ rfl, ha 1 _ rfl, ha 2 _ rfl, ha 3 _ rfl, ha 4 _ rfl⟩, .inl rfl, ⟨by omega, by omega⟩, ?_, ?_, okd⟩, ?_, ?_⟩
      · intro i hi
        rw [show C.length + 1 + 5 + i = C.length + 1 + (5 + i) by omega]
        refine ha (5 + i) _ ?_
        rw [List.append_assoc, List.getElem?_append_right (by simp), List.getElem?_append_left (by simp; omega)]
        have e : 5 + i - [(degN l.length : Int), (l.length : Int), 0, 0, 0].length = i := by simp
        rw [e, List.getElem?_eq_getElem hi]
      · intro i hi
        rw [show C.length + 1 + 4 + cs.length + i = C.length + 1 + (4 + cs.length + i) by omega]
        refine ha (4 + cs.length + i) _ ?_
        have hln : ([(degN l.length : Int), (l.length : Int), 0, 0, 0] ++ keysF l (degN l.length)).length = 4 + cs.length := by simp [kl]; omega
        rw [List.getElem?_append_right (by omega), hln, show 4 + cs.length + i - (4 + cs.length) = i by omega, List.getElem?_map, List.getElem?_eq_getElem hi]
        rfl
      · intro i hi
        simp only [Tr.adrs, List.mem_append, List.mem_range'_1] at hi
        rcases hi with hi | hi
        · right; rw [List.length_append, rl]; omega
        · exact .inl hi
      · show (List.range' _ _ ++ adrss cs).Nodup
        rw [List.nodup_append]
        refine ⟨List.nodup_range', nd2, fun x hx y hy e => ?_⟩
        simp only [List.mem_range'_1] at hx
        have := ad2 y hy
        omega
    · match l, h2 with
      | [], _ => exact ⟨rfl, ⟨by omega, by simp [recOf]⟩, fun i hi => by simp [mkT, Tr.adrs, recOf] at hi ⊢; omega, by simp [mkT, Tr.adrs]⟩
      | [p], _ => exact ⟨rfl, ⟨by omega, by simp [recOf], at1 _ 0 _ rfl, at1 _ 1 _ rfl⟩, fun i hi => by simp [mkT, Tr.adrs, recOf] at hi ⊢; omega, by simp [mkT, Tr.adrs]⟩
      | _ :: _ :: _, h2 => simp at h2
  obtain ⟨m1, m2, m3, m4⟩ := main
  generalize mkT (C.length + 1) l (Ts.drop n) = t at m1 m2 m3 m4
  refine ⟨fitL_app (fitL_take n g.fits) m1, oks_app okp m2, ?_, ?_, by rw [List.length_append]; omega⟩
  · intro i hi
    rw [adrss_app] at hi
    simp only [List.mem_append, adrss, List.append_nil] at hi
    rcases hi with hi | hi
    · have := ad1 i hi; rw [List.length_append]; omega
    · rcases m3 i hi with e | e
      · have := ad2 i e; rw [List.length_append]; omega
      · omega
  · rw [adrss_app, List.nodup_append]
    refine ⟨nd1, by simpa [adrss] using m4, fun x hx y hy e => ?_⟩
    simp only [adrss, List.append_nil] at hy
    rcases m3 y hy with e2 | e2
    · exact nd3 x hx y e2 e
    · have := ad1 x hx; omega

/-- what may be made next, so many lists having words -/
def GValid : List (List Pr) → List (List Pr) → Prop
  | _, [] => True
  | SL, l :: Ls => l.length ≤ 120 ∧ kidsOf l ≤ SL.length ∧ SL.drop (SL.length - kidsOf l) = (List.range (kidsOf l)).map (partL l) ∧ GValid (SL.take (SL.length - kidsOf l) ++ [l]) Ls
def lruns (SL : List (List Pr)) (Ls : List (List Pr)) : List (List Pr) := Ls.foldl (fun SL l => SL.take (SL.length - kidsOf l) ++ [l]) SL
theorem lruns_app (SL a b : List (List Pr)) : lruns SL (a ++ b) = lruns (lruns SL a) b := List.foldl_append
theorem GValid.app : ∀ {a b SL : List (List Pr)}, GValid SL a → GValid (lruns SL a) b → GValid SL (a ++ b)
  | [], b, SL, _, h => h
  | l :: a, b, SL, h, h2 => ⟨h.1, h.2.1, h.2.2.1, GValid.app h.2.2.2 h2⟩

theorem gvalid_ord : ∀ (f : Nat) (l : List Pr) (SL : List (List Pr)), l.length < f → l.length ≤ 120 → GValid SL (ordF f l) ∧ lruns SL (ordF f l) = SL ++ [l]
  | 0, l, SL, hf, _ => by omega
  | f + 1, l, SL, hf, hl => by
    by_cases h2 : 2 ≤ l.length
    · have pn := partN h2 hl
      have key : ∀ i, i ≤ degN l.length → GValid SL (ordK (ordF f) l i) ∧ lruns SL (ordK (ordF f) l i) = SL ++ (List.range i).map (partL l) := by
        intro i
        induction i with
        | zero => intro _; exact ⟨trivial, by simp [lruns, ordK]⟩
        | succ i ih =>
          intro hi
          have hp := partL_len h2 hl (i := i) (by omega)
          have hless := pn.less i (by omega)
          obtain ⟨h3, h4⟩ := ih (by omega)
          have h5 := gvalid_ord f (partL l i) (lruns SL (ordK (ordF f) l i)) (by omega) (by omega)
          refine ⟨GValid.app h3 h5.1, ?_⟩
          rw [ordK, lruns_app, h5.2, h4, List.range_succ, List.map_append, List.append_assoc]
          rfl
      obtain ⟨h3, h4⟩ := key _ (Nat.le_refl _)
      rw [ordF, kidsOf_two h2]
      have e1 : (SL ++ (List.range (degN l.length)).map (partL l)).length - degN l.length = SL.length := by simp
      refine ⟨GValid.app h3 ⟨hl, ?_, ?_, trivial⟩, ?_⟩
      · rw [h4, kidsOf_two h2]; simp
      · rw [h4, kidsOf_two h2, e1, List.drop_left]
      · rw [lruns_app, h4]
        show (SL ++ _).take _ ++ [l] = _
        rw [kidsOf_two h2, e1, List.take_left]
    · have hk : kidsOf l = 0 := if_pos (by omega)
      have e : ordF (f + 1) l = [l] := by rw [ordF, hk]; rfl
      rw [e]
      refine ⟨⟨hl, by omega, by rw [hk]; simp, trivial⟩, ?_⟩
      show SL.take _ ++ [l] = _
      rw [hk]; simp

theorem ord_two : ∀ (f : Nat) (l : List Pr), l.length < f → l.length ≤ 120 → (ordF f l).length + 1 ≤ 2 * l.length ∨ (l.length = 0 ∧ (ordF f l).length = 1)
  | 0, l, hf, _ => by omega
  | f + 1, l, hf, hl => by
    by_cases h2 : 2 ≤ l.length
    · have pn := partN h2 hl
      have d2 := pn.deg2
      have key : ∀ i, i ≤ degN l.length → (ordK (ordF f) l i).length + i ≤ 2 * fromN l.length i := by
        intro i
        induction i with
        | zero => intro _; simp [ordK]
        | succ i ih =>
          intro hi
          have hp := partL_len h2 hl (i := i) (by omega)
          have hless := pn.less i (by omega)
          have h1 := pn.one i (by omega)
          have := ih (by omega)
          have h5 := ord_two f (partL l i) (by omega) (by omega)
          rw [pn.next i (by omega), ordK, List.length_append]
          omega
      have := key _ (Nat.le_refl _)
      rw [from_top h2 hl] at this
      rw [ordF, kidsOf_two h2, List.length_append]
      simp only [List.length_cons, List.length_nil]
      omega
    · have hk : kidsOf l = 0 := if_pos (by omega)
      have e : ordF (f + 1) l = [l] := by rw [ordF, hk]; rfl
      rw [e]
      by_cases e0 : l.length = 0
      · exact .inr ⟨e0, rfl⟩
      · left
        show 1 + 1 ≤ 2 * l.length
        omega
end
end Go.Proofs.Ytedldiimhbebdaa.Ai
