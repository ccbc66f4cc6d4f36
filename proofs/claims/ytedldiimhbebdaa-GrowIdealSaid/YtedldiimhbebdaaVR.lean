/- GrowIdeal, for all arguments. -/
import Derived.Test.YtedldiimhbebdaaVM1
import Derived.Test.YtedldiimhbebdaaTabOk
import Derived.Test.YtedldiimhbebdaaVQ
import Derived.Test.YtedldiimhbebdaaGX
namespace Go.Proofs.Ytedldiimhbebdaa.Ai
open Go.Proofs.Ytedldiimhbebdaa
noncomputable section
set_option linter.unusedVariables false
open Go.RowKit
structure HasV11 (tab : Nat → Option AFunc) : Prop where
  v11 : tab 11 = some af11

theorem hasV11 : HasV11 tabT.get := ⟨by kernel_rfl⟩

theorem cells_60' : ((List.range 61).all fun n => Nat.ble (cellsN n) 1000) = true := by kernel_rfl
theorem ord_few' {l : List Pr} (h : l.length ≤ 60) : (ordF (l.length + 1) l).length ≤ 1000 := by
  have h1 := gruns_grow (ordF (l.length + 1) l) ([], [])
  rw [gruns_ord _ _ _ _ (by omega) (by omega)] at h1
  simp only [List.length_nil, Nat.zero_add, List.nil_append] at h1
  rw [layF_len _ _ _ (by omega) (by omega)] at h1
  have := Nat.le_of_ble_eq_true (List.all_eq_true.1 cells_60' l.length (List.mem_range.2 (by omega)))
  omega

theorem deg_60 : ((List.range 61).all fun n => Nat.ble (degN n) 7) = true := by kernel_rfl
theorem deg60 {n : Nat} (h : n ≤ 60) : degN n ≤ 7 := Nat.le_of_ble_eq_true (List.all_eq_true.1 deg_60 n (List.mem_range.2 (by omega)))

theorem rec_small {l : List Pr} (hl : l.length ≤ 60) {W : List Int} (hk : kidsOf l ≤ W.length) (C : List Int) : (gstep (C, W) l).1.length ≤ C.length + 18 := by
  have d := deg60 hl
  show (C ++ recOf l (W.drop (W.length - kidsOf l))).length ≤ _
  rw [List.length_append]
  by_cases h2 : 2 ≤ l.length
  · rw [recOf_two h2, kidsOf_two h2]
    rw [kidsOf_two h2] at hk
    simp only [List.length_append, List.length_cons, List.length_nil, keysF_len, List.length_drop]
    omega
  · match l, h2 with
    | [], _ => simp [recOf]
    | [p], _ => simp [recOf]
    | _ :: _ :: _, h2 => simp at h2

theorem ord_small : ∀ (f : Nat) (l : List Pr), l.length < f → l.length ≤ 120 → ∀ m ∈ ordF f l, m.length ≤ l.length
  | 0, l, hf, _ => by omega
  | f + 1, l, hf, hl => by
    intro m hm
    by_cases h2 : 2 ≤ l.length
    · have pn := partN h2 hl
      rw [ordF, kidsOf_two h2, List.mem_append] at hm
      rcases hm with hm | hm
      · have key : ∀ i, i ≤ degN l.length → ∀ m ∈ ordK (ordF f) l i, m.length ≤ l.length := by
          intro i
          induction i with
          | zero => intro _ m hm; simp [ordK] at hm
          | succ i ih =>
            intro hi m hm
            have hp := partL_len h2 hl (i := i) (by omega)
            have hless := pn.less i (by omega)
            rw [ordK, List.mem_append] at hm
            rcases hm with hm | hm
            · exact ih (by omega) m hm
            · have := ord_small f (partL l i) (by omega) (by omega) m hm; omega
        exact key _ (Nat.le_refl _) m hm
      · simp at hm; rw [hm]; omega
    · have hk : kidsOf l = 0 := if_pos (by omega)
      have e : ordF (f + 1) l = [l] := by rw [ordF, hk]; rfl
      rw [e] at hm; simp at hm; rw [hm]; omega

/-- so far: what was made, what others made -/
structure GJ (h1 h : Heap) (b bm : Nat) (K : Nat → Prop) (l : List Pr) (rest : List (List Pr)) (i : Nat) : Prop where
  ex : ∃ (um uw : Option Nat) (X : List Int) (Ts : List Tr) (SL : List (List Pr)) (c r : Int), MemAt h bm um ([1, 0, 0, 0, 0, 57, 0] ++ X) 3000 c 0 r ∧ FrAt h b uw K rest (Ts.map Tr.word) false ∧ GTree ([1, 0, 0, 0, 0, 57, 0] ++ X) Ts SL ∧ GValid SL rest ∧ lruns SL rest = [l] ∧
    um ≠ some b ∧ (∀ y, um = some y → ¬ K y) ∧ (∀ y, uw = some y → y ≠ bm ∧ um ≠ some y) ∧ (∀ y, um = some y → h1.next ≤ y) ∧ (∀ y, uw = some y → h1.next ≤ y) ∧ X.length ≤ 24 * i ∧ (0 ≤ c ∧ c ≤ 2 + 2 * i) ∧ (0 ≤ r ∧ r ≤ i)
  bb : b ≠ bm
  kbm : ¬ K bm
  b1 : h1.next ≤ b
  bm1 : h1.next ≤ bm
  k1 : ∀ j, K j → h1.next ≤ j
  small : ∀ m ∈ rest, m.length ≤ 60
  few : rest.length + i ≤ 120
  same : Same h1 h (fun _ => False)

section
variable {P : Program} {tab : Nat → Option AFunc} (hT : TabOk P tab) (G : HasG tab)
include hT G

theorem gstepJ_spec (H : Has tab) (Nu : Num P) {h1 h : Heap} {b bm : Nat} {K : Nat → Prop} {l l0 : List Pr} {ls : List (List Pr)} {i : Nat} (g : GJ h1 h b bm K l (l0 :: ls) i) :
    FSpec P 16 [.pointer (some ⟨b, 0, none⟩), .pointer (some ⟨bm, 0, none⟩)] h fun v h' => v = .bool ls.isEmpty ∧ ∃ (um uw : Option Nat) (X : List Int) (Ts : List Tr) (SL : List (List Pr)) (c r : Int), MemAt h' bm um ([1, 0, 0, 0, 0, 57, 0] ++ X) 3000 c 0 r ∧ FrAt h' b uw K ls (Ts.map Tr.word) false ∧ GTree ([1, 0, 0, 0, 0, 57, 0] ++ X) Ts SL ∧ GValid SL ls ∧ lruns SL ls = [l] ∧
      um ≠ some b ∧ (∀ y, um = some y → ¬ K y) ∧ (∀ y, uw = some y → y ≠ bm ∧ um ≠ some y) ∧ (∀ y, um = some y → h1.next ≤ y) ∧ (∀ y, uw = some y → h1.next ≤ y) ∧ X.length ≤ 24 * i + 18 ∧ (0 ≤ c ∧ c ≤ 3 + 2 * i) ∧ (0 ≤ r ∧ r ≤ i) ∧ Same h1 h' (fun _ => False) := by
  obtain ⟨um, uw, X, Ts, SL, c, r, m, f, gt, gv, gr, hub, hku, huw, hum1, huw1, hX, hc, hr⟩ := g.ex
  obtain ⟨h120, hk, hdrop, gv'⟩ := gv
  have hfl := fitL_len gt.fits
  have hfew := g.few
  have h60 := g.small l0 (by simp)
  simp only [List.length_cons] at hfew
  have hk' : kidsOf l0 ≤ (Ts.map Tr.word).length := by rw [List.length_map]; omega
  have hCl : ([1, 0, 0, 0, 0, 57, 0] ++ X : List Int).length = 7 + X.length := by simp; omega
  have hrs := rec_small h60 hk' ([1, 0, 0, 0, 0, 57, 0] ++ X)
  have nx := g.same.next
  have hTl : Ts.length < 90000 := by
    have h1 : ∀ (ts : List Tr), ts.length ≤ (adrss ts).length := by
      intro ts
      induction ts with
      | nil => simp
      | cons t ts ih =>
        have : 1 ≤ t.adrs.length := by cases t <;> simp [Tr.adrs]; omega
        simp only [adrss, List.length_append, List.length_cons]; omega
    have h2 := h1 Ts
    have h3 : (adrss Ts).length ≤ 7 + X.length + 1 := by
      have hsub : adrss Ts ⊆ List.range (7 + X.length + 1) := fun y hy => by
        have := gt.adr y hy
        rw [hCl] at this
        exact List.mem_range.2 (by omega)
      have := gt.nodup.length_le_of_subset hsub
      simpa using this
    omega
  obtain ⟨v, h', F, hq, s⟩ := gstep_spec hT G H Nu f m g.bb hub g.kbm hku huw h120 hk' (by rw [List.length_map]; omega) (by rw [hCl]; omega) (by omega) ⟨by omega, by omega⟩ ⟨by omega, by omega⟩
  refine ⟨v, h', F, ?_⟩
  rcases hq with ⟨hroom, rfl, um', uw', m', f', hum', huw'⟩ | ⟨hno, _⟩
  rotate_left
  · omega
  obtain ⟨t, gt', gw'⟩ := gt.step h120 hk hdrop
  rw [gw'] at f'
  have epre : (gstep ([1, 0, 0, 0, 0, 57, 0] ++ X, Ts.map Tr.word) l0).1 = [1, 0, 0, 0, 0, 57, 0] ++ (X ++ recOf l0 ((Ts.map Tr.word).drop ((Ts.map Tr.word).length - kidsOf l0))) := by
    show ([1, 0, 0, 0, 0, 57, 0] ++ X) ++ recOf l0 _ = _
    rw [List.append_assoc]
  rw [epre] at m' gt' hrs
  have hfrlt := f.lt
  refine ⟨rfl, um', uw', _, _, _, c + 1, r, m', f', gt', gv', gr, ?_, ?_, ?_, ?_, ?_, ?_, ⟨by omega, by omega⟩, hr, ?_⟩
  · intro e
    rcases hum' b e with e2 | e2
    · exact hub e2
    · omega
  · intro y hy e
    rcases hum' y hy with e2 | e2
    · exact hku y e2 e
    · have := f.klt y e; omega
  · intro y hy
    refine ⟨?_, (huw' y hy).2⟩
    rcases (huw' y hy).1 with e2 | e2
    · exact (huw y e2).1
    · have := m.lt; omega
  · intro y hy
    rcases hum' y hy with e2 | e2
    · exact hum1 y e2
    · omega
  · intro y hy
    rcases (huw' y hy).1 with e2 | e2
    · exact huw1 y e2
    · omega
  · have e9 : ∀ Y : List Int, ([1, 0, 0, 0, 0, 57, 0] ++ Y : List Int).length = 7 + Y.length := fun Y => by simp; omega
    rw [e9, e9] at hrs
    omega
  · exact g.same.trans s (fun j hj e => by
      rcases e with e | e | e | e
      · have := g.bm1; omega
      · have := hum1 j e; omega
      · have := g.b1; omega
      · have := huw1 j e; omega)

omit G in
/-- others make a record of so many cells -/
theorem padJ_spec (H : Has tab) {h1 h : Heap} {b bm : Nat} {K : Nat → Prop} {l : List Pr} {ls : List (List Pr)} {i : Nat} (bb : b ≠ bm) (kbm : ¬ K bm) (b1 : h1.next ≤ b) (bm1 : h1.next ≤ bm) (k1 : ∀ j, K j → h1.next ≤ j) (small : ∀ m ∈ ls, m.length ≤ 60) (few : ls.length + (i + 1) ≤ 120)
    (q : ∃ (um uw : Option Nat) (X : List Int) (Ts : List Tr) (SL : List (List Pr)) (c r : Int), MemAt h bm um ([1, 0, 0, 0, 0, 57, 0] ++ X) 3000 c 0 r ∧ FrAt h b uw K ls (Ts.map Tr.word) false ∧ GTree ([1, 0, 0, 0, 0, 57, 0] ++ X) Ts SL ∧ GValid SL ls ∧ lruns SL ls = [l] ∧
      um ≠ some b ∧ (∀ y, um = some y → ¬ K y) ∧ (∀ y, uw = some y → y ≠ bm ∧ um ≠ some y) ∧ (∀ y, um = some y → h1.next ≤ y) ∧ (∀ y, uw = some y → h1.next ≤ y) ∧ X.length ≤ 24 * i + 18 ∧ (0 ≤ c ∧ c ≤ 3 + 2 * i) ∧ (0 ≤ r ∧ r ≤ i) ∧ Same h1 h (fun _ => False)) :
    GJ h1 h b bm K l ls (i + 1) ∧ ∀ k : Nat, k < 7 → ∃ h2, mkSV h 1 8 [I 0] (I k) (I k) = some (.slice (some ⟨h.next, 0, none⟩) k k, h2) ∧ FSpec P 35 [.pointer (some ⟨bm, 0, none⟩), .slice (some ⟨h.next, 0, none⟩) k k] h2 fun v h' => GJ h1 h' b bm K l ls (i + 1) := by
  obtain ⟨um, uw, X, Ts, SL, c, r, m, f, gt, gv, gr, hub, hku, huw, hum1, huw1, hX, hc, hr, sm⟩ := q
  have e9 : ∀ Y : List Int, ([1, 0, 0, 0, 0, 57, 0] ++ Y : List Int).length = 7 + Y.length := fun Y => by simp; omega
  refine ⟨⟨⟨um, uw, X, Ts, SL, c, r, m, f, gt, gv, gr, hub, hku, huw, hum1, huw1, by omega, ⟨by omega, by omega⟩, ⟨by omega, by omega⟩⟩, bb, kbm, b1, bm1, k1, small, few, sm⟩, fun k hk => ?_⟩
  refine ⟨_, mkS_ok (by omega) (by omega), ?_⟩
  have s2 : Same h (h.new ⟨rep [I 0] k, k * 1, 1, true, false⟩) (fun _ => False) := Same.new
  have r2 : RdAt (h.new ⟨rep [I 0] k, k * 1, 1, true, false⟩) h.next 0 1 k k ((List.replicate k (0 : Int)).map I) := by
    rw [rep_int]; exact RdAt.fresh h _ k 1 true false (by simp)
  generalize h.new ⟨rep [I 0] k, k * 1, 1, true, false⟩ = h2 at s2 r2
  have m2 := m.same s2 (fun x => x) (fun _ _ x => x)
  have f2 := f.same s2 (fun x => x) (fun _ _ x => x) (fun _ _ x => x)
  have x2 := s2.next
  have nx := sm.next
  have flt := f.lt
  have mlt := m.lt
  have fkw := f.kw
  have fkl := f.klt
  have mu := fun y hy => (m.use y hy).2.2.1
  by_cases k0 : k = 0
  · subst k0
    obtain ⟨v, h3, F, rfl, m3, s3⟩ := make_no hT H m2 (base := some ⟨h.next, 0, none⟩) (cap := 0) (n := 0) (.inl rfl) ⟨by omega, by omega⟩ (by rw [e9]; omega) ⟨by omega, by omega⟩ ⟨by omega, by omega⟩
    refine ⟨_, h3, F, ⟨um, uw, X, Ts, SL, c + 1, r + 1, m3, f2.same s3 (fun e => bb e) (fun y hy e => (huw y hy).1 e) (fun j hj e => kbm (e ▸ hj)), gt, gv, gr, hub, hku, huw, hum1, huw1, by omega, ⟨by omega, by omega⟩, ⟨by omega, by omega⟩⟩, bb, kbm, b1, bm1, k1, small, few, (sm.trans s2 (fun _ _ x => x)).trans s3 (fun j hj e => by omega)⟩
  · obtain ⟨v, h3, F, rfl, ⟨u3, m3, n3⟩, s3⟩ := make_ok hT H m2 (ws := List.replicate k 0) (x := h.next) (p := 0) (cap := k) (by simpa using r2) (by omega) (by intro e; have := congrArg List.length e; simp at this; exact k0 this) (by rw [e9]; simp; omega) (by omega) ⟨by omega, by omega⟩
    rw [List.length_replicate] at F
    rw [List.append_assoc] at m3
    have gt3 := gt.pad (List.replicate k 0)
    rw [List.append_assoc] at gt3
    refine ⟨_, h3, F, ⟨u3, uw, X ++ List.replicate k 0, Ts, SL, c + 1, r, m3, f2.same s3 (fun e => e.elim (fun e => bb e) (fun e => hub e)) (fun y hy e => e.elim (fun e => (huw y hy).1 e) (fun e => (huw y hy).2 e)) (fun j hj e => e.elim (fun e => kbm (e ▸ hj)) (fun e => hku j e hj)), gt3, gv, gr, ?_, ?_, ?_, ?_, huw1, by simp; omega, ⟨by omega, by omega⟩, ⟨by omega, by omega⟩⟩, bb, kbm, b1, bm1, k1, small, few, (sm.trans s2 (fun _ _ x => x)).trans s3 (fun j hj e => ?_)⟩
    · intro e
      rcases n3 b e with e2 | e2
      · exact hub e2
      · omega
    · intro y hy hK
      rcases n3 y hy with e2 | e2
      · exact hku y e2 hK
      · have := fkl y hK; omega
    · intro y hy
      refine ⟨(huw y hy).1, fun e => ?_⟩
      rcases n3 y e with e2 | e2
      · exact (huw y hy).2 e2
      · have := (fkw y hy).2.2; omega
    · intro y hy
      rcases n3 y hy with e2 | e2
      · exact hum1 y e2
      · omega
    · rcases e with e | e
      · omega
      · have := hum1 j e; omega

omit hT G in
/-- it stands below Root -/
theorem rooted_grow {X : List Int} {l : List Pr} {t : Tr} (g : GTree ([1, 0, 0, 0, 0, 57, 0] ++ X) [t] [l]) (hl : l.length ≤ 120) (ha : Asc l) (hk : ∀ p ∈ l, -1000 ≤ p.1 ∧ p.1 ≤ 1000) (hX : X.length ≤ 60000) : Rooted ([1, 0, 0, 0, 0, t.word, 0] ++ X) t := by
  have hlen : ([1, 0, 0, 0, 0, t.word, 0] ++ X).length = 7 + X.length := by simp; omega
  have hlen' : ([1, 0, 0, 0, 0, 57, 0] ++ X : List Int).length = 7 + X.length := by simp; omega
  have had : ∀ i ∈ t.adrs, 8 ≤ i ∧ i ≤ 7 + X.length := fun i hi => by
    have := g.adr i (by simp [adrss, hi])
    rwa [hlen'] at this
  refine ⟨⟨by omega, by omega⟩, ⟨rfl, rfl⟩, rfl, ?_, ?_, free_of _ _ (fun i hi => ?_) (by simpa [adrss] using g.nodup), fits_few t l g.fits.1 hl⟩
  · refine ok_congr (by omega) t (fun i hi => ?_) g.ok.1
    have h8 := had i hi
    unfold at0
    rw [if_neg (by omega), if_neg (by omega), List.getElem?_append_right (by simp; omega), List.getElem?_append_right (by simp; omega)]
    rfl
  · exact fits_ord t l _ _ g.fits.1 ha (fun p hp => by have := hk p hp; omega)
  · have := had i hi
    exact base0_get (by omega) (by omega)

theorem growIdeal_spec (H : Has tab) (HR : HasR tab) (V : HasV tab) (V2 : HasV2 tab) (V3 : HasV3 tab) (V4 : HasV4 tab) (V5 : HasV5 tab) (V6 : HasV6 tab) (V8 : HasV8 tab) (V9 : HasV9 tab) (V11 : HasV11 tab) (Nu : Num P) (Kn : ∀ h, Fact P 19 [] h (.bool true) h)
    {h : Heap} {v w : Value} {L LO : List Int} (a : IntsAt h v L) (a' : IntsAt h w LO) :
    FSpec P 11 [v, w] h fun v h' => v = .bool true ∧ Same h h' (fun _ => False) := by
  refine fspec_cwf hT V11.v11 rfl ?_
  obtain ⟨v1, h1, F1, ⟨l, u, rfl, o, hasc, hl, hu, hkeys⟩, s1⟩ := pairs2_spec hT H a
  have hou : ∀ y, u = some y → y < h1.next := fun y hy => (o.use y hy).2.1
  obtain ⟨_, h2, F2, rfl, m2, s2⟩ := new_spec hT H h1 3000 (by omega) (by omega)
  have x2 := s2.next
  have hb1 : h1.next < h2.next := m2.lt
  obtain ⟨_, h3, F3, rfl, ⟨u3, m3, n3⟩, s3⟩ := begin_spec hT H V9 m2 (by omega) (by omega) ⟨by omega, by omega⟩
  have x3 := s3.next
  have s13 : Same h1 h3 (fun _ => False) := s2.trans s3 (fun j hj e => by omega)
  have hu3 : ∀ y, u3 = some y → h1.next ≤ y := fun y hy => by have := n3 y hy; omega
  have o3 := o.same s13 (fun _ _ x => x)
  have h1000 := ord_few' hl
  obtain ⟨_, h4, F4, ⟨b, K, rfl, hb, hK, hq⟩, s4⟩ := gnew_spec hT G H Nu (RowAt.of_own o3) (own_pr o3) (by omega) (by omega)
  have f4 : FrAt h4 b none K (ordF (l.length + 1) l) [] false := by
    rcases hq with ⟨_, f⟩ | ⟨hn, _⟩
    · exact f
    · exact (hn hasc).elim
  have x4 := s4.next
  have m4 := m3.same s4 (fun x => x) (fun _ _ x => x)
  have s14 : Same h1 h4 (fun _ => False) := s13.trans s4 (fun _ _ x => x)
  have m3lt := m3.lt
  have m3u := fun y hy => (m3.use y hy).2.2.1
  have hgv := gvalid_ord (l.length + 1) l [] (by omega) (by omega)
  have hsm : ∀ m ∈ ordF (l.length + 1) l, m.length ≤ 60 := fun m hm => by
    have := ord_small (l.length + 1) l (by omega) (by omega) m hm; omega
  have hfew : (ordF (l.length + 1) l).length ≤ 120 := by
    have := ord_two (l.length + 1) l (by omega) (by omega); omega
  have g0 : GJ h1 h4 b h1.next K l (ordF (l.length + 1) l) 0 :=
    ⟨⟨u3, none, [], [], [], 0 + 2, 0, by simpa using m4, f4, ⟨trivial, trivial, by simp [adrss], by simp [adrss], by simp⟩, hgv.1, by simpa using hgv.2, fun e => by have := m3u b e; omega, fun y hy e => by have := m3u y hy; have := hK y e; omega, fun y hy => (by cases hy), hu3, fun y hy => (by cases hy), by simp, ⟨by omega, by omega⟩, ⟨by omega, by omega⟩⟩, by omega, fun e => by have := hK _ e; omega, by omega, by omega, fun j hj => by have := hK j hj; omega, hsm, by omega, s14⟩
  have c0 : ((0 : Int) != 0) = false := rfl
  have hw : ∃ base cap, w = .slice base LO.length cap := by
    rcases a' with ⟨rfl, base, cap, rfl⟩ | ⟨x, p, cap, rfl, _⟩ <;> exact ⟨_, _, rfl⟩
  simp only [af11, cwf_seq, cwf_ops, andThen_normal, owf_nil, o_p, owf_call, bo_eq, optQ_some, pop, popQ, ev, evs, putA, putArgs, look_put, ite_true, ite_false, Nat.reduceEqDiff, Nat.zero_add]
  refine ⟨_, _, F1, ?_⟩
  simp only [cwf_seq, cwf_ops, andThen_normal, owf_nil, o_p, owf_call, behind_eq, bo_eq, optQ_some, pop, popQ, ev, evs, putA, look_put, ite_true, ite_false, Nat.reduceEqDiff]
  refine ⟨_, _, F2, ?_⟩
  simp only [cwf_seq, cwf_ops, andThen_normal, owf_nil, o_p, owf_call, o_on, behind_eq, bo_eq, optQ_some, pop, popQ, ev, evs, putA, look_put, isB_false, abinF_eq, abin, isNilV, Option.isNone_some, decide_true, cond_true, cond_false, ite_true, ite_false, Bool.not_false, Nat.reduceEqDiff, List.getElem?_cons_zero, List.getElem?_cons_succ, c0]
  refine ⟨_, _, F3, ?_⟩
  simp only [cwf_seq, cwf_ops, c_false, cwf_skip, andThen_normal, owf_nil, o_p, owf_call, o_on, behind_eq, bo_eq, optQ_some, pop, popQ, ev, evs, putA, look_put, isB_false, cond_false, ite_true, ite_false, Bool.not_true, Bool.not_false, Nat.reduceEqDiff]
  refine ⟨_, _, F4, ?_⟩
  simp only [cwf_seq, cwf_ops, cwf_block, cwf_loop, andThen_normal, owf_nil, o_p, behind_eq, bo_eq, optQ_some, pop, popQ, ev, putA, look_put, ite_true, ite_false, Nat.reduceEqDiff]
  refine cw_loop (fun k ts h' => ∃ (i : Nat) (rest : List (List Pr)), k = rest.length ∧ rest ≠ [] ∧ GJ h1 h' b h1.next K l rest i ∧ look ts 1 = w ∧ look ts 5 = ownSl u l.length ∧ look ts 6 = .pointer (some ⟨h1.next, 0, none⟩) ∧ look ts 8 = .pointer (some ⟨b, 0, none⟩) ∧ look ts 9 = I i) ?_ (n := (ordF (l.length + 1) l).length) ⟨0, _, rfl, ord_last _ _, g0, by simp only [look_put, ite_true, ite_false, Nat.reduceEqDiff], by simp only [look_put, ite_true, ite_false, Nat.reduceEqDiff], by simp only [look_put, ite_true, ite_false, Nat.reduceEqDiff], by simp only [look_put, ite_true, ite_false, Nat.reduceEqDiff], by simp only [look_put, Int.cast_ofNat_Int, ite_true, ite_false, Nat.reduceEqDiff] <;> rfl⟩
  rintro k ts h' ⟨i, rest, rfl, hne, g, t1, t5, t6, t8, t9⟩
  have hfew' := g.few
  have ci : ((i : Int) < 1000) = True := by simp; omega
  have wi : wrapF .i64 ((i : Int) + 1) = ((i + 1 : Nat) : Int) := by rw [wrapI] <;> omega
  match rest, hne with
  | l0 :: ls, _ =>
  obtain ⟨v5, h5, F5, rfl, q5⟩ := gstepJ_spec hT G H Nu g
  simp only [List.length_cons] at hfew'
  cases ls with
  | cons l1 ls =>
    obtain ⟨gj, gk⟩ := padJ_spec hT H g.bb g.kbm g.b1 g.bm1 g.k1 (fun m hm => g.small m (List.mem_cons_of_mem _ hm)) (by simp only [List.length_cons] at hfew' ⊢; omega) q5
    have s15 := gj.same
    by_cases hi : i < LO.length
    · rcases a' with ⟨rfl, _⟩ | ⟨x, p, cap', rfl, hr'⟩
      · simp at hi
      have cl : ((i : Int) < LO.length) = True := by simp [hi]
      have rk : h5.rd x (p + i) = some (I LO[i]) := by
        rw [((hr'.same s1 (fun x => x)).same s15 (fun x => x)).rd (by omega)]; simp [hi]
      obtain ⟨_, h5', F6, rfl, rfl⟩ := cut_spec hT H h5 LO[i] 7 (by omega) (by omega)
      have em := Int.emod_nonneg LO[i] (show (7 : Int) ≠ 0 by omega)
      have el := Int.emod_lt_of_pos LO[i] (show (0 : Int) < 7 by omega)
      obtain ⟨k, hk⟩ := Int.eq_ofNat_of_zero_le em
      rw [hk] at F6
      obtain ⟨h6, mk, _, h7, F7, g7⟩ := gk k (by omega)
      refine cwf_cw ?_
      simp only [cwf_seq, cwf_ops, o_p, owf_call, o_on, bo_eq, optQ_some, pop, popQ, ev, evs, putA, look_put, isB_true, abinF_eq, abin, List.length_cons, decide_true, cond_true, ite_true, ite_false, Nat.reduceEqDiff, t6, t8, t9, ci]
      refine ⟨_, _, F5, ?_⟩
      simp only [cwf_seq, cwf_ops, c_true, cwf_skip, cwf_block, andThen_normal, owf_nil, o_p, o_r, owf_call, o_on, behind_eq, bo_eq, optQ_some, pop, popQ, rop_load1, ldV_ptr, ev, evs, putA, look_put, isB_true, abinF_eq, abin, Int.toNat_natCast, Int.natCast_nonneg, Nat.mul_one, inB_eq, decide_true, cond_true, cond_false, ite_true, ite_false, Bool.and_true, Bool.not_false, Nat.reduceEqDiff, t1, t6, t9, List.isEmpty_cons, cl, rk]
      refine ⟨_, _, F6, ?_⟩
      simp only [o_e, owf_call, behind_eq, opt2_some, ev, evs, putA, look_put, ite_true, ite_false, Nat.reduceEqDiff, eop_mkS, mk]
      refine ⟨_, _, F7, ?_⟩
      simp only [cwf_ops, andThen_normal, blockQ_normal, roundQ_normal, owf_nil, o_p, behind_eq, bo_eq, optQ_some, pop, popQ, ev, putA, look_put, abinF_eq, abin, decide_true, cond_true, ite_true, ite_false, Nat.reduceEqDiff, true_and, t1, t5, t6, t8, t9, wi]
      exact ⟨ls.length + 1, by simp, i + 1, l1 :: ls, rfl, by simp, g7, rfl⟩
    · have cl : ((i : Int) < LO.length) = False := by simp; omega
      obtain ⟨wb, wc, rfl⟩ := hw
      refine cwf_cw ?_
      simp only [cwf_seq, cwf_ops, o_p, owf_call, o_on, bo_eq, optQ_some, pop, popQ, ev, evs, putA, look_put, isB_true, abinF_eq, abin, List.length_cons, decide_true, cond_true, ite_true, ite_false, Nat.reduceEqDiff, t6, t8, t9, ci]
      refine ⟨_, _, F5, ?_⟩
      simp only [cwf_seq, cwf_ops, c_true, c_false, cwf_skip, cwf_block, andThen_normal, blockQ_normal, roundQ_normal, owf_nil, o_p, o_on, behind_eq, bo_eq, optQ_some, pop, popQ, ev, putA, look_put, isB_true, isB_false, abinF_eq, abin, decide_true, decide_false, cond_true, cond_false, ite_true, ite_false, Bool.not_false, Nat.reduceEqDiff, true_and, t1, t5, t6, t8, t9, List.isEmpty_cons, cl, wi]
      exact ⟨ls.length + 1, by simp, i + 1, l1 :: ls, rfl, by simp, gj, rfl⟩
  | nil =>
    obtain ⟨um, uw, X, Ts, SL, c, r, m5, f5, gt, _, gr, hub, hku, huw, hum1, huw1, hX, hc, hr, s15⟩ := q5
    have eSL : SL = [l] := gr
    subst eSL
    have hTl := fitL_len gt.fits
    obtain ⟨t, rfl⟩ : ∃ t, Ts = [t] := by
      match Ts, hTl with
      | [t], _ => exact ⟨t, rfl⟩
    obtain ⟨v6, h6, F6, hv6, rfl⟩ := gword_spec hT G f5 (fun _ _ => by simp)
    have e6 : v6 = .tuple #[I t.word, .bool true] := hv6
    subst e6
    obtain ⟨x, rfl⟩ : ∃ y, um = some y := by
      cases um with
      | none => have := m5.non rfl; simp at this
      | some y => exact ⟨y, rfl⟩
    have e9 : ∀ Y : List Int, ([1, 0, 0, 0, 0, 57, 0] ++ Y : List Int).length = 7 + Y.length := fun Y => by simp; omega
    obtain ⟨_, h7, F7, m7, s7⟩ := write_spec hT V9 m5 ⟨by omega, by omega⟩ (a := 6) (by omega) (by rw [e9]; omega) (by rw [e9]; omega) t.word
    have eset : ([1, 0, 0, 0, 0, 57, 0] ++ X).set (6 - 1) t.word = [1, 0, 0, 0, 0, t.word, 0] ++ X := rfl
    rw [eset] at m7
    have R := rooted_grow gt (by omega) hasc hkeys (by omega)
    have hfit := gt.fits.1
    have hcont := fits_content t l hfit
    have x6 := s15.next
    have hx1 := hum1 x rfl
    have f7 := f5.same s7 (fun e => e.elim (fun e => g.bb e) (fun e => hub (by rw [e]))) (fun y hy e => e.elim (fun e => (huw y hy).1 e) (fun e => (huw y hy).2 (by rw [e]))) (fun j hj e => e.elim (fun e => g.kbm (e ▸ hj)) (fun e => hku x rfl (e ▸ hj)))
    have s17 : Same h1 h7 (fun _ => False) := s15.trans s7 (fun j hj e => by omega)
    obtain ⟨_, h7, F8, rfl, rfl⟩ := gdone_spec hT G f7
    have F8' : Fact P 18 [.pointer (some ⟨b, 0, none⟩)] h7 (.bool true) h7 := F8
    obtain ⟨_, h8, F9, rfl, s8⟩ := sound_spec hT V H V2 V3 V4 V5 m7 R
    have m8 := m7.same s8 (fun x => x) (fun _ _ x => x)
    obtain ⟨_, h9, F10, rfl, s9⟩ := calm_spec hT V H V2 V3 V4 V5 m8 R
    have m9 := m8.same s9 (fun x => x) (fun _ _ x => x)
    obtain ⟨_, h10, F11, rfl, s10⟩ := ideal1_spec hT V H V2 V3 V4 V5 V6 V8 Nu m9 R (fits_idl t l hfit)
    have m10 := m9.same s10 (fun x => x) (fun _ _ x => x)
    obtain ⟨_, h11, F12, ⟨u12, rfl, o12, n12⟩, s11⟩ := content_spec hT V H V2 V3 V4 V5 V6 m10 R (by rw [hcont]; omega)
    rw [hcont] at F12 o12
    have s111 : Same h1 h11 (fun _ => False) := (((s17.trans s8 (fun _ _ x => x)).trans s9 (fun _ _ x => x)).trans s10 (fun _ _ x => x)).trans s11 (fun _ _ x => x)
    obtain ⟨_, h11, F13, rfl, rfl⟩ := alike_spec hT HR (own_pr o12) (own_pr (o.same s111 (fun _ _ x => x))) (by omega)
    have sf : Same h h11 (fun _ => False) := s1.trans s111 (fun _ _ x => x)
    have hbusy : (!t.busy) = true := by rw [fits_busy t l hfit]; rfl
    rw [hbusy] at F10
    refine cwf_cw ?_
    simp only [cwf_seq, cwf_ops, o_p, owf_call, o_on, bo_eq, optQ_some, pop, popQ, ev, evs, putA, look_put, isB_true, abinF_eq, abin, List.length_cons, List.length_nil, decide_true, cond_true, ite_true, ite_false, Nat.reduceEqDiff, Nat.zero_add, t6, t8, t9, ci]
    refine ⟨_, _, F5, ?_⟩
    simp only [cwf_seq, cwf_ops, c_false, cwf_exit, andThen_normal, andThen_exit, blockQ_exit, roundQ_exit, owf_nil, o_p, owf_call, o_on, behind_eq, bo_eq, optQ_some, pop, popQ, ev, evs, putA, look_put, isB_true, isB_false, cond_true, ite_true, ite_false, Bool.not_true, Bool.not_false, Nat.reduceEqDiff, t8, List.isEmpty_nil]
    refine ⟨_, _, F6, ?_⟩
    simp only [cwf_seq, cwf_ops, andThen_normal, owf_nil, o_p, owf_call, behind_eq, bo_eq, optQ_some, pop, popQ, ev, evs, putA, look_put, ite_true, ite_false, Nat.reduceEqDiff, List.getElem?_cons_zero, List.getElem?_cons_succ, t6]
    refine ⟨_, _, F7, ?_⟩
    simp only [cwf_seq, cwf_ops, andThen_normal, owf_nil, owf_call, behind_eq, evs, putA]
    refine ⟨_, _, Kn _, ?_⟩
    simp only [o_p, owf_call, o_on, behind_eq, bo_eq, optQ_some, pop, popQ, ev, evs, putA, look_put, isB_true, ite_true, ite_false, Nat.reduceEqDiff, t8]
    refine ⟨_, _, F8', ?_⟩
    simp only [o_p, owf_call, o_on, behind_eq, bo_eq, optQ_some, pop, popQ, ev, evs, putA, look_put, isB_true, cond_true, ite_true, ite_false, Nat.reduceEqDiff, t6]
    refine ⟨_, _, F9, ?_⟩
    simp only [o_p, owf_call, o_on, behind_eq, bo_eq, optQ_some, pop, popQ, ev, evs, putA, look_put, isB_true, cond_true, ite_true, ite_false, Nat.reduceEqDiff, t6]
    refine ⟨_, _, F10, ?_⟩
    simp only [o_p, owf_call, o_on, behind_eq, bo_eq, optQ_some, pop, popQ, ev, evs, putA, look_put, isB_true, cond_true, ite_true, ite_false, Nat.reduceEqDiff, t6]
    refine ⟨_, _, F11, ?_⟩
    simp only [o_p, owf_call, o_on, behind_eq, bo_eq, optQ_some, pop, popQ, ev, evs, putA, look_put, isB_true, cond_true, ite_true, ite_false, Nat.reduceEqDiff, t6]
    refine ⟨_, _, F12, ?_⟩
    simp only [o_p, owf_call, o_on, behind_eq, bo_eq, optQ_some, pop, popQ, ev, evs, putA, look_put, isB_true, ite_true, ite_false, Nat.reduceEqDiff, t5]
    refine ⟨_, _, F13, ?_⟩
    simp only [cwf_ret, andThen_normal, fnQ_ret, owf_nil, o_p, behind_eq, bo_eq, optQ_some, pop, popQ, ev, putA, look_put, resAll, resA, mkRes1, cond_true, ite_true, ite_false, Nat.reduceEqDiff, Option.some.injEq, exists_eq_left', true_and]
    rw [tail_marks h h11 sf.marks]
    exact sf
end
end
end Go.Proofs.Ytedldiimhbebdaa.Ai
