/- PlantIdeal, for all arguments. -/
import Derived.Test.YtedldiimhbebdaaVK
import Derived.Test.YtedldiimhbebdaaTabOk
import Derived.Test.YtedldiimhbebdaaVL
import Derived.Test.YtedldiimhbebdaaVP
import Derived.Test.YtedldiimhbebdaaPX
namespace Go.Proofs.Ytedldiimhbebdaa.Ai
open Go.Proofs.Ytedldiimhbebdaa
noncomputable section
open Go.RowKit
structure HasV10 (tab : Nat → Option AFunc) : Prop where
  v12 : tab 12 = some af12

theorem hasV10 : HasV10 tabT.get := ⟨by kernel_rfl⟩

theorem base0_get {n i : Nat} (h1 : 7 ≤ i) (h2 : i ≤ n) : (base0 n)[i]? = some false := by
  unfold base0
  rw [setR_get (by simp; omega), if_neg (by omega)]
  simp [show i < n + 1 by omega]

/-- it stands below Root -/
theorem rooted_of {L : List Int} {l : List Pr} {t : Tr} {w : Int} (S : LaidAt t w L l 7) (hl : l.length ≤ 120) (ha : Asc l) (hk : ∀ p ∈ l, -1000 ≤ p.1 ∧ p.1 ≤ 1000) (hL : L.length ≤ 60000) : Rooted ([1, 0, 0, 0, 0, w, 0] ++ L) t := by
  have hlen : ([1, 0, 0, 0, 0, w, 0] ++ L).length = 7 + L.length := by simp; omega
  refine ⟨⟨by omega, by omega⟩, ⟨rfl, rfl⟩, S.word.symm, S.ok _ ⟨by omega, fun j v hv => ?_⟩, ?_, free_of _ _ (fun i hi => ?_) S.nodup, fits_few t l S.fits hl⟩
  · unfold at0
    rw [if_neg (by omega), show 7 + 1 + j - 1 = 7 + j by omega, List.getElem?_append_right (by simp)]
    simp [hv]
  · exact fits_ord t l _ _ S.fits ha (fun p hp => by have := hk p hp; omega)
  · have := S.adr i hi
    exact base0_get (by omega) (by omega)

section
variable {P : Program} {tab : Nat → Option AFunc} (hT : TabOk P tab) (V : HasV tab)
include hT V

theorem plantIdeal_spec (H : Has tab) (HR : HasR tab) (V2 : HasV2 tab) (V3 : HasV3 tab) (V4 : HasV4 tab) (V5 : HasV5 tab) (V6 : HasV6 tab) (V7 : HasV7 tab) (V8 : HasV8 tab) (V9 : HasV9 tab) (V10 : HasV10 tab) (Nu : Num P) (Kn : ∀ h, Fact P 22 [] h (.bool true) h) (Dp : ∀ n : Nat, n ≤ 60 → ∀ h, Fact P 50 [I n] h (I (depN n)) h)
    {h : Heap} {v : Value} {L : List Int} (a : (L = [] ∧ ∃ base cap, v = .slice base 0 cap) ∨ ∃ x p cap, v = .slice (some ⟨x, p, none⟩) L.length cap ∧ RdAt h x p 1 L.length cap (L.map I)) :
    FSpec P 12 [v] h fun v h' => v = .bool true ∧ Same h h' (fun _ => False) := by
  refine fspec_cwf hT V10.v12 rfl ?_
  obtain ⟨v1, h1, F1, ⟨l, u, rfl, o, hasc, hl, hu, hkeys⟩, s1⟩ := pairs2_spec hT H a
  have hou : ∀ y, u = some y → y < h1.next := fun y hy => (o.use y hy).2.1
  obtain ⟨_, h2, F2, rfl, m2, s2⟩ := new_spec hT H h1 2000 (by omega) (by omega)
  have x2 := s2.next
  have hb1 : h1.next < h2.next := m2.lt
  obtain ⟨_, h3, F3, rfl, ⟨u3, m3, n3⟩, s3⟩ := begin_spec hT H V9 m2 (by omega) (by omega) ⟨by omega, by omega⟩
  have x3 := s3.next
  have s13 : Same h1 h3 (fun _ => False) := s2.trans s3 (fun j hj e => by omega)
  have hcm : cellsN l.length ≤ 1100 := by
    by_cases h2 : 2 ≤ l.length
    · exact (partN h2 (by omega)).most
    · have : l.length = 0 ∨ l.length = 1 := by omega
      rcases this with e | e
      · rw [e, cells0]; omega
      · rw [e, cells1]; omega
  have hu3 : ∀ y, u3 = some y → h1.next ≤ y := fun y hy => by have := n3 y hy; omega
  obtain ⟨_, h4, F4, hb⟩ := build_spec hT H Nu (own_pr (o.same s13 (fun _ _ x => x))) (by omega) m3 (fun e => by have := hou _ e; omega) (fun y hy e => by have := hou y hy; have := hu3 y e; omega) (by simp) (by omega) (by omega) (by omega)
  have S := treeF_spec (l.length + 1) l 7 (by omega) (by omega)
  have hLl : (layF (l.length + 1) l 7).2.length = cellsN l.length := layF_len _ _ _ (by omega) (by omega)
  have e7 : ([1, 0, 0, 0, 0, 57, 0] : List Int).length = 7 := rfl
  rw [e7] at hb
  rcases hb with ⟨rfl, _, hroom, ⟨u4, c4, m4, c41, c42, n4⟩, s4⟩ | ⟨rfl, hno, rfl⟩
  rotate_left
  · exact (hno ⟨hasc, by simp; omega⟩).elim
  generalize (layF (l.length + 1) l 7).1 = w at S F4
  generalize (layF (l.length + 1) l 7).2 = LL at S m4 hLl
  generalize treeF (l.length + 1) l 7 = t at S
  have x4 := s4.next
  obtain ⟨x, rfl⟩ : ∃ y, u4 = some y := by
    cases u4 with
    | none => have := m4.non rfl; simp at this
    | some y => exact ⟨y, rfl⟩
  have hxx : h1.next ≤ x := by
    rcases n4 x rfl with e | e
    · exact hu3 x e
    · omega
  have s14 : Same h1 h4 (fun _ => False) := s13.trans s4 (fun j hj e => by
    rcases e with e | e
    · omega
    · have := hu3 _ e; omega)
  have hC4 : ([1, 0, 0, 0, 0, 57, 0] ++ LL).length = 7 + cellsN l.length := by simp [hLl]; omega
  obtain ⟨_, h5, F5, m5, s5⟩ := write_spec hT V9 m4 ⟨by omega, by omega⟩ (a := 6) (by omega) (by omega) (by omega) w
  have eset : ([1, 0, 0, 0, 0, 57, 0] ++ LL).set (6 - 1) w = [1, 0, 0, 0, 0, w, 0] ++ LL := rfl
  rw [eset] at m5
  have R := rooted_of S (by omega) hasc hkeys (by omega)
  have hcont := fits_content t l S.fits
  have hdeep := fits_deep t l S.fits
  have hdl := dep_less (n := l.length) (by omega)
  have x5 := s5.next
  have s15 : Same h1 h5 (fun _ => False) := s14.trans s5 (fun j hj e => by omega)
  have hC5 : (([1, 0, 0, 0, 0, w, 0] ++ LL).length : Int) = 7 + (cellsN l.length : Int) := by simp [hLl]; omega
  obtain ⟨_, h5, F6, rfl, rfl⟩ := used_spec hT H m5
  rw [hC5] at F6
  have F7 := Nu.cel l.length (by omega) h5
  obtain ⟨_, h6, F8, rfl, s6⟩ := sound_spec hT V H V2 V3 V4 V5 m5 R
  have m6 := m5.same s6 (fun x => x) (fun _ _ x => x)
  obtain ⟨_, h7, F9, rfl, s7⟩ := calm_spec hT V H V2 V3 V4 V5 m6 R
  have m7 := m6.same s7 (fun x => x) (fun _ _ x => x)
  obtain ⟨_, h8, F10, rfl, s8⟩ := ideal1_spec hT V H V2 V3 V4 V5 V6 V8 Nu m7 R (fits_idl t l S.fits)
  have m8 := m7.same s8 (fun x => x) (fun _ _ x => x)
  obtain ⟨_, h9, F11, ⟨u9, rfl, o9, n9⟩, s9⟩ := content_spec hT V H V2 V3 V4 V5 V6 m8 R (by rw [hcont]; omega)
  rw [hcont] at F11 o9
  have m9 := m8.same s9 (fun x => x) (fun _ _ x => x)
  have s19 : Same h1 h9 (fun _ => False) := (((s15.trans s6 (fun _ _ x => x)).trans s7 (fun _ _ x => x)).trans s8 (fun _ _ x => x)).trans s9 (fun _ _ x => x)
  obtain ⟨_, h9, F12, rfl, rfl⟩ := alike_spec hT HR (own_pr o9) (own_pr (o.same s19 (fun _ _ x => x))) (by omega)
  obtain ⟨_, h10, F13, rfl, s10⟩ := depth1_spec hT V H V2 V3 V4 V5 V6 V7 (by rw [hdeep]; omega) m9 R
  rw [hdeep, S.word] at F13
  rw [S.word] at F10 F11
  have F14 := Dp l.length (by omega) h10
  have sf : Same h h10 (fun _ => False) := (s1.trans s19 (fun _ _ x => x)).trans s10 (fun _ _ x => x)
  have hbusy : (!t.busy) = true := by rw [fits_busy t l S.fits]; rfl
  rw [hbusy] at F9
  have c0 : ((0 : Int) != 0) = false := rfl
  have w7 : wrapF .i64 (7 + (cellsN l.length : Int)) = 7 + (cellsN l.length : Int) := wrapI (by omega) (by omega)
  have ce : ((7 + (cellsN l.length : Int)) == (7 + (cellsN l.length : Int))) = true := by simp
  have cd : ((depN l.length : Int) == (depN l.length : Int)) = true := by simp
  simp only [af12, cwf_seq, cwf_ops, andThen_normal, owf_nil, o_p, owf_call, bo_eq, optQ_some, pop, popQ, ev, evs, putA, putArgs, look_put, ite_true, ite_false, Nat.reduceEqDiff]
  refine ⟨_, _, F1, ?_⟩
  simp only [cwf_seq, cwf_ops, andThen_normal, owf_nil, o_p, owf_call, behind_eq, bo_eq, optQ_some, pop, popQ, ev, evs, putA, look_put, ite_true, ite_false, Nat.reduceEqDiff]
  refine ⟨_, _, F2, ?_⟩
  simp only [cwf_seq, cwf_ops, andThen_normal, owf_nil, o_p, owf_call, o_on, behind_eq, bo_eq, optQ_some, pop, popQ, ev, evs, putA, look_put, isB_false, abinF_eq, abin, isNilV, Option.isNone_some, decide_true, cond_true, cond_false, ite_true, ite_false, Bool.not_false, Nat.reduceEqDiff, List.getElem?_cons_zero, List.getElem?_cons_succ, c0]
  refine ⟨_, _, F3, ?_⟩
  simp only [cwf_seq, cwf_ops, c_false, cwf_skip, andThen_normal, owf_nil, o_p, owf_call, o_on, behind_eq, bo_eq, optQ_some, pop, popQ, ev, evs, putA, look_put, isB_false, cond_false, ite_true, ite_false, Bool.not_true, Bool.not_false, Nat.reduceEqDiff]
  refine ⟨_, _, F4, ?_⟩
  simp only [cwf_seq, cwf_ops, andThen_normal, owf_nil, o_p, owf_call, behind_eq, bo_eq, optQ_some, pop, popQ, ev, evs, putA, look_put, ite_true, ite_false, Nat.reduceEqDiff, List.getElem?_cons_zero, List.getElem?_cons_succ]
  refine ⟨_, _, F5, ?_⟩
  simp only [cwf_seq, cwf_ops, andThen_normal, owf_nil, owf_call, behind_eq, evs, putA]
  refine ⟨_, _, Kn _, ?_⟩
  simp only [o_p, owf_call, o_on, behind_eq, bo_eq, optQ_some, pop, popQ, ev, evs, putA, look_put, isB_true, cond_true, ite_true, ite_false, Nat.reduceEqDiff]
  refine ⟨_, _, F6, ?_⟩
  simp only [o_p, owf_call, o_on, behind_eq, bo_eq, optQ_some, pop, popQ, ev, evs, putA, look_put, isB_true, cond_false, ite_true, ite_false, Nat.reduceEqDiff]
  refine ⟨_, _, F7, ?_⟩
  simp only [o_p, owf_call, o_on, behind_eq, bo_eq, optQ_some, pop, popQ, ev, evs, putA, look_put, isB_true, abinF_eq, abin, decide_true, cond_true, ite_true, ite_false, Nat.reduceEqDiff, w7, ce]
  refine ⟨_, _, F8, ?_⟩
  simp only [o_p, owf_call, o_on, behind_eq, bo_eq, optQ_some, pop, popQ, ev, evs, putA, look_put, isB_true, cond_true, ite_true, ite_false, Nat.reduceEqDiff]
  refine ⟨_, _, F9, ?_⟩
  simp only [o_p, owf_call, o_on, behind_eq, bo_eq, optQ_some, pop, popQ, ev, evs, putA, look_put, isB_true, cond_true, ite_true, ite_false, Nat.reduceEqDiff]
  refine ⟨_, _, F10, ?_⟩
  simp only [o_p, owf_call, o_on, behind_eq, bo_eq, optQ_some, pop, popQ, ev, evs, putA, look_put, isB_true, cond_true, ite_true, ite_false, Nat.reduceEqDiff]
  refine ⟨_, _, F11, ?_⟩
  simp only [o_p, owf_call, o_on, behind_eq, bo_eq, optQ_some, pop, popQ, ev, evs, putA, look_put, isB_true, ite_true, ite_false, Nat.reduceEqDiff]
  refine ⟨_, _, F12, ?_⟩
  simp only [o_p, owf_call, o_on, behind_eq, bo_eq, optQ_some, pop, popQ, ev, evs, putA, look_put, isB_true, cond_true, ite_true, ite_false, Nat.reduceEqDiff]
  refine ⟨_, _, F13, ?_⟩
  simp only [o_p, owf_call, o_on, behind_eq, bo_eq, optQ_some, pop, popQ, ev, evs, putA, look_put, isB_true, cond_false, ite_true, ite_false, Nat.reduceEqDiff]
  refine ⟨_, _, F14, ?_⟩
  simp only [cwf_ret, andThen_normal, fnQ_ret, owf_nil, o_p, o_on, behind_eq, bo_eq, optQ_some, pop, popQ, ev, putA, look_put, isB_true, abinF_eq, abin, resAll, resA, mkRes1, decide_true, cond_true, ite_true, ite_false, Nat.reduceEqDiff, Option.some.injEq, exists_eq_left', true_and, cd]
  rw [tail_marks h h10 sf.marks]
  exact sf
end
end
end Go.Proofs.Ytedldiimhbebdaa.Ai
