/- For all whole numbers, slices of pairs, slices of whole numbers and bools: ordinate's ordinatelaw21.GrowPlays returns true, and nothing that was there before has turned. No condition. -/
import Derived.Test.YtedldiimhbebdaaGreatPX
import Derived.Test.YtedldiimhbebdaaGreatZN
import Derived.Deep.SlicePairs
import Derived.Test.YtedldiimhbebdaaGreatRows
import Derived.WalkKit
import Derived.ProofKit
import Derived.OpenShut
namespace Go.Proofs.YtedldiimhbebdaaGreat.growPlays
open Go.ChangeShapes Go.WideShapes Go.ChangeAt Go.RowKit Go.Proofs.YtedldiimhbebdaaGreat Go.Proofs.YtedldiimhbebdaaGreat.Ai
set_option linter.unusedVariables false

theorem own : ownKnob Tryz.prog.godebug = none := by kernel_rfl
theorem laidOut : laidOutB Tryz.prog = true := by kernel_rfl

theorem walk (a0 : Int) (s1 : Option Addr) (len1 cap1 : Nat) (z1 : List Pr) (s2 : Option Addr) (len2 cap2 : Nat) (z2 : List Int) (b3 : Bool) (s4 : Option Addr) (len4 cap4 : Nat) (z4 : List Int) (w : World) (w1 : InRow w s1 2 len1 cap1 (flat z1)) (w2 : InRow w s2 1 len2 cap2 (z2.map (.int .i64))) (w4 : InRow w s4 1 len4 cap4 (z4.map (.int .i64))) :
    Calls Tryz.prog 3 #[.int .i64 a0, .slice s1 len1 cap1, .slice s2 len2 cap2, .bool b3, .slice s4 len4 cap4] w fun e w' => e = .returned (.bool true) ∧ Below w.heap.size w w' := by
  obtain ⟨h1, μ1, v1, u1, R1, l1, hv1, i1, _, _⟩ := row_add (rel0 (C := Cc Tryz.prog) w) (by omega) w1
  obtain ⟨h2, μ2, v2, u2, R2, l2, hv2, i2, y2, _⟩ := row_add R1 (by omega) w2
  obtain ⟨h3, μ3, v3, u3, R3, l3, hv3, i3, y3, _⟩ := row_add R2 (by omega) w4
  have p1 : PrE h3 v1 (z1.take len1) u1 := ((i1.same y2 (fun _ _ x => x)).same y3 (fun _ _ x => x)).pairs (by have := w1.pairs_len; omega)
  have p2 : IntsAt h3 v2 (z2.take len2) := (i2.same y3 (fun _ _ x => x)).ints' (by have := w2.ints_len; omega)
  have p4 : IntsAt h3 v3 (z4.take len4) := i3.ints' (by have := w4.ints_len; omega)
  exact law_calls (growPlays_spec tabOk hasG has num hasR hasF3 numF kn19_fact hasL a0 p1 p2 p4 b3) R3 (.cons (.same _ rfl) (.cons ((hv1.mono l2).mono l3) (.cons (hv2.mono l3) (.cons (.same _ rfl) (.single hv3)))))

set_option maxRecDepth 100000 in
theorem lifted (os : Os) (started : os.Started) (H : Type) (enc : TypeId × Value → H) :
    ReturnsInHanded {} Tryz.checked os 3 .any (Rows.growPlaysSpec.pre6 enc Tryz.prog Tryz.f3 Rows.growPlaysRow.domain false) (Rows.growPlaysSpec.post enc Tryz.prog Tryz.f3 false true false false) := by
  refine returnsInHanded_of_change (C := Tryz.checked) own started (by kernel_rfl) Tryz.func3
    (ChangeSpec.witness6 (enc := enc) (C := Tryz.checked) false ⟨#[], #[.int .i64 0, .slice none 0 0, .slice none 0 0, .bool false, .slice none 0 0], []⟩ 8 (by kernel_rfl) (by kernel_rfl) (by kernel_rfl) (by kernel_rfl)) ?_
  intro W base args ds gs before hval0 hW hcnd _
  have hval : ∀ (j : Nat) t v, Tryz.f3.params[j]? = some t → args[j]? = some v → Value.okWide Tryz.prog W .any base t v := hval0
  have hW' := hW
  obtain ⟨p, q, hA0, hV, rfl, hfz, hnd⟩ := hW
  have hA : DataW.TrodAll enc Tryz.prog W 0 (fun _ => true) true Tryz.f3.params.toList args.toList ds p := hA0
  rw [Tryz.params3] at hA hval
  obtain ⟨v0, vs0, d0, ds0, p0, q0, hargs, rfl, rfl, h0, r0⟩ := trodAll_cons hA
  obtain ⟨v1, vs1, d1, ds1, p1, q1, rfl, rfl, rfl, h1, r1⟩ := trodAll_cons r0
  obtain ⟨v2, vs2, d2, ds2, p2, q2, rfl, rfl, rfl, h2, r2⟩ := trodAll_cons r1
  obtain ⟨v3, vs3, d3, ds3, p3, q3, rfl, rfl, rfl, h3, r3⟩ := trodAll_cons r2
  obtain ⟨v4, vs4, d4, ds4, p4, q4, rfl, rfl, rfl, h4, r4⟩ := trodAll_cons r3
  obtain ⟨rfl, rfl, rfl⟩ := trodAll_nil r4
  obtain rfl : args = #[v0, v1, v2, v3, v4] := by cases args; simp_all
  obtain ⟨rfl, rfl⟩ := trodVars_none hV
  obtain ⟨a0, rfl, rfl, rfl, w0⟩ := open_int Tryz.underlying3 (hval 0 3 v0 rfl rfl) h0
  obtain ⟨s1, len1, cap1, rfl⟩ := okWide_slice Tryz.underlying22 (hval 1 22 v1 rfl rfl)
  have k1 := h1
  have lt1 : ∀ x ∈ p1, x.block < W.heap.size := by obtain ⟨m, hm⟩ := k1; exact DataW.trod_lt m _ _ _ hm
  obtain ⟨z1, w1⟩ : ∃ zs : List Pr, InRow W s1 2 len1 cap1 (flat zs) := by
    obtain ⟨fuel, hf⟩ := h1
    rcases Go.Deep.open_slice_pairs Tryz.underlying22 Tryz.underlying36 (by kernel_rfl) rfl rfl (by kernel_rfl) (by kernel_rfl) hf with ⟨hcs, _⟩ | ⟨x, l, c, m, n, V0, V1, D0, D1, P0, P1, hcs, _, hl, hm, hmm, _, hi⟩
    · simp [Value.cells] at hcs
      obtain ⟨rfl, rfl, rfl⟩ := hcs
      exact ⟨[], .inl ⟨rfl, rfl, rfl, rfl⟩⟩
    · simp [Value.cells] at hcs
      obtain ⟨rfl, rfl, rfl⟩ := hcs
      simp at hmm
      obtain ⟨zs, _, hr⟩ := pairs_row hl (fun i h => by
        obtain ⟨q0, q1, q2, q3⟩ := hi i (by omega)
        obtain ⟨z, e0, _⟩ := DataW.trod_int Tryz.underlying2 q2
        obtain ⟨y, e1, _⟩ := DataW.trod_int Tryz.underlying2 q3
        simp at e0 e1
        exact ⟨q0, q1, ⟨z, e0⟩, ⟨y, e1⟩⟩)
      exact ⟨zs, hr⟩
  obtain ⟨s2, len2, cap2, rfl⟩ := okWide_slice Tryz.underlying23 (hval 2 23 v2 rfl rfl)
  have k2 := h2
  have lt2 : ∀ x ∈ p2, x.block < W.heap.size := by obtain ⟨m, hm⟩ := k2; exact DataW.trod_lt m _ _ _ hm
  obtain ⟨z2, w2⟩ : ∃ zs : List Int, InRow W s2 1 len2 cap2 (zs.map (.int .i64)) := by
    obtain ⟨fuel, hf⟩ := h2
    rcases open_ints Tryz.underlying23 Tryz.underlying3 (by kernel_rfl) hf with ⟨hcs, _⟩ | ⟨x, l, c, zs, hcs, _, hl, hm, hz, _, hcell, hwz⟩
    · simp [Value.cells] at hcs
      obtain ⟨rfl, rfl, rfl⟩ := hcs
      exact ⟨[], .inl ⟨rfl, rfl, rfl, rfl⟩⟩
    · simp [Value.cells] at hcs
      obtain ⟨rfl, rfl, rfl⟩ := hcs
      exact ⟨zs, ints_row hl (by simpa using hz) hcell⟩
  obtain ⟨b3, rfl, rfl, rfl⟩ := open_bool Tryz.underlying4 (hval 3 4 v3 rfl rfl) h3
  obtain ⟨s4, len4, cap4, rfl⟩ := okWide_slice Tryz.underlying23 (hval 4 23 v4 rfl rfl)
  have k4 := h4
  have lt4 : ∀ x ∈ p4, x.block < W.heap.size := by obtain ⟨m, hm⟩ := k4; exact DataW.trod_lt m _ _ _ hm
  obtain ⟨z4, w4⟩ : ∃ zs : List Int, InRow W s4 1 len4 cap4 (zs.map (.int .i64)) := by
    obtain ⟨fuel, hf⟩ := h4
    rcases open_ints Tryz.underlying23 Tryz.underlying3 (by kernel_rfl) hf with ⟨hcs, _⟩ | ⟨x, l, c, zs, hcs, _, hl, hm, hz, _, hcell, hwz⟩
    · simp [Value.cells] at hcs
      obtain ⟨rfl, rfl, rfl⟩ := hcs
      exact ⟨[], .inl ⟨rfl, rfl, rfl, rfl⟩⟩
    · simp [Value.cells] at hcs
      obtain ⟨rfl, rfl, rfl⟩ := hcs
      exact ⟨zs, ints_row hl (by simpa using hz) hcell⟩
  clear hA0 hval0
  refine (walk a0 s1 len1 cap1 z1 s2 len2 cap2 z2 b3 s4 len4 cap4 z4 W w1 w2 w4).mono fun e W' ⟨he, bel⟩ => ?_
  subst he
  exact ⟨_, rfl, _, _, _, [], _, [], hW', trodAll_mk1 (shut_bool Tryz.underlying4 _), (trodAll_cons_mk (shut_int Tryz.underlying3 w0) (trodAll_cons_mk (Below.trod laidOut (by kernel_rfl) (of_decide_eq_true (by kernel_rfl)) k1 bel lt1) (trodAll_cons_mk (Below.trod laidOut (by kernel_rfl) (of_decide_eq_true (by kernel_rfl)) k2 bel lt2) (trodAll_cons_mk (shut_bool Tryz.underlying4 b3) (trodAll_cons_mk (Below.trod laidOut (by kernel_rfl) (of_decide_eq_true (by kernel_rfl)) k4 bel lt4) trodAll_mk0))))), rfl, bel.frame _, fun h => by cases h⟩

theorem over : Rows.growPlaysRow.holds Tryz.pinned (OpenSpec.ofChange Rows.growPlaysSpec) :=
  OpenClaim.holds_of_wide 3 Tryz.f3 rfl rfl rfl rfl rfl rfl rfl ⟨rfl, rfl, rfl, rfl, rfl⟩ rfl rfl rfl rfl rfl (by kernel_rfl) Tryz.func3 (by kernel_rfl)
    (of_decide_eq_true (by kernel_rfl)) (by unfold Func.isWrapper; first | (rw [if_pos (by decide +kernel)]; kernel_rfl) | (rw [if_neg (by decide +kernel)]; exact ⟨rfl, rfl⟩))
    (fun os started H enc _ => lifted os started H enc)

theorem proved : Rows.GrowPlaysSaid :=
  over
#print axioms proved
end Go.Proofs.YtedldiimhbebdaaGreat.growPlays
