/- For all whole numbers, slices of pairs, slices of whole numbers and bools: ordinate's ordinatelaw10.PlantTells returns true, and nothing that was there before has turned. No condition. -/
import Derived.Test.YtedldiimhbebdaaPX
import Derived.Test.YtedldiimhbebdaaQX
import Derived.Test.YtedldiimhbebdaaPN
import Derived.Test.YtedldiimhbebdaaQN
import Derived.Deep.SlicePairs
import Derived.Test.YtedldiimhbebdaaRows
import Derived.WalkKit
import Derived.ProofKit
import Derived.OpenShut
namespace Go.Proofs.Ytedldiimhbebdaa.plantTells
open Go.ChangeShapes Go.WideShapes Go.ChangeAt Go.RowKit Go.Proofs.Ytedldiimhbebdaa Go.Proofs.Ytedldiimhbebdaa.Ai
set_option linter.unusedVariables false

theorem own : ownKnob Try.prog.godebug = none := by kernel_rfl
theorem laidOut : laidOutB Try.prog = true := by kernel_rfl

theorem walk (a0 : Int) (a1 : Int) (s2 : Option Addr) (len2 cap2 : Nat) (z2 : List Pr) (s3 : Option Addr) (len3 cap3 : Nat) (z3 : List Int) (b4 : Bool) (w : World) (w2 : InRow w s2 2 len2 cap2 (flat z2)) (w3 : InRow w s3 1 len3 cap3 (z3.map (.int .i64))) :
    Calls Try.prog 4 #[.int .i64 a0, .int .i64 a1, .slice s2 len2 cap2, .slice s3 len3 cap3, .bool b4] w fun e w' => e = .returned (.bool true) ∧ Below w.heap.size w w' := by
  obtain ⟨h1, μ1, v1, u1, R1, l1, hv1, i1, _, _⟩ := row_add (rel0 (C := Cc Try.prog) w) (by omega) w2
  obtain ⟨h2, μ2, v2, u2, R2, l2, hv2, i2, y2, _⟩ := row_add R1 (by omega) w3
  have p2 : PrE h2 v1 (z2.take len2) u1 := (i1.same y2 (fun _ _ x => x)).pairs (by have := w2.pairs_len; omega)
  have p3 : IntsAt h2 v2 (z3.take len3) := i2.ints' (by have := w3.ints_len; omega)
  exact law_calls (plantTells_spec tabOk has hasR num numR kn_fact a0 a1 p2 p3 b4) R2 (.cons (.same _ rfl) (.cons (.same _ rfl) (.cons (hv1.mono l2) (.cons hv2 (.single (.same _ rfl))))))

set_option maxRecDepth 100000 in
theorem lifted (os : Os) (started : os.Started) (H : Type) (enc : TypeId × Value → H) :
    ReturnsInHanded {} Try.checked os 4 .any (Rows.plantTellsSpec.pre6 enc Try.prog Try.f4 Rows.plantTellsRow.domain false) (Rows.plantTellsSpec.post enc Try.prog Try.f4 false true false false) := by
  refine returnsInHanded_of_change (C := Try.checked) own started (by kernel_rfl) Try.func4
    (ChangeSpec.witness6 (enc := enc) (C := Try.checked) false ⟨#[], #[.int .i64 0, .int .i64 0, .slice none 0 0, .slice none 0 0, .bool false], []⟩ 8 (by kernel_rfl) (by kernel_rfl) (by kernel_rfl) (by kernel_rfl)) ?_
  intro W base args ds gs before hval0 hW hcnd _
  have hval : ∀ (j : Nat) t v, Try.f4.params[j]? = some t → args[j]? = some v → Value.okWide Try.prog W .any base t v := hval0
  have hW' := hW
  obtain ⟨p, q, hA0, hV, rfl, hfz, hnd⟩ := hW
  have hA : DataW.TrodAll enc Try.prog W 0 (fun _ => true) true Try.f4.params.toList args.toList ds p := hA0
  rw [Try.params4] at hA hval
  obtain ⟨v0, vs0, d0, ds0, p0, q0, hargs, rfl, rfl, h0, r0⟩ := trodAll_cons hA
  obtain ⟨v1, vs1, d1, ds1, p1, q1, rfl, rfl, rfl, h1, r1⟩ := trodAll_cons r0
  obtain ⟨v2, vs2, d2, ds2, p2, q2, rfl, rfl, rfl, h2, r2⟩ := trodAll_cons r1
  obtain ⟨v3, vs3, d3, ds3, p3, q3, rfl, rfl, rfl, h3, r3⟩ := trodAll_cons r2
  obtain ⟨v4, vs4, d4, ds4, p4, q4, rfl, rfl, rfl, h4, r4⟩ := trodAll_cons r3
  obtain ⟨rfl, rfl, rfl⟩ := trodAll_nil r4
  obtain rfl : args = #[v0, v1, v2, v3, v4] := by cases args; simp_all
  obtain ⟨rfl, rfl⟩ := trodVars_none hV
  obtain ⟨a0, rfl, rfl, rfl, w0⟩ := open_int Try.underlying3 (hval 0 3 v0 rfl rfl) h0
  obtain ⟨a1, rfl, rfl, rfl, w1⟩ := open_int Try.underlying3 (hval 1 3 v1 rfl rfl) h1
  obtain ⟨s2, len2, cap2, rfl⟩ := okWide_slice Try.underlying33 (hval 2 33 v2 rfl rfl)
  have k2 := h2
  have lt2 : ∀ x ∈ p2, x.block < W.heap.size := by obtain ⟨m, hm⟩ := k2; exact DataW.trod_lt m _ _ _ hm
  obtain ⟨z2, w2⟩ : ∃ zs : List Pr, InRow W s2 2 len2 cap2 (flat zs) := by
    obtain ⟨fuel, hf⟩ := h2
    rcases Go.Deep.open_slice_pairs Try.underlying33 Try.underlying32 (by kernel_rfl) rfl rfl (by kernel_rfl) (by kernel_rfl) hf with ⟨hcs, _⟩ | ⟨x, l, c, m, n, V0, V1, D0, D1, P0, P1, hcs, _, hl, hm, hmm, _, hi⟩
    · simp [Value.cells] at hcs
      obtain ⟨rfl, rfl, rfl⟩ := hcs
      exact ⟨[], .inl ⟨rfl, rfl, rfl, rfl⟩⟩
    · simp [Value.cells] at hcs
      obtain ⟨rfl, rfl, rfl⟩ := hcs
      simp at hmm
      obtain ⟨zs, _, hr⟩ := pairs_row hl (fun i h => by
        obtain ⟨q0, q1, q2, q3⟩ := hi i (by omega)
        obtain ⟨z, e0, _⟩ := DataW.trod_int Try.underlying2 q2
        obtain ⟨y, e1, _⟩ := DataW.trod_int Try.underlying2 q3
        simp at e0 e1
        exact ⟨q0, q1, ⟨z, e0⟩, ⟨y, e1⟩⟩)
      exact ⟨zs, hr⟩
  obtain ⟨s3, len3, cap3, rfl⟩ := okWide_slice Try.underlying36 (hval 3 36 v3 rfl rfl)
  have k3 := h3
  have lt3 : ∀ x ∈ p3, x.block < W.heap.size := by obtain ⟨m, hm⟩ := k3; exact DataW.trod_lt m _ _ _ hm
  obtain ⟨z3, w3⟩ : ∃ zs : List Int, InRow W s3 1 len3 cap3 (zs.map (.int .i64)) := by
    obtain ⟨fuel, hf⟩ := h3
    rcases open_ints Try.underlying36 Try.underlying3 (by kernel_rfl) hf with ⟨hcs, _⟩ | ⟨x, l, c, zs, hcs, _, hl, hm, hz, _, hcell, hwz⟩
    · simp [Value.cells] at hcs
      obtain ⟨rfl, rfl, rfl⟩ := hcs
      exact ⟨[], .inl ⟨rfl, rfl, rfl, rfl⟩⟩
    · simp [Value.cells] at hcs
      obtain ⟨rfl, rfl, rfl⟩ := hcs
      exact ⟨zs, ints_row hl (by simpa using hz) hcell⟩
  obtain ⟨b4, rfl, rfl, rfl⟩ := open_bool Try.underlying4 (hval 4 4 v4 rfl rfl) h4
  clear hA0 hval0
  refine (walk a0 a1 s2 len2 cap2 z2 s3 len3 cap3 z3 b4 W w2 w3).mono fun e W' ⟨he, bel⟩ => ?_
  subst he
  exact ⟨_, rfl, _, _, _, [], _, [], hW', trodAll_mk1 (shut_bool Try.underlying4 _), (trodAll_cons_mk (shut_int Try.underlying3 w0) (trodAll_cons_mk (shut_int Try.underlying3 w1) (trodAll_cons_mk (Below.trod laidOut (by kernel_rfl) (of_decide_eq_true (by kernel_rfl)) k2 bel lt2) (trodAll_cons_mk (Below.trod laidOut (by kernel_rfl) (of_decide_eq_true (by kernel_rfl)) k3 bel lt3) (trodAll_cons_mk (shut_bool Try.underlying4 b4) trodAll_mk0))))), rfl, bel.frame _, fun h => by cases h⟩

theorem over : Rows.plantTellsRow.holds Try.pinned (OpenSpec.ofChange Rows.plantTellsSpec) :=
  OpenClaim.holds_of_wide 4 Try.f4 rfl rfl rfl rfl rfl rfl rfl ⟨rfl, rfl, rfl, rfl, rfl⟩ rfl rfl rfl rfl rfl (by kernel_rfl) Try.func4 (by kernel_rfl)
    (of_decide_eq_true (by kernel_rfl)) (by unfold Func.isWrapper; first | (rw [if_pos (by decide +kernel)]; kernel_rfl) | (rw [if_neg (by decide +kernel)]; exact ⟨rfl, rfl⟩))
    (fun os started H enc _ => lifted os started H enc)

theorem proved : Rows.PlantTellsSaid :=
  over
#print axioms proved
end Go.Proofs.Ytedldiimhbebdaa.plantTells
