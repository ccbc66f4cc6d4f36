/- For every slice of whole numbers: ordinate's ordinatelaw10.PlantWide returns true, and nothing that was there before has turned. No condition. -/
import Derived.Test.YtedldiimhbebdaaPX
import Derived.Test.YtedldiimhbebdaaVU
import Derived.Test.YtedldiimhbebdaaPN
import Derived.Deep.SlicePairs
import Derived.Test.YtedldiimhbebdaaRows
import Derived.WalkKit
import Derived.ProofKit
import Derived.OpenShut
namespace Go.Proofs.Ytedldiimhbebdaa.plantWide
open Go.ChangeShapes Go.WideShapes Go.ChangeAt Go.RowKit Go.Proofs.Ytedldiimhbebdaa Go.Proofs.Ytedldiimhbebdaa.Ai
set_option linter.unusedVariables false

theorem own : ownKnob Try.prog.godebug = none := by kernel_rfl
theorem laidOut : laidOutB Try.prog = true := by kernel_rfl

theorem walk (s0 : Option Addr) (len0 cap0 : Nat) (z0 : List Int) (w : World) (w0 : InRow w s0 1 len0 cap0 (z0.map (.int .i64))) (b0 : ∀ k ∈ z0, -9223372036854775808 ≤ k ∧ k ≤ 9223372036854775807) :
    Calls Try.prog 10 #[.slice s0 len0 cap0] w fun e w' => e = .returned (.bool true) ∧ Below w.heap.size w w' := by
  obtain ⟨h1, μ1, v1, u1, R1, l1, hv1, i1, _, _⟩ := row_add (rel0 (C := Cc Try.prog) w) (by omega) w0
  have p1 : IntsAt h1 v1 (z0.take len0) := i1.ints' (by have := w0.ints_len; omega)
  exact law_calls (plantWide_spec tabOk hasV has hasV2 hasV3 hasV4 hasV5 hasV6 hasV8 hasV9 hasV12 hasV13 num kn_fact p1 (fun k hk => b0 k (List.mem_of_mem_take hk))) R1 (.single hv1)

set_option maxRecDepth 100000 in
theorem lifted (os : Os) (started : os.Started) (H : Type) (enc : TypeId × Value → H) :
    ReturnsInHanded {} Try.checked os 10 .any (Rows.plantWideSpec.pre6 enc Try.prog Try.f10 Rows.plantWideRow.domain false) (Rows.plantWideSpec.post enc Try.prog Try.f10 false true false false) := by
  refine returnsInHanded_of_change (C := Try.checked) own started (by kernel_rfl) Try.func10
    (ChangeSpec.witness6 (enc := enc) (C := Try.checked) false ⟨#[], #[.slice none 0 0], []⟩ 8 (by kernel_rfl) (by kernel_rfl) (by kernel_rfl) (by kernel_rfl)) ?_
  intro W base args ds gs before hval0 hW hcnd _
  have hval : ∀ (j : Nat) t v, Try.f10.params[j]? = some t → args[j]? = some v → Value.okWide Try.prog W .any base t v := hval0
  have hW' := hW
  obtain ⟨p, q, hA0, hV, rfl, hfz, hnd⟩ := hW
  have hA : DataW.TrodAll enc Try.prog W 0 (fun _ => true) true Try.f10.params.toList args.toList ds p := hA0
  rw [Try.params10] at hA hval
  obtain ⟨v0, vs0, d0, ds0, p0, q0, hargs, rfl, rfl, h0, r0⟩ := trodAll_cons hA
  obtain ⟨rfl, rfl, rfl⟩ := trodAll_nil r0
  obtain rfl : args = #[v0] := by cases args; simp_all
  obtain ⟨rfl, rfl⟩ := trodVars_none hV
  obtain ⟨s0, len0, cap0, rfl⟩ := okWide_slice Try.underlying44 (hval 0 44 v0 rfl rfl)
  have k0 := h0
  have lt0 : ∀ x ∈ p0, x.block < W.heap.size := by obtain ⟨m, hm⟩ := k0; exact DataW.trod_lt m _ _ _ hm
  obtain ⟨z0, w0, b0⟩ : ∃ zs : List Int, InRow W s0 1 len0 cap0 (zs.map (.int .i64)) ∧ ∀ k ∈ zs, -9223372036854775808 ≤ k ∧ k ≤ 9223372036854775807 := by
    obtain ⟨fuel, hf⟩ := h0
    rcases open_ints Try.underlying44 Try.underlying2 (by kernel_rfl) hf with ⟨hcs, _⟩ | ⟨x, l, c, zs, hcs, _, hl, hm, hz, _, hcell, hwz⟩
    · simp [Value.cells] at hcs
      obtain ⟨rfl, rfl, rfl⟩ := hcs
      exact ⟨[], .inl ⟨rfl, rfl, rfl, rfl⟩, by simp⟩
    · simp [Value.cells] at hcs
      obtain ⟨rfl, rfl, rfl⟩ := hcs
      exact ⟨zs, ints_row hl (by simpa using hz) hcell, fun k hk => by
        have := hwz k hk
        simp only [Lit.wf, Bool.and_eq_true, decide_eq_true_eq] at this
        have e1 : IntKind.i64.min = -9223372036854775808 := by decide
        have e2 : IntKind.i64.max = 9223372036854775807 := by decide
        rw [e1, e2] at this
        exact this⟩
  clear hA0 hval0
  refine (walk s0 len0 cap0 z0 W w0 b0).mono fun e W' ⟨he, bel⟩ => ?_
  subst he
  exact ⟨_, rfl, _, _, _, [], _, [], hW', trodAll_mk1 (shut_bool Try.underlying4 _), (trodAll_cons_mk (Below.trod laidOut (by kernel_rfl) (of_decide_eq_true (by kernel_rfl)) k0 bel lt0) trodAll_mk0), rfl, bel.frame _, fun h => by cases h⟩

theorem over : Rows.plantWideRow.holds Try.pinned (OpenSpec.ofChange Rows.plantWideSpec) :=
  OpenClaim.holds_of_wide 10 Try.f10 rfl rfl rfl rfl rfl rfl rfl ⟨rfl, rfl, rfl, rfl, rfl⟩ rfl rfl rfl rfl rfl (by kernel_rfl) Try.func10 (by kernel_rfl)
    (of_decide_eq_true (by kernel_rfl)) (by unfold Func.isWrapper; first | (rw [if_pos (by decide +kernel)]; kernel_rfl) | (rw [if_neg (by decide +kernel)]; exact ⟨rfl, rfl⟩))
    (fun os started H enc _ => lifted os started H enc)

theorem proved : Rows.PlantWideSaid :=
  over
#print axioms proved
end Go.Proofs.Ytedldiimhbebdaa.plantWide
