/- For no argument, in whatever memory: ordinate's ordinatelaw9.ViewKnown returns true, and nothing that was there before has turned. No condition. -/
import Derived.Test.YtikakpoiknjjiaaRows
import Derived.WalkKit
import Derived.ProofKit
import Derived.OpenShut
import Derived.Test.YtikakpoiknjjiaaViewKnownK3
namespace Go.Proofs.Ytikakpoiknjjiaa.viewKnown
open Go.ChangeShapes Go.WideShapes Go.ChangeAt Go.RowKit
set_option linter.unusedVariables false      -- a walk need not use every 'w<i>' (that an integer argument fits its kind)

theorem own : ownKnob Try.prog.godebug = none := by kernel_rfl

/-- The walk: a run over the abstract heap, asked of the kernel, is the model's. -/
theorem walk (w : World) : Calls Try.prog 3 #[] w fun e w' => e = .returned (.bool true) ∧ Below w.heap.size w w' :=
  open Go.Proofs.Ytikakpoiknjjiaa.ViewKnownK in Ai.closed_known tabOk (Ai.memoOf_ok (l := [K0, K1, K2, K3, K5, K6, K7, K8, K9, K10, K11, K12, K13, K14, K15, K17, K18, K19, K20, K21, K22, K24, K25, K26, K27]) (List.forall_mem_cons.2 ⟨k0, List.forall_mem_cons.2 ⟨k1, List.forall_mem_cons.2 ⟨k2, List.forall_mem_cons.2 ⟨k3, List.forall_mem_cons.2 ⟨k5, List.forall_mem_cons.2 ⟨k6, List.forall_mem_cons.2 ⟨k7, List.forall_mem_cons.2 ⟨k8, List.forall_mem_cons.2 ⟨k9, List.forall_mem_cons.2 ⟨k10, List.forall_mem_cons.2 ⟨k11, List.forall_mem_cons.2 ⟨k12, List.forall_mem_cons.2 ⟨k13, List.forall_mem_cons.2 ⟨k14, List.forall_mem_cons.2 ⟨k15, List.forall_mem_cons.2 ⟨k17, List.forall_mem_cons.2 ⟨k18, List.forall_mem_cons.2 ⟨k19, List.forall_mem_cons.2 ⟨k20, List.forall_mem_cons.2 ⟨k21, List.forall_mem_cons.2 ⟨k22, List.forall_mem_cons.2 ⟨k24, List.forall_mem_cons.2 ⟨k25, List.forall_mem_cons.2 ⟨k26, List.forall_mem_cons.2 ⟨k27, fun _ h => nomatch h⟩⟩⟩⟩⟩⟩⟩⟩⟩⟩⟩⟩⟩⟩⟩⟩⟩⟩⟩⟩⟩⟩⟩⟩⟩)) (n := 100000) (by kernel_rfl) w

/-! ### THE ROW's STEP: WRITTEN OUT: LEAVE IT -/
set_option maxRecDepth 100000 in
theorem lifted (os : Os) (started : os.Started) (H : Type) (enc : TypeId × Value → H) :
    ReturnsInHanded {} Try.checked os 3 .any (Rows.viewKnownSpec.pre6 enc Try.prog Try.f3 Rows.viewKnownRow.domain false) (Rows.viewKnownSpec.post enc Try.prog Try.f3 false true false false) := by
  refine returnsInHanded_of_change (C := Try.checked) own started (by kernel_rfl) Try.func3
    (ChangeSpec.witness6 (enc := enc) (C := Try.checked) false ⟨#[], #[], []⟩ 8 (by kernel_rfl) (by kernel_rfl) (by kernel_rfl) (by kernel_rfl)) ?_
  intro W base args ds gs before hval0 hW hcnd _
  have hval : ∀ (j : Nat) t v, Try.f3.params[j]? = some t → args[j]? = some v → Value.okWide Try.prog W .any base t v := hval0
  have hW' := hW
  obtain ⟨p, q, hA0, hV, rfl, hfz, hnd⟩ := hW
  have hA : DataW.TrodAll enc Try.prog W 0 (fun _ => true) true Try.f3.params.toList args.toList ds p := hA0
  rw [Try.params3] at hA hval
  obtain ⟨rfl, rfl, rfl⟩ := trodAll_none hA
  obtain ⟨rfl, rfl⟩ := trodVars_none hV
  clear hA0 hval0
  simp only [List.append_nil] at hW'
  refine (walk  W).mono fun e W' ⟨he, hg⟩ => ?_
  subst he
  exact ⟨_, rfl, Ai.law_post (pa := []) (pv := []) hW' (fun _ _ _ => (trodAll_cons_mk (shut_bool Try.underlying4 _) trodAll_mk0)) (fun sp _ => rfl) (fun _ _ => rfl) rfl
    hg (ok_one (by kernel_rfl) rfl (okWide_bool_mk Try.underlying4 _))⟩

theorem over : Rows.viewKnownRow.holds Try.pinned (OpenSpec.ofChange Rows.viewKnownSpec) :=
  OpenClaim.holds_of_wide 3 Try.f3 rfl rfl rfl rfl rfl rfl rfl ⟨rfl, rfl, rfl, rfl, rfl⟩ rfl rfl rfl rfl rfl (by kernel_rfl) Try.func3 (by kernel_rfl)
    (of_decide_eq_true (by kernel_rfl)) (by unfold Func.isWrapper; first | (rw [if_pos (by decide +kernel)]; kernel_rfl) | (rw [if_neg (by decide +kernel)]; exact ⟨rfl, rfl⟩))
    (fun os started H enc _ => lifted os started H enc)

/-- ████ THE STATEMENT ████ -/
theorem proved : Rows.ViewKnownSaid :=
  over
#print axioms proved
end Go.Proofs.Ytikakpoiknjjiaa.viewKnown
