/- For no argument, in whatever memory: ordinate's ordinatelaw24.WriteKnown returns true, and nothing that was there before has turned. No condition. -/
import Derived.Test.YtikakpoiknjjiaaGreatRows
import Derived.WalkKit
import Derived.ProofKit
import Derived.OpenShut
import Derived.Test.YtikakpoiknjjiaaGreatWriteKnownK3
namespace Go.Proofs.YtikakpoiknjjiaaGreat.writeKnown
open Go.ChangeShapes Go.WideShapes Go.ChangeAt Go.RowKit
set_option linter.unusedVariables false      -- a walk need not use every 'w<i>' (that an integer argument fits its kind)

theorem own : ownKnob Tryz.prog.godebug = none := by kernel_rfl

/-- The walk: a run over the abstract heap, asked of the kernel, is the model's. -/
theorem walk (w : World) : Calls Tryz.prog 5 #[] w fun e w' => e = .returned (.bool true) ∧ Below w.heap.size w w' :=
  open Go.Proofs.YtikakpoiknjjiaaGreat.WriteKnownK in Ai.closed_known tabOk (Ai.memoOf_ok (l := [K2, K3, K4, K5, K6, K7, K8, K9, K10, K11, K12, K13, K14]) (List.forall_mem_cons.2 ⟨k2, List.forall_mem_cons.2 ⟨k3, List.forall_mem_cons.2 ⟨k4, List.forall_mem_cons.2 ⟨k5, List.forall_mem_cons.2 ⟨k6, List.forall_mem_cons.2 ⟨k7, List.forall_mem_cons.2 ⟨k8, List.forall_mem_cons.2 ⟨k9, List.forall_mem_cons.2 ⟨k10, List.forall_mem_cons.2 ⟨k11, List.forall_mem_cons.2 ⟨k12, List.forall_mem_cons.2 ⟨k13, List.forall_mem_cons.2 ⟨k14, fun _ h => nomatch h⟩⟩⟩⟩⟩⟩⟩⟩⟩⟩⟩⟩⟩)) (n := 100000) (by kernel_rfl) w

/-! ### THE ROW's STEP: WRITTEN OUT: LEAVE IT -/
set_option maxRecDepth 100000 in
theorem lifted (os : Os) (started : os.Started) (H : Type) (enc : TypeId × Value → H) :
    ReturnsInHanded {} Tryz.checked os 5 .any (Rows.writeKnownSpec.pre6 enc Tryz.prog Tryz.f5 Rows.writeKnownRow.domain false) (Rows.writeKnownSpec.post enc Tryz.prog Tryz.f5 false true false false) := by
  refine returnsInHanded_of_change (C := Tryz.checked) own started (by kernel_rfl) Tryz.func5
    (ChangeSpec.witness6 (enc := enc) (C := Tryz.checked) false ⟨#[], #[], []⟩ 8 (by kernel_rfl) (by kernel_rfl) (by kernel_rfl) (by kernel_rfl)) ?_
  intro W base args ds gs before hval0 hW hcnd _
  have hval : ∀ (j : Nat) t v, Tryz.f5.params[j]? = some t → args[j]? = some v → Value.okWide Tryz.prog W .any base t v := hval0
  have hW' := hW
  obtain ⟨p, q, hA0, hV, rfl, hfz, hnd⟩ := hW
  have hA : DataW.TrodAll enc Tryz.prog W 0 (fun _ => true) true Tryz.f5.params.toList args.toList ds p := hA0
  rw [Tryz.params5] at hA hval
  obtain ⟨rfl, rfl, rfl⟩ := trodAll_none hA
  obtain ⟨rfl, rfl⟩ := trodVars_none hV
  clear hA0 hval0
  simp only [List.append_nil] at hW'
  refine (walk  W).mono fun e W' ⟨he, hg⟩ => ?_
  subst he
  exact ⟨_, rfl, Ai.law_post (pa := []) (pv := []) hW' (fun _ _ _ => (trodAll_cons_mk (shut_bool Tryz.underlying4 _) trodAll_mk0)) (fun sp _ => rfl) (fun _ _ => rfl) rfl
    hg (ok_one (by kernel_rfl) rfl (okWide_bool_mk Tryz.underlying4 _))⟩

theorem over : Rows.writeKnownRow.holds Tryz.pinned (OpenSpec.ofChange Rows.writeKnownSpec) :=
  OpenClaim.holds_of_wide 5 Tryz.f5 rfl rfl rfl rfl rfl rfl rfl ⟨rfl, rfl, rfl, rfl, rfl⟩ rfl rfl rfl rfl rfl (by kernel_rfl) Tryz.func5 (by kernel_rfl)
    (of_decide_eq_true (by kernel_rfl)) (by unfold Func.isWrapper; first | (rw [if_pos (by decide +kernel)]; kernel_rfl) | (rw [if_neg (by decide +kernel)]; exact ⟨rfl, rfl⟩))
    (fun os started H enc _ => lifted os started H enc)

/-- ████ THE STATEMENT ████ -/
theorem proved : Rows.WriteKnownSaid :=
  over
#print axioms proved
end Go.Proofs.YtikakpoiknjjiaaGreat.writeKnown
