/- The marks are the activation's own: no operation turns them. -/
import Derived.Test.YtedldiimhbebdaaAiSoundW
namespace Go.Proofs.Ytedldiimhbebdaa.Ai
noncomputable section
open Go.RowKit

/-- a call leaves the marks as they were -/
def MarksOk (cf : CallF) : Prop := ∀ t args h v h', cf t args h = some (v, h') → h'.marks = h.marks

theorem wrs_marks {h h' : Heap} {b o : Nat} {vs : List Value} (hw : h.wrs b o vs = some h') : h'.marks = h.marks := by
  unfold Heap.wrs at hw
  split at hw
  · simp only [Bool.cond_eq_ite] at hw
    split at hw
    · cases hw; rfl
    · cases hw
  · cases hw

theorem appA_marks {h h' : Heap} {s bytes : Nat} {base : Option Addr} {len cap : Nat} {news : List Value} {n : Nat} {v : Value} (hv : appA h s bytes base len cap news n = some (v, h')) : h'.marks = h.marks := by
  unfold appA at hv
  simp only [Bool.cond_eq_ite] at hv
  repeat' split at hv
  all_goals first
    | (cases hv; done)
    | (simp only [Option.some.injEq, Prod.mk.injEq] at hv; obtain ⟨_, rfl⟩ := hv; first | rfl | exact wrs_marks (by assumption))

theorem eop_marks {ts : T Value} {h h' : Heap} {q : EOp} {v : Value} (hv : eop ts h q = some (v, h')) : h'.marks = h.marks := by
  cases q <;> simp only [eop, eopQ, Bool.cond_eq_ite] at hv
  all_goals (repeat' split at hv)
  all_goals first
    | (cases hv; done)
    | exact appA_marks hv
    | (simp only [Option.some.injEq, Prod.mk.injEq] at hv; obtain ⟨_, rfl⟩ := hv; first | rfl | exact wrs_marks (by assumption))

theorem step1_marks {cf : CallF} (hm : MarksOk cf) {ts : T Value} {h h' : Heap} {A : AOp} {v : Value} (hv : step1 cf ts h A = some (v, h')) : h'.marks = h.marks := by
  cases A <;> simp only [step1, step1Q] at hv
  case e q => exact eop_marks hv
  case call f l => exact hm _ _ _ _ _ hv
  all_goals (repeat' split at hv)
  all_goals first
    | (cases hv; done)
    | exact hm _ _ _ _ _ hv
    | (simp only [Option.some.injEq, Prod.mk.injEq] at hv; obtain ⟨_, rfl⟩ := hv; rfl)

theorem runOps_marks {cf : CallF} (hm : MarksOk cf) : ∀ (l : List AOper) (ts ts' : T Value) (h h' : Heap), runOps cf l ts h = some (ts', h') → h'.marks = h.marks
  | [], ts, ts', h, h', hv => by simp only [runOps_nil, Option.some.injEq, Prod.mk.injEq] at hv; obtain ⟨_, rfl⟩ := hv; rfl
  | o :: r, ts, ts', h, h', hv => by
    simp only [runOps_cons] at hv
    split at hv
    · split at hv
      · rename_i v h1 hs
        rw [runOps_marks hm r _ _ _ _ hv, step1_marks hm hs]
      · cases hv
    · exact runOps_marks hm r _ _ _ _ hv

theorem runTrace_marks {cf : CallF} (hm : MarksOk cf) : ∀ (l : List AOper) (ts ts' : T Value) (h h' : Heap) (recs : List Rec) (hs : List Heap), runTrace cf l ts h = some (recs, hs, ts', h') → h'.marks = h.marks
  | [], ts, ts', h, h', recs, hs, hv => by simp only [runTrace_nil, Option.some.injEq, Prod.mk.injEq] at hv; obtain ⟨_, _, _, rfl⟩ := hv; rfl
  | o :: r, ts, ts', h, h', recs, hs, hv => by
    simp only [runTrace_cons] at hv
    split at hv
    · rename_i v h1 hs1
      split at hv
      · rename_i recs2 hs2 t2 h2 hr
        simp only [Option.some.injEq, Prod.mk.injEq] at hv
        obtain ⟨_, _, _, rfl⟩ := hv
        rw [runTrace_marks hm r _ _ _ _ _ _ hr]
        split at hs1
        · exact step1_marks hm hs1
        · simp only [Option.some.injEq, Prod.mk.injEq] at hs1; obtain ⟨_, rfl⟩ := hs1; rfl
      · cases hv
    · cases hv

theorem endR_marks {e : AExit} {b : Nat} {M : List Nat} {h h' : Heap} {v : Value} (hv : endR e b M h = some (v, h')) : h'.marks = M := by
  unfold endR at hv
  split at hv
  · simp only [Option.some.injEq, Prod.mk.injEq] at hv; obtain ⟨_, rfl⟩ := hv; rfl
  · cases hv

theorem callF_marks {mm : Memo} (hmm : ∀ f args h v h', mm f args h = some (v, h') → h'.marks = h.marks) (tab : Nat → Option AFunc) (ex : ExF) : MarksOk (callF mm tab ex) := by
  intro t args h v h' hv
  unfold callF at hv
  simp only [Bool.cond_eq_ite] at hv
  repeat' split at hv
  all_goals first
    | (cases hv; done)
    | exact endR_marks hv
    | (simp only [Option.some.injEq] at hv; exact hmm _ _ _ _ _ (by rw [← hv]; assumption))
    | (simp only [Option.some.injEq, Prod.mk.injEq] at hv; obtain ⟨_, rfl⟩ := hv; rfl)

end
end Go.Proofs.Ytedldiimhbebdaa.Ai
