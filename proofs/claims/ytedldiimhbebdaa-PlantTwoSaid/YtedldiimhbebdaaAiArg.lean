/- Arguments that come in: a slice of whole numbers. -/
import Derived.Test.YtedldiimhbebdaaAiLib
import Derived.WalkKit
import Derived.ProofKit
import Derived.OpenShut
import Derived.Below
namespace Go.Proofs.Ytedldiimhbebdaa.Ai
noncomputable section
open Go.RowKit

/-- a slice of whole numbers that came in: nil, or a row of so many cells -/
def IsRow (k : IntKind) (w : World) (a : Option Addr) (len cap : Nat) (zs : List Int) : Prop :=
  (a = none ∧ len = 0 ∧ cap = 0 ∧ zs = []) ∨
  ∃ x, a = some x ∧ len ≤ cap ∧ cap ≤ maxLen ∧ zs.length = cap ∧ (∀ i, i < zs.length → w.cell? (x.add i) = some (.int k (zs.getD i 0))) ∧ ∀ n ∈ zs, (Lit.int k n).wf = true

/-- the numbers, to be read -/
def IntsAt (h : Heap) (v : Value) (L : List Int) : Prop := (L = [] ∧ ∃ base cap, v = .slice base 0 cap) ∨ ∃ x p cap, v = .slice (some ⟨x, p, none⟩) L.length cap ∧ RdAt h x p 1 L.length cap (L.map I)

theorem cell_cells {w : World} {b o : Nat} {v : Value} (h : w.cell? ⟨b, o, none⟩ = some v) : ∃ cc el fr, w.heap[b]? = some (.cells cc el fr) ∧ cc[o]? = some v := by
  unfold World.cell? at h
  cases hb : w.heap[b]? with
  | none => simp [hb] at h
  | some ob => cases ob <;> simp_all

theorem ints_in {C : CRel} {W : World} {a : Option Addr} {len cap : Nat} {zs : List Int} (r : IsRow .i64 W a len cap zs) :
    ∃ (h : Heap) (μ : Map) (v : Value), Rel C μ h ⟨W.heap.size, fun _ => none⟩ W W ∧ VRel μ v (.slice a len cap) ∧ IntsAt h v (zs.take len) := by
  rcases r with ⟨rfl, rfl, rfl, rfl⟩ | ⟨x, rfl, hl, _, hz, hcell, _⟩
  · exact ⟨heap0, _, .slice none 0 0, rel0 W, .same _ rfl, .inl ⟨rfl, _, _, rfl⟩⟩
  · by_cases hc : cap = 0
    · have hl0 : len = 0 := by omega
      subst hc; subst hl0
      exact ⟨heap0, _, .slice (some ⟨0, 0, some 0⟩) 0 0, rel0 W, .vague 0 0 0 x 0, .inl ⟨by simp, _, _, rfl⟩⟩
    · obtain ⟨b, off, spot⟩ := x
      have hc0 := hcell 0 (by omega)
      have hspot : spot = none := by simpa [Addr.add] using World.cell?_spot hc0
      subst hspot
      have hadd : ∀ i, (⟨b, off, none⟩ : Addr).add i = ⟨b, off + i, none⟩ := fun i => by unfold Addr.add; split <;> simp_all
      have hb : b < W.heap.size := by
        obtain ⟨cc, el, fr, h1, _⟩ := cell_cells (by simpa [Addr.add] using hc0)
        exact (Array.getElem?_eq_some_iff.1 h1).1
      have hgz : ∀ j k, (T.nil.put 0 (⟨zs.map I, cap, 1, false, false⟩ : Blk)).get j = some k → j = 0 ∧ k = ⟨zs.map I, cap, 1, false, false⟩ := fun j k hj => by
        by_cases h0 : j = 0
        · subst h0; rw [T.get_put_same] at hj; exact ⟨rfl, (Option.some.inj hj).symm⟩
        · rw [T.get_put_other _ _ h0, T.get_nil] at hj; cases hj
      refine ⟨⟨T.nil.put 0 ⟨zs.map I, cap, 1, false, false⟩, 1, .nil, []⟩, fun j => if j = 0 then some ⟨b, off, 0, 1, cap⟩ else none, .slice (some ⟨0, 0, none⟩) len cap, ?_, ?_, ?_⟩
      · refine { below := Below.refl _ _, size := Nat.le_refl _, zk := fun i o h => (by cases h), fresh := fun j e he => ?_, blk := fun j k hj => ?_, apart := fun j j' k k' e e' hj _ _ ho => ?_, aux := ⟨fun b k h => by simp [T.get_nil] at h, fun b b' k k' e e' h => by simp [T.get_nil] at h, fun m h => by simp at h, List.Pairwise.nil⟩ }
        · by_cases h0 : j = 0
          · subst h0; exact Nat.lt_succ_self _
          · simp [h0] at he
        · obtain ⟨rfl, rfl⟩ := hgz j k hj
          refine ⟨_, if_pos rfl, ⟨rfl, rfl, by simp [hz], fun _ => rfl, fun h => (by cases h), fun _ => hb, fun i v hi => ?_⟩⟩
          have hi' : i < zs.length := by
            have := (List.getElem?_eq_some_iff.1 hi).1
            simpa using this
          obtain ⟨cc, el, fr, h1, h2⟩ := cell_cells (show W.cell? ⟨b, off + i, none⟩ = _ by rw [← hadd]; exact hcell i hi')
          have e : v = I (zs.getD i 0) := by
            simp only [List.getElem?_map, List.getElem?_eq_getElem hi', Option.map_some, Option.some.injEq] at hi
            rw [← hi]; simp [hi']
          exact ⟨cc, el, fr, _, h1, h2, by rw [e]; exact .same _ rfl⟩
        · obtain ⟨_, rfl⟩ := hgz j k hj
          cases ho
      · have := VRel.slice (μ := fun j => if j = 0 then some (⟨b, off, 0, 1, cap⟩ : Ent) else none) 0 0 len cap ⟨b, off, 0, 1, cap⟩ (if_pos rfl)
        simpa using this
      · by_cases hl0 : len = 0
        · subst hl0
          exact .inl ⟨by simp, _, _, rfl⟩
        · refine .inr ⟨0, 0, cap, by simp [hz, Nat.min_eq_left hl], ⟨⟨(⟨zs.map I, cap, 1, false, false⟩ : Blk), T.get_put_same T.nil 0 (⟨zs.map I, cap, 1, false, false⟩ : Blk), rfl, ?_, by simp [hz]; omega⟩, by simp; omega, Nat.lt_succ_self _⟩⟩
          simp [List.map_take, hz, Nat.min_eq_left hl]

/-- what is shown of a law, from what came in -/
theorem law_calls {P : Program} {f : Nat} {args args' : List Value} {h : Heap} {μ : Map} {W : World} {X : Heap → Prop} (s : FSpec P f args h fun v h' => v = .bool true ∧ X h') (R : Rel (Cc P) μ h ⟨W.heap.size, fun _ => none⟩ W W) (ha : VsRel μ args args') :
    Calls P f args'.toArray W fun e w' => e = .returned (.bool true) ∧ Below W.heap.size W w' := by
  obtain ⟨v, h', F, rfl, _⟩ := s
  refine (F.calls _ _ μ W args' R ha).mono ?_
  rintro e w' ⟨μ', v', rfl, _, R', hv⟩
  exact ⟨by rw [hv.bool], R'.below⟩

end
end Go.Proofs.Ytedldiimhbebdaa.Ai
