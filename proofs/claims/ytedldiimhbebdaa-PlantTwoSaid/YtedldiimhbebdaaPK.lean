/- One more slice of whole numbers that came in. -/
import Derived.Test.YtedldiimhbebdaaPJ
namespace Go.Proofs.Ytedldiimhbebdaa.Ai
open Go.Proofs.Ytedldiimhbebdaa
noncomputable section
open Go.RowKit

theorem ints_add {C : CRel} {W : World} {h : Heap} {μ : Map} (R : Rel C μ h ⟨W.heap.size, fun _ => none⟩ W W) {a : Option Addr} {len cap : Nat} {zs : List Int} (r : IsRow .i64 W a len cap zs) :
    ∃ (h' : Heap) (μ' : Map) (v : Value), Rel C μ' h' ⟨W.heap.size, fun _ => none⟩ W W ∧ μ.le μ' ∧ VRel μ' v (.slice a len cap) ∧ IntsAt h' v (zs.take len) ∧ Same h h' (fun _ => False) := by
  rcases r with ⟨rfl, rfl, rfl, rfl⟩ | ⟨x, rfl, hl, _, hz, hcell, _⟩
  · exact ⟨h, μ, .slice none 0 0, R, μ.le_refl, .same _ rfl, .inl ⟨rfl, _, _, rfl⟩, Same.refl _ _⟩
  · by_cases hc : cap = 0
    · have hl0 : len = 0 := by omega
      subst hc; subst hl0
      exact ⟨h, μ, .slice (some ⟨0, 0, some 0⟩) 0 0, R, μ.le_refl, .vague 0 0 0 x 0, .inl ⟨by simp, _, _, rfl⟩, Same.refl _ _⟩
    · obtain ⟨b, off, spot⟩ := x
      have hc0 := hcell 0 (by omega)
      have hspot : spot = none := by simpa [Addr.add] using World.cell?_spot hc0
      subst hspot
      have hadd : ∀ i, (⟨b, off, none⟩ : Addr).add i = ⟨b, off + i, none⟩ := fun i => by unfold Addr.add; split <;> simp_all
      have hb : b < W.heap.size := by
        obtain ⟨cc, el, fr, h1, _⟩ := cell_cells (by simpa [Addr.add] using hc0)
        exact (Array.getElem?_eq_some_iff.1 h1).1
      have hle : μ.le (μ.put h.next ⟨b, off, 0, 1, cap⟩) := Map.le_put (R.next_none (Nat.le_refl _))
      refine ⟨h.new ⟨zs.map I, cap, 1, false, false⟩, μ.put h.next ⟨b, off, 0, 1, cap⟩, .slice (some ⟨h.next, 0, none⟩) len cap, ?_, hle, ?_, ?_, Same.new⟩
      · refine { below := R.below, size := R.size, zk := R.zk, fresh := fun j e he => ?_, blk := fun j k hj => ?_, apart := fun j j' k k' e e' hj hj' hne ho ho' n1 n2 he he' => ?_, aux := R.aux.keep hle (fun i o ho _ => ho) }
        · rw [new_next]
          by_cases h0 : j = h.next
          · omega
          · rw [Map.put_other h0] at he
            have := R.fresh j e he; omega
        · rw [new_get] at hj
          by_cases h0 : j = h.next
          · rw [if_pos h0, Option.some.injEq] at hj
            subst hj; subst h0
            refine ⟨_, Map.put_same _ _ _, ⟨rfl, rfl, by simp [hz], fun _ => rfl, fun h => (by cases h), fun _ => hb, fun i v hi => ?_⟩⟩
            have hi' : i < zs.length := by
              have := (List.getElem?_eq_some_iff.1 hi).1
              simpa using this
            obtain ⟨cc, el, fr, h1, h2⟩ := cell_cells (show W.cell? ⟨b, off + i, none⟩ = _ by rw [← hadd]; exact hcell i hi')
            have e : v = I (zs.getD i 0) := by
              simp only [List.getElem?_map, List.getElem?_eq_getElem hi', Option.map_some, Option.some.injEq] at hi
              rw [← hi]; simp [hi']
            exact ⟨cc, el, fr, _, h1, h2, by rw [e]; exact .same _ rfl⟩
          · rw [if_neg h0] at hj
            obtain ⟨e, he, xx⟩ := R.blk j k hj
            exact ⟨e, hle _ _ he, xx.mono hle (fun _ _ => rfl)⟩
        · rw [new_get] at hj hj'
          by_cases h0 : j = h.next
          · rw [if_pos h0, Option.some.injEq] at hj
            subst hj; cases ho
          · by_cases h0' : j' = h.next
            · rw [if_pos h0', Option.some.injEq] at hj'
              subst hj'; cases ho'
            · rw [if_neg h0] at hj
              rw [if_neg h0'] at hj'
              rw [Map.put_other h0] at he
              rw [Map.put_other h0'] at he'
              exact R.apart j j' k k' e e' hj hj' hne ho ho' n1 n2 he he'
      · have := VRel.slice (μ := μ.put h.next ⟨b, off, 0, 1, cap⟩) h.next 0 len cap ⟨b, off, 0, 1, cap⟩ (Map.put_same _ _ _)
        simpa using this
      · by_cases hl0 : len = 0
        · subst hl0
          exact .inl ⟨by simp, _, _, rfl⟩
        · refine .inr ⟨h.next, 0, cap, by simp [hz, Nat.min_eq_left hl], ⟨⟨_, by rw [new_get]; exact if_pos rfl, rfl, ?_, by simp [hz]; omega⟩, by simp; omega, Nat.lt_succ_self _⟩⟩
          simp [List.map_take, hz, Nat.min_eq_left hl]

end
end Go.Proofs.Ytedldiimhbebdaa.Ai
