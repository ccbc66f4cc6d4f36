/- The last step of a law's row, where it is known that nothing below has turned; and what a table of functions owes. -/
import Derived.Test.YtedldiimhbebdaaAiSoundV
import Derived.ChangeSame
namespace Go.Proofs.Ytedldiimhbebdaa.Ai
noncomputable section
open Go.RowKit Go.WideShapes Go.ChangeShapes

def T.ofList {α : Type} : List (Nat × α) → T α
  | [] => .nil
  | (k, x) :: r => (T.ofList r).put k x

theorem T.get_ofList {α : Type} {x : α} {k : Nat} : ∀ {l : List (Nat × α)}, (T.ofList l).get k = some x → (k, x) ∈ l
  | [], h => by cases h
  | (j, y) :: r, h => by
    simp only [T.ofList] at h
    by_cases hj : k = j
    · subst hj
      rw [T.get_put_same] at h
      simp only [Option.some.injEq] at h
      simp [h]
    · rw [T.get_put_other _ _ hj] at h
      exact List.mem_cons_of_mem _ (T.get_ofList h)

/-- each of them is the program's -/
def AllOk (P : Program) : List (Nat × AFunc) → Prop
  | [] => True
  | (k, x) :: r => tabOf P k = some x ∧ AllOk P r

theorem AllOk.mem {P : Program} : ∀ {l : List (Nat × AFunc)}, AllOk P l → ∀ {k x}, (k, x) ∈ l → tabOf P k = some x
  | [], _, _, _, h => by cases h
  | (j, y) :: r, ha, k, x, h => by
    rcases List.mem_cons.1 h with h | h
    · cases h; exact ha.1
    · exact AllOk.mem ha.2 h

theorem tabOk_of {P : Program} {t : T AFunc} {l : List (Nat × AFunc)} (ht : t = T.ofList l) (ha : AllOk P l) : TabOk P t.get := by
  intro f af h
  rw [ht] at h
  exact ha.mem (T.get_ofList h)

/-- A law's post, where of the world behind the call it is known alone that nothing below has turned. -/
theorem law_post {H : Type} {enc : TypeId × Value → H} {P : Program} {f : Func} {s : ChangeSpec} {apart fresh handsOn again : Bool} {W W' : World} {args : Array Value} {v : Value} {ds gs : List (DataW H)} {before pa pv : List MemPlace}
    (hW : DataW.Whole enc P f.params.toList s.vars apart W args.toList ds gs before)
    (hres : ∀ (b : Nat) (sp : Nat → Bool) (hd : Bool), DataW.TrodAll enc P W' b sp hd f.resultTypes.toList (v.resultList f.resultTypes.size) (s.fn H (ds ++ gs)).results [])
    (hargs : ∀ sp : Nat → Bool, (∀ p ∈ before, sp p.block = true) → DataW.TrodAll enc P W' 0 sp true f.params.toList args.toList (s.fn H (ds ++ gs)).args pa)
    (hvars : ∀ sp : Nat → Bool, (∀ p ∈ before, sp p.block = true) → DataW.TrodVars enc P W' sp s.vars (s.fn H (ds ++ gs)).vars pv)
    (hps : before = pa ++ pv) (hb : Below W.heap.size W W')
    (hok : ∀ (j : Nat) (t : TypeId) (r : Value), f.resultTypes[j]? = some t → (v.resultList f.resultTypes.size)[j]? = some r → Value.okWide P W' .any 0 t r) :
    s.post enc P f apart fresh handsOn again W args v W' := by
  have below : ∀ p ∈ before, p.block < W.heap.size := fun p hp => hW.lt p hp
  have inOld : ∀ p ∈ before, (fun b => decide (b < W.heap.size)) p.block = true := fun p hp => by simpa using below p hp
  have may : ∀ p, p ∈ before → p ∈ before ∧ (p ∈ ([] : List MemPlace) ∨ p ∈ pa ∨ p ∈ pv) := fun p hp => ⟨hp, .inr (by rw [hps, List.mem_append] at hp; exact hp)⟩
  refine ⟨ds, gs, before, [], pa, pv, hW, hres _ _ _, hargs _ inOld, hvars _ inOld, World.keptBut_mono may (hb.frame (· ∈ before)), fun _ => ?_⟩
  obtain ⟨_, _, _, _, _, hz, hn⟩ := hW
  have pall : ∀ p ∈ before, (fun _ : Nat => true) p.block = true := fun _ _ => rfl
  refine ⟨hok, _, _, ([] ++ pa) ++ pv, ⟨[] ++ pa, pv, trodAll_append (hargs _ pall) (hres _ _ _), hvars _ pall, rfl, ?_, ?_⟩, ?_⟩
  · intro b off hp
    have hin : MemPlace.cell b off ∈ before := by rw [hps]; simpa using hp
    rw [hb.frozen (below _ hin)]
    exact hz b off hin
  · intro ha
    have := hn ha
    rw [hps] at this
    simpa using this
  · intro p hp _
    rw [hps]
    simpa using hp

end
end Go.Proofs.Ytedldiimhbebdaa.Ai
