/- What stands below Root. -/
import Derived.Test.YtedldiimhbebdaaVK
import Derived.Test.YtedldiimhbebdaaVL
import Derived.Test.YtedldiimhbebdaaVP
import Derived.Test.YtedldiimhbebdaaPX
namespace Go.Proofs.Ytedldiimhbebdaa.Ai
open Go.Proofs.Ytedldiimhbebdaa
noncomputable section
open Go.RowKit
theorem base0_get {n i : Nat} (h1 : 7 ≤ i) (h2 : i ≤ n) : (base0 n)[i]? = some false := by
  unfold base0
  rw [setR_get (by simp; omega), if_neg (by omega)]
  simp [show i < n + 1 by omega]

/-- it stands below Root -/
theorem rooted_of {L : List Int} {l : List Pr} {t : Tr} {w : Int} (S : LaidAt t w L l 7) (hl : l.length ≤ 120) (ha : Asc l) (hk : ∀ p ∈ l, -1000 ≤ p.1 ∧ p.1 ≤ 1000) (hL : L.length ≤ 60000) : Rooted ([1, 0, 0, 0, 0, w, 0] ++ L) t := by
  have hlen : ([1, 0, 0, 0, 0, w, 0] ++ L).length = 7 + L.length := by simp; omega
  refine ⟨⟨by omega, by omega⟩, ⟨rfl, rfl⟩, S.word.symm, S.ok _ ⟨by omega, fun j v hv => ?_⟩, ?_, free_of _ _ (fun i hi => ?_) S.nodup, fits_few t l S.fits hl⟩
  · unfold at0
    rw [if_neg (by omega), show 7 + 1 + j - 1 = 7 + j by omega, List.getElem?_append_right (by simp)]
    simp [hv]
  · exact fits_ord t l _ _ S.fits ha (fun p hp => by have := hk p hp; omega)
  · have := S.adr i hi
    exact base0_get (by omega) (by omega)
end
end Go.Proofs.Ytedldiimhbebdaa.Ai
