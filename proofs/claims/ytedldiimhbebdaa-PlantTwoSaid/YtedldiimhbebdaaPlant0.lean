/- The ideal shape, in plain numbers; what is laid. -/
import Derived.Test.YtedldiimhbebdaaAiLib
namespace Go.Proofs.Ytedldiimhbebdaa.Ai
open Go.Proofs.Ytedldiimhbebdaa
noncomputable section

def rootN (n : Nat) : Nat := (List.range 12).foldl (fun r k => if k * k ≤ n then k else r) 0
def degN (n : Nat) : Nat := if n < 2 then 0 else max 2 (rootN n)
def sizeN (n i : Nat) : Nat := if i < n % degN n then n / degN n + 1 else n / degN n
def fromN (n i : Nat) : Nat := n / degN n * i + min i (n % degN n)
def sumN (f : Nat → Nat) : Nat → Nat
  | 0 => 0
  | i + 1 => sumN f i + f i
def cellsF : Nat → Nat → Nat
  | 0, _ => 0
  | f + 1, n => if n = 0 then 1 else if n = 1 then 2 else sumN (fun i => cellsF f (sizeN n i)) (degN n) + (5 + (degN n - 1) + degN n)
def cellsN (n : Nat) : Nat := cellsF 8 n

theorem cells0 : cellsN 0 = 1 := by kernel_rfl
theorem cells1 : cellsN 1 = 2 := by kernel_rfl

/-- how it goes on from part to part -/
def partsOk (n : Nat) : Bool := (List.range (degN n)).all (fun i => Nat.beq (fromN n (i + 1)) (fromN n i + sizeN n i) && Nat.ble 1 (sizeN n i) && Nat.blt (sizeN n i) n && Nat.ble (fromN n i + sizeN n i) n) && Nat.beq (cellsN n) (sumN (fun i => cellsN (sizeN n i)) (degN n) + (5 + (degN n - 1) + degN n)) && Nat.ble (cellsN n) 1100 && Nat.ble 2 (degN n) && Nat.ble (degN n) 11 && Nat.beq (fromN n 0) 0

theorem allParts : ((List.range 121).all fun n => Nat.blt n 2 || partsOk n) = true := by kernel_rfl

theorem parts_ok {n : Nat} (h2 : 2 ≤ n) (h : n ≤ 120) : partsOk n = true := by
  have := List.all_eq_true.1 allParts n (List.mem_range.2 (by omega))
  simp only [Bool.or_eq_true] at this
  rcases this with h0 | h0
  · have : Nat.ble (n + 1) 2 = true := h0
    have := Nat.le_of_ble_eq_true this; omega
  · exact h0

structure PartN (n : Nat) : Prop where
  deg2 : 2 ≤ degN n
  deg11 : degN n ≤ 11
  next : ∀ i, i < degN n → fromN n (i + 1) = fromN n i + sizeN n i
  one : ∀ i, i < degN n → 1 ≤ sizeN n i
  less : ∀ i, i < degN n → sizeN n i < n
  top : ∀ i, i < degN n → fromN n i + sizeN n i ≤ n
  cells : cellsN n = sumN (fun i => cellsN (sizeN n i)) (degN n) + (5 + (degN n - 1) + degN n)
  most : cellsN n ≤ 1100
  zero : fromN n 0 = 0

theorem partN {n : Nat} (h2 : 2 ≤ n) (h : n ≤ 120) : PartN n := by
  have hp := parts_ok h2 h
  simp only [partsOk, Bool.and_eq_true, List.all_eq_true, List.mem_range] at hp
  obtain ⟨⟨⟨⟨⟨p1, p2⟩, p3⟩, p4⟩, p5⟩, p6⟩ := hp
  have ble : ∀ {a b : Nat}, Nat.ble a b = true → a ≤ b := fun h => Nat.le_of_ble_eq_true h
  exact ⟨ble p4, ble p5, fun i hi => Nat.eq_of_beq_eq_true (p1 i hi).1.1.1, fun i hi => ble (p1 i hi).1.1.2, fun i hi => ble (show Nat.ble (_ + 1) _ = true from (p1 i hi).1.2), fun i hi => ble (p1 i hi).2, Nat.eq_of_beq_eq_true p2, ble p3, Nat.eq_of_beq_eq_true p6⟩

abbrev Pr := Int × Int

/-- the part i -/
def partL (l : List Pr) (i : Nat) : List Pr := (l.drop (fromN l.length i)).take (sizeN l.length i)

/-- the children, so many: their words, their cells -/
def kidsF (lay : List Pr → Nat → Int × List Int) (l : List Pr) (u : Nat) : Nat → List Int × List Int
  | 0 => ([], [])
  | i + 1 =>
    let r := kidsF lay l u i
    let w := lay (partL l i) (u + r.2.length)
    (r.1 ++ [w.1], r.2 ++ w.2)

/-- the keys between them -/
def keysF (l : List Pr) : Nat → List Int
  | 0 => []
  | i + 1 => if i = 0 then [] else keysF l i ++ [((l[fromN l.length i]?).getD (0, 0)).1]

/-- the word of a list's tree, and its cells, so many being used ahead -/
def layF : Nat → List Pr → Nat → Int × List Int
  | 0, _, _ => (0, [])
  | f + 1, l, u => match l with
    | [] => (((u : Int) + 1) * 8 + 1, [0])
    | [p] => (((u : Int) + 1) * 8 + 2, [p.1, p.2])
    | l =>
      let r := kidsF (layF f) l u (degN l.length)
      ((((u + r.2.length : Nat) : Int) + 1) * 8 + 3, r.2 ++ ([(degN l.length : Int), (l.length : Int), 0, 0, 0] ++ keysF l (degN l.length) ++ r.1))

theorem layF_two {f : Nat} {l : List Pr} {u : Nat} (h : 2 ≤ l.length) : layF (f + 1) l u = ((((u + (kidsF (layF f) l u (degN l.length)).2.length : Nat) : Int) + 1) * 8 + 3, (kidsF (layF f) l u (degN l.length)).2 ++ ([(degN l.length : Int), (l.length : Int), 0, 0, 0] ++ keysF l (degN l.length) ++ (kidsF (layF f) l u (degN l.length)).1)) := by
  match l, h with
  | p :: q :: l, _ => rfl

theorem kidsF_one (lay : List Pr → Nat → Int × List Int) (l : List Pr) (u : Nat) : ∀ i, (kidsF lay l u i).1.length = i
  | 0 => rfl
  | i + 1 => by simp [kidsF, kidsF_one lay l u i]

theorem keysF_len (l : List Pr) : ∀ i, (keysF l i).length = i - 1
  | 0 => rfl
  | 1 => rfl
  | i + 2 => by
    rw [keysF, if_neg (by omega), List.length_append, keysF_len l (i + 1)]; simp

theorem partL_len {l : List Pr} (h2 : 2 ≤ l.length) (h : l.length ≤ 120) {i : Nat} (hi : i < degN l.length) : (partL l i).length = sizeN l.length i := by
  have := (partN h2 h).top i hi
  simp [partL]; omega

theorem layF_len : ∀ (f : Nat) (l : List Pr) (u : Nat), l.length < f → l.length ≤ 120 → (layF f l u).2.length = cellsN l.length
  | 0, l, u, hf, _ => by omega
  | f + 1, l, u, hf, hl => by
    by_cases h2 : 2 ≤ l.length
    · rw [layF_two h2]
      have pn := partN h2 hl
      have key : ∀ i, i ≤ degN l.length → (kidsF (layF f) l u i).2.length = sumN (fun i => cellsN (sizeN l.length i)) i := by
        intro i
        induction i with
        | zero => intro _; rfl
        | succ i ih =>
          intro hi
          have hp := partL_len h2 hl (i := i) (by omega)
          have hless := pn.less i (by omega)
          simp only [kidsF, sumN, List.length_append, ih (by omega)]
          rw [layF_len f (partL l i) _ (by omega) (by omega), hp]
      simp only [List.length_append, key _ (Nat.le_refl _), kidsF_one, keysF_len, List.length_cons, List.length_nil]
      rw [pn.cells]
    · match l, h2 with
      | [], _ => rfl
      | [p], _ => rfl
      | _ :: _ :: _, h2 => simp at h2

end
end Go.Proofs.Ytedldiimhbebdaa.Ai
