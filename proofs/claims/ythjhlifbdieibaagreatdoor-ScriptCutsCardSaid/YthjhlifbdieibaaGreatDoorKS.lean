/- Chapter 30's examples: asked of the kernel; small numbers as text, words joined: by the contracts of Go's library. -/
import Derived.Test.YthjhlifbdieibaaGreatDoorTh2
import Derived.Test.YthjhlifbdieibaaGreatDoorShelf
import Derived.Test.YthjhlifbdieibaaGreatDoorTabOk
import Derived.KernelRfl
namespace Go.Proofs.YthjhlifbdieibaaGreatDoor.Ai
open Go.Proofs.YthjhlifbdieibaaGreatDoor
noncomputable section
open Go.RowKit
set_option maxRecDepth 100000

def Agy : List Value → Option (List ByteArray)
  | [] => some []
  | .string s :: r => match Agy r with
    | some l => some (s :: l)
    | none => none
  | _ :: _ => none

def Ap0 (sep : List UInt8) : List (List UInt8) → List UInt8
  | [] => []
  | x :: r => x ++ Lib.joinTail sep r

def Ags : Agw := fun f args h => bif Nat.beq f 46 then (match args with
  | [.int .i64 (.ofNat n), .int .i64 (.ofNat b)] => bif Nat.blt n 10 && Nat.beq b 10 then some (.string ⟨#[UInt8.ofNat (48 + n)]⟩, h) else none
  | _ => none) else bif Nat.beq f 51 then (match args with
  | [.slice (some ⟨b, o, none⟩) n c, .string sep] => match h.rds b o n with
    | some l => (match Agy l with
      | some xs => (let r := Ap0 sep.data.toList (xs.map (·.data.toList))
        bif Nat.ble 1 n && Nat.ble n 1000 && Nat.ble n c && Nat.ble r.length 100000 then some (.string ⟨r.toArray⟩, h) else none)
      | none => none)
    | none => none
  | _ => none) else none

theorem Anm (sep : List UInt8) (xs : List (List UInt8)) : Ap0 sep xs = Lib.join xs sep := by
  cases xs with
  | nil => rfl
  | cons x r => rw [Lib.join_cons]; rfl

theorem Ann {μ : Map} : ∀ {l l' : List Value} {xs : List ByteArray}, Aam μ l l' → Agy l = some xs → xs.length = l.length ∧ ∀ (j : Nat) (x : ByteArray), xs[j]? = some x → l'[j]? = some (.string x) := by
  intro l
  induction l with
  | nil => intro l' xs hr hs; simp only [Agy, Option.some.injEq] at hs; subst hs; exact ⟨rfl, fun j x h => by simp at h⟩
  | cons y l ih =>
    intro l' xs hr hs
    unfold Agy at hs
    split at hs
    · rename_i h1; cases h1
    · rename_i s r h1
      simp only [List.cons.injEq] at h1
      obtain ⟨rfl, rfl⟩ := h1
      split at hs
      · rename_i xs' hx
        simp only [Option.some.injEq] at hs; subst hs
        cases l' with
        | nil => exact absurd hr.1 (by simp)
        | cons y' l' =>
          have h0 := hr.2 0 _ _ rfl rfl
          have hr' : Aam μ l l' := ⟨by have := hr.1; simpa using this, fun i v v' a b => hr.2 (i + 1) v v' (by simpa using a) (by simpa using b)⟩
          obtain ⟨i1, i2⟩ := ih hr' hx
          refine ⟨by simp [i1], fun j x hj => ?_⟩
          cases j with
          | zero => simp at hj; subst hj; simp [h0.string]
          | succ j => simp at hj; simpa using i2 j x hj
      · cases hs
    · cases hs

theorem Atv : Aoj Tryz.prog 46 := ⟨_, Tryz.func46, by decide, by kernel_rfl⟩
theorem Atq : Aoj Tryz.prog 51 := ⟨_, Tryz.func51, by decide, by kernel_rfl⟩

theorem Ajp : Ad1 Tryz.prog Ags := by
  intro f args h v h' hm
  unfold Ags at hm
  cases hf : Nat.beq f 46 with
  | true =>
    rw [hf] at hm
    simp only [cond_true] at hm
    have := Nat.eq_of_beq_eq_true hf
    subst this
    split at hm
    · rename_i n b
      cases hc : (Nat.blt n 10 && Nat.beq b 10) with
      | false => rw [hc] at hm; cases hm
      | true =>
        rw [hc] at hm
        simp only [cond_true, Option.some.injEq, Prod.mk.injEq] at hm
        obtain ⟨rfl, rfl⟩ := hm
        simp only [Bool.and_eq_true] at hc
        have h1 : n < 10 := Nat.le_of_ble_eq_true hc.1
        have h2 := Nat.eq_of_beq_eq_true hc.2
        subst h2
        refine ⟨Atv, rfl, fun B w0 μ w args' R hargs => ?_⟩
        have e : args' = [.int .i64 (.ofNat n), .int .i64 (.ofNat 10)] := by
          obtain ⟨a0, g0, r0⟩ := hargs.get (i := 0) rfl
          obtain ⟨a1, g1, r1⟩ := hargs.get (i := 1) rfl
          have hl := hargs.1
          rcases args' with _ | ⟨x, _ | ⟨y, _ | ⟨z, t⟩⟩⟩ <;> simp at hl g0 g1
          subst g0; subst g1
          rw [r0.int, r1.int]
        subst e
        refine (Tryz.strconv_FormatInt_10_small n (by omega) w).mono ?_
        rintro e w' ⟨rfl, rfl⟩
        refine ⟨μ, _, rfl, μ.le_refl, R, ?_⟩
        have : Lib.decDigits n = [UInt8.ofNat (48 + n)] := by rw [Lib.decDigits, dif_pos h1]
        rw [this]
        exact .same _ rfl
    · cases hm
  | false =>
    rw [hf] at hm
    simp only [cond_false] at hm
    cases hg : Nat.beq f 51 with
    | false => rw [hg] at hm; cases hm
    | true =>
      rw [hg] at hm
      simp only [cond_true] at hm
      have := Nat.eq_of_beq_eq_true hg
      subst this
      split at hm
      · rename_i b o n c sep
        split at hm
        · rename_i l hl
          split at hm
          · rename_i xs hx
            cases hc : (Nat.ble 1 n && Nat.ble n 1000 && Nat.ble n c && Nat.ble (Ap0 sep.data.toList (xs.map (·.data.toList))).length 100000) with
            | false => rw [hc] at hm; cases hm
            | true =>
              rw [hc] at hm
              simp only [cond_true, Option.some.injEq, Prod.mk.injEq] at hm
              obtain ⟨rfl, rfl⟩ := hm
              simp only [Bool.and_eq_true] at hc
              obtain ⟨⟨⟨c1, c4⟩, c2⟩, c3⟩ := hc
              have c4 := Nat.le_of_ble_eq_true c4
              have c1 := Nat.le_of_ble_eq_true c1
              have c2 := Nat.le_of_ble_eq_true c2
              have c3 := Nat.le_of_ble_eq_true c3
              refine ⟨Atq, rfl, fun B w0 μ w args' R hargs => ?_⟩
              obtain ⟨a0, g0, r0⟩ := hargs.get (i := 0) rfl
              obtain ⟨a1, g1, r1⟩ := hargs.get (i := 1) rfl
              have hla := hargs.1
              rcases args' with _ | ⟨x, _ | ⟨y, _ | ⟨zz, t⟩⟩⟩ <;> simp at hla g0 g1
              subst g0; subst g1
              obtain ⟨en, hen, hX⟩ := r0.slice_inv
              rw [hX, r1.string]
              obtain ⟨l', q1, q2, q3⟩ := R.rds hl hen
              obtain ⟨i1, i2⟩ := Ann q3 hx
              have hn : xs.length = n := by rw [i1, q3.1, q1]
              rw [Anm] at c3 ⊢
              rw [← hn]
              have cellj : ∀ (j : Nat) x, xs[j]? = some x → w.cell? ⟨en.blk, en.base + o + j, none⟩ = some (.string x) := by
                intro j x hj
                have := q2 j _ (i2 j x hj)
                have hadd : ∀ i, (⟨en.blk, en.base + o, none⟩ : Addr).add i = ⟨en.blk, en.base + o + i, none⟩ := fun i => by unfold Addr.add; split <;> simp_all
                rwa [hadd] at this
              have hb : en.blk < w.heap.size := by
                have h0 : 0 < xs.length := by omega
                obtain ⟨cc, el, fr, h1, _⟩ := Aeq (cellj 0 xs[0] (List.getElem?_eq_getElem h0))
                exact (Array.getElem?_eq_some_iff.1 h1).1
              refine (Tryz.strings_Join en.blk (en.base + o) _ xs sep w cellj hb ?_ ?_ (by omega)).mono ?_
              · omega
              · split <;> omega
              · rintro e w' ⟨rfl, bel⟩
                exact ⟨μ, _, rfl, μ.le_refl, R.later bel, .same _ rfl⟩
          · cases hm
        · cases hm
      · cases hm

theorem Akz : Age (Abg Ags tabT.get (Aek Ags tabT.get 100000) (.fn 8) [] Aeb) = true := by kernel_rfl

theorem Agd (h : Aaa) : Af5 Tryz.prog 8 [] h (.bool true) h := by
  have hk := Akz
  unfold Age at hk
  split at hk
  · rename_i h' hc
    exact (Ame tabOk Ajp hc).frame rfl rfl h
  · cases hk
end
end Go.Proofs.YthjhlifbdieibaaGreatDoor.Ai
