/- The numbers of the ideal shape, as the program's functions tell them: asked of the kernel, for all that are asked. Degree; the chapter's example. -/
import Derived.Test.YtnonihjoimobmaaGreatG0
import Derived.KernelRfl
namespace Go.Proofs.YtnonihjoimobmaaGreat.Ai
open Go.Proofs.YtnonihjoimobmaaGreat
noncomputable section
open Go.RowKit
set_option maxRecDepth 100000

def okV (v : Value) : Option (Value × Aac) → Bool
  | some (u, _) => veq u v
  | none => false

theorem Amw {mm : Amx} (hM : Agx Tryz.prog mm) {n f : Nat} {args : List Value} {v : Value} (h : okV v (Acn mm tabT.get (Ahc mm tabT.get n) (.fn f) args Af1) = true) (ha : args.all Acu = true) (hv : Acu v = true) (k : Aac) : Aa3 Tryz.prog f args k v k := by
  unfold okV at h
  split at h
  · rename_i u h' hc
    have e := At8 h
    subst e
    exact (Aw1 tabOk hM hc).frame ha hv k
  · cases h

theorem A53 : ((List.range 121).all fun n => okV (.int .i64 (.ofNat (Aar n))) (Acn (fun _ _ _ => none) tabT.get (Ahc (fun _ _ _ => none) tabT.get 100000) (.fn 83) [.int .i64 (.ofNat n)] Af1)) = true := by kernel_rfl

theorem At4 (n : Nat) (hn : n ≤ 120) (h : Aac) : Aa3 Tryz.prog 83 [I n] h (I (Aar n)) h :=
  Amw (A13 _) (List.all_eq_true.1 A53 n (List.mem_range.2 (by omega))) rfl rfl h

def Agr : Amx := fun f args h => bif Nat.beq f 83 then (match args with
  | [.int .i64 (.ofNat n)] => bif Nat.ble n 120 then some (.int .i64 (.ofNat (Aar n)), h) else none
  | _ => none) else none

theorem Aho : Agx Tryz.prog Agr := by
  intro f args h v h' hv
  unfold Agr at hv
  rcases Aa6 f 83 with ⟨b1, b2⟩ | ⟨b1, _⟩
  · rw [b1] at hv; simp only [cond_true] at hv
    subst b2
    split at hv
    · rename_i n
      cases hb : Nat.ble n 120 with
      | false => rw [hb] at hv; cases hv
      | true =>
        rw [hb] at hv; simp only [cond_true, Option.some.injEq, Prod.mk.injEq] at hv
        obtain ⟨rfl, rfl⟩ := hv
        exact At4 n (Nat.le_of_ble_eq_true hb) h
    · cases hv
  · rw [b1] at hv; cases hv
end
end Go.Proofs.YtnonihjoimobmaaGreat.Ai
