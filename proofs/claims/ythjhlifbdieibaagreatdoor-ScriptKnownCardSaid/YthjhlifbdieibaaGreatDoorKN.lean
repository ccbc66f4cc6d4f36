/- Chapter 30's examples: a run of the program, asked of the kernel; numbers as text, words joined, a builder's own check: by the contracts of Go's library. -/
import Derived.Test.YthjhlifbdieibaaGreatDoorTh2
import Derived.Test.YthjhlifbdieibaaGreatDoorShelf
import Derived.Test.YthjhlifbdieibaaGreatDoorTabOk
import Derived.KernelRfl
import Derived.WalkSmall
import Derived.Lib.AppendIntMem
namespace Go.Proofs.YthjhlifbdieibaaGreatDoor.Ai
open Go.Proofs.YthjhlifbdieibaaGreatDoor
noncomputable section
open Go.RowKit
set_option maxRecDepth 100000

def strsOf : List Value → Option (List ByteArray)
  | [] => some []
  | .string s :: r => match strsOf r with
    | some l => some (s :: l)
    | none => none
  | _ :: _ => none

def joinL (sep : List UInt8) : List (List UInt8) → List UInt8
  | [] => []
  | x :: r => x ++ Lib.joinTail sep r

/-- small numbers as text -/
def numL : Int → Option (List UInt8)
  | .ofNat n => bif Nat.blt n 10 then some [UInt8.ofNat (48 + n)] else bif Nat.blt n 100 then some [UInt8.ofNat (48 + n / 10), UInt8.ofNat (48 + n % 10)] else none
  | .negSucc n => bif Nat.blt n 9 then some [45, UInt8.ofNat (48 + (n + 1))] else none

def memoN (args : List Value) (h : Heap) : Option (Value × Heap) := match args with
  | [.int .i64 n, .int .i64 b] => bif decide (b = 10) then (match numL n with
    | some l => some (.string ⟨l.toArray⟩, h)
    | none => none) else none
  | _ => none

def memoJ (args : List Value) (h : Heap) : Option (Value × Heap) := match args with
  | [.slice (some ⟨b, o, none⟩) n c, .string sep] => (match h.rds b o n with
    | some l => (match strsOf l with
      | some xs => (let r := joinL sep.data.toList (xs.map (·.data.toList))
        bif Nat.ble 1 n && Nat.ble n 1000 && Nat.ble n c && Nat.ble r.length 100000 then some (.string ⟨r.toArray⟩, h) else none)
      | none => none)
    | none => none)
  | _ => none

/-- a builder looks whether it was copied -/
def memoC (args : List Value) (h : Heap) : Option (Value × Heap) := match args with
  | [.pointer (some ⟨b, o, none⟩)] => (match h.blks.get b with
    | some k => bif Nat.beq o 0 && k.own && Nat.beq k.ty 52 && Nat.beq k.n 2 && !k.grown then (match nth k.cells 0 with
      | some (.pointer none) => (match h.wrs b 0 [.pointer (some ⟨b, 0, none⟩)] with
        | some h' => some (.tuple #[], h')
        | none => none)
      | some (.pointer (some ⟨b', o', none⟩)) => bif Nat.beq b' b && Nat.beq o' 0 then some (.tuple #[], h) else none
      | _ => none) else none
    | none => none)
  | _ => none

def libMemo : Memo := fun f args h => bif Nat.beq f 46 then memoN args h else bif Nat.beq f 51 then memoJ args h else bif Nat.beq f 42 then memoC args h else none

theorem joinL_eq (sep : List UInt8) (xs : List (List UInt8)) : joinL sep xs = Lib.join xs sep := by
  cases xs with
  | nil => rfl
  | cons x r => rw [Lib.join_cons]; rfl

theorem strs_rel {μ : Map} : ∀ {l l' : List Value} {xs : List ByteArray}, VsRel μ l l' → strsOf l = some xs → xs.length = l.length ∧ ∀ (j : Nat) (x : ByteArray), xs[j]? = some x → l'[j]? = some (.string x) := by
  intro l
  induction l with
  | nil => intro l' xs hr hs; simp only [strsOf, Option.some.injEq] at hs; subst hs; exact ⟨rfl, fun j x h => by simp at h⟩
  | cons y l ih =>
    intro l' xs hr hs
    unfold strsOf at hs
    split at hs
    · rename_i h1; cases h1
    · rename_i s r h1
      simp only [List.cons.injEq] at h1
      obtain ⟨rfl, rfl⟩ := h1
      split at hs
      · rename_i xs' hx
        simp only [Option.some.injEq] at hs; subst hs
        cases l' with
        | nil => exact absurd hr.1 (by simp)
        | cons y' l' =>
          have h0 := hr.2 0 _ _ rfl rfl
          have hr' : VsRel μ l l' := ⟨by have := hr.1; simpa using this, fun i v v' a b => hr.2 (i + 1) v v' (by simpa using a) (by simpa using b)⟩
          obtain ⟨i1, i2⟩ := ih hr' hx
          refine ⟨by simp [i1], fun j x hj => ?_⟩
          cases j with
          | zero => simp at hj; subst hj; simp [h0.string]
          | succ j => simp at hj; simpa using i2 j x hj
      · cases hs
    · cases hs


theorem ok46 : FnOk Tryz.prog 46 := ⟨_, Tryz.func46, by decide, by kernel_rfl⟩
theorem ok51 : FnOk Tryz.prog 51 := ⟨_, Tryz.func51, by decide, by kernel_rfl⟩
theorem ok42 : FnOk Tryz.prog 42 := ⟨_, Tryz.func42, by decide, by kernel_rfl⟩

theorem Rel.later' {C : CRel} {μ : Map} {h : Heap} {B : Fr} {w0 w w' : World} (R : Rel C μ h B w0 w) (b : Below w.heap.size w w') : Rel C μ h B w0 w' := by
  have hw : ∀ i, i < w.heap.size → w'.heap[i]? = w.heap[i]? := b.block
  have hlt : ∀ {i : Nat} {o : Obj}, w.heap[i]? = some o → i < w.heap.size := fun h => (Array.getElem?_eq_some_iff.1 h).1
  refine ⟨R.below.trans (b.mono R.size), Nat.le_trans R.size b.size, fun i o hz => ?_, R.fresh, fun b k hb => ?_, R.apart, R.aux.keep μ.le_refl (keeps_of_old hw)⟩
  · have := R.zk i o hz
    rw [hw _ (hlt this)]; exact this
  · obtain ⟨e, he, x⟩ := R.blk b k hb
    exact ⟨e, he, x.mono μ.le_refl hw⟩

theorem blt_cases (a b : Nat) : (Nat.blt a b = true ∧ a < b) ∨ (Nat.blt a b = false ∧ ¬ a < b) := by
  cases h : Nat.blt a b with
  | true => exact .inl ⟨rfl, Nat.le_of_ble_eq_true h⟩
  | false => exact .inr ⟨rfl, fun hc => by rw [show Nat.blt a b = Nat.ble (a + 1) b from rfl, Nat.ble_eq_true_of_le hc] at h; cases h⟩

theorem dec_one {n : Nat} (h : n < 10) : Lib.decDigits n = [UInt8.ofNat (48 + n)] := by rw [Lib.decDigits, dif_pos h]
theorem dec_two {n : Nat} (h : n < 100) (h2 : ¬ n < 10) : Lib.decDigits n = [UInt8.ofNat (48 + n / 10), UInt8.ofNat (48 + n % 10)] := by
  rw [Lib.decDigits, dif_neg h2, dec_one (by omega)]; rfl

theorem tab_later {w0 w : World} (htab : Lib.TabIs Tryz.prog w0 "internal/strconv.uint64pow10" .u64 Lib.pow10Tab) (hb : Below w0.heap.size w0 w) : Lib.TabIs Tryz.prog w "internal/strconv.uint64pow10" .u64 Lib.pow10Tab := by
  have hg : Tryz.prog.globalNamed "internal/strconv.uint64pow10" = some 0 := by kernel_rfl
  refine var?_below hb hg ?_ htab
  have h := htab
  unfold Lib.TabIs World.var? at h
  simp only [hg, Option.bind_some] at h
  cases hq : w0.heap[0]? with
  | none => rw [hq] at h; cases h
  | some o => exact (Array.getElem?_eq_some_iff.1 hq).1

theorem memoN_ok {w0 : World} (htab : Lib.TabIs Tryz.prog w0 "internal/strconv.uint64pow10" .u64 Lib.pow10Tab) {args : List Value} {h h' : Heap} {v : Value} (hm : memoN args h = some (v, h')) :
    h'.marks = h.marks ∧ ∀ (B : Fr) μ w args', B.n = w0.heap.size → Rel (Cc Tryz.prog) μ h B w0 w → VsRel μ args args' → Calls Tryz.prog 46 args'.toArray w (CallPost Tryz.prog μ h' B w0 v) := by
  unfold memoN at hm
  split at hm
  · rename_i n b
    cases hc : decide (b = 10) with
    | false => rw [hc] at hm; cases hm
    | true =>
      have := of_decide_eq_true hc
      subst this
      simp only [decide_true, cond_true] at hm
      split at hm
      · rename_i l hl
        simp only [Option.some.injEq, Prod.mk.injEq] at hm
        obtain ⟨rfl, rfl⟩ := hm
        refine ⟨rfl, fun B μ w args' hB R hargs => ?_⟩
        have e : args' = [.int .i64 n, .int .i64 10] := by
          obtain ⟨a0, g0, r0⟩ := hargs.get (i := 0) rfl
          obtain ⟨a1, g1, r1⟩ := hargs.get (i := 1) rfl
          have hla := hargs.1
          rcases args' with _ | ⟨x, _ | ⟨y, _ | ⟨z, t⟩⟩⟩ <;> simp at hla g0 g1
          subst g0; subst g1
          rw [r0.int, r1.int]
        subst e
        have hw : Below w0.heap.size w0 w := by rw [← hB]; exact R.below
        have hb : -9223372036854775808 ≤ n ∧ n ≤ 9223372036854775807 ∧ Lib.itoa n = l := by
          unfold numL at hl
          split at hl
          · rename_i m
            rcases blt_cases m 10 with ⟨c1, c2⟩ | ⟨c1, c2⟩
            · rw [c1] at hl; simp only [cond_true, Option.some.injEq] at hl
              refine ⟨by simp <;> omega, by simp <;> omega, ?_⟩
              rw [← hl, Lib.itoa, if_neg (by simp)]
              exact dec_one c2
            · rw [c1] at hl; simp only [cond_false] at hl
              rcases blt_cases m 100 with ⟨d1, d2⟩ | ⟨d1, d2⟩
              · rw [d1] at hl; simp only [cond_true, Option.some.injEq] at hl
                refine ⟨by simp <;> omega, by simp <;> omega, ?_⟩
                rw [← hl, Lib.itoa, if_neg (by simp)]
                exact dec_two d2 c2
              · rw [d1] at hl; cases hl
          · rename_i m
            rcases blt_cases m 9 with ⟨c1, c2⟩ | ⟨c1, c2⟩
            · rw [c1] at hl; simp only [cond_true, Option.some.injEq] at hl
              refine ⟨by omega, by omega, ?_⟩
              rw [← hl, Lib.itoa, if_pos (Int.negSucc_lt_zero m)]
              have : (Int.negSucc m).natAbs = m + 1 := rfl
              rw [this, dec_one (by omega)]
            · rw [c1] at hl; cases hl
        obtain ⟨b1, b2, b3⟩ := hb
        refine (Tryz.strconv_FormatInt_10 n b1 b2 w (tab_later htab hw)).mono ?_
        rintro e w' ⟨rfl, k, os, rfl⟩
        rw [b3]
        exact ⟨μ, _, rfl, μ.le_refl, R.later' (Lib.below_grow _ _ (Nat.le_refl _) _ _), .same _ rfl⟩
      · cases hm
  · cases hm

theorem memoJ_ok {w0 : World} {args : List Value} {h h' : Heap} {v : Value} (hm : memoJ args h = some (v, h')) :
    h'.marks = h.marks ∧ ∀ (B : Fr) μ w args', B.n = w0.heap.size → Rel (Cc Tryz.prog) μ h B w0 w → VsRel μ args args' → Calls Tryz.prog 51 args'.toArray w (CallPost Tryz.prog μ h' B w0 v) := by
  unfold memoJ at hm
  split at hm
  · rename_i b o n c sep
    split at hm
    · rename_i l hl
      split at hm
      · rename_i xs hx
        simp only at hm
        cases hc : (Nat.ble 1 n && Nat.ble n 1000 && Nat.ble n c && Nat.ble (joinL sep.data.toList (xs.map (·.data.toList))).length 100000) with
        | false => rw [hc] at hm; cases hm
        | true =>
          rw [hc] at hm
          simp only [cond_true, Option.some.injEq, Prod.mk.injEq] at hm
          obtain ⟨rfl, rfl⟩ := hm
          simp only [Bool.and_eq_true] at hc
          obtain ⟨⟨⟨c1, c4⟩, c2⟩, c3⟩ := hc
          have c4 := Nat.le_of_ble_eq_true c4
          have c1 := Nat.le_of_ble_eq_true c1
          have c2 := Nat.le_of_ble_eq_true c2
          have c3 := Nat.le_of_ble_eq_true c3
          refine ⟨rfl, fun B μ w args' hB R hargs => ?_⟩
          obtain ⟨a0, g0, r0⟩ := hargs.get (i := 0) rfl
          obtain ⟨a1, g1, r1⟩ := hargs.get (i := 1) rfl
          have hla := hargs.1
          rcases args' with _ | ⟨x, _ | ⟨y, _ | ⟨zz, t⟩⟩⟩ <;> simp at hla g0 g1
          subst g0; subst g1
          obtain ⟨en, hen, hX⟩ := r0.slice_inv
          rw [hX, r1.string]
          obtain ⟨l', q1, q2, q3⟩ := R.rds hl hen
          obtain ⟨i1, i2⟩ := strs_rel q3 hx
          have hn : xs.length = n := by rw [i1, q3.1, q1]
          rw [joinL_eq] at c3 ⊢
          rw [← hn]
          have cellj : ∀ (j : Nat) x, xs[j]? = some x → w.cell? ⟨en.blk, en.base + o + j, none⟩ = some (.string x) := by
            intro j x hj
            have := q2 j _ (i2 j x hj)
            have hadd : ∀ i, (⟨en.blk, en.base + o, none⟩ : Addr).add i = ⟨en.blk, en.base + o + i, none⟩ := fun i => by unfold Addr.add; split <;> simp_all
            rwa [hadd] at this
          have hb : en.blk < w.heap.size := by
            have h0 : 0 < xs.length := by omega
            have hc0 := cellj 0 xs[0] (List.getElem?_eq_getElem h0)
            unfold World.cell? at hc0
            cases hq : w.heap[en.blk]? with
            | none => rw [hq] at hc0; cases hc0
            | some ob => exact (Array.getElem?_eq_some_iff.1 hq).1
          refine (Tryz.strings_Join en.blk (en.base + o) _ xs sep w cellj hb ?_ ?_ (by omega)).mono ?_
          · omega
          · split <;> omega
          · rintro e w' ⟨rfl, bel⟩
            exact ⟨μ, _, rfl, μ.le_refl, R.later' bel, .same _ rfl⟩
      · cases hm
    · cases hm
  · cases hm

theorem lays240 : Go.Proofs.Lays.n240 Tryz.prog Tryz.lays156_ren := { Tryz.lays156 with }

theorem memoC_ok {w0 : World} {args : List Value} {h h' : Heap} {v : Value} (hm : memoC args h = some (v, h')) :
    h'.marks = h.marks ∧ ∀ (B : Fr) μ w args', B.n = w0.heap.size → Rel (Cc Tryz.prog) μ h B w0 w → VsRel μ args args' → Calls Tryz.prog 42 args'.toArray w (CallPost Tryz.prog μ h' B w0 v) := by
  unfold memoC at hm
  split at hm
  · rename_i b o
    split at hm
    · rename_i k hk
      cases hc : (Nat.beq o 0 && k.own && Nat.beq k.ty 52 && Nat.beq k.n 2 && !k.grown) with
      | false => rw [hc] at hm; cases hm
      | true =>
        rw [hc] at hm; simp only [cond_true] at hm
        simp only [Bool.and_eq_true] at hc
        obtain ⟨⟨⟨⟨c1, c2⟩, c3⟩, c4⟩, c5⟩ := hc
        have c1 := Nat.eq_of_beq_eq_true c1
        have c3 := Nat.eq_of_beq_eq_true c3
        have c4 := Nat.eq_of_beq_eq_true c4
        have c5 : k.grown = false := by simpa using c5
        subst c1
        have args1 : ∀ (μ : Map) (args' : List Value), VsRel μ [.pointer (some ⟨b, 0, none⟩)] args' → ∃ e, μ b = some e ∧ args' = [.pointer (some ⟨e.blk, e.base, none⟩)] := by
          intro μ args' hargs
          obtain ⟨a0, g0, r0⟩ := hargs.get (i := 0) rfl
          have hla := hargs.1
          rcases args' with _ | ⟨x, _ | ⟨y, t⟩⟩ <;> simp at hla g0
          subst g0
          obtain ⟨e, he, rfl⟩ := r0.ptr_inv
          exact ⟨e, he, rfl⟩
        have facts : ∀ (B : Fr) (μ : Map) (w : World) (e : Ent), Rel (Cc Tryz.prog) μ h B w0 w → μ b = some e → ∀ x, nth k.cells 0 = some x → e.base = 0 ∧ w.shape? e.blk = some (51, 2) ∧ w.frozen? ⟨e.blk, 0, none⟩ = false ∧ ∃ x', w.cell? ⟨e.blk, 0, none⟩ = some x' ∧ VRel μ x x' := by
          intro B μ w e R he x hx
          obtain ⟨e', he', xx⟩ := R.blk b k hk
          rw [he] at he'; cases he'
          obtain ⟨hB, hbase, cc, el, hh, hcs⟩ := xx.own c2
          have hel : el = 51 := by have h9 := xx.ty c2 (by rw [c3]; decide) _ _ _ hh; rw [c3] at h9; exact Nat.succ.inj h9
          have hex := xx.grown c5
          rw [c4, hex, Nat.zero_mul] at hcs
          subst hel
          obtain ⟨cc', el', fr, x', d1, d2, d3⟩ := xx.cell 0 x (by rw [← nth_eq]; exact hx)
          rw [hh] at d1; cases d1
          rw [hbase] at d2
          exact ⟨hbase, by simp [World.shape?, hh, hcs], by simp [World.frozen?, hh], x', by simpa [World.cell?, hh] using d2, d3⟩
        split at hm
        · rename_i hx
          split at hm
          · rename_i h1 hw
            simp only [Option.some.injEq, Prod.mk.injEq] at hm
            obtain ⟨rfl, rfl⟩ := hm
            refine ⟨wrs_marks hw, fun B μ w args' hB R hargs => ?_⟩
            obtain ⟨e, he, rfl⟩ := args1 μ args' hargs
            obtain ⟨f1, f2, f3, x', f4, f5⟩ := facts B μ w e R he _ hx
            rw [f5.of_plain rfl] at f4
            rw [f1]
            refine (Go.Proofs.Any.Builder_copyCheck_fresh lays240 Tryz.Builder_Extra_156.toX72 e.blk w f4 f2 f3).mono ?_
            rintro en w' ⟨rfl, rfl⟩
            obtain ⟨w2, g1, g2, g3⟩ := R.wrs hw (VsRel.single (.ptr b 0 e he)) (by simp) he
            have g2 := g2 Tryz.prog
            rw [f1] at g2
            have hst : (storeCells ⟨e.blk, 0, none⟩ [Value.pointer (some ⟨e.blk, 0, none⟩)]).run Tryz.prog w = .ok () (w.setCell ⟨e.blk, 0, none⟩ (.pointer (some ⟨e.blk, 0, none⟩))) := by
              have ha : (⟨e.blk, 0, none⟩ : Addr).add 0 = ⟨e.blk, 0, none⟩ := by unfold Addr.add; simp
              have hs := run_store Tryz.prog w ⟨e.blk, 0, none⟩ (.pointer (some ⟨e.blk, 0, none⟩)) .plain rfl
              simp [storeCells, ha, hs, f3, f4]
            have : w2 = w.setCell ⟨e.blk, 0, none⟩ (.pointer (some ⟨e.blk, 0, none⟩)) := by
              have h9 := g2.symm.trans hst
              injection h9
            rw [← this]
            exact ⟨μ, _, rfl, μ.le_refl, g3, undef_rel μ⟩
          · cases hm
        · rename_i b' o' hx
          cases hq : (Nat.beq b' b && Nat.beq o' 0) with
          | false => rw [hq] at hm; cases hm
          | true =>
            rw [hq] at hm
            simp only [cond_true, Option.some.injEq, Prod.mk.injEq] at hm
            obtain ⟨rfl, rfl⟩ := hm
            simp only [Bool.and_eq_true] at hq
            have q1 := Nat.eq_of_beq_eq_true hq.1
            have q2 := Nat.eq_of_beq_eq_true hq.2
            subst q1; subst q2
            refine ⟨rfl, fun B μ w args' hB R hargs => ?_⟩
            obtain ⟨e, he, rfl⟩ := args1 μ args' hargs
            obtain ⟨f1, f2, f3, x', f4, f5⟩ := facts B μ w e R he _ hx
            obtain ⟨e2, he2, rfl⟩ := f5.ptr_inv
            rw [he] at he2; cases he2
            rw [f1] at f4 ⊢
            refine (Go.Proofs.Any.Builder_copyCheck_used lays240 Tryz.Builder_Extra_156.toX72 e.blk w f4).mono ?_
            rintro en w' ⟨rfl, rfl⟩
            exact ⟨μ, _, rfl, μ.le_refl, R, undef_rel μ⟩
        · cases hm
    · cases hm
  · cases hm

theorem libMemo_at {w0 : World} (htab : Lib.TabIs Tryz.prog w0 "internal/strconv.uint64pow10" .u64 Lib.pow10Tab) : MemoAt Tryz.prog libMemo w0.heap.size w0 := by
  intro f args h v h' hm
  unfold libMemo at hm
  cases hf : Nat.beq f 46 with
  | true =>
    rw [hf] at hm
    have := Nat.eq_of_beq_eq_true hf
    subst this
    exact ⟨ok46, memoN_ok htab hm⟩
  | false =>
    rw [hf] at hm
    simp only [cond_false] at hm
    cases hg : Nat.beq f 51 with
    | true =>
      rw [hg] at hm
      have := Nat.eq_of_beq_eq_true hg
      subst this
      exact ⟨ok51, memoJ_ok hm⟩
    | false =>
      rw [hg] at hm
      simp only [cond_false] at hm
      cases hk : Nat.beq f 42 with
      | true =>
        rw [hk] at hm
        have := Nat.eq_of_beq_eq_true hk
        subst this
        exact ⟨ok42, memoC_ok hm⟩
      | false => rw [hk] at hm; cases hm

theorem known_all : okTrue (callF libMemo tabT.get (exec libMemo tabT.get 100000) (.fn 3) [] heap0) = true := by kernel_rfl

theorem known_walk (w : World) (htab : Lib.TabIs Tryz.prog w "internal/strconv.uint64pow10" .u64 Lib.pow10Tab) : Calls Tryz.prog 3 #[] w fun e w' => e = .returned (.bool true) ∧ Below w.heap.size w w' := by
  have h := known_all
  unfold okTrue at h
  split at h
  · rename_i h' hc
    have := ((calls_all (w0 := w) tabOk (libMemo_at htab) 100000 ⟨w.heap.size, fun _ => none⟩ rfl).fn 3 [] heap0 _ h' hc).2 _ w [] (rel0 w) (.nil _)
    refine this.mono ?_
    rintro e w' ⟨μ', v', rfl, _, R, hv⟩
    exact ⟨by rw [hv.bool], R.below⟩
  · cases h
end
end Go.Proofs.YthjhlifbdieibaaGreatDoor.Ai
