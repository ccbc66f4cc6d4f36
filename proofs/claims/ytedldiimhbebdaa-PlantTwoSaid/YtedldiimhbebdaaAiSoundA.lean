/- Append. -/
import Derived.Test.YtedldiimhbebdaaAiSoundE
namespace Go.Proofs.Ytedldiimhbebdaa.Ai
noncomputable section
open Go.RowKit

section
variable {P : Program} {Cm : CRel} {μ : Map} {h h' : Heap} {B : Fr} {w0 : World} {ts : T Value} {a : Act} {w : World} {o : Oper} {v : Value}

theorem fresh (R : Rel Cm μ h B w0 w) {olds news olds' news' : List Value} (ho : VsRel μ olds olds') (hn : VsRel μ news news') {len n s : Nat} (l1 : olds.length = len * s) (l2 : news.length = n * s) (z : Array Value) (hz : z.size = s) (N : Nat) (_hN : len + n ≤ N) (e : TypeId) :
    Rel Cm (μ.put h.next ⟨w.heap.size, 0, N - (len + n), s, (len + n) * s⟩) (h.new { cells := olds ++ news, n := (len + n) * s, s := s, own := true, grown := true }) B w0
      (w.drew.alloc (.cells ((olds' ++ news').toArray ++ Builtin.zeroCells z (N - (len + n))) e)) ∧ μ.le (μ.put h.next ⟨w.heap.size, 0, N - (len + n), s, (len + n) * s⟩) := by
  have hr := ho.append hn
  have hl : (olds ++ news).length = (len + n) * s := by rw [List.length_append, l1, l2, Nat.add_mul]
  refine R.drew.new { cells := olds ++ news, n := (len + n) * s, s := s, own := true, grown := true } rfl ((olds' ++ news').toArray ++ Builtin.zeroCells z (N - (len + n))) e (N - (len + n)) (fun hf => by cases hf) (by simp only; omega) ?_ ?_
  · simp only [Array.size_append, List.size_toArray, size_zeroCells, hz, ← hr.1, hl]
  · intro i v hi
    obtain ⟨v', q1, q2⟩ := hr.get hi
    refine ⟨v', ?_, q2⟩
    have hlt : i < (olds' ++ news').length := (List.getElem?_eq_some_iff.1 q1).1
    rw [Array.getElem?_append_left (by simpa using hlt)]
    simpa using q1

def AppDid (Cm : CRel) (P : Program) (μ : Map) (h' : Heap) (B : Fr) (w0 : World) (w : World) (ats : Array TypeId) (ty : TypeId) (X Y : Value) (v : Value) : Prop :=
  ∃ μ' v' w', (Builtin.append_ ats ty #[X, Y]).run P w = .ok v' w' ∧ μ.le μ' ∧ Rel Cm μ' h' B w0 w' ∧ VRel μ' v v'

theorem appA_sound (R : Rel Cm μ h B w0 w) {t e u ty : TypeId} {i : TypeInfo} {z X Y : Value} {n len cap : Nat} {base : Option Addr} {news news' : List Value} (ht : P.underlying t = some (.slice e)) (hi : P.info? e = some i) (hz : i.zero = some z) (hzs : z.cells.size = i.size)
    (hX : VRel μ (.slice base len cap) X) (hs : Src P w i u Y z n news') (hn : VsRel μ news news') (hv : appA h i.size i.bytes base len cap news n = some (v, h')) : AppDid Cm P μ h' B w0 w #[t, u] ty X Y v := by
  have hl2 : news.length = n * i.size := by rw [hn.1, hs.len]
  unfold appA at hv
  cases hc : (Nat.ble ((len + n) * i.bytes) 1099511627776 && Nat.ble (len + n) 1099511627776 && Nat.ble 1 i.size && news.all scalar) with
  | false => rw [hc] at hv; cases hv
  | true =>
    rw [hc] at hv; simp only [cond_true] at hv
    simp only [Bool.and_eq_true] at hc
    have b1 := ble_true hc.1.1.1
    have b2 := ble_true hc.1.1.2
    have b3 := ble_true hc.1.2
    have b4 := hc.2
    have nz : n = 0 → news' = [] := fun hq => List.eq_nil_of_length_eq_zero (by rw [hs.len, hq, Nat.zero_mul])
    split at hv
    · -- nil
      have hX := hX.of_plain rfl
      subst hX
      cases hn0 : Nat.beq n 0 with
      | true =>
        rw [hn0] at hv; simp only [cond_true] at hv
        have hn0 := Nat.eq_of_beq_eq_true hn0
        cases hle : Nat.ble len cap with
        | false => rw [hle] at hv; cases hv
        | true =>
          rw [hle] at hv; simp only [cond_true, Option.some.injEq, Prod.mk.injEq] at hv
          obtain ⟨rfl, rfl⟩ := hv
          have hle := ble_true hle
          have hr := app_room (ty := ty) ht hi hz hs none len cap (by omega)
          exact ⟨μ, _, w, hr, μ.le_refl, R, by subst hn0; exact .same _ rfl⟩
      | false =>
        rw [hn0] at hv; simp only [cond_false] at hv
        have hn0 := Nat.ne_of_beq_eq_false hn0
        cases hle : (Nat.beq len 0 && Nat.beq cap 0) with
        | false => rw [hle] at hv; cases hv
        | true =>
          rw [hle] at hv; simp only [cond_true, Option.some.injEq, Prod.mk.injEq] at hv
          obtain ⟨rfl, rfl⟩ := hv
          simp only [Bool.and_eq_true] at hle
          have z1 := Nat.eq_of_beq_eq_true hle.1
          have z2 := Nat.eq_of_beq_eq_true hle.2
          subst z1; subst z2
          have hr := app_grow (ty := ty) ht hi hz hs none 0 0 (by omega) b2 b1 [] (fun w' _ => run_firstCells_none w' _ _ _ _)
          have hge := grownCap_ge w (0 + n) 0 e
          obtain ⟨R', hle'⟩ := fresh R (VsRel.nil μ) hn (len := 0) (n := n) (by simp) hl2 z.cells hzs (grownCap w (0 + n) 0 e) hge e
          refine ⟨_, _, _, hr, hle', by simpa using R', ?_⟩
          have := ent_slice μ h.next w.heap.size i.size (grownCap w (0 + n) 0 e - (0 + n)) n (0 + n)
          rw [show (0 + n) + (grownCap w (0 + n) 0 e - (0 + n)) = grownCap w (0 + n) 0 e by omega] at this
          simpa using this
    · rename_i b o'
      split at hv
      · cases hv
      · rename_i k hk
        cases hks : Nat.beq k.s i.size with
        | false => rw [hks] at hv; cases hv
        | true =>
          rw [hks] at hv; simp only [Bool.not_true, cond_false] at hv
          have hks := Nat.eq_of_beq_eq_true hks
          obtain ⟨en, he, hX'⟩ := hX.slice_inv
          obtain ⟨en', he', x⟩ := R.blk b k hk
          rw [he] at he'; cases he'
          have es : en.s = i.size := by rw [x.s, hks]
          have enn := x.n
          have hC : cap ≤ (if o' + cap * en.s = en.n then cap + en.extra else cap) := by split <;> omega
          subst hX'
          cases hroom : Nat.ble (len + n) cap with
          | true =>
            rw [hroom] at hv; simp only [cond_true] at hv
            have hroom := ble_true hroom
            have hr := app_room (ty := ty) ht hi hz hs (some ⟨en.blk, en.base + o', none⟩) len _ (Nat.le_trans hroom hC)
            cases hn0 : Nat.beq n 0 with
            | true =>
              rw [hn0] at hv; simp only [cond_true, Option.some.injEq, Prod.mk.injEq] at hv
              obtain ⟨rfl, rfl⟩ := hv
              have hn0 := Nat.eq_of_beq_eq_true hn0
              have hnn := nz hn0
              subst hnn
              subst hn0
              refine ⟨μ, _, w, hr, μ.le_refl, R, hX⟩
            | false =>
              rw [hn0] at hv; simp only [cond_false] at hv
              have hn0 := Nat.ne_of_beq_eq_false hn0
              split at hv
              · rename_i h1 hw
                simp only [Option.some.injEq, Prod.mk.injEq] at hv
                obtain ⟨rfl, rfl⟩ := hv
                have hpos : news ≠ [] := by
                  intro hq; rw [hq] at hl2; simp only [List.length_nil] at hl2
                  rcases Nat.mul_eq_zero.1 hl2.symm with q | q <;> omega
                obtain ⟨w', hb0, hst, R'⟩ := R.wrs hw hn hpos he
                have hst := hst P
                refine ⟨μ, .slice (some ⟨en.blk, en.base + o', none⟩) (len + n) (if o' + cap * en.s = en.n then cap + en.extra else cap), w', ?_, μ.le_refl, R', .slice b o' (len + n) cap en he⟩
                rw [hr]
                simp only [Addr.add_lit]
                rw [Nat.add_assoc, hst]; rfl
              · cases hv
          | false =>
            rw [hroom] at hv; simp only [cond_false] at hv
            have hroom : ¬ (len + n ≤ cap) := fun hq => by
              have := Nat.ble_eq_true_of_le hq
              rw [this] at hroom; cases hroom
            split at hv
            · cases hv
            · rename_i olds hold
              obtain ⟨olds', o1, o2, o3⟩ := R.rds hold he
              have hol : olds.length = len * i.size := by rw [o3.1, o1]
              have hfirst : ∀ C, ∀ w' : World, (∀ a, w'.cell? a = w.cell? a) → (Builtin.firstCells i.size len (.slice (some ⟨en.blk, en.base + o', none⟩) len C)).run P w' = .ok olds'.toArray w' :=
                fun C w' hw' => run_firstCells_some w' i.size len _ len C olds' o1 (fun j v hj => by rw [hw']; exact o2 j v hj)
              -- a new block
              have new : ∀ (H : Heap), Rel Cm μ H B w0 w → ∀ C, ¬ (len + n ≤ C) → AppDid Cm P μ (H.new { cells := olds ++ news, n := (len + n) * i.size, s := i.size, own := true, grown := true }) B w0 w #[t, u] ty (.slice (some ⟨en.blk, en.base + o', none⟩) len C) Y (.slice (some ⟨H.next, 0, none⟩) (len + n) (len + n)) := by
                intro H RH C hC'
                have hr := app_grow (ty := ty) ht hi hz hs (some ⟨en.blk, en.base + o', none⟩) len C hC' b2 b1 olds' (hfirst C)
                have hge := grownCap_ge w (len + n) C e
                obtain ⟨R', hle'⟩ := fresh RH o3 hn hol hl2 z.cells hzs (grownCap w (len + n) C e) hge e
                refine ⟨_, _, _, hr, hle', R', ?_⟩
                have := ent_slice μ H.next w.heap.size i.size (grownCap w (len + n) C e - (len + n)) (len + n) (len + n)
                rwa [show (len + n) + (grownCap w (len + n) C e - (len + n)) = grownCap w (len + n) C e by omega] at this
              cases hop : (k.grown && Nat.beq (o' + cap * i.size) k.n) with
              | false =>
                rw [hop] at hv; simp only [cond_false, Option.some.injEq, Prod.mk.injEq] at hv
                obtain ⟨rfl, rfl⟩ := hv
                have hCe : (if o' + cap * en.s = en.n then cap + en.extra else cap) = cap := by
                  split
                  · rename_i hend
                    simp only [Bool.and_eq_false_iff] at hop
                    rcases hop with hg | hg
                    · have := x.grown hg; omega
                    · exact absurd (by rw [← es, ← enn]; exact hend) (Nat.ne_of_beq_eq_false hg)
                  · rfl
                rw [hCe]
                exact new h R cap hroom
              | true =>
                rw [hop] at hv; simp only [cond_true] at hv
                simp only [Bool.and_eq_true] at hop
                have hend := Nat.eq_of_beq_eq_true hop.2
                cases hq : (Nat.beq o' 0 && k.own && olds.all scalar && Nat.ble 1 k.cells.length) with
                | false => rw [hq] at hv; cases hv
                | true =>
                  rw [hq] at hv; simp only [cond_true, Option.some.injEq, Prod.mk.injEq] at hv
                  obtain ⟨rfl, rfl⟩ := hv
                  simp only [Bool.and_eq_true] at hq
                  have q1 := Nat.eq_of_beq_eq_true hq.1.1.1
                  have q2 := hq.1.1.2
                  have q4 := ble_true hq.2
                  subst q1
                  have hCe : (if 0 + cap * en.s = en.n then cap + en.extra else cap) = cap + en.extra := by rw [if_pos (by rw [es, enn]; exact hend)]
                  rw [hCe]
                  by_cases hin : len + n ≤ cap + en.extra
                  · -- in place
                    obtain ⟨hB, hbase, cc, el, hh, hcs⟩ := x.own q2
                    have hr := app_room (ty := ty) ht hi hz hs (some ⟨en.blk, en.base + 0, none⟩) len (cap + en.extra) hin
                    have htot : cc.size = (len + n) * i.size + (cap + en.extra - (len + n)) * i.size := by
                      rw [hcs, hks, ← Nat.add_mul]
                      have : k.n = cap * i.size := by omega
                      rw [this, ← Nat.add_mul]
                      congr 1; omega
                    have hle3 : len * i.size + n * i.size ≤ cc.size := by rw [htot, Nat.add_mul]; omega
                    have hst := run_storeCells_at P en.blk (len * i.size) el news' 0 cc w hh (by rw [hs.len]; omega) (vs_scalar hn b4)
                    have hcell : ∀ (j : Nat) (y : Value), k.cells[j]? = some y → ∃ y', cc[j]? = some y' ∧ VRel μ y y' := by
                      intro j y hj
                      obtain ⟨c1, l1, fr, y', g1, g2, g3⟩ := x.cell j y hj
                      rw [hh] at g1; cases g1
                      exact ⟨y', by rw [hbase, Nat.zero_add] at g2; exact g2, g3⟩
                    have holdk : ∀ j, j < len * i.size → olds[j]? = k.cells[j]? := by
                      intro j hj
                      unfold Heap.rds at hold
                      simp only [leLen_eq] at hold
                      rw [hk] at hold
                      simp only at hold
                      cases hle4 : Nat.ble (0 + len * i.size) k.cells.length with
                      | false => rw [hle4] at hold; cases hold
                      | true =>
                        rw [hle4] at hold; simp only [cond_true, Option.some.injEq] at hold
                        rw [← hold, List.getElem?_take, if_pos hj, List.getElem?_drop, Nat.zero_add]
                    have hsp : len * i.size + news'.length ≤ cc.toList.length := by rw [hs.len]; simpa using hle3
                    obtain ⟨R', hle'⟩ := R.regrow hk q2 (by intro hq; rw [hq] at q4; simp at q4) he hh (splice cc.toList (len * i.size) news').toArray (by simp only [List.size_toArray]; rw [splice_length _ _ _ hsp]; simp)
                      { cells := olds ++ news, n := (len + n) * i.size, s := i.size, own := true, grown := true } rfl rfl (cap + en.extra - (len + n)) (by simp only [List.length_append]; rw [hol, hl2, Nat.add_mul]; exact Nat.le_refl _) htot
                      (by
                        intro j y hj
                        simp only [List.getElem?_append] at hj
                        have hg := splice_get cc.toList (len * i.size) news' hsp j
                        split at hj
                        · rename_i hlt
                          rw [hol] at hlt
                          rw [holdk j hlt] at hj
                          obtain ⟨y', g1, g2⟩ := hcell j y hj
                          rw [if_pos hlt] at hg
                          exact ⟨y', by simpa [hg] using g1, g2⟩
                        · rename_i hge
                          rw [hol] at hge hj
                          obtain ⟨y', g1, g2⟩ := hn.get hj
                          have hlt2 : j - len * i.size < news'.length := (List.getElem?_eq_some_iff.1 g1).1
                          rw [if_neg hge, if_pos (by omega)] at hg
                          exact ⟨y', by simpa [hg] using g1, g2⟩)
                    refine ⟨_, .slice (some ⟨en.blk, 0, none⟩) (len + n) (cap + en.extra), _, ?_, hle', R', ?_⟩
                    · rw [hr]
                      simp only [Addr.add_lit, hbase, Nat.zero_add]
                      rw [hst]
                      simp [splice]
                    · have := ent_slice μ h.next en.blk i.size (cap + en.extra - (len + n)) (len + n) (len + n)
                      rwa [show (len + n) + (cap + en.extra - (len + n)) = cap + en.extra by omega] at this
                  · exact new (h.kill b k) (R.kill hk) (cap + en.extra) hin
    · rename_i b o' q
      cases hz0 : (Nat.beq n 0 && Nat.beq len 0 && Nat.beq cap 0) with
      | false => rw [hz0] at hv; cases hv
      | true =>
        rw [hz0] at hv; simp only [cond_true, Option.some.injEq, Prod.mk.injEq] at hv
        obtain ⟨rfl, rfl⟩ := hv
        simp only [Bool.and_eq_true] at hz0
        have z1 := Nat.eq_of_beq_eq_true hz0.1.1
        have z2 := Nat.eq_of_beq_eq_true hz0.1.2
        have z3 := Nat.eq_of_beq_eq_true hz0.2
        have hnn := nz z1
        subst z1; subst z2; subst z3; subst hnn
        have hX' : ∃ a' c', X = .slice (some a') 0 c' := by
          cases hX with
          | same _ hp => simp [plain] at hp
          | vague => exact ⟨_, _, rfl⟩
        obtain ⟨a', c', rfl⟩ := hX'
        have hr := app_room (ty := ty) ht hi hz hs (some a') 0 c' (Nat.zero_le _)
        exact ⟨μ, _, w, hr, μ.le_refl, R, hX⟩

theorem srcCells_sound (R : Rel Cm μ h B w0 w) {s n : Nat} {news : List Value} {y Y : Value} (hY : VRel μ y Y) (hv : srcCells h s y = some (news, n)) :
    ∃ news', VsRel μ news news' ∧ news'.length = n * s ∧ (∃ yb yc, Y = .slice yb n yc) ∧ ∀ w' : World, (∀ a, w'.cell? a = w.cell? a) → (Builtin.firstCells s n Y).run P w' = .ok news'.toArray w' := by
  unfold srcCells at hv
  split at hv
  · rename_i m c
    have hY := hY.of_plain rfl
    subst hY
    cases hm : Nat.beq m 0 with
    | false => rw [hm] at hv; cases hv
    | true =>
      rw [hm] at hv; simp only [cond_true, Option.some.injEq, Prod.mk.injEq] at hv
      obtain ⟨rfl, rfl⟩ := hv
      have hm := Nat.eq_of_beq_eq_true hm
      subst hm
      exact ⟨[], .nil μ, by simp, ⟨_, _, rfl⟩, fun w' _ => run_firstCells_none w' _ _ _ _⟩
  · rename_i b o' m c
    obtain ⟨en, he, rfl⟩ := hY.slice_inv
    split at hv
    · rename_i l hl
      simp only [Option.some.injEq, Prod.mk.injEq] at hv
      obtain ⟨rfl, rfl⟩ := hv
      obtain ⟨l', g1, g2, g3⟩ := R.rds hl he
      exact ⟨l', g3, g1, ⟨_, _, rfl⟩, fun w' hw' => run_firstCells_some w' s m _ _ _ l' g1 (fun j v hj => by rw [hw']; exact g2 j v hj)⟩
    · cases hv
  · simp only [Option.some.injEq, Prod.mk.injEq] at hv
    obtain ⟨rfl, rfl⟩ := hv
    cases hY with
    | same _ hp => simp [plain] at hp
    | vague =>
      refine ⟨[], .nil μ, by simp, ⟨_, _, rfl⟩, fun w' _ => ?_⟩
      simp [Builtin.firstCells, loadCells, loadCellsFrom]
  · cases hv

theorem elemOf'_inv {t e : TypeId} {s bytes : Nat} (he : elemOf' P t = some (e, s, bytes)) : ∃ i, P.underlying t = some (.slice e) ∧ P.info? e = some i ∧ s = i.size ∧ bytes = i.bytes := by
  unfold elemOf' at he
  split at he
  · rename_i e' hu
    split at he
    · rename_i i hi
      simp only [Option.some.injEq, Prod.mk.injEq] at he
      obtain ⟨rfl, rfl, rfl⟩ := he
      exact ⟨i, hu, hi, rfl, rfl⟩
    · cases he
  · cases he

theorem app_fin {c : Call} {x y : Operand} {t u : TypeId} (ho : o.op = .call c) (hc : c.callee = .builtin .append) (ha : c.args.toList = [x, y]) (hts : c.argTypes.toList = [t, u]) {X Y : Value} (hX : a.eval x = X) (hY : a.eval y = Y)
    (H : AppDid Cm P μ h' B w0 w #[t, u] o.type X Y v) : DidE Cm P μ h' B w0 a w o v := by
  have ha' : c.args = #[x, y] := Array.ext' (by simpa using ha)
  have hts' : c.argTypes = #[t, u] := Array.ext' (by simpa using hts)
  obtain ⟨μ', v', w', h1, h2, h3, h4⟩ := H
  refine ⟨μ', v', w', .inl ?_, h2, h3, h4⟩
  simp [execOp, ho, resolve, hc, ha', hts', invoke, builtin, hX, hY, h1]

theorem s_app (R : Rel Cm μ h B w0 w) (r : TsRel μ ts a) {c : Call} {x y : Operand} {x' y' : Opd} {t u e : TypeId} {s bytes : Nat} {z : List Value} {q : TypeId} (ho : o.op = .call c) (hc : c.callee = .builtin .append) (ha : c.args.toList = [x, y]) (hts : c.argTypes.toList = [t, u])
    (he : elemOf' P t = some (e, s, bytes)) (hu : P.underlying u = some (.slice q)) (hz : zeroCells P e = some z) (hx : compOpd x = some x') (hy : compOpd y = some y') (hv : eop ts h (.app s bytes x' y') = some (v, h')) : DidE Cm P μ h' B w0 a w o v := by
  obtain ⟨i, ht, hi, rfl, rfl⟩ := elemOf'_inv he
  obtain ⟨i', zv, hi', hzv, hzz, hpl, hlen⟩ := zeroCells_inv hz
  rw [hi] at hi'; cases hi'
  have hzs : zv.cells.size = i.size := by rw [← hlen, hzz]; simp
  simp only [eop, eopQ] at hv
  split at hv
  · rename_i base len cap news n hb hs
    have g1 := compOpd_rel r hx
    have g2 := compOpd_rel r hy
    rw [hb] at g1
    obtain ⟨news', s1, s2, s3, s4⟩ := srcCells_sound (P := P) R g2 hs
    exact app_fin ho hc ha hts rfl rfl (appA_sound R ht hi hzv hzs g1 ⟨s2, .inl ⟨⟨q, hu⟩, s3, s4⟩⟩ s1 hv)
  · cases hv

theorem zeroCells_toList (z : Array Value) (hz : z.toList.all plain = true) (hs : 0 < z.size) (μ : Map) (n : Nat) : VsRel μ (rep z.toList n) (Builtin.zeroCells z n).toList := zeros_rel μ hz hs n

theorem s_appZ (R : Rel Cm μ h B w0 w) (r : TsRel μ ts a) {c : Call} {x y : Operand} {x' y' : Opd} {t u e : TypeId} {s bytes : Nat} {z : List Value} {q : IntKind} (ho : o.op = .call c) (hc : c.callee = .builtin .append) (ha : c.args.toList = [x, y]) (hts : c.argTypes.toList = [t, u])
    (he : elemOf' P t = some (e, s, bytes)) (hu : P.underlying u = some (.int q)) (hz : zeroCells P e = some z) (hx : compOpd x = some x') (hy : compOpd y = some y') (hv : eop ts h (.appZ s bytes z x' y') = some (v, h')) : DidE Cm P μ h' B w0 a w o v := by
  obtain ⟨i, ht, hi, rfl, rfl⟩ := elemOf'_inv he
  obtain ⟨i', zv, hi', hzv, hzz, hpl, hlen⟩ := zeroCells_inv hz
  rw [hi] at hi'; cases hi'
  have hzs : zv.cells.size = i.size := by rw [← hlen, hzz]; simp
  simp only [eop, eopQ] at hv
  split at hv
  · rename_i base len cap n hb hn
    cases hle : Nat.ble n 1099511627776 with
    | false => rw [hle] at hv; cases hv
    | true =>
      rw [hle] at hv; simp only [cond_true] at hv
      have hle := ble_true hle
      have g1 := compOpd_rel r hx
      have g2 := compOpd_rel r hy
      rw [hb] at g1
      obtain ⟨k, hk⟩ := asNat_inv hn
      rw [hk] at g2
      have hv' := hv
      unfold appA at hv'
      cases hc' : (Nat.ble ((len + n) * i.bytes) 1099511627776 && Nat.ble (len + n) 1099511627776 && Nat.ble 1 i.size && (rep z n).all scalar) with
      | false => rw [hc'] at hv'; cases hv'
      | true =>
        simp only [Bool.and_eq_true] at hc'
        have b1 := ble_true hc'.1.1.1
        have b3 := ble_true hc'.1.2
        have hzr := zeros_rel μ (zv := zv.cells) (by rw [← hzz]; exact hpl) (by omega) n
        rw [← hzz] at hzr
        have hb2 : n * i.bytes ≤ 1099511627776 := Nat.le_trans (Nat.mul_le_mul_right _ (by omega)) b1
        refine app_fin ho hc ha hts rfl rfl (appA_sound R ht hi hzv hzs g1 ⟨?_, .inr ⟨⟨q, hu⟩, ⟨k, g2.int⟩, hle, hb2, ?_⟩⟩ hzr hv)
        · rw [← hzr.1, rep_length, hlen]
        · rw [Array.toArray_toList]; rfl
  · cases hv

end
end
end Go.Proofs.Ytedldiimhbebdaa.Ai
