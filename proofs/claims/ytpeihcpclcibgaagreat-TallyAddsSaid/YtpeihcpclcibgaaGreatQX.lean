/- Texts put together: QA, QB, QC, QD, QE, QF. -/
import Derived.Test.YtpeihcpclcibgaaGreatPX
import Derived.Test.YtpeihcpclcibgaaGreatTabOk
import Derived.Test.YtpeihcpclcibgaaGreatTh2
/- What the document's memory and its records come to. -/
namespace Go.Proofs.YtpeihcpclcibgaaGreat.Ai
open Go.Proofs.YtpeihcpclcibgaaGreat
noncomputable section
open Go.RowKit
structure HasR (tab : Nat → Option AFunc) : Prop where
  r32 : tab 27 = some af27
  r66 : tab 84 = some af84

theorem hasR : HasR tabT.get := ⟨by kernel_rfl, by kernel_rfl⟩

def rmemBlk (sl : Value) (z c o r : Int) : Blk := ⟨[I z, sl, I c, I o, I r], 5, 5, true, false⟩

/-- the document's memory lies there -/
structure RMemAt (h : Heap) (b : Nat) (u : Option Nat) (C : List Int) (z c o r : Int) : Prop where
  blk : h.blks.get b = some (rmemBlk (useSl u C) z c o r)
  use : ∀ x, u = some x → h.blks.get x = some (usedBlk C) ∧ x ≠ b ∧ x < h.next ∧ C ≠ []
  non : u = none → C = []
  lt : b < h.next

theorem RMemAt.same {h h' : Heap} {b : Nat} {u : Option Nat} {C : List Int} {z c o r : Int} {S : Nat → Prop} (m : RMemAt h b u C z c o r) (s : Same h h' S) (hb : ¬ S b) (hu : ∀ x, u = some x → ¬ S x) : RMemAt h' b u C z c o r :=
  ⟨by rw [s.get b m.lt hb]; exact m.blk, fun x hx => by
    obtain ⟨h1, h2, h3, h4⟩ := m.use x hx
    exact ⟨by rw [s.get x h3 (hu x hx)]; exact h1, h2, Nat.lt_of_lt_of_le h3 s.next, h4⟩, m.non, Nat.lt_of_lt_of_le m.lt s.next⟩

section
variable {h : Heap} {b : Nat} {u : Option Nat} {C : List Int} {z c o r : Int} (m : RMemAt h b u C z c o r)
include m
theorem RMemAt.rd1 : h.rd b 1 = some (useSl u C) := rd_of m.blk
theorem RMemAt.rd0 : h.rd b 0 = some (I z) := rd_of m.blk
theorem RMemAt.rd2 : h.rd b 2 = some (I c) := rd_of m.blk
theorem RMemAt.rd3 : h.rd b 3 = some (I o) := rd_of m.blk
theorem RMemAt.rd4 : h.rd b 4 = some (I r) := rd_of m.blk
theorem RMemAt.wr2 (x : Int) : h.wrs b 2 [I x] = some (h.setB b (rmemBlk (useSl u C) z x o r)) := wrs1_of m.blk rfl (by simp [rmemBlk]) rfl
theorem RMemAt.wr4 (x : Int) : h.wrs b 4 [I x] = some (h.setB b (rmemBlk (useSl u C) z c o x)) := wrs1_of m.blk rfl (by simp [rmemBlk]) rfl
theorem RMemAt.set (z' c' o' r' : Int) : RMemAt (h.setB b (rmemBlk (useSl u C) z' c' o' r')) b u C z' c' o' r' :=
  ⟨by rw [setB_get, if_pos rfl], fun x hx => by
    obtain ⟨h1, h2, h3, h4⟩ := m.use x hx
    exact ⟨by rw [setB_get, if_neg h2]; exact h1, h2, h3, h4⟩, m.non, m.lt⟩
theorem RMemAt.own : OwnAt h u 1 C.length (C.map I) :=
  ⟨fun x hx => by
    obtain ⟨h1, _, h3, h4⟩ := m.use x hx
    exact ⟨by rw [h1, Nat.mul_one]; rfl, h3, List.length_pos_iff.2 h4⟩, fun hu => by rw [m.non hu]; rfl, by simp, by simp [scalar]⟩
end

theorem rmem_wr1 {h : Heap} {b : Nat} {sl v : Value} {z c o r : Int} (hb : h.blks.get b = some (rmemBlk sl z c o r)) (hv : scalar v = true) : h.wrs b 1 [v] = some (h.setB b (rmemBlk v z c o r)) := wrs1_of hb rfl (by simp [rmemBlk]) hv

theorem RMemAt.of_own {h : Heap} {b : Nat} {u : Option Nat} {C : List Int} (a : OwnAt h u 1 C.length (C.map I)) (hu : ∀ x, u = some x → x ≠ b) (hb : b < h.next) (z c o r : Int) : RMemAt (h.setB b (rmemBlk (useSl u C) z c o r)) b u C z c o r :=
  ⟨by rw [setB_get, if_pos rfl], fun x hx => by
    obtain ⟨h1, h2, h3⟩ := a.use x hx
    exact ⟨by rw [setB_get, if_neg (hu x hx), h1, Nat.mul_one]; rfl, hu x hx, h2, List.length_pos_iff.1 h3⟩, fun hn => List.eq_nil_of_length_eq_zero (a.non hn), hb⟩

/-- append to a row that was built as it stands -/
theorem app_lit {h : Heap} {y s n k bytes : Nat} {cells news : List Value} {Y : Value} (hb : h.blks.get y = some ⟨cells, n * s, s, true, false⟩) (hc : cells.length = n * s) (hcs : cells.all scalar = true) (hy : srcCells h s Y = some (news, k)) (hk : news.length = k * s) (hs : news.all scalar = true) (s1 : 1 ≤ s) (k0 : k ≠ 0)
    (b1 : (n + k) * bytes ≤ 1099511627776) (b2 : n + k ≤ 1099511627776) :
    appV h s bytes (.slice (some ⟨y, 0, none⟩) n n) Y = some (ownSl (some h.next) (n + k), h.new ⟨cells ++ news, (n + k) * s, s, true, true⟩) ∧ OwnAt (h.new ⟨cells ++ news, (n + k) * s, s, true, true⟩) (some h.next) s (n + k) (cells ++ news) := by
  have hg : (Nat.ble ((n + k) * bytes) 1099511627776 && Nat.ble (n + k) 1099511627776 && Nat.ble 1 s && news.all scalar) = true := by
    rw [nat_ble b1, nat_ble b2, nat_ble s1, hs]; rfl
  have hrd : h.rds y 0 (n * s) = some cells := by
    rw [rds_of hb (by simp [hc])]; simp [← hc]
  refine ⟨?_, ⟨fun x hx => by cases hx; exact ⟨by rw [new_get]; exact if_pos rfl, Nat.lt_succ_self _, by omega⟩, by simp, by rw [List.length_append, hc, hk, Nat.add_mul], by rw [List.all_append, hcs, hs]; rfl⟩⟩
  unfold appV
  rw [hy]
  simp only
  unfold appA
  rw [hg]
  simp only [cond_true, hb, nat_beq, Bool.not_true, cond_false, nat_ble_f (show ¬ n + k ≤ n by omega), hrd, Bool.false_and, ownSl, Option.map_some]

section
variable {P : Program} {tab : Nat → Option AFunc} (hT : TabOk P tab) (H : HasR tab)
include hT H

end
end
end Go.Proofs.YtpeihcpclcibgaaGreat.Ai
/- What the document's build comes to. -/
namespace Go.Proofs.YtpeihcpclcibgaaGreat.Ai
open Go.Proofs.YtpeihcpclcibgaaGreat
noncomputable section
open Go.RowKit

/-- the numbers of the ideal shape, as the document's functions tell them -/
structure NumR (P : Program) : Prop where

section
variable {P : Program} {tab : Nat → Option AFunc} (hT : TabOk P tab) (H : HasR tab)
include hT H

variable (NR : NumR P)
include NR

/-- what is kept from child to child -/
structure RLayI (h : Heap) (b x p cap : Nat) (u : Option Nat) (C : List Int) (z c o r : Int) (f : Nat) (l : List Pr) (i : Nat) (ts : T Value) (h' : Heap) : Prop where
  t0 : look ts 0 = .pointer (some ⟨b, 0, none⟩)
  t1 : look ts 1 = .slice (some ⟨x, p, none⟩) l.length cap
  t5 : look ts 5 = I l.length
  t12 : look ts 12 = I (fromN l.length i)
  t13 : look ts 13 = I i
  le : i ≤ degN l.length
  ex : ∃ uk uc u' c', look ts 10 = ownSl uk (i - 1) ∧ look ts 11 = ownSl uc i ∧ OwnAt h' uk 1 (i - 1) ((keysF l i).map I) ∧ OwnAt h' uc 1 i ((kidsF (layF f) l C.length i).1.map I) ∧
    RMemAt h' b u' (C ++ (kidsF (layF f) l C.length i).2) z c' o r ∧ c ≤ c' ∧ c' ≤ c + (kidsF (layF f) l C.length i).2.length ∧ (∀ y, u' = some y → u = some y ∨ h.next ≤ y) ∧ (∀ y, uk = some y → h.next ≤ y ∧ u' ≠ some y) ∧ (∀ y, uc = some y → h.next ≤ y ∧ u' ≠ some y ∧ uk ≠ some y)
  same : Same h h' (fun j => j = b ∨ u = some j)

end
end
end Go.Proofs.YtpeihcpclcibgaaGreat.Ai
/- What the document's questions of a list come to. -/
namespace Go.Proofs.YtpeihcpclcibgaaGreat.Ai
open Go.Proofs.YtpeihcpclcibgaaGreat
noncomputable section
open Go.RowKit
section
variable {P : Program} {tab : Nat → Option AFunc} (hT : TabOk P tab) (H : HasR tab)
include hT H

theorem rmap_spec {h : Heap} {v : Value} {l : List Pr} {u : Option Nat} (a : PrAt h v l u) (hl : l.length < 1000000) : FSpec P 84 [v] h fun v h' => (v = .bool true ∧ Asc l ∨ v = .bool false ∧ ¬ Asc l) ∧ h' = h := by
  refine fspec_cwf hT H.r66 rfl ?_
  rcases a with ⟨rfl, base, cap, rfl⟩ | ⟨x, p, cap, rfl, rfl, hpos, hr⟩
  · simp only [af84, cwf_seq, cwf_ops, cwf_block, cwf_loop, andThen_normal, owf_nil, o_p, bo_eq, optQ_some, pop, popQ, ev, putA, putArgs]
    refine cw_lw (lw_step ?_)
    simp only [cwf_seq, cwf_ops, cwf_ret, c_false, cwf_exit, andThen_normal, andThen_exit, blockQ_exit, lwQ_exit, fnQ_ret, owf_nil, o_p, bo_eq, optQ_some, pop, popQ, ev, putA, look_put, isB_false, abinF_eq, abin, resAll, resA, mkRes1, Int.reduceLT, Int.cast_ofNat_Int, decide_true, decide_false, cond_true, cond_false, ite_true, ite_false, Bool.not_false, Nat.reduceEqDiff, Option.some.injEq, exists_eq_left', true_and, and_true]
    exact .inl (fun j hj => by simp at hj)
  · simp only [af84, cwf_seq, cwf_ops, cwf_block, cwf_loop, andThen_normal, owf_nil, o_p, bo_eq, optQ_some, pop, popQ, ev, putA, putArgs]
    refine cw_loop (fun k ts h' => ∃ i : Nat, k = l.length - i ∧ 1 ≤ i ∧ i ≤ l.length ∧ h' = h ∧ look ts 0 = .slice (some ⟨x, p, none⟩) l.length cap ∧ look ts 3 = I i ∧ ∀ j (hj : j + 1 < l.length), j + 1 < i → l[j].1 < l[j + 1].1) ?_ (n := l.length - 1) ⟨1, rfl, Nat.le_refl _, hpos, rfl, by simp only [look_put, ite_true, ite_false, Nat.reduceEqDiff], by simp only [look_put, Int.cast_ofNat_Int, ite_true, ite_false, Nat.reduceEqDiff] <;> rfl, fun j hj h1 => by omega⟩
    rintro k ts h' ⟨i, rfl, i1, i2, rfl, t0, t3, hasc⟩
    refine cwf_cw ?_
    by_cases hi : i < l.length
    · have ci : ((i : Int) < l.length) = True := by simp [hi]
      have w1 : wrapF .i64 ((i : Int) - 1) = ((i - 1 : Nat) : Int) := by rw [wrapI] <;> omega
      have wi : wrapF .i64 ((i : Int) + 1) = ((i + 1 : Nat) : Int) := by rw [wrapI] <;> omega
      have c2 : (((i - 1 : Nat) : Int) < l.length) = True := by simp; omega
      have r1 : h'.rd x (p + i * 2) = some (I l[i].1) := by rw [hr.rd (by omega)]; exact flat_key l i hi
      have r2 : h'.rd x (p + (i - 1) * 2) = some (I l[i - 1].1) := by rw [hr.rd (by omega)]; exact flat_key l (i - 1) (by omega)
      simp only [cwf_seq, cwf_ops, c_true, cwf_skip, cwf_block, cwf_draw, andThen_normal, owf_nil, o_p, bo_eq, bd_eq, optQ_some, d_p, d_r, pop, popQ, rop_load1, ldV_ptr, ev, putA, look_put, isB_true, abinF_eq, abin, Int.toNat_natCast, Int.natCast_nonneg, Nat.add_zero, inB_eq, decide_true, cond_true, cond_false, ite_true, ite_false, Bool.and_true, Nat.reduceEqDiff, t0, t3, ci]
      refine ⟨cf00, cf00_ok, ?_⟩
      by_cases hc : l[i].1 ≤ l[i - 1].1
      · simp only [cwf_seq, cwf_ops, cwf_ret, c_true, andThen_normal, andThen_ret, blockQ_ret, roundQ_ret, fnQ_ret, owf_nil, o_p, bo_eq, bd_eq, optQ_some, dwf_nil, d_p, d_r, pop, popQ, rop_load1, ldV_ptr, ev, putA, look_put, isB_true, abinF_eq, abin, resAll, resA, mkRes1, Int.toNat_natCast, Int.natCast_nonneg, Nat.add_zero, inB_eq, decide_true, cond_true, ite_true, ite_false, Bool.and_true, Nat.reduceEqDiff, Option.some.injEq, exists_eq_left', true_and, and_true, t0, t3, w1, c2, r1, r2, hc]
        refine .inr (fun ha => ?_)
        have := ha (i - 1) (by omega)
        have e : i - 1 + 1 = i := by omega
        simp only [e] at this
        omega
      · simp only [cwf_ops, c_false, cwf_skip, andThen_normal, blockQ_normal, roundQ_normal, owf_nil, o_p, bo_eq, bd_eq, optQ_some, dwf_nil, d_p, d_r, pop, popQ, rop_load1, ldV_ptr, ev, putA, look_put, isB_false, abinF_eq, abin, Int.toNat_natCast, Int.natCast_nonneg, Nat.add_zero, inB_eq, decide_true, decide_false, cond_true, ite_true, ite_false, Bool.and_true, Bool.not_false, Nat.reduceEqDiff, true_and, t0, t3, w1, c2, r1, r2, hc, wi]
        refine ⟨l.length - (i + 1), by omega, i + 1, rfl, by omega, by omega, rfl, fun j hj hji => ?_⟩
        by_cases hj2 : j + 1 < i
        · exact hasc j hj hj2
        · have e : j = i - 1 := by omega
          subst e
          have e : i - 1 + 1 = i := by omega
          simp only [e]
          omega
    · have ci : ((i : Int) < l.length) = False := by simp; omega
      have ha : Asc l := fun j hj => hasc j hj (by omega)
      simp only [cwf_seq, cwf_ops, cwf_ret, c_false, cwf_exit, andThen_normal, andThen_exit, blockQ_exit, roundQ_exit, fnQ_ret, owf_nil, o_p, bo_eq, optQ_some, pop, popQ, ev, putA, look_put, isB_false, abinF_eq, abin, resAll, resA, mkRes1, decide_true, decide_false, cond_true, cond_false, ite_true, ite_false, Bool.not_false, Nat.reduceEqDiff, Option.some.injEq, exists_eq_left', true_and, and_true, t0, t3, ci]
      exact .inl ha

end
end
end Go.Proofs.YtpeihcpclcibgaaGreat.Ai
/- What the document's Build comes to. -/
namespace Go.Proofs.YtpeihcpclcibgaaGreat.Ai
open Go.Proofs.YtpeihcpclcibgaaGreat
noncomputable section
open Go.RowKit
section
variable {P : Program} {tab : Nat → Option AFunc} (hT : TabOk P tab) (H : HasR tab)
include hT H

end
end
end Go.Proofs.YtpeihcpclcibgaaGreat.Ai
/- What is refused; lists; copies. -/
namespace Go.Proofs.YtpeihcpclcibgaaGreat.Ai
open Go.Proofs.YtpeihcpclcibgaaGreat
noncomputable section
open Go.RowKit
section
variable {P : Program} {tab : Nat → Option AFunc} (hT : TabOk P tab)
include hT

theorem make_no (H : Has tab) {h : Heap} {b : Nat} {u : Option Nat} {C : List Int} {z c o r : Int} (m : MemAt h b u C z c o r) {base : Option Addr} {cap n : Nat} (hn : n = 0 ∨ z < (C.length : Int) + n) (hz : 0 ≤ z ∧ z ≤ 65536) (hC : (C.length : Int) ≤ z) (hc : 0 ≤ c ∧ c < 1000000000) (hr : 0 ≤ r ∧ r < 1000000000) :
    FSpec P 108 [.pointer (some ⟨b, 0, none⟩), .slice base n cap] h fun v h' => v = .tuple #[I 0, .bool false] ∧ MemAt h' b u C z (c + 1) o (r + 1) ∧ Same h h' (fun j => j = b) := by
  refine fspec_cwf hT H.f35 rfl ?_
  have wc : wrapF .i64 (c + 1) = c + 1 := wrapI (by omega) (by omega)
  have wr : wrapF .i64 (r + 1) = r + 1 := wrapI (by omega) (by omega)
  have wz : wrapF .i64 (z - C.length) = z - C.length := wrapI (by omega) (by omega)
  have m1 := m.set z (c + 1) o r
  have m2 := m1.set z (c + 1) o (r + 1)
  have s : Same h ((h.setB b (memBlk (useSl u C) z (c + 1) o r)).setB b (memBlk (useSl u C) z (c + 1) o (r + 1))) (fun j => j = b) := (Same.setB (S := fun j => j = b) rfl).trans (Same.setB (S := fun j => j = b) rfl) (fun _ _ x => x)
  simp only [af108, cwf_seq, cwf_ops, cwf_draw, andThen_normal, owf_nil, o_p, o_r, o_e, behind_eq, bo_eq, bd_eq, optQ_some, opt2_some, d_p, pop, popQ, rop_load1, ldV_ptr, ev, putA, putArgs, look_put, abinF_eq, abin, eop_store1, st1, scalar_int, decide_true, cond_true, cond_false, ite_true, ite_false, Nat.reduceEqDiff, Nat.zero_add, m.rd2, m.wr2, wc]
  refine ⟨cf00, cf00_ok, ?_⟩
  rcases Nat.eq_zero_or_pos n with e0 | e0
  · subst e0
    simp only [cwf_seq, cwf_ops, cwf_ret, c_true, andThen_normal, andThen_ret, fnQ_ret, owf_nil, o_p, o_r, o_e, behind_eq, bo_eq, bd_eq, optQ_some, opt2_some, dwf_nil, d_p, d_off, pop, popQ, rop_load1, ldV_ptr, ev, putA, look_put, isB_true, isB_false, abinF_eq, abin, resAll, resA, mkRes2, eop_store1, st1, Int.cast_ofNat_Int, scalar_int, decide_true, cond_true, ite_true, ite_false, Bool.not_true, Nat.reduceEqDiff, Nat.zero_add, Option.some.injEq, exists_eq_left', true_and, beq_self_eq_true, m1.rd4, m1.wr4, wr]
    exact ⟨m2, s⟩
  · have hb : ((n : Int) == 0) = false := by rw [beq_eq_false_iff_ne]; omega
    have hg : ((n : Int) > z - C.length) = True := by simp; omega
    simp only [cwf_seq, cwf_ops, cwf_ret, c_true, andThen_normal, andThen_ret, fnQ_ret, owf_nil, o_p, o_r, o_e, behind_eq, bo_eq, bd_eq, optQ_some, opt2_some, dwf_nil, d_p, d_r, d_on, pop, popQ, rop_load1, ldV_ptr, ev, putA, look_put, isB_true, isB_false, abinF_eq, abin, resAll, resA, mkRes2, eop_store1, st1, Nat.add_zero, scalar_int, decide_true, cond_true, cond_false, ite_true, ite_false, Bool.not_false, Nat.reduceEqDiff, Nat.zero_add, Option.some.injEq, exists_eq_left', true_and, m1.rd0, m1.rd1, m1.rd4, m1.wr4, hb, wz, wr, hg]
    exact ⟨m2, s⟩

end
end
end Go.Proofs.YtpeihcpclcibgaaGreat.Ai
/- Lists as they come, or made; whether two are alike. -/
namespace Go.Proofs.YtpeihcpclcibgaaGreat.Ai
open Go.Proofs.YtpeihcpclcibgaaGreat
noncomputable section
open Go.RowKit
theorem eq_pair (a b : Int) : eqE (.fld false 0 1 .int (.fld false 1 1 .int .done)) (.agg [I a, I b].toArray) (.agg [I a, I b].toArray) = some true := by simp [eqE]

def ldN (h : Heap) (n : Nat) (v : Value) : Option Value := match v with
  | .pointer (some ⟨b, o, none⟩) => (match h.rds b o n with
    | some l => some (.agg l.toArray)
    | none => none)
  | _ => none
theorem rop_loadN {ts : T Value} {h : Heap} {n : Nat} {x : Opd} : rop ts h (.loadN n x) = ldN h n (ev ts x) := (rfl)
theorem ldN_of {h : Heap} {b o n : Nat} {l : List Value} (hr : h.rds b o n = some l) : ldN h n (.pointer (some ⟨b, o, none⟩)) = some (.agg l.toArray) := by
  show (match h.rds b o n with | some l => some (Value.agg l.toArray) | none => none) = _
  rw [hr]

theorem pair_rds {h : Heap} {x p cap : Nat} {l : List Pr} (r : RdAt h x p 2 l.length cap (flat l)) {i : Nat} (hi : i < l.length) : h.rds x (p + i * 2) 2 = some [I l[i].1, I l[i].2] := by
  have s := r.sub (lo := i) (hi := i + 1) (by omega) (by omega)
  have := s.src
  have e : i + 1 - i = 1 := by omega
  rw [e] at this
  show h.rds x (p + i * 2) 2 = _
  have h2 : srcCells h 2 (.slice (some ⟨x, p + i * 2, none⟩) 1 (cap - i)) = (match h.rds x (p + i * 2) (1 * 2) with | some l => some (l, 1) | none => none) := (rfl)
  rw [h2] at this
  cases hq : h.rds x (p + i * 2) (1 * 2) with
  | none => rw [hq] at this; cases this
  | some q =>
    rw [hq] at this
    simp only [Option.some.injEq, Prod.mk.injEq, and_true] at this
    rw [this]
    have hk := flat_key l i hi
    have hv := flat_val l i hi
    have hlen := flat_len l
    apply congrArg some
    apply List.ext_getElem?
    intro j
    match j with
    | 0 => simp [hk]
    | 1 => simp [List.getElem?_drop, hv]
    | j + 2 => simp [List.getElem?_take]; omega

section
variable {P : Program} {tab : Nat → Option AFunc} (hT : TabOk P tab)
include hT

theorem alike_spec (HR : HasR tab) {h : Heap} {v w : Value} {l : List Pr} {u u' : Option Nat} (a : PrAt h v l u) (b : PrAt h w l u') (hl : l.length < 1000000) : FSpec P 27 [v, w] h fun x h' => x = .bool true ∧ h' = h := by
  refine fspec_cwf hT HR.r32 rfl ?_
  obtain ⟨b1, c1, hv⟩ := a.len
  obtain ⟨b2, c2, hw⟩ := b.len
  have e : ((l.length : Int) != l.length) = false := by simp
  subst hv; subst hw
  simp only [af27, cwf_seq, cwf_ops, c_false, cwf_skip, cwf_block, cwf_loop, andThen_normal, owf_nil, o_p, bo_eq, optQ_some, pop, popQ, ev, putA, putArgs, look_put, isB_false, abinF_eq, abin, decide_true, cond_true, cond_false, ite_true, ite_false, Bool.not_false, Nat.reduceEqDiff, Nat.zero_add, e]
  refine cw_loop (fun k ts h' => ∃ i : Nat, k = l.length - i ∧ i ≤ l.length ∧ h' = h ∧ look ts 0 = .slice b1 l.length c1 ∧ look ts 1 = .slice b2 l.length c2 ∧ look ts 5 = I i) ?_ (n := l.length) ⟨0, rfl, Nat.zero_le _, rfl, by simp only [look_put, ite_true, ite_false, Nat.reduceEqDiff], by simp only [look_put, ite_true, ite_false, Nat.reduceEqDiff], by simp only [look_put, Int.cast_ofNat_Int, ite_true, ite_false, Nat.reduceEqDiff] <;> rfl⟩
  rintro k ts h' ⟨i, rfl, i2, rfl, t0, t1, t5⟩
  refine cwf_cw ?_
  by_cases hi : i < l.length
  · have ci : ((i : Int) < l.length) = True := by simp [hi]
    have wi : wrapF .i64 ((i : Int) + 1) = ((i + 1 : Nat) : Int) := by rw [wrapI] <;> omega
    rcases a with ⟨rfl, _⟩ | ⟨x, p, cap, rfl, ha, _, ra⟩
    · simp at hi
    rcases b with ⟨rfl, _⟩ | ⟨y, q, cap', rfl, hb, _, rb⟩
    · simp at hi
    cases ha; cases hb
    simp only [cwf_seq, cwf_ops, c_true, cwf_skip, cwf_block, cwf_draw, andThen_normal, owf_nil, o_p, bo_eq, bd_eq, optQ_some, d_p, d_r, pop, popQ, ev, putA, look_put, isB_true, abinF_eq, abin, Int.toNat_natCast, Int.natCast_nonneg, inB_eq, decide_true, cond_true, cond_false, ite_true, ite_false, Bool.and_true, Nat.reduceEqDiff, t0, t5, ci]
    refine ⟨cf00, cf00_ok, ?_⟩
    have q1 := ldN_of (pair_rds ra hi)
    have q2 := ldN_of (pair_rds rb hi)
    simp only [cwf_ops, c_false, cwf_skip, andThen_normal, blockQ_normal, roundQ_normal, owf_nil, o_p, bo_eq, bd_eq, optQ_some, dwf_nil, d_p, d_r, pop, popQ, ev, putA, look_put, isB_false, abinF_eq, abin, Int.toNat_natCast, Int.natCast_nonneg, inB_eq, decide_true, cond_true, ite_true, ite_false, Bool.and_true, Bool.not_true, Bool.not_false, Nat.reduceEqDiff, true_and, rop_loadN, t0, t1, t5, ci, q1, q2, eq_pair, wi]
    exact ⟨l.length - (i + 1), by omega, i + 1, rfl, by omega, rfl⟩
  · have ci : ((i : Int) < l.length) = False := by simp; omega
    simp only [cwf_seq, cwf_ops, cwf_ret, c_false, cwf_exit, andThen_normal, andThen_exit, blockQ_exit, roundQ_exit, fnQ_ret, owf_nil, o_p, bo_eq, optQ_some, pop, popQ, ev, putA, look_put, isB_false, abinF_eq, abin, resAll, resA, mkRes1, decide_true, decide_false, cond_true, cond_false, ite_true, ite_false, Bool.not_false, Nat.reduceEqDiff, Option.some.injEq, exists_eq_left', and_true, t0, t5, ci]
end
end
end Go.Proofs.YtpeihcpclcibgaaGreat.Ai
