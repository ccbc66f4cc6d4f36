/- Blocks by name, what a function leaves as it was, a memory. -/
import Derived.Test.YtedldiimhbebdaaAiSpec
namespace Go.Proofs.Ytedldiimhbebdaa.Ai
noncomputable section
open Go.RowKit

abbrev I (a : Int) : Value := .int .i64 a

/-- what is as it was: all that was there, but these -/
structure Same (h h' : Heap) (S : Nat → Prop) : Prop where
  next : h.next ≤ h'.next
  loops : h'.loops = h.loops
  marks : h'.marks = h.marks
  get : ∀ j, j < h.next → ¬ S j → h'.blks.get j = h.blks.get j

theorem Same.refl (h : Heap) (S : Nat → Prop) : Same h h S := ⟨Nat.le_refl _, rfl, rfl, fun _ _ _ => rfl⟩
theorem Same.trans {h k m : Heap} {S T : Nat → Prop} (a : Same h k S) (b : Same k m T) (hT : ∀ j, j < h.next → T j → S j) : Same h m S :=
  ⟨Nat.le_trans a.next b.next, by rw [b.loops, a.loops], by rw [b.marks, a.marks], fun j hj hs => by
    rw [b.get j (Nat.lt_of_lt_of_le hj a.next) (fun ht => hs (hT j hj ht)), a.get j hj hs]⟩
theorem Same.mono {h k : Heap} {S T : Nat → Prop} (a : Same h k S) (hT : ∀ j, S j → T j) : Same h k T := ⟨a.next, a.loops, a.marks, fun j hj ht => a.get j hj (fun hs => ht (hT j hs))⟩

def Heap.setB (h : Heap) (b : Nat) (k : Blk) : Heap := { h with blks := h.blks.put b k }

theorem setB_get (h : Heap) (b : Nat) (k : Blk) (j : Nat) : (h.setB b k).blks.get j = if j = b then some k else h.blks.get j := by
  unfold Heap.setB
  split
  · rename_i e; subst e; exact T.get_put_same _ _ _
  · rename_i e; exact T.get_put_other _ _ e
theorem setB_next (h : Heap) (b : Nat) (k : Blk) : (h.setB b k).next = h.next := (rfl)
theorem setB_loops (h : Heap) (b : Nat) (k : Blk) : (h.setB b k).loops = h.loops := (rfl)
theorem setB_marks (h : Heap) (b : Nat) (k : Blk) : (h.setB b k).marks = h.marks := (rfl)
theorem new_get (h : Heap) (k : Blk) (j : Nat) : (h.new k).blks.get j = if j = h.next then some k else h.blks.get j := setB_get h h.next k j
theorem new_next (h : Heap) (k : Blk) : (h.new k).next = h.next + 1 := (rfl)
theorem new_loops (h : Heap) (k : Blk) : (h.new k).loops = h.loops := (rfl)
theorem new_marks (h : Heap) (k : Blk) : (h.new k).marks = h.marks := (rfl)
theorem kill_eq (h : Heap) (b : Nat) (k : Blk) : h.kill b k = h.setB b { k with cells := [] } := (rfl)

theorem Same.setB {h : Heap} {b : Nat} {k : Blk} {S : Nat → Prop} (hb : S b) : Same h (h.setB b k) S := ⟨Nat.le_refl _, rfl, rfl, fun j _ hs => by
  rw [setB_get, if_neg (fun e => hs (by rw [e]; exact hb))]⟩
theorem Same.new {h : Heap} {k : Blk} {S : Nat → Prop} : Same h (h.new k) S := ⟨Nat.le_succ _, rfl, rfl, fun j hj _ => by
  rw [new_get, if_neg (Nat.ne_of_lt hj)]⟩

/-! ### cells -/

theorem leLen_le {l : List Value} {n : Nat} (h : n ≤ l.length) : leLen l n = true := by rw [leLen_eq]; exact Nat.ble_eq_true_of_le h

theorem splice_one (v : Value) (l : List Value) : ∀ (o : Nat), o < l.length → splice l o [v] = l.set o v := by
  intro o h
  apply List.ext_getElem?
  intro i
  unfold splice
  simp only [List.length_singleton]
  rw [List.getElem?_set]
  rw [List.append_assoc, List.getElem?_append]
  simp only [List.length_take, Nat.min_eq_left (Nat.le_of_lt h)]
  by_cases h1 : i < o
  · rw [if_pos h1, if_neg (by omega), List.getElem?_take, if_pos h1]
  · rw [if_neg h1]
    by_cases h2 : i = o
    · subst h2; simp [h]
    · rw [if_neg (by omega), List.getElem?_append_right (by simp; omega), List.getElem?_drop]
      simp only [List.length_singleton]
      congr 1; omega

theorem rd_of {h : Heap} {b o : Nat} {k : Blk} (hb : h.blks.get b = some k) : h.rd b o = k.cells[o]? := by
  unfold Heap.rd; rw [hb]; exact nth_eq _ _

theorem rds_of {h : Heap} {b o n : Nat} {k : Blk} (hb : h.blks.get b = some k) (hl : o + n ≤ k.cells.length) : h.rds b o n = some ((k.cells.drop o).take n) := by
  unfold Heap.rds; rw [hb]; simp only [leLen_le hl, cond_true]

theorem wrs1_of {h : Heap} {b o : Nat} {k : Blk} {v : Value} (hb : h.blks.get b = some k) (ho : k.own = true) (hl : o < k.cells.length) (hs : scalar v = true) : h.wrs b o [v] = some (h.setB b { k with cells := k.cells.set o v }) := by
  unfold Heap.wrs; rw [hb]
  have : o + 1 ≤ k.cells.length := hl
  simp only [List.length_cons, List.length_nil, Nat.zero_add, leLen_le this, ho, List.all_cons, hs, List.all_nil, Bool.and_true, cond_true, spl_eq, splice_one _ _ _ hl]
  rfl

/-! ### for the equations -/

section
variable {P : Program} {N : Nat} {cf : CallF} {ts : T Value} {h : Heap} {S : T Value → Heap → Prop} {Z : AExit → T Value → Heap → Prop} {r : List AOper} {dst : Option Nat} {q : AOp} {ac bc : ACode}

/-- what is asked behind, if there is something -/
def optQ (o : Option Value) (k : Value → Prop) : Prop := match o with
  | some v => k v
  | none => False
def opt2 (o : Option (Value × Heap)) (k : Value → Heap → Prop) : Prop := match o with
  | some (v, h) => k v h
  | none => False
theorem optQ_some (v : Value) (k : Value → Prop) : optQ (some v) k = k v := (rfl)
theorem opt2_some (v : Value) (h : Heap) (k : Value → Heap → Prop) : opt2 (some (v, h)) k = k v h := (rfl)

def bo (P : Program) (r : List AOper) (ts : T Value) (dst : Option Nat) (h : Heap) (S : T Value → Heap → Prop) (v : Value) : Prop := owf P r (putA ts dst v) h S
def bd (cf : CallF) (r : List AOper) (ts : T Value) (dst : Option Nat) (h : Heap) (S : T Value → Heap → Prop) (v : Value) : Prop := dwf cf r (putA ts dst v) h S
def bd2 (cf : CallF) (r : List AOper) (ts : T Value) (dst : Option Nat) (S : T Value → Heap → Prop) (v : Value) (h : Heap) : Prop := dwf cf r (putA ts dst v) h S
theorem bo_eq (v : Value) : bo P r ts dst h S v = owf P r (putA ts dst v) h S := (rfl)
theorem bd_eq (v : Value) : bd cf r ts dst h S v = dwf cf r (putA ts dst v) h S := (rfl)
theorem bd2_eq (v : Value) : bd2 cf r ts dst S v h = dwf cf r (putA ts dst v) h S := (rfl)
theorem behind_eq (v : Value) : behind P r ts dst S v h = owf P r (putA ts dst v) h S := (rfl)

theorem o_p {q : POp} : owf P (⟨dst, .p q, none⟩ :: r) ts h S = optQ (pop ts q) (bo P r ts dst h S) := owf_p
theorem o_r {q : ROp} : owf P (⟨dst, .r q, none⟩ :: r) ts h S = optQ (rop ts h q) (bo P r ts dst h S) := owf_r
theorem o_e {q : EOp} : owf P (⟨dst, .e q, none⟩ :: r) ts h S = opt2 (eop ts h q) (behind P r ts dst S) := owf_e
theorem d_p {q : POp} : dwf cf (⟨dst, .p q, none⟩ :: r) ts h S = optQ (pop ts q) (bd cf r ts dst h S) := dwf_p
theorem d_r {q : ROp} : dwf cf (⟨dst, .r q, none⟩ :: r) ts h S = optQ (rop ts h q) (bd cf r ts dst h S) := dwf_r
theorem d_e {q : EOp} : dwf cf (⟨dst, .e q, none⟩ :: r) ts h S = opt2 (eop ts h q) (bd2 cf r ts dst S) := dwf_e
theorem d_call {f : Nat} {l : List Opd} : dwf cf (⟨dst, .call f l, none⟩ :: r) ts h S = opt2 (cf (.fn f) (evs ts l) h) (bd2 cf r ts dst S) := dwf_call
theorem o_on {t : Nat} {b : Bool} (hb : isB (look ts t) b = true) : owf P (⟨dst, q, some (t, b)⟩ :: r) ts h S = owf P (⟨dst, q, none⟩ :: r) ts h S := by rw [owf_guard, hb]; rfl
theorem o_off {t : Nat} {b : Bool} (hb : isB (look ts t) b = false) : owf P (⟨dst, q, some (t, b)⟩ :: r) ts h S = owf P r (putA ts dst undef) h S := by rw [owf_guard, hb]; rfl
theorem d_on {t : Nat} {b : Bool} (hb : isB (look ts t) b = true) : dwf cf (⟨dst, q, some (t, b)⟩ :: r) ts h S = dwf cf (⟨dst, q, none⟩ :: r) ts h S := by rw [dwf_guard, hb]; rfl
theorem d_off {t : Nat} {b : Bool} (hb : isB (look ts t) b = false) : dwf cf (⟨dst, q, some (t, b)⟩ :: r) ts h S = dwf cf r (putA ts dst undef) h S := by rw [dwf_guard, hb]; rfl
theorem c_true {c : Opd} (hb : isB (ev ts c) true = true) : cwf P N (.cond c ac bc) ts h Z = cwf P N ac ts h Z := by
  rw [cwf_cond]
  cases hc : ev ts c <;> rw [hc] at hb <;> simp [isB] at hb
  subst hb; rfl
theorem c_false {c : Opd} (hb : isB (ev ts c) false = true) : cwf P N (.cond c ac bc) ts h Z = cwf P N bc ts h Z := by
  rw [cwf_cond]
  cases hc : ev ts c <;> rw [hc] at hb <;> simp [isB] at hb
  subst hb; rfl
theorem isB_true (b : Bool) : isB (.bool b) true = b := (rfl)
theorem isB_false (b : Bool) : isB (.bool b) false = !b := by cases b <;> rfl
end


theorem scalar_slice (a : Option Addr) (n c : Nat) : scalar (.slice a n c) = true := by simp [scalar]
theorem scalar_int (k : IntKind) (n : Int) : scalar (.int k n) = true := by simp [scalar]
theorem scalar_ptr (a : Option Addr) : scalar (.pointer a) = true := by simp [scalar]
theorem scalar_bool (b : Bool) : scalar (.bool b) = true := by simp [scalar]
theorem wrapF_zero : wrapF .i64 0 = 0 := by decide
theorem min364 : min 3 64 = 3 := (rfl)
theorem mkRes0 : mkRes [] = .tuple #[] := (rfl)
theorem mkRes1 (v : Value) : mkRes [v] = v := (rfl)
theorem mkRes2 (v u : Value) (l : List Value) : mkRes (v :: u :: l) = .tuple (v :: u :: l).toArray := (rfl)

theorem cells_scalar {v : Value} (h : scalar v = true) : v.cells.toList = [v] := by
  cases v <;> first | rfl | (cases h)

/-- a cell is written -/
def st1 (h : Heap) (p v : Value) : Option (Value × Heap) := match p with
  | .pointer (some ⟨b, o, none⟩) => (match h.wrs b o [v] with
    | some h' => some (undef, h')
    | none => none)
  | _ => none

theorem eop_store1 {ts : T Value} {h : Heap} {a x : Opd} (hs : scalar (ev ts x) = true) : eop ts h (.store 1 a x) = st1 h (ev ts a) (ev ts x) := by
  show (match ev ts a with
    | .pointer (some ⟨b, o, none⟩) => (bif Nat.beq (ev ts x).cells.toList.length 1 && Nat.ble 1 1 then (match h.wrs b o (ev ts x).cells.toList with
        | some h' => some (undef, h')
        | none => none) else none)
    | _ => none) = _
  rw [cells_scalar hs]; rfl

/-- a new row of what was built -/
def bldS (h : Heap) (s len : Nat) (o : Option (List Value)) : Option (Value × Heap) := match o with
  | some cs => some (.slice (some ⟨h.next, 0, none⟩) len len, h.new { cells := cs, n := len * s, s := s, own := true, grown := false })
  | none => none
theorem bldS_some (h : Heap) (s len : Nat) (cs : List Value) : bldS h s len (some cs) = some (.slice (some ⟨h.next, 0, none⟩) len len, h.new { cells := cs, n := len * s, s := s, own := true, grown := false }) := (rfl)
theorem eop_buildS {ts : T Value} {h : Heap} {s len : Nat} {zero : List Value} {ps : List (Nat × Nat × Opd)} : eop ts h (.buildS s len zero ps) = bldS h s len (fillA zero (evP ts ps)) := (rfl)
theorem evP_nil {ts : T Value} : evP ts [] = [] := (rfl)
theorem evP_cons {ts : T Value} {a b : Nat} {x : Opd} {r : List (Nat × Nat × Opd)} : evP ts ((a, b, x) :: r) = (a, b, ev ts x) :: evP ts r := (rfl)
theorem fillA_nil (cells : List Value) : fillA cells [] = some cells := (rfl)
theorem fillA_one {cells : List Value} {off : Nat} {v : Value} {r : List (Nat × Nat × Value)} (hv : scalar v = true) (ho : off < cells.length) : fillA cells ((off, 1, v) :: r) = fillA (cells.set off v) r := by
  show (bif Nat.beq v.cells.toList.length 1 && Nat.ble (off + 1) cells.length then fillA (splice cells off v.cells.toList) r else none) = _
  rw [cells_scalar hv, splice_one _ _ _ ho, Nat.ble_eq_true_of_le (show off + 1 ≤ cells.length from ho)]
  rfl
theorem fillA_pair {v u x y : Value} : fillA [v, u] [(0, 2, .agg #[x, y])] = some [x, y] := (rfl)

/-- a new block for a value -/
def boxV (h : Heap) (n : Nat) (v : Value) : Option (Value × Heap) := bif Nat.beq v.cells.toList.length n then some (.pointer (some ⟨h.next, 0, none⟩), h.new { cells := v.cells.toList, n := n, s := n, own := true, grown := false }) else none
theorem eop_box {ts : T Value} {h : Heap} {n : Nat} {x : Opd} : eop ts h (.box n x) = boxV h n (ev ts x) := (rfl)
theorem boxV5 (h : Heap) (a b c d e : Value) : boxV h 5 (.agg #[a, b, c, d, e]) = some (.pointer (some ⟨h.next, 0, none⟩), h.new ⟨[a, b, c, d, e], 5, 5, true, false⟩) := (rfl)

theorem tmod_cases (n k : Int) (k0 : 0 < k) : n.tmod k = n % k ∧ 0 ≤ n.tmod k ∨ n.tmod k = n % k - k ∧ n.tmod k < 0 := by
  have h := @Int.tmod_eq_emod n k
  have em := Int.emod_nonneg n (show k ≠ 0 by omega)
  have el := Int.emod_lt_of_pos n k0
  split at h <;> omega

theorem wrapI {a : Int} (h0 : -9223372036854775808 ≤ a) (h1 : a < 9223372036854775808) : wrapF .i64 a = a := by
  rw [wrapF_eq]; exact IntWalk.i64_in _ (by omega)

/-! ### a memory -/

abbrev useSl (u : Option Nat) (C : List Int) : Value := .slice (u.map fun x => ⟨x, 0, none⟩) C.length C.length

def memBlk (sl : Value) (z c o r : Int) : Blk := ⟨[sl, I z, I c, I o, I r], 5, 5, true, false⟩
def usedBlk (C : List Int) : Blk := ⟨C.map I, C.length, 1, true, true⟩

/-- a memory lies there: its cells; its size, how many accesses, odd ones, refused ones -/
structure MemAt (h : Heap) (b : Nat) (u : Option Nat) (C : List Int) (z c o r : Int) : Prop where
  blk : h.blks.get b = some (memBlk (useSl u C) z c o r)
  use : ∀ x, u = some x → h.blks.get x = some (usedBlk C) ∧ x ≠ b ∧ x < h.next ∧ C ≠ []
  non : u = none → C = []
  lt : b < h.next

theorem MemAt.same {h h' : Heap} {b : Nat} {u : Option Nat} {C : List Int} {z c o r : Int} {S : Nat → Prop} (m : MemAt h b u C z c o r) (s : Same h h' S) (hb : ¬ S b) (hu : ∀ x, u = some x → ¬ S x) : MemAt h' b u C z c o r :=
  ⟨by rw [s.get b m.lt hb]; exact m.blk, fun x hx => by
    obtain ⟨h1, h2, h3, h4⟩ := m.use x hx
    exact ⟨by rw [s.get x h3 (hu x hx)]; exact h1, h2, Nat.lt_of_lt_of_le h3 s.next, h4⟩, m.non, Nat.lt_of_lt_of_le m.lt s.next⟩

section
variable {h : Heap} {b : Nat} {u : Option Nat} {C : List Int} {z c o r : Int} (m : MemAt h b u C z c o r)
include m
theorem MemAt.rd0 : h.rd b 0 = some (useSl u C) := rd_of m.blk
theorem MemAt.rd1 : h.rd b 1 = some (I z) := rd_of m.blk
theorem MemAt.rd2 : h.rd b 2 = some (I c) := rd_of m.blk
theorem MemAt.rd3 : h.rd b 3 = some (I o) := rd_of m.blk
theorem MemAt.rd4 : h.rd b 4 = some (I r) := rd_of m.blk
theorem MemAt.wr0 {v : Value} (hv : scalar v = true) : h.wrs b 0 [v] = some (h.setB b (memBlk v z c o r)) := wrs1_of m.blk rfl (by simp [memBlk]) hv
theorem MemAt.wr2 (x : Int) : h.wrs b 2 [I x] = some (h.setB b (memBlk (useSl u C) z x o r)) := wrs1_of m.blk rfl (by simp [memBlk]) rfl
theorem MemAt.wr3 (x : Int) : h.wrs b 3 [I x] = some (h.setB b (memBlk (useSl u C) z c x r)) := wrs1_of m.blk rfl (by simp [memBlk]) rfl
theorem MemAt.wr4 (x : Int) : h.wrs b 4 [I x] = some (h.setB b (memBlk (useSl u C) z c o x)) := wrs1_of m.blk rfl (by simp [memBlk]) rfl
theorem MemAt.set (z' c' o' r' : Int) : MemAt (h.setB b (memBlk (useSl u C) z' c' o' r')) b u C z' c' o' r' :=
  ⟨by rw [setB_get, if_pos rfl], fun x hx => by
    obtain ⟨h1, h2, h3, h4⟩ := m.use x hx
    exact ⟨by rw [setB_get, if_neg h2]; exact h1, h2, h3, h4⟩, m.non, m.lt⟩
end

/-! ### slices -/

theorem tail_marks (h k : Heap) (e : k.marks = h.marks) : ({ k with marks := h.marks } : Heap) = k := by rw [← e]


/-- append, of a slice -/
def appV (h : Heap) (s bytes : Nat) (X Y : Value) : Option (Value × Heap) := match X, srcCells h s Y with
  | .slice base len cap, some (news, n) => appA h s bytes base len cap news n
  | _, _ => none

theorem eop_app {ts : T Value} {h : Heap} {s bytes : Nat} {x y : Opd} : eop ts h (.app s bytes x y) = appV h s bytes (ev ts x) (ev ts y) := (rfl)

abbrev ownSl (u : Option Nat) (n : Nat) : Value := .slice (u.map fun x => ⟨x, 0, none⟩) n n

/-- a slice of one's own, grown: nil, or the whole of a block -/
structure OwnAt (h : Heap) (u : Option Nat) (s n : Nat) (cells : List Value) : Prop where
  use : ∀ x, u = some x → h.blks.get x = some ⟨cells, n * s, s, true, true⟩ ∧ x < h.next ∧ 1 ≤ n
  non : u = none → n = 0
  len : cells.length = n * s
  sc : cells.all scalar = true

theorem OwnAt.nil (h : Heap) (s : Nat) : OwnAt h none s 0 [] := { use := fun x hx => (by cases hx), non := fun _ => rfl, len := (by simp), sc := rfl }

theorem OwnAt.same {h h' : Heap} {u : Option Nat} {s n : Nat} {cells : List Value} {S : Nat → Prop} (o : OwnAt h u s n cells) (m : Same h h' S) (hu : ∀ x, u = some x → ¬ S x) : OwnAt h' u s n cells :=
  ⟨fun x hx => by
    obtain ⟨h1, h2, h3⟩ := o.use x hx
    exact ⟨by rw [m.get x h2 (hu x hx)]; exact h1, Nat.lt_of_lt_of_le h2 m.next, h3⟩, o.non, o.len, o.sc⟩

theorem MemAt.own {h : Heap} {b : Nat} {u : Option Nat} {C : List Int} {z c o r : Int} (m : MemAt h b u C z c o r) : OwnAt h u 1 C.length (C.map I) :=
  ⟨fun x hx => by
    obtain ⟨h1, _, h3, h4⟩ := m.use x hx
    exact ⟨by rw [h1, Nat.mul_one]; rfl, h3, List.length_pos_iff.2 h4⟩, fun hu => by rw [m.non hu]; rfl, by simp, by simp [scalar]⟩

theorem mem_wr0 {h : Heap} {b : Nat} {sl v : Value} {z c o r : Int} (hb : h.blks.get b = some (memBlk sl z c o r)) (hv : scalar v = true) : h.wrs b 0 [v] = some (h.setB b (memBlk v z c o r)) := wrs1_of hb rfl (by simp [memBlk]) hv

theorem MemAt.of_own {h : Heap} {b : Nat} {u : Option Nat} {C : List Int} (a : OwnAt h u 1 C.length (C.map I)) (hu : ∀ x, u = some x → x ≠ b) (hb : b < h.next) (z c o r : Int) : MemAt (h.setB b (memBlk (useSl u C) z c o r)) b u C z c o r :=
  ⟨by rw [setB_get, if_pos rfl], fun x hx => by
    obtain ⟨h1, h2, h3⟩ := a.use x hx
    exact ⟨by rw [setB_get, if_neg (hu x hx), h1, Nat.mul_one]; rfl, hu x hx, h2, List.length_pos_iff.1 h3⟩, fun hn => List.eq_nil_of_length_eq_zero (a.non hn), hb⟩

theorem nat_ble {a b : Nat} (h : a ≤ b) : Nat.ble a b = true := Nat.ble_eq_true_of_le h
theorem nat_ble_f {a b : Nat} (h : ¬ a ≤ b) : Nat.ble a b = false := by
  cases hc : Nat.ble a b with
  | false => rfl
  | true => exact absurd (Nat.le_of_ble_eq_true hc) h
theorem nat_beq (a : Nat) : Nat.beq a a = true := Nat.beq_refl a
theorem nat_beq_f {a b : Nat} (h : a ≠ b) : Nat.beq a b = false := by
  rcases beq_cases a b with ⟨h1, h2⟩ | ⟨h1, _⟩
  · exact absurd h2 h
  · exact h1

theorem app_own {h : Heap} {u : Option Nat} {s n k bytes : Nat} {cells news : List Value} {Y : Value} (o : OwnAt h u s n cells) (hy : srcCells h s Y = some (news, k)) (hk : news.length = k * s) (hs : news.all scalar = true) (s1 : 1 ≤ s)
    (b1 : (n + k) * bytes ≤ 1099511627776) (b2 : n + k ≤ 1099511627776) :
    ∃ u' h', appV h s bytes (ownSl u n) Y = some (ownSl u' (n + k), h') ∧ OwnAt h' u' s (n + k) (cells ++ news) ∧ Same h h' (fun j => u = some j) ∧ (∀ x, u' = some x → u = some x ∨ x = h.next) := by
  have hg : (Nat.ble ((n + k) * bytes) 1099511627776 && Nat.ble (n + k) 1099511627776 && Nat.ble 1 s && news.all scalar) = true := by
    rw [nat_ble b1, nat_ble b2, nat_ble s1, hs]; rfl
  unfold appV
  rw [hy]
  simp only [ownSl]
  unfold appA
  rw [hg]
  simp only [cond_true]
  have hall : (cells ++ news).all scalar = true := by rw [List.all_append, o.sc, hs]; rfl
  have hlen : (cells ++ news).length = (n + k) * s := by rw [List.length_append, o.len, hk, Nat.add_mul]
  by_cases k0 : k = 0
  · subst k0
    have hn : news = [] := List.eq_nil_of_length_eq_zero (by simpa using hk)
    subst hn
    refine ⟨u, h, ?_, by simpa using o, Same.refl _ _, fun x hx => .inl hx⟩
    cases hu : u with
    | none =>
      simp only [Option.map_none, nat_beq, nat_ble (Nat.le_refl n), cond_true, Nat.add_zero]
    | some x =>
      obtain ⟨h1, h2, h3⟩ := o.use x hu
      simp only [Option.map_some, h1, nat_beq, Bool.not_true, cond_false, Nat.add_zero, nat_ble (Nat.le_refl n), cond_true]
  · cases hu : u with
    | none =>
      have n0 := o.non hu
      subst n0
      have c0 : cells = [] := List.eq_nil_of_length_eq_zero (by simpa using o.len)
      subst c0
      refine ⟨some h.next, h.new ⟨news, k * s, s, true, true⟩, ?_, ⟨fun x hx => ?_, by simp, by simpa using hlen, by simpa using hall⟩, Same.new, fun x hx => .inr (by cases hx; rfl)⟩
      · simp only [Option.map_none, nat_beq_f k0, cond_false, nat_beq, Bool.and_true, cond_true, Option.map_some, Nat.zero_add]
      · cases hx
        exact ⟨by rw [new_get, if_pos rfl]; simp, Nat.lt_succ_self _, by omega⟩
    | some x =>
      obtain ⟨h1, h2, h3⟩ := o.use x hu
      have hrd : h.rds x 0 (n * s) = some cells := by
        rw [rds_of h1 (by simp [o.len])]
        simp [← o.len]
      have hl1 : 1 ≤ cells.length := by rw [o.len]; exact Nat.mul_pos h3 s1
      refine ⟨some h.next, (h.kill x ⟨cells, n * s, s, true, true⟩).new ⟨cells ++ news, (n + k) * s, s, true, true⟩, ?_, ⟨fun y hy => ?_, by simp, hlen, hall⟩, ?_, fun y hy => .inr (by cases hy; rfl)⟩
      · simp only [Option.map_some, h1, nat_beq, Bool.not_true, cond_false, nat_ble_f (show ¬ n + k ≤ n by omega), hrd, Nat.zero_add, Bool.and_true, cond_true, o.sc, nat_ble hl1]
      · cases hy
        exact ⟨by rw [new_get]; exact if_pos rfl, Nat.lt_succ_self _, by omega⟩
      · exact (Same.setB (S := fun j => some x = some j) (k := _) rfl).trans (Same.new (S := fun j => some x = some j)) (fun _ _ hj => hj)

/-- part of a block, to be read -/
structure RdAt (h : Heap) (x o s n cap : Nat) (cells : List Value) : Prop where
  blk : ∃ k, h.blks.get x = some k ∧ k.s = s ∧ (k.cells.drop o).take (n * s) = cells ∧ o + n * s ≤ k.cells.length
  cap : n ≤ cap
  lt : x < h.next

theorem RdAt.same {h h' : Heap} {x o s n cap : Nat} {cells : List Value} {S : Nat → Prop} (r : RdAt h x o s n cap cells) (m : Same h h' S) (hx : ¬ S x) : RdAt h' x o s n cap cells :=
  ⟨by rw [m.get x r.lt hx]; exact r.blk, r.cap, Nat.lt_of_lt_of_le r.lt m.next⟩

theorem RdAt.len {h : Heap} {x o s n cap : Nat} {cells : List Value} (r : RdAt h x o s n cap cells) : cells.length = n * s := by
  obtain ⟨k, _, _, h3, h4⟩ := r.blk
  rw [← h3]; simp; omega

theorem RdAt.rd {h : Heap} {x o s n cap : Nat} {cells : List Value} (r : RdAt h x o s n cap cells) {i : Nat} (hi : i < n * s) : h.rd x (o + i) = cells[i]? := by
  obtain ⟨k, h1, _, h3, _⟩ := r.blk
  rw [rd_of h1, ← h3, List.getElem?_take, if_pos hi, List.getElem?_drop]

theorem RdAt.src {h : Heap} {x o s n cap : Nat} {cells : List Value} (r : RdAt h x o s n cap cells) : srcCells h s (.slice (some ⟨x, o, none⟩) n cap) = some (cells, n) := by
  obtain ⟨k, h1, _, h3, h4⟩ := r.blk
  show (match h.rds x o (n * s) with | some l => some (l, n) | none => none) = _
  rw [rds_of h1 h4, h3]

theorem RdAt.sub {h : Heap} {x o s n cap lo hi : Nat} {cells : List Value} (r : RdAt h x o s n cap cells) (h1 : lo ≤ hi) (h2 : hi ≤ n) : RdAt h x (o + lo * s) s (hi - lo) (cap - lo) ((cells.drop (lo * s)).take ((hi - lo) * s)) := by
  obtain ⟨k, k1, k2, k3, k4⟩ := r.blk
  have hc := r.cap
  have e1 : hi * s = lo * s + (hi - lo) * s := by rw [← Nat.add_mul]; congr 1; omega
  have e2 : hi * s ≤ n * s := Nat.mul_le_mul_right _ h2
  refine ⟨⟨k, k1, k2, ?_, by omega⟩, by omega, r.lt⟩
  rw [← k3, List.drop_take, List.drop_drop, List.take_take]
  congr 1
  · omega

/-- a block that is new -/
theorem RdAt.fresh (h : Heap) (cells : List Value) (n s : Nat) (own gr : Bool) (hl : cells.length = n * s) : RdAt (h.new ⟨cells, n * s, s, own, gr⟩) h.next 0 s n n cells :=
  ⟨⟨_, by rw [new_get]; exact if_pos rfl, rfl, by rw [List.drop_zero, ← hl, List.take_length], by simp [hl]⟩, Nat.le_refl _, Nat.lt_succ_self _⟩

def appZV (h : Heap) (s bytes : Nat) (zero : List Value) (X Y : Value) : Option (Value × Heap) := match X, asNat Y with
  | .slice base len cap, some n => bif Nat.ble n 1099511627776 then appA h s bytes base len cap (rep zero n) n else none
  | _, _ => none
theorem eop_appZ {ts : T Value} {h : Heap} {s bytes : Nat} {zero : List Value} {x y : Opd} : eop ts h (.appZ s bytes zero x y) = appZV h s bytes zero (ev ts x) (ev ts y) := (rfl)

theorem asNat_I (n : Nat) : asNat (I n) = some n := by simp [asNat]

/-- new ones behind a slice that is none -/
theorem appZ_nil {h : Heap} {s bytes n : Nat} {zero : List Value} (n0 : 0 < n) (b1 : n * bytes ≤ 1099511627776) (b2 : n ≤ 1099511627776) (s1 : 1 ≤ s) (hs : (rep zero n).all scalar = true) :
    appZV h s bytes zero (.slice none 0 0) (I n) = some (.slice (some ⟨h.next, 0, none⟩) n n, h.new ⟨rep zero n, n * s, s, true, true⟩) := by
  unfold appZV
  rw [asNat_I]
  simp only [nat_ble b2, cond_true, appA, Nat.zero_add, nat_ble b1, nat_ble s1, hs, Bool.and_true, nat_beq_f (show n ≠ 0 by omega), cond_false, nat_beq]

theorem rep_int (n : Nat) : rep [I 0] n = (List.replicate n (0 : Int)).map I := by
  induction n with
  | zero => rfl
  | succ n ih => rw [rep, ih]; rfl

/-- what is laid behind none: an empty row still, or a row of one's own -/
def Mid (h : Heap) (s n : Nat) (v : Value) (cells : List Value) (y : Nat) : Prop :=
  (n = 0 ∧ cells = [] ∧ v = .slice (some ⟨y, 0, none⟩) 0 0 ∧ h.blks.get y = some ⟨[], 0, s, true, false⟩ ∧ y < h.next) ∨ (v = ownSl (some y) n ∧ OwnAt h (some y) s n cells)

theorem Mid.same {h h' : Heap} {s n y : Nat} {v : Value} {cells : List Value} {S : Nat → Prop} (a : Mid h s n v cells y) (m : Same h h' S) (hy : ¬ S y) : Mid h' s n v cells y := by
  rcases a with ⟨h1, h2, h3, h4, h5⟩ | ⟨h1, h2⟩
  · exact .inl ⟨h1, h2, h3, by rw [m.get y h5 hy]; exact h4, Nat.lt_of_lt_of_le h5 m.next⟩
  · exact .inr ⟨h1, h2.same m (fun x hx => by cases hx; exact hy)⟩

theorem app_empty {h : Heap} {y s k bytes : Nat} {news : List Value} {Y : Value} (hb : h.blks.get y = some ⟨[], 0, s, true, false⟩) (hlt : y < h.next) (hy : srcCells h s Y = some (news, k)) (hk : news.length = k * s) (hs : news.all scalar = true) (s1 : 1 ≤ s)
    (b1 : k * bytes ≤ 1099511627776) (b2 : k ≤ 1099511627776) :
    ∃ v h' z, appV h s bytes (.slice (some ⟨y, 0, none⟩) 0 0) Y = some (v, h') ∧ Mid h' s k v news z ∧ Same h h' (fun _ => False) ∧ (z = y ∨ z = h.next) ∧ (k ≠ 0 → OwnAt h' (some z) s k news ∧ v = ownSl (some z) k) := by
  have hg : (Nat.ble ((0 + k) * bytes) 1099511627776 && Nat.ble (0 + k) 1099511627776 && Nat.ble 1 s && news.all scalar) = true := by
    rw [Nat.zero_add, nat_ble b1, nat_ble b2, nat_ble s1, hs]; rfl
  unfold appV
  rw [hy]
  simp only
  unfold appA
  rw [hg]
  simp only [cond_true, hb, nat_beq, Bool.not_true, cond_false]
  by_cases k0 : k = 0
  · subst k0
    have hn : news = [] := List.eq_nil_of_length_eq_zero (by simpa using hk)
    subst hn
    refine ⟨_, h, y, ?_, .inl ⟨rfl, rfl, rfl, hb, hlt⟩, Same.refl _ _, .inl rfl, fun hn => absurd rfl hn⟩
    simp only [Nat.add_zero, nat_ble (Nat.le_refl 0), cond_true, nat_beq]
  · have hrd : h.rds y 0 (0 * s) = some [] := by
      rw [rds_of hb (by simp)]; simp
    have ho : OwnAt (h.new ⟨news, k * s, s, true, true⟩) (some h.next) s k news := ⟨fun x hx => by cases hx; exact ⟨by rw [new_get]; exact if_pos rfl, Nat.lt_succ_self _, by omega⟩, by simp, hk, hs⟩
    refine ⟨_, h.new ⟨news, k * s, s, true, true⟩, h.next, ?_, .inr ⟨rfl, ho⟩, Same.new, .inr rfl, fun _ => ⟨ho, rfl⟩⟩
    simp only [nat_ble_f (show ¬ k ≤ 0 by omega), cond_false, hrd, Bool.false_and, Nat.zero_add, List.nil_append, ownSl, Option.map_some]

/-- one more behind it -/
theorem app_mid {h : Heap} {s n k bytes y : Nat} {v Y : Value} {cells news : List Value} (a : Mid h s n v cells y) (hy : srcCells h s Y = some (news, k)) (hk : news.length = k * s) (hs : news.all scalar = true) (s1 : 1 ≤ s) (k0 : k ≠ 0) (b1 : (n + k) * bytes ≤ 1099511627776) (b2 : n + k ≤ 1099511627776) :
    ∃ z h', appV h s bytes v Y = some (ownSl (some z) (n + k), h') ∧ OwnAt h' (some z) s (n + k) (cells ++ news) ∧ Same h h' (fun j => j = y) ∧ (z = y ∨ z = h.next) := by
  rcases a with ⟨rfl, rfl, rfl, h4, h5⟩ | ⟨rfl, h2⟩
  · rw [Nat.zero_add] at b1 b2 ⊢
    obtain ⟨v, h', z, e, _, e3, e4, e5⟩ := app_empty (bytes := bytes) h4 h5 hy hk hs s1 b1 b2
    obtain ⟨e6, rfl⟩ := e5 k0
    exact ⟨z, h', e, e6, e3.mono (fun _ x => x.elim), e4⟩
  · obtain ⟨u', h', e1, e2, e3, e4⟩ := app_own (bytes := bytes) h2 hy hk hs s1 b1 b2
    cases hu : u' with
    | none => rw [hu] at e2; have := e2.non rfl; omega
    | some z =>
      rw [hu] at e1 e2 e4
      exact ⟨z, h', e1, e2, e3.mono (fun j hj => (Option.some.inj hj).symm), (e4 z rfl).imp_left (fun e => (Option.some.inj e).symm)⟩

theorem src_nil (h : Heap) (s : Nat) : srcCells h s (.slice none 0 0) = some ([], 0) := (rfl)
theorem src_vague (h : Heap) (s b o k : Nat) : srcCells h s (.slice (some ⟨b, o, some k⟩) 0 0) = some ([], 0) := (rfl)

/-- append where there is room -/
theorem app_in {h : Heap} {x s n k cap N bytes : Nat} {gr : Bool} {done rest news : List Value} {Y : Value} (hb : h.blks.get x = some ⟨done ++ rest, N, s, true, gr⟩) (hd : done.length = n * s) (hy : srcCells h s Y = some (news, k)) (hk : news.length = k * s) (hr : news.length ≤ rest.length) (hs : news.all scalar = true) (s1 : 1 ≤ s) (k0 : k ≠ 0) (hc : n + k ≤ cap)
    (b1 : (n + k) * bytes ≤ 1099511627776) (b2 : n + k ≤ 1099511627776) :
    appV h s bytes (.slice (some ⟨x, 0, none⟩) n cap) Y = some (.slice (some ⟨x, 0, none⟩) (n + k) cap, h.setB x ⟨(done ++ news) ++ rest.drop news.length, N, s, true, gr⟩) := by
  have hg : (Nat.ble ((n + k) * bytes) 1099511627776 && Nat.ble (n + k) 1099511627776 && Nat.ble 1 s && news.all scalar) = true := by
    rw [nat_ble b1, nat_ble b2, nat_ble s1, hs]; rfl
  unfold appV
  rw [hy]
  simp only
  unfold appA
  rw [hg]
  simp only [cond_true, hb, nat_beq, Bool.not_true, cond_false, nat_ble hc, nat_beq_f k0, Nat.zero_add]
  have hw : h.wrs x (n * s) news = some (h.setB x ⟨(done ++ news) ++ rest.drop news.length, N, s, true, gr⟩) := by
    unfold Heap.wrs
    rw [hb]
    have hl : leLen (done ++ rest) (n * s + news.length) = true := leLen_le (by rw [List.length_append]; omega)
    simp only [hl, hs, Bool.and_true, cond_true, spl_eq]
    have e : splice (done ++ rest) (n * s) news = (done ++ news) ++ rest.drop news.length := by
      unfold splice
      rw [← hd, List.take_left', List.drop_append, List.drop_eq_nil_of_le (by omega)]
      · simp
      · rfl
    rw [e]; rfl
  rw [hw]

theorem app_in' {h : Heap} {x s n k cap N bytes : Nat} {gr : Bool} {done rest news : List Value} {Y : Value} (hb : h.blks.get x = some ⟨done ++ rest, N, s, true, gr⟩) (hd : done.length = n * s) (hy : srcCells h s Y = some (news, k)) (hk : news.length = k * s) (hr : news.length ≤ rest.length) (hs : news.all scalar = true) (s1 : 1 ≤ s) (k0 : k ≠ 0) (hc : n + k ≤ cap)
    (b1 : (n + k) * bytes ≤ 1099511627776) (b2 : n + k ≤ 1099511627776) :
    ∃ h', appV h s bytes (.slice (some ⟨x, 0, none⟩) n cap) Y = some (.slice (some ⟨x, 0, none⟩) (n + k) cap, h') ∧ h'.blks.get x = some ⟨(done ++ news) ++ rest.drop news.length, N, s, true, gr⟩ ∧ Same h h' (fun j => j = x) :=
  ⟨_, app_in hb hd hy hk hr hs s1 k0 hc b1 b2, by rw [setB_get]; exact if_pos rfl, Same.setB rfl⟩

/-- a slice of a slice: the model's, of values -/
def slV (h : Heap) (s : Nat) (X : Value) (lo hi : Option Value) : Option Value := match (match lo with | some l => asNat l | none => some 0) with
  | none => none
  | some l => match X with
    | .slice base len cap => (match (match hi with | some l => asNat l | none => some len) with
      | some hh => bif Nat.ble l hh && Nat.ble hh cap then (match base with
        | none => some (.slice none (hh - l) (cap - l))
        | some ⟨b, o, none⟩ => (match h.blks.get b with
          | some k => bif Nat.beq k.s s then
              (bif Nat.beq cap l then some (.slice (some ⟨b, o, some 0⟩) 0 0) else some (.slice (some ⟨b, o + l * s, none⟩) (hh - l) (cap - l)))
            else none
          | none => none)
        | some ⟨b, o, some q⟩ => bif Nat.beq len 0 && Nat.beq cap 0 then some (.slice (some ⟨b, o, some q⟩) 0 0) else none) else none
      | none => none)
    | _ => none

theorem rop_slice {ts : T Value} {h : Heap} {s : Nat} {x : Opd} {lo hi : Option Opd} : rop ts h (.slice s x lo hi none) = slV h s (ev ts x) (evO ts lo) (evO ts hi) := by
  show (match asNO ts 0 lo with | none => none | some l => _) = _
  unfold slV
  have e1 : asNO ts 0 lo = (match evO ts lo with | some l => asNat l | none => some 0) := by cases lo <;> rfl
  rw [e1]
  cases (match evO ts lo with | some l => asNat l | none => some 0) with
  | none => rfl
  | some l =>
    simp only
    cases ev ts x with
    | slice base len cap =>
      simp only
      have e2 : asNO ts len hi = (match evO ts hi with | some l => asNat l | none => some len) := by cases hi <;> rfl
      rw [e2]
      cases (match evO ts hi with | some l => asNat l | none => some len) with
      | none => rfl
      | some hh =>
        simp only [asNO, nat_ble (Nat.le_refl cap), Option.isNone_none, Bool.true_or, Bool.and_true, Option.isSome_none, Bool.false_and, cond_false]
        rfl
    | _ => rfl

def ldV (h : Heap) (v : Value) : Option Value := match v with
  | .pointer (some ⟨b, o, none⟩) => h.rd b o
  | _ => none
theorem rop_load1 {ts : T Value} {h : Heap} {x : Opd} : rop ts h (.load1 x) = ldV h (ev ts x) := (rfl)
theorem ldV_ptr (h : Heap) (b o : Nat) : ldV h (.pointer (some ⟨b, o, none⟩)) = h.rd b o := (rfl)
def capV (h : Heap) (v : Value) : Option Value := match v with
  | .slice none _ c => some (.int .i64 c)
  | .slice (some ⟨b, o, none⟩) _ cap => (match h.blks.get b with
    | some k => bif k.grown && Nat.beq (o + cap * k.s) k.n then none else some (.int .i64 cap)
    | none => none)
  | _ => none
theorem rop_cap {ts : T Value} {h : Heap} {x : Opd} : rop ts h (.cap x) = capV h (ev ts x) := (rfl)
theorem capV_nil (h : Heap) (n c : Nat) : capV h (.slice none n c) = some (.int .i64 c) := (rfl)

theorem RdAt.cut {h : Heap} {x o s n cap lo hi : Nat} {cells : List Value} (r : RdAt h x o s n cap cells) (h1 : lo ≤ hi) (h2 : hi ≤ n) (h3 : lo ≠ cap) : slV h s (.slice (some ⟨x, o, none⟩) n cap) (some (I lo)) (some (I hi)) = some (.slice (some ⟨x, o + lo * s, none⟩) (hi - lo) (cap - lo)) := by
  obtain ⟨k, k1, k2, _, _⟩ := r.blk
  have hc := r.cap
  unfold slV
  simp only [asNat_I, nat_ble h1, nat_ble (show hi ≤ cap by omega), Bool.and_true, cond_true, k1, k2, nat_beq, nat_beq_f (Ne.symm h3), cond_false]

theorem RdAt.to {h : Heap} {x o s n cap hi : Nat} {cells : List Value} (r : RdAt h x o s n cap cells) (h2 : hi ≤ cap) (h3 : cap ≠ 0) : slV h s (.slice (some ⟨x, o, none⟩) n cap) none (some (I hi)) = some (.slice (some ⟨x, o, none⟩) hi cap) := by
  obtain ⟨k, k1, k2, _, _⟩ := r.blk
  unfold slV
  simp only [asNat_I, nat_ble (Nat.zero_le hi), nat_ble h2, Bool.and_true, cond_true, k1, k2, nat_beq, nat_beq_f h3, cond_false, Nat.zero_mul, Nat.add_zero, Nat.sub_zero]

theorem RdAt.from {h : Heap} {x o s n cap lo : Nat} {cells : List Value} (r : RdAt h x o s n cap cells) (h1 : lo ≤ n) (h3 : lo ≠ cap) : slV h s (.slice (some ⟨x, o, none⟩) n cap) (some (I lo)) none = some (.slice (some ⟨x, o + lo * s, none⟩) (n - lo) (cap - lo)) := by
  obtain ⟨k, k1, k2, _, _⟩ := r.blk
  have hc := r.cap
  unfold slV
  simp only [asNat_I, nat_ble h1, nat_ble hc, Bool.and_true, cond_true, k1, k2, nat_beq, nat_beq_f (Ne.symm h3), cond_false]

theorem RdAt.end {h : Heap} {x o s n : Nat} {cells : List Value} (r : RdAt h x o s n n cells) : slV h s (.slice (some ⟨x, o, none⟩) n n) (some (I n)) none = some (.slice (some ⟨x, o, some 0⟩) 0 0) := by
  obtain ⟨k, k1, k2, _, _⟩ := r.blk
  unfold slV
  simp only [asNat_I, nat_ble (Nat.le_refl n), Bool.and_true, cond_true, k1, k2, nat_beq]

theorem slV_nil_to (h : Heap) (s : Nat) : slV h s (.slice none 0 0) none (some (I 0)) = some (.slice none 0 0) := (rfl)
theorem slV_nil_from (h : Heap) (s : Nat) : slV h s (.slice none 0 0) (some (I 0)) none = some (.slice none 0 0) := (rfl)

theorem OwnAt.rd {h : Heap} {x s n : Nat} {cells : List Value} (o : OwnAt h (some x) s n cells) : RdAt h x 0 s n n cells := by
  obtain ⟨h1, h2, _⟩ := o.use x rfl
  exact ⟨⟨_, h1, rfl, by rw [List.drop_zero, ← o.len, List.take_length], by simp [o.len]⟩, Nat.le_refl _, h2⟩

theorem OwnAt.to {h : Heap} {u : Option Nat} {s N n : Nat} {cells : List Value} (o : OwnAt h u s N cells) (hn : n ≤ N) : ∃ v, slV h s (ownSl u N) none (some (I n)) = some v ∧ srcCells h s v = some (cells.take (n * s), n) := by
  cases u with
  | none =>
    have := o.non rfl
    subst this
    have hn : n = 0 := by omega
    subst hn
    exact ⟨.slice none 0 0, rfl, by simp [src_nil]⟩
  | some y =>
    have h1 := (o.use y rfl).2.2
    refine ⟨_, o.rd.to (hi := n) hn (by omega), ?_⟩
    show (match h.rds y 0 (n * s) with | some l => some (l, n) | none => none) = _
    rw [rds_of (o.use y rfl).1 (by simp [o.len]; exact Nat.mul_le_mul_right _ hn)]
    simp

theorem OwnAt.from {h : Heap} {u : Option Nat} {s N n : Nat} {cells : List Value} (o : OwnAt h u s N cells) (hn : n ≤ N) : ∃ v, slV h s (ownSl u N) (some (I n)) none = some v ∧ srcCells h s v = some (cells.drop (n * s), N - n) := by
  cases u with
  | none =>
    have := o.non rfl
    subst this
    have hn : n = 0 := by omega
    subst hn
    have : cells = [] := List.eq_nil_of_length_eq_zero (by simpa using o.len)
    subst this
    exact ⟨.slice none 0 0, rfl, by simp [src_nil]⟩
  | some y =>
    by_cases he : n = N
    · subst he
      refine ⟨_, o.rd.end, ?_⟩
      rw [src_vague, List.drop_eq_nil_of_le (by rw [o.len]; exact Nat.le_refl _)]; simp
    · refine ⟨_, o.rd.from (lo := n) hn he, ?_⟩
      have e1 : N * s = n * s + (N - n) * s := by rw [← Nat.add_mul]; congr 1; omega
      show (match h.rds y (0 + n * s) ((N - n) * s) with | some l => some (l, N - n) | none => none) = _
      rw [rds_of (o.use y rfl).1 (by simp [o.len]; omega)]
      simp only [Nat.zero_add]
      rw [List.take_of_length_le (by simp [o.len]; omega)]

/-! ### rounds, one by one -/

section
variable {P : Program} {N : Nat} {bc : ACode} {ts : T Value} {h : Heap} {Z : AExit → T Value → Heap → Prop}

def LW (P : Program) (N : Nat) (bc : ACode) (ts : T Value) (h : Heap) (Z : AExit → T Value → Heap → Prop) : Prop := ∃ e ts' h' m, LRun P N bc e ts' h' ts h m ∧ Z e ts' h'

def lwQ (P : Program) (N : Nat) (bc : ACode) (Z : AExit → T Value → Heap → Prop) : AExit → T Value → Heap → Prop
  | .normal, ts, h => LW P N bc ts h Z
  | e, ts, h => Z e ts h

theorem cw_lw (x : LW P N bc ts h Z) : CW P N (.loop bc) ts h Z := let ⟨_, _, _, _, r, q⟩ := x; ⟨_, _, _, cf_loop r, q⟩

theorem lw_step (x : cwf P N bc ts h (lwQ P N bc Z)) : LW P N bc ts h Z := by
  obtain ⟨e, t1, h1, c, q⟩ := cwf_cw x
  cases e with
  | normal => obtain ⟨e, t2, h2, m, r, q⟩ := q; exact ⟨e, t2, h2, _, .step c r, q⟩
  | exit id => exact ⟨_, _, _, _, .last (by simp) c, q⟩
  | ret => exact ⟨_, _, _, _, .last (by simp) c, q⟩

theorem lwQ_normal : lwQ P N bc Z .normal ts h = LW P N bc ts h Z := (rfl)
theorem lwQ_exit {id : Nat} : lwQ P N bc Z (.exit id) ts h = Z (.exit id) ts h := (rfl)
theorem lwQ_ret : lwQ P N bc Z .ret ts h = Z .ret ts h := (rfl)
end

end
end Go.Proofs.Ytedldiimhbebdaa.Ai
