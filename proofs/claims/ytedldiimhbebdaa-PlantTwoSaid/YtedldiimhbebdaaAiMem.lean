/- What reads, writes and new blocks of the abstract heap do to the world that it tells. -/
import Derived.Test.YtedldiimhbebdaaAiBase
namespace Go.Proofs.Ytedldiimhbebdaa.Ai
noncomputable section
open Go.RowKit

variable {C : CRel}

def Map.put (μ : Map) (b : Nat) (e : Ent) : Map := fun x => if x = b then some e else μ x

theorem Map.le_put {μ : Map} {b : Nat} {e : Ent} (h : μ b = none) : μ.le (μ.put b e) := by
  intro x f hx
  unfold Map.put
  split
  · rename_i hb; subst hb; rw [h] at hx; cases hx
  · exact hx

theorem Map.put_same (μ : Map) (b : Nat) (e : Ent) : (μ.put b e) b = some e := by simp [Map.put]
theorem Map.put_other {μ : Map} {b x : Nat} {e : Ent} (h : x ≠ b) : (μ.put b e) x = μ x := by simp [Map.put, h]

theorem Rel.next_none {μ : Map} {h : Heap} {B : Fr} {w0 w : World} (r : Rel C μ h B w0 w) {b : Nat} (hb : h.next ≤ b) : μ b = none := by
  cases hm : μ b with
  | none => rfl
  | some e => have := r.fresh b e hm; omega

theorem Rel.get_lt {μ : Map} {h : Heap} {B : Fr} {w0 w : World} (r : Rel C μ h B w0 w) {b : Nat} {k : Blk} (hb : h.blks.get b = some k) : b < h.next := by
  obtain ⟨e, he, _⟩ := r.blk b k hb
  exact r.fresh b e he

/-- a draw turns nothing -/
theorem Rel.drew {μ : Map} {h : Heap} {B : Fr} {w0 w : World} (r : Rel C μ h B w0 w) : Rel C μ h B w0 w.drew :=
  ⟨r.below.drew, r.size, r.zk, r.fresh, fun b k hb => let ⟨e, he, x⟩ := r.blk b k hb; ⟨e, he, ⟨x.s, x.n, x.len, x.grown, x.own, x.ro, x.cell⟩⟩, r.apart, r.aux.keep μ.le_refl fun _ _ h _ => h⟩

def nth (l : List Value) : Nat → Option Value := List.rec (motive := fun _ => Nat → Option Value) (fun _ => none) (fun x _ ih o => Nat.casesOn (motive := fun _ => Option Value) o (some x) ih) l

theorem nth_nil (o : Nat) : nth [] o = none := rfl
theorem nth_zero (x : Value) (l : List Value) : nth (x :: l) 0 = some x := rfl
theorem nth_succ (x : Value) (l : List Value) (o : Nat) : nth (x :: l) (o + 1) = nth l o := rfl
theorem nth_eq : ∀ (l : List Value) (o : Nat), nth l o = l[o]?
  | [], o => by rw [nth_nil]; simp
  | x :: l, 0 => by rw [nth_zero]; simp
  | x :: l, o + 1 => by rw [nth_succ, nth_eq l o]; simp

/-- are there so many? -/
def leLen (l : List Value) : Nat → Bool := List.rec (motive := fun _ => Nat → Bool) (fun n => Nat.casesOn (motive := fun _ => Bool) n true (fun _ => false)) (fun _ _ ih n => Nat.casesOn (motive := fun _ => Bool) n true ih) l

theorem leLen_zero (l : List Value) : leLen l 0 = true := by cases l <;> rfl
theorem leLen_nil (n : Nat) : leLen [] (n + 1) = false := rfl
theorem leLen_cons (x : Value) (l : List Value) (n : Nat) : leLen (x :: l) (n + 1) = leLen l n := rfl
theorem leLen_eq : ∀ (l : List Value) (n : Nat), leLen l n = Nat.ble n l.length
  | l, 0 => by rw [leLen_zero]; cases l <;> rfl
  | [], n + 1 => by rw [leLen_nil]; rfl
  | x :: l, n + 1 => by rw [leLen_cons, leLen_eq l n]; rfl

def Heap.rd (h : Heap) (b o : Nat) : Option Value := match h.blks.get b with
  | some k => nth k.cells o
  | none => none

/-- so many cells from one on -/
def Heap.rds (h : Heap) (b o n : Nat) : Option (List Value) := match h.blks.get b with
  | some k => bif leLen k.cells (o + n) then some ((k.cells.drop o).take n) else none
  | none => none

theorem cell_eq {w : World} {b o : Nat} {cc : Array Value} {el : TypeId} {fr : Nat × Nat} (h : w.heap[b]? = some (.cells cc el fr)) : w.cell? ⟨b, o, none⟩ = cc[o]? := by
  simp [World.cell?, h]

theorem Rel.rd {μ : Map} {h : Heap} {B : Fr} {w0 w : World} (r : Rel C μ h B w0 w) {b o : Nat} {v : Value} (hr : h.rd b o = some v) {e : Ent} (he : μ b = some e) :
    ∃ v', w.cell? ⟨e.blk, e.base + o, none⟩ = some v' ∧ VRel μ v v' := by
  unfold Heap.rd at hr
  simp only [nth_eq] at hr
  split at hr
  · rename_i k hk
    obtain ⟨e', he', x⟩ := r.blk b k hk
    rw [he] at he'; cases he'
    obtain ⟨cc, el, fr, v', hh, hc, hv⟩ := x.cell o v hr
    exact ⟨v', by rw [cell_eq hh, hc], hv⟩
  · cases hr

theorem ble_true {a b : Nat} (h : Nat.ble a b = true) : a ≤ b := Nat.le_of_ble_eq_true h

theorem Rel.rds {μ : Map} {h : Heap} {B : Fr} {w0 w : World} (r : Rel C μ h B w0 w) {b o n : Nat} {l : List Value} (hr : h.rds b o n = some l) {e : Ent} (he : μ b = some e) :
    ∃ l', l'.length = n ∧ (∀ (j : Nat) (v : Value), l'[j]? = some v → w.cell? ((⟨e.blk, e.base + o, none⟩ : Addr).add j) = some v) ∧ VsRel μ l l' := by
  unfold Heap.rds at hr
  simp only [leLen_eq] at hr
  split at hr
  · rename_i k hk
    cases hle : Nat.ble (o + n) k.cells.length with
    | false => rw [hle] at hr; simp at hr
    | true =>
      rw [hle] at hr; simp only [cond_true, Option.some.injEq] at hr
      have hle := ble_true hle
      obtain ⟨e', he', x⟩ := r.blk b k hk
      rw [he] at he'; cases he'
      have hcell : ∀ j, j < n → ∃ v v', k.cells[o + j]? = some v ∧ w.cell? ⟨e.blk, e.base + (o + j), none⟩ = some v' ∧ VRel μ v v' := by
        intro j hj
        have hlt : o + j < k.cells.length := by omega
        obtain ⟨cc, el, fr, v', hh, hc, hv⟩ := x.cell (o + j) _ (List.getElem?_eq_getElem hlt)
        exact ⟨_, v', List.getElem?_eq_getElem hlt, by rw [cell_eq hh, hc], hv⟩
      refine ⟨(List.range n).map fun j => (w.cell? ⟨e.blk, e.base + (o + j), none⟩).getD undef, by simp, ?_, ?_, ?_⟩
      · intro j v hj
        rw [List.getElem?_map] at hj
        cases hjr : (List.range n)[j]? with
        | none => rw [hjr] at hj; simp at hj
        | some i =>
          have hjn : j < n := by simpa using (List.getElem?_eq_some_iff.1 hjr).1
          have hij : i = j := by have := (List.getElem?_eq_some_iff.1 hjr).2; simpa using this.symm
          subst hij
          rw [hjr] at hj; simp only [Option.map_some, Option.some.injEq] at hj
          obtain ⟨u, v', _, hc, _⟩ := hcell i hjn
          rw [Addr.add_lit, Nat.add_assoc, hc]; rw [hc] at hj; simpa using hj
      · rw [← hr]; simp; omega
      · intro i v v' hi hi'
        have hin : i < n := by
          have := (List.getElem?_eq_some_iff.1 hi').1; simpa using this
        obtain ⟨u, u', hu, hc, hv⟩ := hcell i hin
        have h1 : v = u := by
          rw [← hr, List.getElem?_take, if_pos hin, List.getElem?_drop, hu] at hi; simpa using hi.symm
        have h2 : v' = u' := by
          rw [List.getElem?_map, List.getElem?_range hin] at hi'; simp only [Option.map_some, Option.some.injEq] at hi'; rw [hc] at hi'; simpa using hi'.symm
        subst h1; subst h2; exact hv
  · cases hr

def scalar : Value → Bool
  | .agg _ | .tuple _ => false
  | _ => true

theorem scalar_rel {μ : Map} {v v' : Value} (h : VRel μ v v') (hs : scalar v = true) : v'.oneCell' = true := by
  by_cases htop : ∃ x, v = .map (some x)
  · obtain ⟨x, rfl⟩ := htop
    cases h with
    | same _ hp => simp [plain] at hp
    | top _ hv => rcases hv with ⟨a, rfl⟩ | ⟨a, n, c, rfl⟩ <;> rfl
  cases h <;> first | rfl | (simp [scalar] at hs; done) | (exact absurd ⟨_, rfl⟩ htop) | skip
  rename_i hp
  cases v <;> simp_all [scalar, plain, Value.oneCell']

/-- the cells of a row, turned from one place on -/
def splice (l : List Value) (o : Nat) (vs : List Value) : List Value := l.take o ++ vs ++ l.drop (o + vs.length)

theorem splice_get (l : List Value) (o : Nat) (vs : List Value) (h : o + vs.length ≤ l.length) (i : Nat) :
    (splice l o vs)[i]? = if i < o then l[i]? else if i < o + vs.length then vs[i - o]? else l[i]? := by
  unfold splice
  rw [List.append_assoc, List.getElem?_append, List.length_take, Nat.min_eq_left (by omega)]
  split
  · rw [List.getElem?_take, if_pos (by assumption)]
  · rw [List.getElem?_append]
    split
    · rw [if_pos (by omega)]
    · rw [if_neg (by omega), List.getElem?_drop]; congr 1; omega

theorem splice_length (l : List Value) (o : Nat) (vs : List Value) (h : o + vs.length ≤ l.length) : (splice l o vs).length = l.length := by
  simp [splice]; omega

/-- the same, in one going -/
def spl (vs l : List Value) : Nat → List Value := List.rec (motive := fun _ => Nat → List Value) (fun _ => vs) (fun x l ih o => Nat.casesOn (motive := fun _ => List Value) o (vs ++ (x :: l).drop vs.length) (fun o => x :: ih o)) l

theorem spl_nil (vs : List Value) (o : Nat) : spl vs [] o = vs := rfl
theorem spl_zero (vs : List Value) (x : Value) (l : List Value) : spl vs (x :: l) 0 = vs ++ (x :: l).drop vs.length := rfl
theorem spl_succ (vs : List Value) (x : Value) (l : List Value) (o : Nat) : spl vs (x :: l) (o + 1) = x :: spl vs l o := rfl
theorem spl_eq (vs : List Value) : ∀ (l : List Value) (o : Nat), spl vs l o = splice l o vs
  | [], o => by rw [spl_nil]; simp [splice]
  | x :: l, 0 => by rw [spl_zero]; simp [splice]
  | x :: l, o + 1 => by
    rw [spl_succ, spl_eq vs l o]
    simp only [splice, List.take_succ_cons, List.cons_append, show o + 1 + vs.length = (o + vs.length) + 1 by omega, List.drop_succ_cons]

def Heap.wrs (h : Heap) (b o : Nat) (vs : List Value) : Option Heap := match h.blks.get b with
  | some k => bif k.own && leLen k.cells (o + vs.length) && vs.all scalar then some { h with blks := h.blks.put b { k with cells := spl vs k.cells o } } else none
  | none => none

theorem Fr.own.ne {B : Fr} {i j : Nat} {o : Obj} (h : B.own i) (hz : B.z j = some o) : j ≠ i := fun hji => by
  subst hji; rw [h.2] at hz; cases hz

theorem Rel.own_size {μ : Map} {h : Heap} {B : Fr} {w0 w : World} (r : Rel C μ h B w0 w) : B.own w.heap.size := ⟨r.size, by
  cases hz : B.z w.heap.size with
  | none => rfl
  | some o => have := r.zk _ _ hz; simp at this⟩

theorem Rel.zk_old {μ : Map} {h : Heap} {B : Fr} {w0 w w' : World} (r : Rel C μ h B w0 w) (hold : ∀ i, i < w.heap.size → w'.heap[i]? = w.heap[i]?) : ∀ i o, B.z i = some o → w'.heap[i]? = some o := fun i o hz => by
  have := r.zk i o hz
  rw [hold i (Array.getElem?_eq_some_iff.1 this).1]; exact this

theorem keeps_of_old {w w' : World} (h : ∀ i, i < w.heap.size → w'.heap[i]? = w.heap[i]?) : Keeps w w' := fun i o ho _ => by rw [h i (Array.getElem?_eq_some_iff.1 ho).1]; exact ho

theorem keeps_setRow {w : World} {b : Nat} {cc : Array Value} {el : TypeId} {fr : Nat × Nat} (hh : w.heap[b]? = some (.cells cc el fr)) (cc' : Array Value) : Keeps w (w.setRow b cc') := fun i o ho hr => by
  have hne : i ≠ b := by intro h; subst h; rw [hh] at ho; cases ho; cases hr
  rw [setRow_other _ _ _ _ hne]; exact ho

/-- a row of the call's own is turned: whatever stands in it then is told -/
theorem Rel.row {μ : Map} {h : Heap} {B : Fr} {w0 w : World} (r : Rel C μ h B w0 w) {b : Nat} {k : Blk} (hk : h.blks.get b = some k) (hown : k.own = true) (hne : k.cells ≠ []) {e : Ent} (he : μ b = some e)
    {cc : Array Value} {el : TypeId} (hh : w.heap[e.blk]? = some (.cells cc el (0, 0))) (cc' : Array Value) (hsz : cc'.size = cc.size) (cs : List Value) (hlen : cs.length ≤ k.n)
    (hcs : ∀ (i : Nat) (v : Value), cs[i]? = some v → ∃ v', cc'[i]? = some v' ∧ VRel μ v v') :
    Rel C μ { h with blks := h.blks.put b { k with cells := cs } } B w0 (w.setRow e.blk cc') := by
  obtain ⟨e', he', x⟩ := r.blk b k hk
  rw [he] at he'; cases he'
  obtain ⟨hB, hbase, cc0, el0, hh0, hs0⟩ := x.own hown
  rw [hh] at hh0; cases hh0
  have hnew := setRow_heap w e.blk cc cc' el (0, 0) hh
  refine ⟨r.below.trans ⟨rfl, rfl, rfl, by simp [World.setRow], fun i hi => setRow_other _ _ _ _ (by have := hB.1; omega)⟩, by have := r.size; simp [World.setRow]; omega, fun i o hz => by rw [setRow_other _ _ _ _ (hB.ne hz)]; exact r.zk i o hz, r.fresh, ?_, ?_, r.aux.keep μ.le_refl (keeps_setRow hh cc')⟩
  · intro b1 k1 hb1
    by_cases hb : b1 = b
    · subst hb
      rw [T.get_put_same] at hb1; cases hb1
      refine ⟨e, he, ⟨x.s, x.n, hlen, x.grown, fun _ => ⟨hB, hbase, cc', el, hnew, by rw [hsz]; exact hs0⟩, fun ho => absurd (show k.own = false from ho) (by simp [hown]), ?_⟩⟩
      intro i v hi
      obtain ⟨v', hc, hv⟩ := hcs i v hi
      exact ⟨cc', el, (0, 0), v', hnew, by rw [hbase, Nat.zero_add]; exact hc, hv⟩
    · rw [T.get_put_other _ _ hb] at hb1
      obtain ⟨e1, he1, x1⟩ := r.blk b1 k1 hb1
      refine ⟨e1, he1, ⟨x1.s, x1.n, x1.len, x1.grown, ?_, x1.ro, ?_⟩⟩
      · intro ho
        obtain ⟨g1, g2, c1, l1, g3, g4⟩ := x1.own ho
        by_cases heq : e1.blk = e.blk
        · rw [heq, hh] at g3; cases g3
          exact ⟨g1, g2, cc', _, by rw [heq]; exact hnew, by rw [hsz]; exact g4⟩
        · exact ⟨g1, g2, c1, l1, by rw [setRow_other _ _ _ _ heq]; exact g3, g4⟩
      · intro i v hi
        obtain ⟨c1, l1, fr, v', g1, g2, g3⟩ := x1.cell i v hi
        have hne1 : e1.blk ≠ e.blk := by
          cases ho : k1.own with
          | true => exact r.apart b1 b k1 k e1 e hb1 hk hb ho hown (by intro hnil; rw [hnil] at hi; simp at hi) hne he1 he
          | false => have := x1.ro ho; have := hB.1; omega
        exact ⟨c1, l1, fr, v', by rw [setRow_other _ _ _ _ hne1]; exact g1, g2, g3⟩
  · intro b1 b2 k1 k2 e1 e2 h1 h2 hn o1 o2 n1 n2 m1 m2
    have hx : ∀ b3 k3, ({ h with blks := h.blks.put b { k with cells := cs } } : Heap).blks.get b3 = some k3 → k3.own = true → k3.cells ≠ [] → ∃ k4, h.blks.get b3 = some k4 ∧ k4.own = true ∧ k4.cells ≠ [] := by
      intro b3 k3 h3 o3 n3
      by_cases hb : b3 = b
      · subst hb; exact ⟨k, hk, hown, hne⟩
      · rw [T.get_put_other _ _ hb] at h3; exact ⟨k3, h3, o3, n3⟩
    obtain ⟨k3, a1, a2, a3⟩ := hx b1 k1 h1 o1 n1
    obtain ⟨k4, c1, c2, c3⟩ := hx b2 k2 h2 o2 n2
    exact r.apart b1 b2 k3 k4 e1 e2 a1 c1 hn a2 c2 a3 c3 m1 m2

theorem vs_scalar {μ : Map} {vs vs' : List Value} (hv : VsRel μ vs vs') (hs : vs.all scalar = true) : ∀ v ∈ vs', v.oneCell' = true := by
  intro v hm
  obtain ⟨i, hi, rfl⟩ := List.getElem_of_mem hm
  have hi' : i < vs.length := by rw [hv.1]; exact hi
  exact scalar_rel (hv.2 i _ _ (List.getElem?_eq_getElem hi') (List.getElem?_eq_getElem hi)) (List.all_eq_true.1 hs _ (List.getElem_mem hi'))

/-- what a splice of related cells is -/
theorem splice_rel {μ : Map} {l : List Value} {cc : Array Value} {o : Nat} {vs vs' : List Value} (hv : VsRel μ vs vs') (hle : o + vs.length ≤ l.length) (hcc : l.length ≤ cc.size)
    (hc : ∀ (i : Nat) (v : Value), l[i]? = some v → ∃ v', cc[i]? = some v' ∧ VRel μ v v') :
    ∀ (i : Nat) (v : Value), (splice l o vs)[i]? = some v → ∃ v', (splice cc.toList o vs').toArray[i]? = some v' ∧ VRel μ v v' := by
  intro i v hi
  have hl : o + vs'.length ≤ cc.toList.length := by rw [← hv.1]; simp; omega
  rw [splice_get _ _ _ hle] at hi
  have hg := splice_get cc.toList o vs' hl i
  rw [← hv.1] at hg
  split at hi
  · rename_i h1; rw [if_pos h1] at hg
    obtain ⟨v', a, b⟩ := hc i v hi
    exact ⟨v', by simpa [hg] using a, b⟩
  · rename_i h1; rw [if_neg h1] at hg
    split at hi
    · rename_i h2; rw [if_pos h2] at hg
      obtain ⟨v', a, b⟩ := hv.get hi
      exact ⟨v', by simpa [hg] using a, b⟩
    · rename_i h2; rw [if_neg h2] at hg
      obtain ⟨v', a, b⟩ := hc i v hi
      exact ⟨v', by simpa [hg] using a, b⟩

theorem Rel.wrs {μ : Map} {h h' : Heap} {B : Fr} {w0 w : World} (r : Rel C μ h B w0 w) {b o : Nat} {vs vs' : List Value} (hw : h.wrs b o vs = some h') (hv : VsRel μ vs vs') (hpos : vs ≠ []) {e : Ent} (he : μ b = some e) :
    ∃ w', e.base = 0 ∧ (∀ P : Program, (storeCells ⟨e.blk, e.base + o, none⟩ vs').run P w = .ok () w') ∧ Rel C μ h' B w0 w' := by
  unfold Heap.wrs at hw
  simp only [leLen_eq, spl_eq] at hw
  split at hw
  · rename_i k hk
    cases hc : (k.own && Nat.ble (o + vs.length) k.cells.length && vs.all scalar) with
    | false => rw [hc] at hw; simp at hw
    | true =>
      rw [hc] at hw; simp only [cond_true, Option.some.injEq] at hw
      simp only [Bool.and_eq_true] at hc
      obtain ⟨⟨hown, hle⟩, hsc⟩ := hc
      have hle := ble_true hle
      obtain ⟨e', he', x⟩ := r.blk b k hk
      rw [he] at he'; cases he'
      obtain ⟨hB, hbase, cc, el, hh, hs⟩ := x.own hown
      have hvl : 0 < vs.length := List.length_pos_iff.2 hpos
      have hlen := x.len
      have hccl : k.cells.length ≤ cc.size := by omega
      have hcell : ∀ (i : Nat) (v : Value), k.cells[i]? = some v → ∃ v', cc[i]? = some v' ∧ VRel μ v v' := by
        intro i v hi
        obtain ⟨c1, l1, fr, v', g1, g2, g3⟩ := x.cell i v hi
        rw [hh] at g1; cases g1
        exact ⟨v', by rw [hbase, Nat.zero_add] at g2; exact g2, g3⟩
      have hne : k.cells ≠ [] := by intro hn; rw [hn] at hle; simp only [List.length_nil] at hle; omega
      refine ⟨w.setRow e.blk (splice cc.toList o vs').toArray, hbase, ?_, ?_⟩
      · intro P
        have := run_storeCells_at P e.blk o el vs' 0 cc w hh (by rw [← hv.1]; omega) (vs_scalar hv hsc)
        rw [hbase, Nat.zero_add]
        simpa [splice] using this
      · rw [← hw]
        refine r.row hk hown hne he hh _ ?_ _ ?_ (splice_rel hv hle hccl hcell)
        · simp only [List.size_toArray]
          rw [splice_length _ _ _ (by rw [← hv.1]; simp; omega)]; simp
        · rw [splice_length _ _ _ hle]; exact hlen
  · cases hw

/-- a block of the call's own that is new -/
def Heap.new (h : Heap) (k : Blk) : Heap := { h with blks := h.blks.put h.next k, next := h.next + 1 }

theorem BRel.mono {μ ν : Map} (hle : μ.le ν) {B : Fr} {w w' : World} {k : Blk} {e : Ent} (x : BRel μ B w k e) (hw : ∀ i, i < w.heap.size → w'.heap[i]? = w.heap[i]?) : BRel ν B w' k e := by
  have hlt : ∀ {i : Nat} {o : Obj}, w.heap[i]? = some o → i < w.heap.size := fun h => (Array.getElem?_eq_some_iff.1 h).1
  refine ⟨x.s, x.n, x.len, x.grown, fun ho => ?_, x.ro, fun i v hi => ?_⟩
  · obtain ⟨a, b, cc, el, c, d⟩ := x.own ho
    exact ⟨a, b, cc, el, by rw [hw _ (hlt c)]; exact c, d⟩
  · obtain ⟨cc, el, fr, v', a, b, c⟩ := x.cell i v hi
    exact ⟨cc, el, fr, v', by rw [hw _ (hlt a)]; exact a, b, c.mono hle⟩

theorem BRel.lt {μ : Map} {B : Fr} {w : World} {k : Blk} {e : Ent} (x : BRel μ B w k e) (ho : k.own = true) : e.blk < w.heap.size := by
  obtain ⟨_, _, cc, el, c, _⟩ := x.own ho
  exact (Array.getElem?_eq_some_iff.1 c).1

theorem Rel.new {μ : Map} {h : Heap} {B : Fr} {w0 w : World} (r : Rel C μ h B w0 w) (k : Blk) (hown : k.own = true) (cc : Array Value) (el : TypeId) (extra : Nat) (hg : k.grown = false → extra = 0)
    (hlen : k.cells.length ≤ k.n) (hsz : cc.size = k.n + extra * k.s) (hc : ∀ (i : Nat) (v : Value), k.cells[i]? = some v → ∃ v', cc[i]? = some v' ∧ VRel μ v v') :
    Rel C (μ.put h.next ⟨w.heap.size, 0, extra, k.s, k.n⟩) (h.new k) B w0 (w.alloc (.cells cc el)) ∧ μ.le (μ.put h.next ⟨w.heap.size, 0, extra, k.s, k.n⟩) := by
  have hle : μ.le (μ.put h.next ⟨w.heap.size, 0, extra, k.s, k.n⟩) := Map.le_put (r.next_none (Nat.le_refl _))
  have hold : ∀ i, i < w.heap.size → (w.alloc (.cells cc el)).heap[i]? = w.heap[i]? := fun i hi => Below.heap_alloc _ _ _ hi
  have hnew : (w.alloc (.cells cc el)).heap[w.heap.size]? = some (.cells cc el (0, 0)) := heap_alloc_new w _
  refine ⟨⟨r.below.alloc r.size _, by have := r.size; simp; omega, r.zk_old hold, ?_, ?_, ?_, r.aux.keep hle (keeps_of_old hold)⟩, hle⟩
  · intro b e hb
    by_cases hbn : b = h.next
    · subst hbn; simp [Heap.new]
    · rw [Map.put_other hbn] at hb
      have := r.fresh b e hb; simp [Heap.new]; omega
  · intro b k1 hb
    by_cases hbn : b = h.next
    · subst hbn
      simp only [Heap.new, T.get_put_same, Option.some.injEq] at hb; subst hb
      refine ⟨_, Map.put_same _ _ _, ⟨rfl, rfl, hlen, hg, fun _ => ⟨r.own_size, rfl, cc, el, hnew, hsz⟩, fun ho => absurd ho (by simp [hown]), ?_⟩⟩
      intro i v hi
      obtain ⟨v', a, b⟩ := hc i v hi
      exact ⟨cc, el, (0, 0), v', hnew, by simpa using a, b.mono hle⟩
    · simp only [Heap.new, T.get_put_other _ _ hbn] at hb
      obtain ⟨e, he, x⟩ := r.blk b k1 hb
      exact ⟨e, hle _ _ he, x.mono hle hold⟩
  · intro b1 b2 k1 k2 e1 e2 h1 h2 hn o1 o2 n1 n2 m1 m2
    have hx : ∀ b3 k3 e3, b3 ≠ h.next → (h.new k).blks.get b3 = some k3 → k3.own = true → (μ.put h.next ⟨w.heap.size, 0, extra, k.s, k.n⟩) b3 = some e3 → h.blks.get b3 = some k3 ∧ μ b3 = some e3 ∧ e3.blk < w.heap.size := by
      intro b3 k3 e3 hb h3 o3 m3
      simp only [Heap.new, T.get_put_other _ _ hb] at h3
      rw [Map.put_other hb] at m3
      obtain ⟨e, he, x⟩ := r.blk b3 k3 h3
      rw [m3] at he; cases he
      exact ⟨h3, m3, x.lt o3⟩
    by_cases c1 : b1 = h.next
    · have c2 : b2 ≠ h.next := by intro c; exact hn (by rw [c1, c])
      obtain ⟨_, _, hlt⟩ := hx b2 k2 e2 c2 h2 o2 m2
      rw [c1, Map.put_same] at m1; cases m1
      simp; omega
    · by_cases c2 : b2 = h.next
      · obtain ⟨_, _, hlt⟩ := hx b1 k1 e1 c1 h1 o1 m1
        rw [c2, Map.put_same] at m2; cases m2
        simp; omega
      · obtain ⟨a1, a2, _⟩ := hx b1 k1 e1 c1 h1 o1 m1
        obtain ⟨d1, d2, _⟩ := hx b2 k2 e2 c2 h2 o2 m2
        exact r.apart b1 b2 k1 k2 e1 e2 a1 d1 hn o1 o2 n1 n2 a2 d2

/-- one block more that is not to be turned -/
def Fr.with (B : Fr) (c : Nat) (o : Obj) : Fr := ⟨B.n, fun i => if i = c then some o else B.z i⟩

theorem Fr.own_with {B : Fr} {c i : Nat} {o : Obj} : (B.with c o).own i ↔ B.own i ∧ i ≠ c := by
  unfold Fr.own Fr.with
  by_cases h : i = c <;> simp [h]

theorem AuxOk.frame {μ : Map} {L : T LRec} {M : List Nat} {B B' : Fr} {w w' : World} (x : AuxOk C μ L M B w) (hw : ∀ i, i < w.heap.size → w'.heap[i]? = w.heap[i]?) (ho : ∀ i, i < w.heap.size → B.own i → B'.own i) : AuxOk C μ L M B' w' := by
  have hlt : ∀ {i : Nat} {o : Obj}, w.heap[i]? = some o → i < w.heap.size := fun h => (Array.getElem?_eq_some_iff.1 h).1
  refine ⟨fun b k hb => ?_, x.lapart, fun m hm => ?_, x.mapart⟩
  · obtain ⟨e, he, h0, r, h1, h2⟩ := x.loop b k hb
    exact ⟨e, he, ho _ (hlt h1) h0, r, by rw [hw _ (hlt h1)]; exact h1, h2⟩
  · obtain ⟨e, he, h0, h1⟩ := x.mark m hm
    exact ⟨e, he, ho _ (hlt h1) h0, by rw [hw _ (hlt h1)]; exact h1⟩

/-- a row is laid that is not told of yet -/
theorem Rel.ahead {μ : Map} {h : Heap} {B : Fr} {w0 w : World} (r : Rel C μ h B w0 w) (cc : Array Value) (el : TypeId) :
    Rel C μ h (B.with w.heap.size (.cells cc el (0, 0))) w0 (w.alloc (.cells cc el)) := by
  have hold : ∀ i, i < w.heap.size → (w.alloc (.cells cc el)).heap[i]? = w.heap[i]? := fun i hi => Below.heap_alloc _ _ _ hi
  have hnew : (w.alloc (.cells cc el)).heap[w.heap.size]? = some (.cells cc el (0, 0)) := heap_alloc_new w _
  have hown : ∀ i, i < w.heap.size → B.own i → (B.with w.heap.size (.cells cc el (0, 0))).own i := fun i hi ho => Fr.own_with.2 ⟨ho, by omega⟩
  refine ⟨r.below.alloc r.size _, by have := r.size; simp [Fr.with]; omega, fun i o hz => ?_, r.fresh, fun b k hb => ?_, r.apart, r.aux.frame hold hown⟩
  · unfold Fr.with at hz
    simp only at hz
    split at hz
    · rename_i hi; rw [hi, hnew]; exact hz
    · exact r.zk_old hold i o hz
  · obtain ⟨e, he, x⟩ := r.blk b k hb
    have y := x.mono μ.le_refl hold
    exact ⟨e, he, y.s, y.n, y.len, y.grown, fun ho => by
      obtain ⟨a1, a2, a3⟩ := y.own ho
      exact ⟨hown _ (x.lt ho) a1, a2, a3⟩, y.ro, y.cell⟩

/-- it is told of now -/
theorem Rel.absorb {μ : Map} {h : Heap} {B : Fr} {w0 w : World} {c : Nat} {cc : Array Value} {el : TypeId} (r : Rel C μ h (B.with c (.cells cc el (0, 0))) w0 w) (hB : B.own c) (k : Blk) (hown : k.own = true)
    (hlen : k.cells.length ≤ k.n) (hsz : cc.size = k.n) (hc : ∀ (i : Nat) (v : Value), k.cells[i]? = some v → ∃ v', cc[i]? = some v' ∧ VRel μ v v') :
    Rel C (μ.put h.next ⟨c, 0, 0, k.s, k.n⟩) (h.new k) B w0 w ∧ μ.le (μ.put h.next ⟨c, 0, 0, k.s, k.n⟩) := by
  have hle : μ.le (μ.put h.next ⟨c, 0, 0, k.s, k.n⟩) := Map.le_put (r.next_none (Nat.le_refl _))
  have hnew : w.heap[c]? = some (.cells cc el (0, 0)) := r.zk c _ (by simp [Fr.with])
  refine ⟨⟨r.below, r.size, fun i o hz => r.zk i o ?_, ?_, ?_, ?_, (r.aux.frame (B' := B) (fun _ _ => rfl) (fun _ _ ho => (Fr.own_with.1 ho).1)).keep hle (fun _ _ h _ => h)⟩, hle⟩
  · have hic : i ≠ c := hB.ne hz
    simp only [Fr.with, if_neg hic]; exact hz
  · intro b e hb
    by_cases hbn : b = h.next
    · subst hbn; simp [Heap.new]
    · rw [Map.put_other hbn] at hb
      have := r.fresh b e hb; simp [Heap.new]; omega
  · intro b k1 hb
    by_cases hbn : b = h.next
    · subst hbn
      simp only [Heap.new, T.get_put_same, Option.some.injEq] at hb; subst hb
      refine ⟨_, Map.put_same _ _ _, ⟨rfl, rfl, hlen, fun _ => rfl, fun _ => ⟨hB, rfl, cc, el, hnew, by simpa using hsz⟩, fun ho => absurd ho (by simp [hown]), ?_⟩⟩
      intro i v hi
      obtain ⟨v', a, b⟩ := hc i v hi
      exact ⟨cc, el, (0, 0), v', hnew, by simpa using a, b.mono hle⟩
    · simp only [Heap.new, T.get_put_other _ _ hbn] at hb
      obtain ⟨e, he, x⟩ := r.blk b k1 hb
      have y := x.mono hle (fun i _ => rfl)
      exact ⟨e, hle _ _ he, y.s, y.n, y.len, y.grown, fun ho => by
        obtain ⟨a1, a2, a3⟩ := y.own ho
        exact ⟨(Fr.own_with.1 a1).1, a2, a3⟩, y.ro, y.cell⟩
  · intro b1 b2 k1 k2 e1 e2 h1 h2 hn o1 o2 n1 n2 m1 m2
    have hx : ∀ b3 k3 e3, b3 ≠ h.next → (h.new k).blks.get b3 = some k3 → k3.own = true → (μ.put h.next ⟨c, 0, 0, k.s, k.n⟩) b3 = some e3 → h.blks.get b3 = some k3 ∧ μ b3 = some e3 ∧ e3.blk ≠ c := by
      intro b3 k3 e3 hb h3 o3 m3
      simp only [Heap.new, T.get_put_other _ _ hb] at h3
      rw [Map.put_other hb] at m3
      obtain ⟨e, he, x⟩ := r.blk b3 k3 h3
      rw [m3] at he; cases he
      exact ⟨h3, m3, (Fr.own_with.1 (x.own o3).1).2⟩
    by_cases c1 : b1 = h.next
    · have c2 : b2 ≠ h.next := by intro c; exact hn (by rw [c1, c])
      obtain ⟨_, _, hne⟩ := hx b2 k2 e2 c2 h2 o2 m2
      rw [c1, Map.put_same] at m1; cases m1
      exact fun hc => hne hc.symm
    · by_cases c2 : b2 = h.next
      · obtain ⟨_, _, hne⟩ := hx b1 k1 e1 c1 h1 o1 m1
        rw [c2, Map.put_same] at m2; cases m2
        exact hne
      · obtain ⟨a1, a2, _⟩ := hx b1 k1 e1 c1 h1 o1 m1
        obtain ⟨d1, d2, _⟩ := hx b2 k2 e2 c2 h2 o2 m2
        exact r.apart b1 b2 k1 k2 e1 e2 a1 d1 hn o1 o2 n1 n2 a2 d2

/-- a block is told of no more -/
def Heap.kill (h : Heap) (b : Nat) (k : Blk) : Heap := { h with blks := h.blks.put b { k with cells := [] } }

theorem Rel.kill {μ : Map} {h : Heap} {B : Fr} {w0 w : World} (r : Rel C μ h B w0 w) {b : Nat} {k : Blk} (hk : h.blks.get b = some k) : Rel C μ (h.kill b k) B w0 w := by
  refine ⟨r.below, r.size, r.zk, r.fresh, ?_, ?_, r.aux⟩
  · intro b1 k1 hb1
    by_cases hb : b1 = b
    · subst hb
      simp only [Heap.kill, T.get_put_same, Option.some.injEq] at hb1; subst hb1
      obtain ⟨e, he, x⟩ := r.blk b1 k hk
      exact ⟨e, he, ⟨x.s, x.n, by simp, x.grown, x.own, x.ro, fun i v hi => by simp at hi⟩⟩
    · simp only [Heap.kill, T.get_put_other _ _ hb] at hb1
      exact r.blk b1 k1 hb1
  · intro b1 b2 k1 k2 e1 e2 h1 h2 hn o1 o2 n1 n2 m1 m2
    have hx : ∀ b3 k3, (h.kill b k).blks.get b3 = some k3 → k3.cells ≠ [] → h.blks.get b3 = some k3 := by
      intro b3 k3 h3 n3
      by_cases hb : b3 = b
      · subst hb; simp only [Heap.kill, T.get_put_same, Option.some.injEq] at h3; subst h3; simp at n3
      · simpa only [Heap.kill, T.get_put_other _ _ hb] using h3
    exact r.apart b1 b2 k1 k2 e1 e2 (hx _ _ h1 n1) (hx _ _ h2 n2) hn o1 o2 n1 n2 m1 m2

/-- a row that was appended to in place, under a new name; the elder one is told of no more -/
theorem Rel.regrow {μ : Map} {h : Heap} {B : Fr} {w0 w : World} (r : Rel C μ h B w0 w) {b : Nat} {k : Blk} (hk : h.blks.get b = some k) (hown : k.own = true) (hne : k.cells ≠ []) {e : Ent} (he : μ b = some e)
    {cc : Array Value} {el : TypeId} (hh : w.heap[e.blk]? = some (.cells cc el (0, 0))) (cc' : Array Value) (hsz : cc'.size = cc.size) (k' : Blk) (hown' : k'.own = true) (hg : k'.grown = true) (extra : Nat)
    (hlen : k'.cells.length ≤ k'.n) (hsz' : cc.size = k'.n + extra * k'.s) (hcs : ∀ (i : Nat) (v : Value), k'.cells[i]? = some v → ∃ v', cc'[i]? = some v' ∧ VRel μ v v') :
    Rel C (μ.put h.next ⟨e.blk, 0, extra, k'.s, k'.n⟩) ((h.kill b k).new k') B w0 (w.setRow e.blk cc') ∧ μ.le (μ.put h.next ⟨e.blk, 0, extra, k'.s, k'.n⟩) := by
  have hle : μ.le (μ.put h.next ⟨e.blk, 0, extra, k'.s, k'.n⟩) := Map.le_put (r.next_none (Nat.le_refl _))
  have hbn : b < h.next := r.get_lt hk
  obtain ⟨e', he', x⟩ := r.blk b k hk
  rw [he] at he'; cases he'
  obtain ⟨hB, hbase, cc0, el0, hh0, hs0⟩ := x.own hown
  rw [hh] at hh0; cases hh0
  have hnew := setRow_heap w e.blk cc cc' el (0, 0) hh
  have r1 := r.row hk hown hne he hh cc' hsz [] (by simp) (fun i v hi => by simp at hi)
  have hgetk : ∀ b3 k3, ((h.kill b k).new k').blks.get b3 = some k3 → b3 ≠ h.next → (h.kill b k).blks.get b3 = some k3 := by
    intro b3 k3 h3 hb
    simpa only [Heap.new, Heap.kill, T.get_put_other _ _ hb] using h3
  refine ⟨⟨r1.below, r1.size, r1.zk, ?_, ?_, ?_, r.aux.keep hle (keeps_setRow hh cc')⟩, hle⟩
  · intro b1 e1 hb
    by_cases hb1 : b1 = h.next
    · subst hb1; simp [Heap.new, Heap.kill]
    · rw [Map.put_other hb1] at hb
      have := r.fresh b1 e1 hb; simp [Heap.new, Heap.kill]; omega
  · intro b1 k1 hb1
    by_cases hb : b1 = h.next
    · subst hb
      simp only [Heap.new, Heap.kill, T.get_put_same, Option.some.injEq] at hb1; subst hb1
      refine ⟨_, Map.put_same _ _ _, ⟨rfl, rfl, hlen, fun hf => absurd hf (by simp [hg]), fun _ => ⟨hB, rfl, cc', el, hnew, by rw [hsz]; exact hsz'⟩, fun ho => absurd ho (by simp [hown']), ?_⟩⟩
      intro i v hi
      obtain ⟨v', a, c⟩ := hcs i v hi
      exact ⟨cc', el, (0, 0), v', hnew, by simpa using a, c.mono hle⟩
    · obtain ⟨e1, he1, x1⟩ := r1.blk b1 k1 (hgetk b1 k1 hb1 hb)
      exact ⟨e1, hle _ _ he1, x1.mono hle (fun _ _ => rfl)⟩
  · intro b1 b2 k1 k2 e1 e2 h1 h2 hn o1 o2 n1 n2 m1 m2
    have key : ∀ b3 k3 e3, b3 ≠ h.next → ((h.kill b k).new k').blks.get b3 = some k3 → k3.own = true → k3.cells ≠ [] → (μ.put h.next ⟨e.blk, 0, extra, k'.s, k'.n⟩) b3 = some e3 → e3.blk ≠ e.blk ∧ μ b3 = some e3 := by
      intro b3 k3 e3 hb h3 o3 n3 m3
      have h4 := hgetk b3 k3 h3 hb
      rw [Map.put_other hb] at m3
      have hbb : b3 ≠ b := by
        intro hbb; subst hbb
        simp only [Heap.kill, T.get_put_same, Option.some.injEq] at h4; subst h4; simp at n3
      have h5 : h.blks.get b3 = some k3 := by simpa only [Heap.kill, T.get_put_other _ _ hbb] using h4
      exact ⟨r.apart b3 b k3 k e3 e h5 hk hbb o3 hown n3 hne m3 he, m3⟩
    by_cases c1 : b1 = h.next
    · have c2 : b2 ≠ h.next := by intro c; exact hn (by rw [c1, c])
      obtain ⟨hd, _⟩ := key b2 k2 e2 c2 h2 o2 n2 m2
      rw [c1, Map.put_same] at m1; cases m1
      exact fun hc => hd hc.symm
    · by_cases c2 : b2 = h.next
      · obtain ⟨hd, _⟩ := key b1 k1 e1 c1 h1 o1 n1 m1
        rw [c2, Map.put_same] at m2; cases m2
        exact hd
      · obtain ⟨_, a2⟩ := key b1 k1 e1 c1 h1 o1 n1 m1
        obtain ⟨_, d2⟩ := key b2 k2 e2 c2 h2 o2 n2 m2
        exact r1.apart b1 b2 k1 k2 e1 e2 (hgetk _ _ h1 c1) (hgetk _ _ h2 c2) hn o1 o2 n1 n2 a2 d2

end
end Go.Proofs.Ytedldiimhbebdaa.Ai
