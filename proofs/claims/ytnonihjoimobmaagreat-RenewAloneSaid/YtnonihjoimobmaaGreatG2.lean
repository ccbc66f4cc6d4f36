/- Texts put together: VL, VP, VM1, T0, T1, T2, TB, Grow0, VQ, MT, MU, MV, MW, GK, HA, HB, HC, HD, HE, HF, HH, GA. -/
import Derived.Test.YtnonihjoimobmaaGreatG1
import Derived.Test.YtnonihjoimobmaaGreatTh2
import Derived.Test.YtnonihjoimobmaaGreatG0
import Derived.Test.YtnonihjoimobmaaGreatTabOk
namespace Go.Proofs.YtnonihjoimobmaaGreat.Ai
open Go.Proofs.YtnonihjoimobmaaGreat
noncomputable section
set_option linter.all false
variable {P : Program} {tab : Nat -> Option Aae}
open Go.RowKit
mutual
def Tr.fits : Tr -> List Pr -> Prop
 | .empty _, l => l = []
 | .leaf _ k v, l => l = [(k, v)]
 | .inner _ sz sh ch sm ks cs, l => (2 <= l.length /\ l.length <= 120) /\ (sz = (l.length : Nat) /\ sh = 0 /\ ch = 0 /\ sm = 0) /\ ks = Acl l (Aar l.length) /\ cs.length = Aar l.length /\ Amg cs l 0
def Amg : List Tr -> List Pr -> Nat -> Prop
 | [], _, _ => True
 | t :: cs, l, i => t.fits (Aaq l i) /\ Amg cs l (i + 1)
end
mutual
def Tr.adrs : Tr -> List Nat
 | .empty a => [a]
 | .leaf a _ _ => [a, a + 1]
 | .inner a _ _ _ _ _ cs => List.range' a (2 * cs.length + 4) ++ Aak cs
def Aak : List Tr -> List Nat
 | [] => []
 | t :: cs => t.adrs ++ Aak cs
end
theorem Ad0 : ∀ {cs : List Tr} {l : List Pr} {i : Nat}, Amg cs l i -> ∀ j (h : j < cs.length), cs[j].fits (Aaq l (i + j))
 | t :: cs, l, i, ⟨a, b⟩, 0, _ => a
 | t :: cs, l, i, ⟨a, b⟩, j + 1, h => by
  have := Ad0 b j (by simpa using h)
  rw [show i + (j + 1) = i + 1 + j by omega]
  simpa using this
theorem Akn : ∀ {a : List Tr} {t : Tr} {l : List Pr} {i : Nat}, Amg a l i -> t.fits (Aaq l (i + a.length)) -> Amg (a ++ [t]) l i
 | [], t, l, i, _, h => ⟨by simpa using h, trivial⟩
 | s :: a, t, l, i, ⟨h1, h2⟩, h => ⟨h1, Akn h2 (by rw [show i + 1 + a.length = i + (s :: a).length by simp; omega]; exact h)⟩
theorem Alh {C : List Int} : ∀ {a : List Tr} {t : Tr}, oks C a -> t.ok C -> oks C (a ++ [t])
 | [], t, _, h => ⟨h, trivial⟩
 | s :: a, t, ⟨h1, h2⟩, h => ⟨h1, Alh h2 h⟩
theorem Ab8 : ∀ (a b : List Tr), Aak (a ++ b) = Aak a ++ Aak b
 | [], b => by simp [Aak]
 | t :: a, b => by simp [Aak, Ab8 a b]
theorem Aqh {i : Nat} : ∀ {cs : List Tr}, i ∈ Aak cs -> ∃ c ∈ cs, i ∈ c.adrs
 | [], h => by simp [Aak] at h
 | t :: cs, h => by
  simp only [Aak, List.mem_append] at h
  rcases h with h | h
  ·exact ⟨t, by simp, h⟩
  ·obtain ⟨c, h1, h2⟩ := Aqh h
   exact ⟨c, List.mem_cons_of_mem _ h1, h2⟩
theorem An5 {n : Nat} (h2 : 2 <= n) (h : n <= 120) : Aa1 n (Aar n) = n := by
 have pn := Ac7 h2 h
 have d2 := pn.deg2
 unfold Aa1
 have h1 := Nat.div_add_mod n (Aar n)
 have h3 : n % Aar n < Aar n := Nat.mod_lt _ (by omega)
 rw [Nat.min_eq_right (by omega), Nat.mul_comm]
 omega
theorem Afp : ∀ (t : Tr) (l : List Pr), t.fits l -> t.content = l := by
 intro t
 induction t using Tr.ind with
 | e a => exact fun l h => h.symm
 | l a k v => exact fun l h => h.symm
 | i a sz sh ch sm ks cs ih =>
  intro l h
  obtain ⟨⟨h2, h120⟩, _, _, hd, hf⟩ := h
  have pn := Ac7 h2 h120
  show Aaf cs = l
  have key : ∀ i, i <= cs.length -> Aaf (cs.take i) = l.take (Aa1 l.length i) := by
   intro i
   induction i with
   | zero => intro _; rw [pn.zero]; simp [Aaf]
   | succ i ihi =>
    intro hi
    have e := ih cs[i] (List.getElem_mem _) _ (Ad0 hf i (by omega))
    rw [Nat.zero_add] at e
    rw [Aef cs (by omega), Ack, ihi (by omega), pn.nq i (by omega), List.take_add]
    simp only [Aaf, List.append_nil, e, Aaq]
  have e := key cs.length (Nat.le_refl _)
  rw [List.take_length, hd, An5 h2 h120, List.take_length] at e
  exact e
theorem Aoe {l : List Pr} {i : Nat} (h1 : 1 <= Abs l.length i) : (Aaq l i)[0]? = l[Aa1 l.length i]? := by
 simp [Aaq, List.getElem?_take]
 omega
theorem Au8 : ∀ (t : Tr) (l : List Pr), t.fits l -> l ≠ [] -> t.first = ((l[0]?).getD (0, 0)).1 := by
 intro t
 induction t using Tr.ind with
 | e a => exact fun l h hne => absurd h hne
 | l a k v => intro l h _; cases h; rfl
 | i a sz sh ch sm ks cs ih =>
  intro l h _
  obtain ⟨⟨h2, h120⟩, _, _, hd, hf⟩ := h
  have pn := Ac7 h2 h120
  have d2 := pn.deg2
  have h1 := pn.one 0 (by omega)
  have e := Aoe (l := l) h1
  rw [pn.zero] at e
  have hne : Aaq l 0 ≠ [] := by
   intro e2
   rw [e2] at e
   simp at e
   rw [e] at h2; simp at h2
  cases cs with
  | nil => simp at hd; omega
  | cons c cs =>
   show c.first = _
   rw [ih c (by simp) _ hf.1 hne, e]
theorem Aiw (l : List Pr) : ∀ (d i : Nat), i + 1 < d -> (Acl l d)[i]? = some ((l[Aa1 l.length (i + 1)]?).getD (0, 0)).1
 | 0, i, h => by omega
 | 1, i, h => by omega
 | d + 2, i, h => by
  rw [Acl, if_neg (by omega)]
  have hl := Ac0 l (d + 1)
  by_cases c : i + 1 < d + 1
  ·rw [List.getElem?_append_left (by omega)]
   exact Aiw l (d + 1) i c
  ·have e : i = d := by omega
   rw [List.getElem?_append_right (by omega), hl, e]
   simp
theorem A1v : ∀ (t : Tr) (l : List Pr), t.fits l -> t.idl := by
 intro t
 induction t using Tr.ind with
 | e a => exact fun l h => trivial
 | l a k v => exact fun l h => trivial
 | i a sz sh ch sm ks cs ih =>
  intro l h
  have hc : Aaf cs = l := Afp (.inner a sz sh ch sm ks cs) l h
  obtain ⟨⟨h2, h120⟩, ⟨e1, e2, e3, e4⟩, hk, hd, hf⟩ := h
  have pn := Ac7 h2 h120
  refine ⟨?_, ?_⟩
  ·rw [hc]
   refine ⟨⟨h2, h120⟩, hd, e1, e2, e3, e4, fun i hi => ?_, fun i hi hi2 => ?_⟩
   ·have := Ad0 hf i hi
    rw [Nat.zero_add] at this
    rw [Afp _ _ this, Abu h2 h120 (by omega)]
   ·have hf1 := Ad0 hf (i + 1) hi2
    rw [Nat.zero_add] at hf1
    have h1 := pn.one (i + 1) (by omega)
    have hp := Abu h2 h120 (i := i + 1) (by omega)
    rw [Au8 _ _ hf1 (by intro e; rw [e] at hp; simp at hp; omega), Aoe h1]
    have := Aiw l (Aar l.length) i (by omega)
    rw [<- hk, List.getElem?_eq_getElem hi] at this
    exact Option.some.inj this
  ·have key : ∀ (cs' : List Tr) (i : Nat), (∀ c ∈ cs', c ∈ cs) -> Amg cs' l i -> A6r cs' := by
    intro cs'
    induction cs' with
    | nil => intro _ _ _; trivial
    | cons c cs' ihc =>
     intro i hm hh
     exact ⟨ih c (hm c (by simp)) _ hh.1, ihc (i + 1) (fun c hc => hm c (List.mem_cons_of_mem _ hc)) hh.2⟩
   exact key cs 0 (fun _ h => h) hf
theorem Axy : ∀ (t : Tr) (l : List Pr), t.fits l -> t.busy = false := by
 intro t
 induction t using Tr.ind with
 | e a => exact fun l h => rfl
 | l a k v => exact fun l h => rfl
 | i a sz sh ch sm ks cs ih =>
  intro l h
  obtain ⟨⟨h2, h120⟩, ⟨e1, e2, e3, e4⟩, hk, hd, hf⟩ := h
  have key : ∀ (cs' : List Tr) (i : Nat), (∀ c ∈ cs', c ∈ cs) -> Amg cs' l i -> Agz cs' = false := by
   intro cs'
   induction cs' with
   | nil => intro _ _ _; rfl
   | cons c cs' ihc =>
    intro i hm hh
    simp only [Agz, ih c (hm c (by simp)) _ hh.1, ihc (i + 1) (fun c hc => hm c (List.mem_cons_of_mem _ hc)) hh.2, Bool.or_false]
  show ((decide (sh = 1) || decide (Az8 sz <= ch)) || Agz cs) = false
  rw [key cs 0 (fun _ h => h) hf]
  subst e1 e2 e3
  have : ¬ Az8 (l.length : Nat) <= 0 := by
   unfold Az8
   rw [if_pos (by omega)]
   omega
  simp [this]
theorem Auf : ∀ (t : Tr) (l : List Pr), t.fits l -> l ≠ [] -> t.spots.length + 2 <= 2 * l.length := by
 intro t
 induction t using Tr.ind with
 | e a => exact fun l h hne => absurd h hne
 | l a k v => intro l h _; cases h; simp [Tr.spots]
 | i a sz sh ch sm ks cs ih =>
  intro l h _
  obtain ⟨⟨h2, h120⟩, _, _, hd, hf⟩ := h
  have pn := Ac7 h2 h120
  have d2 := pn.deg2
  show (Abx _ cs).length + 2 <= _
  have key : ∀ (s i : Nat), i <= cs.length -> (Abx s (cs.take i)).length + i <= 2 * Aa1 l.length i := by
   intro s i
   induction i with
   | zero => intro _; simp [Abx]
   | succ i ihi =>
    intro hi
    have hfi := Ad0 hf i (by omega)
    rw [Nat.zero_add] at hfi
    have hp := Abu h2 h120 (i := i) (by omega)
    have h1 := pn.one i (by omega)
    have e := ih cs[i] (List.getElem_mem _) _ hfi (by intro e; rw [e] at hp; simp at hp; omega)
    rw [hp] at e
    have := ihi (by omega)
    rw [Aef cs (by omega), Ahu, pn.nq i (by omega)]
    simp only [Abx, List.length_append, List.length_cons, List.length_nil]
    omega
  have e := key (a + 4 + cs.length) cs.length (Nat.le_refl _)
  rw [List.take_length, hd, An5 h2 h120] at e
  rw [hd]
  omega
theorem Aua (t : Tr) (l : List Pr) (h : t.fits l) (hl : l.length <= 120) : t.spots.length < 90000 := by
 by_cases e : l = []
 ·subst e
  cases t with
  | empty a => simp [Tr.spots]
  | leaf a k v => simp [Tr.spots]
  | inner a sz sh ch sm ks cs => have := h.1.1; simp at this
 ·have := Auf t l h e
  omega
theorem Are {l : List Pr} (ha : Asc l) : ∀ (i j : Nat) (hi : i < j) (hj : j < l.length), l[i].1 < l[j].1 := by
 intro i j hi
 induction j with
 | zero => omega
 | succ j ih =>
  intro hj
  have h1 := ha j hj
  by_cases c : i = j
  ·subst c; exact h1
  ·have := ih (by omega) (by omega)
   omega
theorem Aod {l : List Pr} {i : Nat} {p : Pr} (h : p ∈ Aaq l i) : ∃ x, ∃ hx : x < l.length, Aa1 l.length i <= x /\ x < Aa1 l.length i + Abs l.length i /\ l[x] = p := by
 unfold Aaq at h
 obtain ⟨j, hj, e⟩ := List.getElem_of_mem h
 simp only [List.length_take, List.length_drop] at hj
 simp only [List.getElem_take, List.getElem_drop] at e
 exact ⟨Aa1 l.length i + j, by omega, by omega, by omega, e⟩
theorem Aok {l : List Pr} (ha : Asc l) (i : Nat) : Asc (Aaq l i) := by
 intro j hj
 unfold Aaq at hj ⊢
 simp only [List.length_take, List.length_drop] at hj
 simp only [List.getElem_take, List.getElem_drop]
 exact ha _ (by omega)
theorem Asw : ∀ (t : Tr) (l : List Pr) (lo hi : Int), t.fits l -> Asc l -> (∀ p ∈ l, lo <= p.1 /\ p.1 <= hi) -> t.ord lo hi := by
 intro t
 induction t using Tr.ind with
 | e a => exact fun l lo hi h ha hb => trivial
 | l a k v => intro l lo hi h ha hb; cases h; exact hb (k, v) (by simp)
 | i a sz sh ch sm ks cs ih =>
  intro l lo hi h ha hb
  obtain ⟨⟨h2, h120⟩, _, hk, hd, hf⟩ := h
  have pn := Ac7 h2 h120
  have d2 := pn.deg2
  have hkl : ks.length = cs.length - 1 := by rw [hk, Ac0, hd]
  have hkey : ∀ j (hj : j < ks.length), ∃ hx : Aa1 l.length (j + 1) < l.length, ks[j] = (l[Aa1 l.length (j + 1)]).1 := by
   intro j hj
   have h1 := pn.one (j + 1) (by omega)
   have h3 := pn.top (j + 1) (by omega)
   have hx : Aa1 l.length (j + 1) < l.length := by omega
   refine ⟨hx, ?_⟩
   have := Aiw l (Aar l.length) j (by omega)
   rw [<- hk, List.getElem?_eq_getElem hj, List.getElem?_eq_getElem hx] at this
   exact Option.some.inj this
  have mono : ∀ i j, i <= j -> j <= cs.length -> Aa1 l.length i <= Aa1 l.length j := by
   intro i j hij
   induction hij with
   | refl => intro _; exact Nat.le_refl _
   | @step m _ ihm =>
    intro hm
    have := ihm (by omega)
    have := pn.nq m (by omega)
    show Aa1 l.length i <= Aa1 l.length (m + 1)
    omega
  have hget : ∀ x y (hx : x < l.length) (hy : y < l.length), x <= y -> l[x].1 <= l[y].1 := by
   intro x y hx hy hxy
   by_cases e : x = y
   ·subst e; omega
   ·have := Are ha x y (by omega) hy; omega
  have key : ∀ m j, j + 1 + m = cs.length -> ∀ lo', (∀ p ∈ l, p ∈ Aaq l j -> lo' <= p.1) -> (∀ (x : Nat) (hx : x < l.length), Aa1 l.length j <= x -> lo' <= l[x].1) -> A0b lo' hi (ks.drop j) (cs.drop j) := by
   intro m
   induction m with
   | zero =>
    intro j hj lo' _ hlo
    rw [List.drop_eq_nil_of_le (by omega), List.drop_eq_getElem_cons (by omega), List.drop_eq_nil_of_le (by omega)]
    have hfj := Ad0 hf j (by omega)
    rw [Nat.zero_add] at hfj
    refine ih _ (List.getElem_mem _) _ _ _ hfj (Aok ha j) (fun p hp => ?_)
    obtain ⟨x, hx, x1, x2, rfl⟩ := Aod hp
    exact ⟨hlo x hx x1, (hb _ (List.getElem_mem _)).2⟩
   | succ m ihm =>
    intro j hj lo' _ hlo
    rw [List.drop_eq_getElem_cons (i := j) (l := ks) (by omega), List.drop_eq_getElem_cons (i := j) (l := cs) (by omega)]
    obtain ⟨hx, ek⟩ := hkey j (by omega)
    have hn := pn.nq j (by omega)
    have h1 := pn.one j (by omega)
    have hfj := Ad0 hf j (by omega)
    rw [Nat.zero_add] at hfj
    refine ⟨?_, ?_, ?_, ?_⟩
    ·rw [ek]
     have a1 := hlo (Aa1 l.length j) (by omega) (Nat.le_refl _)
     have a2 := Are ha (Aa1 l.length j) (Aa1 l.length (j + 1)) (by omega) hx
     omega
    ·rw [ek]; exact (hb _ (List.getElem_mem _)).2
    ·refine ih _ (List.getElem_mem _) _ _ _ hfj (Aok ha j) (fun p hp => ?_)
     obtain ⟨x, hx', x1, x2, rfl⟩ := Aod hp
     refine ⟨hlo x hx' x1, ?_⟩
     have := Are ha x (Aa1 l.length (j + 1)) (by omega) hx
     rw [ek]; omega
    ·refine ihm (j + 1) (by omega) _ (fun p hp hpp => ?_) (fun x hx' hx2 => ?_)
     ·obtain ⟨x, hx', x1, x2, rfl⟩ := Aod hpp
      rw [ek]; exact hget _ _ hx hx' x1
     ·rw [ek]; exact hget _ _ hx hx' hx2
  have := key (cs.length - 1) 0 (by omega) lo (fun p hp _ => (hb p hp).1) (fun x hx _ => (hb _ (List.getElem_mem _)).1)
  show A0b lo hi ks cs
  simpa using this
def A48 (f : Nat -> Nat) : Nat -> Nat
 | 0 => 0
 | i + 1 => max (A48 f i) (f i)
def A8z : Nat -> Nat -> Nat
 | 0, _ => 0
 | f + 1, n => if n < 2 then 0 else 1 + A48 (fun i => A8z f (Abs n i)) (Aar n)
def Azs (n : Nat) : Nat := A8z 8 n
theorem A3r : ((List.range 121).all fun n => Nat.blt n 2 || Nat.beq (Azs n) (1 + A48 (fun i => Azs (Abs n i)) (Aar n))) = true := by kernel_rfl
theorem At2 : (Nat.beq (Azs 0) 0 && Nat.beq (Azs 1) 0 && (List.range 121).all fun n => Nat.ble (Azs n) 100) = true := by kernel_rfl
theorem A6f {n : Nat} (h2 : 2 <= n) (h : n <= 120) : Azs n = 1 + A48 (fun i => Azs (Abs n i)) (Aar n) := by
 have := List.all_eq_true.1 A3r n (List.mem_range.2 (by omega))
 simp only [Bool.or_eq_true] at this
 rcases this with h0 | h0
 ·have : Nat.ble (n + 1) 2 = true := h0
  have := Nat.le_of_ble_eq_true this; omega
 ·exact Nat.eq_of_beq_eq_true h0
theorem Axz : ∀ (t : Tr) (l : List Pr), t.fits l -> t.deep = Azs l.length := by
 have h01 : Azs 0 = 0 /\ Azs 1 = 0 := by
  have := At2
  simp only [Bool.and_eq_true] at this
  exact ⟨Nat.eq_of_beq_eq_true this.1.1, Nat.eq_of_beq_eq_true this.1.2⟩
 intro t
 induction t using Tr.ind with
 | e a => intro l h; cases h; exact h01.1.symm
 | l a k v => intro l h; cases h; exact h01.2.symm
 | i a sz sh ch sm ks cs ih =>
  intro l h
  obtain ⟨⟨h2, h120⟩, _, hk, hd, hf⟩ := h
  show 1 + Adg cs = _
  rw [A6f h2 h120]
  have key : ∀ i, i <= cs.length -> Adg (cs.take i) = A48 (fun i => Azs (Abs l.length i)) i := by
   intro i
   induction i with
   | zero => intro _; rfl
   | succ i ihi =>
    intro hi
    have hfi := Ad0 hf i (by omega)
    rw [Nat.zero_add] at hfi
    have e := ih cs[i] (List.getElem_mem _) _ hfi
    rw [Abu h2 h120 (by omega)] at e
    rw [Aef cs (by omega), Ao4, ihi (by omega)]
    simp [Adg, A48, e]
  have e := key cs.length (Nat.le_refl _)
  rw [List.take_length] at e
  rw [e, hd]
theorem Awk : ∀ (t : Tr) (T : List Bool) (i : Nat), i < T.length -> (t.mq T)[i]? = some (decide (i ∈ t.adrs) || (T[i]?).getD false) := by
 intro t
 induction t using Tr.ind with
 | e a =>
  intro T i hi
  show (setR T a 1)[i]? = _
  rw [Afm hi]
  by_cases h : i = a
  ·subst h; simp [Tr.adrs]
  ·rw [if_neg (by omega)]; simp [Tr.adrs, h]
 | l a k v =>
  intro T i hi
  show (setR T a 2)[i]? = _
  rw [Afm hi]
  by_cases h : a <= i /\ i < a + 2
  ·rw [if_pos h]
   have : i = a \/ i = a + 1 := by omega
   simp [Tr.adrs, this]
  ·rw [if_neg h]
   have : ¬ (i = a \/ i = a + 1) := by omega
   simp only [Tr.adrs, List.mem_cons, List.not_mem_nil, or_false, this, decide_false, Bool.false_or]
 | i a sz sh ch sm ks cs ih =>
  intro T i hi
  show (Ac8 (setR T a (2 * cs.length + 4)) cs)[i]? = _
  have key : ∀ (cs' : List Tr) (T : List Bool), i < T.length -> (∀ c ∈ cs', c ∈ cs) -> (Ac8 T cs')[i]? = some (decide (i ∈ Aak cs') || (T[i]?).getD false) := by
   intro cs'
   induction cs' with
   | nil => intro T hi _; simp [Ac8, Aak, hi]
   | cons c cs' ihc =>
    intro T hi hm
    show (Ac8 (c.mq T) cs')[i]? = _
    rw [ihc (c.mq T) (by rw [Anm]; exact hi) (fun x hx => hm x (List.mem_cons_of_mem _ hx)), ih c (hm c (by simp)) T i hi]
    simp only [Aak, List.mem_append, Option.getD_some]
    by_cases h1 : i ∈ c.adrs <;> by_cases h2 : i ∈ Aak cs' <;> simp [h1, h2]
  rw [key cs _ (by rw [Adi]; exact hi) (fun _ h => h), Afm hi]
  simp only [Tr.adrs, List.mem_append, List.mem_range'_1, Option.getD_some]
  by_cases h1 : a <= i /\ i < a + (2 * cs.length + 4) <;> by_cases h2 : i ∈ Aak cs <;> simp [h1, h2]
theorem Ar7 : ∀ (t : Tr) (T : List Bool), (∀ i ∈ t.adrs, T[i]? = some false) -> t.adrs.Nodup -> t.free T := by
 intro t
 induction t using Tr.ind with
 | e a => intro T h _ i h1 h2; exact h i (by simp [Tr.adrs]; omega)
 | l a k v => intro T h _ i h1 h2; exact h i (by simp [Tr.adrs]; omega)
 | i a sz sh ch sm ks cs ih =>
  intro T h hn
  have hn' : (List.range' a (2 * cs.length + 4) ++ Aak cs).Nodup := hn
  have h' : ∀ i, i ∈ List.range' a (2 * cs.length + 4) ++ Aak cs -> T[i]? = some false := h
  rw [List.nodup_append] at hn'
  obtain ⟨_, n2, n3⟩ := hn'
  refine ⟨fun i h1 h2 => h' i (by simp [List.mem_range'_1]; omega), ?_⟩
  have key : ∀ (cs' : List Tr) (T : List Bool), (∀ c ∈ cs', c ∈ cs) -> (∀ i ∈ Aak cs', T[i]? = some false) -> (Aak cs').Nodup -> Apv T cs' := by
   intro cs'
   induction cs' with
   | nil => intro T _ _ _; trivial
   | cons c cs' ihc =>
    intro T hm hT hnd
    have hnd' : (c.adrs ++ Aak cs').Nodup := hnd
    rw [List.nodup_append] at hnd'
    obtain ⟨a1, a2, a3⟩ := hnd'
    refine ⟨ih c (hm c (by simp)) T (fun i hi => hT i (by simp [Aak, hi])) a1, ihc (c.mq T) (fun x hx => hm x (List.mem_cons_of_mem _ hx)) (fun i hi => ?_) a2⟩
    have e := hT i (by simp [Aak, hi])
    have hlt : i < T.length := by
     rcases Nat.lt_or_ge i T.length with h | h
     ·exact h
     ·rw [List.getElem?_eq_none h] at e; cases e
    rw [Awk c T i hlt, e]
    have : i ∉ c.adrs := fun hc => a3 i hc i hi rfl
    simp [this]
  refine key cs _ (fun _ h => h) (fun i hi => ?_) n2
  have e := h' i (by simp [hi])
  have hlt : i < T.length := by
   rcases Nat.lt_or_ge i T.length with h | h
   ·exact h
   ·rw [List.getElem?_eq_none h] at e; cases e
  rw [Afm hlt, e]
  have : ¬ (a <= i /\ i < a + (2 * cs.length + 4)) := fun hc => n3 i (by simp [List.mem_range'_1]; omega) i hi rfl
  simp [this]
def Afh (tr : List Pr -> Nat -> Tr) (lay : List Pr -> Nat -> Int × List Int) (l : List Pr) (u : Nat) : Nat -> List Tr
 | 0 => []
 | i + 1 => Afh tr lay l u i ++ [tr (Aaq l i) (u + (Aay lay l u i).2.length)]
def Af0 : Nat -> List Pr -> Nat -> Tr
 | 0, _, u => .empty (u + 1)
 | f + 1, l, u => match l with
  | [] => .empty (u + 1)
  | [p] => .leaf (u + 1) p.1 p.2
  | l => .inner (u + (Aay (Abc f) l u (Aar l.length)).2.length + 1) (l.length : Nat) 0 0 0 (Acl l (Aar l.length)) (Afh (Af0 f) (Abc f) l u (Aar l.length))
theorem Axo {f : Nat} {l : List Pr} {u : Nat} (h : 2 <= l.length) : Af0 (f + 1) l u = .inner (u + (Aay (Abc f) l u (Aar l.length)).2.length + 1) (l.length : Nat) 0 0 0 (Acl l (Aar l.length)) (Afh (Af0 f) (Abc f) l u (Aar l.length)) := by
 match l, h with
 | p :: q :: l, _ => rfl
def Aes (C : List Int) (u : Nat) (L : List Int) : Prop := u + L.length <= C.length /\ ∀ (j : Nat) (v : Int), L[j]? = some v -> at0 C (u + 1 + j) = v
theorem Aes.left {C : List Int} {u : Nat} {A B : List Int} (h : Aes C u (A ++ B)) : Aes C u A := by
 refine ⟨by have := h.1; simp at this; omega, fun j v hv => h.2 j v ?_⟩
 rw [List.getElem?_append_left (by
  rcases Nat.lt_or_ge j A.length with h | h
  ·exact h
  ·rw [List.getElem?_eq_none h] at hv; cases hv)]
 exact hv
theorem Aes.right {C : List Int} {u : Nat} {A B : List Int} (h : Aes C u (A ++ B)) : Aes C (u + A.length) B := by
 refine ⟨by have := h.1; simp at this; omega, fun j v hv => ?_⟩
 rw [show u + A.length + 1 + j = u + 1 + (A.length + j) by omega]
 refine h.2 _ v ?_
 rw [List.getElem?_append_right (by omega), show A.length + j - A.length = j by omega]
 exact hv
structure Ayw (t : Tr) (w : Int) (L : List Int) (l : List Pr) (u : Nat) : Prop where
 word : t.word = w
 fits : t.fits l
 ok : ∀ C, Aes C u L -> t.ok C
 adr : ∀ i ∈ t.adrs, u + 1 <= i /\ i <= u + L.length
 nodup : t.adrs.Nodup
theorem Ajw : ∀ (f : Nat) (l : List Pr) (u : Nat), l.length < f -> l.length <= 120 -> Ayw (Af0 f l u) (Abc f l u).1 (Abc f l u).2 l u
 | 0, l, u, hf, _ => by omega
 | f + 1, l, u, hf, hl => by
  by_cases h2 : 2 <= l.length
  ·have pn := Ac7 h2 hl
   have d2 := pn.deg2
   have key : ∀ i, i <= Aar l.length -> (Afh (Af0 f) (Abc f) l u i).length = i /\ (Aay (Abc f) l u i).1 = (Afh (Af0 f) (Abc f) l u i).map Tr.word /\ Amg (Afh (Af0 f) (Abc f) l u i) l 0 /\ (∀ C, Aes C u (Aay (Abc f) l u i).2 -> oks C (Afh (Af0 f) (Abc f) l u i)) /\
     (∀ j ∈ Aak (Afh (Af0 f) (Abc f) l u i), u + 1 <= j /\ j <= u + (Aay (Abc f) l u i).2.length) /\ (Aak (Afh (Af0 f) (Abc f) l u i)).Nodup := by
    intro i
    induction i with
    | zero => intro _; exact ⟨rfl, rfl, trivial, fun _ _ => trivial, by simp [Afh, Aak], by simp [Afh, Aak]⟩
    | succ i ih =>
     intro hi
     obtain ⟨k1, k2, k3, k4, k5, k6⟩ := ih (by omega)
     have hp := Abu h2 hl (i := i) (by omega)
     have hless := pn.less i (by omega)
     have s := Ajw f (Aaq l i) (u + (Aay (Abc f) l u i).2.length) (by omega) (by omega)
     simp only [Afh, Aay]
     refine ⟨by simp [k1], by simp [k2, s.word], Akn k3 (by rw [k1, Nat.zero_add]; exact s.fits), fun C hC => Alh (k4 C hC.left) (s.ok C hC.right), ?_, ?_⟩
     ·intro j hj
      rw [Ab8] at hj
      simp only [List.mem_append, Aak, List.append_nil] at hj
      rw [List.length_append]
      rcases hj with hj | hj
      ·have := k5 j hj; omega
      ·have := s.adr j hj; omega
     ·rw [Ab8, List.nodup_append]
      refine ⟨k6, by simpa [Aak] using s.nodup, fun x hx y hy e => ?_⟩
      simp only [Aak, List.append_nil] at hy
      have h1 := k5 x hx
      have h2 := s.adr y hy
      omega
   obtain ⟨k1, k2, k3, k4, k5, k6⟩ := key (Aar l.length) (Nat.le_refl _)
   rw [Axo h2, Afo h2]
   generalize hks : Aay (Abc f) l u (Aar l.length) = ks at k2 k4 k5
   generalize hcs : Afh (Af0 f) (Abc f) l u (Aar l.length) = cs at k1 k2 k3 k4 k5 k6
   have kl := Ac0 l (Aar l.length)
   have wl : ks.1.length = Aar l.length := by rw [k2]; simp [k1]
   refine ⟨?_, ?_, ?_, ?_, ?_⟩
   ·show (((u + ks.2.length + 1 : Nat) : Int)) * 8 + 3 = _
    simp
   ·exact ⟨⟨h2, hl⟩, ⟨rfl, rfl, rfl, rfl⟩, rfl, k1, k3⟩
   ·intro C hC
    have hr := hC.right
    have hrl := hr.1
    simp only [List.length_append, List.length_cons, List.length_nil, kl, wl] at hrl
    have ha : ∀ (j : Nat) (v : Int), ([(Aar l.length : Int), (l.length : Int), 0, 0, 0] ++ Acl l (Aar l.length) ++ ks.1)[j]? = some v -> at0 C (u + ks.2.length + 1 + j) = v := hr.2
    refine ⟨⟨by omega, by omega, by omega, by omega⟩, ⟨?_, ?_, ?_, ?_, ?_⟩, .inl rfl, ⟨by omega, by omega⟩, ?_, ?_, k4 C hC.left⟩
    ·rw [k1]; exact ha 0 _ rfl
    ·exact ha 1 _ rfl
    ·exact ha 2 _ rfl
    ·exact ha 3 _ rfl
    ·exact ha 4 _ rfl
    ·intro i hi
     rw [show u + ks.2.length + 1 + 5 + i = u + ks.2.length + 1 + (5 + i) by omega]
     refine ha (5 + i) _ ?_
     rw [List.append_assoc, List.getElem?_append_right (by simp), List.getElem?_append_left (by simp; omega)]
     have e : 5 + i - [(Aar l.length : Int), (l.length : Int), 0, 0, 0].length = i := by simp
     rw [e, List.getElem?_eq_getElem hi]
    ·intro i hi
     rw [show u + ks.2.length + 1 + 4 + cs.length + i = u + ks.2.length + 1 + (4 + cs.length + i) by omega]
     refine ha (4 + cs.length + i) _ ?_
     have hln : ([(Aar l.length : Int), (l.length : Int), 0, 0, 0] ++ Acl l (Aar l.length)).length = 4 + cs.length := by simp [kl]; omega
     rw [List.getElem?_append_right (by omega), hln, k2, show 4 + cs.length + i - (4 + cs.length) = i by omega, List.getElem?_map, List.getElem?_eq_getElem hi]
     rfl
   ·intro i hi
    simp only [Tr.adrs, List.mem_append, List.mem_range'_1, k1] at hi
    simp only [List.length_append, List.length_cons, List.length_nil, kl, wl]
    rcases hi with hi | hi
    ·omega
    ·have := k5 i hi; omega
   ·show (List.range' _ _ ++ Aak cs).Nodup
    rw [List.nodup_append]
    refine ⟨List.nodup_range', k6, fun x hx y hy e => ?_⟩
    simp only [List.mem_range'_1] at hx
    have := k5 y hy
    omega
  ·match l, h2 with
   | [], _ => exact ⟨rfl, rfl, fun C hC => ⟨by simp, by have := hC.1; simp [Abc] at this; exact this⟩, by simp [Af0, Tr.adrs, Abc], by simp [Af0, Tr.adrs]⟩
   | [p], _ => exact ⟨rfl, rfl, fun C hC => ⟨by simp, by have := hC.1; simp [Abc] at this; omega, hC.2 0 _ rfl, hC.2 1 _ rfl⟩, by simp [Af0, Tr.adrs, Abc], by simp [Af0, Tr.adrs]⟩
   | _ :: _ :: _, h2 => simp at h2
section
variable (hT : Aa0 P tab) (H : Has tab)
include hT H
theorem Axp {h : Aac} {u : Option Nat} {l : List Pr} (o : Abh h u 2 l.length (Ady l)) (ha : Asc l) (hl : l.length < 10000) (k x : Int) :
  Aah P 33 [Aal u l.length, I k, I x] h fun v h' => (∃ l' y, v = Aal (some y) l'.length /\ Abh h' (some y) 2 l'.length (Ady l') /\ Asc l' /\ l'.length <= l.length + 1 /\ h.nq <= y /\ ∀ p ∈ l', p ∈ l \/ p = (k, x)) /\ Aad h h' (fun _ => False) := by
 refine Aaa hT H.f67 rfl ?_
 have pa : Asp h (Aal u l.length) l u := by
  cases u with
  | none => have := o.non rfl; exact .inl ⟨List.eq_nil_of_length_eq_zero this, none, 0, by rw [this]; rfl⟩
  | some y => exact .inr ⟨y, 0, l.length, rfl, rfl, (o.use y rfl).2.2, o.rd⟩
 obtain ⟨v0, h0, F0, ⟨n, rfl, hn, hlt, hge⟩, rfl⟩ := Au0 hT H pa (by omega) k
 simp only [SS, seval, af33]
 refine ⟨_, _, F0, ?_⟩
 simp only [SS, seval]
 generalize hh1 : h0.new ⟨[], 0, 2, true, false⟩ = h1
 have s1 : Aad h0 h1 (fun _ => False) := hh1 ▸ Aad.new
 have e1 : h1.bqs.get h0.nq = some ⟨[], 0, 2, true, false⟩ := hh1 ▸ (by rw [Aa5]; exact if_pos rfl)
 have l1 : h1.nq = h0.nq + 1 := hh1 ▸ rfl
 have o1 := o.same s1 (fun _ _ x => x)
 obtain ⟨v1, a1, b1⟩ := o1.to hn
 obtain ⟨v2, h2, z2, a2, m2, s2, z2e, _⟩ := Alr (bytes := 16) e1 (by omega) b1 (by simp [Ait]; omega) (List.all_eq_true.2 fun y hy => List.all_eq_true.1 (Agk l) y (List.mem_of_mem_take hy)) (by omega) (by omega) (by omega)
 have hcell : Abq (h2.new ⟨[I k, I x], 2, 2, true, false⟩) h2.nq 0 2 1 1 [I k, I x] := Abq.fresh h2 [I k, I x] 1 2 true false rfl
 generalize hh3 : h2.new ⟨[I k, I x], 2, 2, true, false⟩ = h3 at hcell
 have s3 : Aad h2 h3 (fun _ => False) := hh3 ▸ Aad.new
 obtain ⟨z4, h4, a4, o4, s4, z4e⟩ := A3w (bytes := 16) (m2.same s3 (fun x => x)) hcell.src rfl rfl (by omega) (by omega) (by omega) (by omega)
 have n2 := s2.nq
 have n3 := s3.nq
 have n4 := s4.nq
 have zf : h0.nq <= z2 := by omega
 have zf4 : h0.nq <= z4 := by omega
 have sa : Aad h0 h3 (fun _ => False) := (s1.trans s2 (fun _ _ x => x)).trans s3 (fun _ _ x => x)
 have sb : Aad h0 h4 (fun _ => False) := sa.trans s4 (fun j hj e => by omega)
 have ob := o.same sb (fun _ _ x => x)
 have fin : ∀ n', n <= n' -> n' <= l.length -> (∀ j (hj : j < l.length), n' <= j -> k < l[j].1) -> ∃ v5, slV h4 2 (Aal u l.length) (some (I n')) none = some v5 /\ ∃ u6 h6, Aqv h4 2 16 (Aal (some z4) (n + 1)) v5 = some (Aal u6 (n + 1 + (l.length - n')), h6) /\
   (∃ l' y, Aal u6 (n + 1 + (l.length - n')) = Aal (some y) l'.length /\ Abh h6 (some y) 2 l'.length (Ady l') /\ Asc l' /\ l'.length <= l.length + 1 /\ h0.nq <= y /\ ∀ p ∈ l', p ∈ l \/ p = (k, x)) /\ Aad h0 h6 (fun _ => False) := by
  intro n' hn1 hn2 hgt
  obtain ⟨v5, a5, b5⟩ := ob.from hn2
  obtain ⟨u6, h6, a6, o6, s6, u6e⟩ := Ad5 (bytes := 16) o4 b5 (by simp [Ait]; omega) (List.all_eq_true.2 fun y hy => List.all_eq_true.1 (Agk l) y (List.mem_of_mem_drop hy)) (by omega) (by omega) (by omega)
  refine ⟨v5, a5, u6, h6, a6, ?_, sb.trans s6 (fun j hj e => by cases e; omega)⟩
  cases hu : u6 with
  | none => have := o6.non hu; omega
  | some y =>
   rw [hu] at o6
   have e : (l.take n ++ [(k, x)] ++ l.drop n').length = n + 1 + (l.length - n') := by simp; omega
   have ef : Ady (l.take n ++ [(k, x)] ++ l.drop n') = (Ady l).take (n * 2) ++ [I k, I x] ++ (Ady l).drop (n' * 2) := by rw [Ah2, Ah2, Aha, Ag6]; rfl
   refine ⟨l.take n ++ [(k, x)] ++ l.drop n', y, by rw [e], by rw [e, ef]; exact o6, A3y ha hlt hn hgt, by rw [e]; omega, ?_, ?_⟩
   ·rcases u6e y hu with e2 | e2
    ·cases e2; omega
    ·omega
   ·intro p hp
    simp only [List.mem_append, List.mem_singleton] at hp
    rcases hp with (hp | hp) | hp
    ·exact .inl (List.mem_of_mem_take hp)
    ·exact .inr hp
    ·exact .inl (List.mem_of_mem_drop hp)
 have wn : Aan .i64 ((n : Int) + 1) = ((n + 1 : Nat) : Int) := by rw [Aav] <;> omega
 simp only [SS, seval, a1, a2, hh3, a4]
 by_cases c1 : n < l.length
 ·have ci : ((n : Int) < l.length) = True := by simp [c1]
  obtain ⟨y, rfl⟩ : ∃ y, u = some y := by
   cases u with
   | none => have := o.non rfl; omega
   | some y => exact ⟨y, rfl⟩
  have rk : h4.rd y (n * 2) = some (I l[n].1) := by
   have := ob.rd.rd (i := n * 2) (by omega)
   rw [Nat.zero_add] at this
   rw [this]; exact Afs l n c1
  by_cases c2 : l[n].1 = k
  ·have c3 : (l[n].1 == k) = true := by rw [c2]; simp
   obtain ⟨v5, a5, u6, h6, a6, hp, s6⟩ := fin (n + 1) (by omega) (by omega) (fun j hj hj2 => by rw [<- c2]; exact A21 ha n j (by omega) hj)
   simp only [Aal, Option.map_some] at a5 a6
   simp only [SS, seval, Aal, Option.map_some, ci, rk, c3, wn, a5, a6]
   rw [Aab h0 h6 s6.mq]
   exact ⟨hp, s6⟩
  ·have c3 : (l[n].1 == k) = false := by simp [c2]
   have hgt : ∀ j (hj : j < l.length), n <= j -> k < l[j].1 := fun j hj hj2 => by
    have h1 := hge c1
    by_cases e : j = n
    ·subst e; omega
    ·have := A21 ha n j (by omega) hj; omega
   obtain ⟨v5, a5, u6, h6, a6, hp, s6⟩ := fin n (Nat.le_refl _) hn hgt
   simp only [Aal, Option.map_some] at a5 a6
   simp only [SS, seval, Aal, Option.map_some, ci, rk, c3, a5, a6]
   rw [Aab h0 h6 s6.mq]
   exact ⟨hp, s6⟩
 ·have ci : ((n : Int) < l.length) = False := by simp; omega
  obtain ⟨v5, a5, u6, h6, a6, hp, s6⟩ := fin n (Nat.le_refl _) hn (fun j hj hj2 => by omega)
  simp only [SS, seval, ci, a5, a6]
  rw [Aab h0 h6 s6.mq]
  exact ⟨hp, s6⟩
theorem Ar6 {h : Aac} {v : Value} {L : List Int} (a : (L = [] /\ ∃ base cap, v = .slice base 0 cap) \/ ∃ x p cap, v = .slice (some ⟨x, p, none⟩) L.length cap /\ Abq h x p 1 L.length cap (L.map I)) :
  Aah P 6 [v] h fun v h' => (∃ l u, v = Aal u l.length /\ Abh h' u 2 l.length (Ady l) /\ Asc l /\ l.length <= 60 /\ (∀ y, u = some y -> h.nq <= y) /\ ∀ p ∈ l, -1000 <= p.1 /\ p.1 <= 1000) /\ Aad h h' (fun _ => False) := by
 refine Aaa hT H.f33 rfl ?_
 have hv : ∃ base cap, v = .slice base L.length cap := by
  rcases a with ⟨rfl, base, cap, rfl⟩ | ⟨x, p, cap, rfl, _⟩ <;> exact ⟨_, _, rfl⟩
 simp only [af6, Ant, Ar0, Ai1, Asu, Ab1, Akj, o_p, A57, Apc, pop, Aee, ev, Aci, Ad1, Int.reduceNeg]
 refine Ac6 (fun m ts h' => ∃ (i : Nat) (l : List Pr) (u : Option Nat), m = 60 - i /\ i <= 60 /\ l.length <= i /\ look ts 0 = v /\ look ts 3 = Aal u l.length /\ look ts 4 = I i /\ Abh h' u 2 l.length (Ady l) /\ Asc l /\ (∀ y, u = some y -> h.nq <= y) /\ (∀ p ∈ l, -1000 <= p.1 /\ p.1 <= 1000) /\ Aad h h' (fun _ => False)) ?_ (n := 60) ⟨0, [], none, rfl, by omega, by simp, by simp only [SS, seval], by simp only [SS, seval] <;> rfl, by simp only [SS, seval] <;> rfl, Abh.nil _ _, fun j hj => by simp at hj, by simp, by simp, Aad.refl _ _⟩
 rintro m ts h' ⟨i, l, u, rfl, i60, hli, t0, t3, t4, o, hasc, hu, hkeys, hs⟩
 obtain ⟨base, cap, hv⟩ := hv
 refine Acf ?_
 by_cases c : i < L.length /\ i < 60
 ·obtain ⟨c1, c2⟩ := c
  rcases a with ⟨rfl, _⟩ | ⟨x, p, cap', rfl, hr⟩
  ·simp at c1
  cases hv
  have ci : ((i : Int) < L.length) = True := by simp [c1]
  have ci2 : ((i : Int) < 60) = True := by simp; omega
  have rk : h'.rd x (p + i) = some (I L[i]) := by
   rw [(hr.same hs (fun x => x)).rd (by omega)]; simp [c1]
  obtain ⟨v1, h1, F1, rfl, rfl⟩ := Atb hT H h' L[i] 97 (by omega) (by omega)
  have em := Int.emod_nonneg L[i] (show (97 : Int) ≠ 0 by omega)
  have el := Int.emod_lt_of_pos L[i] (show (0 : Int) < 97 by omega)
  have w40 : Aan .i64 (L[i] % 97 - 40) = L[i] % 97 - 40 := Aav (by omega) (by omega)
  have wi : Aan .i64 ((i : Int) + 1) = ((i + 1 : Nat) : Int) := by rw [Aav] <;> omega
  simp only [SS, seval, t0, t4, ci, ci2, rk]
  refine ⟨_, _, F1, ?_⟩
  simp only [SS, seval, t3, t4, w40]
  obtain ⟨v2, h2, F2, ⟨l', y, rfl, o', hasc', hl', hy, hky⟩, s2⟩ := Axp hT H o hasc (by omega) (L[i] % 97 - 40) i
  refine ⟨_, _, F2, ?_⟩
  simp only [SS, seval, t0, t3, t4, wi]
  have n1 := hs.nq
  refine ⟨60 - (i + 1), by omega, i + 1, l', some y, rfl, by omega, by omega, rfl, rfl, o', hasc', (fun z hz => by cases hz; omega), (fun p hp => (hky p hp).elim (hkeys p) (fun e => by rw [e]; constructor <;> (show _ <= _) <;> simp only [] <;> omega)), hs.trans s2 (fun _ _ x => x)⟩
 ·subst hv
  by_cases c1 : i < L.length
  ·have ci : ((i : Int) < L.length) = True := by simp [c1]
   have ci2 : ((i : Int) < 60) = False := by simp; omega
   simp only [SS, seval, t0, t3, t4, ci, ci2]
   rw [Aab h h' hs.mq]
   exact ⟨⟨l, u, rfl, o, hasc, by omega, hu, hkeys⟩, hs⟩
  ·have ci : ((i : Int) < L.length) = False := by simp; omega
   simp only [SS, seval, t0, t3, t4, ci]
   rw [Aab h h' hs.mq]
   exact ⟨⟨l, u, rfl, o, hasc, by omega, hu, hkeys⟩, hs⟩
end
theorem Alg {n i : Nat} (h1 : 7 <= i) (h2 : i <= n) : (A0f n)[i]? = some false := by
 unfold A0f
 rw [Afm (by simp; omega), if_neg (by omega)]
 simp [show i < n + 1 by omega]
theorem Ax8 {L : List Int} {l : List Pr} {t : Tr} {w : Int} (S : Ayw t w L l 7) (hl : l.length <= 120) (ha : Asc l) (hk : ∀ p ∈ l, -1000 <= p.1 /\ p.1 <= 1000) (hL : L.length <= 60000) : Ah6 ([1, 0, 0, 0, 0, w, 0] ++ L) t := by
 have hlen : ([1, 0, 0, 0, 0, w, 0] ++ L).length = 7 + L.length := by simp; omega
 refine ⟨⟨by omega, by omega⟩, ⟨rfl, rfl⟩, S.word.symm, S.ok _ ⟨by omega, fun j v hv => ?_⟩, ?_, Ar7 _ _ (fun i hi => ?_) S.nodup, Aua t l S.fits hl⟩
 ·unfold at0
  rw [if_neg (by omega), show 7 + 1 + j - 1 = 7 + j by omega, List.getElem?_append_right (by simp)]
  simp [hv]
 ·exact Asw t l _ _ S.fits ha (fun p hp => by have := hk p hp; omega)
 ·have := S.adr i hi
  exact Alg (by omega) (by omega)
def Axs (C : List Int) (L : List Nat) : List Int := L.foldl (fun C a => C.set (a + 2) 1) C
theorem Atx (C : List Int) (L : List Nat) : (Axs C L).length = C.length := by
 induction L generalizing C with
 | nil => rfl
 | cons a L ih => show (Axs (C.set (a + 2) 1) L).length = _; rw [ih, List.length_set]
def Far (a b : Nat) : Prop := a + 5 <= b \/ b + 5 <= a
structure Way (C : List Int) (L : List Nat) : Prop where
 cell : ∀ a ∈ L, 1 <= a /\ a + 4 <= C.length /\ at0 C (a + 3) = 0 /\ 0 <= at0 C (a + 1) /\ at0 C (a + 1) <= 120
 dis : L.Pairwise Far
theorem Aj0 {C : List Int} {x y : Nat} {v : Int} (hx : 1 <= x) (hy : 1 <= y) (hl : x <= C.length) : at0 (C.set (x - 1) v) y = if y = x then v else at0 C y := by
 have e1 : ∀ D : List Int, at0 D y = (D[y - 1]?).getD 0 := fun D => by unfold at0; rw [if_neg (by omega)]
 rw [e1, e1, List.getElem?_set]
 by_cases e : y = x
 ·subst e
  rw [if_pos rfl, if_pos (by omega), if_pos rfl]; rfl
 ·rw [if_neg (by omega), if_neg e]
theorem Azn {C : List Int} : ∀ {L : List Nat} {y : Nat}, 1 <= y -> (∀ a ∈ L, 1 <= a /\ a + 4 <= C.length) -> (∀ a ∈ L, y ≠ a + 3) -> at0 (Axs C L) y = at0 C y := by
 intro L
 induction L generalizing C with
 | nil => intro y _ _ _; rfl
 | cons a L ih =>
  intro y hy h1 h2
  have ha := h1 a (by simp)
  show at0 (Axs (C.set (a + 2) 1) L) y = _
  rw [ih hy (fun b hb => by rw [List.length_set]; exact h1 b (List.mem_cons_of_mem _ hb)) (fun b hb => h2 b (List.mem_cons_of_mem _ hb))]
  rw [show a + 2 = (a + 3) - 1 by omega, Aj0 (by omega) hy (by omega), if_neg (h2 a (by simp))]
theorem Way.nq {C : List Int} {A : List Nat} {a : Nat} {B : List Nat} (w : Way C (A ++ a :: B)) : 1 <= a /\ a + 4 <= (Axs C A).length /\ at0 (Axs C A) (a + 3) = 0 /\ at0 (Axs C A) (a + 1) = at0 C (a + 1) /\ 0 <= at0 C (a + 1) /\ at0 C (a + 1) <= 120 /\ at0 ((Axs C A).set (a + 2) 1) (a + 1) = at0 C (a + 1) := by
 obtain ⟨h1, h2, h3, h4, h5⟩ := w.cell a (by simp)
 have hA : ∀ b ∈ A, 1 <= b /\ b + 4 <= C.length := fun b hb => by have := w.cell b (by simp [hb]); exact ⟨this.1, this.2.1⟩
 have hf : ∀ b ∈ A, Far b a := fun b hb => (List.pairwise_append.1 w.dis).2.2 b hb a (by simp)
 have e3 : at0 (Axs C A) (a + 3) = 0 := by rw [Azn (by omega) hA (fun b hb => by have := hf b hb; unfold Far at this; omega)]; exact h3
 have e1 : at0 (Axs C A) (a + 1) = at0 C (a + 1) := Azn (by omega) hA (fun b hb => by have := hf b hb; unfold Far at this; omega)
 refine ⟨h1, by rw [Atx]; exact h2, e3, e1, h4, h5, ?_⟩
 rw [show a + 2 = (a + 3) - 1 by omega, Aj0 (by omega) (by omega) (by rw [Atx]; omega), if_neg (by omega), e1]
structure A4k (C : List Int) (L : List Nat) (t : Tr) (l : List Pr) : Prop where
 way : Way C L
 ok : t.ok C
 fits : t.fits l
 len : l.length <= 120
 nodup : t.adrs.Nodup
 far : ∀ a ∈ L, ∀ x ∈ t.adrs, x < a \/ a + 5 <= x
theorem Acj : ∀ {cs : List Tr} {i : Nat} (h : i < cs.length) {x : Nat}, x ∈ cs[i].adrs -> x ∈ Aak cs
 | t :: cs, 0, _, x, hx => by simp only [Aak, List.mem_append]; exact .inl hx
 | t :: cs, i + 1, h, x, hx => by simp only [Aak, List.mem_append]; exact .inr (Acj (by simpa using h) (by simpa using hx))
theorem Adl : ∀ {cs : List Tr} {i : Nat} (h : i < cs.length), (Aak cs).Nodup -> cs[i].adrs.Nodup
 | t :: cs, 0, _, n => by
  simp only [Aak, List.nodup_append] at n
  exact n.1
 | t :: cs, i + 1, h, n => by
  simp only [Aak, List.nodup_append] at n
  have := Adl (by simpa using h) n.2.1
  simpa using this
theorem A4k.step {C : List Int} {L : List Nat} {a : Nat} {sz sh ch sm : Int} {ks : List Int} {cs : List Tr} {l : List Pr} (w : A4k C L (.inner a sz sh ch sm ks cs) l) {k : Nat} (hk : k < cs.length) :
  A4k C (L ++ [a]) cs[k] (Aaq l k) /\ (1 <= a /\ a + (2 * cs.length + 4) <= C.length + 1 /\ 2 <= cs.length /\ cs.length <= 11) /\ at0 C a = cs.length /\ at0 C (a + 4 + cs.length + k) = cs[k].word := by
 obtain ⟨⟨q1, q2, q3, q4⟩, ⟨p0, p1, p2, p3, p4⟩, hsh, hsz, hks, hcs, hoks⟩ := w.ok
 obtain ⟨⟨h2, h120⟩, ⟨e1, e2, e3, e4⟩, e5, e6, e7⟩ := w.fits
 have pn := Ac7 h2 h120
 have d11 := pn.deg11
 have hnd := w.nodup
 simp only [Tr.adrs, List.nodup_append] at hnd
 obtain ⟨_, hn2, hn3⟩ := hnd
 have hless := pn.less k (by omega)
 have hp := Abu h2 h120 (i := k) (by omega)
 have hin : ∀ y, a <= y -> y < a + (2 * cs.length + 4) -> y ∈ (Tr.inner a sz sh ch sm ks cs).adrs := fun y h1 h2 => by
  simp only [Tr.adrs, List.mem_append, List.mem_range'_1]; exact .inl ⟨h1, h2⟩
 have hfar : ∀ b ∈ L, Far b a := fun b hb => by
  have f1 := w.far b hb a (hin a (Nat.le_refl _) (by omega))
  have f2 := w.far b hb (a + 1) (hin _ (by omega) (by omega))
  have f3 := w.far b hb (a + 2) (hin _ (by omega) (by omega))
  have f4 := w.far b hb (a + 3) (hin _ (by omega) (by omega))
  have f5 := w.far b hb (a + 4) (hin _ (by omega) (by omega))
  unfold Far; omega
 refine ⟨⟨⟨fun b hb => ?_, ?_⟩, Ad4 hoks k hk, by simpa using Ad0 e7 k hk, by omega, Adl hk hn2, fun b hb x hx => ?_⟩, ⟨q1, q2, by omega, by omega⟩, p0, hcs k hk⟩
 ·rcases List.mem_append.1 hb with hb | hb
  ·exact w.way.cell b hb
  ·have : b = a := by simpa using hb
   subst this
   exact ⟨q1, by omega, by rw [p3]; exact e3, by rw [p1, e1]; omega, by rw [p1, e1]; omega⟩
 ·rw [List.pairwise_append]
  exact ⟨w.way.dis, by simp, fun b hb c hc => by
   have : c = a := by simpa using hc
   subst this; exact hfar b hb⟩
 ·rcases List.mem_append.1 hb with hb | hb
  ·refine w.far b hb x ?_
   simp only [Tr.adrs, List.mem_append]
   exact .inr (Acj hk hx)
  ·have : b = a := by simpa using hb
   subst this
   have := hn3 x
   by_cases c : b <= x /\ x < b + (2 * cs.length + 4)
   ·exact (hn3 x (List.mem_range'_1.2 c) x (Acj hk hx) rfl).elim
   ·omega
structure A2i (tab : Nat -> Option Aae) : Prop where
 tsmall : tab 5 = some af5
theorem A9e : A2i tabT.get := ⟨by kernel_rfl⟩
abbrev En := Int × Int × Int
def A3i : List En -> List Value
 | [] => []
 | e :: l => I e.1 :: I e.2.1 :: I e.2.2 :: A3i l
structure A3q (h : Aac) (b : Nat) (E : List En) (uy : Option Nat) (nx : Int) (i : Nat) (was : Int) : Prop where
 blk : ∃ sl, h.bqs.get b = some ⟨[I nx, sl, I i, I was, I (-1), .pointer none], 6, 6, true, false⟩ /\ Adx h sl 3 E.length (A3i E) uy
 lt : b < h.nq
 ub : uy ≠ some b
 ul : ∀ y, uy = some y -> y < h.nq
theorem A3q.same {h h' : Aac} {b : Nat} {E : List En} {uy : Option Nat} {nx was : Int} {i : Nat} {S : Nat -> Prop} (t : A3q h b E uy nx i was) (s : Aad h h' S) (hS : ∀ j, cl b uy j -> ¬ S j) : A3q h' b E uy nx i was := by
 obtain ⟨sl, e1, e2⟩ := t.blk
 exact ⟨⟨sl, by rw [s.get b t.lt (hS b (.inl rfl))]; exact e1, e2.same s (fun y hy => hS y (.inr hy))⟩, Nat.lt_of_lt_of_le t.lt s.nq, t.ub, fun y hy => Nat.lt_of_lt_of_le (t.ul y hy) s.nq⟩
theorem A3q.set {h : Aac} {b : Nat} {E : List En} {uy : Option Nat} {nx was : Int} {i : Nat} (t : A3q h b E uy nx i was) (nx' was' : Int) (i' : Nat) : ∃ sl, h.bqs.get b = some ⟨[I nx, sl, I i, I was, I (-1), .pointer none], 6, 6, true, false⟩ /\ A3q (h.setB b ⟨[I nx', sl, I i', I was', I (-1), .pointer none], 6, 6, true, false⟩) b E uy nx' i' was' := by
 obtain ⟨sl, e1, e2⟩ := t.blk
 have s : Aad h (h.setB b ⟨[I nx', sl, I i', I was', I (-1), .pointer none], 6, 6, true, false⟩) (· = b) := Aad.setB rfl
 exact ⟨sl, e1, ⟨sl, by rw [Aaz, if_pos rfl], e2.same s (fun y hy e => t.ub (by rw [hy, e]))⟩, t.lt, t.ub, t.ul⟩
section
variable (hT : Aa0 P tab) (HT : A2i tab)
include hT HT
end
section
variable (hT : Aa0 P tab) (HT : A2i tab)
include hT HT
variable (V : Aea tab) (H : Has tab) (V9 : Acg tab) (HM : Agf tab)
include V H V9 HM
end
theorem PM.get_at0 (m : PM) (k : Nat) : m.get (k : Int) = at0 m.C k := by
 unfold PM.get at0
 by_cases h0 : k = 0
 ·subst h0
  rw [if_pos rfl, if_neg (fun e => by have := e.1; omega)]
 ·rw [if_neg h0]
  by_cases h1 : m.isin (k : Int)
  ·rw [if_pos h1, show ((k : Int) - 1).toNat = k - 1 by omega]
  ·rw [if_neg h1]
   have : m.C.length <= k - 1 := by
    rcases Nat.lt_or_ge (k - 1) m.C.length with h | h
    ·exact (h1 ⟨by omega, by omega⟩).elim
    ·exact h
   rw [List.getElem?_eq_none this]; rfl
theorem PM.tick_in {m : PM} {a : Int} (h : m.isin a) : m.tick a = { m with c := m.c + 1 } := by
 unfold PM.tick; rw [if_pos h]
theorem A5r {α : Type} {L : List α} {j : Nat} (h : j < L.length) : L.take (j + 1) = L.take j ++ [L[j]] := by
 rw [List.take_add_one, List.getElem?_eq_getElem h]; rfl
theorem Ali {n : Nat} (h : n <= 60) : Abf n <= 1100 := by
 by_cases h2 : 2 <= n
 ·exact (Ac7 h2 (by omega)).most
 ·have : n = 0 \/ n = 1 := by omega
  rcases this with e | e
  ·rw [e, Am1]; omega
  ·rw [e, Ate]; omega
section
variable (hT : Aa0 P tab) (HT : A2i tab)
include hT HT
theorem Av6 (H : Has tab) (V9 : Acg tab) (Nu : Num P) {h : Aac} {v : Value} {l : List Pr} {u : Option Nat} (z : Nat) (hz1 : 1200 <= z) (hz2 : z <= 65536) (a : Asp h v l u) (hasc : Asc l) (hl : l.length <= 60) (ul : ∀ y, u = some y -> y < h.nq) :
  Aah P 5 [I z, v] h fun v' h' => ∃ (t : Tr) (L : List Int) (b x : Nat) (c : Int), v' = .tuple #[(pp b), I t.word] /\ Ayw t t.word L l 7 /\ L.length <= 1100 /\ Aa8 h' b (some x) ⟨[1, 0, 0, 0, 0, t.word, 0] ++ L, z, c, 0, 0⟩ /\ (0 <= c /\ c <= 1200) /\ (∀ j, cl b (some x) j -> h.nq <= j) /\ Aad h h' (fun _ => False) := by
 refine Aaa hT HT.tsmall rfl ?_
 obtain ⟨_, h2, F2, rfl, m2, s2⟩ := A06 hT H h z (by omega) (by omega)
 have x2 := s2.nq
 have hb1 := m2.lt
 obtain ⟨_, h3, F3, rfl, ⟨u3, m3, n3⟩, s3⟩ := Au9 hT H V9 m2 (by omega) (by omega) ⟨by omega, by omega⟩
 have x3 := s3.nq
 have s13 : Aad h h3 (fun _ => False) := s2.trans s3 (fun j hj e => by omega)
 have hcm := Ali hl
 have hu3 : ∀ y, u3 = some y -> h.nq <= y := fun y hy => by have := n3 y hy; omega
 obtain ⟨v4, h4, F4, hb⟩ := Avu hT H Nu (a.same s13 (fun _ _ x => x)) (by omega) m3 (fun e => by have := ul _ e; omega) (fun y hy e => by have := ul y hy; have := hu3 y e; omega) (by simp; omega) (by omega) (by omega) (by omega)
 have S := Ajw (l.length + 1) l 7 (by omega) (by omega)
 have hLl : (Abc (l.length + 1) l 7).2.length = Abf l.length := Agi _ _ _ (by omega) (by omega)
 have e7 : ([1, 0, 0, 0, 0, 57, 0] : List Int).length = 7 := rfl
 rw [e7] at hb
 rcases hb with ⟨rfl, _, hroom, ⟨u4, c4, m4, c41, c42, n4⟩, s4⟩ | ⟨rfl, hno, rfl⟩
 rotate_left
 ·exact (hno ⟨hasc, by simp; omega⟩).elim
 generalize (Abc (l.length + 1) l 7).1 = w at S F4
 generalize (Abc (l.length + 1) l 7).2 = LL at S m4 hLl
 generalize Af0 (l.length + 1) l 7 = t at S
 obtain rfl := S.word
 have x4 := s4.nq
 obtain ⟨x, rfl⟩ : ∃ y, u4 = some y := by
  cases u4 with
  | none => have := m4.non rfl; simp at this
  | some y => exact ⟨y, rfl⟩
 have hxx : h.nq <= x := by
  rcases n4 x rfl with e | e
  ·exact hu3 x e
  ·omega
 have s14 : Aad h h4 (fun _ => False) := s13.trans s4 (fun j hj e => by
  rcases e with e | e
  ·omega
  ·have := hu3 _ e; omega)
 have hC4 : ([1, 0, 0, 0, 0, 57, 0] ++ LL).length = 7 + Abf l.length := by simp [hLl]; omega
 obtain ⟨_, h5, F5, m5, s5⟩ := Auo hT V9 m4 ⟨by omega, by omega⟩ (a := 6) (by omega) (by omega) (by omega) t.word
 have eset : ([1, 0, 0, 0, 0, 57, 0] ++ LL).set (6 - 1) t.word = [1, 0, 0, 0, 0, t.word, 0] ++ LL := rfl
 rw [eset] at m5
 have s15 : Aad h h5 (fun _ => False) := s14.trans s5 (fun j hj e => by omega)
 simp only [SV, SS, seval, af5]
 refine ⟨_, _, F2, ?_⟩
 simp only [SV, SS, seval]
 refine ⟨_, _, F3, ?_⟩
 simp only [SV, SS, seval]
 refine ⟨_, _, F4, ?_⟩
 simp only [SV, SS, seval]
 refine ⟨_, _, F5, ?_⟩
 simp only [SV, SS, seval]
 rw [Aab h h5 s15.mq]
 exact ⟨t, LL, h.nq, x, c4 + 1, rfl, S, by omega, m5, ⟨by omega, by omega⟩, fun j hj => hj.elim (fun e => by omega) (fun e => by cases e; exact hxx), s15⟩
end
structure TyI (h1 h : Aac) (bm xm bf : Nat) (E : List En) (L : List Nat) (C : List Int) (z : Int) (j : Nat) (mid : Bool) : Prop where
 ex : ∃ (uy : Option Nat) (was c : Int), A3q h bf E uy (if mid then 1 else if j < E.length then 0 else 3) j was /\ (mid = true -> was = 0 /\ j < E.length) /\ Aa8 h bm (some xm) ⟨Axs C (L.take (if mid then j + 1 else j)), z, c, 0, 0⟩ /\ (0 <= c /\ c <= 2000 + 2 * j + (if mid then 1 else 0)) /\ (∀ y, cl bf uy y -> ¬ cl bm (some xm) y) /\ (∀ y, cl bf uy y -> h1.nq <= y)
 le : j <= E.length
 same : Aad h1 h (cl bm (some xm))
section
variable (hT : Aa0 P tab) (HT : A2i tab) (V : Aea tab) (H : Has tab) (V9 : Acg tab) (HM : Agf tab)
include hT HT V H V9 HM
end
def Abg (l : List Pr) : Nat := if l.length < 2 then 0 else Aar l.length
def Adj (l : List Pr) : Int := if l.length = 0 then 1 else if l.length = 1 then 2 else 3
def Afb (l : List Pr) (ch : List Int) : List Int := match l with
 | [] => [0]
 | [p] => [p.1, p.2]
 | l => [(Aar l.length : Int), (l.length : Int), 0, 0, 0] ++ Acl l (Aar l.length) ++ ch
def Ais (o : List Pr -> List (List Pr)) (l : List Pr) : Nat -> List (List Pr)
 | 0 => []
 | i + 1 => Ais o l i ++ o (Aaq l i)
def Adr : Nat -> List Pr -> List (List Pr)
 | 0, _ => []
 | f + 1, l => Ais (Adr f) l (Abg l) ++ [l]
def gstep (st : List Int × List Int) (l : List Pr) : List Int × List Int :=
 (st.1 ++ Afb l (st.2.drop (st.2.length - Abg l)), st.2.take (st.2.length - Abg l) ++ [((st.1.length : Int) + 1) * 8 + Adj l])
def Ac1 (st : List Int × List Int) (ls : List (List Pr)) : List Int × List Int := ls.foldl gstep st
theorem Ahf (st : List Int × List Int) (a b : List (List Pr)) : Ac1 st (a ++ b) = Ac1 (Ac1 st a) b := List.foldl_append
theorem Aqk (st : List Int × List Int) (l : List Pr) : Ac1 st [l] = gstep st l := rfl
theorem Alc {l : List Pr} (h : 2 <= l.length) (ch : List Int) : Afb l ch = [(Aar l.length : Int), (l.length : Int), 0, 0, 0] ++ Acl l (Aar l.length) ++ ch := by
 match l, h with
 | p :: q :: l, _ => rfl
theorem Aec {l : List Pr} (h : 2 <= l.length) : Abg l = Aar l.length := if_neg (by omega)
theorem Aju {l : List Pr} (h : 2 <= l.length) : Adj l = 3 := by unfold Adj; rw [if_neg (by omega), if_neg (by omega)]
theorem Ak7 : ∀ (f : Nat) (l : List Pr) (C W : List Int), l.length < f -> l.length <= 120 -> Ac1 (C, W) (Adr f l) = (C ++ (Abc f l C.length).2, W ++ [(Abc f l C.length).1])
 | 0, l, C, W, hf, _ => by omega
 | f + 1, l, C, W, hf, hl => by
  by_cases h2 : 2 <= l.length
  ·have pn := Ac7 h2 hl
   have key : ∀ i, i <= Aar l.length -> Ac1 (C, W) (Ais (Adr f) l i) = (C ++ (Aay (Abc f) l C.length i).2, W ++ (Aay (Abc f) l C.length i).1) := by
    intro i
    induction i with
    | zero => intro _; simp [Ais, Ac1, Aay]
    | succ i ih =>
     intro hi
     have hp := Abu h2 hl (i := i) (by omega)
     have hless := pn.less i (by omega)
     rw [Ais, Ahf, ih (by omega), Ak7 f (Aaq l i) _ _ (by omega) (by omega)]
     simp only [Aay, List.length_append, List.append_assoc]
   rw [Adr, Ahf, Aec h2, key _ (Nat.le_refl _), Aqk, Afo h2]
   have hk := Age (Abc f) l C.length (Aar l.length)
   unfold gstep
   simp only [Aec h2, Aju h2, Alc h2, List.length_append, hk, Nat.add_sub_cancel]
   rw [List.drop_left', List.take_left'] <;> try rfl
   simp [List.append_assoc]
  ·match l, h2 with
   | [], _ => simp [Adr, Abg, Ais, Ac1, gstep, Afb, Adj, Abc]
   | [p], _ => simp [Adr, Abg, Ais, Ac1, gstep, Afb, Adj, Abc]
   | _ :: _ :: _, h2 => simp at h2
def Akp : Nat -> List (List Pr) -> Prop
 | _, [] => True
 | n, l :: ls => l.length <= 120 /\ Abg l <= n /\ Akp (n - Abg l + 1) ls
theorem Akp.app : ∀ {n : Nat} {a b : List (List Pr)} {m : Nat}, Akp n a -> (∀ st : List Int × List Int, st.2.length = n -> (Ac1 st a).2.length = m) -> Akp m b -> Akp n (a ++ b)
 | n, [], b, m, _, hm, hb => by
  have := hm ([], List.replicate n 0) (by simp)
  simp [Ac1] at this
  subst this; exact hb
 | n, l :: a, b, m, ha, hm, hb => by
  obtain ⟨h1, h2, h3⟩ := ha
  refine ⟨h1, h2, Akp.app h3 (fun st hst => ?_) hb⟩
  have := hm (st.1, List.replicate n 0) (by simp)
  have e : (Ac1 st a).2.length = (Ac1 (gstep (st.1, List.replicate n 0) l) a).2.length := by
   have len : ∀ (a : List (List Pr)) (s t : List Int × List Int), s.2.length = t.2.length -> (Ac1 s a).2.length = (Ac1 t a).2.length := by
    intro a
    induction a with
    | nil => intro s t h; exact h
    | cons l a ih =>
     intro s t h
     refine ih (gstep s l) (gstep t l) ?_
     simp [gstep, h]
   refine len a _ _ ?_
   simp [gstep, hst]
  rw [e]; exact this
theorem Aw9 (f : Nat) (l : List Pr) (hf : l.length < f) (hl : l.length <= 120) (st : List Int × List Int) : (Ac1 st (Adr f l)).2.length = st.2.length + 1 := by
 have := Ak7 f l st.1 st.2 hf hl
 rw [show st = (st.1, st.2) from rfl, this]; simp
theorem A2t : ∀ (f : Nat) (l : List Pr) (n : Nat), l.length < f -> l.length <= 120 -> Akp n (Adr f l)
 | 0, l, n, hf, _ => by omega
 | f + 1, l, n, hf, hl => by
  by_cases h2 : 2 <= l.length
  ·have pn := Ac7 h2 hl
   have key : ∀ i, i <= Aar l.length -> Akp n (Ais (Adr f) l i) /\ ∀ st : List Int × List Int, st.2.length = n -> (Ac1 st (Ais (Adr f) l i)).2.length = n + i := by
    intro i
    induction i with
    | zero => intro _; exact ⟨trivial, fun st h => h⟩
    | succ i ih =>
     intro hi
     have hp := Abu h2 hl (i := i) (by omega)
     have hless := pn.less i (by omega)
     obtain ⟨h3, h4⟩ := ih (by omega)
     refine ⟨Akp.app h3 h4 (A2t f (Aaq l i) (n + i) (by omega) (by omega)), fun st hst => ?_⟩
     rw [Ais, Ahf, Aw9 f _ (by omega) (by omega), h4 st hst, Nat.add_assoc]
   obtain ⟨h3, h4⟩ := key _ (Nat.le_refl _)
   rw [Adr, Aec h2]
   refine Akp.app h3 h4 ⟨hl, ?_, trivial⟩
   rw [Aec h2]; omega
  ·have e : Adr (f + 1) l = [l] := by
    have : Abg l = 0 := if_pos (by omega)
    rw [Adr, this]; rfl
   rw [e]
   refine ⟨hl, ?_, trivial⟩
   unfold Abg; rw [if_pos (by omega)]; exact Nat.zero_le _
theorem Aqp (l : List Pr) (ch : List Int) : 1 <= (Afb l ch).length := by
 match l with
 | [] => simp [Afb]
 | [_] => simp [Afb]
 | _ :: _ :: _ => simp [Afb]
theorem Au4 (st : List Int × List Int) (l : List Pr) : st.1.length + 1 <= (gstep st l).1.length := by
 have := Aqp l (st.2.drop (st.2.length - Abg l))
 simp only [gstep, List.length_append]; omega
theorem Am3 : ∀ (ls : List (List Pr)) (st : List Int × List Int), st.1.length + ls.length <= (Ac1 st ls).1.length
 | [], st => by simp [Ac1]
 | l :: ls, st => by
  have h1 := Au4 st l
  have h2 := Am3 ls (gstep st l)
  show st.1.length + (ls.length + 1) <= (Ac1 (gstep st l) ls).1.length
  omega
theorem Aob (f : Nat) (l : List Pr) : Adr (f + 1) l ≠ [] := by simp [Adr]
theorem Ado {C C' : List Int} (hl : C.length <= C'.length) : ∀ t : Tr, (∀ a ∈ t.adrs, at0 C' a = at0 C a) -> t.ok C -> t.ok C' := by
 intro t
 induction t using Tr.ind with
 | e a => exact fun _ h => ⟨h.1, by have := h.2; omega⟩
 | l a k v => exact fun e h => ⟨h.1, by have := h.2.1; omega, by rw [e a (by simp [Tr.adrs])]; exact h.2.2.1, by rw [e (a + 1) (by simp [Tr.adrs])]; exact h.2.2.2⟩
 | i a sz sh ch sm ks cs ih =>
  intro e h
  have e' : ∀ b, b ∈ List.range' a (2 * cs.length + 4) ++ Aak cs -> at0 C' b = at0 C b := e
  obtain ⟨⟨q1, q2, q3, q4⟩, ⟨p0, p1, p2, p3, p4⟩, hsh, hsz, hks, hcs, hoks⟩ := h
  have er : ∀ b, a <= b -> b < a + (2 * cs.length + 4) -> at0 C' b = at0 C b := fun b h1 h2 => e' b (by simp [List.mem_range'_1]; omega)
  refine ⟨⟨q1, by omega, q3, q4⟩, ⟨by rw [er _ (by omega) (by omega)]; exact p0, by rw [er _ (by omega) (by omega)]; exact p1, by rw [er _ (by omega) (by omega)]; exact p2, by rw [er _ (by omega) (by omega)]; exact p3, by rw [er _ (by omega) (by omega)]; exact p4⟩, hsh, hsz, fun i hi => by rw [er _ (by omega) (by omega)]; exact hks i hi, fun i hi => by rw [er _ (by omega) (by omega)]; exact hcs i hi, ?_⟩
  have key : ∀ cs' : List Tr, (∀ c ∈ cs', c ∈ cs) -> (∀ b ∈ Aak cs', at0 C' b = at0 C b) -> oks C cs' -> oks C' cs' := by
   intro cs'
   induction cs' with
   | nil => intro _ _ _; trivial
   | cons c cs' ihc =>
    intro hm hb ho
    exact ⟨ih c (hm c (by simp)) (fun b hb' => hb b (by simp [Aak, hb'])) ho.1, ihc (fun x hx => hm x (List.mem_cons_of_mem _ hx)) (fun b hb' => hb b (by simp [Aak, hb'])) ho.2⟩
  exact key cs (fun _ h => h) (fun b hb => e' b (by simp [hb])) hoks
theorem Akx {C C' : List Int} (hl : C.length <= C'.length) : ∀ cs : List Tr, (∀ a ∈ Aak cs, at0 C' a = at0 C a) -> oks C cs -> oks C' cs
 | [], _, _ => trivial
 | c :: cs, e, h => ⟨Ado hl c (fun a ha => e a (by simp [Aak, ha])) h.1, Akx hl cs (fun a ha => e a (by simp [Aak, ha])) h.2⟩
theorem Agn {C X : List Int} {a : Nat} (h1 : 1 <= a) (h2 : a <= C.length) : at0 (C ++ X) a = at0 C a := by
 unfold at0
 rw [if_neg (by omega), if_neg (by omega), List.getElem?_append_left (by omega)]
def Awr : List Tr -> List (List Pr) -> Prop
 | [], [] => True
 | t :: ts, l :: ls => t.fits l /\ Awr ts ls
 | _, _ => False
theorem As7 : ∀ {ts : List Tr} {ls : List (List Pr)}, Awr ts ls -> ts.length = ls.length
 | [], [], _ => rfl
 | t :: ts, l :: ls, h => by simp [As7 h.2]
theorem Atk : ∀ {ts : List Tr} {ls : List (List Pr)} {t : Tr} {l : List Pr}, Awr ts ls -> t.fits l -> Awr (ts ++ [t]) (ls ++ [l])
 | [], [], t, l, _, h => ⟨h, trivial⟩
 | s :: ts, k :: ls, t, l, h, h2 => ⟨h.1, Atk h.2 h2⟩
theorem Aqq : ∀ {ts : List Tr} {ls : List (List Pr)} (n : Nat), Awr ts ls -> Awr (ts.take n) (ls.take n)
 | _, _, 0, _ => by simp [Awr]
 | [], [], n + 1, _ => trivial
 | t :: ts, l :: ls, n + 1, h => ⟨h.1, Aqq n h.2⟩
theorem Apr : ∀ {ts : List Tr} {ls : List (List Pr)} (n : Nat), Awr ts ls -> Awr (ts.drop n) (ls.drop n)
 | _, _, 0, h => h
 | [], [], n + 1, _ => trivial
 | t :: ts, l :: ls, n + 1, h => Apr n h.2
theorem As1 : ∀ {ts : List Tr} {ls : List (List Pr)} {l : List Pr} {i n : Nat}, Awr ts ls -> ls = (List.range' i n).map (Aaq l) -> Amg ts l i
 | [], _, l, i, n, _, _ => trivial
 | t :: ts, [], l, i, n, h, _ => h.elim
 | t :: ts, k :: ls, l, i, 0, h, e => by simp at e
 | t :: ts, k :: ls, l, i, n + 1, h, e => by
  rw [List.range'_succ, List.map_cons, List.cons.injEq] at e
  exact ⟨e.1 ▸ h.1, As1 h.2 e.2⟩
structure A4m (C : List Int) (Ts : List Tr) (SL : List (List Pr)) : Prop where
 fits : Awr Ts SL
 ok : oks C Ts
 adr : ∀ i ∈ Aak Ts, 8 <= i /\ i <= C.length
 nodup : (Aak Ts).Nodup
 len : 7 <= C.length
def mkT (a : Nat) (l : List Pr) (cs : List Tr) : Tr := match l with
 | [] => .empty a
 | [p] => .leaf a p.1 p.2
 | l => .inner a (l.length : Nat) 0 0 0 (Acl l (Aar l.length)) cs
theorem Awv {a : Nat} {l : List Pr} {cs : List Tr} (h : 2 <= l.length) : mkT a l cs = .inner a (l.length : Nat) 0 0 0 (Acl l (Aar l.length)) cs := by
 match l, h with
 | p :: q :: l, _ => rfl
theorem Atq {C : List Int} : ∀ {cs : List Tr} (n : Nat), oks C cs -> oks C (cs.take n)
 | _, 0, _ => by simp [oks]
 | [], n + 1, _ => trivial
 | c :: cs, n + 1, h => ⟨h.1, Atq n h.2⟩
theorem Ato {C : List Int} : ∀ {cs : List Tr} (n : Nat), oks C cs -> oks C (cs.drop n)
 | _, 0, h => h
 | [], n + 1, _ => trivial
 | c :: cs, n + 1, h => Ato n h.2
theorem A4m.step {C : List Int} {Ts : List Tr} {SL : List (List Pr)} (g : A4m C Ts SL) {l : List Pr} (hl : l.length <= 120) (hk : Abg l <= SL.length) (hv : SL.drop (SL.length - Abg l) = (List.range (Abg l)).map (Aaq l)) :
  ∃ t, A4m (gstep (C, Ts.map Tr.word) l).1 (Ts.take (SL.length - Abg l) ++ [t]) (SL.take (SL.length - Abg l) ++ [l]) /\ (gstep (C, Ts.map Tr.word) l).2 = (Ts.take (SL.length - Abg l) ++ [t]).map Tr.word := by
 have hlen := As7 g.fits
 have hwl : (Ts.map Tr.word).length = SL.length := by simp [hlen]
 generalize hn : SL.length - Abg l = n at hv
 have hsplit : Aak Ts = Aak (Ts.take n) ++ Aak (Ts.drop n) := by rw [<- Ab8, List.take_append_drop]
 have hnd := g.nodup
 rw [hsplit, List.nodup_append] at hnd
 obtain ⟨nd1, nd2, nd3⟩ := hnd
 have ad1 : ∀ i ∈ Aak (Ts.take n), 8 <= i /\ i <= C.length := fun i hi => g.adr i (by rw [hsplit]; simp [hi])
 have ad2 : ∀ i ∈ Aak (Ts.drop n), 8 <= i /\ i <= C.length := fun i hi => g.adr i (by rw [hsplit]; simp [hi])
 have fd := Apr n g.fits
 have hdl : (Ts.drop n).length = Abg l := by rw [List.length_drop]; omega
 have hch : (Ts.map Tr.word).drop n = (Ts.drop n).map Tr.word := by rw [List.map_drop]
 have L7 := g.len
 have hg1 : (gstep (C, Ts.map Tr.word) l).1 = C ++ Afb l ((Ts.drop n).map Tr.word) := by
  show C ++ Afb l ((Ts.map Tr.word).drop ((Ts.map Tr.word).length - Abg l)) = _
  rw [hwl, hn, hch]
 have hg2 : (gstep (C, Ts.map Tr.word) l).2 = (Ts.take n).map Tr.word ++ [((C.length : Int) + 1) * 8 + Adj l] := by
  show (Ts.map Tr.word).take ((Ts.map Tr.word).length - Abg l) ++ _ = _
  rw [hwl, hn, List.map_take]
 refine ⟨mkT (C.length + 1) l (Ts.drop n), ?_, ?_⟩
 rotate_left
 ·rw [hg2, List.map_append]
  congr 1
  by_cases h2 : 2 <= l.length
  ·rw [Awv h2, Aju h2]
   simp [Tr.word, Tr.adr, Tr.kind]
  ·match l, h2 with
   | [], _ => simp [mkT, Tr.word, Tr.adr, Tr.kind, Adj]
   | [p], _ => simp [mkT, Tr.word, Tr.adr, Tr.kind, Adj]
   | _ :: _ :: _, h2 => simp at h2
 rw [hg1]
 have okp : oks (C ++ Afb l ((Ts.drop n).map Tr.word)) (Ts.take n) := Akx (by simp) _ (fun a ha => Agn (by have := ad1 a ha; omega) (ad1 a ha).2) (Atq n g.ok)
 have okd : oks (C ++ Afb l ((Ts.drop n).map Tr.word)) (Ts.drop n) := Akx (by simp) _ (fun a ha => Agn (by have := ad2 a ha; omega) (ad2 a ha).2) (Ato n g.ok)
 have at1 : ∀ (R : List Int) (j : Nat) (v : Int), R[j]? = some v -> at0 (C ++ R) (C.length + 1 + j) = v := by
  intro R j v h
  unfold at0
  rw [if_neg (by omega), show C.length + 1 + j - 1 = C.length + j by omega, List.getElem?_append_right (by omega), show C.length + j - C.length = j by omega, h]; rfl
 have main : (mkT (C.length + 1) l (Ts.drop n)).fits l /\ (mkT (C.length + 1) l (Ts.drop n)).ok (C ++ Afb l ((Ts.drop n).map Tr.word)) /\ (∀ i ∈ (mkT (C.length + 1) l (Ts.drop n)).adrs, i ∈ Aak (Ts.drop n) \/ (C.length + 1 <= i /\ i <= (C ++ Afb l ((Ts.drop n).map Tr.word)).length)) /\ (mkT (C.length + 1) l (Ts.drop n)).adrs.Nodup := by
  by_cases h2 : 2 <= l.length
  ·have pn := Ac7 h2 hl
   have d2 := pn.deg2
   rw [Aec h2] at hdl hv hk
   have kl := Ac0 l (Aar l.length)
   rw [Awv h2, Alc h2] at *
   have wl : ((Ts.drop n).map Tr.word).length = Aar l.length := by rw [List.length_map]; exact hdl
   have rl : ([(Aar l.length : Int), (l.length : Int), 0, 0, 0] ++ Acl l (Aar l.length) ++ (Ts.drop n).map Tr.word).length = 2 * Aar l.length + 4 := by
    rw [List.length_append, List.length_append, kl, wl]; simp; omega
   generalize hcs : Ts.drop n = cs at *
   have ha : ∀ (j : Nat) (v : Int), ([(Aar l.length : Int), (l.length : Int), 0, 0, 0] ++ Acl l (Aar l.length) ++ cs.map Tr.word)[j]? = some v -> at0 (C ++ ([(Aar l.length : Int), (l.length : Int), 0, 0, 0] ++ Acl l (Aar l.length) ++ cs.map Tr.word)) (C.length + 1 + j) = v := at1 _
   refine ⟨⟨⟨h2, hl⟩, ⟨rfl, rfl, rfl, rfl⟩, rfl, hdl, As1 fd (by rw [hv, List.range_eq_range'])⟩, ⟨⟨by omega, by rw [List.length_append, rl]; omega, by omega, by omega⟩, ⟨by rw [hdl]; exact ha 0 _ rfl, ha 1 _ rfl, ha 2 _ rfl, ha 3 _ rfl, ha 4 _ rfl⟩, .inl rfl, ⟨by omega, by omega⟩, ?_, ?_, okd⟩, ?_, ?_⟩
   ·intro i hi
    rw [show C.length + 1 + 5 + i = C.length + 1 + (5 + i) by omega]
    refine ha (5 + i) _ ?_
    rw [List.append_assoc, List.getElem?_append_right (by simp), List.getElem?_append_left (by simp; omega)]
    have e : 5 + i - [(Aar l.length : Int), (l.length : Int), 0, 0, 0].length = i := by simp
    rw [e, List.getElem?_eq_getElem hi]
   ·intro i hi
    rw [show C.length + 1 + 4 + cs.length + i = C.length + 1 + (4 + cs.length + i) by omega]
    refine ha (4 + cs.length + i) _ ?_
    have hln : ([(Aar l.length : Int), (l.length : Int), 0, 0, 0] ++ Acl l (Aar l.length)).length = 4 + cs.length := by simp [kl]; omega
    rw [List.getElem?_append_right (by omega), hln, show 4 + cs.length + i - (4 + cs.length) = i by omega, List.getElem?_map, List.getElem?_eq_getElem hi]
    rfl
   ·intro i hi
    simp only [Tr.adrs, List.mem_append, List.mem_range'_1] at hi
    rcases hi with hi | hi
    ·right; rw [List.length_append, rl]; omega
    ·exact .inl hi
   ·show (List.range' _ _ ++ Aak cs).Nodup
    rw [List.nodup_append]
    refine ⟨List.nodup_range', nd2, fun x hx y hy e => ?_⟩
    simp only [List.mem_range'_1] at hx
    have := ad2 y hy
    omega
  ·match l, h2 with
   | [], _ => exact ⟨rfl, ⟨by omega, by simp [Afb]⟩, fun i hi => by simp [mkT, Tr.adrs, Afb] at hi ⊢; omega, by simp [mkT, Tr.adrs]⟩
   | [p], _ => exact ⟨rfl, ⟨by omega, by simp [Afb], at1 _ 0 _ rfl, at1 _ 1 _ rfl⟩, fun i hi => by simp [mkT, Tr.adrs, Afb] at hi ⊢; omega, by simp [mkT, Tr.adrs]⟩
   | _ :: _ :: _, h2 => simp at h2
 obtain ⟨m1, m2, m3, m4⟩ := main
 generalize mkT (C.length + 1) l (Ts.drop n) = t at m1 m2 m3 m4
 refine ⟨Atk (Aqq n g.fits) m1, Alh okp m2, ?_, ?_, by rw [List.length_append]; omega⟩
 ·intro i hi
  rw [Ab8] at hi
  simp only [List.mem_append, Aak, List.append_nil] at hi
  rcases hi with hi | hi
  ·have := ad1 i hi; rw [List.length_append]; omega
  ·rcases m3 i hi with e | e
   ·have := ad2 i e; rw [List.length_append]; omega
   ·omega
 ·rw [Ab8, List.nodup_append]
  refine ⟨nd1, by simpa [Aak] using m4, fun x hx y hy e => ?_⟩
  simp only [Aak, List.append_nil] at hy
  rcases m3 y hy with e2 | e2
  ·exact nd3 x hx y e2 e
  ·have := ad1 x hx; omega
def Ann : List (List Pr) -> List (List Pr) -> Prop
 | _, [] => True
 | SL, l :: Ls => l.length <= 120 /\ Abg l <= SL.length /\ SL.drop (SL.length - Abg l) = (List.range (Abg l)).map (Aaq l) /\ Ann (SL.take (SL.length - Abg l) ++ [l]) Ls
def A7v (SL : List (List Pr)) (Ls : List (List Pr)) : List (List Pr) := Ls.foldl (fun SL l => SL.take (SL.length - Abg l) ++ [l]) SL
theorem Ann.app : ∀ {a b SL : List (List Pr)}, Ann SL a -> Ann (A7v SL a) b -> Ann SL (a ++ b)
 | [], b, SL, _, h => h
 | l :: a, b, SL, h, h2 => ⟨h.1, h.2.1, h.2.2.1, Ann.app h.2.2.2 h2⟩
theorem Ar4 : ∀ (f : Nat) (l : List Pr), l.length < f -> l.length <= 120 -> (Adr f l).length + 1 <= 2 * l.length \/ (l.length = 0 /\ (Adr f l).length = 1)
 | 0, l, hf, _ => by omega
 | f + 1, l, hf, hl => by
  by_cases h2 : 2 <= l.length
  ·have pn := Ac7 h2 hl
   have d2 := pn.deg2
   have key : ∀ i, i <= Aar l.length -> (Ais (Adr f) l i).length + i <= 2 * Aa1 l.length i := by
    intro i
    induction i with
    | zero => intro _; simp [Ais]
    | succ i ih =>
     intro hi
     have hp := Abu h2 hl (i := i) (by omega)
     have hless := pn.less i (by omega)
     have h1 := pn.one i (by omega)
     have := ih (by omega)
     have h5 := Ar4 f (Aaq l i) (by omega) (by omega)
     rw [pn.nq i (by omega), Ais, List.length_append]
     omega
   have := key _ (Nat.le_refl _)
   rw [An5 h2 hl] at this
   rw [Adr, Aec h2, List.length_append]
   simp only [List.length_cons, List.length_nil]
   omega
  ·have hk : Abg l = 0 := if_pos (by omega)
   have e : Adr (f + 1) l = [l] := by rw [Adr, hk]; rfl
   rw [e]
   by_cases e0 : l.length = 0
   ·exact .inr ⟨e0, rfl⟩
   ·left
    show 1 + 1 <= 2 * l.length
    omega
mutual
def Tr.shut : Tr -> Tr
 | .empty a => .empty a
 | .leaf a k v => .leaf a k v
 | .inner a sz sh ch sm ks cs => .inner a sz 1 ch ((Aaf cs).length + 1 : Nat) ks (Aen cs)
def Aen : List Tr -> List Tr
 | [] => []
 | t :: cs => t.shut :: Aen cs
end
mutual
def Tr.old : Tr -> Prop
 | .empty _ => True
 | .leaf _ _ _ => True
 | .inner _ _ _ _ sm _ cs => cs.length <= 200 /\ sm = 0 /\ Amf cs
def Amf : List Tr -> Prop
 | [] => True
 | t :: cs => t.old /\ Amf cs
end
theorem Anw : ∀ {cs : List Tr}, Amf cs -> ∀ i (h : i < cs.length), cs[i].old
 | t :: cs, ⟨a, b⟩, 0, _ => a
 | t :: cs, ⟨a, b⟩, i + 1, h => Anw b i (by simpa using h)
theorem Aq1 : ∀ {cs : List Tr}, (∀ c ∈ cs, c.old) -> Amf cs
 | [], _ => trivial
 | t :: cs, h => ⟨h t (by simp), Aq1 (fun c hc => h c (List.mem_cons_of_mem _ hc))⟩
theorem Anz : ∀ {cs : List Tr} {i : Nat} (h : i < cs.length), cs[i].deep <= Adg cs
 | t :: cs, 0, _ => by simp only [Adg, List.getElem_cons_zero]; omega
 | t :: cs, i + 1, h => by
  have := Anz (cs := cs) (i := i) (by simpa using h)
  simp only [Adg, List.getElem_cons_succ]; omega
def cN (cs : List Tr) (i : Nat) : Nat := (Aaf (cs.take i)).length
theorem Azg (cs : List Tr) : cN cs 0 = 0 := by simp [cN, Aaf]
theorem A2r (cs : List Tr) : cN cs cs.length = (Aaf cs).length := by rw [cN, List.take_length]
theorem Ai2 {cs : List Tr} {i : Nat} (h : i < cs.length) : Aaf (cs.take (i + 1)) = Aaf (cs.take i) ++ cs[i].content := by
 rw [Aef cs h, Ack]; simp [Aaf]
theorem Ayv {cs : List Tr} {i : Nat} (h : i < cs.length) : cN cs (i + 1) = cN cs i + cs[i].content.length := by
 rw [cN, Ai2 h, List.length_append]; rfl
theorem Akr {cs : List Tr} (i : Nat) : Aaf (cs.take i) = (Aaf cs).take (cN cs i) := by
 have : Aaf cs = Aaf (cs.take i) ++ Aaf (cs.drop i) := by rw [<- Ack, List.take_append_drop]
 rw [this, cN, List.take_left]
theorem A4q (cs : List Tr) (i : Nat) : cN cs i <= (Aaf cs).length := by
 have : Aaf cs = Aaf (cs.take i) ++ Aaf (cs.drop i) := by rw [<- Ack, List.take_append_drop]
 rw [this, List.length_append]; show cN cs i <= cN cs i + _; omega
theorem A2b : ∀ (t : Tr) (l : List Pr), t.fits l -> t.old := by
 intro t
 induction t using Tr.ind with
 | e a => exact fun l h => trivial
 | l a k v => exact fun l h => trivial
 | i a sz sh ch sm ks cs ih =>
  intro l h
  obtain ⟨⟨h2, h120⟩, ⟨_, _, _, e4⟩, _, hd, hf⟩ := h
  have pn := Ac7 h2 h120
  have := pn.deg11
  refine ⟨by omega, e4, Aq1 (fun c hc => ?_)⟩
  obtain ⟨i, hi, rfl⟩ := List.getElem_of_mem hc
  exact ih _ hc _ (Ad0 hf i hi)
theorem Ak4 (t : Tr) : t.shut.word = t.word := by cases t <;> rfl
theorem Aek : ∀ cs : List Tr, (Aen cs).length = cs.length
 | [] => rfl
 | t :: cs => by simp [Aen, Aek cs]
theorem Aeh : ∀ (cs : List Tr) (i : Nat) (h : i < (Aen cs).length), (Aen cs)[i] = (cs[i]'(by rw [<- Aek]; exact h)).shut
 | t :: cs, 0, _ => rfl
 | t :: cs, i + 1, h => by
  simp only [Aen, List.getElem_cons_succ]
  exact Aeh cs i (by simpa [Aen] using h)
theorem Ap2 {C : List Int} : ∀ {cs : List Tr}, (∀ i (h : i < cs.length), cs[i].ok C) -> oks C cs
 | [], _ => trivial
 | t :: cs, h => ⟨h 0 (by simp), Ap2 (fun i hi => by have := h (i + 1) (by simpa using hi); simpa using this)⟩
structure Pas (m m' : PM) (A : Nat -> Prop) (k : Nat) : Prop where
 z : m'.z = m.z
 o : m'.o = m.o
 r : m'.r = m.r
 len : m'.C.length = m.C.length
 c0 : m.c <= m'.c
 c1 : m'.c <= m.c + k
 get : ∀ y, ¬ A y -> at0 m'.C y = at0 m.C y
theorem Pas.refl (m : PM) (A : Nat -> Prop) : Pas m m A 0 := ⟨rfl, rfl, rfl, rfl, by omega, by omega, fun _ _ => rfl⟩
theorem Pas.trans {m m' m'' : PM} {A : Nat -> Prop} {k k' : Nat} (a : Pas m m' A k) (b : Pas m' m'' A k') : Pas m m'' A (k + k') := ⟨by rw [b.z, a.z], by rw [b.o, a.o], by rw [b.r, a.r], by rw [b.len, a.len], by have := a.c0; have := b.c0; omega, by have := a.c1; have := b.c1; omega, fun y hy => by rw [b.get y hy, a.get y hy]⟩
theorem Pas.mono {m m' : PM} {A B : Nat -> Prop} {k k' : Nat} (a : Pas m m' A k) (h : ∀ y, A y -> B y) (hk : k <= k') : Pas m m' B k' := ⟨a.z, a.o, a.r, a.len, a.c0, by have := a.c1; omega, fun y hy => a.get y (fun e => hy (h y e))⟩
theorem Pas.fine {m m' : PM} {A : Nat -> Prop} {k : Nat} (a : Pas m m' A k) (f : m.fine) (hc : m.c + k < 1000000000) : m'.fine := ⟨by rw [a.z]; exact f.z0, by rw [a.z]; exact f.z1, by rw [a.len, a.z]; exact f.len, ⟨by have := a.c0; have := f.c; omega, by have := a.c1; omega⟩, by rw [a.o]; exact f.o, by rw [a.r]; exact f.r⟩
theorem Ago {m : PM} {y : Nat} (A : Nat -> Prop) (h1 : 1 <= y) (h2 : y <= m.C.length) : Pas m (m.tick (y : Int)) A 1 := by
 rw [PM.tick_in ⟨by omega, by omega⟩]
 exact ⟨rfl, rfl, rfl, rfl, by simp; omega, by simp, fun _ _ => rfl⟩
theorem Ab5 {m : PM} {y : Nat} {x : Int} (A : Nat -> Prop) (h1 : 1 <= y) (h2 : y <= m.C.length) (hA : A y) : Pas m (m.write (y : Int) x) A 1 /\ at0 (m.write (y : Int) x).C y = x := by
 have hi : m.isin (y : Int) := ⟨by omega, by omega⟩
 have e1 : m.put (y : Int) x = { m with C := m.C.set (y - 1) x } := by
  unfold PM.put; rw [if_pos hi, show ((y : Int) - 1).toNat = y - 1 by omega]
 have e2 : m.write (y : Int) x = { m with C := m.C.set (y - 1) x, c := m.c + 1 } := by
  unfold PM.write
  rw [e1, PM.tick_in ⟨by omega, by simp; omega⟩]
 rw [e2]
 refine ⟨⟨rfl, rfl, rfl, by simp, by simp; omega, by simp, fun z hz => ?_⟩, ?_⟩
 ·by_cases h0 : z = 0
  ·subst h0; rfl
  ·show at0 (m.C.set (y - 1) x) z = _
   rw [Aj0 h1 (by omega) h2, if_neg (fun (e : z = y) => hz (by rw [e]; exact hA))]
 ·show at0 (m.C.set (y - 1) x) y = x
  rw [Aj0 h1 h1 h2, if_pos rfl]
structure MkC (n0 : Nat) (S : Nat -> Prop) (h : Aac) (b bm : Nat) (u um : Option Nat) (m : PM) : Prop where
 mm : Aa8 h bm um m
 f : m.fine
 su : ∀ j, cl b u j -> S j
 sm : ∀ j, cl bm um j -> S j
 s0 : ∀ j, n0 <= j -> S j
 bml : ∀ j, cl bm um j -> j < n0
 d : ∀ j, cl b u j -> ¬ cl bm um j
 nx : n0 <= h.nq
theorem MkC.nq {n0 : Nat} {S : Nat -> Prop} {h h' : Aac} {b bm : Nat} {u u' um : Option Nat} {m m' : PM} (c : MkC n0 S h b bm u um m) (mm : Aa8 h' bm um m') (f : m'.fine) (hu : ∀ y, u' = some y -> u = some y \/ h.nq <= y) (s : h.nq <= h'.nq) : MkC n0 S h' b bm u' um m' := by
 have nx := c.nx
 refine ⟨mm, f, fun j hj => ?_, c.sm, c.s0, c.bml, fun j hj e => ?_, by omega⟩
 ·rcases hj with hj | hj
  ·exact c.su j (.inl hj)
  ·rcases hu j hj with e | e
   ·exact c.su j (.inr e)
   ·exact c.s0 j (by omega)
 ·rcases hj with hj | hj
  ·exact c.d j (.inl hj) e
  ·rcases hu j hj with e2 | e2
   ·exact c.d j (.inr e2) e
   ·have := c.bml j e; omega
theorem Ane : ∀ {cs : List Tr}, (∀ t ∈ cs, t.shut.adrs = t.adrs) -> Aak (Aen cs) = Aak cs
 | [], _ => rfl
 | t :: cs, h => by
  simp only [Aen, Aak]
  rw [h t (by simp), Ane (fun x hx => h x (List.mem_cons_of_mem _ hx))]
theorem Ael (t : Tr) : t.shut.adrs = t.adrs := by
 induction t using Tr.ind with
 | e a => rfl
 | l a k v => rfl
 | i a sz sh ch sm ks cs ih =>
  show List.range' a (2 * (Aen cs).length + 4) ++ Aak (Aen cs) = List.range' a (2 * cs.length + 4) ++ Aak cs
  rw [Aek, Ane ih]
def Al0 (P : Program) (t : Tr) : Prop := ∀ (l : List Pr), (t.old /\ t.content = l) -> l.length <= 20000 -> t.adrs.Nodup -> ∀ (n0 : Nat) (S : Nat -> Prop) (h : Aac) (b bm rp : Nat) (u um : Option Nat) (m : PM) (n : Int) (at' sm : Int) (lv : Value) (Ls : List Lev) (l0 : Lev) (slot : Nat),
 MkC n0 S h b bm u um m -> Afi h b 3 n at' sm (pp rp) lv (Ls ++ [l0]) u -> Rcd h rp (Amb slot (.pointer none) 0 false) -> (rp ≠ b /\ u ≠ some rp /\ n0 <= rp) -> l0.ok -> Ls.length + t.deep < 1000 -> l0.i + 1 < 100000 -> l0.s + l.length + 1 < 100000 ->
 t.ok m.C -> at0 m.C slot = t.word -> (1 <= slot /\ slot <= m.C.length) -> m.c + 10 * t.adrs.length + 10 < 1000000000 -> slot ∉ t.adrs ->
 ∃ h' k u' n' m', k <= 10 * t.adrs.length /\ Ab3 P 66 [(pp b), (pp bm)] S h h' k /\ MkC n0 S h' b bm u' um m' /\ (∃ hx, n0 <= hx.nq /\ Aoa hx h' b n' at' sm Ls (l0.more l.length) u') /\ Pas m m' (· ∈ t.adrs) (10 * t.adrs.length) /\ t.shut.ok m'.C
section
variable (hT : Aa0 P tab) (HS : Afx tab) (HK : Ah3 tab) (HMk : Air tab) (V : Aea tab) (H : Has tab) (V9 : Acg tab) (HM : Agf tab)
include hT HS HK HMk V H V9 HM
theorem Aj2 (t : Tr) (ht : (∃ a, t = .empty a) \/ ∃ a k v, t = .leaf a k v) : Al0 P t := by
 intro l hf hl hnd n0 S h b bm rp u um m n at' sm lv Ls l0 slot c a rr hrp ok hLs hi hs hok hw hsl hc hns
 obtain ⟨ad, k, a1, a2, hk, hwk, hlen, hsh⟩ : ∃ ad k : Nat, 1 <= ad /\ ad <= 65536 /\ (k = 1 \/ k = 2) /\ t.word = (ad : Int) * 8 + k /\ k - 1 = l.length /\ t.shut = t := by
  have f1 := c.f.len
  have f2 := c.f.z1
  rcases ht with ⟨ad, rfl⟩ | ⟨ad, kk, v, rfl⟩
  ·obtain ⟨q1, q2⟩ := hok
   have : l = [] := hf.2.symm
   subst this
   exact ⟨ad, 1, q1, by omega, .inl rfl, rfl, rfl, rfl⟩
  ·obtain ⟨q1, q2, _⟩ := hok
   have : l = [(kk, v)] := hf.2.symm
   subst this
   exact ⟨ad, 2, q1, by omega, .inr rfl, rfl, rfl, rfl⟩
 have f1 := c.f.len
 have f2 := c.f.z1
 have hrm : ¬ cl bm um rp := fun e => by have := c.bml rp e; omega
 obtain ⟨_, h', F, rfl, ⟨u', q, hu'⟩, m', s'⟩ := Aoz hT HS HK HMk V H V9 HM a rr ⟨hrp.1, hrp.2.1, hrm⟩ c.mm c.f c.d (by omega) ok (by omega) hi (by omega) a1 a2 hk (by rw [PM.get_at0, hw, hwk])
 have pas := Ago (m := m) (· ∈ t.adrs) hsl.1 hsl.2
 have hal : 1 <= t.adrs.length := by rcases ht with ⟨ad, rfl⟩ | ⟨ad, kk, v, rfl⟩ <;> simp [Tr.adrs]
 rw [hlen] at q
 refine ⟨h', 1, u', n, _, by omega, Ab3.one F (s'.mono (fun j e => ?_)), c.nq m' (pas.fine c.f (by omega)) hu' s'.nq, ⟨h, c.nx, q⟩, pas.mono (fun _ x => x) (by omega), ?_⟩
 ·rcases e with (e | e) | e
  ·exact c.su j e
  ·exact c.s0 j (by omega)
  ·exact c.sm j e
 ·rw [hsh, PM.tick_in ⟨by omega, by omega⟩]; exact hok
theorem As5 {a : Nat} {sz sh ch sm0 : Int} {ks : List Int} {cs : List Tr} (ih : ∀ t ∈ cs, Al0 P t) {l : List Pr} (hf : (Tr.inner a sz sh ch sm0 ks cs).old /\ (Tr.inner a sz sh ch sm0 ks cs).content = l) (h120 : l.length <= 20000) (hnd : (Tr.inner a sz sh ch sm0 ks cs).adrs.Nodup) {n0 : Nat} {S : Nat -> Prop} {h : Aac} {b bm : Nat} {u um : Option Nat} {m : PM} {at' sm : Int} {rdv lv : Value} {Ls : List Lev} (c : MkC n0 S h b bm u um m) (ma : Afi h b 0 a at' sm rdv lv Ls u) (hLs : Ls.length + (1 + Adg cs) <= 1000) (hok : (Tr.inner a sz sh ch sm0 ks cs).ok m.C) (hc : m.c + 10 * (Tr.inner a sz sh ch sm0 ks cs).adrs.length < 1000000000) :
  ∃ h' k u' n' m' rdv' lv', k <= 10 * (Tr.inner a sz sh ch sm0 ks cs).adrs.length - 3 /\ Ab3 P 66 [(pp b), (pp bm)] S h h' k /\ MkC n0 S h' b bm u' um m' /\ Afi h' b 5 n' at' sm rdv' lv' (Ls ++ [⟨a, cs.length, cs.length, l.length⟩]) u' /\ Pas m m' (· ∈ (Tr.inner a sz sh ch sm0 ks cs).adrs) (10 * (Tr.inner a sz sh ch sm0 ks cs).adrs.length - 3) /\ at0 m'.C (a + 2) = 1 /\ oks m'.C (Aen cs) /\ (∀ y, a <= y -> y < a + (2 * cs.length + 4) -> y ≠ a + 2 -> at0 m'.C y = at0 m.C y) := by
 obtain ⟨⟨q1, q2, q3, q4⟩, ⟨p0, p1, p2, p3, p4⟩, hsh, hsz, hks, hcs, hoks⟩ := hok
 obtain ⟨⟨e0, e4, e7⟩, e6⟩ := hf
 have e6 : Aaf cs = l := e6
 have fl := c.f.len
 have fz := c.f.z1
 have hadl : (Tr.inner a sz sh ch sm0 ks cs).adrs.length = 2 * cs.length + 4 + (Aak cs).length := by simp [Tr.adrs]
 rw [hadl] at hc
 have hin : ∀ y, a <= y -> y < a + (2 * cs.length + 4) -> y ∈ (Tr.inner a sz sh ch sm0 ks cs).adrs := fun y h1 h2 => by
  simp only [Tr.adrs, List.mem_append, List.mem_range'_1]; exact .inl ⟨h1, h2⟩
 have hnd' := hnd
 simp only [Tr.adrs, List.nodup_append] at hnd'
 obtain ⟨_, hn2, hn3⟩ := hnd'
 have hout : ∀ y, y ∈ Aak cs -> ¬ (a <= y /\ y < a + (2 * cs.length + 4)) := fun y hy e => hn3 y (List.mem_range'_1.2 e) y hy rfl
 obtain ⟨_, h1, F1, rfl, a1, m1, s1⟩ := A36 hT HS HK HMk V H V9 HM ma c.mm c.f c.d (by omega) (by rw [show ((a : Int) + 4) = ((a + 4 : Nat) : Int) by omega, PM.get_at0, p4, e4])
 have p01 := Ago (m := m) (y := a + 4) (· ∈ (Tr.inner a sz sh ch sm0 ks cs).adrs) (by omega) (by omega)
 rw [show ((a : Int) + 4) = ((a + 4 : Nat) : Int) by omega] at m1
 have c1 := c.nq m1 (p01.fine c.f (by omega)) (fun y hy => .inl hy) s1.nq
 obtain ⟨_, h2', F2, rfl, a2, m2, s2⟩ := A4a hT HS HK HMk V H V9 HM a1 c1.mm c1.f c1.d (by omega)
 rw [show ((a : Int) + 2) = ((a + 2 : Nat) : Int) by omega] at m2
 obtain ⟨p12, g2⟩ := Ab5 (m := m.tick ((a + 4 : Nat) : Int)) (y := a + 2) (x := 1) (· ∈ (Tr.inner a sz sh ch sm0 ks cs).adrs) (by omega) (by rw [p01.len]; omega) (hin _ (by omega) (by omega))
 have p02 := p01.trans p12
 have c2 := c1.nq m2 (p02.fine c.f (by omega)) (fun y hy => .inl hy) s2.nq
 have hdr : at0 ((m.tick ((a + 4 : Nat) : Int)).write ((a + 2 : Nat) : Int) 1).C a = cs.length := by
  have := Ab5 (m := m.tick ((a + 4 : Nat) : Int)) (y := a + 2) (x := 1) (· = a + 2) (by omega) (by rw [p01.len]; omega) rfl
  rw [this.1.get a (by omega), PM.tick_in ⟨by omega, by omega⟩]; exact p0
 have oth : ∀ y, y ≠ a + 2 -> at0 ((m.tick ((a + 4 : Nat) : Int)).write ((a + 2 : Nat) : Int) 1).C y = at0 m.C y := fun y hy => by
  have := Ab5 (m := m.tick ((a + 4 : Nat) : Int)) (y := a + 2) (x := 1) (· = a + 2) (by omega) (by rw [p01.len]; omega) rfl
  rw [this.1.get y hy, PM.tick_in ⟨by omega, by omega⟩]
 obtain ⟨_, h3, F3, rfl, ⟨u3, q3', n3⟩, m3, s3⟩ := A3s hT HS HK HMk V H V9 HM a2 c2.mm c2.f c2.d (dg := cs.length) (by omega) (by rw [PM.get_at0, hdr]) (by omega) (by omega)
 have p23 := Ago (m := (m.tick ((a + 4 : Nat) : Int)).write ((a + 2 : Nat) : Int) 1) (y := a) (· ∈ (Tr.inner a sz sh ch sm0 ks cs).adrs) (by omega) (by rw [p02.len]; omega)
 have p03 := p02.trans p23
 have c3 := c2.nq m3 (p03.fine c.f (by omega)) n3 s3.nq
 have hS : ∀ j, (cl b u j \/ cl bm um j) -> S j := fun j e => e.elim (c.su j) (c.sm j)
 have ch3 : Ab3 P 66 [(pp b), (pp bm)] S h h3 3 := .cons F1 (s1.mono hS) (.cons F2 (s2.mono hS) (.cons F3 (s3.mono hS) (.nil _)))
 have ge3 : ∀ y, at0 (((m.tick ((a + 4 : Nat) : Int)).write ((a + 2 : Nat) : Int) 1).tick ((a : Nat) : Int)).C y = at0 ((m.tick ((a + 4 : Nat) : Int)).write ((a + 2 : Nat) : Int) 1).C y := fun y => by
  rw [PM.tick_in ⟨by omega, by rw [p02.len]; omega⟩]
 generalize hm3 : ((m.tick ((a + 4 : Nat) : Int)).write ((a + 2 : Nat) : Int) 1).tick ((a : Nat) : Int) = M3 at m3 p23 p03 c3 ge3
 have loop : ∀ i, i <= cs.length -> ∃ h' k u' n' m', k <= 3 + (10 * (Aak (cs.take i)).length + i) /\ Ab3 P 66 [(pp b), (pp bm)] S h h' k /\ MkC n0 S h' b bm u' um m' /\ (∃ hx, n0 <= hx.nq /\ Aoa hx h' b n' at' sm Ls ⟨a, cs.length, i, cN cs i⟩ u') /\ Pas M3 m' (· ∈ Aak (cs.take i)) (10 * (Aak (cs.take i)).length + i) /\ oks m'.C (Aen (cs.take i)) := by
  intro i
  induction i with
  | zero =>
   intro _
   exact ⟨h3, 3, u3, a, M3, by omega, ch3, c3, ⟨h2', c2.nx, by rw [Azg]; exact q3'⟩, by simpa [Aak] using Pas.refl M3 _, by simp [Aen, oks]⟩
  | succ i ihi =>
   intro hi
   obtain ⟨h4, k4, u4, n4, m4, hk4, ch4, c4, ⟨hx, hx1, rdv4, lv4, hn4⟩, p4', ok4⟩ := ihi (by omega)
   rcases hn4 with ⟨hd, _⟩ | ⟨_, ma4, rp, rfl, hrp1, hrp2, hrp3, rr4⟩
   ·have : cs.length <= i := hd
    omega
   have hnx := Ayv (cs := cs) (i := i) (by omega)
   have htop := A4q cs (i + 1)
   rw [e6] at htop
   have hdp := Anz (cs := cs) (i := i) (by omega)
   have hci : cs[i] ∈ cs := List.getElem_mem _
   have htk : cs.take (i + 1) = cs.take i ++ [cs[i]] := A5r (by omega)
   have hsub : ∀ y, y ∈ Aak (cs.take i) -> y ∈ Aak cs := fun y hy => by
    have : Aak cs = Aak (cs.take i) ++ Aak (cs.drop i) := by rw [<- Ab8, List.take_append_drop]
    rw [this]; exact List.mem_append.2 (.inl hy)
   have hcin : ∀ y, y ∈ cs[i].adrs -> y ∈ Aak cs := fun y hy => Acj (by omega) hy
   have hdisj : ∀ y, y ∈ cs[i].adrs -> y ∉ Aak (cs.take i) := fun y hy e => by
    have hs : Aak cs = Aak (cs.take i) ++ (cs[i].adrs ++ Aak (cs.drop (i + 1))) := by
     have h1 : cs = cs.take i ++ cs[i] :: cs.drop (i + 1) := by rw [<- List.drop_eq_getElem_cons (by omega), List.take_append_drop]
     conv => lhs; rw [h1]
     rw [Ab8]; rfl
    rw [hs, List.nodup_append] at hn2
    exact hn2.2.2 y e y (List.mem_append.2 (.inl hy)) rfl
   have hle : (Aak (cs.take i)).length + cs[i].adrs.length <= (Aak cs).length := by
    have hs : Aak cs = Aak (cs.take i) ++ (cs[i].adrs ++ Aak (cs.drop (i + 1))) := by
     have h1 : cs = cs.take i ++ cs[i] :: cs.drop (i + 1) := by rw [<- List.drop_eq_getElem_cons (by omega), List.take_append_drop]
     conv => lhs; rw [h1]
     rw [Ab8]; rfl
    rw [hs]; simp only [List.length_append]; omega
   have l4 : m4.C.length = m.C.length := by rw [p4'.len, p03.len]
   have sget : ∀ y, a <= y -> y < a + (2 * cs.length + 4) -> y ≠ a + 2 -> at0 m4.C y = at0 m.C y := fun y y1 y2 y3 => by
    rw [p4'.get y (fun e => hout y (hsub y e) ⟨y1, y2⟩), ge3, oth y y3]
   have cget : ∀ y, y ∈ cs[i].adrs -> at0 m4.C y = at0 m.C y := fun y hy => by
    rw [p4'.get y (hdisj y hy), ge3, oth y (fun e => hout y (hcin y hy) (by omega))]
   have cok : cs[i].ok m4.C := Ado (by omega) _ cget (Ad4 hoks i (by omega))
   have hc4 := p4'.c1
   have hc3 := p03.c1
   obtain ⟨h5, k5, u5, n5, m5, hk5, ch5, c5, hn5, p5, ok5⟩ := ih cs[i] hci _ ⟨Anw e7 i (by omega), rfl⟩ (by omega) (Adl (by omega) hn2) n0 S h4 b bm rp u4 um m4 n4 at' sm lv4 Ls ⟨a, cs.length, i, cN cs i⟩ (a + 4 + cs.length + i) c4 ma4 rr4 ⟨hrp2, hrp3, by omega⟩ ⟨by show a < _; omega, by show cs.length < _; omega, by show i < _; omega, by show cN cs i < _; omega⟩ (by omega) (by show i + 1 < _; omega) (by show cN cs i + _ + 1 < _; omega) cok (by rw [sget _ (by omega) (by omega) (by omega)]; exact hcs i (by omega)) ⟨by omega, by omega⟩ (by omega) (fun e => hout _ (hcin _ e) ⟨by omega, by omega⟩)
   obtain ⟨hx5, hx51, hn5⟩ := hn5
   refine ⟨h5, k4 + k5, u5, n5, m5, ?_, ch4.app ch5, c5, ⟨hx5, hx51, ?_⟩, ?_, ?_⟩
   ·have e : Aak (cs.take (i + 1)) = Aak (cs.take i) ++ cs[i].adrs := by rw [htk, Ab8]; simp [Aak]
    rw [e, List.length_append]; omega
   ·have e : Lev.more ⟨a, cs.length, i, cN cs i⟩ (cs[i].content).length = ⟨a, cs.length, i + 1, cN cs (i + 1)⟩ := by
     unfold Lev.more
     rw [hnx]
    rw [<- e]; exact hn5
   ·have e : Aak (cs.take (i + 1)) = Aak (cs.take i) ++ cs[i].adrs := by rw [htk, Ab8]; simp [Aak]
    rw [e]
    refine ((p4'.mono (B := fun y => y ∈ Aak (cs.take i) ++ cs[i].adrs) (fun y hy => List.mem_append.2 (.inl hy)) (Nat.le_refl _)).trans (p5.mono (fun y hy => List.mem_append.2 (.inr hy)) (Nat.le_refl _))).mono (fun _ x => x) (by simp only [List.length_append]; omega)
   ·have e : Aen (cs.take (i + 1)) = Aen (cs.take i) ++ [cs[i].shut] := by
     rw [htk]
     have : ∀ (x y : List Tr), Aen (x ++ y) = Aen x ++ Aen y := by
      intro x y
      induction x with
      | nil => rfl
      | cons t x ihx => simp [Aen, ihx]
     rw [this]; rfl
    rw [e]
    refine Alh ?_ ok5
    refine Ap2 (fun j hj => ?_)
    have hj' : j < i := by rw [Aek, List.length_take] at hj; omega
    have hoj := Ad4 ok4 j hj
    refine Ado (by rw [p5.len]; omega) _ (fun y hy => p5.get y (fun e => ?_)) hoj
    rw [Aeh, Ael] at hy
    have hj2 : j < (cs.take i).length := by rw [List.length_take]; omega
    exact hdisj y e (Acj hj2 hy)
 obtain ⟨h4, k4, u4, n4, m4, hk4, ch4, c4, ⟨hx, hx1, rdv4, lv4, hn4⟩, p4', ok4⟩ := loop cs.length (Nat.le_refl _)
 have eT : cs.take cs.length = cs := List.take_length
 rw [eT] at p4' ok4 hk4
 have efr : cN cs cs.length = l.length := by rw [A2r, e6]
 rw [efr] at hn4
 rcases hn4 with ⟨_, ma4⟩ | ⟨hd, _⟩
 rotate_left
 ·have : cs.length < cs.length := hd
  omega
 refine ⟨h4, k4, u4, n4, m4, rdv4, lv4, by rw [hadl]; omega, ch4, c4, ma4, (p03.trans (p4'.mono (fun y hy => by simp only [Tr.adrs, List.mem_append]; exact .inr hy) (Nat.le_refl _))).mono (fun _ x => x) (by rw [hadl]; omega), ?_, ok4, fun y y1 y2 y3 => ?_⟩
 ·rw [p4'.get (a + 2) (fun e => hout _ e ⟨by omega, by omega⟩), ge3]; exact g2
 ·rw [p4'.get y (fun e => hout y e ⟨y1, y2⟩), ge3, oth y y3]
theorem Aog {a : Nat} {sz sh ch sm0 : Int} {ks : List Int} {cs : List Tr} (ih : ∀ t ∈ cs, Al0 P t) : Al0 P (.inner a sz sh ch sm0 ks cs) := by
 intro l hf hl hnd n0 S h b bm rp u um m n at' sm lv Ls l0 slot c ma rr hrp ok hLs hi hs hok hw hsl hc hns
 have hok0 := hok
 obtain ⟨⟨q1, q2, q3, q4⟩, ⟨p0, p1, p2, p3, p4⟩, hsh, hsz, hks, hcs, hoks⟩ := hok0
 have hf0 := hf
 obtain ⟨⟨e0, e4, e7⟩, e6⟩ := hf0
 have e6 : Aaf cs = l := e6
 have hLs' : Ls.length + (1 + Adg cs) < 1000 := hLs
 have fl := c.f.len
 have fz := c.f.z1
 have hrm : ¬ cl bm um rp := fun e => by have := c.bml rp e; omega
 have hadl : (Tr.inner a sz sh ch sm0 ks cs).adrs.length = 2 * cs.length + 4 + (Aak cs).length := by simp [Tr.adrs]
 obtain ⟨_, h1, F1, rfl, ⟨rdv1, a1⟩, m1, s1⟩ := An1 hT HS HK HMk V H V9 HM ma rr ⟨hrp.1, hrp.2.1, hrm⟩ c.mm c.f c.d (by omega) q1 (by omega) (by rw [PM.get_at0, hw]; rfl)
 have pt := Ago (m := m) (· ∈ (Tr.inner a sz sh ch sm0 ks cs).adrs) hsl.1 hsl.2
 have c1 := c.nq m1 (pt.fine c.f (by omega)) (fun y hy => .inl hy) s1.nq
 have tk : ∀ y, at0 (m.tick ((slot : Nat) : Int)).C y = at0 m.C y := fun y => by rw [PM.tick_in ⟨by omega, by omega⟩]
 have hok1 : (Tr.inner a sz sh ch sm0 ks cs).ok (m.tick ((slot : Nat) : Int)).C := by rw [PM.tick_in ⟨by omega, by omega⟩]; exact hok
 have hc1 := pt.c1
 obtain ⟨h2', k2, u2, n2, m2, rdv2, lv2, hk2, ch2, c2, a2, p2', g2, ok2, oth2⟩ := As5 hT HS HK HMk V H V9 HM ih hf hl hnd c1 a1 (by rw [List.length_append, List.length_singleton]; omega) hok1 (by omega)
 have hc2 := p2'.c1
 have len2 : m2.C.length = m.C.length := by rw [p2'.len, pt.len]
 obtain ⟨_, h3, F3, rfl, ⟨u3, q3', n3⟩, m3, s3⟩ := Aqe hT HS HK HMk V H V9 HM a2 c2.mm c2.f c2.d ⟨by show a < _; omega, by show cs.length < _; omega, by show cs.length < _; omega, by show l.length < _; omega⟩ ok (by omega) hi (by show l0.s + l.length < _; omega)
 have m3 : Aa8 h3 bm um (m2.write ((a : Int) + 4) ((l.length : Int) + 1)) := m3
 rw [show ((a : Int) + 4) = ((a + 4 : Nat) : Int) by omega, show ((l.length : Int) + 1) = ((l.length + 1 : Nat) : Int) by omega] at m3
 have hin : ∀ y, a <= y -> y < a + (2 * cs.length + 4) -> y ∈ (Tr.inner a sz sh ch sm0 ks cs).adrs := fun y h1 h2 => by
  simp only [Tr.adrs, List.mem_append, List.mem_range'_1]; exact .inl ⟨h1, h2⟩
 obtain ⟨pw, gw⟩ := Ab5 (m := m2) (y := a + 4) (x := ((l.length + 1 : Nat) : Int)) (· ∈ (Tr.inner a sz sh ch sm0 ks cs).adrs) (by omega) (by omega) (hin _ (by omega) (by omega))
 obtain ⟨pw1, _⟩ := Ab5 (m := m2) (y := a + 4) (x := ((l.length + 1 : Nat) : Int)) (· = a + 4) (by omega) (by omega) rfl
 have c3 := c2.nq m3 (pw.fine c2.f (by omega)) n3 s3.nq
 have hnd' := hnd
 simp only [Tr.adrs, List.nodup_append] at hnd'
 obtain ⟨_, hn2, hn3⟩ := hnd'
 have hout : ∀ y, y ∈ Aak cs -> ¬ (a <= y /\ y < a + (2 * cs.length + 4)) := fun y hy e => hn3 y (List.mem_range'_1.2 e) y hy rfl
 have hcl := congrArg List.length e6
 refine ⟨h3, 1 + k2 + 1, u3, n2, _, by omega, ((Ab3.one F1 (s1.mono (fun j e => ?_))).app ch2).app (Ab3.one F3 (s3.mono (fun j e => e.elim (c2.su j) (c2.sm j)))), c3, ⟨h2', c2.nx, q3'⟩, ((pt.trans p2').trans pw).mono (fun _ x => x) (by omega), ?_⟩
 ·rcases e with (e | e) | e
  ·exact c.su j e
  ·exact c.s0 j (by omega)
  ·exact c.sm j e
 ·have cell : ∀ y, a <= y -> y < a + (2 * cs.length + 4) -> y ≠ a + 2 -> y ≠ a + 4 -> at0 (m2.write ((a + 4 : Nat) : Int) ((l.length + 1 : Nat) : Int)).C y = at0 m.C y := fun y y1 y2 y3 y4 => by
   rw [pw1.get y y4, oth2 y y1 y2 y3, tk]
  have lenw : (m2.write ((a + 4 : Nat) : Int) ((l.length + 1 : Nat) : Int)).C.length = m.C.length := by rw [pw.len, len2]
  show (Tr.inner a sz 1 ch ((Aaf cs).length + 1 : Nat) ks (Aen cs)).ok _
  have sl := Aek cs
  refine ⟨⟨q1, by rw [lenw, sl]; exact q2, by rw [sl]; exact q3, q4⟩, ⟨by rw [cell _ (by omega) (by omega) (by omega) (by omega), sl]; exact p0, by rw [cell _ (by omega) (by omega) (by omega) (by omega)]; exact p1, by rw [pw1.get _ (by omega)]; exact g2, by rw [cell _ (by omega) (by omega) (by omega) (by omega)]; exact p3, by rw [gw, hcl]⟩, .inr rfl, hsz, fun i hi => by rw [cell _ (by omega) (by omega) (by omega) (by omega)]; exact hks i hi, fun i hi => ?_, ?_⟩
  ·have hi' : i < cs.length := by rw [<- sl]; exact hi
   rw [sl, cell _ (by omega) (by omega) (by omega) (by omega), Aeh, Ak4]
   exact hcs i hi'
  ·refine Ap2 (fun j hj => ?_)
   have hj' : j < cs.length := by rw [<- sl]; exact hj
   refine Ado (by rw [pw.len]; exact Nat.le_refl _) _ (fun y hy => pw1.get y (fun e => ?_)) (Ad4 ok2 j hj)
   rw [Aeh, Ael] at hy
   exact hout y (Acj hj' hy) ⟨by omega, by omega⟩
theorem A6a : ∀ t : Tr, Al0 P t := by
 intro t
 induction t using Tr.ind with
 | e a => exact Aj2 hT HS HK HMk V H V9 HM _ (.inl ⟨a, rfl⟩)
 | l a k v => exact Aj2 hT HS HK HMk V H V9 HM _ (.inr ⟨a, k, v, rfl⟩)
 | i a sz sh ch sm ks cs ih => exact Aog hT HS HK HMk V H V9 HM ih
end
section
variable (hT : Aa0 P tab) (HS : Afx tab) (HK : Ah3 tab) (HMk : Air tab) (V : Aea tab) (H : Has tab) (V9 : Acg tab) (HM : Agf tab)
include hT HS HK HMk V H V9 HM
theorem Ax2 {a : Nat} {sz sh ch sm0 : Int} {ks : List Int} {cs : List Tr} {l : List Pr} (hf : (Tr.inner a sz sh ch sm0 ks cs).old /\ (Tr.inner a sz sh ch sm0 ks cs).content = l) (h120 : l.length <= 20000) (hdp : Adg cs < 900) (hnd : (Tr.inner a sz sh ch sm0 ks cs).adrs.Nodup) {n0 : Nat} {S : Nat -> Prop} {h : Aac} {b bm : Nat} {u um : Option Nat} {m : PM} {at' sm : Int} {rdv lv : Value} (c : MkC n0 S h b bm u um m) (ma : Afi h b 0 a at' sm rdv lv [] u) (hok : (Tr.inner a sz sh ch sm0 ks cs).ok m.C) (hc : m.c + 10 * (Tr.inner a sz sh ch sm0 ks cs).adrs.length < 1000000000) :
  ∃ h1 k h2 u' n' m' rdv' lv', k + 1 <= 10 * (Tr.inner a sz sh ch sm0 ks cs).adrs.length /\ Ab3 P 66 [(pp b), (pp bm)] S h h1 k /\ Aa3 P 66 [(pp b), (pp bm)] h1 (.bool true) h2 /\ Aad h1 h2 S /\ MkC n0 S h2 b bm u' um m' /\ Afi h2 b 6 n' at' l.length rdv' lv' [] u' /\ Pas m m' (· ∈ (Tr.inner a sz sh ch sm0 ks cs).adrs) (10 * (Tr.inner a sz sh ch sm0 ks cs).adrs.length) /\ (Tr.inner a sz sh ch sm0 ks cs).shut.ok m'.C := by
 have hok0 := hok
 obtain ⟨⟨q1, q2, q3, q4⟩, ⟨p0, p1, p2, p3, p4⟩, hsh, hsz, hks, hcs, hoks⟩ := hok0
 have hf0 := hf
 obtain ⟨⟨e0, e4, e7⟩, e6⟩ := hf0
 have e6 : Aaf cs = l := e6
 have fl := c.f.len
 have fz := c.f.z1
 have hadl : (Tr.inner a sz sh ch sm0 ks cs).adrs.length = 2 * cs.length + 4 + (Aak cs).length := by simp [Tr.adrs]
 obtain ⟨h2', k2, u2, n2, m2, rdv2, lv2, hk2, ch2, c2, a2, p2', g2, ok2, oth2⟩ := As5 hT HS HK HMk V H V9 HM (fun t _ => A6a hT HS HK HMk V H V9 HM t) hf h120 hnd c ma (by simp; omega) hok hc
 have hc2 := p2'.c1
 have len2 : m2.C.length = m.C.length := p2'.len
 rw [List.nil_append] at a2
 obtain ⟨_, h3, F3, rfl, ⟨rdv3, lv3, a3⟩, m3, s3⟩ := Arq hT HS HK HMk V H V9 HM a2 c2.mm c2.f c2.d ⟨by show a < _; omega, by show cs.length < _; omega, by show cs.length < _; omega, by show l.length < _; omega⟩
 have m3 : Aa8 h3 bm um (m2.write ((a : Int) + 4) ((l.length : Int) + 1)) := m3
 rw [show ((a : Int) + 4) = ((a + 4 : Nat) : Int) by omega, show ((l.length : Int) + 1) = ((l.length + 1 : Nat) : Int) by omega] at m3
 have hin : ∀ y, a <= y -> y < a + (2 * cs.length + 4) -> y ∈ (Tr.inner a sz sh ch sm0 ks cs).adrs := fun y h1 h2 => by
  simp only [Tr.adrs, List.mem_append, List.mem_range'_1]; exact .inl ⟨h1, h2⟩
 obtain ⟨pw, gw⟩ := Ab5 (m := m2) (y := a + 4) (x := ((l.length + 1 : Nat) : Int)) (· ∈ (Tr.inner a sz sh ch sm0 ks cs).adrs) (by omega) (by omega) (hin _ (by omega) (by omega))
 obtain ⟨pw1, _⟩ := Ab5 (m := m2) (y := a + 4) (x := ((l.length + 1 : Nat) : Int)) (· = a + 4) (by omega) (by omega) rfl
 have c3 := c2.nq m3 (pw.fine c2.f (by omega)) (fun y hy => .inl hy) s3.nq
 have hnd' := hnd
 simp only [Tr.adrs, List.nodup_append] at hnd'
 obtain ⟨_, hn2, hn3⟩ := hnd'
 have hout : ∀ y, y ∈ Aak cs -> ¬ (a <= y /\ y < a + (2 * cs.length + 4)) := fun y hy e => hn3 y (List.mem_range'_1.2 e) y hy rfl
 have hcl := congrArg List.length e6
 refine ⟨h2', k2, h3, u2, n2, _, rdv3, lv3, by omega, ch2, F3, s3.mono (fun j e => e.elim (c2.su j) (c2.sm j)), c3, a3, (p2'.trans pw).mono (fun _ x => x) (by omega), ?_⟩
 have cell : ∀ y, a <= y -> y < a + (2 * cs.length + 4) -> y ≠ a + 2 -> y ≠ a + 4 -> at0 (m2.write ((a + 4 : Nat) : Int) ((l.length + 1 : Nat) : Int)).C y = at0 m.C y := fun y y1 y2 y3 y4 => by
  rw [pw1.get y y4, oth2 y y1 y2 y3]
 have lenw : (m2.write ((a + 4 : Nat) : Int) ((l.length + 1 : Nat) : Int)).C.length = m.C.length := by rw [pw.len, len2]
 show (Tr.inner a sz 1 ch ((Aaf cs).length + 1 : Nat) ks (Aen cs)).ok _
 have sl := Aek cs
 refine ⟨⟨q1, by rw [lenw, sl]; exact q2, by rw [sl]; exact q3, q4⟩, ⟨by rw [cell _ (by omega) (by omega) (by omega) (by omega), sl]; exact p0, by rw [cell _ (by omega) (by omega) (by omega) (by omega)]; exact p1, by rw [pw1.get _ (by omega)]; exact g2, by rw [cell _ (by omega) (by omega) (by omega) (by omega)]; exact p3, by rw [gw, hcl]⟩, .inr rfl, hsz, fun i hi => by rw [cell _ (by omega) (by omega) (by omega) (by omega)]; exact hks i hi, fun i hi => ?_, ?_⟩
 ·have hi' : i < cs.length := by rw [<- sl]; exact hi
  rw [sl, cell _ (by omega) (by omega) (by omega) (by omega), Aeh, Ak4]
  exact hcs i hi'
 ·refine Ap2 (fun j hj => ?_)
  have hj' : j < cs.length := by rw [<- sl]; exact hj
  refine Ado (by rw [pw.len]; exact Nat.le_refl _) _ (fun y hy => pw1.get y (fun e => ?_)) (Ad4 ok2 j hj)
  rw [Aeh, Ael] at hy
  exact hout y (Acj hj' hy) ⟨by omega, by omega⟩
end
def PM.more (m : PM) (ws : List Int) : PM := { m with C := m.C ++ ws, c := m.c + 1 }
theorem Ajb {P : Program} {f : Nat} {a : List Value} {h h1 : Aac} {v : Value} (F : Aa3 P f a h v h1) : ∃ CF : Aa7, Ajg P CF /\ CF (.fn f) a h = some (v, h1) := ⟨Ad9 f a h v h1 Agy, Aba F Abo, Abd⟩
theorem Amo {P : Program} {f g : Nat} {a b : List Value} {h h1 k k1 : Aac} {v w : Value} (F : Aa3 P f a h v h1) (G : Aa3 P g b k w k1) (n : g ≠ f) : ∃ CF : Aa7, Ajg P CF /\ CF (.fn f) a h = some (v, h1) /\ CF (.fn g) b k = some (w, k1) := ⟨Ad9 f a h v h1 (Ad9 g b k w k1 Agy), Aba F (Aba G Abo), Abd, by rw [Acd n]; exact Abd⟩
theorem A1j {P : Program} {f g e : Nat} {a b c : List Value} {h h1 k k1 l l1 : Aac} {v w x : Value} (F : Aa3 P f a h v h1) (G : Aa3 P g b k w k1) (E : Aa3 P e c l x l1) (n : g ≠ f) (n2 : e ≠ f) (n3 : e ≠ g) : ∃ CF : Aa7, Ajg P CF /\ CF (.fn f) a h = some (v, h1) /\ CF (.fn g) b k = some (w, k1) /\ CF (.fn e) c l = some (x, l1) := ⟨Ad9 f a h v h1 (Ad9 g b k w k1 (Ad9 e c l x l1 Agy)), Aba F (Aba G (Aba E Abo)), Abd, by rw [Acd n]; exact Abd, by rw [Acd n2, Acd n3]; exact Abd⟩
section
variable (hT : Aa0 P tab) (HS : Afx tab) (V : Aea tab) (H : Has tab) (V9 : Acg tab) (HM : Agf tab)
include hT H
theorem Aga {h : Aac} {b : Nat} {u : Option Nat} {m : PM} (mm : Aa8 h b u m) (f : m.fine) {x p cap : Nat} {ws : List Int} (hw : Abq h x p 1 ws.length cap (ws.map I)) (hx : x ≠ b) (n0 : ws ≠ []) (hn : (m.C.length : Int) + ws.length <= m.z) :
  Aah P 10 [(pp b), .slice (some ⟨x, p, none⟩) ws.length cap] h fun v h' => v = .tuple #[I ((m.C.length : Int) + 1), .bool true] /\ (∃ u', Aa8 h' b u' (m.more ws) /\ (∀ x, u' = some x -> u = some x \/ h.nq <= x)) /\ Aad h h' (cl b u) := by
 obtain ⟨v, h', F, e, ⟨u', a, n⟩, s⟩ := Akh hT H mm hw hx n0 hn f.z1 f.c
 exact ⟨v, h', F, e, ⟨u', a, n⟩, s⟩
theorem A1c (h : Aac) : Aah P 13 [I 5, I 0] h fun v h' => v = I 0 /\ h' = h := by
 have F1 : Aah P 37 [I 5, I 0] h fun v h' => v = .bool false /\ h' = h := by
  refine Aaa hT H.f82 rfl ?_
  have c1 : ((5 : Int) >= 1) = True := by simp
  have c2 : ((5 : Int) <= 5) = True := by simp
  have c3 : ((0 : Int) >= 1) = False := by simp
  simp only [SS, seval, af37, c1, c2, c3]
 obtain ⟨_, _, F1, rfl, rfl⟩ := F1
 refine Aaa hT H.f53 rfl ?_
 simp only [SS, seval, af13]
 refine ⟨_, _, F1, ?_⟩
 simp only [SS, seval]
def dcL (nx g p o n r s oc : Int) : List Value := [I nx, I g, I p, I o, I n, I r, I s, I oc]
include HS V9 HM
omit V9 HM in
theorem Ara {h : Aac} {b bm : Nat} {um : Option Nat} {m : PM} {g p o n : Int} (rc : Rcd h b (dcL 0 g p o n 0 0 0)) (mm : Aa8 h bm um m) (f : m.fine) (hb : ¬ cl bm um b) (hr : (m.C.length : Int) + 5 <= m.z) :
  Aah P 62 [(pp b), (pp bm)] h fun v h' => v = .bool false /\ Rcd h' b (dcL 1 g p o n ((m.C.length : Int) + 1) 0 0) /\ (∃ u', Aa8 h' bm u' (m.more [g, p, o, n, 0]) /\ (∀ x, u' = some x -> um = some x \/ h.nq <= x)) /\ Aad h h' (fun j => j = b \/ cl bm um j) := by
 refine Aaa hT HS.dstep rfl ?_
 have hml := mm.lt
 have hbl := rc.lt
 obtain ⟨_, _, F0, rfl, e0⟩ := A1c hT H h
 rw [e0] at F0
 obtain ⟨_, h1, F1, rfl, r1, s1⟩ := Ar3 hT HS h g p o n
 have x1 := s1.nq
 have rc1 := rc.same s1 (fun x => x)
 have m1 := mm.same s1 (fun _ _ x => x)
 obtain ⟨_, h2, F2, rfl, ⟨u2, m2, n2⟩, s2⟩ := Aga hT H (ws := [g, p, o, n, 0]) m1 f r1 (by have := hml bm (.inl rfl); omega) (by simp) (by simpa using hr)
 have x2 := s2.nq
 have rc2 := rc1.same s2 hb
 have q0 := rc.rd
 simp only [dcL] at rc rc2 q0
 have w2 := rc2.wr
 have m3 : Aa8 (h2.setR b (dcL 1 g p o n ((m.C.length : Int) + 1) 0 0)) bm u2 (m.more [g, p, o, n, 0]) := m2.same (S := (· = b)) (Aad.setR rfl) (fun j hj e => by
  subst e
  rcases hj with e | e
  ·exact hb (.inl e)
  ·rcases n2 j e with e2 | e2
   ·exact hb (.inr e2)
   ·omega)
 have r3 : Rcd (h2.setR b (dcL 1 g p o n ((m.C.length : Int) + 1) 0 0)) b (dcL 1 g p o n ((m.C.length : Int) + 1) 0 0) := Rcd.set _ rc2.lt
 have sF : Aad h (h2.setR b (dcL 1 g p o n ((m.C.length : Int) + 1) 0 0)) (fun j => j = b \/ cl bm um j) := ((s1.mono (fun _ e => e.elim)).trans s2 (fun j _ e => .inr e)).trans (Aad.setR (S := fun j => j = b) rfl) (fun j _ e => .inl e)
 obtain ⟨_, _, F4, e40, e4⟩ := Ae0 hT HS r3
 rw [e4, e40] at F4
 have F4' : Aa3 P 96 [(pp b)] (h2.setR b (dcL 1 g p o n ((m.C.length : Int) + 1) 0 0)) (.bool false) (h2.setR b (dcL 1 g p o n ((m.C.length : Int) + 1) 0 0)) := F4
 simp only [dcL] at F4' m3 r3 sF
 have F2' : Aa3 P 10 [(pp bm), .slice (some ⟨h.nq, 0, none⟩) 5 5] h1 (.tuple #[I ((m.C.length : Int) + 1), .bool true]) h2 := F2
 obtain ⟨CF, hcf, g1, g2⟩ := Amo F1 F2' (by decide)
 simp only [SV, SS, seval, af62, q0]
 refine ⟨_, _, F0, ?_⟩
 simp only [SV, SS, seval, q0]
 refine ⟨CF, hcf, ?_⟩
 simp only [SV, SS, seval, q0, g1, g2, w2, Abp, Adc]
 refine ⟨_, _, F4', ?_⟩
 simp only [SV, SS, seval]
 rw [Aab h _ sF.mq]
 exact ⟨r3, ⟨u2, m3, fun x hx => (n2 x hx).imp_right (fun e => by omega)⟩, sF⟩
theorem Aqw {h : Aac} {b bm : Nat} {um : Option Nat} {m : PM} {g p o n : Int} {R : Nat} (rc : Rcd h b (dcL 1 g p o n R 0 0)) (mm : Aa8 h bm um m) (f : m.fine) (hb : ¬ cl bm um b) (r1 : 1 <= R) (r2 : R <= 65536) (hp : -1000000000000000 <= p /\ p <= 1000000000000000) (hc : (m.cas p o ((R : Int) * 8 + 5)).1 = true) :
  Aah P 62 [(pp b), (pp bm)] h fun v h' => v = .bool false /\ Rcd h' b (dcL 2 g p o n R 0 0) /\ Aa8 h' bm um (m.cas p o ((R : Int) * 8 + 5)).2 /\ Aad h h' (fun j => j = b \/ cl bm um j) := by
 refine Aaa hT HS.dstep rfl ?_
 have hbl := rc.lt
 obtain ⟨_, _, F0, rfl, e0⟩ := Aed hT H 5 R h (by omega) (by omega) (by omega) (by omega)
 rw [e0] at F0
 have q0 := rc.rd
 have s1 : Aad h (h.setR b (dcL 2 g p o n R 0 0)) (· = b) := Aad.setR rfl
 have rc1 : Rcd (h.setR b (dcL 2 g p o n R 0 0)) b (dcL 2 g p o n R 0 0) := Rcd.set _ rc.lt
 have m1 := mm.same s1 (fun j hj e => hb (e ▸ hj))
 obtain ⟨_, h2, F2, rfl, m2, s2⟩ := Ag3 hT V9 HM m1 f p o ((R : Int) * 8 + 5) hp
 rw [hc] at F2
 have rc2 := rc1.same s2 hb
 have sF : Aad h h2 (fun j => j = b \/ cl bm um j) := (s1.mono (T := fun j => j = b \/ cl bm um j) (fun j e => .inl e)).trans s2 (fun j _ e => .inr e)
 obtain ⟨_, _, F4, e40, e4⟩ := Ae0 hT HS rc2
 rw [e4, e40] at F4
 have F4' : Aa3 P 96 [(pp b)] h2 (.bool false) h2 := F4
 simp only [dcL] at rc rc2 q0 F2
 have w2 := rc.wr
 obtain ⟨CF, hcf, g2⟩ := Ajb F2
 simp only [SV, SS, seval, af62, q0]
 refine ⟨_, _, F0, ?_⟩
 simp only [SV, SS, seval, q0, w2]
 refine ⟨CF, hcf, ?_⟩
 simp only [SV, SS, seval, Adc, g2]
 refine ⟨_, _, F4', ?_⟩
 simp only [SV, SS, seval]
 rw [Aab h _ sF.mq]
 exact ⟨rc2, m2, sF⟩
theorem Ar2 {h : Aac} {b bm : Nat} {um : Option Nat} {m : PM} {g p o n : Int} {R : Nat} (rc : Rcd h b (dcL 2 g p o n R 0 0)) (mm : Aa8 h bm um m) (f : m.fine) (hb : ¬ cl bm um b) (r1 : 1 <= R) (r2 : R <= 65536) (hg : -1000000000000000 <= g /\ g <= 1000000000000000) (hc : m.get g = 0) :
  Aah P 62 [(pp b), (pp bm)] h fun v h' => v = .bool false /\ Rcd h' b (dcL 3 g p o n R 1 0) /\ Aa8 h' bm um (m.tick g) /\ Aad h h' (fun j => j = b \/ cl bm um j) := by
 refine Aaa hT HS.dstep rfl ?_
 have hbl := rc.lt
 obtain ⟨_, _, F0, rfl, e0⟩ := Aed hT H 5 R h (by omega) (by omega) (by omega) (by omega)
 rw [e0] at F0
 have q0 := rc.rd
 have s1 : Aad h (h.setR b (dcL 3 g p o n R 1 0)) (· = b) := Aad.setR rfl
 have rc1 : Rcd (h.setR b (dcL 3 g p o n R 1 0)) b (dcL 3 g p o n R 1 0) := Rcd.set _ rc.lt
 have m1 := mm.same s1 (fun j hj e => hb (e ▸ hj))
 obtain ⟨_, h2, F2, rfl, m2, s2⟩ := Abm hT V9 HM m1 f g hg
 have F2' : Aa3 P 64 [(pp bm), I g] (h.setR b (dcL 3 g p o n R 1 0)) (I 0) h2 := by
  have e : (m.read g).1 = 0 := hc
  rw [e] at F2; exact F2
 have m2 : Aa8 h2 bm um (m.tick g) := m2
 have rc2 := rc1.same s2 (fun e => hb (.inl e))
 have sF : Aad h h2 (fun j => j = b \/ cl bm um j) := (s1.mono (T := fun j => j = b \/ cl bm um j) (fun j e => .inl e)).trans s2 (fun j _ e => .inr (.inl e))
 obtain ⟨_, _, F4, e40, e4⟩ := Ae0 hT HS rc2
 rw [e4, e40] at F4
 have F4' : Aa3 P 96 [(pp b)] h2 (.bool false) h2 := F4
 simp only [dcL] at rc rc2 q0 F2'
 have w2 := rc.wr
 simp only [SV, SS, seval, af62, q0]
 refine ⟨_, _, F0, ?_⟩
 simp only [SV, SS, seval, q0, w2, Abp, Adc]
 refine ⟨_, _, F2', ?_⟩
 simp only [SV, SS, seval]
 refine ⟨_, _, F4', ?_⟩
 simp only [SV, SS, seval]
 rw [Aab h _ sF.mq]
 exact ⟨rc2, m2, sF⟩
theorem Asi {h : Aac} {b bm : Nat} {um : Option Nat} {m : PM} {g p o n : Int} {R : Nat} (rc : Rcd h b (dcL 3 g p o n R 1 0)) (mm : Aa8 h bm um m) (f : m.fine) (hb : ¬ cl bm um b) (r1 : 1 <= R) (r2 : R <= 65536) :
  Aah P 62 [(pp b), (pp bm)] h fun v h' => v = .bool false /\ Rcd h' b (dcL 4 g p o n R 1 0) /\ Aa8 h' bm um (m.cas ((R : Int) + 4) 0 1).2 /\ Aad h h' (fun j => j = b \/ cl bm um j) := by
 refine Aaa hT HS.dstep rfl ?_
 have hbl := rc.lt
 obtain ⟨_, _, F0, rfl, e0⟩ := Aed hT H 5 R h (by omega) (by omega) (by omega) (by omega)
 rw [e0] at F0
 have q0 := rc.rd
 have w4 : Aan .i64 ((R : Int) + 4) = (R : Int) + 4 := by rw [Aav] <;> omega
 obtain ⟨_, h2, F2, rfl, m2, s2⟩ := Ag3 hT V9 HM mm f ((R : Int) + 4) 0 1 (by omega)
 have rc2 := rc.same s2 hb
 have rF : Rcd (h2.setR b (dcL 4 g p o n R 1 0)) b (dcL 4 g p o n R 1 0) := Rcd.set _ rc2.lt
 have m3 := m2.same (Aad.setR (L := dcL 4 g p o n R 1 0) (S := (· = b)) rfl) (fun j hj e => hb (e ▸ hj))
 have sF : Aad h (h2.setR b (dcL 4 g p o n R 1 0)) (fun j => j = b \/ cl bm um j) := (s2.mono (T := fun j => j = b \/ cl bm um j) (fun j e => .inr e)).trans (Aad.setR (S := (· = b)) rfl) (fun j _ e => .inl e)
 obtain ⟨_, _, F4, e40, e4⟩ := Ae0 hT HS rF
 rw [e4, e40] at F4
 have F4' : Aa3 P 96 [(pp b)] (h2.setR b (dcL 4 g p o n R 1 0)) (.bool false) (h2.setR b (dcL 4 g p o n R 1 0)) := F4
 simp only [dcL] at rc rc2 q0 F4' m3 rF sF
 have w2 := rc2.wr
 obtain ⟨CF, hcf, g2⟩ := Ajb F2
 simp only [SV, SS, seval, af62, q0]
 refine ⟨_, _, F0, ?_⟩
 simp only [SV, SS, seval, q0]
 refine ⟨CF, hcf, ?_⟩
 simp only [SV, SS, seval, q0, w4, g2, w2]
 refine ⟨_, _, F4', ?_⟩
 simp only [SV, SS, seval]
 rw [Aab h _ sF.mq]
 exact ⟨rF, m3, sF⟩
theorem Aq0 {h : Aac} {b bm : Nat} {um : Option Nat} {m : PM} {g p o n x : Int} {R : Nat} (rc : Rcd h b (dcL 4 g p o n R 1 0)) (mm : Aa8 h bm um m) (f : m.fine) (hb : ¬ cl bm um b) (r1 : 1 <= R) (r2 : R <= 65536) (hx : m.get ((R : Int) + 4) = x) :
  Aah P 62 [(pp b), (pp bm)] h fun v h' => v = .bool false /\ Rcd h' b (dcL 5 g p o n R x 0) /\ Aa8 h' bm um (m.tick ((R : Int) + 4)) /\ Aad h h' (fun j => j = b \/ cl bm um j) := by
 refine Aaa hT HS.dstep rfl ?_
 have hbl := rc.lt
 obtain ⟨_, _, F0, rfl, e0⟩ := Aed hT H 5 R h (by omega) (by omega) (by omega) (by omega)
 rw [e0] at F0
 have q0 := rc.rd
 have w4 : Aan .i64 ((R : Int) + 4) = (R : Int) + 4 := by rw [Aav] <;> omega
 obtain ⟨_, h2, F2, rfl, m2, s2⟩ := Abm hT V9 HM mm f ((R : Int) + 4) (by omega)
 have F2' : Aa3 P 64 [(pp bm), I ((R : Int) + 4)] h (I x) h2 := by
  have e : (m.read ((R : Int) + 4)).1 = x := hx
  rw [e] at F2; exact F2
 have m2 : Aa8 h2 bm um (m.tick ((R : Int) + 4)) := m2
 have rc2 := rc.same s2 (fun e => hb (.inl e))
 have rF : Rcd (h2.setR b (dcL 5 g p o n R x 0)) b (dcL 5 g p o n R x 0) := Rcd.set _ rc2.lt
 have m3 := m2.same (Aad.setR (L := dcL 5 g p o n R x 0) (S := (· = b)) rfl) (fun j hj e => hb (e ▸ hj))
 have sF : Aad h (h2.setR b (dcL 5 g p o n R x 0)) (fun j => j = b \/ cl bm um j) := (s2.mono (T := fun j => j = b \/ cl bm um j) (fun j e => .inr (.inl e))).trans (Aad.setR (S := (· = b)) rfl) (fun j _ e => .inl e)
 obtain ⟨_, _, F4, e40, e4⟩ := Ae0 hT HS rF
 rw [e4, e40] at F4
 have F4' : Aa3 P 96 [(pp b)] (h2.setR b (dcL 5 g p o n R x 0)) (.bool false) (h2.setR b (dcL 5 g p o n R x 0)) := F4
 simp only [dcL] at rc rc2 q0 F4' m3 rF sF
 have w2 := rc2.wr
 simp only [SV, SS, seval, af62, q0]
 refine ⟨_, _, F0, ?_⟩
 simp only [SV, SS, seval, q0, w4]
 refine ⟨_, _, F2', ?_⟩
 simp only [SV, SS, seval, w2, Abp]
 refine ⟨_, _, F4', ?_⟩
 simp only [SV, SS, seval]
 rw [Aab h _ sF.mq]
 exact ⟨rF, m3, sF⟩
theorem Asg {h : Aac} {b bm : Nat} {um : Option Nat} {m : PM} {g p o n : Int} {R : Nat} (rc : Rcd h b (dcL 5 g p o n R 1 0)) (mm : Aa8 h bm um m) (f : m.fine) (hb : ¬ cl bm um b) (r1 : 1 <= R) (r2 : R <= 65536) (hp : -1000000000000000 <= p /\ p <= 1000000000000000) :
  Aah P 62 [(pp b), (pp bm)] h fun v h' => v = .bool true /\ Rcd h' b (dcL 6 g p o n R 1 1) /\ Aa8 h' bm um (m.cas p ((R : Int) * 8 + 5) n).2 /\ Aad h h' (fun j => j = b \/ cl bm um j) := by
 refine Aaa hT HS.dstep rfl ?_
 have hbl := rc.lt
 obtain ⟨_, _, F0, rfl, e0⟩ := Aed hT H 5 R h (by omega) (by omega) (by omega) (by omega)
 rw [e0] at F0
 have q0 := rc.rd
 obtain ⟨_, h2, F2, rfl, m2, s2⟩ := Ag3 hT V9 HM mm f p ((R : Int) * 8 + 5) n hp
 have rc2 := rc.same s2 hb
 obtain ⟨v3, _, F3, e3⟩ := Ax4 hT HS rc2 1
 rw [e3] at F3
 have rF : Rcd (h2.setR b (dcL 6 g p o n R 1 1)) b (dcL 6 g p o n R 1 1) := Rcd.set _ rc2.lt
 have m3 := m2.same (Aad.setR (L := dcL 6 g p o n R 1 1) (S := (· = b)) rfl) (fun j hj e => hb (e ▸ hj))
 have sF : Aad h (h2.setR b (dcL 6 g p o n R 1 1)) (fun j => j = b \/ cl bm um j) := (s2.mono (T := fun j => j = b \/ cl bm um j) (fun j e => .inr e)).trans (Aad.setR (S := (· = b)) rfl) (fun j _ e => .inl e)
 obtain ⟨_, _, F4, e40, e4⟩ := Ae0 hT HS rF
 rw [e4, e40] at F4
 have F4' : Aa3 P 96 [(pp b)] (h2.setR b (dcL 6 g p o n R 1 1)) (.bool true) (h2.setR b (dcL 6 g p o n R 1 1)) := F4
 simp only [dcL] at rc rc2 q0 F4' m3 rF sF
 obtain ⟨CF, hcf, g2⟩ := Ajb F2
 simp only [SV, SS, seval, af62, q0]
 refine ⟨_, _, F0, ?_⟩
 simp only [SV, SS, seval, q0]
 refine ⟨CF, hcf, ?_⟩
 simp only [SV, SS, seval, q0, g2]
 refine ⟨_, _, F3, ?_⟩
 simp only [SV, SS, seval]
 refine ⟨_, _, F4', ?_⟩
 simp only [SV, SS, seval]
 rw [Aab h _ sF.mq]
 exact ⟨rF, m3, sF⟩
end
structure Aep (tab : Nat -> Option Aae) : Prop where
 gnew : tab 69 = some af69
 gstep : tab 70 = some af70
 gchild : tab 107 = some af107
 gmeet : tab 109 = some af109
 gpassed : tab 111 = some af111
 gbelow : tab 112 = some af112
 gdone : tab 113 = some af113
 gpairs : tab 114 = some af114
theorem A7h : Aep tabT.get := ⟨by kernel_rfl, by kernel_rfl, by kernel_rfl, by kernel_rfl, by kernel_rfl, by kernel_rfl, by kernel_rfl, by kernel_rfl⟩
theorem Rcd.ld {h : Aac} {b : Nat} {L : List Value} (r : Rcd h b L) (n : Nat) (hl : L.length = n) : ldN h n (pp b) = some (.agg L.toArray) := Af7 (l := L) (by
 rw [Ae8 r.blk (by simp only [hl]; omega)]
 simp only [List.drop_zero]
 rw [List.take_of_length_le (by omega)])
theorem Rcd.st {h : Aac} {b : Nat} {L : List Value} (r : Rcd h b L) (L' : List Value) (n : Nat) (hl : L.length = n) (hl' : L'.length = n) (h1 : 1 <= n) (hs : L'.all Aas = true) : Aop h n (pp b) (.agg L'.toArray) = some (undef, h.setR b L') := by
 have hw : h.wrs b 0 L' = some (h.setB b ⟨spl L' L 0, L.length, L.length, true, false⟩) := Ak6 r.blk rfl (by simp only [hl, hl']; omega) hs
 have e : spl L' L 0 = L' := by
  rw [Ai4]; simp only [splice]
  rw [List.take_zero, List.nil_append, Nat.zero_add, List.drop_of_length_le (by omega), List.append_nil]
 have e2 : h.setB b ⟨L', L.length, L.length, true, false⟩ = h.setR b L' := by unfold Aac.setR; rw [hl, hl']
 rw [e, e2] at hw
 exact Alq hw hl' h1
structure Abr where
 n : Nat
 d : Nat
 i : Nat
 s : Nat
 f : Int
 t : Nat
def Abr.L (l : Abr) : List Value := [I l.n, I l.d, I l.i, I l.s, I l.f, I l.t]
def Abr.ok (l : Abr) : Prop := l.n < 100000 /\ l.d < 100000 /\ l.i < 100000 /\ l.s < 100000 /\ (-100000 < l.f /\ l.f < 100000) /\ l.t < 100000
def Abr.live (l : Abr) : Prop := l.i < l.d /\ l.s < l.t
instance (l : Abr) : Decidable l.live := inferInstanceAs (Decidable (_ /\ _))
theorem Aey (Ls : List Abr) : Whole 6 (Ls.map Abr.L) := by
 intro x hx
 obtain ⟨l, _, rfl⟩ := List.mem_map.1 hx
 exact ⟨rfl, rfl⟩
theorem Atv (l : Abr) : veq (.agg l.L.toArray) (.agg l.L.toArray) = true := by simp [Abr.L, veq, Atr, Aw7]
def Ae9 (Ls : List Abr) : List Abr := (Ls.reverse.dropWhile (fun l => !decide l.live)).reverse
theorem Aye : Ae9 [] = [] := rfl
theorem Ahm (Ls : List Abr) {l : Abr} (h : l.live) : Ae9 (Ls ++ [l]) = Ls ++ [l] := by simp [Ae9, h]
theorem Agd (Ls : List Abr) {l : Abr} (h : ¬ l.live) : Ae9 (Ls ++ [l]) = Ae9 Ls := by simp [Ae9, h]
def cg (b : Nat) (u up : Option Nat) (j : Nat) : Prop := j = b \/ u = some j \/ up = some j
def gkL (nx : Int) (B : Abr) (pk : Value) (at' key : Int) (lv pv : Value) : List Value := [I nx, I B.n, I B.d, I B.i, I B.s, I B.f, I B.t, pk, I at', I key, lv, pv]
structure Adp (h : Aac) (b : Nat) (nx : Int) (B : Abr) (pk : Value) (at' key : Int) (lv : Value) (Ls : List Abr) (u : Option Nat) (Q : List Pr) (up : Option Nat) : Prop where
 rc : Rcd h b (gkL nx B pk at' key lv (Aal up Q.length))
 st : Adh h lv 6 (Ls.map Abr.L) u
 pr : Abh h up 2 Q.length (Ady Q)
 ub : u ≠ some b
 pb : up ≠ some b
 up : ∀ x, u = some x -> up ≠ some x
 sc : Aas pk = true
theorem Adp.same {h h' : Aac} {b : Nat} {nx at' key : Int} {B : Abr} {pk lv : Value} {Ls : List Abr} {u up : Option Nat} {Q : List Pr} {S : Nat -> Prop} (a : Adp h b nx B pk at' key lv Ls u Q up) (m : Aad h h' S) (hS : ∀ j, cg b u up j -> ¬ S j) : Adp h' b nx B pk at' key lv Ls u Q up :=
 ⟨a.rc.same m (hS b (.inl rfl)), a.st.same m (fun x hx => hS x (.inr (.inl hx))), ⟨fun x hx => by
   obtain ⟨q1, q2, q3⟩ := a.pr.use x hx
   exact ⟨by rw [m.get x q2 (hS x (.inr (.inr hx)))]; exact q1, Nat.lt_of_lt_of_le q2 m.nq, q3⟩, a.pr.non, a.pr.len, a.pr.sc⟩, a.ub, a.pb, a.up, a.sc⟩
theorem Adp.lt {h : Aac} {b : Nat} {nx at' key : Int} {B : Abr} {pk lv : Value} {Ls : List Abr} {u up : Option Nat} {Q : List Pr} (a : Adp h b nx B pk at' key lv Ls u Q up) : ∀ j, cg b u up j -> j < h.nq := fun j hj => hj.elim (fun e => by rw [e]; exact a.rc.lt) (fun e => e.elim (fun e => a.st.lt j e) (fun e => (a.pr.use j e).2.1))
theorem Adp.set {h : Aac} {b : Nat} {nx at' key : Int} {B : Abr} {pk lv : Value} {Ls : List Abr} {u up : Option Nat} {Q : List Pr} (a : Adp h b nx B pk at' key lv Ls u Q up) (nx' : Int) (B' : Abr) (pk' : Value) (at2 key' : Int) (hs : Aas pk' = true) : Adp (h.setR b (gkL nx' B' pk' at2 key' lv (Aal up Q.length))) b nx' B' pk' at2 key' lv Ls u Q up := by
 have s : Aad h (h.setR b (gkL nx' B' pk' at2 key' lv (Aal up Q.length))) (· = b) := Aad.setR rfl
 exact ⟨Rcd.set _ a.rc.lt, a.st.same s (fun x hx e => a.ub (by rw [hx, e])), ⟨fun x hx => by
   obtain ⟨q1, q2, q3⟩ := a.pr.use x hx
   exact ⟨by rw [s.get x q2 (fun e => a.pb (by rw [hx, e]))]; exact q1, Nat.lt_of_lt_of_le q2 s.nq, q3⟩, a.pr.non, a.pr.len, a.pr.sc⟩, a.ub, a.pb, a.up, hs⟩
theorem Adp.stack {h h' : Aac} {b : Nat} {nx at' key : Int} {B : Abr} {pk lv lv' : Value} {Ls Ls' : List Abr} {u u' up : Option Nat} {Q : List Pr} (a : Adp h b nx B pk at' key lv Ls u Q up) (rc : Rcd h' b (gkL nx B pk at' key lv' (Aal up Q.length))) (st : Adh h' lv' 6 (Ls'.map Abr.L) u') (s : Aad h h' (fun j => j = b \/ u = some j)) (n : ∀ x, u' = some x -> u = some x \/ h.nq <= x) : Adp h' b nx B pk at' key lv' Ls' u' Q up := by
 have hb := a.rc.lt
 refine ⟨rc, st, ⟨fun x hx => by
   obtain ⟨q1, q2, q3⟩ := a.pr.use x hx
   exact ⟨by rw [s.get x q2 (fun e => e.elim (fun e => a.pb (by rw [hx, e])) (fun e => a.up x e hx))]; exact q1, Nat.lt_of_lt_of_le q2 s.nq, q3⟩, a.pr.non, a.pr.len, a.pr.sc⟩, fun e => ?_, a.pb, fun x hx e => ?_, a.sc⟩
 ·rcases n b e with e2 | e2
  ·exact a.ub e2
  ·omega
 ·rcases n x hx with e2 | e2
  ·exact a.up x e2 e
  ·have := (a.pr.use x e).2.1; omega
def GNx (n0 : Nat) (h : Aac) (b : Nat) (B : Abr) (at' key : Int) (Ls : List Abr) (u : Option Nat) (Q : List Pr) (up : Option Nat) : Prop :=
 ∃ pk lv, (Ae9 Ls = [] /\ Adp h b 6 B pk at' key lv [] u Q up) \/ ∃ (Ls0 : List Abr) (l : Abr) (rp : Nat), Ae9 Ls = Ls0 ++ [l] /\ l.live /\ pk = (pp rp) /\ n0 <= rp /\ rp < h.nq /\ ¬ cg b u up rp /\ Adp h b 1 B pk at' key lv (Ls0 ++ [l]) u Q up /\ Rcd h rp [I 0, I (l.n + 4 + l.d + l.i : Nat), I 0, I 0]
section
variable (hT : Aa0 P tab) (HS : Afx tab) (HK : Ae4 tab) (HG : Aep tab) (V : Aea tab)
include hT HS HK HG V
theorem Aiq {h : Aac} {b : Nat} {nx at' key : Int} {B : Abr} {pk lv : Value} {Ls : List Abr} {u up : Option Nat} {Q : List Pr} (a : Adp h b nx B pk at' key lv Ls u Q up) (ok : ∀ l ∈ Ls, l.ok) (hn : Ls.length < 100000) :
  Aah P 107 [(pp b)] h fun v h' => GNx h.nq h' b B at' key Ls u Q up /\ Aad h h' (fun j => j = b \/ u = some j) := by
 refine Aaa hT HG.gchild rfl ?_
 have top : ∀ {h1 : Aac} {lv1 : Value} {L1 : List Abr}, Adp h1 b nx B pk at' key lv1 L1 u Q up -> L1.length < 100000 -> ∃ (TL : List Value) (h2 : Aac), Aa3 P 129 [.pointer (some ⟨b, 10, none⟩)] h1 (.tuple #[.agg TL.toArray, .bool (!L1.isEmpty)]) h2 /\ Aad h1 h2 (fun _ => False) /\ TL.length = 6 /\ TL.all Aas = true /\ (∀ L0 l, L1 = L0 ++ [l] -> TL = l.L) := by
  intro h1 lv1 L1 a1 hl
  have st := a1.st
  rcases List.eq_nil_or_concat L1 with rfl | ⟨L0, l, rfl⟩
  ·obtain ⟨_, h2, F, rfl, s⟩ := A17 hT HK a1.rc (k := 10) rfl st
   exact ⟨A8w, h2, F, s, rfl, rfl, fun L0 l e => by simp at e⟩
  ·rw [List.concat_eq_append] at *
   rw [List.map_append, List.map_singleton] at st
   have hw := Aey (L0 ++ [l])
   rw [List.map_append, List.map_singleton] at hw
   obtain ⟨_, h2, F, rfl, e⟩ := Alu hT HK a1.rc (k := 10) rfl st hw (by rw [List.length_map]; simp at hl; omega)
   have e0 : (!(L0 ++ [l]).isEmpty) = true := by simp
   exact ⟨l.L, h2, by rw [e0]; exact F, by rw [e]; exact Aad.newR, rfl, rfl, fun L0' l' e => by
    have := List.append_inj' e rfl
    simp at this
    rw [this.2]⟩
 obtain ⟨TL, h1, F1, s1, tl1, tl2, tl3⟩ := top a hn
 have st2 := Acw h1 [.int .i64 0, .int .i64 0, .int .i64 0, .int .i64 0, .int .i64 0, .int .i64 0] TL 6 rfl tl1 (by omega) tl2
 have s2 : Aad h1 (h1.newR TL) (fun _ => False) := Aad.newR
 have r2 := Rcd.new h1 TL
 have x2 : (h1.newR TL).nq = h1.nq + 1 := rfl
 have a2 := (a.same s1 (fun _ _ x => x)).same s2 (fun _ _ x => x)
 have x1 := s1.nq
 have s02 : Aad h (h1.newR TL) (fun j => j = b \/ u = some j) := (s1.trans s2 (fun _ _ x => x)).mono (fun _ x => x.elim)
 generalize h1.newR TL = h2 at st2 s2 r2 x2 a2 s02
 simp only [SS, seval, af107]
 refine ⟨_, _, F1, ?_⟩
 simp only [SS, seval, Aaw, Abn, st2]
 refine Ac6 (fun k ts h' => ∃ (L1 : List Abr) (lv1 : Value) (x : Nat) (TL : List Value), k = L1.length /\ L1.length <= Ls.length /\ (∀ l ∈ L1, l.ok) /\ Ae9 L1 = Ae9 Ls /\ Adp h' b nx B pk at' key lv1 L1 u Q up /\ Aad h h' (fun j => j = b \/ u = some j) /\ Rcd h' x TL /\ h.nq <= x /\ TL.length = 6 /\ TL.all Aas = true /\ (∀ L0 l, L1 = L0 ++ [l] -> TL = l.L) /\ look ts 0 = (pp b) /\ look ts 2 = (pp x) /\ look ts 3 = .bool (!L1.isEmpty)) ?_ (n := Ls.length) ⟨Ls, lv, h1.nq, TL, rfl, Nat.le_refl _, ok, rfl, a2, s02, r2, x1, tl1, tl2, tl3, by simp only [SS, seval], by simp only [SS, seval], by simp only [SS, seval]⟩
 rintro k ts h' ⟨L1, lv1, x, TL, rfl, k2, okL, htr, a3, s3, r3, hx, tl1, tl2, tl3, t0, t2, t3⟩
 have hbl := a.lt b (.inl rfl)
 have hul := fun y (e : u = some y) => a.lt y (.inr (.inl e))
 have xb : x ≠ b := by omega
 have xu : u ≠ some x := fun e => by have := hul _ e; omega
 rcases List.eq_nil_or_concat L1 with rfl | ⟨L0, l, rfl⟩
 ·-- none is left
  have t3 : look ts 3 = .bool false := t3
  have w := a3.rc.wr 0 (I 6) (by simp [gkL]) (Aat _ _)
  have a4 := a3.set 6 B pk at' key a3.sc
  have e : (gkL nx B pk at' key lv1 (Aal up Q.length)).set 0 (I 6) = gkL 6 B pk at' key lv1 (Aal up Q.length) := rfl
  rw [e] at w
  have sF : Aad h (h'.setR b (gkL 6 B pk at' key lv1 (Aal up Q.length))) (fun j => j = b \/ u = some j) := s3.trans (Aad.setR (S := (· = b)) rfl) (fun j _ e => .inl e)
  refine Acf ?_
  simp only [SS, seval, t0, t2, t3, w]
  rw [Aab h _ sF.mq]
  exact ⟨⟨pk, lv1, .inl ⟨by rw [<- htr]; rfl, a4⟩⟩, sF⟩
 ·rw [List.concat_eq_append] at *
  have t3 : look ts 3 = .bool true := by rw [t3]; simp
  have hTL := tl3 L0 l rfl
  subst hTL
  have okl := okL l (by simp)
  obtain ⟨q1, q2, q3, q4, q5, q6⟩ := okl
  have p0 : h'.rd x 0 = some (I l.n) := by rw [r3.rd]; rfl
  have p1 : h'.rd x 1 = some (I l.d) := by rw [r3.rd]; rfl
  have p2 : h'.rd x 2 = some (I l.i) := by rw [r3.rd]; rfl
  have p3 : h'.rd x 3 = some (I l.s) := by rw [r3.rd]; rfl
  have p5 : h'.rd x 5 = some (I l.t) := by rw [r3.rd]; rfl
  by_cases hl : l.live
  ·have c1 : ((l.i : Int) < l.d) = True := by simp; exact hl.1
   have c2 : ((l.s : Int) < l.t) = True := by simp; exact hl.2
   obtain ⟨_, h4, F4, rfl, s4⟩ := Ada hT V h' l.n l.d l.i (by omega) (by omega) (by omega)
   obtain ⟨_, h5, F5, rfl, e5⟩ := Aux hT HS h4 (l.n + 4 + l.d + l.i : Nat)
   have s5 : Aad h4 h5 (fun _ => False) := by rw [e5]; exact Aad.newR
   have r5 : Rcd h5 h4.nq [I 0, I (l.n + 4 + l.d + l.i : Nat), I 0, I 0] := by rw [e5]; exact Rcd.new _ _
   have x4 := s4.nq
   have x3 := s3.nq
   have x5 : h5.nq = h4.nq + 1 := by rw [e5]; rfl
   clear e5
   have a5 := (a3.same s4 (fun _ _ x => x)).same s5 (fun _ _ x => x)
   have w := a5.rc.wr 0 (I 1) (by simp [gkL]) (Aat _ _)
   have w2 := Abp h5 b ((gkL nx B pk at' key lv1 (Aal up Q.length)).set 0 (I 1)) 7 (pp h4.nq) (by simp [gkL]) (Acs _)
   have e : ((gkL nx B pk at' key lv1 (Aal up Q.length)).set 0 (I 1)).set 7 (pp h4.nq) = gkL 1 B (pp h4.nq) at' key lv1 (Aal up Q.length) := rfl
   rw [e] at w2
   have a6 := a5.set 1 B (pp h4.nq) at' key (Acs _)
   have nc : ¬ cg b u up h4.nq := fun e => by have := a.lt _ e; omega
   have s6 : Aad h5 (h5.setR b (gkL 1 B (pp h4.nq) at' key lv1 (Aal up Q.length))) (· = b) := Aad.setR rfl
   have r6 := r5.same s6 (fun e => nc (.inl e))
   have sF : Aad h (h5.setR b (gkL 1 B (pp h4.nq) at' key lv1 (Aal up Q.length))) (fun j => j = b \/ u = some j) := ((s3.trans s4 (fun _ _ x => x.elim)).trans s5 (fun _ _ x => x.elim)).trans s6 (fun j _ e => .inl e)
   refine Acf ?_
   simp only [SS, seval, t0, t2, t3, p0, p1, p2, p3, p5, c1, c2]
   refine ⟨_, _, F4, ?_⟩
   simp only [SS, seval]
   refine ⟨_, _, F5, ?_⟩
   simp only [SS, seval, w, w2]
   rw [Aab h _ sF.mq]
   exact ⟨⟨_, lv1, .inr ⟨L0, l, h4.nq, by rw [<- htr, Ahm _ hl], hl, rfl, by omega, by show _ < h5.nq; omega, nc, a6, r6⟩⟩, sF⟩
  ·-- it is done: off the stack
   have st := a3.st
   rw [List.map_append, List.map_singleton] at st
   have hw := Aey (L0 ++ [l])
   rw [List.map_append, List.map_singleton] at hw
   rw [List.length_append, List.length_singleton] at k2
   obtain ⟨_, h4, F4, rfl, ⟨lv4, rc4, sc4, st4⟩, s4⟩ := Aou hT HK a3.rc (k := 10) rfl st hw a3.ub (by rw [List.length_map]; omega)
   have a4 := a3.stack (Ls' := L0) rc4 st4 s4 (fun x hx => .inl hx)
   have r4 := r3.same s4 (fun e => e.elim xb xu)
   have ld4 := r4.ld 6 rfl
   have st5 := Acw h4 [.int .i64 0, .int .i64 0, .int .i64 0, .int .i64 0, .int .i64 0, .int .i64 0] l.L 6 rfl rfl (by omega) rfl
   have s5 : Aad h4 (h4.newR l.L) (fun _ => False) := Aad.newR
   have r5 := Rcd.new h4 l.L
   have x5 : (h4.newR l.L).nq = h4.nq + 1 := rfl
   have a5 := a4.same s5 (fun _ _ x => x)
   have x3 := s3.nq
   have x4 := s4.nq
   generalize h4.newR l.L = h5 at st5 s5 r5 x5 a5
   obtain ⟨TL6, h6, F6, s6, tl61, tl62, tl63⟩ := top a5 (by omega)
   have a6 := a5.same s6 (fun _ _ x => x)
   have r6 := r5.same s6 (fun x => x)
   have st6 := r6.st TL6 6 rfl tl61 (by omega) tl62
   have s7 : Aad h6 (h6.setR h4.nq TL6) (· = h4.nq) := Aad.setR rfl
   have r7 : Rcd (h6.setR h4.nq TL6) h4.nq TL6 := Rcd.set _ r6.lt
   have nc : ∀ j, cg b u up j -> ¬ j = h4.nq := fun j hj e => by have := a.lt j hj; omega
   have a7 := a6.same s7 nc
   have sF : Aad h (h6.setR h4.nq TL6) (fun j => j = b \/ u = some j) := (((s3.trans s4 (fun _ _ x => x)).trans s5 (fun _ _ x => x.elim)).trans s6 (fun _ _ x => x.elim)).trans s7 (fun j hj e => by omega)
   have htr7 : Ae9 L0 = Ae9 Ls := by rw [<- htr, Agd _ hl]
   have fin : ∃ m, m < (L0 ++ [l]).length /\ ∃ (L1 : List Abr) (lv1 : Value) (x : Nat) (TL : List Value), m = L1.length /\ L1.length <= Ls.length /\ (∀ l ∈ L1, l.ok) /\ Ae9 L1 = Ae9 Ls /\ Adp (h6.setR h4.nq TL6) b nx B pk at' key lv1 L1 u Q up /\ Aad h (h6.setR h4.nq TL6) (fun j => j = b \/ u = some j) /\ Rcd (h6.setR h4.nq TL6) x TL /\ h.nq <= x /\ TL.length = 6 /\ TL.all Aas = true /\ (∀ L0 l, L1 = L0 ++ [l] -> TL = l.L) /\ Value.pointer (some { block := h4.nq, off := 0 }) = Value.pointer (some { block := x, off := 0 }) /\ (Value.bool !L0.isEmpty) = Value.bool !L1.isEmpty := ⟨L0.length, by simp, L0, lv4, h4.nq, TL6, rfl, by omega, fun l hl => okL l (by simp [hl]), htr7, a7, sF, r7, by omega, tl61, tl62, tl63, rfl, rfl⟩
   by_cases hi : l.i < l.d
   ·have c1 : ((l.i : Int) < l.d) = True := by simp; exact hi
    have c2 : ((l.s : Int) < l.t) = False := by simp only [eq_iff_iff, iff_false]; intro e; exact hl ⟨hi, by omega⟩
    refine Acf ?_
    simp only [SS, seval, t0, t2, t3, p0, p1, p2, p3, p5, c1, c2]
    refine ⟨_, _, F4, ?_⟩
    simp only [SS, seval, t0, t2, Aaw, Abn, Abi, ld4, st5]
    refine ⟨_, _, F6, ?_⟩
    simp only [SS, seval, t0, t2, Abn, st6]
    exact fin
   ·have c1 : ((l.i : Int) < l.d) = False := by simp; omega
    refine Acf ?_
    simp only [SS, seval, t0, t2, t3, p0, p1, p2, p3, p5, c1]
    refine ⟨_, _, F4, ?_⟩
    simp only [SS, seval, t0, t2, Aaw, Abn, Abi, ld4, st5]
    refine ⟨_, _, F6, ?_⟩
    simp only [SS, seval, t0, t2, Abn, st6]
    exact fin
end
def Abr.more (l : Abr) (x : Nat) : Abr := ⟨l.n, l.d, l.i + 1, l.s + x, l.f, l.t⟩
section
variable (hT : Aa0 P tab) (HS : Afx tab) (HK : Ae4 tab) (HG : Aep tab) (V : Aea tab)
include hT HK HG
theorem Ahi {h : Aac} {b : Nat} {nx at' key : Int} {B : Abr} {pk lv : Value} {Ls : List Abr} {l : Abr} {u up : Option Nat} {Q : List Pr} (a : Adp h b nx B pk at' key lv (Ls ++ [l]) u Q up) (ok : l.ok) (hn : Ls.length < 100000) (x : Nat) (hx : l.s + x < 100000) :
  Aah P 111 [(pp b), I x] h fun v h' => v = .agg l.L.toArray /\ (∃ lv' u', Adp h' b nx B pk at' key lv' (Ls ++ [l.more x]) u' Q up /\ ∀ y, u' = some y -> u = some y \/ h.nq <= y) /\ Aad h h' (fun j => j = b \/ u = some j) := by
 refine Aaa hT HG.gpassed rfl ?_
 obtain ⟨q1, q2, q3, q4, q5, q6⟩ := ok
 have hbl := a.lt b (.inl rfl)
 have hul := fun y (e : u = some y) => a.lt y (.inr (.inl e))
 have s1 : Aad h (h.newR [.int .i64 0, .int .i64 0, .int .i64 0, .int .i64 0, .int .i64 0, .int .i64 0]) (fun _ => False) := Aad.newR
 have r1 := Rcd.new h [.int .i64 0, .int .i64 0, .int .i64 0, .int .i64 0, .int .i64 0, .int .i64 0]
 have a1 := a.same s1 (fun _ _ x => x)
 have x1 : (h.newR [.int .i64 0, .int .i64 0, .int .i64 0, .int .i64 0, .int .i64 0, .int .i64 0]).nq = h.nq + 1 := rfl
 generalize hh1 : h.newR [.int .i64 0, .int .i64 0, .int .i64 0, .int .i64 0, .int .i64 0, .int .i64 0] = h1 at s1 r1 a1 x1
 have st := a1.st
 rw [List.map_append, List.map_singleton] at st
 have hw := Aey (Ls ++ [l])
 rw [List.map_append, List.map_singleton] at hw
 obtain ⟨_, h2, F2, rfl, ⟨lv2, rc2, sc2, st2⟩, s2⟩ := Aou hT HK a1.rc (k := 10) rfl st hw a1.ub (by rw [List.length_map]; omega)
 have a2 := a1.stack (Ls' := Ls) rc2 st2 s2 (fun x hx => .inl hx)
 have x2 := s2.nq
 have nb : ∀ j, h.nq <= j -> ¬ (j = b \/ u = some j) := fun j hj e => e.elim (fun e => by omega) (fun e => by have := hul _ e; omega)
 have r2 := r1.same s2 (nb _ (Nat.le_refl _))
 have st3 := Acw h2 [.int .i64 0, .int .i64 0, .int .i64 0, .int .i64 0, .int .i64 0, .int .i64 0] l.L 6 rfl rfl (by omega) rfl
 have s3 : Aad h2 (h2.newR l.L) (fun _ => False) := Aad.newR
 have r3 := Rcd.new h2 l.L
 have x3 : (h2.newR l.L).nq = h2.nq + 1 := rfl
 have a3 := a2.same s3 (fun _ _ x => x)
 have q3' := r2.same s3 (fun x => x)
 generalize h2.newR l.L = h3 at st3 s3 r3 x3 a3 q3'
 have ld3 := r3.ld 6 rfl
 have st4 := Acw h3 [.int .i64 0, .int .i64 0, .int .i64 0, .int .i64 0, .int .i64 0, .int .i64 0] l.L 6 rfl rfl (by omega) rfl
 have s4 : Aad h3 (h3.newR l.L) (fun _ => False) := Aad.newR
 have r4 := Rcd.new h3 l.L
 have x4 : (h3.newR l.L).nq = h3.nq + 1 := rfl
 have a4 := a3.same s4 (fun _ _ x => x)
 have q4' := q3'.same s4 (fun x => x)
 have p4 := r3.same s4 (fun x => x)
 generalize h3.newR l.L = h4 at st4 s4 r4 x4 a4 q4' p4
 have w1 : Aan .i64 ((l.s : Int) + x) = ((l.s + x : Nat) : Int) := by rw [Aav] <;> omega
 have w2 : Aan .i64 ((l.i : Int) + 1) = ((l.i + 1 : Nat) : Int) := by rw [Aav] <;> omega
 have g3 : h4.rd h2.nq 3 = some (I l.s) := by rw [p4.rd]; rfl
 have e5 := p4.wr 3 (I (l.s + x : Nat)) (by simp [Abr.L]) (Aat _ _)
 have g5 : (h4.setR h2.nq (l.L.set 3 (I (l.s + x : Nat)))).rd h2.nq 2 = some (I l.i) := by rw [Adc]; rfl
 have e6 : (h4.setR h2.nq (l.L.set 3 (I (l.s + x : Nat)))).wrs h2.nq 2 [I (l.i + 1 : Nat)] = some (h4.setR h2.nq (l.more x).L) := Abp _ _ _ _ _ (by simp [Abr.L]) (Aat _ _)
 have s6 : Aad h4 (h4.setR h2.nq (l.more x).L) (· = h2.nq) := Aad.setR rfl
 have r6 : Rcd (h4.setR h2.nq (l.more x).L) h2.nq (l.more x).L := Rcd.set _ p4.lt
 have a6 := a4.same s6 (fun j hj e => by have := a.lt j hj; omega)
 have t6 := r4.same s6 (fun e => by omega)
 have z6 := q4'.same s6 (fun e => by omega)
 generalize h4.setR h2.nq (l.L.set 3 (I (l.s + x : Nat))) = h5 at e5 g5 e6
 have x6 : (h4.setR h2.nq (l.more x).L).nq = h4.nq := rfl
 generalize h4.setR h2.nq (l.more x).L = h6 at e6 s6 r6 a6 t6 z6 x6
 have ld6 := r6.ld 6 rfl
 obtain ⟨v7, h7, F7, ⟨lv7, u7, rc7, sc7, st7, n7⟩, s7⟩ := Anl hT HK a6.rc (k := 10) rfl a6.st (Aey Ls) a6.ub (l := (l.more x).L) rfl rfl (Atv _) (by rw [List.length_map]; omega)
 have a7 := a6.stack (Ls' := Ls ++ [l.more x]) rc7 (by rw [List.map_append, List.map_singleton]; exact st7) s7 n7
 have t7 := t6.same s7 (nb _ (by omega))
 have z7 := z6.same s7 (nb _ (by omega))
 have x7 := s7.nq
 have ld7 := t7.ld 6 rfl
 have st8 := z7.st l.L 6 rfl rfl (by omega) rfl
 have s8 : Aad h7 (h7.setR h.nq l.L) (· = h.nq) := Aad.setR rfl
 have nx7 : ∀ j, cg b u7 up j -> ¬ j = h.nq := fun j hj e => by
  rcases hj with e2 | e2 | e2
  ·omega
  ·rcases n7 j e2 with e3 | e3
   ·have := hul j e3; omega
   ·omega
  ·have := a.lt j (.inr (.inr e2)); omega
 have a8 := a7.same s8 nx7
 have r8 : Rcd (h7.setR h.nq l.L) h.nq l.L := Rcd.set _ z7.lt
 have f8 : (h7.setR h.nq l.L).rds h.nq 0 6 = some l.L := by
  rw [Ae8 r8.blk (by simp [Abr.L])]
  simp [Abr.L]
 have sF : Aad h (h7.setR h.nq l.L) (fun j => j = b \/ u = some j) := ((((((s1.mono (T := fun j => j = b \/ u = some j) (fun _ e => e.elim)).trans s2 (fun _ _ x => x)).trans s3 (fun _ _ x => x.elim)).trans s4 (fun _ _ x => x.elim)).trans s6 (fun j hj e => by omega)).trans s7 (fun _ _ x => x)).trans s8 (fun j hj e => by omega)
 obtain ⟨CF, hcf, g7⟩ := Ajb F7
 simp only [SS, seval, af111, Aaw, hh1]
 refine ⟨_, _, F2, ?_⟩
 simp only [SS, seval, Aaw, Abn, st3, Abi, ld3, st4, g3, w1, e5, g5, w2, e6]
 refine ⟨CF, hcf, ?_⟩
 simp only [SS, seval, Abi, ld6, g7, ld7, Abn, st8, f8]
 rw [Aab h _ sF.mq]
 exact ⟨⟨lv7, u7, a8, fun y hy => (n7 y hy).imp_right (fun e => by omega)⟩, sF⟩
include HS V
omit HS HK HG V hT in
theorem GNx.mono {n0 n1 : Nat} {h : Aac} {b : Nat} {B : Abr} {at' key : Int} {Ls : List Abr} {u up : Option Nat} {Q : List Pr} (g : GNx n0 h b B at' key Ls u Q up) (hn : n1 <= n0) : GNx n1 h b B at' key Ls u Q up := by
 obtain ⟨pk, lv, g | ⟨L0, l, rp, g1, g2, g3, g4, g5⟩⟩ := g
 ·exact ⟨pk, lv, .inl g⟩
 ·exact ⟨pk, lv, .inr ⟨L0, l, rp, g1, g2, g3, by omega, g5⟩⟩
theorem Aks {h : Aac} {b : Nat} {nx at' key : Int} {B : Abr} {pk lv : Value} {Ls : List Abr} {l : Abr} {u up : Option Nat} {Q : List Pr} (a : Adp h b nx B pk at' key lv (Ls ++ [l]) u Q up) (ok : ∀ l' ∈ Ls, l'.ok) (okl : l.ok) (hn : Ls.length < 90000) (x : Nat) (hx : l.s + x < 100000) (hi : l.i + 1 < 100000) :
  ∃ h1 v2 h2, Aa3 P 111 [(pp b), I x] h (.agg l.L.toArray) h1 /\ Aa3 P 107 [(pp b)] h1 v2 h2 /\ (∃ u', GNx h.nq h2 b B at' key (Ls ++ [l.more x]) u' Q up /\ ∀ y, u' = some y -> u = some y \/ h.nq <= y) /\ Aad h h2 (fun j => j = b \/ u = some j) /\ (∃ lv' u', Adp h1 b nx B pk at' key lv' (Ls ++ [l.more x]) u' Q up /\ ∀ y, u' = some y -> u = some y \/ h.nq <= y) /\ Aad h h1 (fun j => j = b \/ u = some j) := by
 obtain ⟨_, h1, F1, rfl, ⟨lv1, u1, a1, n1⟩, s1⟩ := Ahi hT HK HG a okl (by omega) x hx
 have x1 := s1.nq
 obtain ⟨v2, h2, F2, g2, s2⟩ := Aiq hT HS HK HG V a1 (fun l' hl' => by
  rcases List.mem_append.1 hl' with e | e
  ·exact ok l' e
  ·simp only [List.mem_singleton] at e
   subst e
   obtain ⟨q1, q2, q3, q4, q5, q6⟩ := okl
   exact ⟨q1, q2, hi, hx, q5, q6⟩) (by simp; omega)
 exact ⟨h1, v2, h2, F1, F2, ⟨u1, g2.mono (by omega), n1⟩, s1.trans s2 (fun j hj e => e.elim .inl (fun e => (n1 j e).elim .inr (fun e => by omega))), ⟨lv1, u1, a1, n1⟩, s1⟩
end
section
variable (hT : Aa0 P tab) (HS : Afx tab) (HK : Ae4 tab) (HG : Aep tab) (V : Aea tab) (H : Has tab)
include hT HS HK HG V H
omit HS HG in
theorem Alt {h : Aac} {b : Nat} {nx at' key : Int} {B : Abr} {pk lv : Value} {Ls : List Abr} {l : Abr} {u up : Option Nat} {Q : List Pr} (a : Adp h b nx B pk at' key lv (Ls ++ [l]) u Q up) (hn : Ls.length < 90000) {ad k : Nat} (a1 : 1 <= ad) (a2 : ad <= 65536) (k1 : 1 <= k) (k2 : k <= 4) :
  Aa3 P 26 [I ((ad : Int) * 8 + k)] h (I ad) h /\ ∃ h1 h2 h3, h.wrs b 8 [I ad] = some h1 /\ Aa3 P 129 [.pointer (some ⟨b, 10, none⟩)] h1 (.tuple #[.agg l.L.toArray, .bool true]) h2 /\ Aop (h2.newR [.int .i64 0, .int .i64 0, .int .i64 0, .int .i64 0, .int .i64 0, .int .i64 0]) 6 (pp h2.nq) (.agg l.L.toArray) = some (undef, h3) /\ Aa3 P 9 [I ((ad : Int) * 8 + k)] h3 (I k) h3 /\ h3.rd h2.nq 3 = some (I l.s) /\ h3.rd h2.nq 4 = some (I l.f) /\ Adp h3 b nx B pk ad key lv (Ls ++ [l]) u Q up /\ Aad h h3 (· = b) := by
 obtain ⟨_, _, F1, rfl, e1⟩ := Ab0 hT V H h ad k a1 a2 k1 (by omega)
 rw [e1] at F1
 have w := a.rc.wr 8 (I ad) (by simp [gkL]) (Aat _ _)
 have b1 := a.set nx B pk ad key a.sc
 have s1 : Aad h (h.setR b (gkL nx B pk ad key lv (Aal up Q.length))) (· = b) := Aad.setR rfl
 have w : h.wrs b 8 [I ad] = some (h.setR b (gkL nx B pk ad key lv (Aal up Q.length))) := w
 generalize h.setR b (gkL nx B pk ad key lv (Aal up Q.length)) = h1 at w b1 s1
 have st := b1.st
 rw [List.map_append, List.map_singleton] at st
 have hw := Aey (Ls ++ [l])
 rw [List.map_append, List.map_singleton] at hw
 obtain ⟨_, h2, F2, rfl, e2⟩ := Alu hT HK b1.rc (k := 10) rfl st hw (by rw [List.length_map]; omega)
 have s2 : Aad h1 h2 (fun _ => False) := by rw [e2]; exact Aad.newR
 clear e2
 have b2 := b1.same s2 (fun _ _ x => x)
 have st3 := Acw h2 [.int .i64 0, .int .i64 0, .int .i64 0, .int .i64 0, .int .i64 0, .int .i64 0] l.L 6 rfl rfl (by omega) rfl
 have s3 : Aad h2 (h2.newR l.L) (fun _ => False) := Aad.newR
 have r3 := Rcd.new h2 l.L
 have b3 := b2.same s3 (fun _ _ x => x)
 generalize h2.newR l.L = h3 at st3 s3 r3 b3
 obtain ⟨_, _, F4, rfl, e4⟩ := Abt hT V H h3 ad k a1 a2 k1 (by omega)
 rw [e4] at F4
 exact ⟨F1, h1, h2, h3, w, F2, st3, F4, by rw [r3.rd]; rfl, by rw [r3.rd]; rfl, b3, (s1.trans s2 (fun _ _ x => x.elim)).trans s3 (fun _ _ x => x.elim)⟩
omit HS in
theorem Avz {h : Aac} {b : Nat} {nx at' key : Int} {B : Abr} {pk lv : Value} {Ls : List Abr} {l : Abr} {u up : Option Nat} {Q : List Pr} (a : Adp h b nx B pk at' key lv (Ls ++ [l]) u Q up) (hn : Ls.length < 90000) {ad : Nat} (a1 : 1 <= ad) (a2 : ad <= 65536) (hf : l.f <= l.s) :
  Aah P 109 [(pp b), I ((ad : Int) * 8 + 2)] h fun v h' => Adp h' b 2 B pk ad key lv (Ls ++ [l]) u Q up /\ Aad h h' (· = b) := by
 refine Aaa hT HG.gmeet rfl ?_
 obtain ⟨F1, h1, h2, h3, w, F2, st3, F4, p3, p4, b3, s3⟩ := Alt hT HK V H a hn (k := 2) a1 a2 (by omega) (by omega)
 have F1' : Aa3 P 26 [I ((ad : Int) * 8 + 2)] h (I ad) h := F1
 have F4' : Aa3 P 9 [I ((ad : Int) * 8 + 2)] h3 (I 2) h3 := F4
 have w4 := b3.rc.wr 0 (I 2) (by simp [gkL]) (Aat _ _)
 have b4 := b3.set 2 B pk ad key b3.sc
 have w4 : h3.wrs b 0 [I 2] = some (h3.setR b (gkL 2 B pk ad key lv (Aal up Q.length))) := w4
 have sF : Aad h (h3.setR b (gkL 2 B pk ad key lv (Aal up Q.length))) (· = b) := s3.trans (Aad.setR (S := (· = b)) rfl) (fun _ _ x => x)
 have c1 : ((l.s : Int) >= l.f) = True := by simp; omega
 simp only [SS, seval, af109]
 refine ⟨_, _, F1', ?_⟩
 simp only [SS, seval, w]
 refine ⟨_, _, F2, ?_⟩
 simp only [SS, seval, Aaw, Abn, st3]
 refine ⟨_, _, F4', ?_⟩
 simp only [SS, seval, p3, p4, c1, w4]
 rw [Aab h _ sF.mq]
 exact ⟨b4, sF⟩
theorem Avh {h : Aac} {b : Nat} {nx at' key : Int} {B : Abr} {pk lv : Value} {Ls : List Abr} {l : Abr} {u up : Option Nat} {Q : List Pr} (a : Adp h b nx B pk at' key lv (Ls ++ [l]) u Q up) (ok : ∀ l' ∈ Ls, l'.ok) (okl : l.ok) (hn : Ls.length < 90000) (hi : l.i + 1 < 100000) (hs : l.s + 1 < 100000) {ad k : Nat} (a1 : 1 <= ad) (a2 : ad <= 65536) (hk : k = 1 \/ k = 2 /\ (l.s : Int) < l.f) :
  Aah P 109 [(pp b), I ((ad : Int) * 8 + k)] h fun v h' => (∃ u', GNx h.nq h' b B ad key (Ls ++ [l.more (k - 1)]) u' Q up /\ ∀ y, u' = some y -> u = some y \/ h.nq <= y) /\ Aad h h' (fun j => j = b \/ u = some j) := by
 refine Aaa hT HG.gmeet rfl ?_
 obtain ⟨F1, h1, h2, h3, w, F2, st3, F4, p3, p4, b3, s3⟩ := Alt hT HK V H a hn (k := k) a1 a2 (by omega) (by omega)
 have x3 := s3.nq
 obtain ⟨h5, v6, h6, F5, F6, ⟨u6, g6, n6⟩, s6, _⟩ := Aks hT HS HK HG V b3 ok okl hn (k - 1) (by omega) hi
 have sF : Aad h h6 (fun j => j = b \/ u = some j) := (s3.mono (fun j e => .inl e)).trans s6 (fun _ _ x => x)
 have gF : ∃ u', GNx h.nq h6 b B ad key (Ls ++ [l.more (k - 1)]) u' Q up /\ ∀ y, u' = some y -> u = some y \/ h.nq <= y := ⟨u6, g6.mono x3, fun y hy => (n6 y hy).imp_right (fun e => by omega)⟩
 rcases hk with rfl | ⟨rfl, hk⟩
 ·have F1' : Aa3 P 26 [I ((ad : Int) * 8 + ((1 : Nat) : Int))] h (I ad) h := F1
  have F4' : Aa3 P 9 [I ((ad : Int) * 8 + ((1 : Nat) : Int))] h3 (I 1) h3 := F4
  have F5' : Aa3 P 111 [(pp b), I 0] h3 (.agg l.L.toArray) h5 := F5
  simp only [SS, seval, af109]
  refine ⟨_, _, F1', ?_⟩
  simp only [SS, seval, w]
  refine ⟨_, _, F2, ?_⟩
  simp only [SS, seval, Aaw, Abn, st3]
  refine ⟨_, _, F4', ?_⟩
  simp only [SS, seval]
  refine ⟨_, _, F5', ?_⟩
  simp only [SS, seval]
  refine ⟨_, _, F6, ?_⟩
  simp only [SS, seval]
  rw [Aab h _ sF.mq]
  exact ⟨gF, sF⟩
 ·have F1' : Aa3 P 26 [I ((ad : Int) * 8 + ((2 : Nat) : Int))] h (I ad) h := F1
  have F4' : Aa3 P 9 [I ((ad : Int) * 8 + ((2 : Nat) : Int))] h3 (I 2) h3 := F4
  have F5' : Aa3 P 111 [(pp b), I 1] h3 (.agg l.L.toArray) h5 := F5
  have c1 : ((l.s : Int) >= l.f) = False := by simp; omega
  simp only [SS, seval, af109]
  refine ⟨_, _, F1', ?_⟩
  simp only [SS, seval, w]
  refine ⟨_, _, F2, ?_⟩
  simp only [SS, seval, Aaw, Abn, st3]
  refine ⟨_, _, F4', ?_⟩
  simp only [SS, seval, p3, p4, c1]
  refine ⟨_, _, F5', ?_⟩
  simp only [SS, seval]
  refine ⟨_, _, F6, ?_⟩
  simp only [SS, seval]
  rw [Aab h _ sF.mq]
  exact ⟨gF, sF⟩
omit HS in
theorem Ark {h : Aac} {b : Nat} {nx at' key : Int} {B : Abr} {pk lv : Value} {Ls : List Abr} {l : Abr} {u up : Option Nat} {Q : List Pr} (a : Adp h b nx B pk at' key lv (Ls ++ [l]) u Q up) (hn : Ls.length < 90000) {ad : Nat} (a1 : 1 <= ad) (a2 : ad <= 65536) :
  Aah P 109 [(pp b), I ((ad : Int) * 8 + 3)] h fun v h' => Adp h' b 5 B pk ad key lv (Ls ++ [l]) u Q up /\ Aad h h' (· = b) := by
 refine Aaa hT HG.gmeet rfl ?_
 obtain ⟨F1, h1, h2, h3, w, F2, st3, F4, p3, p4, b3, s3⟩ := Alt hT HK V H a hn (k := 3) a1 a2 (by omega) (by omega)
 have F1' : Aa3 P 26 [I ((ad : Int) * 8 + 3)] h (I ad) h := F1
 have F4' : Aa3 P 9 [I ((ad : Int) * 8 + 3)] h3 (I 3) h3 := F4
 have w4 := b3.rc.wr 0 (I 5) (by simp [gkL]) (Aat _ _)
 have b4 := b3.set 5 B pk ad key b3.sc
 have w4 : h3.wrs b 0 [I 5] = some (h3.setR b (gkL 5 B pk ad key lv (Aal up Q.length))) := w4
 have sF : Aad h (h3.setR b (gkL 5 B pk ad key lv (Aal up Q.length))) (· = b) := s3.trans (Aad.setR (S := (· = b)) rfl) (fun _ _ x => x)
 simp only [SS, seval, af109]
 refine ⟨_, _, F1', ?_⟩
 simp only [SS, seval, w]
 refine ⟨_, _, F2, ?_⟩
 simp only [SS, seval, Aaw, Abn, st3]
 refine ⟨_, _, F4', ?_⟩
 simp only [SS, seval, w4]
 rw [Aab h _ sF.mq]
 exact ⟨b4, sF⟩
omit H in
theorem Aqx {h : Aac} {b : Nat} {nx at' key : Int} {B : Abr} {pk lv : Value} {Ls : List Abr} {l : Abr} {u up : Option Nat} {Q : List Pr} (a : Adp h b nx B pk at' key lv (Ls ++ [l]) u Q up) (ok : ∀ l' ∈ Ls, l'.ok) (okl : l.ok) (hn : Ls.length < 90000) (hi : l.i + 1 < 100000) (x : Nat) (hx : l.s + x < 100000) (hf : (l.s : Int) + x <= l.f) :
  Aah P 112 [(pp b), I x] h fun v h' => (∃ u', GNx h.nq h' b B at' key (Ls ++ [l.more x]) u' Q up /\ ∀ y, u' = some y -> u = some y \/ h.nq <= y) /\ Aad h h' (fun j => j = b \/ u = some j) := by
 refine Aaa hT HG.gbelow rfl ?_
 obtain ⟨_, h1, F1, rfl, ⟨lv1, u1, b1, n1⟩, s1⟩ := Ahi hT HK HG a okl (by omega) x hx
 have x1 := s1.nq
 have st2 := Acw h1 [.int .i64 0, .int .i64 0, .int .i64 0, .int .i64 0, .int .i64 0, .int .i64 0] l.L 6 rfl rfl (by omega) rfl
 have s2 : Aad h1 (h1.newR l.L) (fun _ => False) := Aad.newR
 have r2 := Rcd.new h1 l.L
 have b2 := b1.same s2 (fun _ _ x => x)
 generalize h1.newR l.L = h2 at st2 s2 r2 b2
 have x2 := s2.nq
 have p3 : h2.rd h1.nq 3 = some (I l.s) := by rw [r2.rd]; rfl
 have p4 : h2.rd h1.nq 4 = some (I l.f) := by rw [r2.rd]; rfl
 obtain ⟨q1, q2, q3, q4, q5, q6⟩ := okl
 obtain ⟨v3, h3, F3, g3, s3⟩ := Aiq hT HS HK HG V b2 (fun l' hl' => by
  rcases List.mem_append.1 hl' with e | e
  ·exact ok l' e
  ·simp only [List.mem_singleton] at e
   subst e
   exact ⟨q1, q2, hi, hx, q5, q6⟩) (by simp; omega)
 have sF : Aad h h3 (fun j => j = b \/ u = some j) := (s1.trans s2 (fun _ _ x => x.elim)).trans s3 (fun j hj e => e.elim .inl (fun e => (n1 j e).elim .inr (fun e => by omega)))
 have w1 : Aan .i64 ((l.s : Int) + x) = (l.s : Int) + x := by rw [Aav] <;> omega
 have c1 : ((l.s : Int) + x <= l.f) = True := by simp; omega
 simp only [SS, seval, af112]
 refine ⟨_, _, F1, ?_⟩
 simp only [SS, seval, Aaw, Abn, st2, p3, p4, w1, c1]
 refine ⟨_, _, F3, ?_⟩
 simp only [SS, seval]
 rw [Aab h _ sF.mq]
 exact ⟨⟨u1, g3.mono (by omega), n1⟩, sF⟩
omit HS V H in
theorem Azw {h : Aac} {b : Nat} {nx key : Int} {at' : Nat} {B : Abr} {pk lv : Value} {Ls : List Abr} {l : Abr} {u up : Option Nat} {Q : List Pr} (a : Adp h b nx B pk at' key lv (Ls ++ [l]) u Q up) (okl : l.ok) (hn : Ls.length < 90000) (x : Nat) (hx : l.s + x < 100000) (hf : l.f < (l.s : Int) + x) (ht : l.s <= l.t) :
  Aah P 112 [(pp b), I x] h fun v h' => (∃ lv' u', Adp h' b 0 ⟨at', 0, 0, 0, l.f - l.s, l.t - l.s⟩ pk at' key lv' (Ls ++ [l.more x]) u' Q up /\ ∀ y, u' = some y -> u = some y \/ h.nq <= y) /\ Aad h h' (fun j => j = b \/ u = some j) := by
 refine Aaa hT HG.gbelow rfl ?_
 obtain ⟨_, h1, F1, rfl, ⟨lv1, u1, b1, n1⟩, s1⟩ := Ahi hT HK HG a okl (by omega) x hx
 have x1 := s1.nq
 have st2 := Acw h1 [.int .i64 0, .int .i64 0, .int .i64 0, .int .i64 0, .int .i64 0, .int .i64 0] l.L 6 rfl rfl (by omega) rfl
 have s2 : Aad h1 (h1.newR l.L) (fun _ => False) := Aad.newR
 have r2 := Rcd.new h1 l.L
 have b2 := b1.same s2 (fun _ _ x => x)
 generalize h1.newR l.L = h2 at st2 s2 r2 b2
 have p3 : h2.rd h1.nq 3 = some (I l.s) := by rw [r2.rd]; rfl
 have p4 : h2.rd h1.nq 4 = some (I l.f) := by rw [r2.rd]; rfl
 have p5 : h2.rd h1.nq 5 = some (I l.t) := by rw [r2.rd]; rfl
 obtain ⟨q1, q2, q3, q4, q5, q6⟩ := okl
 have w1 : Aan .i64 ((l.s : Int) + x) = (l.s : Int) + x := by rw [Aav] <;> omega
 have c1 : ((l.s : Int) + x <= l.f) = False := by simp; omega
 have w3 : Aan .i64 (l.f - (l.s : Int)) = l.f - l.s := by rw [Aav] <;> omega
 have w4 : Aan .i64 ((l.t : Int) - l.s) = ((l.t - l.s : Nat) : Int) := by rw [Aav] <;> omega
 have p8 : h2.rd b 8 = some (I at') := by rw [b2.rc.rd]; rfl
 have b3 := b2.set 0 ⟨at', 0, 0, 0, l.f - l.s, l.t - l.s⟩ pk at' key b2.sc
 have sF : Aad h (h2.setR b (gkL 0 ⟨at', 0, 0, 0, l.f - l.s, l.t - l.s⟩ pk at' key lv1 (Aal up Q.length))) (fun j => j = b \/ u = some j) := (s1.trans s2 (fun _ _ x => x.elim)).trans (Aad.setR (S := (· = b)) rfl) (fun _ _ e => .inl e)
 have u1w := b2.rc.wr 0 (I 0) (by simp [gkL]) (Aat _ _)
 have j1r : Rcd (h2.setR b ((gkL nx B pk at' key lv1 (Aal up Q.length)).set 0 (I 0))) b ((gkL nx B pk at' key lv1 (Aal up Q.length)).set 0 (I 0)) := Rcd.set _ b2.rc.lt
 have nb : h1.nq ≠ b := fun e => by have := a.lt b (.inl rfl); omega
 have r3 := r2.same (Aad.setR (L := (gkL nx B pk at' key lv1 (Aal up Q.length)).set 0 (I 0)) (S := (· = b)) rfl) (fun e => nb e)
 have u8 : (h2.setR b ((gkL nx B pk at' key lv1 (Aal up Q.length)).set 0 (I 0))).rd b 8 = some (I at') := by rw [Adc]; rfl
 have st4 : Aop (h2.setR b ((gkL nx B pk at' key lv1 (Aal up Q.length)).set 0 (I 0))) 6 (.pointer (some ⟨b, 1, none⟩)) (.agg (List.toArray [I at', .int .i64 0, .int .i64 0, .int .i64 0, I (l.f - l.s), I (l.t - l.s : Nat)])) = some (undef, h2.setR b (gkL 0 ⟨at', 0, 0, 0, l.f - l.s, l.t - l.s⟩ pk at' key lv1 (Aal up Q.length))) := by
  have hw : (h2.setR b ((gkL nx B pk at' key lv1 (Aal up Q.length)).set 0 (I 0))).wrs b 1 [I at', .int .i64 0, .int .i64 0, .int .i64 0, I (l.f - l.s), I (l.t - l.s : Nat)] = some _ := Ak6 j1r.blk rfl (by simp [gkL]) rfl
  have e : ∀ k, (h2.setR b ((gkL nx B pk at' key lv1 (Aal up Q.length)).set 0 (I 0))).setB b k = h2.setB b k := fun k => Aqs _ _ _ _
  rw [e] at hw
  exact Alq hw rfl (by omega)
 have j2r : Rcd (h2.setR b (gkL 0 ⟨at', 0, 0, 0, l.f - l.s, l.t - l.s⟩ pk at' key lv1 (Aal up Q.length))) b (gkL 0 ⟨at', 0, 0, 0, l.f - l.s, l.t - l.s⟩ pk at' key lv1 (Aal up Q.length)) := b3.rc
 let J : Nat -> Aac -> Prop := fun i k => i <= 1 -> k.rd b 8 = some (I at') /\ k.rd h1.nq 3 = some (I l.s) /\ k.rd h1.nq 4 = some (I l.f) /\ k.rd h1.nq 5 = some (I l.t)
 have j0 : J 0 h2 := fun _ => ⟨p8, p3, p4, p5⟩
 have j1 : J 1 (h2.setR b ((gkL nx B pk at' key lv1 (Aal up Q.length)).set 0 (I 0))) := fun _ => ⟨u8, by rw [r3.rd]; rfl, by rw [r3.rd]; rfl, by rw [r3.rd]; rfl⟩
 have j2 : J 2 (h2.setR b (gkL 0 ⟨at', 0, 0, 0, l.f - l.s, l.t - l.s⟩ pk at' key lv1 (Aal up Q.length))) := fun h => by omega
 have jr8 : ∀ j k, 0 <= j -> j <= 1 -> J j k -> k.rd b 8 = some (I at') := fun j k _ hj q => (q hj).1
 have jr3 : ∀ j k, 0 <= j -> j <= 1 -> J j k -> k.rd h1.nq 3 = some (I l.s) := fun j k _ hj q => (q hj).2.1
 have jr4 : ∀ j k, 0 <= j -> j <= 1 -> J j k -> k.rd h1.nq 4 = some (I l.f) := fun j k _ hj q => (q hj).2.2.1
 have jr5 : ∀ j k, 0 <= j -> j <= 1 -> J j k -> k.rd h1.nq 5 = some (I l.t) := fun j k _ hj q => (q hj).2.2.2
 clear_value J
 simp only [SS, seval, af112]
 refine ⟨_, _, F1, ?_⟩
 simp only [SS, seval, Aaw, Abn, st2, p3, p4, w1, c1]
 refine Adz J Agy Abo j0 ?_
 simp only [SS, seval, Aiv, w_p, w_r, w_e, Afl, Awg, Ain, Afr, Ad3, p3, p4, p5, p8, w3, w4, u1w, Abn, st4, Ac4]
 refine ⟨fun j k x y q => jr8 j k x (by omega) q, jr4, jr3, jr5, jr3, j1, j2, ?_⟩
 rw [Aab h _ sF.mq]
 exact ⟨⟨lv1, u1, b3, n1⟩, sF⟩
end
section
variable (hT : Aa0 P tab) (HS : Afx tab) (HK : Ae4 tab) (HG : Aep tab) (V : Aea tab) (H : Has tab) (V9 : Acg tab) (HM : Agf tab)
include hT HG
theorem Adq {h : Aac} {b : Nat} {nx at' key : Int} {B : Abr} {pk lv : Value} {Ls : List Abr} {u up : Option Nat} {Q : List Pr} (a : Adp h b nx B pk at' key lv Ls u Q up) :
  Aah P 113 [(pp b)] h fun v h' => v = .bool (nx == 6) /\ h' = h := by
 refine Aaa hT HG.gdone rfl ?_
 have q0 := a.rc.rd
 simp only [gkL] at q0
 simp only [SV, SS, seval, af113, q0]
theorem GNx.done {n0 : Nat} {h : Aac} {b : Nat} {B : Abr} {at' key : Int} {Ls : List Abr} {u up : Option Nat} {Q : List Pr} (g : GNx n0 h b B at' key Ls u Q up) : Aa3 P 113 [(pp b)] h (.bool (Ae9 Ls).isEmpty) h := by
 obtain ⟨pk, lv, ⟨g1, a⟩ | ⟨L0, l, rp, g1, g2, g3, g4, g5, g6, a, g7⟩⟩ := g
 ·obtain ⟨_, _, F, rfl, e⟩ := Adq hT HG a
  rw [e] at F
  rw [g1]; exact F
 ·obtain ⟨_, _, F, rfl, e⟩ := Adq hT HG a
  rw [e] at F
  rw [g1, show (L0 ++ [l]).isEmpty = false by simp]; exact F
include HS HK V H V9 HM
theorem A5k {h : Aac} {b bm : Nat} {at' key : Int} {n d t : Nat} {f : Int} {pk lv : Value} {Ls : List Abr} {u up um : Option Nat} {Q : List Pr} {m : PM} (a : Adp h b 0 ⟨n, 0, 0, 0, f, t⟩ pk at' key lv Ls u Q up) (mm : Aa8 h bm um m) (fi : m.fine) (dis : ∀ j, cg b u up j -> ¬ cl bm um j) (ok : ∀ l' ∈ Ls, l'.ok) (okl : Abr.ok ⟨n, d, 0, 0, f, t⟩) (hn : Ls.length < 90000) (hd : m.get (n : Int) = d) :
  Aah P 70 [(pp b), (pp bm)] h fun v h' => v = .bool (Ae9 (Ls ++ [⟨n, d, 0, 0, f, t⟩])).isEmpty /\ (∃ u', GNx h.nq h' b ⟨n, 0, 0, 0, f, t⟩ at' key (Ls ++ [⟨n, d, 0, 0, f, t⟩]) u' Q up /\ ∀ y, u' = some y -> u = some y \/ h.nq <= y) /\ Aa8 h' bm um (m.tick (n : Int)) /\ Aad h h' (fun j => cg b u up j \/ cl bm um j) := by
 refine Aaa hT HG.gstep rfl ?_
 obtain ⟨q1, q2, q3, q4, q5, q6⟩ := okl
 simp only at q1 q2 q5 q6
 have hbl := a.lt b (.inl rfl)
 have hul := fun y (e : u = some y) => a.lt y (.inr (.inl e))
 have q0 := a.rc.rd
 have ld0 : ldN h 6 (.pointer (some ⟨b, 1, none⟩)) = some (.agg (List.toArray [I n, I 0, I 0, I 0, I f, I t])) := Af7 (l := [I n, I 0, I 0, I 0, I f, I t]) (by
  rw [Ae8 a.rc.blk (by simp [gkL])]
  simp [gkL])
 have stA := Acw h [.int .i64 0, .int .i64 0, .int .i64 0, .int .i64 0, .int .i64 0, .int .i64 0] [I n, I 0, I 0, I 0, I f, I t] 6 rfl rfl (by omega) rfl
 have s1 : Aad h (h.newR [I n, I 0, I 0, I 0, I f, I t]) (fun _ => False) := Aad.newR
 have r1 := Rcd.new h [I n, I 0, I 0, I 0, I f, I t]
 have x1 : (h.newR [I n, I 0, I 0, I 0, I f, I t]).nq = h.nq + 1 := rfl
 have a1 := a.same s1 (fun _ _ x => x)
 have m1 := mm.same s1 (fun _ _ x => x)
 generalize h.newR [I n, I 0, I 0, I 0, I f, I t] = h1 at stA s1 r1 x1 a1 m1
 have p0 : h1.rd h.nq 0 = some (I n) := by rw [r1.rd]; rfl
 have w0 : Aan .i64 ((n : Int) + 0) = (n : Int) := by rw [Aav] <;> omega
 obtain ⟨_, h2, F2, rfl, m2, s2⟩ := Abm hT V9 HM m1 fi (n : Int) (by omega)
 have F2' : Aa3 P 64 [(pp bm), I (n : Int)] h1 (I d) h2 := by rw [<- hd]; exact F2
 have m2 : Aa8 h2 bm um (m.tick (n : Int)) := m2
 have hml := mm.lt
 have r2 := r1.same s2 (fun e => by have := hml bm (.inl rfl); omega)
 have a2 := a1.same s2 (fun j hj e => dis j hj (.inl e))
 have x2 := s2.nq
 have w3 := r2.wr 1 (I d) (by simp) (Aat _ _)
 have s3 : Aad h2 (h2.setR h.nq (Abr.L ⟨n, d, 0, 0, f, t⟩)) (· = h.nq) := Aad.setR rfl
 have r3 : Rcd (h2.setR h.nq (Abr.L ⟨n, d, 0, 0, f, t⟩)) h.nq (Abr.L ⟨n, d, 0, 0, f, t⟩) := Rcd.set _ r2.lt
 have a3 := a2.same s3 (fun j hj e => by have := a.lt j hj; omega)
 have m3 := m2.same s3 (fun j hj e => by have := hml j hj; omega)
 have w3 : h2.wrs h.nq 1 [I d] = some (h2.setR h.nq (Abr.L ⟨n, d, 0, 0, f, t⟩)) := w3
 have x3 : (h2.setR h.nq (Abr.L ⟨n, d, 0, 0, f, t⟩)).nq = h2.nq := rfl
 generalize h2.setR h.nq (Abr.L ⟨n, d, 0, 0, f, t⟩) = h3 at w3 s3 r3 a3 m3 x3
 have ld3 := r3.ld 6 rfl
 obtain ⟨v4, h4, F4, ⟨lv4, u4, rc4, sc4, st4, n4⟩, s4⟩ := Anl hT HK a3.rc (k := 10) rfl a3.st (Aey Ls) a3.ub (l := Abr.L ⟨n, d, 0, 0, f, t⟩) rfl rfl (Atv _) (by rw [List.length_map]; omega)
 have a4 := a3.stack (Ls' := Ls ++ [⟨n, d, 0, 0, f, t⟩]) rc4 (by rw [List.map_append, List.map_singleton]; exact st4) s4 n4
 have m4 := m3.same s4 (fun j hj e => dis j (e.elim .inl (fun e => .inr (.inl e))) hj)
 have x4 := s4.nq
 obtain ⟨v5, h5, F5, g5, s5⟩ := Aiq hT HS HK HG V a4 (fun l' hl' => by
  rcases List.mem_append.1 hl' with e | e
  ·exact ok l' e
  ·simp only [List.mem_singleton] at e
   subst e
   exact ⟨q1, q2, q3, q4, q5, q6⟩) (by simp; omega)
 have n4' : ∀ y, u4 = some y -> u = some y \/ h.nq <= y := fun y hy => (n4 y hy).imp_right (fun e => by omega)
 have m5 := m4.same s5 (fun j hj e => by
  rcases e with e | e
  ·exact dis j (.inl e) hj
  ·rcases n4' j e with e2 | e2
   ·exact dis j (.inr (.inl e2)) hj
   ·have := hml j hj; omega)
 have sF : Aad h h5 (fun j => cg b u up j \/ cl bm um j) := ((((s1.mono (T := fun j => cg b u up j \/ cl bm um j) (fun _ e => e.elim)).trans s2 (fun j _ e => .inr (.inl e))).trans s3 (fun j hj e => by omega)).trans s4 (fun j _ e => .inl (e.elim .inl (fun e => .inr (.inl e))))).trans s5 (fun j hj e => by
  rcases e with e | e
  ·exact .inl (.inl e)
  ·rcases n4' j e with e2 | e2
   ·exact .inl (.inr (.inl e2))
   ·omega)
 have F6 := GNx.done hT HG g5
 obtain ⟨CF, hcf, g4⟩ := Ajb F4
 simp only [gkL] at q0
 simp only [SS, seval, af70, q0, Abi, ld0, Aaw, Abn, stA, p0, w0]
 refine ⟨_, _, F2', ?_⟩
 simp only [SS, seval, w3]
 refine ⟨CF, hcf, ?_⟩
 simp only [SS, seval, Abi, ld3, g4]
 refine ⟨_, _, F5, ?_⟩
 simp only [SS, seval]
 refine ⟨_, _, F6, ?_⟩
 simp only [SS, seval]
 rw [Aab h _ sF.mq]
 exact ⟨⟨u4, g5.mono (by omega), n4'⟩, m5, sF⟩
end
section
variable (hT : Aa0 P tab) (HS : Afx tab) (HK : Ae4 tab) (HG : Aep tab) (V : Aea tab) (H : Has tab) (V9 : Acg tab) (HM : Agf tab)
include hT HS HK HG V H V9 HM
theorem Ajv {h : Aac} {b bm rp : Nat} {at' key slot : Int} {B : Abr} {lv : Value} {Ls : List Abr} {u up um : Option Nat} {Q : List Pr} {m : PM} (a : Adp h b 1 B (pp rp) at' key lv Ls u Q up) (rr : Rcd h rp [I 0, I slot, I 0, I 0]) (hrp : ¬ cg b u up rp /\ ¬ cl bm um rp) (mm : Aa8 h bm um m) (fi : m.fine) (dis : ∀ j, cg b u up j -> ¬ cl bm um j) (hs : 0 <= slot /\ slot <= 1000000) {ad k : Nat} (a1 : 1 <= ad) (a2 : ad <= 65536) (k1 : 1 <= k) (k2 : k <= 4) (hw : m.get slot = (ad : Int) * 8 + k) :
  ∃ h1, Aa3 P 108 [(pp rp), (pp bm)] h (.bool true) h1 /\ Aa3 P 110 [(pp rp)] h1 (I ((ad : Int) * 8 + k)) h1 /\ Adp h1 b 1 B (pp rp) at' key lv Ls u Q up /\ Aa8 h1 bm um (m.tick slot) /\ Aad h h1 (fun j => j = rp \/ j = bm) := by
 obtain ⟨_, h1, F1, rfl, r1, m1, s1⟩ := Ar1 hT HS V H V9 HM rr mm fi hrp.2 (by omega) a1 a2 k1 k2 hw
 obtain ⟨_, _, F2, e20, e2⟩ := Arn hT HS r1
 rw [e2, e20] at F2
 exact ⟨h1, F1, F2, a.same s1 (fun j hj e => e.elim (fun e => hrp.1 (e ▸ hj)) (fun e => dis j hj (.inl e))), m1, s1⟩
theorem Ame {h : Aac} {b bm rp : Nat} {at' key slot : Int} {B : Abr} {lv : Value} {Ls : List Abr} {l : Abr} {u up um : Option Nat} {Q : List Pr} {m : PM} (a : Adp h b 1 B (pp rp) at' key lv (Ls ++ [l]) u Q up) (rr : Rcd h rp [I 0, I slot, I 0, I 0]) (hrp : ¬ cg b u up rp /\ ¬ cl bm um rp) (mm : Aa8 h bm um m) (fi : m.fine) (dis : ∀ j, cg b u up j -> ¬ cl bm um j) (hs : 0 <= slot /\ slot <= 1000000) (ok : ∀ l' ∈ Ls, l'.ok) (okl : l.ok) (hn : Ls.length < 90000) (hi : l.i + 1 < 100000) (hls : l.s + 1 < 100000) {ad k : Nat} (a1 : 1 <= ad) (a2 : ad <= 65536) (hk : k = 1 \/ k = 2 /\ (l.s : Int) < l.f) (hw : m.get slot = (ad : Int) * 8 + k) :
  Aah P 70 [(pp b), (pp bm)] h fun v h' => v = .bool (Ae9 (Ls ++ [l.more (k - 1)])).isEmpty /\ (∃ u', GNx h.nq h' b B ad key (Ls ++ [l.more (k - 1)]) u' Q up /\ ∀ y, u' = some y -> u = some y \/ h.nq <= y) /\ Aa8 h' bm um (m.tick slot) /\ Aad h h' (fun j => (cg b u up j \/ j = rp) \/ cl bm um j) := by
 refine Aaa hT HG.gstep rfl ?_
 obtain ⟨h1, F1, F2, b1, m1, s1⟩ := Ajv hT HS HK HG V H V9 HM a rr hrp mm fi dis hs a1 a2 (by omega) (by omega) hw
 have x1 := s1.nq
 obtain ⟨v3, h3, F3, ⟨u3, g3, n3⟩, s3⟩ := Avh hT HS HK HG V H b1 ok okl hn hi hls a1 a2 hk
 have m3 := m1.same s3 (fun j hj e => dis j (e.elim .inl (fun e => .inr (.inl e))) hj)
 have F4 := GNx.done hT HG g3
 have sF : Aad h h3 (fun j => (cg b u up j \/ j = rp) \/ cl bm um j) := (s1.mono (T := fun j => (cg b u up j \/ j = rp) \/ cl bm um j) (fun j e => e.elim (fun e => .inl (.inr e)) (fun e => .inr (.inl e)))).trans s3 (fun j _ e => .inl (.inl (e.elim .inl (fun e => .inr (.inl e)))))
 have q0 := a.rc.rd
 have q1 := b1.rc.rd
 simp only [gkL] at q0 q1
 simp only [SS, seval, af70, q0]
 refine ⟨_, _, F1, ?_⟩
 simp only [SS, seval, q1]
 refine ⟨_, _, F2, ?_⟩
 simp only [SS, seval]
 refine ⟨_, _, F3, ?_⟩
 simp only [SS, seval]
 refine ⟨_, _, F4, ?_⟩
 simp only [SS, seval]
 rw [Aab h _ sF.mq]
 exact ⟨⟨u3, g3.mono x1, fun y hy => (n3 y hy).imp_right (fun e => by omega)⟩, m3, sF⟩
theorem Aq4 {h : Aac} {b bm rp : Nat} {at' key slot : Int} {B : Abr} {lv : Value} {Ls : List Abr} {l : Abr} {u up um : Option Nat} {Q : List Pr} {m : PM} (a : Adp h b 1 B (pp rp) at' key lv (Ls ++ [l]) u Q up) (rr : Rcd h rp [I 0, I slot, I 0, I 0]) (hrp : ¬ cg b u up rp /\ ¬ cl bm um rp) (mm : Aa8 h bm um m) (fi : m.fine) (dis : ∀ j, cg b u up j -> ¬ cl bm um j) (hs : 0 <= slot /\ slot <= 1000000) (hn : Ls.length < 90000) {ad : Nat} (a1 : 1 <= ad) (a2 : ad <= 65536) (hf : l.f <= l.s) (hw : m.get slot = (ad : Int) * 8 + 2) :
  Aah P 70 [(pp b), (pp bm)] h fun v h' => v = .bool false /\ Adp h' b 2 B (pp rp) ad key lv (Ls ++ [l]) u Q up /\ Aa8 h' bm um (m.tick slot) /\ Aad h h' (fun j => (cg b u up j \/ j = rp) \/ cl bm um j) := by
 refine Aaa hT HG.gstep rfl ?_
 obtain ⟨h1, F1, F2, b1, m1, s1⟩ := Ajv hT HS HK HG V H V9 HM a rr hrp mm fi dis hs a1 a2 (k := 2) (by omega) (by omega) hw
 obtain ⟨v3, h3, F3, b3, s3⟩ := Avz hT HK HG V H b1 hn a1 a2 hf
 have m3 := m1.same s3 (fun j hj e => dis j (.inl e) hj)
 obtain ⟨_, _, F4, e40, e4⟩ := Adq hT HG b3
 rw [e4, e40] at F4
 have F4' : Aa3 P 113 [(pp b)] h3 (.bool false) h3 := F4
 have F2' : Aa3 P 110 [(pp rp)] h1 (I ((ad : Int) * 8 + 2)) h1 := F2
 have sF : Aad h h3 (fun j => (cg b u up j \/ j = rp) \/ cl bm um j) := (s1.mono (T := fun j => (cg b u up j \/ j = rp) \/ cl bm um j) (fun j e => e.elim (fun e => .inl (.inr e)) (fun e => .inr (.inl e)))).trans s3 (fun j _ e => .inl (.inl (.inl e)))
 have q0 := a.rc.rd
 have q1 := b1.rc.rd
 simp only [gkL] at q0 q1
 simp only [SS, seval, af70, q0]
 refine ⟨_, _, F1, ?_⟩
 simp only [SS, seval, q1]
 refine ⟨_, _, F2', ?_⟩
 simp only [SS, seval]
 refine ⟨_, _, F3, ?_⟩
 simp only [SS, seval]
 refine ⟨_, _, F4', ?_⟩
 simp only [SS, seval]
 rw [Aab h _ sF.mq]
 exact ⟨b3, m3, sF⟩
theorem Aqu {h : Aac} {b bm rp : Nat} {at' key slot : Int} {B : Abr} {lv : Value} {Ls : List Abr} {l : Abr} {u up um : Option Nat} {Q : List Pr} {m : PM} (a : Adp h b 1 B (pp rp) at' key lv (Ls ++ [l]) u Q up) (rr : Rcd h rp [I 0, I slot, I 0, I 0]) (hrp : ¬ cg b u up rp /\ ¬ cl bm um rp) (mm : Aa8 h bm um m) (fi : m.fine) (dis : ∀ j, cg b u up j -> ¬ cl bm um j) (hs : 0 <= slot /\ slot <= 1000000) (hn : Ls.length < 90000) {ad : Nat} (a1 : 1 <= ad) (a2 : ad <= 65536) (hw : m.get slot = (ad : Int) * 8 + 3) :
  Aah P 70 [(pp b), (pp bm)] h fun v h' => v = .bool false /\ Adp h' b 5 B (pp rp) ad key lv (Ls ++ [l]) u Q up /\ Aa8 h' bm um (m.tick slot) /\ Aad h h' (fun j => (cg b u up j \/ j = rp) \/ cl bm um j) := by
 refine Aaa hT HG.gstep rfl ?_
 obtain ⟨h1, F1, F2, b1, m1, s1⟩ := Ajv hT HS HK HG V H V9 HM a rr hrp mm fi dis hs a1 a2 (k := 3) (by omega) (by omega) hw
 obtain ⟨v3, h3, F3, b3, s3⟩ := Ark hT HK HG V H b1 hn a1 a2
 have m3 := m1.same s3 (fun j hj e => dis j (.inl e) hj)
 obtain ⟨_, _, F4, e40, e4⟩ := Adq hT HG b3
 rw [e4, e40] at F4
 have F4' : Aa3 P 113 [(pp b)] h3 (.bool false) h3 := F4
 have F2' : Aa3 P 110 [(pp rp)] h1 (I ((ad : Int) * 8 + 3)) h1 := F2
 have sF : Aad h h3 (fun j => (cg b u up j \/ j = rp) \/ cl bm um j) := (s1.mono (T := fun j => (cg b u up j \/ j = rp) \/ cl bm um j) (fun j e => e.elim (fun e => .inl (.inr e)) (fun e => .inr (.inl e)))).trans s3 (fun j _ e => .inl (.inl (.inl e)))
 have q0 := a.rc.rd
 have q1 := b1.rc.rd
 simp only [gkL] at q0 q1
 simp only [SS, seval, af70, q0]
 refine ⟨_, _, F1, ?_⟩
 simp only [SS, seval, q1]
 refine ⟨_, _, F2', ?_⟩
 simp only [SS, seval]
 refine ⟨_, _, F3, ?_⟩
 simp only [SS, seval]
 refine ⟨_, _, F4', ?_⟩
 simp only [SS, seval]
 rw [Aab h _ sF.mq]
 exact ⟨b3, m3, sF⟩
theorem A6o {h : Aac} {b bm : Nat} {key x : Int} {at' : Nat} {B : Abr} {pk lv : Value} {Ls : List Abr} {u up um : Option Nat} {Q : List Pr} {m : PM} (a : Adp h b 2 B pk at' key lv Ls u Q up) (mm : Aa8 h bm um m) (fi : m.fine) (dis : ∀ j, cg b u up j -> ¬ cl bm um j) (ha : at' <= 65536) (hx : m.get (at' : Int) = x) :
  Aah P 70 [(pp b), (pp bm)] h fun v h' => v = .bool false /\ Adp h' b 3 B pk at' x lv Ls u Q up /\ Aa8 h' bm um (m.tick (at' : Int)) /\ Aad h h' (fun j => cg b u up j \/ cl bm um j) := by
 refine Aaa hT HG.gstep rfl ?_
 have w0 : Aan .i64 ((at' : Int) + 0) = (at' : Int) := by rw [Aav] <;> omega
 obtain ⟨_, h1, F1, rfl, m1, s1⟩ := Abm hT V9 HM mm fi (at' : Int) (by omega)
 have F1' : Aa3 P 64 [(pp bm), I (at' : Int)] h (I x) h1 := by rw [<- hx]; exact F1
 have m1 : Aa8 h1 bm um (m.tick (at' : Int)) := m1
 have b1 := a.same s1 (fun j hj e => dis j hj (.inl e))
 have w1 := b1.rc.wr 9 (I x) (by simp [gkL]) (Aat _ _)
 have w2 : (h1.setR b ((gkL 2 B pk at' key lv (Aal up Q.length)).set 9 (I x))).wrs b 0 [I 3] = some (h1.setR b (gkL 3 B pk at' x lv (Aal up Q.length))) := Abp h1 b ((gkL 2 B pk at' key lv (Aal up Q.length)).set 9 (I x)) 0 (I 3) (by simp [gkL]) (Aat _ _)
 have b2 := b1.set 3 B pk at' x b1.sc
 have m2 := m1.same (Aad.setR (L := gkL 3 B pk at' x lv (Aal up Q.length)) (S := (· = b)) rfl) (fun j hj e => dis j (.inl e) hj)
 have sF : Aad h (h1.setR b (gkL 3 B pk at' x lv (Aal up Q.length))) (fun j => cg b u up j \/ cl bm um j) := (s1.mono (T := fun j => cg b u up j \/ cl bm um j) (fun j e => .inr (.inl e))).trans (Aad.setR (S := (· = b)) rfl) (fun j _ e => .inl (.inl e))
 obtain ⟨_, _, F4, e40, e4⟩ := Adq hT HG b2
 rw [e4, e40] at F4
 have F4' : Aa3 P 113 [(pp b)] (h1.setR b (gkL 3 B pk at' x lv (Aal up Q.length))) (.bool false) (h1.setR b (gkL 3 B pk at' x lv (Aal up Q.length))) := F4
 have q0 := a.rc.rd
 have r0 : h.rd b 0 = some (I 2) := by rw [q0]; rfl
 have r8 : h.rd b 8 = some (I at') := by rw [q0]; rfl
 simp only [SS, seval, af70, r0, r8, w0]
 refine ⟨_, _, F1', ?_⟩
 simp only [SS, seval, w1, w2]
 refine ⟨_, _, F4', ?_⟩
 simp only [SS, seval]
 rw [Aab h _ sF.mq]
 exact ⟨b2, m2, sF⟩
theorem Arr {h : Aac} {b bm : Nat} {key : Int} {at' : Nat} {B : Abr} {pk lv : Value} {Ls : List Abr} {l : Abr} {u up um : Option Nat} {Q : List Pr} {m : PM} (a : Adp h b 5 B pk at' key lv (Ls ++ [l]) u Q up) (mm : Aa8 h bm um m) (fi : m.fine) (dis : ∀ j, cg b u up j -> ¬ cl bm um j) (ha : at' <= 65536) (ok : ∀ l' ∈ Ls, l'.ok) (okl : l.ok) (hn : Ls.length < 90000) (hi : l.i + 1 < 100000) (x : Nat) (hls : l.s + x < 100000) (hx : m.get ((at' : Int) + 4) = (x : Int) + 1) (hf : (l.s : Int) + x <= l.f) :
  Aah P 70 [(pp b), (pp bm)] h fun v h' => v = .bool (Ae9 (Ls ++ [l.more x])).isEmpty /\ (∃ u', GNx h.nq h' b B at' key (Ls ++ [l.more x]) u' Q up /\ ∀ y, u' = some y -> u = some y \/ h.nq <= y) /\ Aa8 h' bm um (m.tick ((at' : Int) + 4)) /\ Aad h h' (fun j => cg b u up j \/ cl bm um j) := by
 refine Aaa hT HG.gstep rfl ?_
 have w0 : Aan .i64 ((at' : Int) + 4) = (at' : Int) + 4 := by rw [Aav] <;> omega
 have w9 : Aan .i64 ((x : Int) + 1 - 1) = (x : Int) := by rw [Aav] <;> omega
 obtain ⟨_, h1, F1, rfl, m1, s1⟩ := Abm hT V9 HM mm fi ((at' : Int) + 4) (by omega)
 have F1' : Aa3 P 64 [(pp bm), I ((at' : Int) + 4)] h (I ((x : Int) + 1)) h1 := by rw [<- hx]; exact F1
 have m1 : Aa8 h1 bm um (m.tick ((at' : Int) + 4)) := m1
 have b1 := a.same s1 (fun j hj e => dis j hj (.inl e))
 have x1 := s1.nq
 obtain ⟨v2, h2, F2, ⟨u2, g2, n2⟩, s2⟩ := Aqx hT HS HK HG V b1 ok okl hn hi x hls hf
 have m2 := m1.same s2 (fun j hj e => dis j (e.elim .inl (fun e => .inr (.inl e))) hj)
 have F4 := GNx.done hT HG g2
 have sF : Aad h h2 (fun j => cg b u up j \/ cl bm um j) := (s1.mono (T := fun j => cg b u up j \/ cl bm um j) (fun j e => .inr (.inl e))).trans s2 (fun j _ e => .inl (e.elim .inl (fun e => .inr (.inl e))))
 have q0 := a.rc.rd
 have r0 : h.rd b 0 = some (I 5) := by rw [q0]; rfl
 have r8 : h.rd b 8 = some (I at') := by rw [q0]; rfl
 simp only [SS, seval, af70, r0, r8, w0]
 refine ⟨_, _, F1', ?_⟩
 simp only [SS, seval, w9]
 refine ⟨_, _, F2, ?_⟩
 simp only [SS, seval]
 refine ⟨_, _, F4, ?_⟩
 simp only [SS, seval]
 rw [Aab h _ sF.mq]
 exact ⟨⟨u2, g2.mono x1, fun y hy => (n2 y hy).imp_right (fun e => by omega)⟩, m2, sF⟩
theorem Ax7 {h : Aac} {b bm : Nat} {key : Int} {at' : Nat} {B : Abr} {pk lv : Value} {Ls : List Abr} {l : Abr} {u up um : Option Nat} {Q : List Pr} {m : PM} (a : Adp h b 5 B pk at' key lv (Ls ++ [l]) u Q up) (mm : Aa8 h bm um m) (fi : m.fine) (dis : ∀ j, cg b u up j -> ¬ cl bm um j) (ha : at' <= 65536) (okl : l.ok) (hn : Ls.length < 90000) (x : Nat) (hls : l.s + x < 100000) (hx : m.get ((at' : Int) + 4) = (x : Int) + 1) (hf : l.f < (l.s : Int) + x) (ht : l.s <= l.t) :
  Aah P 70 [(pp b), (pp bm)] h fun v h' => v = .bool false /\ (∃ lv' u', Adp h' b 0 ⟨at', 0, 0, 0, l.f - l.s, l.t - l.s⟩ pk at' key lv' (Ls ++ [l.more x]) u' Q up /\ ∀ y, u' = some y -> u = some y \/ h.nq <= y) /\ Aa8 h' bm um (m.tick ((at' : Int) + 4)) /\ Aad h h' (fun j => cg b u up j \/ cl bm um j) := by
 refine Aaa hT HG.gstep rfl ?_
 have w0 : Aan .i64 ((at' : Int) + 4) = (at' : Int) + 4 := by rw [Aav] <;> omega
 have w9 : Aan .i64 ((x : Int) + 1 - 1) = (x : Int) := by rw [Aav] <;> omega
 obtain ⟨_, h1, F1, rfl, m1, s1⟩ := Abm hT V9 HM mm fi ((at' : Int) + 4) (by omega)
 have F1' : Aa3 P 64 [(pp bm), I ((at' : Int) + 4)] h (I ((x : Int) + 1)) h1 := by rw [<- hx]; exact F1
 have m1 : Aa8 h1 bm um (m.tick ((at' : Int) + 4)) := m1
 have b1 := a.same s1 (fun j hj e => dis j hj (.inl e))
 have x1 := s1.nq
 obtain ⟨v2, h2, F2, ⟨lv2, u2, b2, n2⟩, s2⟩ := Azw hT HK HG b1 okl hn x hls hf ht
 have m2 := m1.same s2 (fun j hj e => dis j (e.elim .inl (fun e => .inr (.inl e))) hj)
 obtain ⟨_, _, F4, e40, e4⟩ := Adq hT HG b2
 rw [e4, e40] at F4
 have F4' : Aa3 P 113 [(pp b)] h2 (.bool false) h2 := F4
 have sF : Aad h h2 (fun j => cg b u up j \/ cl bm um j) := (s1.mono (T := fun j => cg b u up j \/ cl bm um j) (fun j e => .inr (.inl e))).trans s2 (fun j _ e => .inl (e.elim .inl (fun e => .inr (.inl e))))
 have q0 := a.rc.rd
 have r0 : h.rd b 0 = some (I 5) := by rw [q0]; rfl
 have r8 : h.rd b 8 = some (I at') := by rw [q0]; rfl
 simp only [SS, seval, af70, r0, r8, w0]
 refine ⟨_, _, F1', ?_⟩
 simp only [SS, seval, w9]
 refine ⟨_, _, F2, ?_⟩
 simp only [SS, seval]
 refine ⟨_, _, F4', ?_⟩
 simp only [SS, seval]
 rw [Aab h _ sF.mq]
 exact ⟨⟨lv2, u2, b2, fun y hy => (n2 y hy).imp_right (fun e => by omega)⟩, m2, sF⟩
end
section
variable (hT : Aa0 P tab) (HS : Afx tab) (HK : Ae4 tab) (HG : Aep tab) (V : Aea tab) (H : Has tab) (V9 : Acg tab) (HM : Agf tab)
include hT HS HK HG V H V9 HM
theorem A6g {h : Aac} {b bm : Nat} {key x : Int} {at' : Nat} {B : Abr} {pk lv : Value} {Ls : List Abr} {l : Abr} {u up um : Option Nat} {Q : List Pr} {m : PM} (a : Adp h b 3 B pk at' key lv (Ls ++ [l]) u Q up) (mm : Aa8 h bm um m) (fi : m.fine) (dis : ∀ j, cg b u up j -> ¬ cl bm um j) (ha : at' <= 65536) (hQ : Q.length < 100000) (ok : ∀ l' ∈ Ls, l'.ok) (okl : l.ok) (hn : Ls.length < 90000) (hi : l.i + 1 < 100000) (hls : l.s + 1 < 100000) (hx : m.get ((at' : Int) + 1) = x) :
  Aah P 70 [(pp b), (pp bm)] h fun v h' => v = .bool (Ae9 (Ls ++ [l.more 1])).isEmpty /\ (∃ u' up', GNx h.nq h' b B at' key (Ls ++ [l.more 1]) u' (Q ++ [(key, x)]) up' /\ (∀ y, u' = some y -> u = some y \/ h.nq <= y) /\ (∀ y, up' = some y -> up = some y \/ h.nq <= y)) /\ Aa8 h' bm um (m.tick ((at' : Int) + 1)) /\ Aad h h' (fun j => cg b u up j \/ cl bm um j) := by
 refine Aaa hT HG.gstep rfl ?_
 have hml := mm.lt
 have hal := a.lt
 have w0 : Aan .i64 ((at' : Int) + 1) = (at' : Int) + 1 := by rw [Aav] <;> omega
 obtain ⟨_, h1, F1, rfl, m1, s1⟩ := Abm hT V9 HM mm fi ((at' : Int) + 1) (by omega)
 have F1' : Aa3 P 64 [(pp bm), I ((at' : Int) + 1)] h (I x) h1 := by rw [<- hx]; exact F1
 have m1 : Aa8 h1 bm um (m.tick ((at' : Int) + 1)) := m1
 have b1 := a.same s1 (fun j hj e => dis j hj (.inl e))
 have x1 := s1.nq
 have s2 : Aad h1 (h1.new ⟨[I key, I x], 1 * 2, 2, true, false⟩) (fun _ => False) := Aad.new
 have c2 : Abq (h1.new ⟨[I key, I x], 1 * 2, 2, true, false⟩) h1.nq 0 2 1 1 [I key, I x] := Abq.fresh h1 [I key, I x] 1 2 true false (by simp)
 have x2 : (h1.new ⟨[I key, I x], 1 * 2, 2, true, false⟩).nq = h1.nq + 1 := rfl
 have b2 := b1.same s2 (fun _ _ x => x)
 have m2 := m1.same s2 (fun _ _ x => x)
 have fl : Aew [.int .i64 0, .int .i64 0] [(0, 2, .agg (List.toArray [I key, I x]))] = some [I key, I x] := Ama rfl rfl
 generalize hh2 : h1.new ⟨[I key, I x], 1 * 2, 2, true, false⟩ = h2 at s2 c2 x2 b2 m2
 obtain ⟨up3, h3, e3, o3, s3, n3⟩ := Ad5 (bytes := 16) b2.pr c2.src rfl rfl (by omega) (by omega) (by omega)
 have x3 := s3.nq
 have rc3 := b2.rc.same s3 (fun e => b2.pb e)
 have st3 := b2.st.same s3 (fun y hy e => b2.up y hy e)
 have m3 := m2.same s3 (fun j hj e => dis j (.inr (.inr e)) hj)
 have n3' : ∀ y, up3 = some y -> up = some y \/ h.nq <= y := fun y hy => (n3 y hy).imp_right (fun e => by omega)
 have pb3 : up3 ≠ some b := fun e => by
  rcases n3' b e with e2 | e2
  ·exact a.pb e2
  ·have := hal b (.inl rfl); omega
 have vs : Aas (Aal up3 (Q.length + 1)) = true := by cases up3 <;> exact Ab4 _ _ _
 have w4 := rc3.wr 11 (Aal up3 (Q.length + 1)) (by simp [gkL]) vs
 have s4 : Aad h3 (h3.setR b (gkL 3 B pk at' key lv (Aal up3 (Q.length + 1)))) (· = b) := Aad.setR rfl
 have rc4 : Rcd (h3.setR b (gkL 3 B pk at' key lv (Aal up3 (Q.length + 1)))) b (gkL 3 B pk at' key lv (Aal up3 (Q.length + 1))) := Rcd.set _ rc3.lt
 have st4 := st3.same s4 (fun y hy e => a.ub (by rw [hy, e]))
 have m4 := m3.same s4 (fun j hj e => dis j (.inl e) hj)
 have w4 : h3.wrs b 11 [Aal up3 (Q.length + 1)] = some (h3.setR b (gkL 3 B pk at' key lv (Aal up3 (Q.length + 1)))) := w4
 have x4 : (h3.setR b (gkL 3 B pk at' key lv (Aal up3 (Q.length + 1)))).nq = h3.nq := rfl
 generalize h3.setR b (gkL 3 B pk at' key lv (Aal up3 (Q.length + 1))) = h4 at w4 s4 rc4 st4 m4 x4
 have fe : Ady (Q ++ [(key, x)]) = Ady Q ++ [I key, I x] := by rw [Ah2]; rfl
 have le : (Q ++ [(key, x)]).length = Q.length + 1 := by simp
 have b4 : Adp h4 b 3 B pk at' key lv (Ls ++ [l]) u (Q ++ [(key, x)]) up3 := ⟨by rw [le]; exact rc4, st4, by
   rw [le, fe]
   exact ⟨fun y hy => by
    obtain ⟨q1, q2, q3⟩ := o3.use y hy
    exact ⟨by rw [s4.get y q2 (fun e => pb3 (by rw [hy, e]))]; exact q1, Nat.lt_of_lt_of_le q2 s4.nq, q3⟩, o3.non, o3.len, o3.sc⟩, a.ub, pb3, fun y hy e => by
   rcases n3' y e with e2 | e2
   ·exact a.up y hy e2
   ·have := hal y (.inr (.inl hy)); omega, a.sc⟩
 have s04 : Aad h h4 (fun j => cg b u up j \/ cl bm um j) := (((s1.mono (T := fun j => cg b u up j \/ cl bm um j) (fun j e => .inr (.inl e))).trans s2 (fun _ _ x => x.elim)).trans s3 (fun j _ e => .inl (.inr (.inr e)))).trans s4 (fun j _ e => .inl (.inl e))
 obtain ⟨h5, v6, h6, F5, F6, ⟨u6, g6, n6⟩, s6, _⟩ := Aks hT HS HK HG V b4 ok okl hn 1 hls hi
 have m6 := m4.same s6 (fun j hj e => dis j (e.elim .inl (fun e => .inr (.inl e))) hj)
 have sF : Aad h h6 (fun j => cg b u up j \/ cl bm um j) := s04.trans s6 (fun j _ e => .inl (e.elim .inl (fun e => .inr (.inl e))))
 have F7 := GNx.done hT HG g6
 have F5' : Aa3 P 111 [(pp b), I 1] h4 (.agg l.L.toArray) h5 := F5
 have q0 := a.rc.rd
 have r0 : h.rd b 0 = some (I 3) := by rw [q0]; rfl
 have r8 : h.rd b 8 = some (I at') := by rw [q0]; rfl
 have r9 : h.rd b 9 = some (I key) := by rw [q0]; rfl
 have r11 : h.rd b 11 = some (Aal up Q.length) := by rw [q0]; rfl
 have J1r : ∀ i : Nat, i = 8 \/ i = 9 \/ i = 11 -> h1.rd b i = h.rd b i := fun i _ => by rw [b1.rc.rd, q0]
 have J2r : ∀ i : Nat, i = 8 \/ i = 9 \/ i = 11 -> h2.rd b i = h.rd b i := fun i _ => by rw [b2.rc.rd, q0]
 have J3r : ∀ i : Nat, i = 8 \/ i = 9 \/ i = 11 -> h3.rd b i = h.rd b i := fun i _ => by rw [rc3.rd, q0]
 let J : Nat -> Aac -> Prop := fun i k => i <= 3 -> k.rd b 8 = some (I at') /\ k.rd b 9 = some (I key) /\ k.rd b 11 = some (Aal up Q.length)
 have j0 : J 0 h := fun _ => ⟨r8, r9, r11⟩
 have j1 : J 1 h1 := fun _ => ⟨by rw [J1r 8 (.inl rfl)]; exact r8, by rw [J1r 9 (.inr (.inl rfl))]; exact r9, by rw [J1r 11 (.inr (.inr rfl))]; exact r11⟩
 have j2 : J 2 h2 := fun _ => ⟨by rw [J2r 8 (.inl rfl)]; exact r8, by rw [J2r 9 (.inr (.inl rfl))]; exact r9, by rw [J2r 11 (.inr (.inr rfl))]; exact r11⟩
 have j3 : J 3 h3 := fun _ => ⟨by rw [J3r 8 (.inl rfl)]; exact r8, by rw [J3r 9 (.inr (.inl rfl))]; exact r9, by rw [J3r 11 (.inr (.inr rfl))]; exact r11⟩
 have j4 : J 4 h4 := fun h => by omega
 have jr : ∀ j k, 0 <= j -> j <= 3 -> J j k -> k.rd b 8 = some (I at') /\ k.rd b 9 = some (I key) /\ k.rd b 11 = some (Aal up Q.length) := fun j k _ hj q => q hj
 have vv : veq (Aal up Q.length) (Aal up Q.length) = true := by cases up <;> exact Ag5 _ _ _
 clear_value J
 obtain ⟨CF, hcf, g1⟩ := Ajb F1'
 simp only [SS, seval, af70, r0]
 refine Adz J CF hcf j0 ?_
 simp only [SS, seval, Aiv, w_p, w_r, w_e, Afl, Awg, Ain, Afr, Ad3, r8, r9, r11, w0, g1, fl, hh2, e3, w4, vs, vv, Ac4]
 refine ⟨fun j k p q r => (jr j k p (by omega) r).2.2, fun j k p q r => (jr j k p (by omega) r).2.1, fun j k p q r => (jr j k p (by omega) r).1, j1, j2, j3, j4, ?_⟩
 refine ⟨_, _, F5', ?_⟩
 simp only [SS, seval]
 refine ⟨_, _, F6, ?_⟩
 simp only [SS, seval]
 refine ⟨_, _, F7, ?_⟩
 simp only [SS, seval]
 rw [Aab h _ sF.mq]
 exact ⟨⟨u6, up3, g6.mono (by omega), fun y hy => (n6 y hy).imp_right (fun e => by omega), n3'⟩, m6, sF⟩
end
def pick (l : List Pr) (f t : Int) : List Pr := (l.take t.toNat).drop f.toNat
theorem Asr (A B : List Pr) (f t : Int) : pick (A ++ B) f t = pick A f t ++ pick B (f - A.length) (t - A.length) := by
 unfold pick
 rw [List.take_append, List.drop_append, show (t - (A.length : Int)).toNat = t.toNat - A.length by omega, List.length_take]
 by_cases h : A.length <= t.toNat
 ·rw [show f.toNat - min t.toNat A.length = (f - (A.length : Int)).toNat by omega]
 ·rw [show t.toNat - A.length = 0 by omega]
  simp
theorem Asv (f t : Int) : pick [] f t = [] := by simp [pick]
theorem Aqr {l : List Pr} {f t : Int} (h : (l.length : Int) <= f) : pick l f t = [] := by
 unfold pick
 rw [List.drop_eq_nil_iff, List.length_take]; omega
theorem Ayy {l : List Pr} {f t : Int} (h : t <= 0) : pick l f t = [] := by
 unfold pick
 rw [show t.toNat = 0 by omega]; simp
theorem As9 {p : Pr} {f t : Int} (h : f <= 0) (h2 : 1 <= t) : pick [p] f t = [p] := by
 unfold pick
 rw [show f.toNat = 0 by omega, List.drop_zero, List.take_of_length_le (by simp; omega)]
structure Tk (m m' : PM) (k : Nat) : Prop where
 C : m'.C = m.C
 z : m'.z = m.z
 o : m'.o = m.o
 r : m'.r = m.r
 c0 : m.c <= m'.c
 c1 : m'.c <= m.c + k
theorem Tk.refl (m : PM) : Tk m m 0 := ⟨rfl, rfl, rfl, rfl, by omega, by omega⟩
theorem Tk.trans {m m' m'' : PM} {k k' : Nat} (a : Tk m m' k) (b : Tk m' m'' k') : Tk m m'' (k + k') := ⟨by rw [b.C, a.C], by rw [b.z, a.z], by rw [b.o, a.o], by rw [b.r, a.r], by have := a.c0; have := b.c0; omega, by have := a.c1; have := b.c1; omega⟩
theorem Tk.mono {m m' : PM} {k k' : Nat} (a : Tk m m' k) (h : k <= k') : Tk m m' k' := ⟨a.C, a.z, a.o, a.r, a.c0, by have := a.c1; omega⟩
theorem Tk.fine {m m' : PM} {k : Nat} (a : Tk m m' k) (f : m.fine) (hc : m.c + k < 1000000000) : m'.fine := ⟨by rw [a.z]; exact f.z0, by rw [a.z]; exact f.z1, by rw [a.C, a.z]; exact f.len, ⟨by have := a.c0; have := f.c; omega, by have := a.c1; omega⟩, by rw [a.o]; exact f.o, by rw [a.r]; exact f.r⟩
theorem Add {m : PM} {y : Int} (h1 : 1 <= y) (h2 : y <= m.C.length) : Tk m (m.tick y) 1 := by
 rw [PM.tick_in ⟨h1, h2⟩]
 exact ⟨rfl, rfl, rfl, rfl, by simp; omega, by simp⟩
structure GkC (n0 : Nat) (S : Nat -> Prop) (h : Aac) (b bm : Nat) (u up um : Option Nat) (m : PM) : Prop where
 mm : Aa8 h bm um m
 f : m.fine
 su : ∀ j, cg b u up j -> S j
 sm : ∀ j, cl bm um j -> S j
 s0 : ∀ j, n0 <= j -> S j
 bml : ∀ j, cl bm um j -> j < n0
 d : ∀ j, cg b u up j -> ¬ cl bm um j
 nx : n0 <= h.nq
theorem GkC.nq {n0 : Nat} {S : Nat -> Prop} {h h' : Aac} {b bm : Nat} {u u' up up' um : Option Nat} {m m' : PM} (c : GkC n0 S h b bm u up um m) (mm : Aa8 h' bm um m') (f : m'.fine) (hu : ∀ y, u' = some y -> u = some y \/ h.nq <= y) (hp : ∀ y, up' = some y -> up = some y \/ h.nq <= y) (s : h.nq <= h'.nq) : GkC n0 S h' b bm u' up' um m' := by
 have nx := c.nx
 refine ⟨mm, f, fun j hj => ?_, c.sm, c.s0, c.bml, fun j hj e => ?_, by omega⟩
 ·rcases hj with hj | hj | hj
  ·exact c.su j (.inl hj)
  ·rcases hu j hj with e | e
   ·exact c.su j (.inr (.inl e))
   ·exact c.s0 j (by omega)
  ·rcases hp j hj with e | e
   ·exact c.su j (.inr (.inr e))
   ·exact c.s0 j (by omega)
 ·rcases hj with hj | hj | hj
  ·exact c.d j (.inl hj) e
  ·rcases hu j hj with e2 | e2
   ·exact c.d j (.inr (.inl e2)) e
   ·have := c.bml j e; omega
  ·rcases hp j hj with e2 | e2
   ·exact c.d j (.inr (.inr e2)) e
   ·have := c.bml j e; omega
def Adm (P : Program) (f : Nat) (args : List Value) (S : Nat -> Prop) (N : Nat) (h h' : Aac) (d : Bool) : Prop := ∃ h1 k, k < N /\ Ab3 P f args S h h1 k /\ Aa3 P f args h1 (.bool d) h' /\ Aad h1 h' S
theorem Adm.chain {P : Program} {f : Nat} {args : List Value} {S : Nat -> Prop} {N : Nat} {h h' : Aac} {d : Bool} (r : Adm P f args S N h h' d) (e : d = false) : ∃ k, k <= N /\ Ab3 P f args S h h' k := by
 obtain ⟨h1, k, hk, c, F, s⟩ := r
 subst e
 exact ⟨k + 1, hk, c.app (.one F s)⟩
theorem Ab3.to {P : Program} {f : Nat} {args : List Value} {S : Nat -> Prop} {N : Nat} {h h' h'' : Aac} {k : Nat} {d : Bool} (c : Ab3 P f args S h h' k) (r : Adm P f args S N h' h'' d) : Adm P f args S (k + N) h h'' d := by
 obtain ⟨h1, k1, hk, c1, F, s⟩ := r
 exact ⟨h1, k + k1, by omega, c.app c1, F, s⟩
theorem Adm.le {P : Program} {f : Nat} {args : List Value} {S : Nat -> Prop} {N N' : Nat} {h h' : Aac} {d : Bool} (r : Adm P f args S N h h' d) (e : N <= N') : Adm P f args S N' h h' d := by
 obtain ⟨h1, k, hk, c, F, s⟩ := r
 exact ⟨h1, k, by omega, c, F, s⟩
theorem Adm.one {P : Program} {f : Nat} {args : List Value} {S : Nat -> Prop} {h h' : Aac} {d : Bool} (F : Aa3 P f args h (.bool d) h') (s : Aad h h' S) : Adm P f args S 1 h h' d := ⟨h, 0, by omega, .nil h, F, s⟩
def A7r (P : Program) (n0 : Nat) (S : Nat -> Prop) (h : Aac) (b bm : Nat) (um : Option Nat) (m : PM) (Ls : List Abr) (Q : List Pr) (kk : Nat) : Prop :=
 ∃ h' u' up' m' B' at2 key', Adm P 70 [(pp b), (pp bm)] S kk h h' (Ae9 Ls).isEmpty /\ GkC n0 S h' b bm u' up' um m' /\ GNx n0 h' b B' at2 key' Ls u' Q up' /\ Tk m m' kk
def Ajm (P : Program) (t : Tr) : Prop := ∀ (l : List Pr), (t.old /\ t.content = l) -> l.length <= 200 -> ∀ (n0 : Nat) (S : Nat -> Prop) (h : Aac) (b bm rp : Nat) (u up um : Option Nat) (m : PM) (B : Abr) (at' key : Int) (lv : Value) (Ls : List Abr) (l0 : Abr) (slot : Nat) (Q : List Pr),
 GkC n0 S h b bm u up um m -> Adp h b 1 B (pp rp) at' key lv (Ls ++ [l0]) u Q up -> Rcd h rp [I 0, I slot, I 0, I 0] -> (¬ cg b u up rp /\ n0 <= rp) -> (∀ l' ∈ Ls, l'.ok) -> l0.ok -> l0.live -> Ls.length + t.deep <= 290 -> (l0.i <= 300 /\ l0.s + l.length <= 300 /\ l0.t <= 300 /\ -(300 * ((Ls.length : Int) + 1)) <= l0.f /\ l0.f <= 300) -> Q.length + l.length < 90000 ->
 t.shut.ok m.C -> at0 m.C slot = t.word -> (1 <= slot /\ slot <= m.C.length) -> m.c + 4 * t.adrs.length < 1000000000 ->
 A7r P n0 S h b bm um m (Ls ++ [l0.more l.length]) (Q ++ pick l (l0.f - l0.s) ((l0.t : Int) - l0.s)) (4 * t.adrs.length)
section
variable (hT : Aa0 P tab) (HS : Afx tab) (HK : Ae4 tab) (HG : Aep tab) (V : Aea tab) (H : Has tab) (V9 : Acg tab) (HM : Agf tab)
include hT HS HK HG V H V9 HM
theorem Anq (ad : Nat) : Ajm P (.empty ad) := by
 intro l hf hl n0 S h b bm rp u up um m B at' key lv Ls l0 slot Q c a rr hrp ok okl lvl hLs hb hQ hok hw hsl hc
 have f1 := c.f.len
 have f2 := c.f.z1
 obtain ⟨q1, q2⟩ := hok
 have : l = [] := hf.2.symm
 subst this
 have hrm : ¬ cl bm um rp := fun e => by have := c.bml rp e; omega
 obtain ⟨_, h', F, rfl, ⟨u', g, hu'⟩, m', s'⟩ := Ame hT HS HK HG V H V9 HM a rr ⟨hrp.1, hrm⟩ c.mm c.f c.d (by omega) ok okl (by omega) (by omega) (by simp at hb; omega) (ad := ad) (k := 1) q1 (by omega) (.inl rfl) (by rw [PM.get_at0, hw]; rfl)
 have tk := Add (m := m) (y := slot) (by omega) (by omega)
 rw [Asv, List.append_nil]
 refine ⟨h', u', up, _, B, ad, key, (Adm.one F (s'.mono (fun j e => ?_))).le (by simp [Tr.adrs]), c.nq m' (tk.fine c.f (by simp [Tr.adrs] at hc; omega)) hu' (fun y hy => .inl hy) s'.nq, g.mono c.nx, tk.mono (by simp [Tr.adrs])⟩
 rcases e with (e | e) | e
 ·exact c.su j e
 ·exact c.s0 j (by omega)
 ·exact c.sm j e
theorem Ao3 (ad : Nat) (k v : Int) : Ajm P (.leaf ad k v) := by
 intro l hf hl n0 S h b bm rp u up um m B at' key lv Ls l0 slot Q c a rr hrp ok okl lvl hLs hb hQ hok hw hsl hc
 have f1 := c.f.len
 have f2 := c.f.z1
 obtain ⟨q1, q2, q3, q4⟩ := hok
 have : l = [(k, v)] := hf.2.symm
 subst this
 simp only [List.length_singleton] at hb hLs ⊢
 have hadl : (Tr.leaf ad k v).adrs.length = 2 := by simp [Tr.adrs]
 rw [hadl] at hc ⊢
 have hrm : ¬ cl bm um rp := fun e => by have := c.bml rp e; omega
 have hl2 := lvl.2
 have tk := Add (m := m) (y := slot) (by omega) (by omega)
 have hS : ∀ j, (cg b u up j \/ j = rp) \/ cl bm um j -> S j := fun j e => by
  rcases e with (e | e) | e
  ·exact c.su j e
  ·exact c.s0 j (by omega)
  ·exact c.sm j e
 by_cases hp : (l0.s : Int) < l0.f
 ·obtain ⟨_, h', F, rfl, ⟨u', g, hu'⟩, m', s'⟩ := Ame hT HS HK HG V H V9 HM a rr ⟨hrp.1, hrm⟩ c.mm c.f c.d (by omega) ok okl (by omega) (by omega) (by omega) (ad := ad) (k := 2) q1 (by omega) (.inr ⟨rfl, hp⟩) (by rw [PM.get_at0, hw]; rfl)
  rw [Aqr (by simp; omega), List.append_nil]
  exact ⟨h', u', up, _, B, ad, key, (Adm.one F (s'.mono hS)).le (by omega), c.nq m' (tk.fine c.f (by omega)) hu' (fun y hy => .inl hy) s'.nq, g.mono c.nx, tk.mono (by omega)⟩
 ·rw [As9 (by omega) (by omega)]
  obtain ⟨_, h1, F1, rfl, b1, m1, s1⟩ := Aq4 hT HS HK HG V H V9 HM a rr ⟨hrp.1, hrm⟩ c.mm c.f c.d (by omega) (by omega) (ad := ad) q1 (by omega) (by omega) (by rw [PM.get_at0, hw]; rfl)
  have c1 := c.nq (u' := u) (up' := up) m1 (tk.fine c.f (by omega)) (fun y hy => .inl hy) (fun y hy => .inl hy) s1.nq
  obtain ⟨_, h2, F2, rfl, b2, m2, s2⟩ := A6o hT HS HK HG V H V9 HM b1 c1.mm c1.f c1.d (x := k) (by omega) (by rw [PM.get_at0, tk.C]; exact q3)
  have tk2 := tk.trans (Add (m := m.tick slot) (y := ad) (by omega) (by rw [tk.C]; omega))
  have c2 := c1.nq (u' := u) (up' := up) m2 (tk2.fine c.f (by omega)) (fun y hy => .inl hy) (fun y hy => .inl hy) s2.nq
  obtain ⟨_, h3, F3, rfl, ⟨u3, up3, g3, n3, np3⟩, m3, s3⟩ := A6g hT HS HK HG V H V9 HM b2 c2.mm c2.f c2.d (x := v) (by omega) (by omega) ok okl (by omega) (by omega) (by omega) (by rw [show ((ad : Int) + 1) = ((ad + 1 : Nat) : Int) by omega, PM.get_at0, tk2.C]; exact q4)
  have tk3 := tk2.trans (Add (m := (m.tick slot).tick ad) (y := (ad : Int) + 1) (by omega) (by rw [tk2.C]; omega))
  have c3 := c2.nq m3 (tk3.fine c.f (by omega)) n3 np3 s3.nq
  have hS2 : ∀ j, cg b u up j \/ cl bm um j -> S j := fun j e => e.elim (c.su j) (c.sm j)
  exact ⟨h3, u3, up3, _, B, ad, k, ⟨h2, 2, by omega, .cons F1 (s1.mono hS) (.cons F2 (s2.mono hS2) (.nil _)), F3, s3.mono hS2⟩, c3, g3.mono c2.nx, tk3.mono (by omega)⟩
end
theorem A0z (l : List Pr) (f t : Int) : (pick l f t).length <= l.length := by
 unfold pick
 rw [List.length_drop, List.length_take]; omega
theorem GNx.congr {n0 : Nat} {h : Aac} {b : Nat} {B : Abr} {at' key : Int} {Ls Ls' : List Abr} {u up : Option Nat} {Q : List Pr} (g : GNx n0 h b B at' key Ls u Q up) (e : Ae9 Ls = Ae9 Ls') : GNx n0 h b B at' key Ls' u Q up := by
 obtain ⟨pk, lv, g⟩ := g
 rw [e] at g
 exact ⟨pk, lv, g⟩
theorem GNx.look {n0 : Nat} {h : Aac} {b : Nat} {B : Abr} {at' key : Int} {Ls : List Abr} {l : Abr} {u up : Option Nat} {Q : List Pr} (g : GNx n0 h b B at' key (Ls ++ [l]) u Q up) (hl : l.live) : ∃ lv rp, n0 <= rp /\ rp < h.nq /\ ¬ cg b u up rp /\ Adp h b 1 B (pp rp) at' key lv (Ls ++ [l]) u Q up /\ Rcd h rp [I 0, I (l.n + 4 + l.d + l.i : Nat), I 0, I 0] := by
 obtain ⟨pk, lv, ⟨g1, a⟩ | ⟨L0, l', rp, g1, g2, rfl, g4, g5, g6, a, g7⟩⟩ := g
 ·rw [Ahm _ hl] at g1
  simp at g1
 ·rw [Ahm _ hl] at g1
  have := List.append_inj' g1 rfl
  simp only [List.cons.injEq, and_true] at this
  obtain ⟨rfl, rfl⟩ := this
  exact ⟨lv, rp, g4, g5, g6, a, g7⟩
section
variable (hT : Aa0 P tab) (HS : Afx tab) (HK : Ae4 tab) (HG : Aep tab) (V : Aea tab) (H : Has tab) (V9 : Acg tab) (HM : Agf tab)
include hT HS HK HG V H V9 HM
theorem At7 {a : Nat} {sz sh ch sm0 : Int} {ks : List Int} {cs : List Tr} (ih : ∀ t ∈ cs, Ajm P t) {l : List Pr} (hf : (Tr.inner a sz sh ch sm0 ks cs).old /\ (Tr.inner a sz sh ch sm0 ks cs).content = l) (h120 : l.length <= 200) {n0 : Nat} {S : Nat -> Prop} {h : Aac} {b bm : Nat} {u up um : Option Nat} {m : PM} {at' key : Int} {pk lv : Value} {Ls : List Abr} {f : Int} {t : Nat} {Q : List Pr} (c : GkC n0 S h b bm u up um m) (ga : Adp h b 0 ⟨a, 0, 0, 0, f, t⟩ pk at' key lv Ls u Q up) (ok : ∀ l' ∈ Ls, l'.ok) (hLs : Ls.length + (1 + Adg cs) <= 291) (ht : t <= 300) (hf0 : -(300 * ((Ls.length : Int) + 1)) <= f /\ f <= 300) (hQ : Q.length + l.length < 90000) (hok : (Tr.inner a sz sh ch sm0 ks cs).shut.ok m.C) (hc : m.c + (1 + 4 * (Aak cs).length : Nat) < 1000000000) :
  A7r P n0 S h b bm um m Ls (Q ++ pick l f t) (1 + 4 * (Aak cs).length) := by
 have hok : (Tr.inner a sz 1 ch ((Aaf cs).length + 1 : Nat) ks (Aen cs)).ok m.C := hok
 have sl := Aek cs
 obtain ⟨⟨q1, q2, q3, q4⟩, ⟨p0, p1, p2, p3, p4⟩, hsh, hsz, hks, hcs, hoks⟩ := hok
 obtain ⟨⟨e0, e4, e7⟩, e6⟩ := hf
 have e6 : Aaf cs = l := e6
 have fl := c.f.len
 have fz := c.f.z1
 rw [sl] at q2 p0
 have hcs' : ∀ i (h : i < cs.length), at0 m.C (a + 4 + cs.length + i) = cs[i].word := fun i h => by
  have := hcs i (by rw [sl]; exact h)
  rw [Aeh, Ak4] at this
  rw [show a + 4 + cs.length + i = a + 4 + (Aen cs).length + i by omega]; exact this
 have hS : ∀ j, cg b u up j \/ cl bm um j -> S j := fun j e => e.elim (c.su j) (c.sm j)
 obtain ⟨_, h1, F1, rfl, ⟨u1, g1, n1⟩, m1, s1⟩ := A5k hT HS HK HG V H V9 HM ga c.mm c.f c.d (d := cs.length) ok ⟨by show a < _; omega, by show cs.length < _; omega, by show 0 < _; omega, by show 0 < _; omega, ⟨by show -100000 < f; omega, by show f < _; omega⟩, by show t < _; omega⟩ (by omega) (by rw [PM.get_at0, p0])
 have tk1 := Add (m := m) (y := a) (by omega) (by omega)
 have c1 := c.nq m1 (tk1.fine c.f (by omega)) n1 (fun y hy => .inl hy) s1.nq
 have loop : ∀ r i, i + r = cs.length -> ∀ (hi : Aac) (ui upi : Option Nat) (mi : PM) (Bi : Abr) (ati keyi : Int), Adm P 70 [(pp b), (pp bm)] S (1 + 4 * (Aak (cs.take i)).length) h hi (Ae9 (Ls ++ [⟨a, cs.length, i, cN cs i, f, t⟩])).isEmpty -> GkC n0 S hi b bm ui upi um mi -> GNx n0 hi b Bi ati keyi (Ls ++ [⟨a, cs.length, i, cN cs i, f, t⟩]) ui (Q ++ pick (l.take (cN cs i)) f t) upi -> Tk m mi (1 + 4 * (Aak (cs.take i)).length) ->
   A7r P n0 S h b bm um m Ls (Q ++ pick l f t) (1 + 4 * (Aak cs).length) := by
  intro r
  induction r with
  | zero =>
   intro i hir hi ui upi mi Bi ati keyi run ci gi tki
   have hi' : i = cs.length := by omega
   subst hi'
   have dead : ¬ Abr.live ⟨a, cs.length, cs.length, cN cs cs.length, f, t⟩ := fun e => Nat.lt_irrefl _ e.1
   have efr : cN cs cs.length = l.length := by rw [A2r, e6]
   rw [Agd _ dead] at run
   rw [List.take_length] at tki run
   refine ⟨hi, ui, upi, mi, Bi, ati, keyi, run, ci, ?_, tki⟩
   have := gi.congr (Agd _ dead)
   rwa [efr, List.take_length] at this
  | succ r ihr =>
   intro i hir hi ui upi mi Bi ati keyi run ci gi tki
   have hid : i < cs.length := by omega
   by_cases hlive : Abr.live ⟨a, cs.length, i, cN cs i, f, t⟩
   ·have ht1 : cN cs i < t := hlive.2
    obtain ⟨lvi, rp, r1, r2, r3, gai, rri⟩ := gi.look hlive
    rw [Ahm _ hlive] at run
    obtain ⟨k, hk, chi⟩ := run.chain (by simp)
    have hnx := Ayv (cs := cs) (i := i) (by omega)
    have htop := A4q cs (i + 1)
    rw [e6] at htop
    have hdp := Anz (cs := cs) (i := i) (by omega)
    have hci : cs[i] ∈ cs := List.getElem_mem _
    have hc1 := tki.c1
    have hle : (Aak (cs.take i)).length + cs[i].adrs.length <= (Aak cs).length := by
     have hs : Aak cs = Aak (cs.take i) ++ (cs[i].adrs ++ Aak (cs.drop (i + 1))) := by
      have h1 : cs = cs.take i ++ cs[i] :: cs.drop (i + 1) := by rw [<- List.drop_eq_getElem_cons (by omega), List.take_append_drop]
      conv => lhs; rw [h1]
      rw [Ab8]; rfl
     rw [hs]; simp only [List.length_append]; omega
    have hql := A0z (l.take (cN cs i)) f t
    rw [List.length_take] at hql
    have cok : cs[i].shut.ok mi.C := by
     rw [tki.C]
     have := Ad4 hoks i (by omega)
     rwa [Aeh] at this
    have hsw : at0 mi.C (a + 4 + cs.length + i) = cs[i].word := by
     rw [tki.C, hcs' i (by omega)]
    obtain ⟨h', u', up', m', B', at2, key', run2, c2, g2, tk2⟩ := ih cs[i] hci _ ⟨Anw e7 i (by omega), rfl⟩ (by omega) n0 S hi b bm rp ui upi um mi Bi ati keyi lvi Ls ⟨a, cs.length, i, cN cs i, f, t⟩ (a + 4 + cs.length + i) (Q ++ pick (l.take (cN cs i)) f t) ci gai rri ⟨r3, r1⟩ ok ⟨by show a < _; omega, by show cs.length < _; omega, by show i < _; omega, by show cN cs i < _; omega, ⟨by show -100000 < f; omega, by show f < _; omega⟩, by show t < _; omega⟩ hlive (by omega) ⟨by show i <= 300; omega, by show cN cs i + _ <= 300; omega, by show t <= 300; omega, by show _ <= f; omega, by show f <= 300; omega⟩ (by rw [List.length_append]; omega) cok hsw ⟨by omega, by rw [tki.C]; omega⟩ (by omega)
    have em : Abr.more ⟨a, cs.length, i, cN cs i, f, t⟩ (cs[i].content).length = ⟨a, cs.length, i + 1, cN cs (i + 1), f, t⟩ := by
     unfold Abr.more
     rw [hnx]
    rw [em] at run2 g2
    have ep : pick (l.take (cN cs i)) f t ++ pick (cs[i].content) (f - cN cs i) ((t : Int) - cN cs i) = pick (l.take (cN cs (i + 1))) f t := by
     have : l.take (cN cs (i + 1)) = l.take (cN cs i) ++ cs[i].content := by
      rw [<- e6, <- Akr, <- Akr, Ai2 (by omega)]
     rw [this, Asr, List.length_take, show min (cN cs i) l.length = cN cs i by omega]
    rw [List.append_assoc, ep] at g2
    have et : cs.take (i + 1) = cs.take i ++ [cs[i]] := A5r hid
    have el : (Aak (cs.take (i + 1))).length = (Aak (cs.take i)).length + cs[i].adrs.length := by rw [et, Ab8, List.length_append]; simp [Aak]
    exact ihr (i + 1) (by omega) h' u' up' m' B' at2 key' ((chi.to run2).le (by omega)) c2 g2 ((tki.trans tk2).mono (by omega))
   ·have ht1 : (t : Int) <= cN cs i := by
     have : ¬ (cN cs i < t) := fun e => hlive ⟨hid, e⟩
     omega
    have htop := A4q cs i
    rw [e6] at htop
    rw [Agd _ hlive] at run
    have hle : (Aak (cs.take i)).length <= (Aak cs).length := by
     have : Aak cs = Aak (cs.take i) ++ Aak (cs.drop i) := by rw [<- Ab8, List.take_append_drop]
     rw [this, List.length_append]; omega
    refine ⟨hi, ui, upi, mi, Bi, ati, keyi, run.le (by omega), ci, ?_, tki.mono (by omega)⟩
    have := gi.congr (Agd _ hlive)
    have ep : pick l f t = pick (l.take (cN cs i)) f t := by
     have hh : l = l.take (cN cs i) ++ l.drop (cN cs i) := (List.take_append_drop _ _).symm
     conv => lhs; rw [hh]
     rw [Asr, Ayy (l := l.drop _) (by rw [List.length_take]; omega), List.append_nil]
    rwa [ep]
 have z0 : cN cs 0 = 0 := Azg cs
 refine loop cs.length 0 (by omega) h1 u1 up _ _ _ _ (by rw [z0]; exact (Adm.one F1 (s1.mono hS)).le (by omega)) c1 (by rw [z0, List.take_zero, Asv, List.append_nil]; exact g1.mono c.nx) (by simpa [Aak] using tk1)
theorem An7 {a : Nat} {sz sh ch sm0 : Int} {ks : List Int} {cs : List Tr} (ih : ∀ t ∈ cs, Ajm P t) : Ajm P (.inner a sz sh ch sm0 ks cs) := by
 intro l hf hl n0 S h b bm rp u up um m B at' key lv Ls l0 slot Q c ga rr hrp ok okl lvl hLs hb hQ hok hw hsl hc
 have hok1 : (Tr.inner a sz 1 ch ((Aaf cs).length + 1 : Nat) ks (Aen cs)).ok m.C := hok
 have sl := Aek cs
 obtain ⟨⟨q1, q2, q3, q4⟩, ⟨p0, p1, p2, p3, p4⟩, hsh, hsz, hks, hcs, hoks⟩ := hok1
 have hfit := hf
 obtain ⟨⟨e0, e4, e7⟩, e6⟩ := hf
 have e6 : Aaf cs = l := e6
 have hLs' : Ls.length + (1 + Adg cs) <= 290 := hLs
 have fl := c.f.len
 have fz := c.f.z1
 rw [sl] at q2
 have hadl : (Tr.inner a sz sh ch sm0 ks cs).adrs.length = 2 * cs.length + 4 + (Aak cs).length := by simp [Tr.adrs]
 have hrm : ¬ cl bm um rp := fun e => by have := c.bml rp e; omega
 have hcl := congrArg List.length e6
 have hl2 := lvl.2
 have hS : ∀ j, (cg b u up j \/ j = rp) \/ cl bm um j -> S j := fun j e => by
  rcases e with (e | e) | e
  ·exact c.su j e
  ·exact c.s0 j (by omega)
  ·exact c.sm j e
 obtain ⟨_, h1, F1, rfl, b1, m1, s1⟩ := Aqu hT HS HK HG V H V9 HM ga rr ⟨hrp.1, hrm⟩ c.mm c.f c.d (by omega) (by omega) (ad := a) q1 (by omega) (by rw [PM.get_at0, hw]; rfl)
 have tk1 := Add (m := m) (y := slot) (by omega) (by omega)
 have c1 := c.nq (u' := u) (up' := up) m1 (tk1.fine c.f (by omega)) (fun y hy => .inl hy) (fun y hy => .inl hy) s1.nq
 have hsum : (m.tick slot).get ((a : Int) + 4) = (l.length : Int) + 1 := by
  rw [show ((a : Int) + 4) = ((a + 4 : Nat) : Int) by omega, PM.get_at0, tk1.C, p4, hcl]; omega
 have tk2 := tk1.trans (Add (m := m.tick slot) (y := (a : Int) + 4) (by omega) (by rw [tk1.C]; omega))
 have hS2 : ∀ j, cg b u up j \/ cl bm um j -> S j := fun j e => e.elim (c.su j) (c.sm j)
 by_cases hsk : (l0.s : Int) + l.length <= l0.f
 ·obtain ⟨_, h2', F2, rfl, ⟨u2, g2, n2⟩, m2, s2⟩ := Arr hT HS HK HG V H V9 HM b1 c1.mm c1.f c1.d (by omega) ok okl (by omega) (by omega) l.length (by omega) hsum hsk
  have c2 := c1.nq (up' := up) m2 (tk2.fine c.f (by omega)) n2 (fun y hy => .inl hy) s2.nq
  rw [Aqr (by omega), List.append_nil]
  exact ⟨h2', u2, up, _, B, a, key, ⟨h1, 1, by omega, .one F1 (s1.mono hS), F2, s2.mono hS2⟩, c2, g2.mono c1.nx, tk2.mono (by omega)⟩
 ·obtain ⟨_, h2', F2, rfl, ⟨lv2, u2, b2, n2⟩, m2, s2⟩ := Ax7 hT HS HK HG V H V9 HM b1 c1.mm c1.f c1.d (by omega) okl (by omega) l.length (by omega) hsum (by omega) (by omega)
  have c2 := c1.nq (up' := up) m2 (tk2.fine c.f (by omega)) n2 (fun y hy => .inl hy) s2.nq
  have hc2 := tk2.c1
  obtain ⟨k1, k2, k3, k4, k5, k6⟩ := okl
  obtain ⟨h3, u3, up3, m3, B3, at3, key3, run3, c3, g3, tk3⟩ := At7 hT HS HK HG V H V9 HM ih hfit hl c2 b2 (fun l' hl' => by
   rcases List.mem_append.1 hl' with e | e
   ·exact ok l' e
   ·simp only [List.mem_singleton] at e
    subst e
    exact ⟨k1, k2, by show l0.i + 1 < _; omega, by show l0.s + _ < _; omega, k5, k6⟩) (by rw [List.length_append, List.length_singleton]; omega) (by omega) (by rw [List.length_append, List.length_singleton]; omega) hQ (by rw [tk2.C]; exact hok) (by omega)
  rw [show ((l0.t - l0.s : Nat) : Int) = (l0.t : Int) - l0.s by omega] at g3
  refine ⟨h3, u3, up3, m3, B3, at3, key3, ((Ab3.cons F1 (s1.mono hS) (.cons F2 (s2.mono hS2) (.nil _))).to run3).le (by omega), c3, g3, (tk2.trans tk3).mono (by omega)⟩
theorem A51 : ∀ t : Tr, Ajm P t := by
 intro t
 induction t using Tr.ind with
 | e a => exact Anq hT HS HK HG V H V9 HM a
 | l a k v => exact Ao3 hT HS HK HG V H V9 HM a k v
 | i a sz sh ch sm ks cs ih => exact An7 hT HS HK HG V H V9 HM ih
end
structure Amh (tab : Nat -> Option Aae) : Prop where
 g15 : tab 135 = some af135
 g16 : tab 117 = some af117
 g17 : tab 138 = some af138
 g18 : tab 136 = some af136
 g59 : tab 144 = some af144
 g60 : tab 134 = some af134
 g61 : tab 137 = some af137
theorem A89 : Amh tabT.get := ⟨by kernel_rfl, by kernel_rfl, by kernel_rfl, by kernel_rfl, by kernel_rfl, by kernel_rfl, by kernel_rfl⟩
def Ai6 (h : Aac) (v : Value) (s : Nat) (cells : List Value) (n : Nat) (K : Nat -> Prop) : Prop :=
 (n = 0 /\ cells = [] /\ (v = .slice none 0 0 \/ ∃ b o k, v = .slice (some ⟨b, o, some k⟩) 0 0)) \/ ∃ x p, K x /\ v = .slice (some ⟨x, p, none⟩) n n /\ 1 <= n /\ Abq h x p s n n cells
theorem Ai6.same {h h' : Aac} {v : Value} {s n : Nat} {cells : List Value} {K S : Nat -> Prop} (a : Ai6 h v s cells n K) (m : Aad h h' S) (hk : ∀ j, K j -> ¬ S j) : Ai6 h' v s cells n K := by
 rcases a with a | ⟨x, p, k, e, n1, r⟩
 ·exact .inl a
 ·exact .inr ⟨x, p, k, e, n1, r.same m (hk x k)⟩
theorem Ai6.len {h : Aac} {v : Value} {s n : Nat} {cells : List Value} {K : Nat -> Prop} (a : Ai6 h v s cells n K) : ∃ base, v = .slice base n n := by
 rcases a with ⟨rfl, rfl, rfl | ⟨b, o, k, rfl⟩⟩ | ⟨x, p, _, rfl, _, r⟩ <;> exact ⟨_, rfl⟩
theorem Ai6.tail {h : Aac} {v c : Value} {n : Nat} {cells : List Value} {K : Nat -> Prop} (a : Ai6 h v 1 (c :: cells) (n + 1) K) : (∃ x p, K x /\ v = .slice (some ⟨x, p, none⟩) (n + 1) (n + 1) /\ h.rd x p = some c) /\ ∃ v', slV h 1 v (some (I 1)) none = some v' /\ Ai6 h v' 1 cells n K := by
 rcases a with ⟨hn, _⟩ | ⟨x, p, k, rfl, n1, r⟩
 ·omega
 ·refine ⟨⟨x, p, k, rfl, by have := r.rd (i := 0) (by omega); simpa using this⟩, ?_⟩
  have hl := r.len
  simp only [List.length_cons, Nat.mul_one] at hl
  by_cases hn : n = 0
  ·subst hn
   have e : cells = [] := List.eq_nil_of_length_eq_zero (by omega)
   subst e
   refine ⟨_, r.end, .inl ⟨rfl, rfl, .inr ⟨_, _, _, rfl⟩⟩⟩
  ·have f : slV h 1 (.slice (some ⟨x, p, none⟩) (n + 1) (n + 1)) (some (I (1 : Nat))) none = some (.slice (some ⟨x, p + 1 * 1, none⟩) (n + 1 - 1) (n + 1 - 1)) := r.from (lo := 1) (by omega) (by omega)
   refine ⟨_, f, .inr ⟨x, p + 1 * 1, k, rfl, by omega, ?_⟩⟩
   have := r.sub (lo := 1) (hi := n + 1) (by omega) (Nat.le_refl _)
   have e : (List.drop (1 * 1) (c :: cells)).take ((n + 1 - 1) * 1) = cells := by
    rw [Nat.mul_one, List.drop_succ_cons, List.drop_zero, List.take_of_length_le (by omega)]
   rw [e] at this
   exact this
def Acr (h : Aac) (v : Value) (W : List Int) (u : Option Nat) : Prop :=
 (u = none /\ W = [] /\ v = .slice none 0 0) \/ ∃ x rest, u = some x /\ v = .slice (some ⟨x, 0, none⟩) W.length (W.length + rest.length) /\ h.bqs.get x = some ⟨(W ++ rest).map I, (W.length + rest.length) * 1, 1, true, true⟩ /\ x < h.nq /\ 1 <= W.length + rest.length
theorem Acr.same {h h' : Aac} {v : Value} {W : List Int} {u : Option Nat} {S : Nat -> Prop} (a : Acr h v W u) (m : Aad h h' S) (hu : ∀ x, u = some x -> ¬ S x) : Acr h' v W u := by
 rcases a with a | ⟨x, rest, e, e2, b, l, n1⟩
 ·exact .inl a
 ·exact .inr ⟨x, rest, e, e2, by rw [m.get x l (hu x e)]; exact b, Nat.lt_of_lt_of_le l m.nq, n1⟩
theorem Acr.len {h : Aac} {v : Value} {W : List Int} {u : Option Nat} (a : Acr h v W u) : ∃ base cap, v = .slice base W.length cap := by
 rcases a with ⟨_, rfl, rfl⟩ | ⟨x, rest, _, rfl, _⟩ <;> exact ⟨_, _, rfl⟩
theorem Acr.to {h : Aac} {v : Value} {W : List Int} {u : Option Nat} (a : Acr h v W u) {n : Nat} (hn : n <= W.length) : ∃ v', slV h 1 v none (some (I n)) = some v' /\ Acr h v' (W.take n) u := by
 rcases a with ⟨rfl, rfl, rfl⟩ | ⟨x, rest, rfl, rfl, b, l, n1⟩
 ·have : n = 0 := by simpa using hn
  subst this
  exact ⟨_, rfl, .inl ⟨rfl, rfl, rfl⟩⟩
 ·have r : Abq h x 0 1 W.length (W.length + rest.length) (W.map I) := ⟨⟨_, b, rfl, by simp, by simp⟩, by omega, l⟩
  refine ⟨_, r.to (hi := n) (by omega) (by omega), .inr ⟨x, W.drop n ++ rest, rfl, ?_, ?_, l, ?_⟩⟩
  ·simp; omega
  ·rw [<- List.append_assoc, List.take_append_drop, b]
   congr 2
   simp; omega
  ·simp; omega
theorem Acr.from {h : Aac} {v : Value} {W : List Int} {u : Option Nat} (a : Acr h v W u) {n : Nat} (hn : n < W.length) : ∃ x p cap, u = some x /\ slV h 1 v (some (I n)) none = some (.slice (some ⟨x, p, none⟩) (W.drop n).length cap) /\ Abq h x p 1 (W.drop n).length cap ((W.drop n).map I) := by
 rcases a with ⟨rfl, rfl, rfl⟩ | ⟨x, rest, rfl, rfl, b, l, n1⟩
 ·simp at hn
 ·have r : Abq h x 0 1 W.length (W.length + rest.length) (W.map I) := ⟨⟨_, b, rfl, by simp, by simp⟩, by omega, l⟩
  have s := r.sub (lo := n) (hi := W.length) (by omega) (Nat.le_refl _)
  have f := r.from (lo := n) (by omega) (by omega)
  refine ⟨x, 0 + n * 1, W.length + rest.length - n, rfl, by rw [f]; simp, ?_⟩
  have e : (List.drop (n * 1) (W.map I)).take ((W.length - n) * 1) = (W.drop n).map I := by
   rw [Nat.mul_one, Nat.mul_one, List.map_drop, List.take_of_length_le (by simp)]
  rw [e] at s
  simpa using s
theorem Acr.push {h : Aac} {v : Value} {W : List Int} {u : Option Nat} (a : Acr h v W u) {Y : Value} {w : Int} (hy : Ach h 1 Y = some ([I w], 1)) (hl : W.length < 1000000) : ∃ v' u' h', Aqv h 1 8 v Y = some (v', h') /\ Acr h' v' (W ++ [w]) u' /\ Aad h h' (fun j => u = some j) /\ (∀ x, u' = some x -> u = some x \/ x = h.nq) := by
 have own : ∀ {u : Option Nat} (_ : Abh h u 1 W.length (W.map I)) (_ : v = Aal u W.length), ∃ v' u' h', Aqv h 1 8 v Y = some (v', h') /\ Acr h' v' (W ++ [w]) u' /\ Aad h h' (fun j => u = some j) /\ (∀ x, u' = some x -> u = some x \/ x = h.nq) := by
  intro u o e
  obtain ⟨u', h', e1, e2, e3, e4⟩ := Ad5 (bytes := 8) o hy rfl rfl (Nat.le_refl _) (by omega) (by omega)
  subst e
  refine ⟨_, u', h', e1, ?_, e3, e4⟩
  cases hu : u' with
  | none => rw [hu] at e2; have := e2.non rfl; omega
  | some x =>
   rw [hu] at e2
   obtain ⟨q1, q2, _⟩ := e2.use x rfl
   refine .inr ⟨x, [], rfl, ?_, ?_, q2, by simp⟩
   ·simp [Aal]
   ·rw [q1]; simp
 rcases a with ⟨rfl, rfl, rfl⟩ | ⟨x, rest, rfl, rfl, b, l, n1⟩
 ·exact own (Abh.nil h 1) rfl
 ·cases rest with
  | nil =>
   refine own (u := some x) ⟨fun y hy => ?_, by simp, by simp, by simp [Aas]⟩ (by simp [Aal])
   cases hy
   simp only [List.length_nil, Nat.add_zero, List.append_nil] at b n1
   exact ⟨b, l, n1⟩
  | cons r rest =>
   have b' : h.bqs.get x = some ⟨W.map I ++ (r :: rest).map I, (W.length + (rest.length + 1)) * 1, 1, true, true⟩ := by rw [b]; simp
   obtain ⟨h', e1, e2, e3⟩ := Aig (bytes := 8) (n := W.length) (cap := W.length + (rest.length + 1)) b' (by simp) hy rfl (by simp) rfl (Nat.le_refl _) (by omega) (by omega) (by omega) (by omega)
   refine ⟨_, some x, h', e1, .inr ⟨x, rest, rfl, ?_, ?_, Nat.lt_of_lt_of_le l e3.nq, by simp; omega⟩, e3.mono (fun j hj => by rw [hj]), fun y hy => .inl hy⟩
   ·simp; omega
   ·rw [e2]; simp; omega
end
end Go.Proofs.YtnonihjoimobmaaGreat.Ai
