/- All operations that ask the frame alone, in one sentence. -/
import Derived.Test.YtedldiimhbebdaaAiSoundP
namespace Go.Proofs.Ytedldiimhbebdaa.Ai
noncomputable section
open Go.RowKit

section
variable {P : Program} {μ : Map} {ts : T Value} {a : Act} {w : World} {o : Oper} {v : Value}

theorem bad_ne_p {q : POp} : (AOp.p q) ≠ .bad := by intro h; cases h

theorem pop_sound {q : POp} (h : comp P o.op = .p q) (r : TsRel μ ts a) (hv : pop ts q = some v) : Did P μ a w o v := by
  cases hop : o.op with
  | move x =>
    rw [hop] at h; simp only [comp] at h
    obtain ⟨y, hx, e⟩ := o1_inv h bad_ne_p; cases e
    exact s_mov r (.inl hop) hx hv
  | assign x =>
    rw [hop] at h; simp only [comp] at h
    obtain ⟨y, hx, e⟩ := o1_inv h bad_ne_p; cases e
    exact s_mov r (.inr hop) hx hv
  | pick c x y =>
    rw [hop] at h; simp only [comp] at h
    obtain ⟨c', hc, e⟩ := o1_inv h bad_ne_p
    obtain ⟨x', hx, e⟩ := o1_inv e bad_ne_p
    obtain ⟨y', hy, e⟩ := o1_inv e bad_ne_p; cases e
    exact s_pick r hop hc hx hy hv
  | binOp op t x y u =>
    rw [hop] at h; simp only [comp] at h
    split at h
    · rename_i k hk
      obtain ⟨x', hx, e⟩ := o1_inv h bad_ne_p; cases e
      exact s_eqNil r hop (.inl ⟨rfl, rfl⟩) hk hx hv
    · rename_i k hk
      obtain ⟨x', hx, e⟩ := o1_inv h bad_ne_p; cases e
      exact s_eqNil r hop (.inr ⟨rfl, rfl⟩) hk hx hv
    · split at h
      · rename_i et het
        obtain ⟨x', hx, e⟩ := o1_inv h bad_ne_p
        obtain ⟨y', hy, e⟩ := o1_inv e bad_ne_p; cases e
        exact s_eqS r hop (.inl ⟨rfl, rfl⟩) het hx hy hv
      · obtain ⟨x', hx, e⟩ := o1_inv h bad_ne_p
        obtain ⟨y', hy, e⟩ := o1_inv e bad_ne_p; cases e
        exact s_bin r hop hx hy hv
    · split at h
      · rename_i et het
        obtain ⟨x', hx, e⟩ := o1_inv h bad_ne_p
        obtain ⟨y', hy, e⟩ := o1_inv e bad_ne_p; cases e
        exact s_eqS r hop (.inr ⟨rfl, rfl⟩) het hx hy hv
      · obtain ⟨x', hx, e⟩ := o1_inv h bad_ne_p
        obtain ⟨y', hy, e⟩ := o1_inv e bad_ne_p; cases e
        exact s_bin r hop hx hy hv
    · obtain ⟨x', hx, e⟩ := o1_inv h bad_ne_p
      obtain ⟨y', hy, e⟩ := o1_inv e bad_ne_p; cases e
      exact s_bin r hop hx hy hv
  | unOp op t x =>
    rw [hop] at h; simp only [comp] at h
    split at h
    · obtain ⟨x', hx, e⟩ := o1_inv h bad_ne_p; cases e
      exact s_not r hop hx hv
    · obtain ⟨x', hx, e⟩ := o1_inv h bad_ne_p; cases e
      exact s_neg r hop hx hv
    · cases h
  | convert s t x =>
    rw [hop] at h; simp only [comp] at h
    split at h
    · rename_i d k hd hk
      obtain ⟨x', hx, e⟩ := o1_inv h bad_ne_p; cases e
      exact s_conv r hop hd hk hx hv
    · cases h
  | fieldAddr s x f =>
    rw [hop] at h; simp only [comp] at h
    split at h
    · rename_i fields hs
      split at h
      · rename_i fl hf
        split at h
        · rename_i i hi
          cases hz : Nat.beq i.size 0 with
          | true => rw [hz] at h; cases h
          | false =>
            rw [hz] at h; simp only [cond_false] at h
            obtain ⟨x', hx, e⟩ := o1_inv h bad_ne_p; cases e
            exact s_fieldAddr r hop hs hf hi (Nat.ne_of_beq_eq_false hz) hx hv
        · cases h
      · cases h
    · cases h
  | field s x f =>
    rw [hop] at h; simp only [comp] at h
    split at h
    · rename_i fields hs
      split at h
      · rename_i fl hf
        split at h
        · rename_i q i hd hi
          obtain ⟨x', hx, e⟩ := o1_inv h bad_ne_p; cases e
          exact s_fieldN r hop hs hf (.inl ⟨q, hd⟩) hi hx hv
        · rename_i q q' i hd hi
          obtain ⟨x', hx, e⟩ := o1_inv h bad_ne_p; cases e
          exact s_fieldN r hop hs hf (.inr ⟨q, q', hd⟩) hi hx hv
        · rename_i d i hn1 hn2 hd hi
          obtain ⟨x', hx, e⟩ := o1_inv h bad_ne_p; cases e
          exact s_field1 r hop hs hf hd (fun q hq => hn1 q (by rw [← hq])) (fun q q' hq => hn2 q q' (by rw [← hq])) hx hv
        · cases h
      · cases h
    · cases h
  | indexAddr t x i =>
    rw [hop] at h; simp only [comp] at h
    split at h
    · rename_i e ht
      split at h
      · rename_i inf hi
        obtain ⟨x', hx, e1⟩ := o1_inv h bad_ne_p
        obtain ⟨y', hy, e1⟩ := o1_inv e1 bad_ne_p; cases e1
        exact s_idxS r hop ht hi hx hy hv
      · cases h
    · rename_i len e ht
      split at h
      · rename_i inf hi
        obtain ⟨x', hx, e1⟩ := o1_inv h bad_ne_p
        obtain ⟨y', hy, e1⟩ := o1_inv e1 bad_ne_p; cases e1
        exact s_idxA r hop ht hi hx hy hv
      · cases h
    · cases h
  | index t x i =>
    rw [hop] at h; simp only [comp] at h
    split at h
    · rename_i ht
      obtain ⟨x', hx, e1⟩ := o1_inv h bad_ne_p
      obtain ⟨y', hy, e1⟩ := o1_inv e1 bad_ne_p; cases e1
      exact s_idxStr r hop ht hx hy hv
    · rename_i len e ht
      split at h
      · rename_i q inf hd hi
        obtain ⟨x', hx, e1⟩ := o1_inv h bad_ne_p
        obtain ⟨y', hy, e1⟩ := o1_inv e1 bad_ne_p; cases e1
        exact s_idxVN r hop ht (.inl ⟨q, hd⟩) hi hx hy hv
      · rename_i q q' inf hd hi
        obtain ⟨x', hx, e1⟩ := o1_inv h bad_ne_p
        obtain ⟨y', hy, e1⟩ := o1_inv e1 bad_ne_p; cases e1
        exact s_idxVN r hop ht (.inr ⟨q, q', hd⟩) hi hx hy hv
      · rename_i d inf hn1 hn2 hd hi
        obtain ⟨x', hx, e1⟩ := o1_inv h bad_ne_p
        obtain ⟨y', hy, e1⟩ := o1_inv e1 bad_ne_p; cases e1
        exact s_idxV1 r hop ht hd (fun q hq => hn1 q (by rw [← hq])) (fun q q' hq => hn2 q q' (by rw [← hq])) hi hx hy hv
      · cases h
    · cases h
  | makeFunc fn fs cs =>
    rw [hop] at h; simp only [comp] at h
    split at h
    · rename_i f fs' cs' h1 h2
      cases h
      exact s_mkFunc r hop h1 h2 hv
    · cases h
  | makeInterface t x =>
    rw [hop] at h; simp only [comp] at h
    split at h
    · cases h
    · rename_i d hni hd
      obtain ⟨x', hx, e1⟩ := o1_inv h bad_ne_p; cases e1
      exact s_mkIface r hop hd (fun q hq => hni q (by rw [← hq])) hx hv
    · cases h
  | typeAssert x u t ok =>
    rw [hop] at h; simp only [comp] at h
    split at h
    · cases h
    · rename_i d i hni hd hi
      split at h
      · rename_i z hz
        obtain ⟨hzs, h⟩ := cond_inv h bad_ne_p
        obtain ⟨x', hx, e1⟩ := o1_inv h bad_ne_p; cases e1
        exact s_tyAs r hop hd (fun q hq => hni q (by rw [← hq])) hi hz hzs hx hv
      · cases h
    · cases h
  | extract x i =>
    rw [hop] at h; simp only [comp] at h
    obtain ⟨x', hx, e⟩ := o1_inv h bad_ne_p; cases e
    exact s_ext r hop hx hv
  | nilCheck x =>
    rw [hop] at h; simp only [comp] at h
    obtain ⟨x', hx, e⟩ := o1_inv h bad_ne_p; cases e
    exact s_nilchk r hop hx hv
  | build t parts =>
    rw [hop] at h; simp only [comp] at h
    split at h
    · rename_i fields z hs hz
      split at h
      · rename_i places hpl
        split at h
        · rename_i ps hps
          cases h
          exact s_build r hop hz (.inl ⟨fields, places, hs, hpl, hps⟩) hv
        · cases h
      · cases h
    · rename_i n e z hs hz
      split at h
      · rename_i ie hie
        split at h
        · rename_i ps hps
          cases h
          exact s_build r hop hz (.inr ⟨n, e, ie, hs, hie, hps⟩) hv
        · cases h
      · cases h
    · cases h
  | call c =>
    rw [hop] at h; simp only [comp] at h
    split at h
    · rename_i b hb
      unfold compBuiltin at h
      split at h
      · rename_i x ha
        split at h
        · rename_i t hts
          split at h
          · rename_i e ht
            obtain ⟨x', hx, e1⟩ := o1_inv h bad_ne_p; cases e1
            exact s_len r hop hb ha hts (.inl ⟨rfl, e, ht⟩) hx hv
          · rename_i ht
            obtain ⟨x', hx, e1⟩ := o1_inv h bad_ne_p; cases e1
            exact s_len r hop hb ha hts (.inr ⟨rfl, ht⟩) hx hv
          · cases h
        · cases h
      · split at h
        · split at h
          · obtain ⟨x', hx, e1⟩ := o1_inv h bad_ne_p; cases e1
          · cases h
        · cases h
      · rename_i x y ha
        obtain ⟨x', hx, e1⟩ := o1_inv h bad_ne_p
        obtain ⟨y', hy, e1⟩ := o1_inv e1 bad_ne_p; cases e1
        exact s_mx r hop hb ha hx hy hv
      · rename_i x y ha
        obtain ⟨x', hx, e1⟩ := o1_inv h bad_ne_p
        obtain ⟨y', hy, e1⟩ := o1_inv e1 bad_ne_p; cases e1
        exact s_mn r hop hb ha hx hy hv
      · split at h
        · split at h
          · split at h
            · obtain ⟨x', hx, e1⟩ := o1_inv h bad_ne_p
              obtain ⟨y', hy, e1⟩ := o1_inv e1 bad_ne_p
              split at e1 <;> cases e1
            · split at h
              · obtain ⟨x', hx, e1⟩ := o1_inv h bad_ne_p
                obtain ⟨y', hy, e1⟩ := o1_inv e1 bad_ne_p; cases e1
              · cases h
            · cases h
          · cases h
        · cases h
      · cases h
    · split at h <;> cases h
    · split at h <;> cases h
    · split at h
      · obtain ⟨x', hx, e1⟩ := o1_inv h bad_ne_p; cases e1
      · cases h
    · cases h
  | slice t x lo hi mx =>
    rw [hop] at h; simp only [comp] at h
    split at h
    · split at h
      · obtain ⟨x', hx, e⟩ := o1_inv h bad_ne_p
        rcases oO_inv e bad_ne_p with ⟨_, e⟩ | ⟨_, _, _, _, e⟩ <;> rcases oO_inv e bad_ne_p with ⟨_, e⟩ | ⟨_, _, _, _, e⟩ <;> rcases oO_inv e bad_ne_p with ⟨_, e⟩ | ⟨_, _, _, _, e⟩ <;> cases e
      · cases h
    · cases h
  | load t x =>
    rw [hop] at h; simp only [comp] at h
    split at h <;> first | (cases h; done) | (obtain ⟨x', hx, e⟩ := o1_inv h bad_ne_p; cases e)
  | store t x y =>
    rw [hop] at h; simp only [comp] at h
    split at h
    · obtain ⟨x', hx, e⟩ := o1_inv h bad_ne_p
      obtain ⟨x', hx, e⟩ := o1_inv e bad_ne_p; cases e
    · cases h
  | alloc t => rw [hop] at h; simp only [comp] at h; split at h <;> cases h
  | box t x =>
    rw [hop] at h; simp only [comp] at h
    split at h <;> first | (cases h; done) | (obtain ⟨x', hx, e⟩ := o1_inv h bad_ne_p; cases e)
  | buildSlice t n parts =>
    rw [hop] at h; simp only [comp] at h
    split at h
    · split at h
      · obtain ⟨_, e⟩ := cond_inv h bad_ne_p
        split at e <;> cases e
      · cases h
    · cases h
  | makeSlice t l c =>
    rw [hop] at h; simp only [comp] at h
    split at h
    · split at h
      · obtain ⟨_, e⟩ := cond_inv h bad_ne_p
        obtain ⟨x', hx, e⟩ := o1_inv e bad_ne_p
        obtain ⟨x', hx, e⟩ := o1_inv e bad_ne_p; cases e
      · cases h
    · cases h
  | _ => rw [hop] at h; simp only [comp] at h; cases h

end
end
end Go.Proofs.Ytedldiimhbebdaa.Ai
