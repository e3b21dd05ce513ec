/- ModelFresh: the given statement. -/
import Derived.Deep.Slices
import Derived.WideShapes
import Derived.ChangeArms
import Derived.Deep.OwnRows
import Derived.WideKeyArgs
import Derived.OpenShut
import Derived.Carry
import Derived.ProofKit
import Derived.Test.YtihiooaimdoapaaGreatXF
set_option linter.unusedVariables false
set_option linter.unusedSimpArgs false
namespace Go.Pen
open Go.Bm
def ND (m : M) : Prop := ∀ (i : Nat) (x : Scp), m.sc[i]? = some x → x.1.1 ≠ 3
def PT (m : M) : Prop := ∀ t ∈ m.th, ∀ (A B : List Enty) (s : Int), t.ents = A ++ (s, true) :: B → (scGet m.sc s).1.2.2.1 = area A
theorem ND.set {m : M} (h : ND m) {i : Nat} {y : Scp} (hy : y.1.1 ≠ 3) : ND { m with sc := m.sc.set i y } := fun j z hz => by
 rcases getSet (show (m.sc.set i y)[j]? = some z from hz) with ⟨_, e⟩ | ⟨_, g⟩
 ·rw [e]; exact hy
 ·exact h j z g
theorem PT.ents {m : M} (h : PT m) {n : Int} {l : List Enty} (hl : ∀ (A B : List Enty) (s : Int), l = A ++ (s, true) :: B → (scGet m.sc s).1.2.2.1 = area A) : PT (m.setEnts n l) := by
 intro t ht A B s e
 rcases List.mem_or_eq_of_mem_set (show t ∈ m.th.set n.toNat _ from ht) with h1 | h1
 ·exact h t h1 A B s e
 ·rw [h1] at e; exact hl A B s e
theorem PT.setReg {m : M} (h : PT m) {n : Int} (hn : 0 ≤ n ∧ n < m.th.length) (r v : Int) : PT (m.setReg n r v) := by
 intro t ht A B s e
 rcases List.mem_or_eq_of_mem_set (show t ∈ m.th.set n.toNat _ from ht) with h1 | h1
 ·exact h t h1 A B s e
 ·rw [h1] at e; exact h _ (M.thMem hn) A B s e
theorem split_drop {l A B : List Enty} {x : Enty} (h : l.dropLast = A ++ x :: B) : ∃ B', l = A ++ x :: B' := by
 rcases List.eq_nil_or_concat l with rfl | ⟨l', y, rfl⟩
 ·simp at h
 ·rw [List.concat_eq_append] at *
  rw [List.dropLast_concat] at h
  exact ⟨B ++ [y], by rw [h]; simp⟩
theorem no_entry {m : M} {s : Int} (h : cnt m.th s = 0) {t : Thr} (ht : t ∈ m.th) : (s, true) ∉ t.ents := fun hm => by
 have := cnt_pos ht hm
 omega
theorem PT.scs {m : M} (h : PT m) {sc' : List Scp} (hs : ∀ t ∈ m.th, ∀ s, (s, true) ∈ t.ents → (scGet sc' s).1.2.2.1 = (scGet m.sc s).1.2.2.1) : PT { m with sc := sc' } := by
 intro t ht A B s e
 rw [← h t ht A B s e]
 exact hs t ht s (by rw [e]; simp)
theorem scGet_setN {l : List Scp} {i : Nat} {y : Scp} {s : Int} (h0 : 0 ≤ s) : scGet (l.set i y) s = if s = i ∧ i < l.length then y else scGet l s := by
 unfold scGet nth nN
 rw [List.getD_eq_getElem?_getD, List.getElem?_set]
 by_cases h : i = s.toNat
 ·by_cases h2 : i < l.length
  ·rw [if_pos h, if_pos (by omega), if_pos (by omega)]; rfl
  ·rw [if_pos h, if_neg (by omega), if_neg (by omega)]
   rw [List.getD_eq_getElem?_getD, List.getElem?_eq_none (by omega)]
 ·rw [if_neg h, if_neg (by omega), List.getD_eq_getElem?_getD]
theorem ent_nn {k : Nat} {m : M} (h : MI k m) {t : Thr} (ht : t ∈ m.th) {s : Int} (hs : (s, true) ∈ t.ents) : 1 ≤ s ∧ s < m.p.1 := by
 have := (h.th t ht).2.2.rng _ hs
 exact ⟨this.2.2 rfl, this.2.1⟩
theorem PI.enter {k : Nat} {m : M} (h : MI k m) (hc : CT m) (hd : ND m) (hp : PT m) {n : Int} (hn : 0 ≤ n ∧ n < m.th.length) (a : Int) : ND (m.enter n a).1 ∧ PT (m.enter n a).1 := by
 unfold M.enter
 split
 ·exact ⟨hd, hp⟩
 rename_i ha
 have ha : 1 ≤ a ∧ a ≤ m.p.1 - 1 := by rw [← wi_iff]; simpa using ha
 split
 ·exact ⟨hd, hp⟩
 rename_i hq
 split
 ·exact ⟨hd, hp⟩
 rename_i hu
 have hq : (m.thAt n).ents.length < 6 := by
  unfold push at hq
  split at hq
  ·exact absurd (by decide) hq
  ·omega
 have hx := h.scAt (i := a) (by omega)
 have hls := h.ls
 have his : scIs m.sc 1 a = true := scIs_iff.2 ⟨by omega, by omega⟩
 have hcr := h.si.cr _ _ hx
 unfold scUpd at hu ⊢
 rw [if_pos his] at hu ⊢
 split
 ·rename_i h0
  have hsp := ctlEnter_spec hcr h0
  have hco := hc a.toNat _ (by omega) hx
  have e1 : ((a.toNat : Nat) : Int) = a := by omega
  rw [e1] at hco
  have key : ∀ t ∈ m.th, (a, true) ∈ t.ents → (scGet m.sc a).1.2.2.1 = area (m.thAt n).ents := by
   intro t ht hm
   rcases hsp.2 with h1 | ⟨_, h1, _⟩
   ·have := cnt_pos ht hm
    rcases right_state hcr with ⟨_, h2, _⟩ | h2 | ⟨h2, _⟩ <;> omega
   ·exact h1
  have hsc : PT { m with sc := m.sc.set a.toNat ((ctlEnter (scGet m.sc a).1 (area (m.thAt n).ents)).1, (scGet m.sc a).2) } := by
   refine hp.scs fun t ht s hs => ?_
   have hr := ent_nn h ht hs
   rw [scGet_setN (by omega)]
   split
   ·rename_i hh
    have hsa : s = a := by omega
    subst hsa
    rw [hsp.1, key t ht hs]
   ·rfl
  refine ⟨?_, hsc.ents fun A B s e => ?_⟩
  ·refine ND.set hd ?_
   rw [hsp.1]; exact (by decide : (2 : Int) ≠ 3)
  ·unfold push at e
   rw [if_neg (by omega)] at e
   rcases snoc_split e with ⟨_, e2, e3⟩ | ⟨B', _, e3⟩
   ·cases e2
    rw [← e3, scGet_setN (by omega), if_pos ⟨by omega, by omega⟩, hsp.1]
   ·exact hsc _ (M.thMem hn) A B' s e3
 ·rename_i h0
  rw [if_neg h0] at hu; exact absurd h0 hu
theorem PI.leave {k : Nat} {m : M} (h : MI k m) (hc : CT m) (hd : ND m) (hp : PT m) {n : Int} (hn : 0 ≤ n ∧ n < m.th.length) {s : Int} {a : Ans} (h1 : 1 ≤ s ∧ s < m.p.1) (h2 : (scGet m.sc s).1.1 = 2) (hl : (m.thAt n).ents.getLast? = some (s, true)) :
  ND (m.leave n s (m.thAt n).ents.dropLast a).1 ∧ PT (m.leave n s (m.thAt n).ents.dropLast a).1 := by
 have hx := h.scAt (i := s) (by omega)
 have hr := h.si.cr _ _ hx
 have hls := h.ls
 have hcc := CT.leave (a := a) h hc hn h1 h2 hl
 rw [M.leave_eq h1.1 (by rw [h.ls]; exact h1.2) hr h2] at hcc ⊢
 have hself := hp _ (M.thMem hn)
 split
 ·rename_i h3
  rw [if_pos h3] at hcc
  refine ⟨ND.set (m := m.setAr s ar0) hd (by exact (by decide : (1 : Int) ≠ 3)), ?_⟩
  have hz : ∀ t ∈ (m.setEnts n (m.thAt n).ents.dropLast).th, (s, true) ∉ t.ents := by
   intro t ht
   refine no_entry (m := m.setEnts n (m.thAt n).ents.dropLast) ?_ ht
   have := hcc s.toNat ((1, 0, -1, nextEpoch (scGet m.sc s).1.2.2.2), (scGet m.sc s).2) (by omega) (by
    show (m.sc.set s.toNat _)[s.toNat]? = _
    rw [List.getElem?_set, if_pos rfl, if_pos (by omega)])
   have e : ((s.toNat : Nat) : Int) = s := by omega
   rw [e] at this
   have this : (0 : Int) = ((cnt (m.setEnts n (m.thAt n).ents.dropLast).th s : Nat) : Int) := this
   omega
  intro t ht A B q e
  have ht' : t ∈ (m.setEnts n (m.thAt n).ents.dropLast).th := ht
  have hq : q ≠ s := fun eq => hz t ht' (by rw [e, eq]; simp)
  have hm : PT (m.setEnts n (m.thAt n).ents.dropLast) := hp.ents fun A B s e => by
   obtain ⟨B', e2⟩ := split_drop e
   exact hself A B' s e2
  have hqr : 0 ≤ q := by
   rcases List.mem_or_eq_of_mem_set (show t ∈ m.th.set n.toNat _ from ht) with g | g
   ·have := ent_nn h g (s := q) (by rw [e]; simp); omega
   ·rw [g] at e
    obtain ⟨B', e2⟩ := split_drop e
    have := ent_nn h (M.thMem hn) (s := q) (by rw [e2]; simp); omega
  rw [← hm t ht' A B q e]
  show (scGet (m.sc.set s.toNat _) q).1.2.2.1 = _
  rw [scGet_setN hqr, if_neg (by omega)]; rfl
 ·refine ⟨ND.set hd (by simp), ?_⟩
  have hsc : PT { m with sc := m.sc.set s.toNat ((2, (scGet m.sc s).1.2.1 - 1, (scGet m.sc s).1.2.2.1, (scGet m.sc s).1.2.2.2), (scGet m.sc s).2) } := by
   refine hp.scs fun t ht q hq => ?_
   have hr := ent_nn h ht hq
   rw [scGet_setN (by omega)]
   split
   ·rename_i hh
    have : q = s := by omega
    subst this; rfl
   ·rfl
  refine hsc.ents fun A B q e => ?_
  obtain ⟨B', e2⟩ := split_drop e
  exact hsc _ (M.thMem hn) A B' q e2
theorem PI.exit {k : Nat} {m : M} (h : MI k m) (hc : CT m) (hd : ND m) (hp : PT m) {n : Int} (hn : 0 ≤ n ∧ n < m.th.length) : ND (m.exit n).1 ∧ PT (m.exit n).1 := by
 have ht := h.thAt hn
 have hself := hp _ (M.thMem hn)
 unfold M.exit
 split
 ·exact ⟨hd, hp⟩
 ·rename_i x hx
  obtain ⟨s, b⟩ := x
  split
  ·refine ⟨hd, hp.ents fun A B s e => ?_⟩
   obtain ⟨B', e2⟩ := split_drop e
   exact hself A B' s e2
  ·rename_i hb
   have hm := last_mem hx
   have hb : b = true := by simpa using hb
   subst hb
   have hlv := h.live hc (M.thMem hn) (.inr hm)
   have hr := ht.2.2.rng _ hm
   have h1 := hr.2.2 rfl
   simp only at h1
   have ha := (h.arI (i := s) ⟨hlv.2.2.1, hlv.2.2.2⟩).2
   have hm' := h.setArI (i := s) ⟨hlv.2.2.1, hlv.2.2.2⟩ (ha.fin m.f)
   split
   ·split
    ·exact ⟨hd, hp⟩
    ·exact PI.leave hm' hc hd hp hn ⟨h1, hlv.2.2.2⟩ hlv.2.1 hx
   ·exact PI.leave h hc hd hp hn ⟨h1, hlv.2.2.2⟩ hlv.2.1 hx
theorem PI.goIn {k : Nat} {m : M} (h : MI k m) (hd : ND m) (hp : PT m) {n : Int} (hn : 0 ≤ n ∧ n < m.th.length) (a : Int) : ND (m.goIn n a).1 ∧ PT (m.goIn n a).1 := by
 unfold M.goIn
 split
 ·exact ⟨hd, hp⟩
 split
 ·exact ⟨hd, hp⟩
 split
 ·exact ⟨hd, hp⟩
 rename_i hq
 have hq : (m.thAt n).ents.length < 6 := by
  unfold push at hq
  split at hq
  ·exact absurd (by decide) hq
  ·omega
 refine ⟨hd, hp.ents fun A B s e => ?_⟩
 unfold push at e
 rw [if_neg (by omega)] at e
 rcases snoc_split e with ⟨_, e2, _⟩ | ⟨B', _, e3⟩
 ·cases e2
 ·exact hp _ (M.thMem hn) A B' s e3
theorem PT.idle {k : Nat} {m : M} (h : MI k m) (hc : CT m) (hp : PT m) {i : Nat} {x y : Scp} (hx : m.sc[i]? = some x) (h0 : x.1.1 = 0 ∨ x.1.1 = 1) : PT { m with sc := m.sc.set i y } := by
 refine hp.scs fun t ht s hs => ?_
 have hr := ent_nn h ht hs
 rw [scGet_setN (by omega)]
 split
 ·rename_i hh
  exfalso
  have hco := hc i x (by omega) hx
  have := cnt_pos ht hs
  rw [hh.1] at this
  rcases right_state (h.si.cr i x hx) with ⟨_, h2, _⟩ | h2 | ⟨h2, _⟩ <;> omega
 ·rfl
theorem PI.create {k : Nat} {m : M} (h : MI k m) (hc : CT m) (hd : ND m) (hp : PT m) (a : Int) : ND { m with sc := (scCreate m.sc m.fl a).1, fl := (scCreate m.sc m.fl a).2.1 } ∧ PT { m with sc := (scCreate m.sc m.fl a).1, fl := (scCreate m.sc m.fl a).2.1 } := by
 have key : (scCreate m.sc m.fl a).1 = m.sc ∨ ∃ (i : Nat) (x : Scp) (y : Scp), m.sc[i]? = some x ∧ x.1.1 = 0 ∧ y.1.1 = 1 ∧ (scCreate m.sc m.fl a).1 = m.sc.set i y := by
  unfold scCreate
  split
  ·exact .inl rfl
  ·cases hfr : freeAt m.sc with
   | none => exact .inl rfl
   | some i =>
    simp only
    cases hcv : carve m.fl (up8 a) with
    | none => exact .inl rfl
    | some r =>
     obtain ⟨x, h1, h2⟩ := freeAt_some hfr
     exact .inr ⟨i, x, _, h1, h2, rfl, rfl⟩
 rcases key with e | ⟨i, x, y, h1, h2, h3, e⟩
 ·rw [e]; exact ⟨hd, hp⟩
 ·rw [e]
  exact ⟨ND.set hd (by omega), PT.idle h hc hp h1 (.inl h2)⟩
theorem PI.destroy {k : Nat} {m : M} (h : MI k m) (hc : CT m) (hd : ND m) (hp : PT m) (a : Int) : ND { m with sc := (scDestroy m.fr m.en m.sc m.fl a).1, fl := (scDestroy m.fr m.en m.sc m.fl a).2.1 } ∧ PT { m with sc := (scDestroy m.fr m.en m.sc m.fl a).1, fl := (scDestroy m.fr m.en m.sc m.fl a).2.1 } := by
 have key : (scDestroy m.fr m.en m.sc m.fl a).1 = m.sc ∨ ∃ (i : Nat) (x : Scp) (y : Scp), m.sc[i]? = some x ∧ x.1.1 = 1 ∧ y.1.1 = 0 ∧ (scDestroy m.fr m.en m.sc m.fl a).1 = m.sc.set i y := by
  unfold scDestroy
  split
  ·exact .inl rfl
  ·rename_i hn
   have hn : 1 ≤ a ∧ a < m.sc.length := by rw [← scIs_iff]; simpa using hn
   split
   ·exact .inl rfl
   ·split
    ·exact .inl rfl
    ·rename_i h1
     exact .inr ⟨a.toNat, _, _, scGet_lt (by omega) hn.2, by omega, rfl, rfl⟩
 rcases key with e | ⟨i, x, y, h1, h2, h3, e⟩
 ·rw [e]; exact ⟨hd, hp⟩
 ·rw [e]
  exact ⟨ND.set hd (by omega), PT.idle h hc hp h1 (.inr h2)⟩
def PI (m : M) : Prop := ND m ∧ PT m
theorem PI.reg {m : M} (h : PI m) {n : Int} (hn : 0 ≤ n ∧ n < m.th.length) (r v : Int) : PI (m.setReg n r v) := ⟨h.1, h.2.setReg hn r v⟩
theorem PI.put {m to : M} (h : PI m) (ht : PI to) (l : List Enty) (v s : Int) : PI (m.put l v s to).1 := by
 unfold M.put
 split
 ·exact ht
 ·split
  ·exact h
  ·split
   ·exact h
   ·split
    ·exact h
    ·exact ht
theorem PI.act {k : Nat} {m : M} (h : MI k m) (hc : CT m) (hp : PI m) {n : Int} (hn : 0 ≤ n ∧ n < m.th.length) (c : Cal) : PI (m.act n c).1 := by
 obtain ⟨op, r, g, v, a, b, t⟩ := c
 refine ite_P (fun o : Out => PI o.1) (fun _ => hp) fun _ => ?_
 refine ite_P (fun o : Out => PI o.1) (fun _ => hp.reg hn _ _) fun _ => ?_
 refine ite_P (fun o : Out => PI o.1) (fun _ => PI.create h hc hp.1 hp.2 a) fun _ => ?_
 refine ite_P (fun o : Out => PI o.1) (fun _ => PI.destroy h hc hp.1 hp.2 a) fun _ => ?_
 refine ite_P (fun o : Out => PI o.1) (fun _ => PI.enter h hc hp.1 hp.2 hn a) fun _ => ?_
 refine ite_P (fun o : Out => PI o.1) (fun _ => PI.exit h hc hp.1 hp.2 hn) fun _ => ?_
 refine ite_P (fun o : Out => PI o.1) (fun _ => PI.goIn h hp.1 hp.2 hn a) fun _ => ?_
 refine ite_P (fun o : Out => PI o.1) (fun _ => ?_) fun _ => ?_
 ·unfold M.alloc
  refine ite_P (fun o : Out => PI o.1) (fun _ => hp) fun _ => ?_
  exact ite_P (fun o : Out => PI o.1) (fun _ => hp) fun _ => PI.reg (m := M.setAr m _ _) hp hn _ _
 refine ite_P (fun o : Out => PI o.1) (fun _ => ?_) fun _ => ?_
 ·unfold M.load
  refine ite_P (fun o : Out => PI o.1) (fun _ => hp) fun _ => ?_
  split
  ·exact hp
  ·exact ite_P (fun o : Out => PI o.1) (fun _ => hp) fun _ => hp.reg hn _ _
 refine ite_P (fun o : Out => PI o.1) (fun _ => ?_) fun _ => ?_
 ·unfold M.store
  refine ite_P (fun o : Out => PI o.1) (fun _ => hp) fun _ => ?_
  split
  ·exact hp
  ·exact ite_P (fun o : Out => PI o.1) (fun _ => hp) fun _ => PI.put (to := M.setObj m _ _) hp hp _ _ _
 refine ite_P (fun o : Out => PI o.1) (fun _ => ?_) fun _ => ?_
 ·unfold M.portal
  refine ite_P (fun o : Out => PI o.1) (fun _ => hp) fun _ => ?_
  exact ite_P (fun o : Out => PI o.1) (fun _ => hp) fun _ => hp.reg hn _ _
 refine ite_P (fun o : Out => PI o.1) (fun _ => ?_) fun _ => hp
 unfold M.gate
 refine ite_P (fun o : Out => PI o.1) (fun _ => hp) fun _ => ?_
 exact ite_P (fun o : Out => PI o.1) (fun _ => hp) fun _ => PI.put (to := M.setAr m _ _) hp hp _ _ _
theorem PI.step {k : Nat} {m : M} (h : MI k m) (hc : CT m) (hp : PI m) (n : Int) (c : Cal) : PI (m.step n c).1 := by
 unfold M.step
 split
 ·exact hp
 ·rename_i hn
  have hn : 0 ≤ n ∧ n ≤ (m.th.length : Int) - 1 := by rw [← wi_iff]; simpa using hn
  split
  ·exact hp
  ·exact PI.act h hc hp ⟨hn.1, by omega⟩ c
theorem PI.new {p : Pln} {f : List (List FOp)} : PI (M.new p f) := by
 refine ⟨fun i x hx => ?_, fun t ht A B s e => ?_⟩
 ·cases i with
  | zero =>
   have : some (((2, 1, -1, 0), (p.1 * 64, p.2.2.1)) : Scp) = some x := by simpa [M.new] using hx
   cases this; exact (by decide : (2 : Int) ≠ 3)
  | succ i =>
   have hx : (List.replicate (p.1 - 1).toNat (((0, 0, -1, 0), (0, 0)) : Scp))[i]? = some x := by simpa [M.new] using hx
   rw [List.eq_of_mem_replicate (List.mem_of_getElem? hx)]; decide
 ·have := List.eq_of_mem_replicate (show t ∈ List.replicate p.2.1.toNat _ from ht)
  rw [this] at e
  simp at e
end Go.Pen
set_option linter.unusedVariables false
set_option linter.unusedSimpArgs false
namespace Go.Proofs.YtihiooaimdoapaaGreat
open Go.Bm Go.Pen
def fitOp (o : FOp) : FOp :=
 if o.1 % 5 = 0 then (o.1 % 5, (o.2.1 % 64, 0)) else if o.1 % 5 = 1 then (o.1 % 5, (o.2.1 % 8 % 6, 0)) else if o.1 % 5 = 2 then (o.1 % 5, (o.2.1 % 8 % 6, o.2.2 % 8 % 6))
 else if o.1 % 5 = 3 then (o.1 % 5, (o.2.1 % 8 % 6, o.2.2 % 8)) else (o.1 % 5, (0, 0))
def fitRow (l : List FOp) : List FOp := (l.take 8).map fitOp
def fitF (f : List (List FOp)) : List (List FOp) := (f.take 8).map fitRow
theorem fitOp_right (o : FOp) : opRight (fitOp o) := by
 have e0 : o.1 % 5 = 0 ∨ o.1 % 5 = 1 ∨ o.1 % 5 = 2 ∨ o.1 % 5 = 3 ∨ o.1 % 5 = 4 := by omega
 unfold fitOp
 rcases e0 with h | h | h | h | h
 ·rw [if_pos h]; refine .inl ⟨h, ?_, ?_, rfl⟩ <;> dsimp only <;> omega
 ·rw [if_neg (by omega), if_pos h]; refine .inr (.inl ⟨h, ?_, ?_, rfl⟩) <;> dsimp only <;> omega
 ·rw [if_neg (by omega), if_neg (by omega), if_pos h]; refine .inr (.inr (.inl ⟨h, ?_, ?_, ?_, ?_⟩)) <;> dsimp only <;> omega
 ·rw [if_neg (by omega), if_neg (by omega), if_neg (by omega), if_pos h]; refine .inr (.inr (.inr (.inl ⟨h, ?_, ?_, ?_, ?_⟩))) <;> dsimp only <;> omega
 ·rw [if_neg (by omega), if_neg (by omega), if_neg (by omega), if_neg (by omega)]; exact .inr (.inr (.inr (.inr ⟨h, rfl, rfl⟩)))
theorem fitF_right (f : List (List FOp)) : finsRight (fitF f) := by
 refine ⟨by unfold fitF; simp; omega, fun l hl => ?_⟩
 obtain ⟨l', _, rfl⟩ := List.mem_map.1 hl
 refine ⟨by unfold fitRow; simp; omega, fun o ho => ?_⟩
 obtain ⟨o', _, rfl⟩ := List.mem_map.1 ho
 exact fitOp_right o'
theorem take_map_succ {α β : Type} (f : α → β) {l : List α} {k : Nat} (hk : k < l.length) : (l.take (k + 1)).map f = (l.take k).map f ++ [f l[k]] := by
 rw [List.take_add_one, List.getElem?_eq_getElem hk, List.map_append]; rfl
abbrev FitO : Type := ((Int × Unit) × (((List (List FOp)) × Unit) × (Unit × (Unit × Unit))))
theorem fit_l0 {f : List (List FOp)} (hop : ∀ l ∈ f, ∀ o ∈ l, 0 ≤ o.1) {i : Nat} (hi : i < f.length) (hi8 : i < 8) {out : List (List FOp)} (ho : out.length = i) (v1 : FitO → Option (((List (List FOp)) × Unit) × Unit)) :
  loop (g.penfoldref10_Fit_l0 f (((i : Int), ()), ((out, ()), ((), ((), ())))) v1) ((0, ()), (([], ()), ((), ((), ())))) = v1 ((((i + 1 : Nat) : Int), ()), (((out ++ [fitRow f[i]]), ()), ((), ((), ())))) := by
 have hff : nth [] f (nN (i : Int)) = f[i] := nth_lt hi
 have ei : iadd IntKind.i64 (i : Int) 1 = ((i + 1 : Nat) : Int) := by rw [iadd_s (by omega)]; omega
 generalize hl : f[i] = l at *
 have hop := hop l (by rw [← hl]; exact List.getElem_mem hi)
 refine (loop_up (fun k => ((((k : Nat) : Int), ()), ((((l.take k).map fitOp, ()), ((), ((), ())))))) (fun _ => v1 ((((i + 1 : Nat) : Int), ()), (((out ++ [fitRow l]), ()), ((), ((), ()))))) (min l.length 8) (by unfold big; omega) (fun K => ?_) (fun k hk => .inr ⟨rfl, fun K => ?_⟩))
 ·have e8 : (l.take (min l.length 8)).map fitOp = fitRow l := by
   unfold fitRow
   by_cases h : l.length ≤ 8
   ·rw [Nat.min_eq_left h, List.take_length, List.take_of_length_le h]
   ·rw [Nat.min_eq_right (by omega)]
  rw [e8]
  unfold g.penfoldref10_Fit_l0
  dsimp only
  rw [hff]
  by_cases h : l.length ≤ 8
  ·rw [Nat.min_eq_left h]
   repeat (refine HS ?_)
   rw [ei]; rfl
  ·rw [Nat.min_eq_right (by omega)]
   repeat (refine HS ?_)
   rw [ei]; rfl
 ·have h1 : k < l.length := by omega
  have h2 : k < 8 := by omega
  have e : ∀ d, nth d l (nN (k : Int)) = l[k] := fun d => nth_lt h1
  have h0 := hop l[k] (List.getElem_mem h1)
  have ek : iadd IntKind.i64 (k : Int) 1 = ((k + 1 : Nat) : Int) := by rw [iadd_s (by omega)]; omega
  have hlen : ((l.take k).map fitOp).length = k := by simp; omega
  rw [take_map_succ fitOp h1]
  generalize (l.take k).map fitOp = p at *
  unfold g.penfoldref10_Fit_l0
  dsimp only
  rw [hff, e]
  generalize l[k] = o at *
  have er : irem o.1 5 = o.1 % 5 := irem_p h0
  have eA : bits BinOp.and IntKind.i64 o.2.1 63 = o.2.1 % 64 := and_i64 6 (by omega) (by decide)
  have eB : bits BinOp.and IntKind.i64 o.2.1 7 = o.2.1 % 8 := and_i64 3 (by omega) (by decide)
  have eC : bits BinOp.and IntKind.i64 o.2.2 7 = o.2.2 % 8 := and_i64 3 (by omega) (by decide)
  have eD : irem (o.2.1 % 8) 6 = o.2.1 % 8 % 6 := irem_p (by omega)
  have eE : irem (o.2.2 % 8) 6 = o.2.2 % 8 % 6 := irem_p (by omega)
  rw [er, eA, eB, eC, eD, eE, ek]
  unfold fitOp
  by_cases c0 : o.1 % 5 = 0
  ·rw [if_pos c0]
   repeat (refine HS ?_)
   rfl
  rw [if_neg c0]
  by_cases c1 : o.1 % 5 = 1
  ·rw [if_pos c1]
   repeat (refine HS ?_)
   rfl
  rw [if_neg c1]
  by_cases c2 : o.1 % 5 = 2
  ·rw [if_pos c2]
   repeat (refine HS ?_)
   rfl
  rw [if_neg c2]
  by_cases c3 : o.1 % 5 = 3
  ·rw [if_pos c3]
   repeat (refine HS ?_)
   rfl
  rw [if_neg c3]
  repeat (refine HS ?_)
  rfl
theorem ref10_Fit_s {f : List (List FOp)} (hop : ∀ l ∈ f, ∀ o ∈ l, 0 ≤ o.1) : g.penfoldref10_Fit f = some ((fitF f, ()), ()) := by
 unfold g.penfoldref10_Fit
 refine (loop_up (fun k => ((((k : Nat) : Int), ()), ((((f.take k).map fitRow, ()), ((), ((), ())))))) (fun _ => some ((fitF f, ()), ())) (min f.length 8) (by unfold big; omega) (fun K => ?_) (fun k hk => .inr ⟨rfl, fun K => ?_⟩))
 ·have e8 : (f.take (min f.length 8)).map fitRow = fitF f := by
   unfold fitF
   by_cases h : f.length ≤ 8
   ·rw [Nat.min_eq_left h, List.take_length, List.take_of_length_le h]
   ·rw [Nat.min_eq_right (by omega)]
  rw [e8]
  unfold g.penfoldref10_Fit_l1
  dsimp only
  by_cases h : f.length ≤ 8
  ·rw [Nat.min_eq_left h]
   by_cases h8 : f.length = 8
   ·repeat (refine HS ?_)
    rfl
   ·repeat (refine HS ?_)
    rfl
  ·rw [Nat.min_eq_right (by omega)]
   repeat (refine HS ?_)
   rfl
 ·have h1 : k < f.length := by omega
  have h2 : k < 8 := by omega
  have hlen : ((f.take k).map fitRow).length = k := by simp; omega
  rw [take_map_succ fitRow h1]
  unfold g.penfoldref10_Fit_l1
  dsimp only
  repeat (refine HS ?_)
  exact fit_l0 hop h1 h2 hlen K
section
variable {c0 : T0} {c1 : T1} {d0 : T2} {d1 : T3} {d2 : T4} {d3 : T5} {d4 : T6} {d5 : T7} {d6 : T8} {d7 : T9} {d8 : T10} {md : Nat} {m : M} {k : Nat}
theorem Ctl_s (h : St c0 c1 d0 d1 d2 d3 d4 d5 d6 d7 d8 md k m) {s : Int} (hs : 0 ≤ s ∧ s < m.p.1) : g.model_Model_Ctl md s c0 c1 d0 d1 d2 d3 d4 d5 d6 d7 d8 = some (((scGet m.sc s).1, (0, ())), ()) := by
 obtain ⟨⟨N, L, es, hr⟩, hi, hc⟩ := h
 have b2 := box_sc hr
 have hln := hi.si.len
 have hC := sc_Ctl_s hr.sr s (by omega)
 have his : scIs m.sc 0 s = true := scIs_iff.2 ⟨hs.1, by rw [hi.ls]; exact hs.2⟩
 unfold scCtl at hC
 rw [if_pos his] at hC
 unfold g.model_Model_Ctl
 repeat (refine HS ?_)
 rfl
theorem of_s (h : St c0 c1 d0 d1 d2 d3 d4 d5 d6 d7 d8 md k m) {s : Int} (hs : 0 ≤ s ∧ s < m.p.1) : ∃ o, g.model_Model_of md s c0 c1 d0 d1 d2 d3 d4 d5 d6 d7 d8 = some ((((m.arAt s).used, ((m.arAt s).gate, o)), ()), ()) := by
 obtain ⟨⟨N, L, es, hr⟩, hi, hc⟩ := h
 have b3 := box_ja hr
 have har := hr.ar
 have hll := ar_len hr hi
 have hp := hi.nsc
 obtain ⟨na, hna, hna2⟩ := ar_at hr hi hs
 have hw0 : isub IntKind.i64 (zN (len (L.map fun a => (a.used, (a.gate, a.jo))))) 1 = (L.length : Int) - 1 := by
  rw [zN_c, len_d, List.length_map, isub_s (by omega)]
 have hw : within s 0 (isub IntKind.i64 (zN (len (L.map fun a => (a.used, (a.gate, a.jo))))) 1) = true := by
  rw [hw0, wi_iff]; omega
 refine ⟨na.jo, ?_⟩
 unfold g.model_Model_of
 repeat (refine HS ?_)
 rw [ar_nth hna, hna2]
 rfl
theorem Used_s (h : St c0 c1 d0 d1 d2 d3 d4 d5 d6 d7 d8 md k m) {s : Int} (hs : 0 ≤ s ∧ s < m.p.1) : g.model_Model_Used md s c0 c1 d0 d1 d2 d3 d4 d5 d6 d7 d8 = some (((m.arAt s).used, ()), ()) := by
 obtain ⟨o, ho⟩ := of_s h hs
 unfold g.model_Model_Used
 rw [ho]; rfl
theorem Entries_s (h : St c0 c1 d0 d1 d2 d3 d4 d5 d6 d7 d8 md k m) {n : Int} (hn : 0 ≤ n ∧ n < m.th.length) : g.model_Model_Entries md n c0 c1 d0 d1 d2 d3 d4 d5 d6 d7 d8 = some (((m.thAt n).ents, ()), ()) := by
 obtain ⟨⟨N, L, es, hr⟩, hi, hc⟩ := h
 have b4 := box_jt hr
 have hth := hr.th
 have hlt := hi.lt
 have hp := hi.nsc
 have ht := (hi.thAt hn).2.2.len
 have hw : within n 0 (isub IntKind.i64 (zN (len (m.th.map fun t => (t.regs, t.ents)))) 1) = true := by
  rw [zN_c, len_d, List.length_map, isub_s (by omega), wi_iff]; omega
 have hcl := slices_Clone__s (l := (m.thAt n).ents) (by omega)
 have hcl2 : g.slices_Clone_ (nth ([0, 0, 0, 0], []) (m.th.map fun t => (t.regs, t.ents)) (nN n)).2 = some (((m.thAt n).ents, ()), ()) := by rw [th_nth hn]; exact hcl
 unfold g.model_Model_Entries
 repeat (refine HS ?_)
 rfl
theorem fitL_self {l : List Int} (h : l.length = 4) : fitL 0 4 l = l := by
 match l, h with
 | [a, b, c, d], _ => rfl
theorem Regs_s (h : St c0 c1 d0 d1 d2 d3 d4 d5 d6 d7 d8 md k m) {n : Int} (hn : 0 ≤ n ∧ n < m.th.length) : g.model_Model_Regs md n c0 c1 d0 d1 d2 d3 d4 d5 d6 d7 d8 = some (((m.thAt n).regs, ()), ()) := by
 obtain ⟨⟨N, L, es, hr⟩, hi, hc⟩ := h
 have b4 := box_jt hr
 have hth := hr.th
 have hlt := hi.lt
 have hp := hi.nsc
 have ht := (hi.thAt hn).1
 have hw : within n 0 (isub IntKind.i64 (zN (len (m.th.map fun t => (t.regs, t.ents)))) 1) = true := by
  rw [zN_c, len_d, List.length_map, isub_s (by omega), wi_iff]; omega
 have hfl : (fitL 0 4 (nth ([0, 0, 0, 0], []) (m.th.map fun t => (t.regs, t.ents)) (nN n)).1) = (m.thAt n).regs := by rw [th_nth hn]; exact fitL_self ht
 unfold g.model_Model_Regs
 repeat (refine HS ?_)
 rw [hfl]
 repeat (refine HS ?_)
 rfl
end
end Go.Proofs.YtihiooaimdoapaaGreat
set_option linter.unusedVariables false
set_option linter.unusedSimpArgs false
namespace Go.Bm
noncomputable section
open Go.RowKit Go.ChangeShapes Go.WideShapes Go.Deep
def memOf (W : World) : Mem := fun b o => (W.cell? ⟨b, o, none⟩).filter (·.oneCell')
theorem memOf_of {W : World} {b o : Nat} {x : Value} (h : W.cell? ⟨b, o, none⟩ = some x) (h1 : x.oneCell' = true) : memOf W b o = some x := by simp [memOf, h, h1]
theorem cell_heap {W : World} {b o : Nat} {x : Value} (h : W.cell? ⟨b, o, none⟩ = some x) : ∃ cur ty fz, W.heap[b]? = some (.cells cur ty fz) ∧ cur[o]? = some x := by
 unfold World.cell? at h
 split at h
 ·rename_i c ty fz hb
  simp at h
  exact ⟨c, ty, fz, hb, h⟩
 ·cases h
def inR (k : IntKind) (a : Int) : Prop := k.min ≤ a ∧ a ≤ k.max
def okT : (t : Ty) → t.T → Prop
 | .int k, a => inR k a
 | .bool, _ => True
 | .unit, _ => True
 | .pair a b, x => okT a x.1 ∧ okT b x.2
 | .arr n t, l => List.length (α := t.T) l = n ∧ ∀ x : t.T, List.Mem (α := t.T) x l → okT t x
 | .slc t, l => List.length (α := t.T) l ≤ maxLen ∧ ∀ x : t.T, List.Mem (α := t.T) x l → okT t x
 | _, _ => False
def RdT (P : Program) (W : World) (t : TypeId) (u : Ty) : Prop :=
 ∀ (H : Type) (enc : TypeId × Value → H) (n : Nat) (cs : List Value) (x : DataW H × List MemPlace), DataW.trod enc P W 0 (fun _ => true) true n t cs = some x → ∃ a : u.T, VDs (memOf W) (encD u a) cs ∧ okT u a
theorem pick_list {α : Type} {Q : Nat → α → Prop} : ∀ n : Nat, (∀ i, i < n → ∃ x, Q i x) → ∃ xs : List α, xs.length = n ∧ ∀ (i : Nat) (x : α), xs[i]? = some x → Q i x
 | 0, _ => ⟨[], rfl, fun i x h => by simp at h⟩
 | n + 1, h => by
  obtain ⟨xs, h1, h2⟩ := pick_list n (fun i hi => h i (by omega))
  obtain ⟨x, hx⟩ := h n (by omega)
  refine ⟨xs ++ [x], by simp [h1], fun i y hy => ?_⟩
  by_cases hi : i < xs.length
  ·rw [List.getElem?_append_left hi] at hy; exact h2 i y hy
  ·rw [List.getElem?_append_right (by omega)] at hy
   have := (List.getElem?_eq_some_iff.1 hy).1
   have e : i - xs.length = 0 := by simp at this; omega
   rw [e] at hy
   simp at hy
   subst hy
   rw [show i = n by omega]; exact hx
theorem cells_get {W : World} {base n : Nat} {a : Addr} {cs : List Value} (h : W.cells? base a n = some cs) (k : Nat) (x : Value) (hk : cs[k]? = some x) : W.cell? (a.add k) = some x := by
 unfold World.cells? at h
 split at h
 ·have hlen := mapM_some_length h
  have hlt := (List.getElem?_eq_some_iff.1 hk).1
  rw [List.length_range] at hlen
  rw [← hk]
  exact mapM_some_get h k k (by rw [List.getElem?_range (by omega)])
 ·cases h
theorem rows_VDs {α : Type} {M : Mem} {f : α → List D} : ∀ ps : List (α × List Value), (∀ q ∈ ps, VDs M (f q.1) q.2) → VDs M (ps.map fun q => f q.1).flatten (ps.map (·.2)).flatten
 | [], _ => ⟨rfl, by simp⟩
 | q :: ps, h => by
  rw [List.map_cons, List.map_cons, List.flatten_cons, List.flatten_cons]
  exact (h q (List.mem_cons_self ..)).append (rows_VDs ps (fun r hr => h r (List.mem_cons_of_mem _ hr)))
theorem rows_mem {α : Type} {M : Mem} {b sz : Nat} : ∀ (ps : List (α × List Value)) (off : Nat), (∀ (i : Nat) (q : α × List Value), ps[i]? = some q → q.2.length = sz ∧ ∀ (k : Nat) (x : Value), q.2[k]? = some x → M b (off + i * sz + k) = some x) →
  ∀ (j : Nat) (x : Value), (ps.map (·.2)).flatten[j]? = some x → M b (off + j) = some x
 | [], _, _, j, x, h => by simp at h
 | q :: ps, off, h, j, x, hj => by
  obtain ⟨h1, h2⟩ := h 0 q rfl
  rw [List.map_cons, List.flatten_cons] at hj
  by_cases hlt : j < q.2.length
  ·rw [List.getElem?_append_left hlt] at hj
   simpa using h2 j x hj
  ·rw [List.getElem?_append_right (by omega)] at hj
   have := rows_mem ps (off + sz) (fun i r hr => by
    obtain ⟨k1, k2⟩ := h (i + 1) r (by simpa using hr)
    refine ⟨k1, fun k x hk => ?_⟩
    have := k2 k x hk
    rwa [show off + sz + i * sz + k = off + (i + 1) * sz + k by rw [Nat.add_mul]; omega]) _ x hj
   rwa [show off + sz + (j - q.2.length) = off + j by omega] at this
theorem VDs.one' {M : Mem} {d : D} {v : Value} (h : VD M d v) : VDs M [d] [v] := ⟨rfl, fun j c x k1 k2 => by
 cases j with
 | zero => simp at k1 k2; subst k1 k2; exact h
 | succ j => simp at k1⟩
theorem VDs.cut {M : Mem} {ds es : List D} {cs : List Value} (n : Nat) (h1 : VDs M ds (cs.take n)) (h2 : VDs M es (cs.drop n)) : VDs M (ds ++ es) cs := by
 have := h1.append h2
 rwa [List.take_append_drop] at this
theorem VDs.ones {M : Mem} {ds : List D} {vs : List Value} (h : VDs M ds vs) : ∀ x ∈ vs, x.oneCell' = true := fun x hx => by
 obtain ⟨j, hj⟩ := List.getElem?_of_mem hx
 have hl := (List.getElem?_eq_some_iff.1 hj).1
 exact (h.2 j _ x (List.getElem?_eq_getElem (by rw [h.1]; exact hl)) hj).one
section
variable {P : Program} {W : World}
theorem rdInt {t : TypeId} {k : IntKind} (ht : P.underlying t = some (.int k)) : RdT P W t (.int k) := by
 intro H enc n cs x h
 obtain ⟨a, rfl, _, hw⟩ := DataW.trod_int ht h
 refine ⟨a, .one' (.v _ rfl), ?_⟩
 have hw : (decide (k.min ≤ a) && decide (a ≤ k.max)) = true := hw
 rw [Bool.and_eq_true] at hw
 exact ⟨of_decide_eq_true hw.1, of_decide_eq_true hw.2⟩
theorem rdSlc {t e : TypeId} {u : Ty} (ht : P.underlying t = some (.slice e)) (he : P.cellsOf e = u.size) (h0 : 0 < u.size) (h : RdT P W e u) : RdT P W t (.slc u) := by
 intro H enc n cs x hx
 rcases open_slice ht hx with ⟨rfl, _⟩ | ⟨a, len, cap, m, n', D', Pl, rfl, hb, hl, hm, hmm, _, hel⟩
 ·exact ⟨([] : List u.T), .one' (.sl0 u.size false none), Nat.zero_le _, fun x hx => by cases hx⟩
 ·have hm' : m = cap := by simpa using hmm
  by_cases hc : cap = 0
  ·subst hc
   have : len = 0 := by omega
   subst this
   exact ⟨([] : List u.T), .one' (.sl0 u.size false _), Nat.zero_le _, fun x hx => by cases hx⟩
  ·obtain ⟨b, off, sp⟩ := a
   have hsp : sp = none := by
    obtain ⟨cs', k1, _⟩ := hel 0 (by omega)
    obtain ⟨_, hlen, hcell⟩ := World.cells?_some k1
    have g0 := hcell 0 (by omega)
    obtain ⟨c0, hc0⟩ : ∃ c0, cs'[0]? = some c0 := by
     cases cs' with
     | nil => simp at hlen; omega
     | cons c _ => exact ⟨c, rfl⟩
    rw [hc0] at g0
    simpa [Addr.add] using World.cell?_spot g0
   subst hsp
   obtain ⟨ps, h1, h2⟩ := pick_list (Q := fun i (q : u.T × List Value) => W.cells? 0 ((⟨b, off, none⟩ : Addr).add (i * P.cellsOf e)) (P.cellsOf e) = some q.2 ∧ VDs (memOf W) (encD u q.1) q.2 ∧ okT u q.1) len (fun i hi => by
    obtain ⟨cs', k1, k2⟩ := hel i (by omega)
    obtain ⟨x, k3, k4⟩ := h H enc n' cs' _ k2
    exact ⟨(x, cs'), k1, k3, k4⟩)
   have hmem : ∀ q ∈ ps, VDs (memOf W) (encD u q.1) q.2 := fun q hq => by
    obtain ⟨i, hi⟩ := List.getElem?_of_mem hq
    exact (h2 i q hi).2.1
   refine ⟨ps.map (·.1), .one' ?_, ?_, fun x hx' => ?_⟩
   ·have hlen : ((ps.map (·.1)).map (encD u)).length = len := by simp [h1]
    have hv := rows_VDs ps hmem
    have hfl : ((ps.map (·.1)).map (encD u)).flatten = (ps.map fun q => encD u q.1).flatten := by rw [List.map_map]; rfl
    have := VD.sl (M := memOf W) u.size false ((ps.map (·.1)).map (encD u)) (some (b, off)) cap (ps.map (·.2)).flatten (by
     intro e' he'
     obtain ⟨x, _, rfl⟩ := List.mem_map.1 he'
     exact encD_len u x) (by rw [hlen]; exact hl) (fun h => by cases h) (fun h => by cases h) hm (by rw [hfl]; exact hv.1) (fun p j x hp hj => by
     cases hp
     refine rows_mem (M := memOf W) (b := b) (sz := u.size) ps off (fun i q hq => ?_) j x hj
     obtain ⟨k1, k2, _⟩ := h2 i q hq
     refine ⟨by rw [← k2.1, encD_len], fun k x hk => ?_⟩
     refine memOf_of ?_ (k2.ones x (List.mem_of_getElem? hk))
     have hcell := cells_get k1 k x hk
     rw [he] at hcell
     simpa [Addr.add_lit] using hcell) (fun j c x e1 e2 => hv.2 j c x (by rw [← hfl]; exact e1) e2)
    rw [hlen] at this
    exact this
   ·show (ps.map (·.1)).length ≤ maxLen
    simp [h1]; omega
   ·have hx' : x ∈ ps.map (·.1) := hx'
    obtain ⟨q, hq, rfl⟩ := List.mem_map.1 hx'
    obtain ⟨i, hi⟩ := List.getElem?_of_mem hq
    exact (h2 i q hi).2.2
inductive RdF (P : Program) (W : World) : List Field → Nat → Ty → Prop
 | one {fd : Field} {off : Nat} {a : Ty} (h : RdT P W fd.type a) (ho : fd.offset = off) (hs : P.cellsOf fd.type = a.size) : RdF P W [fd] off a
 | cons {fd : Field} {fs : List Field} {off : Nat} {a b : Ty} (h : RdT P W fd.type a) (ho : fd.offset = off) (hs : P.cellsOf fd.type = a.size) (k : RdF P W fs (off + a.size) b) : RdF P W (fd :: fs) off (.pair a b)
theorem RdF.read {H : Type} {enc : TypeId × Value → H} {n : Nat} {cs : List Value} {fs : List Field} {off : Nat} {u : Ty} (h : RdF P W fs off u) : cs.length = off + u.size →
  (∀ fd ∈ fs, ∃ x, DataW.trod enc P W 0 (fun _ => true) true n fd.type ((cs.drop fd.offset).take (P.cellsOf fd.type)) = some x) → ∃ a : u.T, VDs (memOf W) (encD u a) (cs.drop off) ∧ okT u a := by
 induction h with
 | one h ho hs =>
  intro hl hx
  obtain ⟨x, hx1⟩ := hx _ (List.mem_cons_self ..)
  obtain ⟨a, a1, a2⟩ := h H enc n _ x hx1
  refine ⟨a, ?_, a2⟩
  rw [ho, hs, List.take_of_length_le (by simp; omega)] at a1
  exact a1
 | cons h ho hs k ih =>
  rename_i fd fs off a b
  intro hl hx
  have hl : cs.length = off + (a.size + b.size) := hl
  obtain ⟨x, hx1⟩ := hx fd (List.mem_cons_self ..)
  obtain ⟨y, a1, a2⟩ := h H enc n _ x hx1
  obtain ⟨z, b1, b2⟩ := ih (by omega) (fun fd' hm => hx fd' (List.mem_cons_of_mem _ hm))
  refine ⟨(y, z), ?_, a2, b2⟩
  rw [ho, hs] at a1
  refine VDs.cut (ds := encD a y) (es := encD b z) a.size a1 ?_
  rw [List.drop_drop]; exact b1
theorem rdStruct {t : TypeId} {fs : Array Field} {u : Ty} (ht : P.underlying t = some (.struct fs)) (hl : P.cellsOf t = u.size) (h : RdF P W fs.toList 0 u) : RdT P W t u := by
 intro H enc n cs x hx
 obtain ⟨xs, m, _, _, hcl, hxl, hf⟩ := DataW.trod_struct ht hx
 obtain ⟨a, d1, d2⟩ := h.read (H := H) (enc := enc) (n := m) (cs := cs) (by rw [hcl, hl, Nat.zero_add]) (fun fd hm => by
  obtain ⟨i, hi⟩ := List.getElem?_of_mem hm
  have hi' : fs[i]? = some fd := by simpa using hi
  have h1 := hf i fd hi'
  have hlt : i < fs.size := (Array.getElem?_eq_some_iff.1 hi').1
  exact ⟨xs[i]'(by omega), by rw [h1]; exact List.getElem?_eq_getElem (by omega)⟩)
 rw [List.drop_zero] at d1
 exact ⟨a, d1, d2⟩
def gst (W : World) : G := ⟨fun _ => none, memOf W, fun _ => none⟩
theorem Inv.start {S : Hp} (hS : ∀ o, S.ob o = none) : Inv (gst W) S W where
 cells := fun o cs h => by rw [hS] at h; cases h
 oth := fun o x h => by rw [hS] at h; cases h
 fresh := fun _ _ => rfl
 lt := fun o b s h => by cases h
 inj := fun o o' x x' b s s' h => by rw [hS] at h; cases h
 mem := fun b i x h => by
  have h : (W.cell? ⟨b, i, none⟩).filter (·.oneCell') = some x := h
  rw [Option.filter_eq_some_iff] at h
  exact cell_heap h.1
 memd := fun o b s i x h => by rw [hS] at h; cases h
 lp := fun b l h => by cases h
theorem rd_top {t : TypeId} {u : Ty} {H : Type} {enc : TypeId × Value → H} {v : Value} {dd : DataW H} {p : List MemPlace} (hr : RdT P W t u) (hd : u.data = true) (hc : v.cells.toList = [v]) (h : DataW.Trod enc P W 0 (fun _ => true) true t v dd p) :
  ∃ a : u.T, V (gst W) (packA false u a) v ∧ okT u a := by
 obtain ⟨fuel, hf⟩ := h
 rw [hc] at hf
 obtain ⟨a, h1, h2⟩ := hr H enc fuel _ _ hf
 have h3 := VDs.cells (g := gst W) u a _ hd h1
 refine ⟨a, ?_, h2⟩
 show V (gst W) (match encA u a with | [c] => c | _ => .junk) v
 obtain ⟨hl, h4⟩ := h3
 match he : encA u a with
 | [c] => exact (h4 0 c v (by rw [he]; rfl) rfl).1
 | [] => exact .junk _
 | _ :: _ :: _ => exact .junk _
def emK : (k : RK) → k.T
 | .box t => ([] : List t.T)
 | .row t => ([] : List (Option (List t.T)))
 | .map _ tk _ tv => ([] : List (List (tk.T × tv.T)))
def emR : (l : List (Nat × RK)) → Rgs l
 | [] => ()
 | p :: l => (emK p.2, emR l)
theorem regOb_em : ∀ (k : RK) (j : Nat), regOb k (emK k) j = none
 | .box _, _ => rfl
 | .row _, _ => rfl
 | .map _ _ _ _, _ => rfl
theorem rfind_em : ∀ (l : List (Nat × RK)) (r : Nat) (x : Rg), rfind (rgsL l (emR l)) r = some x → ∀ j, regOb x.k x.c j = none
 | [], r, x, h, j => by cases h
 | p :: l, r, x, h, j => by
  have h : (bif Nat.beq p.1 r then some (⟨p.1, p.2, emK p.2⟩ : Rg) else rfind (rgsL l (emR l)) r) = some x := h
  cases hp : Nat.beq p.1 r with
  | true => rw [hp] at h; cases h; exact regOb_em p.2 j
  | false => rw [hp] at h; exact rfind_em l r x h j
theorem h0_none (rl wl : List (Nat × RK)) (o : Nat) : (hp (h0 rl wl (emR rl) (emR wl))).ob o = none := by
 show (if o < lim then tOb .nil o else regAt (rgsL wl (emR wl) ++ rgsL rl (emR rl)) o) = none
 split
 ·unfold tOb; rw [Tr.get_nil]
 ·unfold regAt
  rw [rfind_app]
  cases h1 : rfind (rgsL wl (emR wl)) (rOf o) with
  | some x => exact rfind_em wl _ x h1 _
  | none =>
   simp only
   cases h2 : rfind (rgsL rl (emR rl)) (rOf o) with
   | some x => exact rfind_em rl _ x h2 _
   | none => rfl
theorem law_true {f : FuncId} {sg : Sig} {F : Plain sg} (h : CtOk P f sg F) (hrs : sg.rs = [(false, .bool)]) (x : Tup sg.ps) {y : Tup sg.rs} {d' : Rgs sg.wg} (hF : F x (emR sg.rg) (emR sg.wg) = some (y, d')) (hy : retA sg.rs y = .v (.bool true)) {vs : List Value}
  (hl : (argsA sg.ps x).length = vs.length) (hv : ∀ (i : Nat) (p : A) (v : Value), (argsA sg.ps x)[i]? = some p → vs[i]? = some v → V (gst W) p v) :
  Calls P f vs.toArray W fun e W' => e = .returned (.bool true) ∧ Go.World.Since W.heap.size W W' := by
 obtain ⟨t, nid, lk, hp⟩ := h.pc x _ _ y d' hF
 refine (hp (gst W) W vs (.start (h0_none _ _)) hl hv).mono ?_
 rintro e W' ⟨v, g', rfl, h1, _, h3⟩
 rw [hy] at h1
 cases h1
 exact ⟨rfl, h3.os, h3.tape, h3.output, h3.size, fun k hk => h3.frame k hk (by rintro ⟨o, s, x, _, e⟩; cases e)⟩
end
end
end Go.Bm
set_option linter.unusedVariables false
set_option linter.unusedSimpArgs false
namespace Go.Proofs.YtihiooaimdoapaaGreat
open Go.Bm Go.Pen
theorem p_put (m : M) (ents : List Enty) (v : Int) (scope : Int) (to : M) (h : to.p = m.p) : (m.put ents v scope to).1.p = m.p := by
 unfold M.put
 split
 ·exact h
 ·split
  ·rfl
  ·cases (m.check ents v).1 with
   | none => rfl
   | some o =>
    dsimp only
    split
    ·rfl
    ·exact h
theorem p_enter (m : M) (n a : Int) : (m.enter n a).1.p = m.p := by
 unfold M.enter
 split
 ·rfl
 ·split
  ·rfl
  ·split <;> rfl
theorem p_leave (m : M) (n s : Int) (l : List Enty) (a : Ans) : (m.leave n s l a).1.p = m.p := by
 unfold M.leave
 split <;> rfl
theorem p_exit (m : M) (n : Int) : (m.exit n).1.p = m.p := by
 unfold M.exit
 cases (m.thAt n).ents.getLast? with
 | none => rfl
 | some x =>
  dsimp only
  split
  ·rfl
  ·split
   ·split
    ·rfl
    ·exact p_leave _ _ _ _ _
   ·exact p_leave _ _ _ _ _
theorem p_goIn (m : M) (n a : Int) : (m.goIn n a).1.p = m.p := by
 unfold M.goIn
 split
 ·rfl
 ·split
  ·rfl
  ·split <;> rfl
theorem p_alloc (m : M) (n r a b c : Int) : (m.alloc n r a b c).1.p = m.p := by
 unfold M.alloc
 split
 ·rfl
 ·split <;> rfl
theorem p_load (m : M) (n r h b : Int) : (m.load n r h b).1.p = m.p := by
 unfold M.load
 split
 ·rfl
 ·cases (m.check (m.thAt n).ents (m.reg n h)).1 with
  | none => rfl
  | some o => dsimp only; split <;> rfl
theorem p_store (m : M) (n h v b : Int) : (m.store n h v b).1.p = m.p := by
 unfold M.store
 split
 ·rfl
 ·cases (m.check (m.thAt n).ents (m.reg n h)).1 with
  | none => rfl
  | some o =>
   dsimp only
   split
   ·rfl
   ·exact p_put _ _ _ _ _ rfl
theorem p_portal (m : M) (n r a : Int) : (m.portal n r a).1.p = m.p := by
 unfold M.portal
 split
 ·rfl
 ·split <;> rfl
theorem p_gate (m : M) (n v a : Int) : (m.gate n v a).1.p = m.p := by
 unfold M.gate
 split
 ·rfl
 ·split
  ·rfl
  ·exact p_put _ _ _ _ _ rfl
theorem p_act (m : M) (n : Int) (c : Cal) : (m.act n c).1.p = m.p := by
 obtain ⟨op, r, h, v, a, b, d⟩ := c
 unfold M.act
 dsimp only
 by_cases h0 : op = 0
 ·rw [if_pos h0]; rfl
 rw [if_neg h0]
 by_cases h1 : op = 1
 ·rw [if_pos h1]; rfl
 rw [if_neg h1]
 by_cases h2 : op = 2
 ·rw [if_pos h2]
 rw [if_neg h2]
 by_cases h3 : op = 3
 ·rw [if_pos h3]; rfl
 rw [if_neg h3]
 by_cases h4 : op = 4
 ·rw [if_pos h4]; exact p_enter _ _ _
 rw [if_neg h4]
 by_cases h5 : op = 5
 ·rw [if_pos h5]; exact p_exit _ _
 rw [if_neg h5]
 by_cases h6 : op = 6
 ·rw [if_pos h6]; exact p_goIn _ _ _
 rw [if_neg h6]
 by_cases h7 : op = 7
 ·rw [if_pos h7]; exact p_alloc _ _ _ _ _ _
 rw [if_neg h7]
 by_cases h8 : op = 8
 ·rw [if_pos h8]; exact p_load _ _ _ _ _
 rw [if_neg h8]
 by_cases h9 : op = 9
 ·rw [if_pos h9]; exact p_store _ _ _ _ _
 rw [if_neg h9]
 by_cases h10 : op = 10
 ·rw [if_pos h10]; exact p_portal _ _ _ _
 rw [if_neg h10]
 by_cases h11 : op = 11
 ·rw [if_pos h11]; exact p_gate _ _ _ _
 rw [if_neg h11]; rfl
theorem p_step (m : M) (n : Int) (c : Cal) : (m.step n c).1.p = m.p := by
 unfold M.step
 split
 ·rfl
 ·split
  ·rfl
  ·exact p_act m n c
abbrev CoR : Type := Option ((Bool × Unit) × (T0 × (T1 × (T2 × (T3 × (T4 × (T5 × (T6 × (T7 × (T8 × (T9 × (T10 × Unit))))))))))))
abbrev CoT : Type := ((Int × Unit) × (Unit × (Unit × (Unit × Unit))))
abbrev CoD : Type := (T2 × (T3 × (T4 × (T5 × (T6 × (T7 × (T8 × (T9 × (T10 × Unit)))))))))
abbrev CoN : Type := (((Option Nat) × (Int × Unit)) × (T0 × (T1 × (T2 × (T3 × (T4 × (T5 × (T6 × (T7 × Unit)))))))))
theorem loop_Q {α σ : Type} {f : (σ → Option α) → σ → Option α} (I : Nat → σ → Prop) (Q : Option α → Prop) (h : ∀ m s, I m s → ∀ g, (∀ m' s', m' < m → I m' s' → Q (g s')) → Q (f g s)) {m : Nat} {s : σ} (hs : I m s) (hm : m < big) : Q (Go.Bm.loop f s) := by
 rw [loop_eq]
 have key : ∀ n m s, m < n → I m s → Q (iter f n s) := by
  intro n
  induction n with
  | zero => intro m s hm _; omega
  | succ n ih => intro m s hm hI; exact h m s hI (iter f n) (fun m' s' hm' hI' => ih m' s' (by omega) hI')
 exact key big m s hm hs
def coSc (s : Int) : CoT := ((s, ()), ((), ((), ((), ()))))
abbrev Stp : Type := Int × Cal
end Go.Proofs.YtihiooaimdoapaaGreat
set_option linter.unusedVariables false
set_option linter.unusedSimpArgs false
namespace Go.Pen
open Go.Bm
def ep (x : Scp) : Int := x.1.2.2.2
def Refs (a a' : Area) : Prop := ∀ o ∈ a.objs, ∃ o' ∈ a'.objs, o'.ref = o.ref
theorem Refs.rfl {a : Area} : Refs a a := fun o ho => ⟨o, ho, Eq.refl _⟩
structure Adv (m m' : M) : Prop where
 len : m'.sc.length = m.sc.length
 sc : ∀ (i : Nat) (x : Scp), m.sc[i]? = some x → ∃ x' : Scp, m'.sc[i]? = some x' ∧ (ep x' = nextEpoch (ep x) ∨ (ep x' = ep x ∧ ∀ a, m.ar[i]? = some a → ∃ a', m'.ar[i]? = some a' ∧ Refs a a'))
theorem Adv.same {m m' : M} (h1 : m'.sc = m.sc) (h2 : m'.ar = m.ar) : Adv m m' :=
 ⟨by rw [h1], fun i x hx => ⟨x, by rw [h1]; exact hx, .inr ⟨rfl, fun a ha => ⟨a, by rw [h2]; exact ha, .rfl⟩⟩⟩⟩
theorem Adv.refl (m : M) : Adv m m := .same rfl rfl
theorem Adv.scset {m m' : M} {i : Nat} {y : Scp} (h1 : m'.sc = m.sc.set i y) (h2 : m'.ar = m.ar) (he : ∀ x, m.sc[i]? = some x → ep y = ep x ∨ ep y = nextEpoch (ep x)) : Adv m m' := by
 refine ⟨by rw [h1, List.length_set], fun j x hx => ?_⟩
 by_cases e : j = i
 ·subst e
  refine ⟨y, by rw [h1, List.getElem?_set, if_pos rfl, if_pos (List.getElem?_eq_some_iff.1 hx).1], ?_⟩
  rcases he x hx with h | h
  ·exact .inr ⟨h, fun a ha => ⟨a, by rw [h2]; exact ha, .rfl⟩⟩
  ·exact .inl h
 ·exact ⟨x, by rw [h1, List.getElem?_set, if_neg (fun h => e h.symm)]; exact hx, .inr ⟨rfl, fun a ha => ⟨a, by rw [h2]; exact ha, .rfl⟩⟩⟩
theorem Adv.arset {m m' : M} {i : Nat} {b : Area} (h1 : m'.sc = m.sc) (h2 : m'.ar = m.ar.set i b) (he : ∀ a, m.ar[i]? = some a → Refs a b) : Adv m m' := by
 refine ⟨by rw [h1], fun j x hx => ⟨x, by rw [h1]; exact hx, .inr ⟨rfl, fun a ha => ?_⟩⟩⟩
 by_cases e : j = i
 ·subst e
  exact ⟨b, by rw [h2, List.getElem?_set, if_pos rfl, if_pos (List.getElem?_eq_some_iff.1 ha).1], he a ha⟩
 ·exact ⟨a, by rw [h2, List.getElem?_set, if_neg (fun h => e h.symm)]; exact ha, .rfl⟩
theorem Adv.first {m m1 m' : M} (h1 : m1.sc = m.sc) (h2 : ∀ (i : Nat) a, m.ar[i]? = some a → ∃ a', m1.ar[i]? = some a' ∧ Refs a a') (h : Adv m1 m') : Adv m m' := by
 refine ⟨by rw [h.len, h1], fun i x hx => ?_⟩
 obtain ⟨x', k1, k2⟩ := h.sc i x (by rw [h1]; exact hx)
 refine ⟨x', k1, ?_⟩
 rcases k2 with k | ⟨k3, k4⟩
 ·exact .inl k
 ·refine .inr ⟨k3, fun a ha => ?_⟩
  obtain ⟨a1, q1, q2⟩ := h2 i a ha
  obtain ⟨a2, q3, q4⟩ := k4 a1 q1
  exact ⟨a2, q3, fun o ho => by
   obtain ⟨o1, p1, p2⟩ := q2 o ho
   obtain ⟨o2, p3, p4⟩ := q4 o1 p1
   exact ⟨o2, p3, p4.trans p2⟩⟩
theorem Adv.put {m to : M} (h : Adv m to) (l : List Enty) (v s : Int) : Adv m (m.put l v s to).1 := by
 unfold M.put
 split
 ·exact h
 ·split
  ·exact .refl m
  ·split
   ·exact .refl m
   ·split
    ·exact .refl m
    ·exact h
theorem Adv.leave {m : M} (hs0 : ∀ x ∈ m.sc, ctlRight x.1 = true) {n s : Int} {l : List Enty} {a : Ans} (h1 : 1 ≤ s ∧ s < m.sc.length) (h2 : (scGet m.sc s).1.1 = 2) : Adv m (m.leave n s l a).1 := by
 have hx := scGet_lt (l := m.sc) (i := s) (by omega) h1.2
 have hr := hs0 _ (List.mem_of_getElem? hx)
 rw [M.leave_eq h1.1 h1.2 hr h2]
 split
 ·refine ⟨by show (m.sc.set _ _).length = _; rw [List.length_set], fun j x hj => ?_⟩
  by_cases e : j = s.toNat
  ·subst e
   rw [hx] at hj
   cases hj
   exact ⟨_, by show (m.sc.set _ _)[_]? = _; rw [List.getElem?_set, if_pos rfl, if_pos (by omega)], .inl rfl⟩
  ·refine ⟨x, by show (m.sc.set _ _)[_]? = _; rw [List.getElem?_set, if_neg (fun h => e h.symm)]; exact hj, .inr ⟨rfl, fun b hb => ⟨b, ?_, .rfl⟩⟩⟩
   show (m.ar.set _ _)[_]? = _
   rw [List.getElem?_set, if_neg (fun h => e h.symm)]; exact hb
 ·exact Adv.scset (i := s.toNat) rfl rfl (fun x hj => .inl (by rw [hx] at hj; cases hj; rfl))
theorem ctlEnter_ep {c : Ctl} {f : Int} (h : (ctlEnter c f).2 = 0) : (ctlEnter c f).1.2.2.2 = c.2.2.2 := by
 unfold ctlEnter at *
 repeat' (split at h <;> first | (exact absurd h (by decide)) | skip)
 all_goals simp_all
theorem scUpd_enter {l : List Scp} {s f : Int} (h : (scUpd l s (fun c => ctlEnter c f)).2 = 0) : ∃ y : Scp, (scUpd l s (fun c => ctlEnter c f)).1 = l.set s.toNat y ∧ ep y = ep (scGet l s) ∧ 1 ≤ s := by
 unfold scUpd at *
 by_cases h1 : scIs l 1 s = true
 ·rw [if_pos h1] at h ⊢
  by_cases h2 : (ctlEnter (scGet l s).1 f).2 = 0
  ·rw [if_pos h2] at h ⊢
   exact ⟨_, rfl, ctlEnter_ep h2, by have := h1; unfold scIs at this; rw [wi_iff] at this; omega⟩
  ·rw [if_neg h2] at h; exact absurd h h2
 ·rw [if_neg h1] at h; exact absurd (show (11 : Int) = 0 from h) (by decide)
theorem Adv.enter (m : M) (n a : Int) : Adv m (m.enter n a).1 := by
 unfold M.enter
 refine ite_P (fun o : Out => Adv m o.1) (fun _ => .refl m) fun _ => ?_
 refine ite_P (fun o : Out => Adv m o.1) (fun _ => .refl m) fun _ => ?_
 refine ite_P (fun o : Out => Adv m o.1) (fun _ => .refl m) fun hu => ?_
 obtain ⟨y, e1, e2, e3⟩ := scUpd_enter (l := m.sc) (s := a) (f := area (m.thAt n).ents) (by simpa using hu)
 refine Adv.scset (i := a.toNat) (y := y) e1 rfl fun x hx => .inl ?_
 have : scGet m.sc a = x := by
  have := scGet_some hx
  rwa [show ((a.toNat : Nat) : Int) = a by omega] at this
 rw [e2, this]
theorem Adv.exit {k : Nat} {m : M} (h : MI k m) (hc : CT m) {n : Int} (hn : 0 ≤ n ∧ n < m.th.length) : Adv m (m.exit n).1 := by
 have ht := h.thAt hn
 have hright : ∀ x ∈ m.sc, ctlRight x.1 = true := fun x hx => by
  obtain ⟨i, hi⟩ := List.getElem?_of_mem hx
  exact h.si.cr i x hi
 have hls := h.ls
 unfold M.exit
 split
 ·exact .refl m
 ·rename_i x hx
  obtain ⟨s, b⟩ := x
  split
  ·exact .same rfl rfl
  ·rename_i hb
   have hm := last_mem hx
   have hb : b = true := by simpa using hb
   subst hb
   have hlv := h.live hc (M.thMem hn) (.inr hm)
   have hr := ht.2.2.rng _ hm
   have h1 := hr.2.2 rfl
   simp only at h1
   have hra : ∀ a, m.ar[s.toNat]? = some a → Refs a { m.arAt s with objs := (finAll m.f (m.arAt s).objs).1 } := fun a ha o ho => by
    have e := (h.arI (i := s) ⟨hlv.2.2.1, hlv.2.2.2⟩).1
    rw [e] at ha
    cases ha
    exact ⟨(finObj m.f o).1, by show _ ∈ (finAll m.f (m.arAt s).objs).1; rw [finAll_map]; exact List.mem_map.2 ⟨o, ho, rfl⟩, (finObj_ref m.f o).1⟩
   split
   ·split
    ·exact Adv.arset (i := s.toNat) rfl rfl hra
    ·refine Adv.first (m1 := m.setAr s { m.arAt s with objs := (finAll m.f (m.arAt s).objs).1 }) rfl (fun i a ha => ?_) (Adv.leave (m := m.setAr s { m.arAt s with objs := (finAll m.f (m.arAt s).objs).1 }) hright ⟨h1, by show s < (m.sc.length : Int); omega⟩ hlv.2.1)
     by_cases e : i = s.toNat
     ·subst e
      exact ⟨_, by show (m.ar.set _ _)[_]? = _; rw [List.getElem?_set, if_pos rfl, if_pos (List.getElem?_eq_some_iff.1 ha).1], hra a ha⟩
     ·exact ⟨a, by show (m.ar.set _ _)[_]? = _; rw [List.getElem?_set, if_neg (fun h => e h.symm)]; exact ha, .rfl⟩
   ·exact Adv.leave hright ⟨h1, by omega⟩ hlv.2.1
theorem Adv.create (m : M) (a : Int) : Adv m { m with sc := (scCreate m.sc m.fl a).1, fl := (scCreate m.sc m.fl a).2.1 } := by
 have key : (scCreate m.sc m.fl a).1 = m.sc ∨ ∃ (i : Nat) (y : Scp), (∀ x, m.sc[i]? = some x → ep y = ep x) ∧ (scCreate m.sc m.fl a).1 = m.sc.set i y := by
  unfold scCreate
  split
  ·exact .inl rfl
  ·cases hfr : freeAt m.sc with
   | none => exact .inl rfl
   | some i =>
    simp only
    cases hcv : carve m.fl (up8 a) with
    | none => exact .inl rfl
    | some r => exact .inr ⟨i, _, fun x hx => by show (scGet m.sc (i : Int)).1.2.2.2 = _; rw [scGet_some hx]; rfl, rfl⟩
 rcases key with e | ⟨i, y, h1, e⟩
 ·exact .same e rfl
 ·exact Adv.scset e rfl (fun x hx => .inl (h1 x hx))
theorem Adv.destroy (m : M) (a : Int) : Adv m { m with sc := (scDestroy m.fr m.en m.sc m.fl a).1, fl := (scDestroy m.fr m.en m.sc m.fl a).2.1 } := by
 have key : (scDestroy m.fr m.en m.sc m.fl a).1 = m.sc ∨ ∃ (y : Scp), (∀ x, m.sc[a.toNat]? = some x → ep y = nextEpoch (ep x)) ∧ (scDestroy m.fr m.en m.sc m.fl a).1 = m.sc.set a.toNat y := by
  unfold scDestroy
  split
  ·exact .inl rfl
  ·rename_i hi
   have hi : 1 ≤ a := by
    have : scIs m.sc 1 a = true := by simpa using hi
    unfold scIs at this; rw [wi_iff] at this; omega
   split
   ·exact .inl rfl
   ·split
    ·exact .inl rfl
    ·refine .inr ⟨_, fun x hx => ?_, rfl⟩
     have := scGet_some hx
     rw [show ((a.toNat : Nat) : Int) = a by omega] at this
     rw [this]; rfl
 rcases key with e | ⟨y, h1, e⟩
 ·exact .same e rfl
 ·exact Adv.scset e rfl (fun x hx => .inr (h1 x hx))
theorem Adv.goIn (m : M) (n a : Int) : Adv m (m.goIn n a).1 := by
 unfold M.goIn
 refine ite_P (fun o : Out => Adv m o.1) (fun _ => .refl m) fun _ => ?_
 refine ite_P (fun o : Out => Adv m o.1) (fun _ => .refl m) fun _ => ?_
 exact ite_P (fun o : Out => Adv m o.1) (fun _ => .refl m) fun _ => .same rfl rfl
theorem Adv.act {k : Nat} {m : M} (h : MI k m) (hc : CT m) {n : Int} (hn : 0 ≤ n ∧ n < m.th.length) (c : Cal) : Adv m (m.act n c).1 := by
 obtain ⟨op, r, g, v, a, b, t⟩ := c
 refine ite_P (fun o : Out => Adv m o.1) (fun _ => .refl m) fun _ => ?_
 refine ite_P (fun o : Out => Adv m o.1) (fun _ => .same rfl rfl) fun _ => ?_
 refine ite_P (fun o : Out => Adv m o.1) (fun _ => .create m a) fun _ => ?_
 refine ite_P (fun o : Out => Adv m o.1) (fun _ => .destroy m a) fun _ => ?_
 refine ite_P (fun o : Out => Adv m o.1) (fun _ => .enter m n a) fun _ => ?_
 refine ite_P (fun o : Out => Adv m o.1) (fun _ => .exit h hc hn) fun _ => ?_
 refine ite_P (fun o : Out => Adv m o.1) (fun _ => .goIn m n a) fun _ => ?_
 refine ite_P (fun o : Out => Adv m o.1) (fun _ => ?_) fun _ => ?_
 ·unfold M.alloc
  refine ite_P (fun o : Out => Adv m o.1) (fun _ => .refl m) fun _ => ?_
  refine ite_P (fun o : Out => Adv m o.1) (fun _ => .refl m) fun _ => ?_
  refine Adv.arset (i := (area (m.thAt n).ents).toNat) rfl rfl fun x hx o ho => ⟨o, ?_, rfl⟩
  have hrg := (h.live hc (M.thMem hn) (area_in (h.thAt hn).2.2)).2.2
  have := (h.arI (i := area (m.thAt n).ents) hrg).1
  rw [this] at hx
  cases hx
  exact List.mem_append_left _ ho
 refine ite_P (fun o : Out => Adv m o.1) (fun _ => ?_) fun _ => ?_
 ·unfold M.load
  refine ite_P (fun o : Out => Adv m o.1) (fun _ => .refl m) fun _ => ?_
  split
  ·exact .refl m
  ·exact ite_P (fun o : Out => Adv m o.1) (fun _ => .refl m) fun _ => .same rfl rfl
 refine ite_P (fun o : Out => Adv m o.1) (fun _ => ?_) fun _ => ?_
 ·unfold M.store
  refine ite_P (fun o : Out => Adv m o.1) (fun _ => .refl m) fun _ => ?_
  split
  ·exact .refl m
  ·rename_i ob _
   refine ite_P (fun o : Out => Adv m o.1) (fun _ => .refl m) fun _ => Adv.put (to := M.setObj m _ _) ?_ _ _ _
   refine Adv.first (m1 := m.setObj _ _) rfl (fun i a ha => ⟨_, by show (m.ar.map _)[i]? = _; rw [List.getElem?_map, ha]; rfl, fun o ho => ?_⟩) (.refl _)
   refine ⟨_, List.mem_map.2 ⟨o, ho, rfl⟩, ?_⟩
   split <;> rfl
 refine ite_P (fun o : Out => Adv m o.1) (fun _ => ?_) fun _ => ?_
 ·unfold M.portal
  refine ite_P (fun o : Out => Adv m o.1) (fun _ => .refl m) fun _ => ?_
  exact ite_P (fun o : Out => Adv m o.1) (fun _ => .refl m) fun _ => .same rfl rfl
 refine ite_P (fun o : Out => Adv m o.1) (fun _ => ?_) fun _ => .refl m
 unfold M.gate
 refine ite_P (fun o : Out => Adv m o.1) (fun _ => .refl m) fun hw => ?_
 have hw : 1 ≤ a ∧ a ≤ m.p.1 - 1 := by rw [← wi_iff]; simpa using hw
 refine ite_P (fun o : Out => Adv m o.1) (fun _ => .refl m) fun _ => Adv.put (to := M.setAr m _ _) ?_ _ _ _
 refine Adv.arset (i := a.toNat) rfl rfl fun x hx o ho => ⟨o, ?_, rfl⟩
 have := (h.arI (i := a) (by omega)).1
 rw [this] at hx
 cases hx
 exact ho
theorem Adv.step {k : Nat} {m : M} (h : MI k m) (hc : CT m) (n : Int) (c : Cal) : Adv m (m.step n c).1 := by
 unfold M.step
 split
 ·exact .refl m
 ·rename_i hn
  have hn : 0 ≤ n ∧ n ≤ (m.th.length : Int) - 1 := by rw [← wi_iff]; simpa using hn
  split
  ·exact .refl m
  ·exact Adv.act h hc ⟨hn.1, by omega⟩ c
structure ToldH (K : Nat) (m : M) (R : List Hnd) : Prop where
 ep : ∀ (i : Nat) (x : Scp), m.sc[i]? = some x → 0 ≤ ep x ∧ ep x ≤ K
 old : ∀ r ∈ R, ∃ (i : Nat) (x : Scp), r.1 = (i : Int) ∧ m.sc[i]? = some x ∧ (r.2.1 < Pen.ep x ∨ (r.2.1 = Pen.ep x ∧ ∃ a, m.ar[i]? = some a ∧ ∃ o ∈ a.objs, o.ref = r))
theorem ToldH.adv {K : Nat} {m m' : M} {R : List Hnd} (h : ToldH K m R) (hK : K < 10000) (ha : Adv m m') : ToldH (K + 1) m' R := by
 refine ⟨fun i x' hx' => ?_, fun r hr => ?_⟩
 ·have hi : i < m.sc.length := by rw [← ha.len]; exact (List.getElem?_eq_some_iff.1 hx').1
  obtain ⟨x2, k1, k2⟩ := ha.sc i _ (List.getElem?_eq_getElem hi)
  have he := h.ep i _ (List.getElem?_eq_getElem hi)
  rw [k1] at hx'
  cases hx'
  rcases k2 with k | ⟨k, _⟩
  ·unfold nextEpoch at k; omega
  ·omega
 ·obtain ⟨i, x, h1, h2, h3⟩ := h.old r hr
  obtain ⟨x', k1, k2⟩ := ha.sc i x h2
  have he := h.ep i x h2
  refine ⟨i, x', h1, k1, ?_⟩
  rcases k2 with k | ⟨k3, k4⟩
  ·unfold nextEpoch at k
   rcases h3 with h3 | ⟨h3, _⟩
   ·exact .inl (by omega)
   ·exact .inl (by omega)
  ·rcases h3 with h3 | ⟨h3, a, q1, o, q2, q3⟩
   ·exact .inl (by omega)
   ·obtain ⟨a', p1, p2⟩ := k4 a q1
    obtain ⟨o', p3, p4⟩ := p2 o q2
    exact .inr ⟨by omega, a', p1, o', p3, p4.trans q3⟩
theorem ToldH.add {K : Nat} {m : M} {R : List Hnd} (h : ToldH K m R) {r : Hnd} {i : Nat} {x : Scp} (h1 : r.1 = (i : Int)) (h2 : m.sc[i]? = some x) (h3 : r.2.1 = Pen.ep x) (h4 : ∃ a, m.ar[i]? = some a ∧ ∃ o ∈ a.objs, o.ref = r) : ToldH K m (R ++ [r]) :=
 ⟨h.ep, fun q hq => by
  rcases List.mem_append.1 hq with hq | hq
  ·exact h.old q hq
  ·rw [List.mem_singleton] at hq
   subst hq
   exact ⟨i, x, h1, h2, .inr ⟨h3, h4⟩⟩⟩
theorem ToldH.ne {K : Nat} {m : M} {R : List Hnd} (h : ToldH K m R) {r : Hnd} {i : Nat} {x : Scp} {a : Area} (h1 : r.1 = (i : Int)) (h2 : m.sc[i]? = some x) (h3 : r.2.1 = Pen.ep x) (h4 : m.ar[i]? = some a) (h5 : a.objs.all (fun o => decide (o.ref ≠ r)) = true) : r ∉ R := fun hr => by
 obtain ⟨j, y, k1, k2, k3⟩ := h.old r hr
 obtain rfl : j = i := by omega
 rw [h2] at k2
 cases k2
 rcases k3 with k3 | ⟨_, b, k4, o, k5, k6⟩
 ·omega
 ·rw [h4] at k4
  cases k4
  have := List.all_eq_true.1 h5 o k5
  exact of_decide_eq_true this k6
theorem ToldH.new {p : Pln} {f : List (List FOp)} : ToldH 0 (M.new p f) [] := by
 refine ⟨fun i x hx => ?_, fun r hr => by cases hr⟩
 cases i with
 | zero =>
  have : some (((2, 1, -1, 0), (p.1 * 64, p.2.2.1)) : Scp) = some x := by simpa [M.new] using hx
  cases this; exact ⟨(by decide : (0 : Int) ≤ 0), (by decide : (0 : Int) ≤ 0)⟩
 | succ i =>
  have hx : (List.replicate (p.1 - 1).toNat (((0, 0, -1, 0), (0, 0)) : Scp))[i]? = some x := by simpa [M.new] using hx
  rw [List.eq_of_mem_replicate (List.mem_of_getElem? hx)]; exact ⟨by decide, by decide⟩
end Go.Pen
set_option linter.unusedVariables false
set_option linter.unusedSimpArgs false
namespace Go.Proofs.YtihiooaimdoapaaGreat
open Go.Bm Go.Pen
theorem arAt_set {m : M} {s : Int} {a : Area} (h0 : 0 ≤ s) (h : s < m.ar.length) : (m.setAr s a).arAt s = a := by
 unfold M.arAt M.setAr
 rw [List.getD_eq_getElem?_getD]
 show ((m.ar.set s.toNat a)[s.toNat]?).getD ar0 = a
 rw [List.getElem?_set, if_pos rfl, if_pos (by omega)]; rfl
theorem thAt_set {m : M} {n : Int} {t : Thr} (h : 0 ≤ n ∧ n < m.th.length) : (m.setTh n t).thAt n = t := by
 unfold M.thAt M.setTh
 rw [List.getD_eq_getElem?_getD]
 show ((m.th.set n.toNat t)[n.toNat]?).getD _ = t
 rw [List.getElem?_set, if_pos rfl, if_pos (by omega)]; rfl
theorem refArea_s {l : List Enty} (hl : l.length ≤ 100) : g.penfoldref09_Area l = some ((area l, ()), ()) := by
 unfold g.penfoldref09_Area
 cases hL : l.length with
 | zero =>
  have : l = [] := List.eq_nil_of_length_eq_zero hL
  subst this
  rfl
 | succ n =>
  have e1 : isub .i64 (zN (len l)) 1 = (n : Int) := by rw [zN_c, len_d, hL, isub_s (by omega)]; omega
  rw [e1]
  have hn : n < l.length := by omega
  have e2 : nth (0, false) l (nN (n : Int)) = l[n] := nth_lt hn
  repeat (refine HS ?_)
  rw [e2]
  have : l.getLast? = some l[n] := by
   rw [List.getLast?_eq_getElem?]
   have e3 : l.length - 1 = n := by omega
   exact (congrArg (fun i => l[i]?) e3).trans (List.getElem?_eq_getElem hn)
  unfold area
  rw [this]
theorem iquo_u {a b : Int} (h : 0 ≤ a) (hb : 0 < b) (h2 : a ≤ 18446744073709551615) : iquo .u64 a b = a / b := by
 have e1 : a.tdiv b = a / b := Int.tdiv_eq_ediv_of_nonneg h
 have e2 : a / b ≤ a := Int.ediv_le_self b h
 have e3 : 0 ≤ a / b := Int.ediv_nonneg h (by omega)
 unfold iquo
 rw [e1]
 exact wrp_u ⟨e3, by omega⟩
theorem ref06_Unpack_s {r : Hnd} (hr : hndRight r = true) : g.penfoldref06_Unpack (hndNum r) = some ((r, (0, ())), ()) := by
 obtain ⟨p1, p2⟩ := hndNum_pos hr
 have hof := hndOf_num hr
 have hq := hndRight_iff.1 hr
 have e1 : wrp .i64 (irem (iquo .u64 (hndNum r) 16777216) 256) = r.1 := by
  rw [iquo_u (by omega) (by omega) (by omega), irem_p (by omega)]
  have : hndNum r / 16777216 % 256 = r.1 := congrArg Prod.fst hof
  rw [this, wrp_s (by omega)]
 have e2 : wrp .i64 (iquo .u64 (hndNum r) 4294967296) = r.2.1 := by
  rw [iquo_u (by omega) (by omega) (by omega)]
  have : hndNum r / 4294967296 = r.2.1 := congrArg (fun x => x.2.1) hof
  rw [this, wrp_s (by omega)]
 have e3 : imul .i64 8 (wrp .i64 (irem (hndNum r) 16777216)) = r.2.2 := by
  rw [irem_p (by omega)]
  have : hndNum r % 16777216 * 8 = r.2.2 := congrArg (fun x => x.2.2) hof
  rw [wrp_s (by omega), imul_s (by omega)]; omega
 have e4 : wrp .u64 (iadd .i64 (iadd .i64 (iquo .i64 r.2.2 8) (imul .i64 16777216 r.1)) (imul .i64 4294967296 r.2.1)) = hndNum r := by
  rw [iquo_p (by omega), imul_s (a := 16777216) (by omega), imul_s (a := 4294967296) (by omega), iadd_s (a := r.2.2 / 8) (by omega), iadd_s (by omega)]
  have : r.2.2 / 8 + 16777216 * r.1 + 4294967296 * r.2.1 = hndNum r := by unfold hndNum; omega
  rw [this, wrp_u (by omega)]
 have ep : g.penfoldref06_Pack r = some ((hndNum r, (0, ())), ()) := by
  have e5 : irem r.2.2 8 = r.2.2 % 8 := irem_p (by omega)
  unfold g.penfoldref06_Pack
  rw [e4, e5]
  repeat (refine HS ?_)
  rfl
 unfold g.penfoldref06_Unpack
 rw [e1, e2, e3]
 repeat (refine HS ?_)
 rfl
section
variable {c0 : T0} {c1 : T1} {d0 : T2} {d1 : T3} {d2 : T4} {d3 : T5} {d4 : T6} {d5 : T7} {d6 : T8} {d7 : T9} {d8 : T10} {md : Nat} {m : M} {k : Nat}
theorem Slots_s (h : St c0 c1 d0 d1 d2 d3 d4 d5 d6 d7 d8 md k m) {r : Hnd} (hr : hndRight r = true) {o : Ojt} (ho : m.find r = some o) (hs : o.slots.length ≤ 100) :
  g.model_Model_Slots md (hndNum r) c0 c1 d0 d1 d2 d3 d4 d5 d6 d7 d8 = some ((o.slots, (true, ())), ()) := by
 obtain ⟨⟨N, L, es, hm⟩, hi, hc⟩ := h
 obtain ⟨p1, p2⟩ := hndNum_pos hr
 have hq := hndRight_iff.1 hr
 have hU := ref_Unpack_s (h := hndNum r) ⟨by omega, by omega⟩
 rw [hndUnpack_num hr] at hU
 have b5 := box_mp hm
 have hes : nth [] d5 N.mp = es := nth_some hm.mp
 rcases hm.get hi r (by omega) with ⟨g1, _⟩ | ⟨p, x, j, g1, g2, g3, g4, g6⟩
 ·rw [g1] at ho; cases ho
 ·rw [g1] at ho
  cases ho
  obtain ⟨q1, q2⟩ := hm.ob _ _ _ g4
  have e8 : nth ((0, (0, 0)), (0, (none, false))) d6 x.1 = (x.2.2.ref, (x.2.2.tag, (some x.2.1, x.2.2.done))) := nth_some q1
  rw [← hes] at g2
  have hrow : g.slices_Clone_row (some x.2.1) d8 = some ((x.2.2.slots, ()), ()) := by
   unfold g.slices_Clone_row
   refine (opt_some).trans ?_
   refine (bd_x q2).trans ?_
   unfold g.slices_Clone_row_k
   repeat (refine HS ?_)
   rfl
  unfold g.model_Model_Slots
  refine (bd_x hU).trans ?_
  repeat (refine HS ?_)
  refine (opt_x g2).trans ?_
  repeat (refine HS ?_)
  rw [e8]
  repeat (refine HS ?_)
  rfl
end
structure Made (m m' : M) (n : Int) (r a b c : Int) (ans : Ans) : Prop where
 rr : 0 ≤ (m.newRef n).1 ∧ (m.newRef n).1 = area (m.thAt n).ents ∧ (m.newRef n).1 < m.p.1
 num : ans.2.1 = hndNum (m.newRef n)
 right : hndRight (m.newRef n) = true
 sc : m'.sc = m.sc
 epo : (m.newRef n).2.1 = ep (scGet m.sc (area (m.thAt n).ents))
 find : ∃ o, m'.find (m.newRef n) = some o ∧ o.slots = List.replicate a.toNat 0
 ab : 0 ≤ a ∧ a ≤ 6 ∧ 0 ≤ b ∧ b ≤ 512
 reg : ∃ hr : r.toNat < (m'.thAt n).regs.length, 0 ≤ r ∧ (m'.thAt n).regs[r.toNat] = hndNum (m.newRef n)
 used : (m'.arAt (area (m.thAt n).ents)).used = (m.arAt (area (m.thAt n).ents)).used + 8 * (2 + a + (b + 7) / 8)
 objs : (m.arAt (area (m.thAt n).ents)).objs.all (fun o => decide (o.ref ≠ m.newRef n)) = true
 mem : ∃ x, m'.ar[(area (m.thAt n).ents).toNat]? = some x ∧ ∃ o ∈ x.objs, o.ref = m.newRef n
theorem made {m : M} {k : Nat} (hi : MI k m) (hk : k < 9000) (hc : CT m) {n : Int} (hn : 0 ≤ n ∧ n < m.th.length) {r h v a b c : Int} (hr0 : 0 ≤ r) (h0 : (m.step n (7, r, h, v, a, b, c)).2.1.1 = 0) :
  Made m (m.step n (7, r, h, v, a, b, c)).1 n r a b c (m.step n (7, r, h, v, a, b, c)).2.1 := by
 have hi' := MI.step hi hk hc n (7, r, h, v, a, b, c)
 have hp := hi.nsc
 have hlt := hi.lt
 have hla := hi.la
 have ht := hi.thAt hn
 have hlv := hi.live hc (M.thMem hn) (area_in ht.2.2)
 have hAI := (hi.arI (i := area (m.thAt n).ents) hlv.2.2).2
 have his : scIs m.sc 0 (area (m.thAt n).ents) = true := scIs_iff.2 ⟨hlv.2.2.1, by rw [hi.ls]; exact hlv.2.2.2⟩
 have es : m.step n (7, r, h, v, a, b, c) = if regFit (7, r, h, v, a, b, c) = false then (m, (1, 0, []), 0) else ((m.alloc n r a b c).1, (m.alloc n r a b c).2, 0) := by
  unfold M.step
  rw [if_neg (by rw [Bool.not_eq_false, wi_iff]; omega)]
  rfl
 rw [es] at h0 hi' ⊢
 by_cases hf : regFit (7, r, h, v, a, b, c) = false
 ·rw [if_pos hf] at h0
  exact absurd (show (1 : Int) = 0 from h0) (by decide)
 rw [if_neg hf] at h0 hi' ⊢
 have hr4 : r < 4 := by
  have : regFit (7, r, h, v, a, b, c) = true := by simpa using hf
  have : (decide (r < 4) && true) = true := this
  simpa using this
 unfold M.alloc at h0 hi' ⊢
 by_cases h1 : (headWords a b).2 ≠ 0 ∨ within c 0 7 = false
 ·rw [if_pos h1] at h0
  exact absurd (show (1 : Int) = 0 from h0) (by decide)
 rw [if_neg h1] at h0 hi' ⊢
 have hab : 0 ≤ a ∧ a ≤ 6 ∧ 0 ≤ b ∧ b ≤ 512 := by
  have : ¬ (within a 0 6 = false ∨ within b 0 512 = false) := fun hh => h1 (.inl (by unfold headWords; rw [if_pos hh]; decide))
  rw [not_or, Bool.not_eq_false, Bool.not_eq_false, wi_iff, wi_iff] at this
  omega
 have hw : (headWords a b).1 = 2 + a + (b + 7) / 8 := by
  unfold headWords
  rw [if_neg]
  rw [not_or, Bool.not_eq_false, Bool.not_eq_false, wi_iff, wi_iff]
  omega
 by_cases h2 : (scExt m.sc (area (m.thAt n).ents)).1.2 < (m.arAt (area (m.thAt n).ents)).used + (headWords a b).1 * 8
 ·rw [if_pos h2] at h0
  exact absurd (show (17 : Int) = 0 from h0) (by decide)
 rw [if_neg h2] at h0 hi' ⊢
 clear h0
 rw [hw] at h2 hi' ⊢
 have hex : scExt m.sc (area (m.thAt n).ents) = ((scGet m.sc (area (m.thAt n).ents)).2, 0) := by unfold scExt; rw [if_pos his]
 have hct : scCtl m.sc (area (m.thAt n).ents) = ((scGet m.sc (area (m.thAt n).ents)).1, 0) := by unfold scCtl; rw [if_pos his]
 have enr : m.newRef n = (area (m.thAt n).ents, ep (scGet m.sc (area (m.thAt n).ents)), (scGet m.sc (area (m.thAt n).ents)).2.1 + (m.arAt (area (m.thAt n).ents)).used) := by
  unfold M.newRef; rw [hex, hct]; rfl
 have hold : (m.arAt (area (m.thAt n).ents)).objs.all (fun o => decide (o.ref ≠ m.newRef n)) = true := by
  rw [List.all_eq_true]
  intro o ho
  refine decide_eq_true fun e => ?_
  have hob := hAI.ob o ho
  have h3 := hob.2.2.2.1
  rw [e, enr] at h3
  simp only at h3
  omega
 generalize hs : area (m.thAt n).ents = s at *
 have e1 := arAt_set (m := m) (s := s) (a := ⟨(m.arAt s).used + (2 + a + (b + 7) / 8) * 8, (m.arAt s).gate, (m.arAt s).objs ++ [⟨m.newRef n, c, List.replicate a.toNat 0, false⟩]⟩) hlv.2.2.1 (by omega)
 have hgm := (hi'.arI (i := s) hlv.2.2)
 have hgm2 : ∀ z : Out, z = (m.setAr s ⟨(m.arAt s).used + (2 + a + (b + 7) / 8) * 8, (m.arAt s).gate, (m.arAt s).objs ++ [⟨m.newRef n, c, List.replicate a.toNat 0, false⟩]⟩).got n r (hndPack (m.newRef n)).1 → z.1.arAt s = ⟨(m.arAt s).used + (2 + a + (b + 7) / 8) * 8, (m.arAt s).gate, (m.arAt s).objs ++ [⟨m.newRef n, c, List.replicate a.toNat 0, false⟩]⟩ := fun z hz => by rw [hz]; exact e1
 have e2 := hgm2 _ rfl
 have hright : hndRight (m.newRef n) = true := by
  have h4 := hgm.2.ob ⟨m.newRef n, c, List.replicate a.toNat 0, false⟩ (by
   show _ ∈ ((M.got _ n r (hndPack (m.newRef n)).1).1.arAt s).objs
   rw [e2]; exact List.mem_append_right _ List.mem_cons_self)
  exact h4.2.2.2.2.1
 have hpk : (hndPack (m.newRef n)).1 = hndNum (m.newRef n) := by unfold hndPack; rw [if_pos hright]
 obtain ⟨p1, p2⟩ := hndNum_pos hright
 have hth := thAt_set (m := m.setAr s ⟨(m.arAt s).used + (2 + a + (b + 7) / 8) * 8, (m.arAt s).gate, (m.arAt s).objs ++ [⟨m.newRef n, c, List.replicate a.toNat 0, false⟩]⟩) (n := n) (t := ⟨((m.setAr s ⟨(m.arAt s).used + (2 + a + (b + 7) / 8) * 8, (m.arAt s).gate, (m.arAt s).objs ++ [⟨m.newRef n, c, List.replicate a.toNat 0, false⟩]⟩).thAt n).regs.set r.toNat (hndPack (m.newRef n)).1, ((m.setAr s ⟨(m.arAt s).used + (2 + a + (b + 7) / 8) * 8, (m.arAt s).gate, (m.arAt s).objs ++ [⟨m.newRef n, c, List.replicate a.toNat 0, false⟩]⟩).thAt n).ents⟩) hn
 refine ⟨⟨by rw [enr]; exact hlv.2.2.1, by rw [enr, hs], by rw [enr]; exact hlv.2.2.2⟩, ?_, hright, rfl, by rw [hs, enr], ⟨⟨m.newRef n, c, List.replicate a.toNat 0, false⟩, ?_, rfl⟩, hab, ?_, ?_, by rw [hs]; exact hold, ?_⟩
 ·show wrp .i64 (hndPack (m.newRef n)).1 = _
  rw [hpk, wrp_s (by omega)]
 ·unfold M.find
  rw [show (m.newRef n).1 = s by rw [enr], e2, List.find?_append]
  have hnone : (m.arAt s).objs.find? (fun o => decide (o.ref = m.newRef n)) = none := by
   rw [List.find?_eq_none]
   intro o ho
   have := List.all_eq_true.1 hold o ho
   simpa using this
  rw [hnone]
  simp
 ·have hrl : (m.thAt n).regs.length = 4 := ht.1
  have hlen : r.toNat < ((m.thAt n).regs.set r.toNat (hndPack (m.newRef n)).1).length := by rw [List.length_set]; omega
  have hE := congrArg Thr.regs hth
  refine ⟨(Nat.lt_of_lt_of_eq hlen (congrArg List.length hE).symm), hr0, ?_⟩
  refine (getElem_congr_coll hE).trans ?_
  rw [← hpk]
  exact List.getElem_set_self _
 ·rw [hs]
  show ((M.got _ n r (hndPack (m.newRef n)).1).1.arAt s).used = _
  rw [e2]
  simp only
  omega
 ·rw [hs]
  refine ⟨_, hgm.1, ⟨m.newRef n, c, List.replicate a.toNat 0, false⟩, ?_, rfl⟩
  rw [e2]; exact List.mem_append_right _ List.mem_cons_self
abbrev FrS : Type := ((Int × Unit) × ((List Int × Unit) × (Unit × (Unit × CoD))))
def frSt (i : Int) (l : List Int) (d0 : T2) (d1 : T3) (d2 : T4) (d3 : T5) (d4 : T6) (d5 : T7) (d6 : T8) (d7 : T9) (d8 : T10) : FrS := ((i, ()), ((l, ()), ((), ((), (d0, (d1, (d2, (d3, (d4, (d5, (d6, (d7, (d8, ())))))))))))))
theorem fr_l0 (v0 : FrS) (v1 : DoR) (v2 : CoN) (v3 : FrS → CoR) (hne : ∀ x ∈ v0.2.1.1, x ≠ v1.1.1.2.1) (hlen : v0.2.1.1.length ≤ 100)
  (hv : Yes (v3 (frSt (iadd .i64 v0.1.1 1) (v0.2.1.1 ++ [v1.1.1.2.1]) v1.2.1 v1.2.2.1 v1.2.2.2.1 v1.2.2.2.2.1 v1.2.2.2.2.2.1 v1.2.2.2.2.2.2.1 v1.2.2.2.2.2.2.2.1 v1.2.2.2.2.2.2.2.2.1 v1.2.2.2.2.2.2.2.2.2.1))) :
  Yes (loop (g.penfoldlaw12_ModelFresh_l0 v0 v1 v2 v3) (coSc 0)) := by
 refine loop_Q (fun r (st : CoT) => ∃ j : Nat, r + j = v0.2.1.1.length ∧ st = coSc (j : Int)) Yes ?_ (m := v0.2.1.1.length) ⟨0, rfl, rfl⟩ (by unfold big; omega)
 rintro r st ⟨j, hr, rfl⟩ G hG
 unfold g.penfoldlaw12_ModelFresh_l0 coSc
 dsimp only
 generalize hL : v0.2.1.1 = L at *
 by_cases h1 : j < L.length
 ·have ej : iadd .i64 (j : Int) 1 = ((j + 1 : Nat) : Int) := by rw [iadd_s (by omega)]; omega
  have hnt : nth 0 L (nN (j : Int)) = L[j] := nth_lt h1
  have hx := hne L[j] (List.getElem_mem h1)
  (refine YS ?_)
  (refine YS ?_)
  (refine YS ?_)
  (refine YS ?_)
  (refine YS ?_)
  refine Yes.of (br_eql_f (by rw [hnt]; exact hx)) ?_
  rw [ej]
  exact hG (r - 1) _ (by omega) ⟨j + 1, by omega, rfl⟩
 ·(refine YS ?_)
  (refine YS ?_)
  (refine YS ?_)
  exact hv
theorem fr_l1 (v0 : ((List Int × (Bool × Unit)) × Unit)) (v1 : CoN) (v2 : DoR) (v3 : FrS) (v4 : FrS → CoR) {a : Nat} (h0 : v0.1.1 = List.replicate a 0) (ha : a ≤ 100)
  (hv : Yes (loop (g.penfoldlaw12_ModelFresh_l0 v3 v2 v1 v4) (coSc 0))) :
  Yes (loop (g.penfoldlaw12_ModelFresh_l1 v0 v1 v2 v3 v4) (coSc 0)) := by
 refine loop_Q (fun r (st : CoT) => ∃ j : Nat, r + j = a ∧ st = coSc (j : Int)) Yes ?_ (m := a) ⟨0, rfl, rfl⟩ (by unfold big; omega)
 rintro r st ⟨j, hr, rfl⟩ G hG
 unfold g.penfoldlaw12_ModelFresh_l1 coSc
 dsimp only
 rw [h0]
 have hl : (List.replicate a (0 : Int)).length = a := List.length_replicate
 generalize hL : List.replicate a (0 : Int) = L at *
 by_cases h1 : j < a
 ·have hj : j < L.length := by omega
  have ej : iadd .i64 (j : Int) 1 = ((j + 1 : Nat) : Int) := by rw [iadd_s (by omega)]; omega
  have hnt : nth 0 L (nN (j : Int)) = L[j] := nth_lt hj
  have hx : L[j] = 0 := by subst hL; exact List.getElem_replicate _
  (refine YS ?_)
  (refine YS ?_)
  (refine YS ?_)
  (refine YS ?_)
  (refine YS ?_)
  (refine YS ?_)
  refine Yes.of (br_eql_t (by rw [hnt]; exact hx)) ?_
  rw [ej]
  exact hG (r - 1) _ (by omega) ⟨j + 1, by omega, rfl⟩
 ·(refine YS ?_)
  exact hv
theorem fr_l2 {md : Nat} {v0 : CoN} {l : List Stp} (hc : ∀ x ∈ l, CalOk x.2) {m : M} {d0 d1 d2 d3 d4 d5 d6 d7 d8} (h : St v0.2.1 v0.2.2.1 d0 d1 d2 d3 d4 d5 d6 d7 d8 md 0 m) (ht : ToldH 0 m []) (hmp : m.p.2.1 = 2) :
  Yes (loop (g.penfoldlaw12_ModelFresh_l2 l v0 md) (frSt 0 [] d0 d1 d2 d3 d4 d5 d6 d7 d8)) := by
 refine loop_Q (fun r (st : FrS) => ∃ (i : Nat) (m : M) (R : List Hnd) (d0 : T2) (d1 : T3) (d2 : T4) (d3 : T5) (d4 : T6) (d5 : T7) (d6 : T8) (d7 : T9) (d8 : T10), r + i = 60 ∧ St v0.2.1 v0.2.2.1 d0 d1 d2 d3 d4 d5 d6 d7 d8 md i m ∧ ToldH i m R ∧ (∀ x ∈ R, hndRight x = true) ∧ R.length ≤ i ∧ m.th.length = 2 ∧ st = frSt (i : Int) (R.map hndNum) d0 d1 d2 d3 d4 d5 d6 d7 d8) Yes ?_ (m := 60)
  ⟨0, m, [], d0, d1, d2, d3, d4, d5, d6, d7, d8, rfl, h, ht, fun x hx => (by cases hx), Nat.le_refl 0, by have := h.mi.lt; omega, rfl⟩ (by unfold big; omega)
 rintro r st ⟨i, m, R, d0, d1, d2, d3, d4, d5, d6, d7, d8, hri, h, ht, hR, hRl, hth, rfl⟩ G hG
 unfold g.penfoldlaw12_ModelFresh_l2 frSt
 dsimp only
 (refine YS ?_)
 by_cases h1 : i < l.length
 ·(refine YS ?_)
  by_cases h2 : i < 60
  ·have hx : nth (0, (0, (0, (0, (0, (0, (0, 0))))))) l (nN (i : Int)) = l[i] := nth_lt h1
   have hco := hc l[i] (List.getElem_mem h1)
   have et : bits BinOp.and .i64 l[i].1 1 = l[i].1 % 2 := and_i64 1 (by omega) (by decide)
   have ei : iadd .i64 (i : Int) 1 = ((i + 1 : Nat) : Int) := by rw [iadd_s (by omega)]; omega
   have hn : 0 ≤ l[i].1 % 2 ∧ l[i].1 % 2 < m.th.length := by omega
   have hE := Entries_s h hn
   have hel := (h.mi.thAt hn).2.2.len
   have hA := refArea_s (l := (m.thAt (l[i].1 % 2)).ents) (by omega)
   have hlv := h.mi.live h.ct (M.thMem hn) (area_in (h.mi.thAt hn).2.2)
   have hU := Used_s h hlv.2.2
   repeat (refine YS ?_)
   rw [hx, et]
   generalize l[i].1 % 2 = n at *
   generalize l[i] = z at *
   obtain ⟨w, op, rg, hh, vv, a, b, c⟩ := z
   dsimp only at hco ⊢
   refine YbdI' hE ?_
   dsimp only
   refine YbdI' hA ?_
   dsimp only
   refine YbdI' hU ?_
   refine h.yes (by omega) n hco fun r0 r1 r2 r3 r4 r5 r6 r7 r8 h' => ?_
   have hadv := ht.adv (by omega) (Adv.step h.mi h.ct n (op, rg, hh, vv, a, b, c))
   have hth' : (m.step n (op, rg, hh, vv, a, b, c)).1.th.length = 2 := by
    have q1 := h'.mi.lt
    have q2 := h.mi.lt
    rw [p_step] at q1
    omega
   have hgo : Yes (G (frSt (iadd .i64 (i : Int) 1) (R.map hndNum) r0 r1 r2 r3 r4 r5 r6 r7 r8)) := hG (r - 1) _ (by omega) ⟨i + 1, _, R, r0, r1, r2, r3, r4, r5, r6, r7, r8, by omega, h', hadv, hR, by omega, hth', by rw [← ei]⟩
   dsimp only
   (refine YS ?_)
   by_cases hop7 : op = 7
   ·subst hop7
    by_cases h0 : (m.step n (7, rg, hh, vv, a, b, c)).2.1.1 = 0
    ·have mk := made h.mi (by omega) h.ct hn (show 0 ≤ rg from hco.r) h0
     have hnum := mk.num
     have hright := mk.right
     obtain ⟨p1, p2⟩ := hndNum_pos hright
     obtain ⟨o, ho, hos⟩ := mk.find
     have hab := mk.ab
     have hol : o.slots.length = a.toNat := by rw [hos, List.length_replicate]
     have hpl := p_step m n (7, rg, hh, vv, a, b, c)
     have hC := Ctl_s h' (s := area (m.thAt n).ents) (by rw [hpl]; exact hlv.2.2)
     have hU2 := Used_s h' (s := area (m.thAt n).ents) (by rw [hpl]; exact hlv.2.2)
     have hS := Slots_s h' hright ho (by omega)
     have hRg := Regs_s h' (n := n) (by rw [hth']; omega)
     have hrl := (h'.mi.thAt (n := n) (by rw [hth']; omega)).1
     have hgr : (0 ≤ rg ∧ rg ≤ 3) ∧ nth 0 ((m.step n (7, rg, hh, vv, a, b, c)).1.thAt n).regs (nN rg) = hndNum (m.newRef n) := by
      obtain ⟨hrlt, hr0, hreg⟩ := mk.reg
      exact ⟨by omega, (nth_lt hrlt).trans hreg⟩
     obtain ⟨hr3, en⟩ := hgr
     have husd := mk.used
     have hsc := mk.sc
     have hr1 := mk.rr.2.1
     have hepo : (m.newRef n).2.1 = (scGet m.sc (area (m.thAt n).ents)).1.2.2.2 := mk.epo
     have husl := ((h.mi.arI (i := area (m.thAt n).ents) hlv.2.2).2).us
     have hxs := h.mi.size hlv.1 (by omega)
     have hid : (((area (m.thAt n).ents).toNat : Nat) : Int) = area (m.thAt n).ents := by have := hlv.2.2; omega
     have hne : ∀ x ∈ R.map hndNum, x ≠ hndNum (m.newRef n) := fun x hx e => by
      obtain ⟨q, hq, rfl⟩ := List.mem_map.1 hx
      have e2 : q = m.newRef n := by rw [← hndOf_num (hR q hq), e, hndOf_num hright]
      subst e2
      exact ht.ne (i := (area (m.thAt n).ents).toNat) (by rw [hr1, hid]) hlv.1 hepo (h.mi.arI (i := area (m.thAt n).ents) hlv.2.2).1 mk.objs hq
     have hadd : ToldH (i + 1) (m.step n (7, rg, hh, vv, a, b, c)).1 (R ++ [m.newRef n]) := hadv.add (i := (area (m.thAt n).ents).toNat) (x := scGet m.sc (area (m.thAt n).ents)) (by rw [hr1, hid]) (by rw [hsc]; exact hlv.1) hepo mk.mem
     have hmem := mk.mem
     clear mk
     generalize (m.step n (7, rg, hh, vv, a, b, c)) = Z at *
     obtain ⟨m', ⟨code, num, said⟩, err⟩ := Z
     dsimp only at *
     subst hnum
     rw [hsc] at hC
     have ew : wrp .u64 (hndNum (m.newRef n)) = hndNum (m.newRef n) := wrp_u (by omega)
     (refine YS ?_)
     (refine YS ?_)
     (refine YS ?_)
     (refine YS ?_)
     rw [ew]
     refine YbdI' (ref06_Unpack_s hright) ?_
     dsimp only
     refine YbdI' hC ?_
     dsimp only
     refine YbdI' hS ?_
     dsimp only
     refine YbdI' hRg ?_
     dsimp only
     have er : wrp .i64 rg = rg := wrp_s (by omega)
     have eu : iadd .i64 (m.arAt (area (m.thAt n).ents)).used (imul .i64 8 (iadd .i64 (iadd .i64 2 a) (iquo .i64 (iadd .i64 b 7) 8))) = (m.arAt (area (m.thAt n).ents)).used + 8 * (2 + a + (b + 7) / 8) := by
      rw [iadd_s (a := 2) (by omega), iadd_s (a := b) (by omega), iquo_p (by omega), iadd_s (a := 2 + a) (by omega), imul_s (by omega), iadd_s (by omega)]
     rw [er, en, eu]
     (refine YS ?_)
     (refine YS ?_)
     (refine YS ?_)
     (refine YS ?_)
     (refine YS ?_)
     (refine YS ?_)
     (refine YS ?_)
     (refine YS ?_)
     (refine YS ?_)
     (refine YS ?_)
     (refine YS ?_)
     (refine YS ?_)
     (refine YS ?_)
     repeat (refine YS ?_)
     refine fr_l1 _ _ _ _ _ (a := a.toNat) hos (by omega) ?_
     refine fr_l0 _ _ _ _ hne (by show (R.map hndNum).length ≤ 100; rw [List.length_map]; omega) ?_
     refine hG (r - 1) _ (by omega) ⟨i + 1, m', R ++ [m.newRef n], r0, r1, r2, r3, r4, r5, r6, r7, r8, by omega, h', hadd, fun x hx => ?_, by rw [List.length_append]; simp; omega, hth', ?_⟩
     ·rcases List.mem_append.1 hx with hx | hx
      ·exact hR x hx
      ·rw [List.mem_singleton] at hx
       rw [hx]; exact hright
     ·rw [List.map_append]
      show frSt (iadd .i64 (i : Int) 1) _ _ _ _ _ _ _ _ _ _ = _
      rw [ei]
      rfl
    ·(refine YS ?_)
     (refine YS ?_)
     (refine YS ?_)
     (refine YS ?_)
     exact hgo
   ·(refine YS ?_)
    (refine YS ?_)
    exact hgo
  ·(refine YS ?_)
   exact Yes.mk
 ·(refine YS ?_)
  exact Yes.mk
theorem modelFresh_plain (f : List (List FOp)) (l : List Stp) (hf : okT (.slc (.slc (.pair (.int .u8) (.pair (.int .i64) (.int .i64))))) f)
  (hl : okT (.slc (.pair (.int .i64) (.pair (.int .u8) (.pair (.int .u8) (.pair (.int .u8) (.pair (.int .u8) (.pair (.int .i64) (.pair (.int .i64) (.int .i64))))))))) l) : ∃ d, F9 (f, l, ()) (emR _) (emR _) = some ((true, ()), d) := by
 have hop : ∀ x ∈ f, ∀ o ∈ x, 0 ≤ o.1 := fun x hx o ho => (((hf.2 x hx).2 o ho).1).1
 have hco : ∀ x ∈ l, CalOk x.2 := fun x hx => ⟨((hl.2 x hx).2.2.1).1, ((hl.2 x hx).2.2.2.1).1, ((hl.2 x hx).2.2.2.2.1).1⟩
 show Yes (g.penfoldlaw12_ModelFresh f l [] [] [] [] [] [] [] [] [] [] [])
 unfold g.penfoldlaw12_ModelFresh
 obtain ⟨d, hd⟩ := shown_yes [] [] [] [] [] [] [] [] [] [] []
 refine YbdI' hd ?_
 refine YbdI' (rfl : g.penfoldlaw12_some = some ((pSome, ()), ())) ?_
 refine YbdI' (ref10_Fit_s hop) ?_
 obtain ⟨e0, e1, e2, e3, e4, e5, e6, e7, k1, h⟩ := St.new (p := pSome) (by decide) (fitF_right f) d.2.2.2.2.2.2.2.2.1 d.2.2.2.2.2.2.2.2.2.1 d.2.2.2.2.2.2.2.2.2.2.1 d.1 d.2.1 d.2.2.1 d.2.2.2.1 d.2.2.2.2.1 d.2.2.2.2.2.1 d.2.2.2.2.2.2.1 d.2.2.2.2.2.2.2.1
 refine YbdI' k1 ?_
 repeat (refine YS ?_)
 exact fr_l2 hco h ToldH.new rfl
end Go.Proofs.YtihiooaimdoapaaGreat
set_option linter.unusedVariables false
set_option linter.unusedSimpArgs false
namespace Go.Proofs.YtihiooaimdoapaaGreat
open Go.Bm
open Go.ChangeShapes Go.WideShapes Go.ChangeAt Go.RowKit
theorem Tryz.own : ownKnob Tryz.prog.godebug = none := by kernel_rfl
theorem Tryz.laidOut : laidOutB Tryz.prog = true := by kernel_rfl
theorem modelFresh_rd0 (W : World) : RdT Tryz.prog W 26 (.slc (.slc (.pair (.int .u8) (.pair (.int .i64) (.int .i64))))) := (rdSlc Tryz.underlying26 (by kernel_rfl) (by decide) (rdSlc Tryz.underlying25 (by kernel_rfl) (by decide) (rdStruct Tryz.underlying24 (by kernel_rfl) (.cons (rdInt Tryz.underlying5) rfl (by kernel_rfl) (.cons (rdInt Tryz.underlying3) rfl (by kernel_rfl) (.one (rdInt Tryz.underlying3) rfl (by kernel_rfl)))))))
theorem modelFresh_rd1 (W : World) : RdT Tryz.prog W 50 (.slc (.pair (.int .i64) (.pair (.int .u8) (.pair (.int .u8) (.pair (.int .u8) (.pair (.int .u8) (.pair (.int .i64) (.pair (.int .i64) (.int .i64))))))))) := (rdSlc Tryz.underlying50 (by kernel_rfl) (by decide) (rdStruct Tryz.underlying54 (by kernel_rfl) (.cons (rdInt Tryz.underlying3) rfl (by kernel_rfl) (.one (rdStruct Tryz.underlying40 (by kernel_rfl) (.cons (rdInt Tryz.underlying5) rfl (by kernel_rfl) (.cons (rdInt Tryz.underlying5) rfl (by kernel_rfl) (.cons (rdInt Tryz.underlying5) rfl (by kernel_rfl) (.cons (rdInt Tryz.underlying5) rfl (by kernel_rfl) (.cons (rdInt Tryz.underlying3) rfl (by kernel_rfl) (.cons (rdInt Tryz.underlying3) rfl (by kernel_rfl) (.one (rdInt Tryz.underlying3) rfl (by kernel_rfl))))))))) rfl (by kernel_rfl)))))
set_option maxRecDepth 100000 in
theorem modelFresh_lifted (os : Os) (started : os.Started) (H : Type) (enc : TypeId × Value → H) :
  ReturnsInHanded {} Tryz.checked os 9 .any (Rows.modelFreshSpec.pre6 enc Tryz.prog Tryz.f9 Rows.modelFreshRow.domain false) (Rows.modelFreshSpec.post enc Tryz.prog Tryz.f9 false true false false) := by
 refine returnsInHanded_of_change (C := Tryz.checked) Tryz.own started (by kernel_rfl) Tryz.func9
  (ChangeSpec.witness6 (enc := enc) (C := Tryz.checked) false ⟨#[], #[.slice none 0 0, .slice none 0 0], []⟩ 8 (by kernel_rfl) (by kernel_rfl) (by kernel_rfl) (by kernel_rfl)) ?_
 intro W base args ds gs before hval0 hW hcnd _
 have hval : ∀ (j : Nat) t v, Tryz.f9.params[j]? = some t → args[j]? = some v → Value.okWide Tryz.prog W .any base t v := hval0
 have hW' := hW
 obtain ⟨p, q, hA0, hV, rfl, hfz, hnd⟩ := hW
 have hA : DataW.TrodAll enc Tryz.prog W 0 (fun _ => true) true Tryz.f9.params.toList args.toList ds p := hA0
 rw [Tryz.params9] at hA hval
 obtain ⟨v0, v1, d0, d1, p0, p1, rfl, rfl, rfl, h0, h1⟩ := trodAll_two hA
 obtain ⟨rfl, rfl⟩ := trodVars_none hV
 clear hA0 hval0
 simp only [List.append_nil] at hW'
 have c0 : v0.cells.toList = [v0] := by obtain ⟨_, _, _, rfl⟩ := okWide_slice Tryz.underlying26 (hval 0 26 v0 rfl rfl); rfl
 obtain ⟨x0, k0, o0⟩ := rd_top (modelFresh_rd0 W) rfl c0 h0
 have c1 : v1.cells.toList = [v1] := by obtain ⟨_, _, _, rfl⟩ := okWide_slice Tryz.underlying50 (hval 1 50 v1 rfl rfl); rfl
 obtain ⟨x1, k1, o1⟩ := rd_top (modelFresh_rd1 W) rfl c1 h1
 have hlt : ∀ x ∈ p0 ++ p1, x.block < W.heap.size := fun x hx => hW'.lt x (by simpa using hx)
 obtain ⟨dd, hF⟩ := modelFresh_plain x0 x1 o0 o1
 refine (law_true ct9 rfl (x0, x1, ()) hF rfl (vs := [v0, v1]) rfl (fun i d v e1 e2 => ?_)).mono fun e W' ⟨he, hs⟩ => ?_
 ·match i with
  | 0 => cases e1; cases e2; exact k0
  | 1 => cases e1; cases e2; exact k1
  | i + 2 => cases e1
 subst he
 have r0 : DataW.Trod enc Tryz.prog W' 0 (fun b => decide (b < W.heap.size)) true 26 (v0) d0 p0 :=
  WideElems.Trod_stays Tryz.laidOut (by kernel_rfl) (of_decide_eq_true (by kernel_rfl)) h0 (fun x hx => hs.sameAt (hlt x (by simp [hx]))) (fun x hx => by simpa using hlt x (by simp [hx]))
 have r1 : DataW.Trod enc Tryz.prog W' 0 (fun b => decide (b < W.heap.size)) true 50 (v1) d1 p1 :=
  WideElems.Trod_stays Tryz.laidOut (by kernel_rfl) (of_decide_eq_true (by kernel_rfl)) h1 (fun x hx => hs.sameAt (hlt x (by simp [hx]))) (fun x hx => by simpa using hlt x (by simp [hx]))
 refine ⟨_, rfl, _, _, _, [], p0 ++ p1, [], hW', ?_, ?_, ?_, hs.frame _, fun h => by cases h⟩
 ·exact trodAll_mk1 (shut_bool Tryz.underlying4 true)
 ·exact trodAll_mk2 r0 r1
 ·exact rfl
theorem modelFresh_holds : Rows.ModelFreshSaid :=
 OpenClaim.holds_of_wide 9 Tryz.f9 rfl rfl rfl rfl rfl rfl rfl ⟨rfl, rfl, rfl, rfl, rfl⟩ rfl rfl rfl rfl rfl (by kernel_rfl) Tryz.func9 (by kernel_rfl)
  (of_decide_eq_true (by kernel_rfl)) (by unfold Func.isWrapper; first | (rw [if_pos (by decide +kernel)]; kernel_rfl) | (rw [if_neg (by decide +kernel)]; exact ⟨rfl, rfl⟩))
  (fun os started H enc _ => modelFresh_lifted os started H enc)
end Go.Proofs.YtihiooaimdoapaaGreat
