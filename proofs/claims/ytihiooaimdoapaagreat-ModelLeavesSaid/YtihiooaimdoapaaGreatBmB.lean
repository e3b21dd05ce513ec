/- Memory: what is known of it, and what may be done to it. -/
import Derived.Test.YtihiooaimdoapaaGreatBmA
set_option linter.unusedVariables false
set_option linter.unusedSimpArgs false
namespace Go.Bm
noncomputable section
open Go.RowKit

inductive Oth where
  | map (es : List (A × A))
  | dfr
  | loop (st : LoopState) (pe : Option Code)
inductive Ob where
  | cells (cs : List A)
  | oth (x : Oth)
/-- What lies where; and which names are new. -/
structure Hp where
  ob : Nat → Option Ob
  fr : Nat → Prop
/-- Entries of a map, one by one. -/
def Ents (g : G) (mes : Array MapEntry) (es : List (A × A)) : Prop := es.length = mes.size ∧ ∀ (i : Nat) (e : MapEntry) (q : A × A), mes[i]? = some e → es[i]? = some q → V g q.1 e.key ∧ V g q.2 e.val
theorem Ents.mono {g g' : G} (h : Le g g') {mes : Array MapEntry} {es : List (A × A)} (k : Ents g mes es) : Ents g' mes es := ⟨k.1, fun i e q e1 e2 => ⟨(k.2 i e q e1 e2).1.mono h, (k.2 i e q e1 e2).2.mono h⟩⟩
def OthOk (g : G) : Oth → Obj → Prop
  | .map es, ob => ∃ mes clock, ob = .map mes clock ∧ Ents g mes es
  | .dfr, ob => ob = .deferred (some [])
  | .loop st pe, ob => ∃ r : Loop, ob = .loop r ∧ r.state = st ∧ r.pending = pe
def isLp : Ob → Bool
  | .oth (.loop _ _) => true
  | _ => false
theorem OthOk.mono {g g' : G} (h : Le g g') {x : Oth} {ob : Obj} (k : OthOk g x ob) : OthOk g' x ob := by
  cases x with
  | map es => obtain ⟨mes, clock, k1, k2⟩ := k; exact ⟨mes, clock, k1, k2.mono h⟩
  | dfr => exact k
  | loop => exact k
theorem OthOk.nc {g : G} {x : Oth} {ob : Obj} (k : OthOk g x ob) {cur : Array Value} {ty : TypeId} {f : Nat × Nat} (e : ob = .cells cur ty f) : False := by
  subst e
  cases x with
  | map es => obtain ⟨mes, clock, k1, k2⟩ := k; cases k1
  | dfr => cases k
  | loop => obtain ⟨r, k1, _⟩ := k; cases k1
def RowAt (g : G) (w : World) (b t : Nat) (cs : List A) : Prop := ∃ cur ty, w.heap[b]? = some (.cells cur ty (0, 0)) ∧ cur.size = t ∧ Vs g cs (cur.toList.take cs.length)
def ObOk (g : G) (w : World) (b : Nat) (s : Nat × Nat) : Ob → Prop
  | .cells cs => s.1 = cs.length ∧ RowAt g w b s.2 cs
  | .oth x => ∃ ob, w.heap[b]? = some ob ∧ OthOk g x ob
structure Inv (g : G) (S : Hp) (w : World) : Prop where
  cells : ∀ (o : Nat) (cs : List A), S.ob o = some (.cells cs) → (g.at' o = some (none, (0, 0)) ∧ cs = []) ∨ ∃ b t, g.at' o = some (some b, (cs.length, t)) ∧ RowAt g w b t cs
  oth : ∀ (o : Nat) (x : Oth), S.ob o = some (.oth x) → ∃ b s ob, g.at' o = some (some b, s) ∧ w.heap[b]? = some ob ∧ OthOk g x ob
  fresh : ∀ o : Nat, S.fr o → g.at' o = none
  lt : ∀ (o b : Nat) (s : Nat × Nat), g.at' o = some (some b, s) → b < w.heap.size
  inj : ∀ (o o' : Nat) (x x' : Ob) (b : Nat) (s s' : Nat × Nat), S.ob o = some x → S.ob o' = some x' → g.at' o = some (some b, s) → g.at' o' = some (some b, s') → o = o'
  mem : ∀ (b i : Nat) (x : Value), g.mem b i = some x → ∃ cur ty fz, w.heap[b]? = some (.cells cur ty fz) ∧ cur[i]? = some x
  memd : ∀ (o b : Nat) (s : Nat × Nat) (i : Nat) (x : Ob), S.ob o = some x → g.at' o = some (some b, s) → g.mem b i = none
  lp : ∀ (b : Nat) (l : Lp), g.lp b = some l → ∃ r, w.heap[b]? = some (.loop r) ∧ lpOf r = l
/-- A place that things lie at which are told. -/
def Owned (S : Hp) (g : G) (k : Nat) : Prop := ∃ o s x, S.ob o = some x ∧ g.at' o = some (some k, s)
structure Ext (S : Hp) (g : G) (w : World) (S' : Hp) (g' : G) (w' : World) : Prop where
  le : Le g g'
  os : w'.os = w.os
  tape : w'.tape = w.tape
  output : w'.output = w.output
  size : w.heap.size ≤ w'.heap.size
  frame : ∀ k, k < w.heap.size → ¬ Owned S g k → w'.heap[k]? = w.heap[k]?
  own : ∀ k, Owned S' g' k → Owned S g k ∨ w.heap.size ≤ k
  dom : ∀ o p, g'.at' o = some p → g.at' o = some p ∨ (g.at' o = none ∧ S.fr o)
  fr : ∀ o, S'.fr o → S.fr o
  memo : ∀ b i x, g'.mem b i = some x → g.mem b i = some x ∨ Owned S g b ∨ w.heap.size ≤ b
  lpo : ∀ b l, g'.lp b = some l → g.lp b = some l ∨ w.heap.size ≤ b
theorem Ext.refl (S : Hp) (g : G) (w : World) : Ext S g w S g w := ⟨.refl g, rfl, rfl, rfl, Nat.le_refl _, fun _ _ _ => rfl, fun _ h => .inl h, fun _ _ h => .inl h, fun _ h => h, fun _ _ _ h => .inl h, fun _ _ h => .inl h⟩
theorem Ext.trans {S1 S2 S3 : Hp} {g1 g2 g3 : G} {w1 w2 w3 : World} (h : Ext S1 g1 w1 S2 g2 w2) (k : Ext S2 g2 w2 S3 g3 w3) : Ext S1 g1 w1 S3 g3 w3 where
  le := h.le.trans k.le
  os := k.os.trans h.os
  tape := k.tape.trans h.tape
  output := k.output.trans h.output
  size := Nat.le_trans h.size k.size
  frame := fun i hi hn => by
    rw [k.frame i (Nat.lt_of_lt_of_le hi h.size) (fun ho => (h.own i ho).elim hn (fun hh => absurd hi (by omega)))]
    exact h.frame i hi hn
  own := fun i ho => (k.own i ho).elim (fun ho => h.own i ho) (fun hh => .inr (Nat.le_trans h.size hh))
  dom := fun o p e => by
    rcases k.dom o p e with e1 | ⟨e1, e2⟩
    · exact h.dom o p e1
    · refine .inr ⟨?_, h.fr o e2⟩
      cases hg : g1.at' o with
      | none => rfl
      | some q => rw [h.le.at' _ _ hg] at e1; cases e1
  fr := fun o e => h.fr o (k.fr o e)
  memo := fun b i x e => by
    rcases k.memo b i x e with e1 | e1 | e1
    · exact h.memo b i x e1
    · exact .inr (h.own b e1)
    · exact .inr (.inr (Nat.le_trans h.size e1))
  lpo := fun b l e => by
    rcases k.lpo b l e with e1 | e1
    · exact h.lpo b l e1
    · exact .inr (Nat.le_trans h.size e1)
/-- Less is known. -/
theorem Inv.less {g : G} {S S' : Hp} {w : World} (h : Inv g S w) (hs : ∀ o x, S'.ob o = some x → S.ob o = some x) (hf : ∀ o, S'.fr o → S.fr o) : Inv g S' w where
  cells := fun o cs e => h.cells o cs (hs _ _ e)
  oth := fun o x e => h.oth o x (hs _ _ e)
  fresh := fun o e => h.fresh o (hf o e)
  lt := h.lt
  inj := fun o o' x x' b s s' e1 e2 => h.inj o o' x x' b s s' (hs _ _ e1) (hs _ _ e2)
  mem := h.mem
  memd := fun o b s i x e => h.memd o b s i x (hs _ _ e)
  lp := h.lp
theorem Ext.less {S S' : Hp} {g : G} {w : World} (hs : ∀ o x, S'.ob o = some x → S.ob o = some x) (hf : ∀ o, S'.fr o → S.fr o) : Ext S g w S' g w where
  le := .refl g
  os := rfl
  tape := rfl
  output := rfl
  size := Nat.le_refl _
  frame := fun _ _ _ => rfl
  own := fun k ⟨o, s, x, e1, e2⟩ => .inl ⟨o, s, x, hs _ _ e1, e2⟩
  dom := fun _ _ e => .inl e
  fr := hf
  memo := fun _ _ _ e => .inl e
  lpo := fun _ _ e => .inl e
theorem Inv.world {g : G} {S : Hp} {w w' : World} (h : Inv g S w) (hs : w.heap.size ≤ w'.heap.size) (hh : ∀ k, k < w.heap.size → w'.heap[k]? = w.heap[k]?) : Inv g S w' where
  cells := fun o cs e => (h.cells o cs e).imp id fun ⟨b, t, k1, cur, ty, k2, k3⟩ => ⟨b, t, k1, cur, ty, by rw [hh b (h.lt _ _ _ k1)]; exact k2, k3⟩
  oth := fun o x e => let ⟨b, s, ob, k1, k2, k3⟩ := h.oth o x e; ⟨b, s, ob, k1, by rw [hh b (h.lt _ _ _ k1)]; exact k2, k3⟩
  fresh := h.fresh
  lt := fun o b s e => Nat.lt_of_lt_of_le (h.lt o b s e) hs
  inj := h.inj
  mem := fun b i x e => let ⟨cur, ty, fz, k1, k2⟩ := h.mem b i x e; ⟨cur, ty, fz, by rw [hh b (Array.getElem?_eq_some_iff.1 k1).1]; exact k1, k2⟩
  memd := h.memd
  lp := fun b l e => let ⟨r, k1, k2⟩ := h.lp b l e; ⟨r, by rw [hh b (Array.getElem?_eq_some_iff.1 k1).1]; exact k1, k2⟩
theorem Inv.drew {g : G} {S : Hp} {w : World} (h : Inv g S w) : Inv g S w.drew := ⟨h.cells, h.oth, h.fresh, h.lt, h.inj, h.mem, h.memd, h.lp⟩
theorem Inv.mlt {g : G} {S : Hp} {w : World} (h : Inv g S w) {b i : Nat} {x : Value} (e : g.mem b i = some x) : b < w.heap.size := let ⟨_, _, _, k, _⟩ := h.mem b i x e; (Array.getElem?_eq_some_iff.1 k).1

/-! ### what memory does -/
def Hp.set (S : Hp) (o : Nat) (x : Ob) : Hp := ⟨fun i => if i = o then some x else S.ob i, S.fr⟩
def Hp.new (S : Hp) (o : Nat) (x : Ob) : Hp := ⟨fun i => if i = o then some x else S.ob i, fun i => S.fr i ∧ i ≠ o⟩
def Hp.del (S : Hp) (o : Nat) : Hp := ⟨fun i => if i = o then none else S.ob i, S.fr⟩
def gput (g : G) (o : Nat) (p : Option Nat × (Nat × Nat)) : G := ⟨fun i => if i = o then some p else g.at' i, g.mem, g.lp⟩
theorem gput_le {g : G} {o : Nat} {p : Option Nat × (Nat × Nat)} (h : g.at' o = none) : Le g (gput g o p) := ⟨fun i q e => by
  show (if i = o then some p else g.at' i) = some q
  split
  · rename_i hh; subst hh; rw [h] at e; cases e
  · exact e, fun _ _ _ e => e, fun _ _ e => e⟩
theorem gput_at {g : G} {o : Nat} {p : Option Nat × (Nat × Nat)} : (gput g o p).at' o = some p := if_pos rfl
theorem gput_ne {g : G} {o i : Nat} {p : Option Nat × (Nat × Nat)} (h : i ≠ o) : (gput g o p).at' i = g.at' i := if_neg h
theorem Inv.upd {g g' : G} {S S' : Hp} {w w' : World} {o b : Nat} {s : Nat × Nat} {x : Ob} (h : Inv g S w) (hle : Le g g') (hmem : g'.mem = g.mem) (hlp : g'.lp = g.lp) (hlb : ∀ l, g.lp b = some l → ∃ r, w'.heap[b]? = some (.loop r) ∧ lpOf r = l) (hat : ∀ i p, i ≠ o → g'.at' i = some p → g.at' i = some p) (hg : g'.at' o = some (some b, s))
    (hob : S'.ob o = some x) (hS : ∀ i y, i ≠ o → S'.ob i = some y → S.ob i = some y) (hfr : ∀ i, S'.fr i → S.fr i ∧ g'.at' i = none) (hsz : w.heap.size ≤ w'.heap.size) (hb : b < w'.heap.size)
    (hheap : ∀ k, k ≠ b → k < w.heap.size → w'.heap[k]? = w.heap[k]?) (hfar : ∀ i y s', i ≠ o → S'.ob i = some y → g.at' i = some (some b, s') → False) (hmb : ∀ i, g.mem b i = none)
    (hok : ObOk g' w' b s x) : Inv g' S' w' where
  cells := fun i cs e => by
    by_cases hi : i = o
    · subst hi
      rw [hob] at e
      obtain rfl := Option.some.inj e
      obtain ⟨h1, h2⟩ : s.1 = cs.length ∧ RowAt g' w' b s.2 cs := hok
      exact .inr ⟨b, s.2, by rw [← h1]; exact hg, h2⟩
    · rcases h.cells i cs (hS i _ hi e) with ⟨k1, k2⟩ | ⟨b', t, k1, cur, ty, k2, k2', k3⟩
      · exact .inl ⟨hle.at' _ _ k1, k2⟩
      · exact .inr ⟨b', t, hle.at' _ _ k1, cur, ty, by rw [hheap b' (fun hh => hfar i _ _ hi e (hh ▸ k1)) (h.lt _ _ _ k1)]; exact k2, k2', k3.mono hle⟩
  oth := fun i y e => by
    by_cases hi : i = o
    · subst hi
      rw [hob] at e
      obtain rfl := Option.some.inj e
      obtain ⟨ob, h1, h2⟩ : ∃ ob, w'.heap[b]? = some ob ∧ OthOk g' y ob := hok
      exact ⟨b, s, ob, hg, h1, h2⟩
    · obtain ⟨b', s', ob, k1, k2, k3⟩ := h.oth i y (hS i _ hi e)
      exact ⟨b', s', ob, hle.at' _ _ k1, by rw [hheap b' (fun hh => hfar i _ _ hi e (hh ▸ k1)) (h.lt _ _ _ k1)]; exact k2, k3.mono hle⟩
  fresh := fun i e => (hfr i e).2
  lt := fun i b' s' e => by
    by_cases hi : i = o
    · subst hi; rw [hg] at e; simp at e; omega
    · exact Nat.lt_of_lt_of_le (h.lt i b' s' (hat i _ hi e)) hsz
  inj := fun i j y z b' s1 s2 e1 e2 k1 k2 => by
    by_cases hi : i = o
    · by_cases hj : j = o
      · exact hi.trans hj.symm
      · subst hi; rw [hg] at k1; simp at k1
        exact (hfar j z s2 hj e2 (by rw [k1.1]; exact hat j _ hj k2)).elim
    · by_cases hj : j = o
      · subst hj; rw [hg] at k2; simp at k2
        exact (hfar i y s1 hi e1 (by rw [k2.1]; exact hat i _ hi k1)).elim
      · exact h.inj i j y z b' s1 s2 (hS i _ hi e1) (hS j _ hj e2) (hat i _ hi k1) (hat j _ hj k2)
  mem := fun b' i y e => by
    rw [hmem] at e
    obtain ⟨cur, ty, fz, k1, k2⟩ := h.mem b' i y e
    exact ⟨cur, ty, fz, by rw [hheap b' (fun hh => by subst hh; rw [hmb] at e; cases e) (h.mlt e)]; exact k1, k2⟩
  memd := fun i b' s' j y e k => by
    rw [hmem]
    by_cases hi : i = o
    · subst hi; rw [hg] at k; simp at k; rw [← k.1]; exact hmb j
    · exact h.memd i b' s' j y (hS i _ hi e) (hat i _ hi k)
  lp := fun b' l e => by
    rw [hlp] at e
    by_cases hb' : b' = b
    · subst hb'; exact hlb l e
    · obtain ⟨r, k1, k2⟩ := h.lp b' l e
      exact ⟨r, by rw [hheap b' hb' (Array.getElem?_eq_some_iff.1 k1).1]; exact k1, k2⟩
/-- A thing that is no loop lies where none is. -/
theorem Inv.nlp {g : G} {S : Hp} {w : World} (h : Inv g S w) {o b : Nat} {s : Nat × Nat} {x : Ob} (ho : S.ob o = some x) (hg : g.at' o = some (some b, s)) (hx : isLp x = false) : g.lp b = none := by
  cases hl : g.lp b with
  | none => rfl
  | some l =>
    obtain ⟨r, k1, k2⟩ := h.lp b l hl
    cases x with
    | cells cs =>
      rcases h.cells o cs ho with ⟨q, _⟩ | ⟨b', t, q1, cur, ty, q2, _⟩
      · rw [q] at hg; cases hg
      · rw [q1] at hg; simp at hg; rw [hg.1, k1] at q2; cases q2
    | oth y =>
      obtain ⟨b', s', ob, q1, q2, q3⟩ := h.oth o y ho
      rw [q1] at hg; simp at hg; rw [hg.1, k1] at q2
      cases q2
      cases y with
      | map es => obtain ⟨mes, clock, k, _⟩ := q3; cases k
      | dfr => cases q3
      | loop => cases hx
/-- Something new, in a block of its own. -/
theorem Inv.alloc {g : G} {S : Hp} {w : World} (h : Inv g S w) {o : Nat} {s : Nat × Nat} (ho : S.fr o) {x : Ob} {ob : Obj} (hok : ObOk (gput g o (some w.heap.size, s)) (w.alloc ob) w.heap.size s x) :
    Inv (gput g o (some w.heap.size, s)) (S.new o x) (w.alloc ob) ∧ Ext S g w (S.new o x) (gput g o (some w.heap.size, s)) (w.alloc ob) := by
  have hg := h.fresh o ho
  have hle := gput_le (p := (some w.heap.size, s)) hg
  have hsz : (w.alloc ob).heap.size = w.heap.size + 1 := Array.size_push _
  have hold : ∀ i, i ≠ o → (gput g o (some w.heap.size, s)).at' i = g.at' i := fun i hi => gput_ne hi
  have hs : ∀ i y, i ≠ o → (S.new o x).ob i = some y → S.ob i = some y := fun i y hi e => by
    have e : (if i = o then some x else S.ob i) = some y := e
    rwa [if_neg hi] at e
  refine ⟨h.upd hle rfl rfl (fun l e => by obtain ⟨r, k1, _⟩ := h.lp _ l e; have := (Array.getElem?_eq_some_iff.1 k1).1; omega) (fun i p hi e => by rwa [hold i hi] at e) gput_at (show (if o = o then _ else _) = _ from if_pos rfl) hs (fun i hi => ⟨hi.1, by rw [hold i hi.2]; exact h.fresh i hi.1⟩) (by omega) (by omega)
    (fun k _ hk => Below.heap_alloc w _ k hk) (fun i y s' _ _ e => by have := h.lt _ _ _ e; omega) (fun i => ?_) hok,
    ⟨hle, rfl, rfl, rfl, by omega, fun k hk _ => Below.heap_alloc w _ k hk, fun k ⟨i, s', y, e1, e2⟩ => ?_, fun i p e => ?_, fun i hi => hi.1, fun _ _ _ e => .inl e, fun _ _ e => .inl e⟩⟩
  · cases hm : g.mem w.heap.size i with
    | none => rfl
    | some x => have := h.mlt hm; omega
  · by_cases hi : i = o
    · subst hi; rw [gput_at] at e2; simp at e2; exact .inr (by omega)
    · rw [hold i hi] at e2; exact .inl ⟨i, s', y, hs i y hi e1, e2⟩
  · by_cases hi : i = o
    · subst hi; exact .inr ⟨hg, ho⟩
    · rw [hold i hi] at e; exact .inl e
theorem V.alloc {g : G} {o b : Nat} {s : Nat × Nat} : (gput g o (some b, s)).at' o = some (some b, s) := gput_at
/-- What lies in a block is changed. -/
theorem Inv.write' {g : G} {S : Hp} {w w' : World} (h : Inv g S w) {o b : Nat} {s : Nat × Nat} {x y : Ob} (ho : S.ob o = some x) (hg : g.at' o = some (some b, s)) (hsz : w'.heap.size = w.heap.size) (hheap : ∀ k, k ≠ b → w'.heap[k]? = w.heap[k]?)
    (hos : w'.os = w.os) (htape : w'.tape = w.tape) (hout : w'.output = w.output) (hok : ObOk g w' b s y) (hlb : ∀ l, g.lp b = some l → ∃ r, w'.heap[b]? = some (.loop r) ∧ lpOf r = l) : Inv g (S.set o y) w' ∧ Ext S g w (S.set o y) g w' := by
  have hs : ∀ i z, i ≠ o → (S.set o y).ob i = some z → S.ob i = some z := fun i z hi e => by
    have e : (if i = o then some y else S.ob i) = some z := e
    rwa [if_neg hi] at e
  refine ⟨h.upd (.refl g) rfl rfl hlb (fun i p _ e => e) hg (show (if o = o then _ else _) = _ from if_pos rfl) hs (fun i hi => ⟨hi, h.fresh i hi⟩) (by omega) (by rw [hsz]; exact h.lt _ _ _ hg)
    (fun k hk _ => hheap k hk) (fun i z s' hi e k => hi (h.inj i o z x b s' s (hs i z hi e) ho k hg)) (fun i => h.memd o b s i x ho hg) hok,
    ⟨.refl g, hos, htape, hout, by omega, fun k _ hn => hheap k (fun hh => hn ⟨o, s, x, ho, hh ▸ hg⟩), fun k ⟨i, s', z, e1, e2⟩ => ?_, fun i p e => .inl e, fun i hi => hi, fun _ _ _ e => .inl e, fun _ _ e => .inl e⟩⟩
  by_cases hi : i = o
  · subst hi; exact .inl ⟨i, s', x, ho, e2⟩
  · exact .inl ⟨i, s', z, hs i z hi e1, e2⟩
theorem Inv.write {g : G} {S : Hp} {w w' : World} (h : Inv g S w) {o b : Nat} {s : Nat × Nat} {x y : Ob} (ho : S.ob o = some x) (hg : g.at' o = some (some b, s)) (hsz : w'.heap.size = w.heap.size) (hheap : ∀ k, k ≠ b → w'.heap[k]? = w.heap[k]?)
    (hos : w'.os = w.os) (htape : w'.tape = w.tape) (hout : w'.output = w.output) (hok : ObOk g w' b s y) (hx : isLp x = false := by rfl) : Inv g (S.set o y) w' ∧ Ext S g w (S.set o y) g w' :=
  h.write' ho hg hsz hheap hos htape hout hok (fun l e => by rw [h.nlp ho hg hx] at e; cases e)
/-- Another name; and what lies there is changed. -/
theorem Inv.mvw {g : G} {S : Hp} {w w' : World} (h : Inv g S w) {o o' b : Nat} {s s' : Nat × Nat} {x x' : Ob} (ho : S.ob o = some x) (hf : S.fr o') (hg : g.at' o = some (some b, s)) (hsz : w'.heap.size = w.heap.size) (hheap : ∀ k, k ≠ b → w'.heap[k]? = w.heap[k]?)
    (hos : w'.os = w.os) (htape : w'.tape = w.tape) (hout : w'.output = w.output) (hok : ObOk (gput g o' (some b, s')) w' b s' x') (hx : isLp x = false := by rfl) :
    Inv (gput g o' (some b, s')) ((S.del o).new o' x') w' ∧ Ext S g w ((S.del o).new o' x') (gput g o' (some b, s')) w' := by
  have hg' := h.fresh o' hf
  have hne : o ≠ o' := fun e => by rw [e, hg'] at hg; cases hg
  have hle := gput_le (p := (some b, s')) hg'
  have hs : ∀ i z, i ≠ o' → ((S.del o).new o' x').ob i = some z → i ≠ o ∧ S.ob i = some z := fun i z hi e => by
    have e : (if i = o' then some x' else if i = o then none else S.ob i) = some z := e
    rw [if_neg hi] at e
    split at e
    · cases e
    · exact ⟨by assumption, e⟩
  refine ⟨h.upd (o := o') (b := b) (s := s') hle rfl rfl (fun l e => by rw [h.nlp ho hg hx] at e; cases e) (fun i p hi e => by rwa [gput_ne hi] at e) gput_at (show (if o' = o' then _ else _) = _ from if_pos rfl) (fun i y hi e => (hs i y hi e).2) (fun i hi => ⟨hi.1, by rw [gput_ne hi.2]; exact h.fresh i hi.1⟩) (by omega) (by rw [hsz]; exact h.lt _ _ _ hg) (fun k hk _ => hheap k hk) ?_ (fun i => h.memd o b s i _ ho hg) hok, ⟨hle, hos, htape, hout, by omega, fun k _ hn => hheap k (fun hh => hn ⟨o, s, x, ho, hh ▸ hg⟩), fun k ⟨i, s', y, e1, e2⟩ => ?_, fun i p e => ?_, fun i hi => hi.1, fun _ _ _ e => .inl e, fun _ _ e => .inl e⟩⟩
  · intro i y s' hi e k
    obtain ⟨hno, e'⟩ := hs i y hi e
    exact hno (h.inj i o y _ b s' s e' ho k hg)
  · by_cases hi : i = o'
    · subst hi; rw [gput_at] at e2; simp at e2; exact .inl ⟨o, s, _, ho, e2.1 ▸ hg⟩
    · rw [gput_ne hi] at e2; exact .inl ⟨i, s', y, (hs i y hi e1).2, e2⟩
  · by_cases hi : i = o'
    · subst hi; exact .inr ⟨hg', hf⟩
    · rw [gput_ne hi] at e; exact .inl e
theorem Inv.grow {g : G} {S : Hp} {w w' : World} (h : Inv g S w) {o o' b : Nat} {s : Nat × Nat} {x : Ob} {cs' : List A} (ho : S.ob o = some x) (hf : S.fr o') (hg : g.at' o = some (some b, s)) (hsz : w'.heap.size = w.heap.size) (hheap : ∀ k, k ≠ b → w'.heap[k]? = w.heap[k]?)
    (hos : w'.os = w.os) (htape : w'.tape = w.tape) (hout : w'.output = w.output) (hok : RowAt g w' b s.2 cs') (hx : isLp x = false := by rfl) :
    Inv (gput g o' (some b, (cs'.length, s.2))) ((S.del o).new o' (.cells cs')) w' ∧ Ext S g w ((S.del o).new o' (.cells cs')) (gput g o' (some b, (cs'.length, s.2))) w' := by
  obtain ⟨cur, ty, k2, k2', k3⟩ := hok
  exact h.mvw ho hf hg hsz hheap hos htape hout ⟨rfl, cur, ty, k2, k2', k3.mono (gput_le (h.fresh o' hf))⟩ hx
/-- Another name (of its beginning). -/
theorem Inv.ren {g : G} {S : Hp} {w : World} (h : Inv g S w) {o o' b m : Nat} {s : Nat × Nat} {cs : List A} (ho : S.ob o = some (.cells cs)) (hf : S.fr o') (hg : g.at' o = some (some b, s)) (hm : m ≤ cs.length) :
    Inv (gput g o' (some b, (m, s.2))) ((S.del o).new o' (.cells (cs.take m))) w ∧ Ext S g w ((S.del o).new o' (.cells (cs.take m))) (gput g o' (some b, (m, s.2))) w := by
  have hl : (cs.take m).length = m := by simp; omega
  have hrow : RowAt g w b s.2 (cs.take m) := by
    rcases h.cells o cs ho with ⟨k1, _⟩ | ⟨b', t, k1, cur, ty, k2, k2', k3⟩
    · rw [k1] at hg; cases hg
    · rw [k1] at hg; simp at hg
      obtain ⟨rfl, rfl⟩ := hg
      refine ⟨cur, ty, k2, k2', ?_⟩
      have := k3.part 0 m
      simp only [List.drop_zero] at this
      rw [hl]
      rwa [List.take_take, Nat.min_eq_left hm] at this
  have := h.grow ho hf hg rfl (fun _ _ => rfl) rfl rfl rfl hrow rfl
  rwa [hl] at this
/-- An empty row that lies nowhere. -/
theorem Inv.emp {g : G} {S : Hp} {w : World} (h : Inv g S w) {o : Nat} (hf : S.fr o) : Inv (gput g o (none, (0, 0))) (S.new o (.cells [])) w ∧ Ext S g w (S.new o (.cells [])) (gput g o (none, (0, 0))) w := by
  have hg := h.fresh o hf
  have hle := gput_le (p := (none, (0, 0))) hg
  have hs : ∀ i z, i ≠ o → (S.new o (.cells [])).ob i = some z → S.ob i = some z := fun i z hi e => by
    have e : (if i = o then some (.cells []) else S.ob i) = some z := e
    rwa [if_neg hi] at e
  have ho : (S.new o (.cells [])).ob o = some (.cells []) := if_pos rfl
  have hn : ∀ i b s, (gput g o (none, (0, 0))).at' i = some (some b, s) → i ≠ o ∧ g.at' i = some (some b, s) := fun i b s e => by
    have hi : i ≠ o := by rintro rfl; rw [gput_at] at e; simp at e
    exact ⟨hi, by rwa [gput_ne hi] at e⟩
  refine ⟨⟨fun i cs e => ?_, fun i x e => ?_, fun i hi => by rw [gput_ne hi.2]; exact h.fresh i hi.1, fun i b s e => h.lt i b s (hn i b s e).2, fun i j x x' b s s' e1 e2 k1 k2 => ?_, h.mem, fun i b s j x e k => ?_, h.lp⟩,
    ⟨hle, rfl, rfl, rfl, Nat.le_refl _, fun _ _ _ => rfl, fun k ⟨i, s', y, e1, e2⟩ => ?_, fun i p e => ?_, fun i hi => hi.1, fun _ _ _ e => .inl e, fun _ _ e => .inl e⟩⟩
  · by_cases hi : i = o
    · subst hi; rw [ho] at e; simp at e; subst e; exact .inl ⟨gput_at, rfl⟩
    · rcases h.cells i cs (hs i _ hi e) with ⟨k1, k2⟩ | ⟨b', t, k1, cur, ty, k2, k2', k3⟩
      · exact .inl ⟨hle.at' _ _ k1, k2⟩
      · exact .inr ⟨b', t, hle.at' _ _ k1, cur, ty, k2, k2', k3.mono hle⟩
  · have hi : i ≠ o := by rintro rfl; rw [ho] at e; cases e
    obtain ⟨b', s', ob, k1, k2, k3⟩ := h.oth i x (hs i _ hi e)
    exact ⟨b', s', ob, hle.at' _ _ k1, k2, k3.mono hle⟩
  · exact h.inj i j x x' b s s' (hs i _ (hn _ _ _ k1).1 e1) (hs j _ (hn _ _ _ k2).1 e2) (hn _ _ _ k1).2 (hn _ _ _ k2).2
  · exact h.memd i b s j x (hs i _ (hn _ _ _ k).1 e) (hn _ _ _ k).2
  · exact .inl ⟨i, s', y, hs i y (hn _ _ _ e2).1 e1, (hn _ _ _ e2).2⟩
  · by_cases hi : i = o
    · subst hi; exact .inr ⟨hg, hf⟩
    · rw [gput_ne hi] at e; exact .inl e
/-- Memory in which a row stays. -/
def gfrz (g : G) (b : Nat) (f : Nat → Option Value) : G := ⟨g.at', fun b' i => if b' = b then f i else g.mem b' i, g.lp⟩
theorem gfrz_le {g : G} {b : Nat} {f : Nat → Option Value} (h : ∀ i, g.mem b i = none) : Le g (gfrz g b f) := ⟨fun _ _ e => e, fun b' i x e => by
  show (if b' = b then f i else g.mem b' i) = some x
  split
  · rename_i hh; subst hh; rw [h] at e; cases e
  · exact e, fun _ _ e => e⟩
/-- Nobody writes it again. -/
theorem Inv.frz {g : G} {S : Hp} {w : World} (h : Inv g S w) {o b : Nat} {s : Nat × Nat} {cs : List A} (ho : S.ob o = some (.cells cs)) (hg : g.at' o = some (some b, s)) :
    ∃ cur : Array Value, ∃ ty, w.heap[b]? = some (.cells cur ty (0, 0)) ∧ s.1 = cs.length ∧ Vs g cs (cur.toList.take cs.length) ∧ Le g (gfrz g b fun i => if i < cs.length then cur[i]? else none) ∧
      Inv (gfrz g b fun i => if i < cs.length then cur[i]? else none) (S.del o) w ∧ Ext S g w (S.del o) (gfrz g b fun i => if i < cs.length then cur[i]? else none) w := by
  rcases h.cells o cs ho with ⟨k1, _⟩ | ⟨b', t, k1, cur, ty, k2, k2', k3⟩
  · rw [k1] at hg; cases hg
  rw [k1] at hg; simp at hg
  obtain ⟨rfl, rfl⟩ := hg
  have hle : Le g (gfrz g b' fun i => if i < cs.length then cur[i]? else none) := gfrz_le (fun i => h.memd o b' _ i _ ho k1)
  have hs : ∀ i z, (S.del o).ob i = some z → i ≠ o ∧ S.ob i = some z := fun i z e => by
    have e : (if i = o then none else S.ob i) = some z := e
    split at e
    · cases e
    · exact ⟨by assumption, e⟩
  refine ⟨cur, ty, k2, rfl, k3, hle, ⟨fun i cs' e => ?_, fun i x e => ?_, h.fresh, h.lt, fun i j x x' b s s' e1 e2 => h.inj i j x x' b s s' (hs _ _ e1).2 (hs _ _ e2).2, fun b i x e => ?_, fun i b s j x e k => ?_, h.lp⟩,
    ⟨hle, rfl, rfl, rfl, Nat.le_refl _, fun _ _ _ => rfl, fun k ⟨i, s', y, e1, e2⟩ => .inl ⟨i, s', y, (hs i y e1).2, e2⟩, fun i p e => .inl e, fun i hi => hi, fun b i x e => ?_, fun _ _ e => .inl e⟩⟩
  · rcases h.cells i cs' (hs i _ e).2 with ⟨k1, k2⟩ | ⟨b', t, k1, cur, ty, k2, k2', k3⟩
    · exact .inl ⟨k1, k2⟩
    · exact .inr ⟨b', t, k1, cur, ty, k2, k2', k3.mono hle⟩
  · obtain ⟨b', s', ob, k1, k2, k3⟩ := h.oth i x (hs i _ e).2
    exact ⟨b', s', ob, k1, k2, k3.mono hle⟩
  · have e : (if b = b' then (if i < cs.length then cur[i]? else none) else g.mem b i) = some x := e
    by_cases hb : b = b'
    · rw [if_pos hb] at e
      by_cases hi : i < cs.length
      · rw [if_pos hi] at e; rw [hb]; exact ⟨cur, ty, _, k2, e⟩
      · rw [if_neg hi] at e; cases e
    · rw [if_neg hb] at e; exact h.mem b i x e
  · show (if b = b' then (if j < cs.length then cur[j]? else none) else g.mem b j) = none
    have hne : b ≠ b' := fun hb => by
      subst hb
      exact (hs i x e).1 (h.inj i o x _ b s _ (hs i x e).2 ho k k1)
    rw [if_neg hne]
    exact h.memd i b s j x (hs i x e).2 k
  · have e : (if b = b' then (if i < cs.length then cur[i]? else none) else g.mem b i) = some x := e
    split at e
    · rename_i hb; exact .inr (.inl ⟨o, _, _, ho, hb ▸ k1⟩)
    · exact .inl e
end
end Go.Bm
