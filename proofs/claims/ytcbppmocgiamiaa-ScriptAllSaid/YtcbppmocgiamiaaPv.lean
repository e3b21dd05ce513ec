/- A logic of pure values: data that lie in memory which nobody writes again; own variables; slices that may be appended to. Nothing of a program stands here. -/
import Derived.WalkKit
import Derived.Deep.LoopGhost
namespace Go.Pv
open Go.RowKit

/-- Memory that nobody writes again: block, place in it. -/
abbrev Mem := Nat → Nat → Option Value
def adr (p : Nat × Nat) : Addr := ⟨p.1, p.2, none⟩

/-- Data. -/
inductive D where
  | v (x : Value)
  | agg (cs : List D)
  | sl (sz : Nat) (full : Bool) (es : List (List D))
instance : Inhabited D := ⟨.v undef⟩

/-- A value is data, in memory that stays. -/
inductive VD (M : Mem) : D → Value → Prop
  | v (x : Value) (h : x.oneCell' = true) : VD M (.v x) x
  | agg (cs : List D) (vs : Array Value) (hl : cs.length = vs.size) (h1 : ∀ v ∈ vs.toList, v.oneCell' = true) (h : ∀ (i : Nat) (c : D) (x : Value), cs[i]? = some c → vs[i]? = some x → VD M c x) : VD M (.agg cs) (.agg vs)
  | sl (sz : Nat) (full : Bool) (es : List (List D)) (a : Option (Nat × Nat)) (cap : Nat) (vs : List Value)
      (hz : ∀ e, e ∈ es → e.length = sz) (hc : es.length ≤ cap) (hf : full = true → cap = es.length) (hn : a = none → cap = 0) (hx : cap ≤ maxLen)
      (hl : es.flatten.length = vs.length)
      (hm : ∀ (p : Nat × Nat) (j : Nat) (x : Value), a = some p → vs[j]? = some x → M p.1 (p.2 + j) = some x)
      (hv : ∀ (j : Nat) (c : D) (x : Value), es.flatten[j]? = some c → vs[j]? = some x → VD M c x) :
      VD M (.sl sz full es) (.slice (a.map adr) es.length cap)
  | sl0 (sz : Nat) (A : Option Addr) : VD M (.sl sz false []) (.slice A 0 0)

structure Tg where
  base : Option (Nat × Nat)
  sz : Nat
  m : Nat
  cap : Nat
/-- How far an own row that grows goes. -/
structure Gr where
  m : Nat
  cap : Nat
  sz : Nat
structure Gh where
  mem : Mem
  bx : List (Option Nat)
  tg : List Tg
  gx : Nat → Option Gr := fun _ => none

/-- What a slot holds. -/
inductive PV where
  | d (x : D)
  | agg (cs : List PV)
  | tup (cs : List PV)
  | app (t sz : Nat) (es : List (List D))
  | ptr (b off : Nat)
  | ms (b off sz n : Nat)
  | vec (b sz n : Nat)
  | vp (b N off : Nat)
  | rp (cs : List D)
  | fn (f : FuncId) (fi ca : List PV)
  | opt (b : Bool) (p : PV)
  | un
  | junk
instance : Inhabited PV := ⟨.junk⟩

inductive V (g : Gh) : PV → Value → Prop
  | d (x : D) (v : Value) (h : VD g.mem x v) : V g (.d x) v
  | agg (cs : List PV) (vs : Array Value) (hl : cs.length = vs.size) (h1 : ∀ v ∈ vs.toList, v.oneCell' = true) (h : ∀ (i : Nat) (c : PV) (x : Value), cs[i]? = some c → vs[i]? = some x → V g c x) : V g (.agg cs) (.agg vs)
  | tup (cs : List PV) (vs : Array Value) (hl : cs.length = vs.size) (h : ∀ (i : Nat) (c : PV) (x : Value), cs[i]? = some c → vs[i]? = some x → V g c x) : V g (.tup cs) (.tuple vs)
  | app (t sz : Nat) (es : List (List D)) (a : Option (Nat × Nat)) (cap : Nat) (T : Tg) (h : VD g.mem (.sl sz false es) (.slice (a.map adr) es.length cap)) (hT : g.tg[t]? = some T) (hz : T.sz = sz)
      (hle : es.length ≤ T.m) (he : es.length = T.m → a = T.base ∧ cap = T.cap) : V g (.app t sz es) (.slice (a.map adr) es.length cap)
  | ptr (b off blk : Nat) (h : g.bx[b]? = some (some blk)) (hg : g.gx b = none) : V g (.ptr b off) (.pointer (some ⟨blk, off, none⟩))
  | ms (b off sz n cap : Nat) (a : Option (Nat × Nat)) (h : n ≠ 0 → ∃ blk : Nat, a = some (blk, off) ∧ g.bx[b]? = some (some blk) ∧ g.gx b = none) (hc : n ≤ cap) (hx : cap ≤ maxLen) (hn : a = none → cap = 0) : V g (.ms b off sz n) (.slice (a.map adr) n cap)
  | vec (b sz n cap : Nat) (A : Option Addr) (G : Gr) (hG : g.gx b = some G) (hz : G.sz = sz) (hle : n ≤ G.m) (he : n = G.m → cap = G.cap ∧ (0 < cap → ∃ blk : Nat, g.bx[b]? = some (some blk) ∧ A = some ⟨blk, 0, none⟩)) (hc : n ≤ cap) (hx : cap ≤ maxLen) (hn : A = none → cap = 0) : V g (.vec b sz n) (.slice A n cap)
  | vp (b N off blk : Nat) (G : Gr) (hG : g.gx b = some G) (h0 : 0 < G.sz) (hle : N ≤ G.m * G.sz) (he : N = G.m * G.sz → g.bx[b]? = some (some blk)) : V g (.vp b N off) (.pointer (some ⟨blk, off, none⟩))
  | rp (cs : List D) (blk off : Nat) (f : Nat → Value) (hm : ∀ (j : Nat) (c : D), cs[j]? = some c → g.mem blk (off + j) = some (f j)) (hv : ∀ (j : Nat) (c : D), cs[j]? = some c → VD g.mem c (f j)) : V g (.rp cs) (.pointer (some ⟨blk, off, none⟩))
  | fn (f : FuncId) (fi ca : List PV) (fv cv : Array Value) (hf : fi.length = fv.size) (hc : ca.length = cv.size) (h1 : ∀ (i : Nat) (c : PV) (x : Value), fi[i]? = some c → fv[i]? = some x → V g c x) (h2 : ∀ (i : Nat) (c : PV) (x : Value), ca[i]? = some c → cv[i]? = some x → V g c x) :
      V g (.fn f fi ca) (.func (.func f) fv cv)
  | opt (b : Bool) (p : PV) (v : Value) (h1 : b = true → V g p v) (h2 : b = false → v = undef) : V g (.opt b p) v
  | un : V g .un undef
  | junk (v : Value) : V g .junk v

structure Le (g g' : Gh) : Prop where
  mem : ∀ b o x, g.mem b o = some x → g'.mem b o = some x
  bx : ∀ (i k : Nat), g.bx[i]? = some (some k) → g.gx i = none → g'.bx[i]? = some (some k) ∧ g'.gx i = none
  gx : ∀ (i : Nat) (G : Gr), g.gx i = some G → ∃ G' : Gr, g'.gx i = some G' ∧ ((G' = G ∧ g'.bx[i]? = g.bx[i]?) ∨ (G.m < G'.m ∧ G'.sz = G.sz))
  tg : ∀ (t : Nat) (T : Tg), g.tg[t]? = some T → ∃ T' : Tg, g'.tg[t]? = some T' ∧ (T' = T ∨ (T.m < T'.m ∧ T'.sz = T.sz))

theorem VD.mono {M M' : Mem} (h : ∀ b o x, M b o = some x → M' b o = some x) {d : D} {v : Value} (hv : VD M d v) : VD M' d v := by
  induction hv with
  | v x h1 => exact .v x h1
  | agg cs vs hl h1 _ ih => exact .agg cs vs hl h1 ih
  | sl sz full es a cap vs hz hc hf hn hx hl hm _ ih => exact .sl sz full es a cap vs hz hc hf hn hx hl (fun p j x h1 h2 => h _ _ _ (hm p j x h1 h2)) ih
  | sl0 sz A => exact .sl0 sz A

theorem V.mono {g g' : Gh} (h : Le g g') {p : PV} {v : Value} (hv : V g p v) : V g' p v := by
  induction hv with
  | d x v h1 => exact .d x v (h1.mono h.mem)
  | agg cs vs hl h1 _ ih => exact .agg cs vs hl h1 ih
  | tup cs vs hl _ ih => exact .tup cs vs hl ih
  | app t sz es a cap T h1 hT hz hle he =>
    obtain ⟨T', hT', hc⟩ := h.tg t T hT
    rcases hc with rfl | ⟨hlt, hs⟩
    · exact .app t sz es a cap T' (h1.mono h.mem) hT' hz hle he
    · exact .app t sz es a cap T' (h1.mono h.mem) hT' (hs.trans hz) (by omega) (fun e => by omega)
  | ptr b off blk h1 hg => exact .ptr b off blk (h.bx _ _ h1 hg).1 (h.bx _ _ h1 hg).2
  | ms b off sz n cap a h1 hc hx hn => exact .ms b off sz n cap a (fun h0 => let ⟨blk, e1, e2, e3⟩ := h1 h0; ⟨blk, e1, h.bx _ _ e2 e3⟩) hc hx hn
  | vec b sz n cap A G hG hz hle he hc hx hn =>
    obtain ⟨G', e, h2⟩ := h.gx b G hG
    rcases h2 with ⟨rfl, hb⟩ | ⟨hlt, hs⟩
    · exact .vec b sz n cap A G' e hz hle (fun h => by rw [hb]; exact he h) hc hx hn
    · exact .vec b sz n cap A G' e (hs.trans hz) (by omega) (fun h => by omega) hc hx hn
  | vp b N off blk G hG h0 hle he =>
    obtain ⟨G', e, h2⟩ := h.gx b G hG
    rcases h2 with ⟨rfl, hb⟩ | ⟨hlt, hs⟩
    · exact .vp b N off blk G' e h0 hle (fun h => by rw [hb]; exact he h)
    · have : G.m * G.sz < G'.m * G'.sz := by rw [hs]; exact Nat.mul_lt_mul_of_pos_right hlt h0
      exact .vp b N off blk G' e (by omega) (by omega) (fun h => by omega)
  | rp cs blk off f hm hv => exact .rp cs blk off f (fun j c hj => h.mem _ _ _ (hm j c hj)) (fun j c hj => (hv j c hj).mono h.mem)
  | fn f fi ca fv cv hf hc _ _ ih1 ih2 => exact .fn f fi ca fv cv hf hc ih1 ih2
  | opt b p v _ h2 ih => exact .opt b p v ih h2
  | un => exact .un
  | junk v => exact .junk v

theorem Le.refl (g : Gh) : Le g g := ⟨fun _ _ _ h => h, fun _ _ h k => ⟨h, k⟩, fun _ G h => ⟨G, h, .inl ⟨rfl, rfl⟩⟩, fun _ T h => ⟨T, h, .inl rfl⟩⟩
theorem Le.trans {a b c : Gh} (h : Le a b) (k : Le b c) : Le a c :=
  ⟨fun _ _ _ e => k.mem _ _ _ (h.mem _ _ _ e), fun _ _ e e2 => let ⟨a1, a2⟩ := h.bx _ _ e e2; k.bx _ _ a1 a2, fun i G e => by
    obtain ⟨G', e', hc⟩ := h.gx i G e
    obtain ⟨G'', e'', hc'⟩ := k.gx i G' e'
    refine ⟨G'', e'', ?_⟩
    rcases hc with ⟨rfl, hb⟩ | ⟨h1, h2⟩
    · rcases hc' with ⟨rfl, hb'⟩ | ⟨h3, h4⟩
      · exact .inl ⟨rfl, hb'.trans hb⟩
      · exact .inr ⟨h3, h4⟩
    · rcases hc' with ⟨rfl, hb'⟩ | ⟨h3, h4⟩
      · exact .inr ⟨h1, h2⟩
      · exact .inr ⟨by omega, h4.trans h2⟩,
   fun t T e => by
    obtain ⟨T', e', hc⟩ := h.tg t T e
    obtain ⟨T'', e'', hc'⟩ := k.tg t T' e'
    refine ⟨T'', e'', ?_⟩
    rcases hc with rfl | ⟨h1, h2⟩
    · exact hc'
    · rcases hc' with rfl | ⟨h3, h4⟩
      · exact .inr ⟨h1, h2⟩
      · exact .inr ⟨by omega, h4.trans h2⟩⟩

/-- Own variables, and how far slices that may be appended to go. -/
structure Sx where
  bs : List (Option (List PV))
  ts : List Nat

def Owned (g : Gh) (k : Nat) : Prop := (∃ i : Nat, g.bx[i]? = some (some k)) ∨ ∃ (t : Nat) (T : Tg), g.tg[t]? = some T ∧ T.base = some (k, 0) ∧ T.m < T.cap

structure Inv (g : Gh) (S : Sx) (w : World) : Prop where
  hbx : g.bx.length = S.bs.length
  htg : g.tg.length = S.ts.length
  mem : ∀ b o x, g.mem b o = some x → w.cell? ⟨b, o, none⟩ = some x
  one : ∀ b o x, g.mem b o = some x → x.oneCell' = true
  box : ∀ (i : Nat) (cs : List PV), S.bs[i]? = some (some cs) → cs ≠ [] → ∃ blk cur ty, g.bx[i]? = some (some blk) ∧ w.heap[blk]? = some (.cells cur ty (0, 0)) ∧ cs.length ≤ cur.size ∧
    ∀ (j : Nat) (c : PV) (x : Value), cs[j]? = some c → cur[j]? = some x → V g c x ∧ x.oneCell' = true
  nob : ∀ i : Nat, S.bs[i]? = some none → g.bx[i]? = some none
  bmem : ∀ (i blk : Nat), g.bx[i]? = some (some blk) → ∀ o, g.mem blk o = none
  blt : ∀ (i blk : Nat), g.bx[i]? = some (some blk) → blk < w.heap.size
  inj : ∀ (i j blk : Nat), g.bx[i]? = some (some blk) → g.bx[j]? = some (some blk) → i = j
  gr : ∀ (i : Nat) (G : Gr), g.gx i = some G → ∃ cs, S.bs[i]? = some (some cs) ∧ cs.length = G.m * G.sz ∧ 0 < G.sz ∧ G.m ≤ G.cap ∧ G.cap ≤ maxLen ∧
    (0 < G.cap → ∃ blk cur ty, g.bx[i]? = some (some blk) ∧ w.heap[blk]? = some (.cells cur ty (0, 0)) ∧ cur.size = G.cap * G.sz)
  tag : ∀ (t m : Nat), S.ts[t]? = some m → ∃ T : Tg, g.tg[t]? = some T ∧ T.m = m ∧ T.m ≤ T.cap ∧ T.cap ≤ maxLen ∧
    (T.m < T.cap → ∃ blk cur ty, T.base = some (blk, 0) ∧ w.heap[blk]? = some (.cells cur ty (0, 0)) ∧ cur.size = T.cap * T.sz ∧ (∀ o, T.m * T.sz ≤ o → g.mem blk o = none))
  tbx : ∀ (t : Nat) (T : Tg) (blk : Nat), g.tg[t]? = some T → T.base = some (blk, 0) → T.m < T.cap → blk < w.heap.size ∧ ∀ i : Nat, g.bx[i]? ≠ some (some blk)
  tinj : ∀ (t u : Nat) (T U : Tg) (blk : Nat), g.tg[t]? = some T → g.tg[u]? = some U → T.base = some (blk, 0) → U.base = some (blk, 0) → T.m < T.cap → U.m < U.cap → t = u

structure Ext (g : Gh) (w : World) (g' : Gh) (w' : World) : Prop where
  le : Le g g'
  os : w'.os = w.os
  tape : w'.tape = w.tape
  output : w'.output = w.output
  size : w.heap.size ≤ w'.heap.size
  frame : ∀ k, k < w.heap.size → ¬ Owned g k → w'.heap[k]? = w.heap[k]?
  own : ∀ k, Owned g' k → Owned g k ∨ w.heap.size ≤ k
  memx : ∀ b o x, g'.mem b o = some x → g.mem b o = some x ∨ Owned g b ∨ w.heap.size ≤ b

theorem Ext.refl (g : Gh) (w : World) : Ext g w g w := ⟨.refl g, rfl, rfl, rfl, Nat.le_refl _, fun _ _ _ => rfl, fun _ h => .inl h, fun _ _ _ h => .inl h⟩
theorem Ext.trans {g1 g2 g3 : Gh} {w1 w2 w3 : World} (h : Ext g1 w1 g2 w2) (k : Ext g2 w2 g3 w3) : Ext g1 w1 g3 w3 where
  le := h.le.trans k.le
  os := k.os.trans h.os
  tape := k.tape.trans h.tape
  output := k.output.trans h.output
  size := Nat.le_trans h.size k.size
  frame := fun b hb ho => (k.frame b (Nat.lt_of_lt_of_le hb h.size) (fun o => (h.own b o).elim ho (fun e => by omega))).trans (h.frame b hb ho)
  own := fun b hb => (k.own b hb).elim (fun o => h.own b o) (fun e => .inr (Nat.le_trans h.size e))
  memx := fun b o x e => by
    rcases k.memx b o x e with e | e | e
    · exact h.memx b o x e
    · rcases h.own b e with e | e
      · exact .inr (.inl e)
      · exact .inr (.inr e)
    · exact .inr (.inr (Nat.le_trans h.size e))

theorem Inv.mem_lt {g : Gh} {S : Sx} {w : World} (h : Inv g S w) {b o : Nat} {x : Value} (e : g.mem b o = some x) : b < w.heap.size := block_lt_of_cell (h.mem b o x e)

theorem Inv.gr_lt {g : Gh} {S : Sx} {w : World} (h : Inv g S w) {i : Nat} {G : Gr} (e : g.gx i = some G) : i < S.bs.length := by
  obtain ⟨cs, h1, _⟩ := h.gr i G e
  exact (List.getElem?_eq_some_iff.1 h1).1
theorem Inv.gx_new {g : Gh} {S : Sx} {w : World} (h : Inv g S w) {i : Nat} (hi : S.bs.length ≤ i) : g.gx i = none := by
  cases e : g.gx i with
  | none => rfl
  | some G => exact absurd (h.gr_lt e) (by omega)
theorem Inv.gx_no {g : Gh} {S : Sx} {w : World} (h : Inv g S w) {i : Nat} (hi : S.bs[i]? = some none) : g.gx i = none := by
  cases e : g.gx i with
  | none => rfl
  | some G => obtain ⟨cs, h1, _⟩ := h.gr i G e; rw [hi] at h1; cases h1
/-- A draw changes nothing. -/
theorem Inv.drew {g : Gh} {S : Sx} {w : World} (h : Inv g S w) : Inv g S w.drew := ⟨h.hbx, h.htg, h.mem, h.one, h.box, h.nob, h.bmem, h.blt, h.inj, h.gr, h.tag, h.tbx, h.tinj⟩
theorem Ext.drew (g : Gh) (w : World) : Ext g w g w.drew := ⟨.refl g, rfl, rfl, rfl, Nat.le_refl _, fun _ _ _ => rfl, fun _ h => .inl h, fun _ _ _ h => .inl h⟩

/-- A new block that nobody knows of. -/
theorem heap_alloc_lt (w : World) (o : Obj) {k : Nat} {x : Obj} (h : w.heap[k]? = some x) : (w.alloc o).heap[k]? = some x := by
  rw [Below.heap_alloc w o k (Array.getElem?_eq_some_iff.1 h).1]; exact h
theorem cell_alloc_lt (w : World) (o : Obj) {a : Addr} {x : Value} (h : w.cell? a = some x) : (w.alloc o).cell? a = some x := by
  rw [World.cell?_of_block (w := w) (w' := w.alloc o) (Below.heap_alloc w o a.block (block_lt_of_cell h))]; exact h
theorem Inv.alloc {g : Gh} {S : Sx} {w : World} (h : Inv g S w) (o : Obj) : Inv g S (w.alloc o) where
  hbx := h.hbx
  htg := h.htg
  mem := fun b p x e => cell_alloc_lt w o (h.mem b p x e)
  one := h.one
  box := fun i cs e hne => let ⟨blk, cur, ty, h1, h2, h3⟩ := h.box i cs e hne; ⟨blk, cur, ty, h1, heap_alloc_lt w o h2, h3⟩
  nob := h.nob
  bmem := h.bmem
  blt := fun i k e => by have := h.blt i k e; simp; omega
  inj := h.inj
  gr := fun i G e => let ⟨cs, h1, h2, h3, h4, h5, h6⟩ := h.gr i G e; ⟨cs, h1, h2, h3, h4, h5, fun hc => let ⟨blk, cur, ty, k1, k2, k3⟩ := h6 hc; ⟨blk, cur, ty, k1, heap_alloc_lt w o k2, k3⟩⟩
  tag := fun t m e => let ⟨T, h1, h2, h3, h4, h5⟩ := h.tag t m e; ⟨T, h1, h2, h3, h4, fun hlt => let ⟨blk, cur, ty, k1, k2, k3⟩ := h5 hlt; ⟨blk, cur, ty, k1, heap_alloc_lt w o k2, k3⟩⟩
  tbx := fun t T blk e1 e2 e3 => by have := h.tbx t T blk e1 e2 e3; exact ⟨by simp; omega, this.2⟩
  tinj := h.tinj
theorem Ext.alloc (g : Gh) (w : World) (o : Obj) : Ext g w g (w.alloc o) :=
  ⟨.refl g, rfl, rfl, rfl, by simp, fun k hk _ => Below.heap_alloc w o k hk, fun _ h => .inl h, fun _ _ _ h => .inl h⟩

/-- New memory that nobody writes: a block all of whose cells stay. -/
def Gh.lay (g : Gh) (b : Nat) (f : Nat → Option Value) : Gh := { g with mem := fun k o => if k = b then f o else g.mem k o }
theorem Gh.le_lay (g : Gh) (b : Nat) (f : Nat → Option Value) (h : ∀ o, g.mem b o = none) : Le g (g.lay b f) := by
  refine ⟨fun k o x e => ?_, fun _ _ e e2 => ⟨e, e2⟩, fun _ G e => ⟨G, e, .inl ⟨rfl, rfl⟩⟩, fun _ T e => ⟨T, e, .inl rfl⟩⟩
  by_cases hk : k = b
  · subst hk; rw [h] at e; cases e
  · simp [Gh.lay, hk, e]
end Go.Pv
