/- A logic of pure values: data that lie in memory which nobody writes again; own variables; slices that may be appended to. Nothing of a program stands here. -/
import Derived.WalkKit
import Derived.Deep.LoopGhost
namespace Go.Pv
open Go.RowKit

/-- Memory that nobody writes again: block, place in it. -/
abbrev Mem := Nat → Nat → Option Value
def adr (p : Nat × Nat) : Addr := ⟨p.1, p.2, none⟩

/-- Data. -/
inductive D where
  | v (x : Value)
  | agg (cs : List D)
  | sl (sz : Nat) (full : Bool) (es : List (List D))
instance : Inhabited D := ⟨.v undef⟩

/-- A value is data, in memory that stays. -/
inductive VD (M : Mem) : D → Value → Prop
  | v (x : Value) (h : x.oneCell' = true) : VD M (.v x) x
  | agg (cs : List D) (vs : Array Value) (hl : cs.length = vs.size) (h1 : ∀ v ∈ vs.toList, v.oneCell' = true) (h : ∀ (i : Nat) (c : D) (x : Value), cs[i]? = some c → vs[i]? = some x → VD M c x) : VD M (.agg cs) (.agg vs)
  | sl (sz : Nat) (full : Bool) (es : List (List D)) (a : Option (Nat × Nat)) (cap : Nat) (vs : List Value)
      (hz : ∀ e, e ∈ es → e.length = sz) (hc : es.length ≤ cap) (hf : full = true → cap = es.length) (hn : a = none → cap = 0) (hx : cap ≤ maxLen)
      (hl : es.flatten.length = vs.length)
      (hm : ∀ (p : Nat × Nat) (j : Nat) (x : Value), a = some p → vs[j]? = some x → M p.1 (p.2 + j) = some x)
      (hv : ∀ (j : Nat) (c : D) (x : Value), es.flatten[j]? = some c → vs[j]? = some x → VD M c x) :
      VD M (.sl sz full es) (.slice (a.map adr) es.length cap)
  | sl0 (sz : Nat) (A : Option Addr) : VD M (.sl sz false []) (.slice A 0 0)

structure Tg where
  base : Option (Nat × Nat)
  sz : Nat
  m : Nat
  cap : Nat
/-- How far an own row that grows goes. -/
structure Gr where
  m : Nat
  cap : Nat
  sz : Nat
/-- What a member of a family is: cells, a row that grows, a map. -/
inductive Fk where
  | pl
  | gr (G : Gr)
  | mp
/-- A member of a family: where it lies. -/
structure Fx where
  blk : Option Nat
  kind : Fk
structure Gh where
  mem : Mem
  bx : List (Option Nat)
  tg : List Tg
  gx : Nat → Option Gr := fun _ => none
  fx : Nat → Nat → Option Fx := fun _ _ => none

/-- What a slot holds. -/
inductive PV where
  | d (x : D)
  | agg (cs : List PV)
  | tup (cs : List PV)
  | app (t sz : Nat) (es : List (List D))
  | ptr (b off : Nat)
  | ms (b off sz n : Nat)
  | vec (b sz n : Nat)
  | vp (b N off : Nat)
  | rp (cs : List D)
  | fp (i j off : Nat)
  | fs (i j off sz n : Nat)
  | fv (i j sz n : Nat)
  | fq (i j N off : Nat)
  | fm (i j : Nat)
  | fh
  | fn (f : FuncId) (fi ca : List PV)
  | opt (b : Bool) (p : PV)
  | un
  | junk
instance : Inhabited PV := ⟨.junk⟩

inductive V (g : Gh) : PV → Value → Prop
  | d (x : D) (v : Value) (h : VD g.mem x v) : V g (.d x) v
  | agg (cs : List PV) (vs : Array Value) (hl : cs.length = vs.size) (h1 : ∀ v ∈ vs.toList, v.oneCell' = true) (h : ∀ (i : Nat) (c : PV) (x : Value), cs[i]? = some c → vs[i]? = some x → V g c x) : V g (.agg cs) (.agg vs)
  | tup (cs : List PV) (vs : Array Value) (hl : cs.length = vs.size) (h : ∀ (i : Nat) (c : PV) (x : Value), cs[i]? = some c → vs[i]? = some x → V g c x) : V g (.tup cs) (.tuple vs)
  | app (t sz : Nat) (es : List (List D)) (a : Option (Nat × Nat)) (cap : Nat) (T : Tg) (h : VD g.mem (.sl sz false es) (.slice (a.map adr) es.length cap)) (hT : g.tg[t]? = some T) (hz : T.sz = sz)
      (hle : es.length ≤ T.m) (he : es.length = T.m → a = T.base ∧ cap = T.cap) : V g (.app t sz es) (.slice (a.map adr) es.length cap)
  | ptr (b off blk : Nat) (h : g.bx[b]? = some (some blk)) (hg : g.gx b = none) : V g (.ptr b off) (.pointer (some ⟨blk, off, none⟩))
  | ms (b off sz n cap : Nat) (a : Option (Nat × Nat)) (h : n ≠ 0 → ∃ blk : Nat, a = some (blk, off) ∧ g.bx[b]? = some (some blk) ∧ g.gx b = none) (hc : n ≤ cap) (hx : cap ≤ maxLen) (hn : a = none → cap = 0) : V g (.ms b off sz n) (.slice (a.map adr) n cap)
  | vec (b sz n cap : Nat) (A : Option Addr) (G : Gr) (hG : g.gx b = some G) (hz : G.sz = sz) (hle : n ≤ G.m) (he : n = G.m → cap = G.cap ∧ (0 < cap → ∃ blk : Nat, g.bx[b]? = some (some blk) ∧ A = some ⟨blk, 0, none⟩)) (hc : n ≤ cap) (hx : cap ≤ maxLen) (hn : A = none → cap = 0) : V g (.vec b sz n) (.slice A n cap)
  | vp (b N off blk : Nat) (G : Gr) (hG : g.gx b = some G) (h0 : 0 < G.sz) (hle : N ≤ G.m * G.sz) (he : N = G.m * G.sz → g.bx[b]? = some (some blk)) : V g (.vp b N off) (.pointer (some ⟨blk, off, none⟩))
  | fp (i j off blk : Nat) (h : g.fx i j = some ⟨some blk, .pl⟩) : V g (.fp i j off) (.pointer (some ⟨blk, off, none⟩))
  | fs (i j off sz n cap : Nat) (a : Option (Nat × Nat)) (h : n ≠ 0 → ∃ blk : Nat, a = some (blk, off) ∧ g.fx i j = some ⟨some blk, .pl⟩) (hc : n ≤ cap) (hx : cap ≤ maxLen) (hn : a = none → cap = 0) : V g (.fs i j off sz n) (.slice (a.map adr) n cap)
  | fv (i j sz n cap : Nat) (A : Option Addr) (b : Option Nat) (G : Gr) (hF : g.fx i j = some ⟨b, .gr G⟩) (hz : G.sz = sz) (hle : n ≤ G.m) (he : n = G.m → cap = G.cap ∧ (0 < cap → ∃ blk : Nat, b = some blk ∧ A = some ⟨blk, 0, none⟩)) (hc : n ≤ cap) (hx : cap ≤ maxLen) (hn : A = none → cap = 0) : V g (.fv i j sz n) (.slice A n cap)
  | fq (i j N off blk : Nat) (b : Option Nat) (G : Gr) (hF : g.fx i j = some ⟨b, .gr G⟩) (h0 : 0 < G.sz) (hle : N ≤ G.m * G.sz) (he : N = G.m * G.sz → b = some blk) : V g (.fq i j N off) (.pointer (some ⟨blk, off, none⟩))
  | fm (i j blk : Nat) (h : g.fx i j = some ⟨some blk, .mp⟩) : V g (.fm i j) (.map (some blk))
  | rp (cs : List D) (blk off : Nat) (f : Nat → Value) (hm : ∀ (j : Nat) (c : D), cs[j]? = some c → g.mem blk (off + j) = some (f j)) (hv : ∀ (j : Nat) (c : D), cs[j]? = some c → VD g.mem c (f j)) : V g (.rp cs) (.pointer (some ⟨blk, off, none⟩))
  | fn (f : FuncId) (fi ca : List PV) (fv cv : Array Value) (hf : fi.length = fv.size) (hc : ca.length = cv.size) (h1 : ∀ (i : Nat) (c : PV) (x : Value), fi[i]? = some c → fv[i]? = some x → V g c x) (h2 : ∀ (i : Nat) (c : PV) (x : Value), ca[i]? = some c → cv[i]? = some x → V g c x) :
      V g (.fn f fi ca) (.func (.func f) fv cv)
  | opt (b : Bool) (p : PV) (v : Value) (h1 : b = true → V g p v) (h2 : b = false → v = undef) : V g (.opt b p) v
  | un : V g .un undef
  | junk (v : Value) : V g .junk v

structure Le (g g' : Gh) : Prop where
  mem : ∀ b o x, g.mem b o = some x → g'.mem b o = some x
  bx : ∀ (i k : Nat), g.bx[i]? = some (some k) → g.gx i = none → g'.bx[i]? = some (some k) ∧ g'.gx i = none
  gx : ∀ (i : Nat) (G : Gr), g.gx i = some G → ∃ G' : Gr, g'.gx i = some G' ∧ ((G' = G ∧ g'.bx[i]? = g.bx[i]?) ∨ (G.m < G'.m ∧ G'.sz = G.sz))
  tg : ∀ (t : Nat) (T : Tg), g.tg[t]? = some T → ∃ T' : Tg, g'.tg[t]? = some T' ∧ (T' = T ∨ (T.m < T'.m ∧ T'.sz = T.sz))
  fx : ∀ (i j : Nat) (F : Fx), g.fx i j = some F → ∃ F' : Fx, g'.fx i j = some F' ∧ (F' = F ∨ ∃ G G' : Gr, F.kind = .gr G ∧ F'.kind = .gr G' ∧ G.m < G'.m ∧ G'.sz = G.sz)

theorem Le.pl {g g' : Gh} (h : Le g g') {i j : Nat} {b : Option Nat} {k : Fk} (hk : ∀ G, k ≠ .gr G) (e : g.fx i j = some ⟨b, k⟩) : g'.fx i j = some ⟨b, k⟩ := by
  obtain ⟨F', e', hc⟩ := h.fx i j _ e
  rcases hc with rfl | ⟨G, G', h1, _⟩
  · exact e'
  · exact absurd h1 (hk G)
theorem VD.mono {M M' : Mem} (h : ∀ b o x, M b o = some x → M' b o = some x) {d : D} {v : Value} (hv : VD M d v) : VD M' d v := by
  induction hv with
  | v x h1 => exact .v x h1
  | agg cs vs hl h1 _ ih => exact .agg cs vs hl h1 ih
  | sl sz full es a cap vs hz hc hf hn hx hl hm _ ih => exact .sl sz full es a cap vs hz hc hf hn hx hl (fun p j x h1 h2 => h _ _ _ (hm p j x h1 h2)) ih
  | sl0 sz A => exact .sl0 sz A

theorem V.mono {g g' : Gh} (h : Le g g') {p : PV} {v : Value} (hv : V g p v) : V g' p v := by
  induction hv with
  | d x v h1 => exact .d x v (h1.mono h.mem)
  | agg cs vs hl h1 _ ih => exact .agg cs vs hl h1 ih
  | tup cs vs hl _ ih => exact .tup cs vs hl ih
  | app t sz es a cap T h1 hT hz hle he =>
    obtain ⟨T', hT', hc⟩ := h.tg t T hT
    rcases hc with rfl | ⟨hlt, hs⟩
    · exact .app t sz es a cap T' (h1.mono h.mem) hT' hz hle he
    · exact .app t sz es a cap T' (h1.mono h.mem) hT' (hs.trans hz) (by omega) (fun e => by omega)
  | ptr b off blk h1 hg => exact .ptr b off blk (h.bx _ _ h1 hg).1 (h.bx _ _ h1 hg).2
  | ms b off sz n cap a h1 hc hx hn => exact .ms b off sz n cap a (fun h0 => let ⟨blk, e1, e2, e3⟩ := h1 h0; ⟨blk, e1, h.bx _ _ e2 e3⟩) hc hx hn
  | vec b sz n cap A G hG hz hle he hc hx hn =>
    obtain ⟨G', e, h2⟩ := h.gx b G hG
    rcases h2 with ⟨rfl, hb⟩ | ⟨hlt, hs⟩
    · exact .vec b sz n cap A G' e hz hle (fun h => by rw [hb]; exact he h) hc hx hn
    · exact .vec b sz n cap A G' e (hs.trans hz) (by omega) (fun h => by omega) hc hx hn
  | vp b N off blk G hG h0 hle he =>
    obtain ⟨G', e, h2⟩ := h.gx b G hG
    rcases h2 with ⟨rfl, hb⟩ | ⟨hlt, hs⟩
    · exact .vp b N off blk G' e h0 hle (fun h => by rw [hb]; exact he h)
    · have : G.m * G.sz < G'.m * G'.sz := by rw [hs]; exact Nat.mul_lt_mul_of_pos_right hlt h0
      exact .vp b N off blk G' e (by omega) (by omega) (fun h => by omega)
  | fp i j off blk h1 => exact .fp i j off blk (h.pl (fun _ e => by cases e) h1)
  | fs i j off sz n cap a h1 hc hx hn => exact .fs i j off sz n cap a (fun h0 => let ⟨blk, e1, e2⟩ := h1 h0; ⟨blk, e1, h.pl (fun _ e => by cases e) e2⟩) hc hx hn
  | fv i j sz n cap A b G hF hz hle he hc hx hn =>
    obtain ⟨F', e, h2⟩ := h.fx i j _ hF
    rcases h2 with rfl | ⟨G1, G', e1, e2, hlt, hs⟩
    · exact .fv i j sz n cap A b G e hz hle he hc hx hn
    · obtain rfl : G = G1 := by simpa using e1
      obtain ⟨b', k'⟩ := F'
      simp only at e2
      subst e2
      exact .fv i j sz n cap A b' G' e (hs.trans hz) (by omega) (fun h => by omega) hc hx hn
  | fq i j N off blk b G hF h0 hle he =>
    obtain ⟨F', e, h2⟩ := h.fx i j _ hF
    rcases h2 with rfl | ⟨G1, G', e1, e2, hlt, hs⟩
    · exact .fq i j N off blk b G e h0 hle he
    · obtain rfl : G = G1 := by simpa using e1
      obtain ⟨b', k'⟩ := F'
      simp only at e2
      subst e2
      have : G.m * G.sz < G'.m * G'.sz := by rw [hs]; exact Nat.mul_lt_mul_of_pos_right hlt h0
      exact .fq i j N off blk b' G' e (by omega) (by omega) (fun h => by omega)
  | fm i j blk h1 => exact .fm i j blk (h.pl (fun _ e => by cases e) h1)
  | rp cs blk off f hm hv => exact .rp cs blk off f (fun j c hj => h.mem _ _ _ (hm j c hj)) (fun j c hj => (hv j c hj).mono h.mem)
  | fn f fi ca fv cv hf hc _ _ ih1 ih2 => exact .fn f fi ca fv cv hf hc ih1 ih2
  | opt b p v _ h2 ih => exact .opt b p v ih h2
  | un => exact .un
  | junk v => exact .junk v

theorem Le.refl (g : Gh) : Le g g := ⟨fun _ _ _ h => h, fun _ _ h k => ⟨h, k⟩, fun _ G h => ⟨G, h, .inl ⟨rfl, rfl⟩⟩, fun _ T h => ⟨T, h, .inl rfl⟩, fun _ _ F h => ⟨F, h, .inl rfl⟩⟩
theorem Le.trans {a b c : Gh} (h : Le a b) (k : Le b c) : Le a c :=
  ⟨fun _ _ _ e => k.mem _ _ _ (h.mem _ _ _ e), fun _ _ e e2 => let ⟨a1, a2⟩ := h.bx _ _ e e2; k.bx _ _ a1 a2, fun i G e => by
    obtain ⟨G', e', hc⟩ := h.gx i G e
    obtain ⟨G'', e'', hc'⟩ := k.gx i G' e'
    refine ⟨G'', e'', ?_⟩
    rcases hc with ⟨rfl, hb⟩ | ⟨h1, h2⟩
    · rcases hc' with ⟨rfl, hb'⟩ | ⟨h3, h4⟩
      · exact .inl ⟨rfl, hb'.trans hb⟩
      · exact .inr ⟨h3, h4⟩
    · rcases hc' with ⟨rfl, hb'⟩ | ⟨h3, h4⟩
      · exact .inr ⟨h1, h2⟩
      · exact .inr ⟨by omega, h4.trans h2⟩,
   fun t T e => by
    obtain ⟨T', e', hc⟩ := h.tg t T e
    obtain ⟨T'', e'', hc'⟩ := k.tg t T' e'
    refine ⟨T'', e'', ?_⟩
    rcases hc with rfl | ⟨h1, h2⟩
    · exact hc'
    · rcases hc' with rfl | ⟨h3, h4⟩
      · exact .inr ⟨h1, h2⟩
      · exact .inr ⟨by omega, h4.trans h2⟩,
   fun i j F e => by
    obtain ⟨F', e', hc⟩ := h.fx i j F e
    obtain ⟨F'', e'', hc'⟩ := k.fx i j F' e'
    refine ⟨F'', e'', ?_⟩
    rcases hc with rfl | ⟨G1, G2, h1, h2, h3, h4⟩
    · exact hc'
    · rcases hc' with rfl | ⟨G3, G4, h5, h6, h7, h8⟩
      · exact .inr ⟨G1, G2, h1, h2, h3, h4⟩
      · rw [h2] at h5
        obtain rfl : G2 = G3 := by simpa using h5
        exact .inr ⟨G1, G4, h1, h6, by omega, h8.trans h4⟩⟩

/-- Own variables, and how far slices that may be appended to go. -/
structure Sx where
  bs : List (Option (List PV))
  ts : List Nat

def Owned (g : Gh) (k : Nat) : Prop := (∃ i : Nat, g.bx[i]? = some (some k)) ∨ (∃ (t : Nat) (T : Tg), g.tg[t]? = some T ∧ T.base = some (k, 0) ∧ T.m < T.cap) ∨ ∃ (i j : Nat) (F : Fx), g.fx i j = some F ∧ F.blk = some k

/-- A box that is a family: its members follow. -/
def isFam : List PV → Bool
  | .fh :: _ => true
  | _ => false
/-- Entries of a map, one by one. -/
def Ents (g : Gh) (es : Array MapEntry) (cs : List PV) : Prop := cs.length = 2 * es.size ∧ ∀ (i : Nat) (e : MapEntry), es[i]? = some e → ∃ k v, cs[2 * i]? = some k ∧ cs[2 * i + 1]? = some v ∧ V g k e.key ∧ V g v e.val
def Member (g : Gh) (w : World) (F : Fx) (cs : List PV) : Prop :=
  match F.kind with
  | .pl => cs ≠ [] → ∃ b cur ty, F.blk = some b ∧ w.heap[b]? = some (.cells cur ty (0, 0)) ∧ cs.length ≤ cur.size ∧ ∀ (j : Nat) (c : PV) (x : Value), cs[j]? = some c → cur[j]? = some x → V g c x ∧ x.oneCell' = true
  | .gr G => cs.length = G.m * G.sz ∧ 0 < G.sz ∧ G.m ≤ G.cap ∧ G.cap ≤ maxLen ∧ (0 < G.cap → ∃ b cur ty, F.blk = some b ∧ w.heap[b]? = some (.cells cur ty (0, 0)) ∧ cur.size = G.cap * G.sz ∧ ∀ (j : Nat) (c : PV) (x : Value), cs[j]? = some c → cur[j]? = some x → V g c x ∧ x.oneCell' = true)
  | .mp => ∃ b es clock, F.blk = some b ∧ w.heap[b]? = some (.map es clock) ∧ Ents g es cs
/-- What families are. -/
structure Fam (g : Gh) (S : Sx) (w : World) : Prop where
  bx : ∀ (i : Nat) (cs : List PV), S.bs[i]? = some (some cs) → isFam cs = true → g.bx[i]? = some none ∧ g.gx i = none
  mem : ∀ (i j : Nat) (cs : List PV) (m : PV), S.bs[i]? = some (some cs) → isFam cs = true → cs[j + 1]? = some m → ∃ F ds, g.fx i j = some F ∧ m = .agg ds ∧ Member g w F ds
  dom : ∀ (i j : Nat) (F : Fx), g.fx i j = some F → ∃ cs, S.bs[i]? = some (some cs) ∧ isFam cs = true ∧ j + 1 < cs.length
  out : ∀ (i j : Nat) (F : Fx) (b : Nat), g.fx i j = some F → F.blk = some b → b < w.heap.size ∧ (∀ o, g.mem b o = none) ∧ (∀ i' : Nat, g.bx[i']? ≠ some (some b)) ∧ ∀ (t : Nat) (T : Tg), g.tg[t]? = some T → T.base = some (b, 0) → ¬ T.m < T.cap
  inj : ∀ (i j i' j' : Nat) (F F' : Fx) (b : Nat), g.fx i j = some F → g.fx i' j' = some F' → F.blk = some b → F'.blk = some b → i = i' ∧ j = j'

structure Inv (g : Gh) (S : Sx) (w : World) : Prop where
  hbx : g.bx.length = S.bs.length
  htg : g.tg.length = S.ts.length
  mem : ∀ b o x, g.mem b o = some x → w.cell? ⟨b, o, none⟩ = some x
  one : ∀ b o x, g.mem b o = some x → x.oneCell' = true
  box : ∀ (i : Nat) (cs : List PV), S.bs[i]? = some (some cs) → cs ≠ [] → isFam cs = false → ∃ blk cur ty, g.bx[i]? = some (some blk) ∧ w.heap[blk]? = some (.cells cur ty (0, 0)) ∧ cs.length ≤ cur.size ∧
    ∀ (j : Nat) (c : PV) (x : Value), cs[j]? = some c → cur[j]? = some x → V g c x ∧ x.oneCell' = true
  nob : ∀ i : Nat, S.bs[i]? = some none → g.bx[i]? = some none
  bmem : ∀ (i blk : Nat), g.bx[i]? = some (some blk) → ∀ o, g.mem blk o = none
  blt : ∀ (i blk : Nat), g.bx[i]? = some (some blk) → blk < w.heap.size
  inj : ∀ (i j blk : Nat), g.bx[i]? = some (some blk) → g.bx[j]? = some (some blk) → i = j
  gr : ∀ (i : Nat) (G : Gr), g.gx i = some G → ∃ cs, S.bs[i]? = some (some cs) ∧ cs.length = G.m * G.sz ∧ 0 < G.sz ∧ G.m ≤ G.cap ∧ G.cap ≤ maxLen ∧
    (0 < G.cap → ∃ blk cur ty, g.bx[i]? = some (some blk) ∧ w.heap[blk]? = some (.cells cur ty (0, 0)) ∧ cur.size = G.cap * G.sz)
  tag : ∀ (t m : Nat), S.ts[t]? = some m → ∃ T : Tg, g.tg[t]? = some T ∧ T.m = m ∧ T.m ≤ T.cap ∧ T.cap ≤ maxLen ∧
    (T.m < T.cap → ∃ blk cur ty, T.base = some (blk, 0) ∧ w.heap[blk]? = some (.cells cur ty (0, 0)) ∧ cur.size = T.cap * T.sz ∧ (∀ o, T.m * T.sz ≤ o → g.mem blk o = none))
  tbx : ∀ (t : Nat) (T : Tg) (blk : Nat), g.tg[t]? = some T → T.base = some (blk, 0) → T.m < T.cap → blk < w.heap.size ∧ ∀ i : Nat, g.bx[i]? ≠ some (some blk)
  tinj : ∀ (t u : Nat) (T U : Tg) (blk : Nat), g.tg[t]? = some T → g.tg[u]? = some U → T.base = some (blk, 0) → U.base = some (blk, 0) → T.m < T.cap → U.m < U.cap → t = u
  fam : Fam g S w

theorem Member.map {g g' : Gh} {w w' : World} {F : Fx} {cs : List PV} (h : Member g w F cs) (hv : ∀ (i : Nat) (c : PV) (x : Value), cs[i]? = some c → V g c x → V g' c x) (hh : ∀ b, F.blk = some b → w'.heap[b]? = w.heap[b]?) : Member g' w' F cs := by
  unfold Member at *
  split at h
  · intro hne
    obtain ⟨b, cur, ty, k1, k2, k3, k4⟩ := h hne
    exact ⟨b, cur, ty, k1, by rw [hh b k1]; exact k2, k3, fun j c x e1 e2 => ⟨hv j c x e1 (k4 j c x e1 e2).1, (k4 j c x e1 e2).2⟩⟩
  · obtain ⟨k1, k2, k3, k4, k5⟩ := h
    refine ⟨k1, k2, k3, k4, fun hc => ?_⟩
    obtain ⟨b, cur, ty, j1, j2, j3, j4⟩ := k5 hc
    exact ⟨b, cur, ty, j1, by rw [hh b j1]; exact j2, j3, fun j c x e1 e2 => ⟨hv j c x e1 (j4 j c x e1 e2).1, (j4 j c x e1 e2).2⟩⟩
  · obtain ⟨b, es, clock, k1, k2, k3, k4⟩ := h
    refine ⟨b, es, clock, k1, by rw [hh b k1]; exact k2, k3, fun i e he => ?_⟩
    obtain ⟨k, v, j1, j2, j3, j4⟩ := k4 i e he
    exact ⟨k, v, j1, j2, hv _ _ _ j1 j3, hv _ _ _ j2 j4⟩
theorem Member.mono {g g' : Gh} {w w' : World} {F : Fx} {cs : List PV} (h : Member g w F cs) (hle : Le g g') (hh : ∀ b, F.blk = some b → w'.heap[b]? = w.heap[b]?) : Member g' w' F cs :=
  h.map (fun _ _ _ _ hv => hv.mono hle) hh
theorem Fam.keepV {g g' : Gh} {S S' : Sx} {w w' : World} (h : Fam g S w)
    (hv : ∀ (i j : Nat) (cs ds : List PV), S.bs[i]? = some (some cs) → isFam cs = true → cs[j + 1]? = some (.agg ds) → ∀ (k : Nat) (c : PV) (x : Value), ds[k]? = some c → V g c x → V g' c x) (hfx : g'.fx = g.fx)
    (hS : ∀ (i : Nat) (cs : List PV), isFam cs = true → (S'.bs[i]? = some (some cs) ↔ S.bs[i]? = some (some cs)))
    (hbx : ∀ (i : Nat) (cs : List PV), S.bs[i]? = some (some cs) → isFam cs = true → g'.bx[i]? = some none ∧ g'.gx i = none) (hsz : w.heap.size ≤ w'.heap.size)
    (hh : ∀ (i j : Nat) (F : Fx) (b : Nat), g.fx i j = some F → F.blk = some b → w'.heap[b]? = w.heap[b]? ∧ (∀ o, g'.mem b o = none) ∧ (∀ i' : Nat, g'.bx[i']? ≠ some (some b)) ∧ ∀ (t : Nat) (T : Tg), g'.tg[t]? = some T → T.base = some (b, 0) → ¬ T.m < T.cap) : Fam g' S' w' where
  bx := fun i cs e hf => hbx i cs ((hS i cs hf).1 e) hf
  mem := fun i j cs m e hf hm => by
    obtain ⟨F, ds, k1, k2, k3⟩ := h.mem i j cs m ((hS i cs hf).1 e) hf hm
    subst k2
    exact ⟨F, ds, by rw [hfx]; exact k1, rfl, k3.map (fun k c x => hv i j cs ds ((hS i cs hf).1 e) hf hm k c x) (fun b hb => (hh i j F b k1 hb).1)⟩
  dom := fun i j F e => by
    rw [hfx] at e
    obtain ⟨cs, k1, k2, k3⟩ := h.dom i j F e
    exact ⟨cs, (hS i cs k2).2 k1, k2, k3⟩
  out := fun i j F b e hb => by
    rw [hfx] at e
    exact ⟨Nat.lt_of_lt_of_le (h.out i j F b e hb).1 hsz, (hh i j F b e hb).2⟩
  inj := fun i j i' j' F F' b e1 e2 => by rw [hfx] at e1 e2; exact h.inj i j i' j' F F' b e1 e2
theorem Fam.keep {g g' : Gh} {S S' : Sx} {w w' : World} (h : Fam g S w) (hle : Le g g') (hfx : g'.fx = g.fx)
    (hS : ∀ (i : Nat) (cs : List PV), isFam cs = true → (S'.bs[i]? = some (some cs) ↔ S.bs[i]? = some (some cs)))
    (hbx : ∀ (i : Nat) (cs : List PV), S.bs[i]? = some (some cs) → isFam cs = true → g'.bx[i]? = some none ∧ g'.gx i = none) (hsz : w.heap.size ≤ w'.heap.size)
    (hh : ∀ (i j : Nat) (F : Fx) (b : Nat), g.fx i j = some F → F.blk = some b → w'.heap[b]? = w.heap[b]? ∧ (∀ o, g'.mem b o = none) ∧ (∀ i' : Nat, g'.bx[i']? ≠ some (some b)) ∧ ∀ (t : Nat) (T : Tg), g'.tg[t]? = some T → T.base = some (b, 0) → ¬ T.m < T.cap) : Fam g' S' w' :=
  h.keepV (fun _ _ _ _ _ _ _ _ _ _ _ hv => hv.mono hle) hfx hS hbx hsz hh
theorem Inv.notFam {g : Gh} {S : Sx} {w : World} (h : Inv g S w) {b blk : Nat} {cs : List PV} (hb : S.bs[b]? = some (some cs)) (hk : g.bx[b]? = some (some blk)) : isFam cs = false := by
  cases hf : isFam cs with
  | false => rfl
  | true => have := (h.fam.bx b cs hb hf).1; rw [hk] at this; cases this
theorem Inv.notFam_gx {g : Gh} {S : Sx} {w : World} (h : Inv g S w) {b : Nat} {G : Gr} {cs : List PV} (hb : S.bs[b]? = some (some cs)) (hk : g.gx b = some G) : isFam cs = false := by
  cases hf : isFam cs with
  | false => rfl
  | true => have := (h.fam.bx b cs hb hf).2; rw [hk] at this; cases this
theorem Inv.notFam_get {g : Gh} {S : Sx} {w : World} (h : Inv g S w) {b off : Nat} {cs : List PV} {p : PV} (hb : S.bs[b]? = some (some cs)) (hc : cs[off]? = some p) (h1 : p ≠ .fh) (h2 : ∀ ds, p ≠ .agg ds) : isFam cs = false := by
  cases hf : isFam cs with
  | false => rfl
  | true =>
    cases off with
    | zero =>
      cases cs with
      | nil => cases hc
      | cons c r =>
        obtain rfl : c = p := by simpa using hc
        cases c <;> first | exact absurd rfl h1 | exact absurd hf (by simp [isFam])
    | succ j =>
      obtain ⟨F, ds, _, e, _⟩ := h.fam.mem b j cs p hb hf hc
      exact absurd e (h2 ds)
theorem notFam_set {cs : List PV} {off : Nat} {p : PV} (h : isFam cs = false) (hp : p ≠ .fh) : isFam (cs.set off p) = false := by
  cases cs with
  | nil => rfl
  | cons c r =>
    cases off with
    | zero => cases p <;> first | rfl | exact absurd rfl hp
    | succ j => rw [List.set_cons_succ]; cases c <;> first | rfl | exact h
theorem notFam_of {g : Gh} {cs : List PV} {cur : List Value} (hl : cs.length ≤ cur.length) (hv : ∀ (j : Nat) (c : PV) (x : Value), cs[j]? = some c → cur[j]? = some x → V g c x ∧ x.oneCell' = true) : isFam cs = false := by
  cases cs with
  | nil => rfl
  | cons c r =>
    cases cur with
    | nil => simp at hl
    | cons x cur =>
      have := (hv 0 c x rfl rfl).1
      cases c <;> first | rfl | cases this
theorem notFam_map (ds : List D) : isFam (ds.map .d) = false := by cases ds <;> rfl
theorem notFam_get {cs : List PV} {p : PV} (h : cs[0]? = some p) (hp : p ≠ .fh) : isFam cs = false := by
  cases cs with
  | nil => rfl
  | cons c r =>
    obtain rfl : c = p := by simpa using h
    cases c <;> first | rfl | exact absurd rfl hp
theorem fam_app {l : List (Option (List PV))} (k : Nat) {i : Nat} {cs : List PV} : (l ++ List.replicate k none)[i]? = some (some cs) ↔ l[i]? = some (some cs) := by
  by_cases hi : i < l.length
  · rw [List.getElem?_append_left hi]
  · rw [List.getElem?_append_right (by omega), List.getElem?_replicate, List.getElem?_eq_none (by omega)]
    constructor
    · intro e; split at e <;> cases e
    · intro e; cases e
theorem fam_set {l : List (Option (List PV))} {p : Nat} {x : Option (List PV)} (h1 : ∀ cs, l[p]? = some (some cs) → isFam cs = false) (h2 : ∀ cs, x = some cs → isFam cs = false) {i : Nat} {cs : List PV} (hf : isFam cs = true) : (l.set p x)[i]? = some (some cs) ↔ l[i]? = some (some cs) := by
  rw [List.getElem?_set]
  by_cases hi : p = i
  · subst hi
    rw [if_pos rfl]
    constructor
    · intro e
      split at e
      · have := h2 cs (Option.some.inj e); rw [this] at hf; cases hf
      · cases e
    · intro e; have := h1 cs e; rw [this] at hf; cases hf
  · rw [if_neg hi]
theorem fam_push {l : List (Option (List PV))} {c : List PV} (h2 : isFam c = false) {i : Nat} {cs : List PV} (hf : isFam cs = true) : (l ++ [some c])[i]? = some (some cs) ↔ l[i]? = some (some cs) := by
  by_cases hi : i < l.length
  · rw [List.getElem?_append_left hi]
  · rw [List.getElem?_append_right (by omega), List.getElem?_eq_none (l := l) (by omega)]
    constructor
    · intro e
      have : i - l.length < 1 := by have := (List.getElem?_eq_some_iff.1 e).1; simpa using this
      rw [show i - l.length = 0 by omega] at e
      simp at e
      rw [e] at h2; rw [h2] at hf; cases hf
    · intro e; cases e
/-- A block of a family is none of a box, none that stays. -/
theorem Inv.fam_ne {g : Gh} {S : Sx} {w : World} (h : Inv g S w) {i j b i' blk : Nat} {F : Fx} (e : g.fx i j = some F) (hb : F.blk = some b) (k : g.bx[i']? = some (some blk)) : b ≠ blk := by
  rintro rfl; exact (h.fam.out i j F b e hb).2.2.1 i' k

structure Ext (g : Gh) (w : World) (g' : Gh) (w' : World) : Prop where
  le : Le g g'
  os : w'.os = w.os
  tape : w'.tape = w.tape
  output : w'.output = w.output
  size : w.heap.size ≤ w'.heap.size
  frame : ∀ k, k < w.heap.size → ¬ Owned g k → w'.heap[k]? = w.heap[k]?
  own : ∀ k, Owned g' k → Owned g k ∨ w.heap.size ≤ k
  memx : ∀ b o x, g'.mem b o = some x → g.mem b o = some x ∨ Owned g b ∨ w.heap.size ≤ b

theorem Ext.refl (g : Gh) (w : World) : Ext g w g w := ⟨.refl g, rfl, rfl, rfl, Nat.le_refl _, fun _ _ _ => rfl, fun _ h => .inl h, fun _ _ _ h => .inl h⟩
theorem Ext.trans {g1 g2 g3 : Gh} {w1 w2 w3 : World} (h : Ext g1 w1 g2 w2) (k : Ext g2 w2 g3 w3) : Ext g1 w1 g3 w3 where
  le := h.le.trans k.le
  os := k.os.trans h.os
  tape := k.tape.trans h.tape
  output := k.output.trans h.output
  size := Nat.le_trans h.size k.size
  frame := fun b hb ho => (k.frame b (Nat.lt_of_lt_of_le hb h.size) (fun o => (h.own b o).elim ho (fun e => by omega))).trans (h.frame b hb ho)
  own := fun b hb => (k.own b hb).elim (fun o => h.own b o) (fun e => .inr (Nat.le_trans h.size e))
  memx := fun b o x e => by
    rcases k.memx b o x e with e | e | e
    · exact h.memx b o x e
    · rcases h.own b e with e | e
      · exact .inr (.inl e)
      · exact .inr (.inr e)
    · exact .inr (.inr (Nat.le_trans h.size e))

theorem Inv.mem_lt {g : Gh} {S : Sx} {w : World} (h : Inv g S w) {b o : Nat} {x : Value} (e : g.mem b o = some x) : b < w.heap.size := block_lt_of_cell (h.mem b o x e)

theorem Inv.gr_lt {g : Gh} {S : Sx} {w : World} (h : Inv g S w) {i : Nat} {G : Gr} (e : g.gx i = some G) : i < S.bs.length := by
  obtain ⟨cs, h1, _⟩ := h.gr i G e
  exact (List.getElem?_eq_some_iff.1 h1).1
theorem Inv.gx_new {g : Gh} {S : Sx} {w : World} (h : Inv g S w) {i : Nat} (hi : S.bs.length ≤ i) : g.gx i = none := by
  cases e : g.gx i with
  | none => rfl
  | some G => exact absurd (h.gr_lt e) (by omega)
theorem Inv.gx_no {g : Gh} {S : Sx} {w : World} (h : Inv g S w) {i : Nat} (hi : S.bs[i]? = some none) : g.gx i = none := by
  cases e : g.gx i with
  | none => rfl
  | some G => obtain ⟨cs, h1, _⟩ := h.gr i G e; rw [hi] at h1; cases h1
/-- A draw changes nothing. -/
theorem Inv.drew {g : Gh} {S : Sx} {w : World} (h : Inv g S w) : Inv g S w.drew := ⟨h.hbx, h.htg, h.mem, h.one, h.box, h.nob, h.bmem, h.blt, h.inj, h.gr, h.tag, h.tbx, h.tinj, h.fam.keep (.refl g) rfl (fun _ _ _ => Iff.rfl) h.fam.bx (Nat.le_refl _) (fun i j F b e1 e2 => ⟨rfl, (h.fam.out i j F b e1 e2).2⟩)⟩
theorem Ext.drew (g : Gh) (w : World) : Ext g w g w.drew := ⟨.refl g, rfl, rfl, rfl, Nat.le_refl _, fun _ _ _ => rfl, fun _ h => .inl h, fun _ _ _ h => .inl h⟩

/-- A new block that nobody knows of. -/
theorem heap_alloc_lt (w : World) (o : Obj) {k : Nat} {x : Obj} (h : w.heap[k]? = some x) : (w.alloc o).heap[k]? = some x := by
  rw [Below.heap_alloc w o k (Array.getElem?_eq_some_iff.1 h).1]; exact h
theorem cell_alloc_lt (w : World) (o : Obj) {a : Addr} {x : Value} (h : w.cell? a = some x) : (w.alloc o).cell? a = some x := by
  rw [World.cell?_of_block (w := w) (w' := w.alloc o) (Below.heap_alloc w o a.block (block_lt_of_cell h))]; exact h
theorem Inv.alloc {g : Gh} {S : Sx} {w : World} (h : Inv g S w) (o : Obj) : Inv g S (w.alloc o) where
  hbx := h.hbx
  htg := h.htg
  mem := fun b p x e => cell_alloc_lt w o (h.mem b p x e)
  one := h.one
  box := fun i cs e hne hf => let ⟨blk, cur, ty, h1, h2, h3⟩ := h.box i cs e hne hf; ⟨blk, cur, ty, h1, heap_alloc_lt w o h2, h3⟩
  fam := h.fam.keep (.refl g) rfl (fun _ _ _ => Iff.rfl) h.fam.bx (by simp) (fun i j F b e1 e2 => ⟨Below.heap_alloc w o b (h.fam.out i j F b e1 e2).1, (h.fam.out i j F b e1 e2).2⟩)
  nob := h.nob
  bmem := h.bmem
  blt := fun i k e => by have := h.blt i k e; simp; omega
  inj := h.inj
  gr := fun i G e => let ⟨cs, h1, h2, h3, h4, h5, h6⟩ := h.gr i G e; ⟨cs, h1, h2, h3, h4, h5, fun hc => let ⟨blk, cur, ty, k1, k2, k3⟩ := h6 hc; ⟨blk, cur, ty, k1, heap_alloc_lt w o k2, k3⟩⟩
  tag := fun t m e => let ⟨T, h1, h2, h3, h4, h5⟩ := h.tag t m e; ⟨T, h1, h2, h3, h4, fun hlt => let ⟨blk, cur, ty, k1, k2, k3⟩ := h5 hlt; ⟨blk, cur, ty, k1, heap_alloc_lt w o k2, k3⟩⟩
  tbx := fun t T blk e1 e2 e3 => by have := h.tbx t T blk e1 e2 e3; exact ⟨by simp; omega, this.2⟩
  tinj := h.tinj
theorem Ext.alloc (g : Gh) (w : World) (o : Obj) : Ext g w g (w.alloc o) :=
  ⟨.refl g, rfl, rfl, rfl, by simp, fun k hk _ => Below.heap_alloc w o k hk, fun _ h => .inl h, fun _ _ _ h => .inl h⟩

/-- New memory that nobody writes: a block all of whose cells stay. -/
def Gh.lay (g : Gh) (b : Nat) (f : Nat → Option Value) : Gh := { g with mem := fun k o => if k = b then f o else g.mem k o }
theorem Gh.le_lay (g : Gh) (b : Nat) (f : Nat → Option Value) (h : ∀ o, g.mem b o = none) : Le g (g.lay b f) := by
  refine ⟨fun k o x e => ?_, fun _ _ e e2 => ⟨e, e2⟩, fun _ G e => ⟨G, e, .inl ⟨rfl, rfl⟩⟩, fun _ T e => ⟨T, e, .inl rfl⟩, fun _ _ F e => ⟨F, e, .inl rfl⟩⟩
  by_cases hk : k = b
  · subst hk; rw [h] at e; cases e
  · simp [Gh.lay, hk, e]
end Go.Pv
