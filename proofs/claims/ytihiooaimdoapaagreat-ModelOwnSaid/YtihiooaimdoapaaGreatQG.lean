/- ModelOwn: the given statement. -/
import Derived.Deep.Slices
import Derived.WideShapes
import Derived.ChangeArms
import Derived.Deep.OwnRows
import Derived.WideKeyArgs
import Derived.OpenShut
import Derived.Carry
import Derived.ProofKit
import Derived.Test.YtihiooaimdoapaaGreatQF
set_option linter.unusedVariables false
set_option linter.unusedSimpArgs false
namespace Go.Proofs.YtihiooaimdoapaaGreat
open Go.Bm
set_option maxRecDepth 1000000
set_option maxHeartbeats 0
end Go.Proofs.YtihiooaimdoapaaGreat
set_option linter.unusedVariables false
set_option linter.unusedSimpArgs false
namespace Go.Bm
noncomputable section
open Go.RowKit Go.ChangeShapes Go.WideShapes Go.Deep
def memOf (W : World) : Mem := fun b o => (W.cell? ⟨b, o, none⟩).filter (·.oneCell')
theorem memOf_of {W : World} {b o : Nat} {x : Value} (h : W.cell? ⟨b, o, none⟩ = some x) (h1 : x.oneCell' = true) : memOf W b o = some x := by simp [memOf, h, h1]
theorem cell_heap {W : World} {b o : Nat} {x : Value} (h : W.cell? ⟨b, o, none⟩ = some x) : ∃ cur ty fz, W.heap[b]? = some (.cells cur ty fz) ∧ cur[o]? = some x := by
 unfold World.cell? at h
 split at h
 ·rename_i c ty fz hb
  simp at h
  exact ⟨c, ty, fz, hb, h⟩
 ·cases h
def inR (k : IntKind) (a : Int) : Prop := k.min ≤ a ∧ a ≤ k.max
def okT : (t : Ty) → t.T → Prop
 | .int k, a => inR k a
 | .bool, _ => True
 | .unit, _ => True
 | .pair a b, x => okT a x.1 ∧ okT b x.2
 | .arr n t, l => List.length (α := t.T) l = n ∧ ∀ x : t.T, List.Mem (α := t.T) x l → okT t x
 | .slc t, l => List.length (α := t.T) l ≤ maxLen ∧ ∀ x : t.T, List.Mem (α := t.T) x l → okT t x
 | _, _ => False
def RdT (P : Program) (W : World) (t : TypeId) (u : Ty) : Prop :=
 ∀ (H : Type) (enc : TypeId × Value → H) (n : Nat) (cs : List Value) (x : DataW H × List MemPlace), DataW.trod enc P W 0 (fun _ => true) true n t cs = some x → ∃ a : u.T, VDs (memOf W) (encD u a) cs ∧ okT u a
theorem pick_list {α : Type} {Q : Nat → α → Prop} : ∀ n : Nat, (∀ i, i < n → ∃ x, Q i x) → ∃ xs : List α, xs.length = n ∧ ∀ (i : Nat) (x : α), xs[i]? = some x → Q i x
 | 0, _ => ⟨[], rfl, fun i x h => by simp at h⟩
 | n + 1, h => by
  obtain ⟨xs, h1, h2⟩ := pick_list n (fun i hi => h i (by omega))
  obtain ⟨x, hx⟩ := h n (by omega)
  refine ⟨xs ++ [x], by simp [h1], fun i y hy => ?_⟩
  by_cases hi : i < xs.length
  ·rw [List.getElem?_append_left hi] at hy; exact h2 i y hy
  ·rw [List.getElem?_append_right (by omega)] at hy
   have := (List.getElem?_eq_some_iff.1 hy).1
   have e : i - xs.length = 0 := by simp at this; omega
   rw [e] at hy
   simp at hy
   subst hy
   rw [show i = n by omega]; exact hx
theorem cells_get {W : World} {base n : Nat} {a : Addr} {cs : List Value} (h : W.cells? base a n = some cs) (k : Nat) (x : Value) (hk : cs[k]? = some x) : W.cell? (a.add k) = some x := by
 unfold World.cells? at h
 split at h
 ·have hlen := mapM_some_length h
  have hlt := (List.getElem?_eq_some_iff.1 hk).1
  rw [List.length_range] at hlen
  rw [← hk]
  exact mapM_some_get h k k (by rw [List.getElem?_range (by omega)])
 ·cases h
theorem rows_VDs {α : Type} {M : Mem} {f : α → List D} : ∀ ps : List (α × List Value), (∀ q ∈ ps, VDs M (f q.1) q.2) → VDs M (ps.map fun q => f q.1).flatten (ps.map (·.2)).flatten
 | [], _ => ⟨rfl, by simp⟩
 | q :: ps, h => by
  rw [List.map_cons, List.map_cons, List.flatten_cons, List.flatten_cons]
  exact (h q (List.mem_cons_self ..)).append (rows_VDs ps (fun r hr => h r (List.mem_cons_of_mem _ hr)))
theorem rows_mem {α : Type} {M : Mem} {b sz : Nat} : ∀ (ps : List (α × List Value)) (off : Nat), (∀ (i : Nat) (q : α × List Value), ps[i]? = some q → q.2.length = sz ∧ ∀ (k : Nat) (x : Value), q.2[k]? = some x → M b (off + i * sz + k) = some x) →
  ∀ (j : Nat) (x : Value), (ps.map (·.2)).flatten[j]? = some x → M b (off + j) = some x
 | [], _, _, j, x, h => by simp at h
 | q :: ps, off, h, j, x, hj => by
  obtain ⟨h1, h2⟩ := h 0 q rfl
  rw [List.map_cons, List.flatten_cons] at hj
  by_cases hlt : j < q.2.length
  ·rw [List.getElem?_append_left hlt] at hj
   simpa using h2 j x hj
  ·rw [List.getElem?_append_right (by omega)] at hj
   have := rows_mem ps (off + sz) (fun i r hr => by
    obtain ⟨k1, k2⟩ := h (i + 1) r (by simpa using hr)
    refine ⟨k1, fun k x hk => ?_⟩
    have := k2 k x hk
    rwa [show off + sz + i * sz + k = off + (i + 1) * sz + k by rw [Nat.add_mul]; omega]) _ x hj
   rwa [show off + sz + (j - q.2.length) = off + j by omega] at this
theorem VDs.one' {M : Mem} {d : D} {v : Value} (h : VD M d v) : VDs M [d] [v] := ⟨rfl, fun j c x k1 k2 => by
 cases j with
 | zero => simp at k1 k2; subst k1 k2; exact h
 | succ j => simp at k1⟩
theorem VDs.cut {M : Mem} {ds es : List D} {cs : List Value} (n : Nat) (h1 : VDs M ds (cs.take n)) (h2 : VDs M es (cs.drop n)) : VDs M (ds ++ es) cs := by
 have := h1.append h2
 rwa [List.take_append_drop] at this
theorem VDs.ones {M : Mem} {ds : List D} {vs : List Value} (h : VDs M ds vs) : ∀ x ∈ vs, x.oneCell' = true := fun x hx => by
 obtain ⟨j, hj⟩ := List.getElem?_of_mem hx
 have hl := (List.getElem?_eq_some_iff.1 hj).1
 exact (h.2 j _ x (List.getElem?_eq_getElem (by rw [h.1]; exact hl)) hj).one
section
variable {P : Program} {W : World}
theorem rdInt {t : TypeId} {k : IntKind} (ht : P.underlying t = some (.int k)) : RdT P W t (.int k) := by
 intro H enc n cs x h
 obtain ⟨a, rfl, _, hw⟩ := DataW.trod_int ht h
 refine ⟨a, .one' (.v _ rfl), ?_⟩
 have hw : (decide (k.min ≤ a) && decide (a ≤ k.max)) = true := hw
 rw [Bool.and_eq_true] at hw
 exact ⟨of_decide_eq_true hw.1, of_decide_eq_true hw.2⟩
theorem rdSlc {t e : TypeId} {u : Ty} (ht : P.underlying t = some (.slice e)) (he : P.cellsOf e = u.size) (h0 : 0 < u.size) (h : RdT P W e u) : RdT P W t (.slc u) := by
 intro H enc n cs x hx
 rcases open_slice ht hx with ⟨rfl, _⟩ | ⟨a, len, cap, m, n', D', Pl, rfl, hb, hl, hm, hmm, _, hel⟩
 ·exact ⟨([] : List u.T), .one' (.sl0 u.size false none), Nat.zero_le _, fun x hx => by cases hx⟩
 ·have hm' : m = cap := by simpa using hmm
  by_cases hc : cap = 0
  ·subst hc
   have : len = 0 := by omega
   subst this
   exact ⟨([] : List u.T), .one' (.sl0 u.size false _), Nat.zero_le _, fun x hx => by cases hx⟩
  ·obtain ⟨b, off, sp⟩ := a
   have hsp : sp = none := by
    obtain ⟨cs', k1, _⟩ := hel 0 (by omega)
    obtain ⟨_, hlen, hcell⟩ := World.cells?_some k1
    have g0 := hcell 0 (by omega)
    obtain ⟨c0, hc0⟩ : ∃ c0, cs'[0]? = some c0 := by
     cases cs' with
     | nil => simp at hlen; omega
     | cons c _ => exact ⟨c, rfl⟩
    rw [hc0] at g0
    simpa [Addr.add] using World.cell?_spot g0
   subst hsp
   obtain ⟨ps, h1, h2⟩ := pick_list (Q := fun i (q : u.T × List Value) => W.cells? 0 ((⟨b, off, none⟩ : Addr).add (i * P.cellsOf e)) (P.cellsOf e) = some q.2 ∧ VDs (memOf W) (encD u q.1) q.2 ∧ okT u q.1) len (fun i hi => by
    obtain ⟨cs', k1, k2⟩ := hel i (by omega)
    obtain ⟨x, k3, k4⟩ := h H enc n' cs' _ k2
    exact ⟨(x, cs'), k1, k3, k4⟩)
   have hmem : ∀ q ∈ ps, VDs (memOf W) (encD u q.1) q.2 := fun q hq => by
    obtain ⟨i, hi⟩ := List.getElem?_of_mem hq
    exact (h2 i q hi).2.1
   refine ⟨ps.map (·.1), .one' ?_, ?_, fun x hx' => ?_⟩
   ·have hlen : ((ps.map (·.1)).map (encD u)).length = len := by simp [h1]
    have hv := rows_VDs ps hmem
    have hfl : ((ps.map (·.1)).map (encD u)).flatten = (ps.map fun q => encD u q.1).flatten := by rw [List.map_map]; rfl
    have := VD.sl (M := memOf W) u.size false ((ps.map (·.1)).map (encD u)) (some (b, off)) cap (ps.map (·.2)).flatten (by
     intro e' he'
     obtain ⟨x, _, rfl⟩ := List.mem_map.1 he'
     exact encD_len u x) (by rw [hlen]; exact hl) (fun h => by cases h) (fun h => by cases h) hm (by rw [hfl]; exact hv.1) (fun p j x hp hj => by
     cases hp
     refine rows_mem (M := memOf W) (b := b) (sz := u.size) ps off (fun i q hq => ?_) j x hj
     obtain ⟨k1, k2, _⟩ := h2 i q hq
     refine ⟨by rw [← k2.1, encD_len], fun k x hk => ?_⟩
     refine memOf_of ?_ (k2.ones x (List.mem_of_getElem? hk))
     have hcell := cells_get k1 k x hk
     rw [he] at hcell
     simpa [Addr.add_lit] using hcell) (fun j c x e1 e2 => hv.2 j c x (by rw [← hfl]; exact e1) e2)
    rw [hlen] at this
    exact this
   ·show (ps.map (·.1)).length ≤ maxLen
    simp [h1]; omega
   ·have hx' : x ∈ ps.map (·.1) := hx'
    obtain ⟨q, hq, rfl⟩ := List.mem_map.1 hx'
    obtain ⟨i, hi⟩ := List.getElem?_of_mem hq
    exact (h2 i q hi).2.2
inductive RdF (P : Program) (W : World) : List Field → Nat → Ty → Prop
 | one {fd : Field} {off : Nat} {a : Ty} (h : RdT P W fd.type a) (ho : fd.offset = off) (hs : P.cellsOf fd.type = a.size) : RdF P W [fd] off a
 | cons {fd : Field} {fs : List Field} {off : Nat} {a b : Ty} (h : RdT P W fd.type a) (ho : fd.offset = off) (hs : P.cellsOf fd.type = a.size) (k : RdF P W fs (off + a.size) b) : RdF P W (fd :: fs) off (.pair a b)
theorem RdF.read {H : Type} {enc : TypeId × Value → H} {n : Nat} {cs : List Value} {fs : List Field} {off : Nat} {u : Ty} (h : RdF P W fs off u) : cs.length = off + u.size →
  (∀ fd ∈ fs, ∃ x, DataW.trod enc P W 0 (fun _ => true) true n fd.type ((cs.drop fd.offset).take (P.cellsOf fd.type)) = some x) → ∃ a : u.T, VDs (memOf W) (encD u a) (cs.drop off) ∧ okT u a := by
 induction h with
 | one h ho hs =>
  intro hl hx
  obtain ⟨x, hx1⟩ := hx _ (List.mem_cons_self ..)
  obtain ⟨a, a1, a2⟩ := h H enc n _ x hx1
  refine ⟨a, ?_, a2⟩
  rw [ho, hs, List.take_of_length_le (by simp; omega)] at a1
  exact a1
 | cons h ho hs k ih =>
  rename_i fd fs off a b
  intro hl hx
  have hl : cs.length = off + (a.size + b.size) := hl
  obtain ⟨x, hx1⟩ := hx fd (List.mem_cons_self ..)
  obtain ⟨y, a1, a2⟩ := h H enc n _ x hx1
  obtain ⟨z, b1, b2⟩ := ih (by omega) (fun fd' hm => hx fd' (List.mem_cons_of_mem _ hm))
  refine ⟨(y, z), ?_, a2, b2⟩
  rw [ho, hs] at a1
  refine VDs.cut (ds := encD a y) (es := encD b z) a.size a1 ?_
  rw [List.drop_drop]; exact b1
theorem rdStruct {t : TypeId} {fs : Array Field} {u : Ty} (ht : P.underlying t = some (.struct fs)) (hl : P.cellsOf t = u.size) (h : RdF P W fs.toList 0 u) : RdT P W t u := by
 intro H enc n cs x hx
 obtain ⟨xs, m, _, _, hcl, hxl, hf⟩ := DataW.trod_struct ht hx
 obtain ⟨a, d1, d2⟩ := h.read (H := H) (enc := enc) (n := m) (cs := cs) (by rw [hcl, hl, Nat.zero_add]) (fun fd hm => by
  obtain ⟨i, hi⟩ := List.getElem?_of_mem hm
  have hi' : fs[i]? = some fd := by simpa using hi
  have h1 := hf i fd hi'
  have hlt : i < fs.size := (Array.getElem?_eq_some_iff.1 hi').1
  exact ⟨xs[i]'(by omega), by rw [h1]; exact List.getElem?_eq_getElem (by omega)⟩)
 rw [List.drop_zero] at d1
 exact ⟨a, d1, d2⟩
def gst (W : World) : G := ⟨fun _ => none, memOf W, fun _ => none⟩
theorem Inv.start {S : Hp} (hS : ∀ o, S.ob o = none) : Inv (gst W) S W where
 cells := fun o cs h => by rw [hS] at h; cases h
 oth := fun o x h => by rw [hS] at h; cases h
 fresh := fun _ _ => rfl
 lt := fun o b s h => by cases h
 inj := fun o o' x x' b s s' h => by rw [hS] at h; cases h
 mem := fun b i x h => by
  have h : (W.cell? ⟨b, i, none⟩).filter (·.oneCell') = some x := h
  rw [Option.filter_eq_some_iff] at h
  exact cell_heap h.1
 memd := fun o b s i x h => by rw [hS] at h; cases h
 lp := fun b l h => by cases h
theorem rd_top {t : TypeId} {u : Ty} {H : Type} {enc : TypeId × Value → H} {v : Value} {dd : DataW H} {p : List MemPlace} (hr : RdT P W t u) (hd : u.data = true) (hc : v.cells.toList = [v]) (h : DataW.Trod enc P W 0 (fun _ => true) true t v dd p) :
  ∃ a : u.T, V (gst W) (packA false u a) v ∧ okT u a := by
 obtain ⟨fuel, hf⟩ := h
 rw [hc] at hf
 obtain ⟨a, h1, h2⟩ := hr H enc fuel _ _ hf
 have h3 := VDs.cells (g := gst W) u a _ hd h1
 refine ⟨a, ?_, h2⟩
 show V (gst W) (match encA u a with | [c] => c | _ => .junk) v
 obtain ⟨hl, h4⟩ := h3
 match he : encA u a with
 | [c] => exact (h4 0 c v (by rw [he]; rfl) rfl).1
 | [] => exact .junk _
 | _ :: _ :: _ => exact .junk _
def emK : (k : RK) → k.T
 | .box t => ([] : List t.T)
 | .row t => ([] : List (Option (List t.T)))
 | .map _ tk _ tv => ([] : List (List (tk.T × tv.T)))
def emR : (l : List (Nat × RK)) → Rgs l
 | [] => ()
 | p :: l => (emK p.2, emR l)
theorem regOb_em : ∀ (k : RK) (j : Nat), regOb k (emK k) j = none
 | .box _, _ => rfl
 | .row _, _ => rfl
 | .map _ _ _ _, _ => rfl
theorem rfind_em : ∀ (l : List (Nat × RK)) (r : Nat) (x : Rg), rfind (rgsL l (emR l)) r = some x → ∀ j, regOb x.k x.c j = none
 | [], r, x, h, j => by cases h
 | p :: l, r, x, h, j => by
  have h : (bif Nat.beq p.1 r then some (⟨p.1, p.2, emK p.2⟩ : Rg) else rfind (rgsL l (emR l)) r) = some x := h
  cases hp : Nat.beq p.1 r with
  | true => rw [hp] at h; cases h; exact regOb_em p.2 j
  | false => rw [hp] at h; exact rfind_em l r x h j
theorem h0_none (rl wl : List (Nat × RK)) (o : Nat) : (hp (h0 rl wl (emR rl) (emR wl))).ob o = none := by
 show (if o < lim then tOb .nil o else regAt (rgsL wl (emR wl) ++ rgsL rl (emR rl)) o) = none
 split
 ·unfold tOb; rw [Tr.get_nil]
 ·unfold regAt
  rw [rfind_app]
  cases h1 : rfind (rgsL wl (emR wl)) (rOf o) with
  | some x => exact rfind_em wl _ x h1 _
  | none =>
   simp only
   cases h2 : rfind (rgsL rl (emR rl)) (rOf o) with
   | some x => exact rfind_em rl _ x h2 _
   | none => rfl
theorem law_true {f : FuncId} {sg : Sig} {F : Plain sg} (h : CtOk P f sg F) (hrs : sg.rs = [(false, .bool)]) (x : Tup sg.ps) {y : Tup sg.rs} {d' : Rgs sg.wg} (hF : F x (emR sg.rg) (emR sg.wg) = some (y, d')) (hy : retA sg.rs y = .v (.bool true)) {vs : List Value}
  (hl : (argsA sg.ps x).length = vs.length) (hv : ∀ (i : Nat) (p : A) (v : Value), (argsA sg.ps x)[i]? = some p → vs[i]? = some v → V (gst W) p v) :
  Calls P f vs.toArray W fun e W' => e = .returned (.bool true) ∧ Go.World.Since W.heap.size W W' := by
 obtain ⟨t, nid, lk, hp⟩ := h.pc x _ _ y d' hF
 refine (hp (gst W) W vs (.start (h0_none _ _)) hl hv).mono ?_
 rintro e W' ⟨v, g', rfl, h1, _, h3⟩
 rw [hy] at h1
 cases h1
 exact ⟨rfl, h3.os, h3.tape, h3.output, h3.size, fun k hk => h3.frame k hk (by rintro ⟨o, s, x, _, e⟩; cases e)⟩
end
end
end Go.Bm
set_option linter.unusedVariables false
set_option linter.unusedSimpArgs false
namespace Go.Proofs.YtihiooaimdoapaaGreat
open Go.Bm Go.Pen
theorem p_put (m : M) (ents : List Enty) (v : Int) (scope : Int) (to : M) (h : to.p = m.p) : (m.put ents v scope to).1.p = m.p := by
 unfold M.put
 split
 ·exact h
 ·split
  ·rfl
  ·cases (m.check ents v).1 with
   | none => rfl
   | some o =>
    dsimp only
    split
    ·rfl
    ·exact h
theorem p_enter (m : M) (n a : Int) : (m.enter n a).1.p = m.p := by
 unfold M.enter
 split
 ·rfl
 ·split
  ·rfl
  ·split <;> rfl
theorem p_leave (m : M) (n s : Int) (l : List Enty) (a : Ans) : (m.leave n s l a).1.p = m.p := by
 unfold M.leave
 split <;> rfl
theorem p_exit (m : M) (n : Int) : (m.exit n).1.p = m.p := by
 unfold M.exit
 cases (m.thAt n).ents.getLast? with
 | none => rfl
 | some x =>
  dsimp only
  split
  ·rfl
  ·split
   ·split
    ·rfl
    ·exact p_leave _ _ _ _ _
   ·exact p_leave _ _ _ _ _
theorem p_goIn (m : M) (n a : Int) : (m.goIn n a).1.p = m.p := by
 unfold M.goIn
 split
 ·rfl
 ·split
  ·rfl
  ·split <;> rfl
theorem p_alloc (m : M) (n r a b c : Int) : (m.alloc n r a b c).1.p = m.p := by
 unfold M.alloc
 split
 ·rfl
 ·split <;> rfl
theorem p_load (m : M) (n r h b : Int) : (m.load n r h b).1.p = m.p := by
 unfold M.load
 split
 ·rfl
 ·cases (m.check (m.thAt n).ents (m.reg n h)).1 with
  | none => rfl
  | some o => dsimp only; split <;> rfl
theorem p_store (m : M) (n h v b : Int) : (m.store n h v b).1.p = m.p := by
 unfold M.store
 split
 ·rfl
 ·cases (m.check (m.thAt n).ents (m.reg n h)).1 with
  | none => rfl
  | some o =>
   dsimp only
   split
   ·rfl
   ·exact p_put _ _ _ _ _ rfl
theorem p_portal (m : M) (n r a : Int) : (m.portal n r a).1.p = m.p := by
 unfold M.portal
 split
 ·rfl
 ·split <;> rfl
theorem p_gate (m : M) (n v a : Int) : (m.gate n v a).1.p = m.p := by
 unfold M.gate
 split
 ·rfl
 ·split
  ·rfl
  ·exact p_put _ _ _ _ _ rfl
theorem p_act (m : M) (n : Int) (c : Cal) : (m.act n c).1.p = m.p := by
 obtain ⟨op, r, h, v, a, b, d⟩ := c
 unfold M.act
 dsimp only
 by_cases h0 : op = 0
 ·rw [if_pos h0]; rfl
 rw [if_neg h0]
 by_cases h1 : op = 1
 ·rw [if_pos h1]; rfl
 rw [if_neg h1]
 by_cases h2 : op = 2
 ·rw [if_pos h2]
 rw [if_neg h2]
 by_cases h3 : op = 3
 ·rw [if_pos h3]; rfl
 rw [if_neg h3]
 by_cases h4 : op = 4
 ·rw [if_pos h4]; exact p_enter _ _ _
 rw [if_neg h4]
 by_cases h5 : op = 5
 ·rw [if_pos h5]; exact p_exit _ _
 rw [if_neg h5]
 by_cases h6 : op = 6
 ·rw [if_pos h6]; exact p_goIn _ _ _
 rw [if_neg h6]
 by_cases h7 : op = 7
 ·rw [if_pos h7]; exact p_alloc _ _ _ _ _ _
 rw [if_neg h7]
 by_cases h8 : op = 8
 ·rw [if_pos h8]; exact p_load _ _ _ _ _
 rw [if_neg h8]
 by_cases h9 : op = 9
 ·rw [if_pos h9]; exact p_store _ _ _ _ _
 rw [if_neg h9]
 by_cases h10 : op = 10
 ·rw [if_pos h10]; exact p_portal _ _ _ _
 rw [if_neg h10]
 by_cases h11 : op = 11
 ·rw [if_pos h11]; exact p_gate _ _ _ _
 rw [if_neg h11]; rfl
theorem p_step (m : M) (n : Int) (c : Cal) : (m.step n c).1.p = m.p := by
 unfold M.step
 split
 ·rfl
 ·split
  ·rfl
  ·exact p_act m n c
abbrev CoT : Type := ((Int × Unit) × (Unit × (Unit × (Unit × Unit))))
abbrev CoD : Type := (T2 × (T3 × (T4 × (T5 × (T6 × (T7 × (T8 × (T9 × (T10 × Unit)))))))))
abbrev CoN : Type := (((Option Nat) × (Int × Unit)) × (T0 × (T1 × (T2 × (T3 × (T4 × (T5 × (T6 × (T7 × Unit)))))))))
theorem loop_Q {α σ : Type} {f : (σ → Option α) → σ → Option α} (I : Nat → σ → Prop) (Q : Option α → Prop) (h : ∀ m s, I m s → ∀ g, (∀ m' s', m' < m → I m' s' → Q (g s')) → Q (f g s)) {m : Nat} {s : σ} (hs : I m s) (hm : m < big) : Q (Go.Bm.loop f s) := by
 rw [loop_eq]
 have key : ∀ n m s, m < n → I m s → Q (iter f n s) := by
  intro n
  induction n with
  | zero => intro m s hm _; omega
  | succ n ih => intro m s hm hI; exact h m s hI (iter f n) (fun m' s' hm' hI' => ih m' s' (by omega) hI')
 exact key big m s hm hs
def coSc (s : Int) : CoT := ((s, ()), ((), ((), ((), ()))))
abbrev CoL : Type := ((Int × Unit) × (Unit × (Unit × (Unit × CoD))))
def coLo (i : Int) (d0 : T2) (d1 : T3) (d2 : T4) (d3 : T5) (d4 : T6) (d5 : T7) (d6 : T8) (d7 : T9) (d8 : T10) : CoL := ((i, ()), ((), ((), ((), (d0, (d1, (d2, (d3, (d4, (d5, (d6, (d7, (d8, ())))))))))))))
abbrev Stp : Type := Int × Cal
end Go.Proofs.YtihiooaimdoapaaGreat
set_option linter.unusedVariables false
set_option linter.unusedSimpArgs false
namespace Go.Pen
open Go.Bm
structure Kept (m m' : M) : Prop where
 th : m'.th = m.th
 sc : m'.sc = m.sc
 ga : ∀ s, (m'.arAt s).gate = (m.arAt s).gate
 us : ∀ s, (m'.arAt s).used = (m.arAt s).used
theorem Kept.refl (m : M) : Kept m m := ⟨rfl, rfl, fun _ => rfl, fun _ => rfl⟩
def Ref (m : M) (o : Out) : Prop := o.2.1 ≠ 0 → Kept m o.1 ∧ (o.2.1 = 25 ∨ (o.2.2.1 = 0 ∧ o.2.2.2 = []))
theorem Ref.code (m : M) (e : Int) : Ref m (m.code e) := fun _ => ⟨.refl m, .inr ⟨rfl, rfl⟩⟩
theorem Ref.ok {m : M} {o : Out} (h : o.2.1 = 0) : Ref m o := fun hn => absurd h hn
theorem Ref.put (m to : M) (l : List Enty) (v s : Int) : Ref m (m.put l v s to) := by
 unfold M.put
 split
 ·exact .ok rfl
 ·split
  ·exact .code m _
  ·split
   ·exact .code m _
   ·split
    ·exact .code m _
    ·exact .ok rfl
theorem ite_R {m : M} {p : Prop} [Decidable p] {x y : Out} (h1 : Ref m x) (h2 : Ref m y) : Ref m (if p then x else y) := by
 split
 ·exact h1
 ·exact h2
theorem Ref.leave (m : M) (m1 : M) (n s : Int) (l : List Enty) (a : Ans) (h : a.1 = 0) : Ref m (m1.leave n s l a) := by
 unfold M.leave
 split
 ·exact .ok h
 ·exact .ok h
theorem arAt_setN (m : M) (s : Int) (a : Area) (t : Int) : (m.setAr s a).arAt t = (if t.toNat = s.toNat ∧ s.toNat < m.ar.length then a else m.arAt t) := by
 unfold M.arAt M.setAr
 show (m.ar.set s.toNat a).getD t.toNat ar0 = _
 rw [List.getD_eq_getElem?_getD, List.getElem?_set, List.getD_eq_getElem?_getD]
 by_cases e : s.toNat = t.toNat
 ·rw [if_pos e]
  by_cases h : s.toNat < m.ar.length
  ·rw [if_pos h, if_pos ⟨e.symm, h⟩]; rfl
  ·rw [if_neg h, if_neg (fun hh => h hh.2), List.getElem?_eq_none (by omega)]
 ·rw [if_neg e, if_neg (fun hh => e hh.1.symm)]
theorem Ref.exit (m : M) (n : Int) : Ref m (m.exit n) := by
 unfold M.exit
 split
 ·exact .code m _
 ·rename_i x hx
  refine ite_R (.ok rfl) (ite_R (ite_R (fun _ => ⟨⟨rfl, rfl, fun s => ?_, fun s => ?_⟩, .inl rfl⟩) (.leave m _ _ _ _ _ rfl)) (.leave m _ _ _ _ _ rfl))
  ·show ((m.setAr _ _).arAt s).gate = _
   rw [arAt_setN]
   split
   ·rename_i e
    have : m.arAt x.1 = m.arAt s := by unfold M.arAt; rw [e.1]
    rw [← this]
   ·rfl
  ·show ((m.setAr _ _).arAt s).used = _
   rw [arAt_setN]
   split
   ·rename_i e
    have : m.arAt x.1 = m.arAt s := by unfold M.arAt; rw [e.1]
    rw [← this]
   ·rfl
theorem Ref.create (m : M) (a : Int) : Ref m ({ m with sc := (scCreate m.sc m.fl a).1, fl := (scCreate m.sc m.fl a).2.1 }, ((scCreate m.sc m.fl a).2.2.2, (scCreate m.sc m.fl a).2.2.1, [])) := by
 have key : (scCreate m.sc m.fl a).2.2.2 = 0 ∨ ((scCreate m.sc m.fl a).1 = m.sc ∧ (scCreate m.sc m.fl a).2.2.1 = 0) := by
  unfold scCreate
  split
  ·exact .inr ⟨rfl, rfl⟩
  ·cases hfr : freeAt m.sc with
   | none => exact .inr ⟨rfl, rfl⟩
   | some i =>
    simp only
    cases hcv : carve m.fl (up8 a) with
    | none => exact .inr ⟨rfl, rfl⟩
    | some r => exact .inl rfl
 rcases key with h | ⟨h1, h2⟩
 ·exact .ok h
 ·exact fun _ => ⟨⟨rfl, h1, fun _ => rfl, fun _ => rfl⟩, .inr ⟨h2, rfl⟩⟩
theorem Ref.destroy (m : M) (a : Int) : Ref m (M.code { m with sc := (scDestroy m.fr m.en m.sc m.fl a).1, fl := (scDestroy m.fr m.en m.sc m.fl a).2.1 } (scDestroy m.fr m.en m.sc m.fl a).2.2) := by
 have key : (scDestroy m.fr m.en m.sc m.fl a).2.2 = 0 ∨ (scDestroy m.fr m.en m.sc m.fl a).1 = m.sc := by
  unfold scDestroy
  split
  ·exact .inr rfl
  ·split
   ·exact .inr rfl
   ·split
    ·exact .inr rfl
    ·exact .inl rfl
 rcases key with h | h
 ·exact .ok h
 ·exact fun _ => ⟨⟨rfl, h, fun _ => rfl, fun _ => rfl⟩, .inr ⟨rfl, rfl⟩⟩
theorem Ref.act (m : M) (n : Int) (c : Cal) : Ref m (m.act n c) := by
 obtain ⟨op, r, g, v, a, b, t⟩ := c
 refine ite_R (.ok rfl) ?_
 refine ite_R (.ok rfl) ?_
 refine ite_R (.create m a) ?_
 refine ite_R (.destroy m a) ?_
 refine ite_R ?_ ?_
 ·unfold M.enter
  exact ite_R (.code m _) (ite_R (.code m _) (ite_R (.code m _) (.ok rfl)))
 refine ite_R (.exit m n) ?_
 refine ite_R ?_ ?_
 ·unfold M.goIn
  exact ite_R (.code m _) (ite_R (.code m _) (ite_R (.code m _) (.ok rfl)))
 refine ite_R ?_ ?_
 ·unfold M.alloc
  exact ite_R (.code m _) (ite_R (.code m _) (.ok rfl))
 refine ite_R ?_ ?_
 ·unfold M.load
  refine ite_R (.code m _) ?_
  split
  ·exact .code m _
  ·exact ite_R (.code m _) (.ok rfl)
 refine ite_R ?_ ?_
 ·unfold M.store
  refine ite_R (.code m _) ?_
  split
  ·exact .code m _
  ·exact ite_R (.code m _) (.put m _ _ _ _)
 refine ite_R ?_ ?_
 ·unfold M.portal
  exact ite_R (.code m _) (ite_R (.code m _) (.ok rfl))
 refine ite_R ?_ (.code m _)
 unfold M.gate
 exact ite_R (.code m _) (ite_R (.code m _) (.put m _ _ _ _))
end Go.Pen
set_option linter.unusedVariables false
set_option linter.unusedSimpArgs false
namespace Go.Proofs.YtihiooaimdoapaaGreat
open Go.Bm
set_option maxRecDepth 1000000
set_option maxHeartbeats 0
end Go.Proofs.YtihiooaimdoapaaGreat
set_option linter.unusedVariables false
set_option linter.unusedSimpArgs false
namespace Go.Proofs.YtihiooaimdoapaaGreat
open Go.Bm
set_option maxRecDepth 1000000
set_option maxHeartbeats 0
end Go.Proofs.YtihiooaimdoapaaGreat
set_option linter.unusedVariables false
set_option linter.unusedSimpArgs false
namespace Go.Proofs.YtihiooaimdoapaaGreat
open Go.Bm Go.Pen
theorem Words_s {l : List Int} (hl : l.length ≤ 100) : g.penfoldref10_Words (cat [] l) l = some ((true, ()), ()) := by
 show g.penfoldref10_Words l l = _
 unfold g.penfoldref10_Words
 refine (br_not).trans ?_
 refine (br_eql_t rfl).trans ?_
 refine (loop_up (fun k => coSc (k : Int)) (fun _ => some ((true, ()), ())) l.length (by unfold big; omega) (fun K => ?_) (fun k hk => .inr ⟨rfl, fun K => ?_⟩))
 ·unfold g.penfoldref10_Words_l0 coSc
  dsimp only
  repeat (refine HS ?_)
  rfl
 ·have ek : iadd .i64 (k : Int) 1 = ((k + 1 : Nat) : Int) := by rw [iadd_s (by omega)]; omega
  unfold g.penfoldref10_Words_l0 coSc
  dsimp only
  rw [ek]
  generalize nth 0 l (nN (k : Int)) = x
  repeat (refine HS ?_)
  rfl
theorem Same_s {l : List Enty} (hl : l.length ≤ 100) : g.penfoldref09_Same (cat [] l) l = some ((true, ()), ()) := by
 show g.penfoldref09_Same l l = _
 unfold g.penfoldref09_Same
 refine (br_not).trans ?_
 refine (br_eql_t rfl).trans ?_
 refine (loop_up (fun k => coSc (k : Int)) (fun _ => some ((true, ()), ())) l.length (by unfold big; omega) (fun K => ?_) (fun k hk => .inr ⟨rfl, fun K => ?_⟩))
 ·unfold g.penfoldref09_Same_l0 coSc
  dsimp only
  repeat (refine HS ?_)
  rfl
 ·have ek : iadd .i64 (k : Int) 1 = ((k + 1 : Nat) : Int) := by rw [iadd_s (by omega)]; omega
  unfold g.penfoldref09_Same_l0 coSc
  dsimp only
  rw [ek]
  generalize nth (0, false) l (nN (k : Int)) = x
  have hx : band (ieql x.1 x.1) (band (beql x.2 x.2) true) = true := by unfold band ieql beql; simp
  repeat (refine HS ?_)
  rfl
end Go.Proofs.YtihiooaimdoapaaGreat
set_option linter.unusedVariables false
set_option linter.unusedSimpArgs false
namespace Go.Pen
open Go.Bm
def Oth (n : Int) (m m' : M) : Prop := ∀ j : Nat, j ≠ n.toNat → m'.th[j]? = m.th[j]?
theorem Oth.same {n : Int} {m m' : M} (h : m'.th = m.th) : Oth n m m' := fun j _ => by rw [h]
theorem Oth.set {n : Int} {m m' : M} {t : Thr} (h : m'.th = m.th.set n.toNat t) : Oth n m m' := fun j hj => by
 rw [h, List.getElem?_set, if_neg (fun e => hj e.symm)]
theorem ite_O {P : Out → Prop} {p : Prop} [Decidable p] {x y : Out} (h1 : P x) (h2 : P y) : P (if p then x else y) := by
 split
 ·exact h1
 ·exact h2
theorem Oth.put {n : Int} {m to : M} (h : Oth n m to) (l : List Enty) (v s : Int) : Oth n m (m.put l v s to).1 := by
 unfold M.put
 split
 ·exact h
 ·split
  ·exact .same rfl
  ·split
   ·exact .same rfl
   ·split
    ·exact .same rfl
    ·exact h
theorem Oth.leave {n : Int} {m m1 : M} (h : m1.th = m.th) (s : Int) (l : List Enty) (a : Ans) : Oth n m (m1.leave n s l a).1 := by
 unfold M.leave
 split
 ·exact fun j hj => by
   show (m1.th.set _ _)[j]? = _
   rw [List.getElem?_set, if_neg (fun e => hj e.symm), h]
 ·exact fun j hj => by
   show (m1.th.set _ _)[j]? = _
   rw [List.getElem?_set, if_neg (fun e => hj e.symm), h]
theorem Oth.act (m : M) (n : Int) (c : Cal) : Oth n m (m.act n c).1 := by
 obtain ⟨op, r, g, v, a, b, t⟩ := c
 refine ite_O (P := fun o => Oth n m o.1) (.same rfl) ?_
 refine ite_O (P := fun o => Oth n m o.1) (.set rfl) ?_
 refine ite_O (P := fun o => Oth n m o.1) (.same rfl) ?_
 refine ite_O (P := fun o => Oth n m o.1) (.same rfl) ?_
 refine ite_O (P := fun o => Oth n m o.1) ?_ ?_
 ·unfold M.enter
  exact ite_O (P := fun o => Oth n m o.1) (.same rfl) (ite_O (P := fun o => Oth n m o.1) (.same rfl) (ite_O (P := fun o => Oth n m o.1) (.same rfl) (.set rfl)))
 refine ite_O (P := fun o => Oth n m o.1) ?_ ?_
 ·unfold M.exit
  split
  ·exact .same rfl
  ·refine ite_O (P := fun o => Oth n m o.1) (.set rfl) (ite_O (P := fun o => Oth n m o.1) (ite_O (P := fun o => Oth n m o.1) (.same rfl) (.leave rfl _ _ _)) (.leave rfl _ _ _))
 refine ite_O (P := fun o => Oth n m o.1) ?_ ?_
 ·unfold M.goIn
  exact ite_O (P := fun o => Oth n m o.1) (.same rfl) (ite_O (P := fun o => Oth n m o.1) (.same rfl) (ite_O (P := fun o => Oth n m o.1) (.same rfl) (.set rfl)))
 refine ite_O (P := fun o => Oth n m o.1) ?_ ?_
 ·unfold M.alloc
  exact ite_O (P := fun o => Oth n m o.1) (.same rfl) (ite_O (P := fun o => Oth n m o.1) (.same rfl) (.set rfl))
 refine ite_O (P := fun o => Oth n m o.1) ?_ ?_
 ·unfold M.load
  refine ite_O (P := fun o => Oth n m o.1) (.same rfl) ?_
  split
  ·exact .same rfl
  ·exact ite_O (P := fun o => Oth n m o.1) (.same rfl) (.set rfl)
 refine ite_O (P := fun o => Oth n m o.1) ?_ ?_
 ·unfold M.store
  refine ite_O (P := fun o => Oth n m o.1) (.same rfl) ?_
  split
  ·exact .same rfl
  ·refine ite_O (P := fun o => Oth n m o.1) (.same rfl) (Oth.put (to := M.setObj m _ _) ?_ _ _ _)
   exact .same rfl
 refine ite_O (P := fun o => Oth n m o.1) ?_ ?_
 ·unfold M.portal
  exact ite_O (P := fun o => Oth n m o.1) (.same rfl) (ite_O (P := fun o => Oth n m o.1) (.same rfl) (.set rfl))
 refine ite_O (P := fun o => Oth n m o.1) ?_ (.same rfl)
 unfold M.gate
 refine ite_O (P := fun o => Oth n m o.1) (.same rfl) (ite_O (P := fun o => Oth n m o.1) (.same rfl) (Oth.put (to := M.setAr m _ _) ?_ _ _ _))
 exact .same rfl
theorem Oth.step (m : M) (n : Int) (c : Cal) : Oth n m (m.step n c).1 := by
 unfold M.step
 split
 ·exact .same rfl
 ·split
  ·exact .same rfl
  ·exact .act m n c
theorem Oth.at {m m' : M} {n j : Int} (h : Oth n m m') (hj : j.toNat ≠ n.toNat) : m'.thAt j = m.thAt j := by
 unfold M.thAt
 rw [List.getD_eq_getElem?_getD, List.getD_eq_getElem?_getD, h _ hj]
structure Calm (m m' : M) : Prop where
 sc : m'.sc = m.sc
 ar : m'.ar = m.ar
theorem calm (m : M) (n : Int) {c : Cal} (h : c.1 = 0 ∨ c.1 = 1 ∨ c.1 = 6 ∨ c.1 = 8 ∨ c.1 = 10) : Calm m (m.step n c).1 := by
 unfold M.step
 split
 ·exact ⟨rfl, rfl⟩
 ·split
  ·exact ⟨rfl, rfl⟩
  ·obtain ⟨op, r, g, v, a, b, t⟩ := c
   show Calm m (m.act n (op, r, g, v, a, b, t)).1
   unfold M.act
   dsimp only at h ⊢
   rcases h with rfl | rfl | rfl | rfl | rfl
   ·exact ⟨rfl, rfl⟩
   ·exact ⟨rfl, rfl⟩
   ·show Calm m (m.goIn n a).1
    unfold M.goIn
    exact ite_O (P := fun o => Calm m o.1) ⟨rfl, rfl⟩ (ite_O (P := fun o => Calm m o.1) ⟨rfl, rfl⟩ (ite_O (P := fun o => Calm m o.1) ⟨rfl, rfl⟩ ⟨rfl, rfl⟩))
   ·show Calm m (m.load n r g b).1
    unfold M.load
    refine ite_O (P := fun o => Calm m o.1) ⟨rfl, rfl⟩ ?_
    split
    ·exact ⟨rfl, rfl⟩
    ·exact ite_O (P := fun o => Calm m o.1) ⟨rfl, rfl⟩ ⟨rfl, rfl⟩
   ·show Calm m (m.portal n r a).1
    unfold M.portal
    exact ite_O (P := fun o => Calm m o.1) ⟨rfl, rfl⟩ (ite_O (P := fun o => Calm m o.1) ⟨rfl, rfl⟩ ⟨rfl, rfl⟩)
end Go.Pen
set_option linter.unusedVariables false
set_option linter.unusedSimpArgs false
namespace Go.Proofs.YtihiooaimdoapaaGreat
open Go.Bm
set_option maxRecDepth 1000000
set_option maxHeartbeats 0
noncomputable def sg7 : Sig := ⟨[(false, (.slc (.slc (.pair (.int .u8) (.pair (.int .i64) (.int .i64)))))), (false, (.slc (.pair (.int .i64) (.pair (.int .u8) (.pair (.int .u8) (.pair (.int .u8) (.pair (.int .u8) (.pair (.int .i64) (.pair (.int .i64) (.int .i64))))))))))], [(false, .bool)], [], [(0, R0), (1, R1), (2, R2), (3, R3), (4, R4), (5, R5), (6, R6), (7, R7), (8, R8), (9, R9), (10, R10)]⟩
noncomputable def g.penfoldlaw12_ModelOwn_l0 (a1 : (List (Int × U8))) (v0 : U3) (v1 : Nat) (k : (U12 → U4)) (s : U12) : U4 := (jn (fun (k0 : (Unit × U0) → _) => (br (ilss s.1.1 (zN (len a1))) (br (ilss s.1.1 60) (k0 ((), ((), ((), ((), ()))))) (some ((true, ()), (v0.2.1, (v0.2.2.1, s.2.2.2.2))))) (some ((true, ()), (v0.2.1, (v0.2.2.1, s.2.2.2.2)))))) (fun (s1 : (Unit × U0)) => (gd (ige s.1.1) (gd (nlt (nN s.1.1) (len a1)) (gd (ige s.1.1) (gd (nlt (nN s.1.1) (len a1)) (jn (fun (k2 : U7 → _) => (br (ieql (nth (0, (0, (0, (0, (0, (0, (0, 0))))))) a1 (nN s.1.1)).2.1 0) (k2 ((true, ()), ((), ((), ((), ()))))) (br (ieql (nth (0, (0, (0, (0, (0, (0, (0, 0))))))) a1 (nN s.1.1)).2.1 1) (k2 ((true, ()), ((), ((), ((), ()))))) (br (ieql (nth (0, (0, (0, (0, (0, (0, (0, 0))))))) a1 (nN s.1.1)).2.1 6) (k2 ((true, ()), ((), ((), ((), ()))))) (br (ieql (nth (0, (0, (0, (0, (0, (0, (0, 0))))))) a1 (nN s.1.1)).2.1 8) (k2 ((true, ()), ((), ((), ((), ()))))) (k2 (((ieql (nth (0, (0, (0, (0, (0, (0, (0, 0))))))) a1 (nN s.1.1)).2.1 10), ()), ((), ((), ((), ())))))))))) (fun (s3 : U7) => (bd (g.model_Model_Regs v1 (isub IntKind.i64 1 (bits BinOp.and IntKind.i64 (nth (0, (0, (0, (0, (0, (0, (0, 0))))))) a1 (nN s.1.1)).1 1)) v0.2.1 v0.2.2.1 s.2.2.2.2.1 s.2.2.2.2.2.1 s.2.2.2.2.2.2.1 s.2.2.2.2.2.2.2.1 s.2.2.2.2.2.2.2.2.1 s.2.2.2.2.2.2.2.2.2.1 s.2.2.2.2.2.2.2.2.2.2.1 s.2.2.2.2.2.2.2.2.2.2.2.1 s.2.2.2.2.2.2.2.2.2.2.2.2.1) (fun p4 => (gd (nle (nadd 0 (len p4.1.1)) 16777216) (bd (g.model_Model_Entries v1 (isub IntKind.i64 1 (bits BinOp.and IntKind.i64 (nth (0, (0, (0, (0, (0, (0, (0, 0))))))) a1 (nN s.1.1)).1 1)) v0.2.1 v0.2.2.1 s.2.2.2.2.1 s.2.2.2.2.2.1 s.2.2.2.2.2.2.1 s.2.2.2.2.2.2.2.1 s.2.2.2.2.2.2.2.2.1 s.2.2.2.2.2.2.2.2.2.1 s.2.2.2.2.2.2.2.2.2.2.1 s.2.2.2.2.2.2.2.2.2.2.2.1 s.2.2.2.2.2.2.2.2.2.2.2.2.1) (fun p5 => (gd (nle (nadd 0 (len p5.1.1)) 16777216) (bd (g.model_Model_Portal v1 0 v0.2.1 v0.2.2.1 s.2.2.2.2.1 s.2.2.2.2.2.1 s.2.2.2.2.2.2.1 s.2.2.2.2.2.2.2.1 s.2.2.2.2.2.2.2.2.1 s.2.2.2.2.2.2.2.2.2.1 s.2.2.2.2.2.2.2.2.2.2.1 s.2.2.2.2.2.2.2.2.2.2.2.1 s.2.2.2.2.2.2.2.2.2.2.2.2.1) (fun p6 => (bd (g.model_Model_Used v1 0 v0.2.1 v0.2.2.1 s.2.2.2.2.1 s.2.2.2.2.2.1 s.2.2.2.2.2.2.1 s.2.2.2.2.2.2.2.1 s.2.2.2.2.2.2.2.2.1 s.2.2.2.2.2.2.2.2.2.1 s.2.2.2.2.2.2.2.2.2.2.1 s.2.2.2.2.2.2.2.2.2.2.2.1 s.2.2.2.2.2.2.2.2.2.2.2.2.1) (fun p7 => (bd (g.model_Model_Ctl v1 0 v0.2.1 v0.2.2.1 s.2.2.2.2.1 s.2.2.2.2.2.1 s.2.2.2.2.2.2.1 s.2.2.2.2.2.2.2.1 s.2.2.2.2.2.2.2.2.1 s.2.2.2.2.2.2.2.2.2.1 s.2.2.2.2.2.2.2.2.2.2.1 s.2.2.2.2.2.2.2.2.2.2.2.1 s.2.2.2.2.2.2.2.2.2.2.2.2.1) (fun p8 => (bd (g.model_Model_Portal v1 1 v0.2.1 v0.2.2.1 s.2.2.2.2.1 s.2.2.2.2.2.1 s.2.2.2.2.2.2.1 s.2.2.2.2.2.2.2.1 s.2.2.2.2.2.2.2.2.1 s.2.2.2.2.2.2.2.2.2.1 s.2.2.2.2.2.2.2.2.2.2.1 s.2.2.2.2.2.2.2.2.2.2.2.1 s.2.2.2.2.2.2.2.2.2.2.2.2.1) (fun p9 => (bd (g.model_Model_Used v1 1 v0.2.1 v0.2.2.1 s.2.2.2.2.1 s.2.2.2.2.2.1 s.2.2.2.2.2.2.1 s.2.2.2.2.2.2.2.1 s.2.2.2.2.2.2.2.2.1 s.2.2.2.2.2.2.2.2.2.1 s.2.2.2.2.2.2.2.2.2.2.1 s.2.2.2.2.2.2.2.2.2.2.2.1 s.2.2.2.2.2.2.2.2.2.2.2.2.1) (fun p10 => (bd (g.model_Model_Ctl v1 1 v0.2.1 v0.2.2.1 s.2.2.2.2.1 s.2.2.2.2.2.1 s.2.2.2.2.2.2.1 s.2.2.2.2.2.2.2.1 s.2.2.2.2.2.2.2.2.1 s.2.2.2.2.2.2.2.2.2.1 s.2.2.2.2.2.2.2.2.2.2.1 s.2.2.2.2.2.2.2.2.2.2.2.1 s.2.2.2.2.2.2.2.2.2.2.2.2.1) (fun p11 => (bd (g.model_Model_Portal v1 2 v0.2.1 v0.2.2.1 s.2.2.2.2.1 s.2.2.2.2.2.1 s.2.2.2.2.2.2.1 s.2.2.2.2.2.2.2.1 s.2.2.2.2.2.2.2.2.1 s.2.2.2.2.2.2.2.2.2.1 s.2.2.2.2.2.2.2.2.2.2.1 s.2.2.2.2.2.2.2.2.2.2.2.1 s.2.2.2.2.2.2.2.2.2.2.2.2.1) (fun p12 => (bd (g.model_Model_Used v1 2 v0.2.1 v0.2.2.1 s.2.2.2.2.1 s.2.2.2.2.2.1 s.2.2.2.2.2.2.1 s.2.2.2.2.2.2.2.1 s.2.2.2.2.2.2.2.2.1 s.2.2.2.2.2.2.2.2.2.1 s.2.2.2.2.2.2.2.2.2.2.1 s.2.2.2.2.2.2.2.2.2.2.2.1 s.2.2.2.2.2.2.2.2.2.2.2.2.1) (fun p13 => (bd (g.model_Model_Ctl v1 2 v0.2.1 v0.2.2.1 s.2.2.2.2.1 s.2.2.2.2.2.1 s.2.2.2.2.2.2.1 s.2.2.2.2.2.2.2.1 s.2.2.2.2.2.2.2.2.1 s.2.2.2.2.2.2.2.2.2.1 s.2.2.2.2.2.2.2.2.2.2.1 s.2.2.2.2.2.2.2.2.2.2.2.1 s.2.2.2.2.2.2.2.2.2.2.2.2.1) (fun p14 => (bd (g.model_Model_Portal v1 3 v0.2.1 v0.2.2.1 s.2.2.2.2.1 s.2.2.2.2.2.1 s.2.2.2.2.2.2.1 s.2.2.2.2.2.2.2.1 s.2.2.2.2.2.2.2.2.1 s.2.2.2.2.2.2.2.2.2.1 s.2.2.2.2.2.2.2.2.2.2.1 s.2.2.2.2.2.2.2.2.2.2.2.1 s.2.2.2.2.2.2.2.2.2.2.2.2.1) (fun p15 => (bd (g.model_Model_Used v1 3 v0.2.1 v0.2.2.1 s.2.2.2.2.1 s.2.2.2.2.2.1 s.2.2.2.2.2.2.1 s.2.2.2.2.2.2.2.1 s.2.2.2.2.2.2.2.2.1 s.2.2.2.2.2.2.2.2.2.1 s.2.2.2.2.2.2.2.2.2.2.1 s.2.2.2.2.2.2.2.2.2.2.2.1 s.2.2.2.2.2.2.2.2.2.2.2.2.1) (fun p16 => (bd (g.model_Model_Ctl v1 3 v0.2.1 v0.2.2.1 s.2.2.2.2.1 s.2.2.2.2.2.1 s.2.2.2.2.2.2.1 s.2.2.2.2.2.2.2.1 s.2.2.2.2.2.2.2.2.1 s.2.2.2.2.2.2.2.2.2.1 s.2.2.2.2.2.2.2.2.2.2.1 s.2.2.2.2.2.2.2.2.2.2.2.1 s.2.2.2.2.2.2.2.2.2.2.2.2.1) (fun p17 => (gd (ige s.1.1) (gd (nlt (nN s.1.1) (len a1)) (bd (g.model_Model_Do v1 (bits BinOp.and IntKind.i64 (nth (0, (0, (0, (0, (0, (0, (0, 0))))))) a1 (nN s.1.1)).1 1) ((nth (0, (0, (0, (0, (0, (0, (0, 0))))))) a1 (nN s.1.1)).2.1, ((nth (0, (0, (0, (0, (0, (0, (0, 0))))))) a1 (nN s.1.1)).2.2.1, ((nth (0, (0, (0, (0, (0, (0, (0, 0))))))) a1 (nN s.1.1)).2.2.2.1, ((nth (0, (0, (0, (0, (0, (0, (0, 0))))))) a1 (nN s.1.1)).2.2.2.2.1, ((nth (0, (0, (0, (0, (0, (0, (0, 0))))))) a1 (nN s.1.1)).2.2.2.2.2.1, ((nth (0, (0, (0, (0, (0, (0, (0, 0))))))) a1 (nN s.1.1)).2.2.2.2.2.2.1, (nth (0, (0, (0, (0, (0, (0, (0, 0))))))) a1 (nN s.1.1)).2.2.2.2.2.2.2)))))) v0.2.1 v0.2.2.1 s.2.2.2.2.1 s.2.2.2.2.2.1 s.2.2.2.2.2.2.1 s.2.2.2.2.2.2.2.1 s.2.2.2.2.2.2.2.2.1 s.2.2.2.2.2.2.2.2.2.1 s.2.2.2.2.2.2.2.2.2.2.1 s.2.2.2.2.2.2.2.2.2.2.2.1 s.2.2.2.2.2.2.2.2.2.2.2.2.1) (fun p18 => (bd (g.model_Model_Regs v1 (isub IntKind.i64 1 (bits BinOp.and IntKind.i64 (nth (0, (0, (0, (0, (0, (0, (0, 0))))))) a1 (nN s.1.1)).1 1)) v0.2.1 v0.2.2.1 p18.2.1 p18.2.2.1 p18.2.2.2.1 p18.2.2.2.2.1 p18.2.2.2.2.2.1 p18.2.2.2.2.2.2.1 p18.2.2.2.2.2.2.2.1 p18.2.2.2.2.2.2.2.2.1 p18.2.2.2.2.2.2.2.2.2.1) (fun p19 => (bd (g.penfoldref10_Words (cat [] p4.1.1) p19.1.1) (fun p20 => (bd (g.model_Model_Entries v1 (isub IntKind.i64 1 (bits BinOp.and IntKind.i64 (nth (0, (0, (0, (0, (0, (0, (0, 0))))))) a1 (nN s.1.1)).1 1)) v0.2.1 v0.2.2.1 p18.2.1 p18.2.2.1 p18.2.2.2.1 p18.2.2.2.2.1 p18.2.2.2.2.2.1 p18.2.2.2.2.2.2.1 p18.2.2.2.2.2.2.2.1 p18.2.2.2.2.2.2.2.2.1 p18.2.2.2.2.2.2.2.2.2.1) (fun p21 => (bd (g.penfoldref09_Same (cat [] p5.1.1) p21.1.1) (fun p22 => (jn (fun (k23 : (Unit × U0) → _) => (br (bnot p20.1.1) (some ((false, ()), (v0.2.1, (v0.2.2.1, p18.2)))) (br (bnot p22.1.1) (some ((false, ()), (v0.2.1, (v0.2.2.1, p18.2)))) (k23 ((), ((), ((), ((), ())))))))) (fun (s24 : (Unit × U0)) => (jn (fun (k25 : (Unit × U0) → _) => (br s3.1.1 (k25 ((), ((), ((), ((), ()))))) (k (((iadd IntKind.i64 s.1.1 1), ()), ((), ((), ((), p18.2))))))) (fun (s26 : (Unit × U0)) => (bd (g.model_Model_Ctl v1 0 v0.2.1 v0.2.2.1 p18.2.1 p18.2.2.1 p18.2.2.2.1 p18.2.2.2.2.1 p18.2.2.2.2.2.1 p18.2.2.2.2.2.2.1 p18.2.2.2.2.2.2.2.1 p18.2.2.2.2.2.2.2.2.1 p18.2.2.2.2.2.2.2.2.2.1) (fun p27 => (bd (g.model_Model_Portal v1 0 v0.2.1 v0.2.2.1 p18.2.1 p18.2.2.1 p18.2.2.2.1 p18.2.2.2.2.1 p18.2.2.2.2.2.1 p18.2.2.2.2.2.2.1 p18.2.2.2.2.2.2.2.1 p18.2.2.2.2.2.2.2.2.1 p18.2.2.2.2.2.2.2.2.2.1) (fun p28 => (br (bnot (ieql p6.1.1 p28.1.1)) (some ((false, ()), (v0.2.1, (v0.2.2.1, p18.2)))) (bd (g.model_Model_Used v1 0 v0.2.1 v0.2.2.1 p18.2.1 p18.2.2.1 p18.2.2.2.1 p18.2.2.2.2.1 p18.2.2.2.2.2.1 p18.2.2.2.2.2.2.1 p18.2.2.2.2.2.2.2.1 p18.2.2.2.2.2.2.2.2.1 p18.2.2.2.2.2.2.2.2.2.1) (fun p29 => (br (bnot (ieql (wrp IntKind.u64 p7.1.1) (wrp IntKind.u64 p29.1.1))) (some ((false, ()), (v0.2.1, (v0.2.2.1, p18.2)))) (br (bnot (ieql (wrp IntKind.u64 (iadd IntKind.i64 (iadd IntKind.i64 (iadd IntKind.i64 p8.1.1.2.1 (imul IntKind.i64 8 p8.1.1.1)) (imul IntKind.i64 64 (iadd IntKind.i64 p8.1.1.2.2.1 1))) (imul IntKind.i64 1024 p8.1.1.2.2.2))) (wrp IntKind.u64 (iadd IntKind.i64 (iadd IntKind.i64 (iadd IntKind.i64 p27.1.1.2.1 (imul IntKind.i64 8 p27.1.1.1)) (imul IntKind.i64 64 (iadd IntKind.i64 p27.1.1.2.2.1 1))) (imul IntKind.i64 1024 p27.1.1.2.2.2))))) (some ((false, ()), (v0.2.1, (v0.2.2.1, p18.2)))) (jn (fun (k30 : (Unit × U0) → _) => (br s3.1.1 (k30 ((), ((), ((), ((), ()))))) (k (((iadd IntKind.i64 s.1.1 1), ()), ((), ((), ((), p18.2))))))) (fun (s31 : (Unit × U0)) => (bd (g.model_Model_Ctl v1 1 v0.2.1 v0.2.2.1 p18.2.1 p18.2.2.1 p18.2.2.2.1 p18.2.2.2.2.1 p18.2.2.2.2.2.1 p18.2.2.2.2.2.2.1 p18.2.2.2.2.2.2.2.1 p18.2.2.2.2.2.2.2.2.1 p18.2.2.2.2.2.2.2.2.2.1) (fun p32 => (bd (g.model_Model_Portal v1 1 v0.2.1 v0.2.2.1 p18.2.1 p18.2.2.1 p18.2.2.2.1 p18.2.2.2.2.1 p18.2.2.2.2.2.1 p18.2.2.2.2.2.2.1 p18.2.2.2.2.2.2.2.1 p18.2.2.2.2.2.2.2.2.1 p18.2.2.2.2.2.2.2.2.2.1) (fun p33 => (br (bnot (ieql p9.1.1 p33.1.1)) (some ((false, ()), (v0.2.1, (v0.2.2.1, p18.2)))) (bd (g.model_Model_Used v1 1 v0.2.1 v0.2.2.1 p18.2.1 p18.2.2.1 p18.2.2.2.1 p18.2.2.2.2.1 p18.2.2.2.2.2.1 p18.2.2.2.2.2.2.1 p18.2.2.2.2.2.2.2.1 p18.2.2.2.2.2.2.2.2.1 p18.2.2.2.2.2.2.2.2.2.1) (fun p34 => (br (bnot (ieql (wrp IntKind.u64 p10.1.1) (wrp IntKind.u64 p34.1.1))) (some ((false, ()), (v0.2.1, (v0.2.2.1, p18.2)))) (br (bnot (ieql (wrp IntKind.u64 (iadd IntKind.i64 (iadd IntKind.i64 (iadd IntKind.i64 p11.1.1.2.1 (imul IntKind.i64 8 p11.1.1.1)) (imul IntKind.i64 64 (iadd IntKind.i64 p11.1.1.2.2.1 1))) (imul IntKind.i64 1024 p11.1.1.2.2.2))) (wrp IntKind.u64 (iadd IntKind.i64 (iadd IntKind.i64 (iadd IntKind.i64 p32.1.1.2.1 (imul IntKind.i64 8 p32.1.1.1)) (imul IntKind.i64 64 (iadd IntKind.i64 p32.1.1.2.2.1 1))) (imul IntKind.i64 1024 p32.1.1.2.2.2))))) (some ((false, ()), (v0.2.1, (v0.2.2.1, p18.2)))) (jn (fun (k35 : (Unit × U0) → _) => (br s3.1.1 (k35 ((), ((), ((), ((), ()))))) (k (((iadd IntKind.i64 s.1.1 1), ()), ((), ((), ((), p18.2))))))) (fun (s36 : (Unit × U0)) => (bd (g.model_Model_Ctl v1 2 v0.2.1 v0.2.2.1 p18.2.1 p18.2.2.1 p18.2.2.2.1 p18.2.2.2.2.1 p18.2.2.2.2.2.1 p18.2.2.2.2.2.2.1 p18.2.2.2.2.2.2.2.1 p18.2.2.2.2.2.2.2.2.1 p18.2.2.2.2.2.2.2.2.2.1) (fun p37 => (bd (g.model_Model_Portal v1 2 v0.2.1 v0.2.2.1 p18.2.1 p18.2.2.1 p18.2.2.2.1 p18.2.2.2.2.1 p18.2.2.2.2.2.1 p18.2.2.2.2.2.2.1 p18.2.2.2.2.2.2.2.1 p18.2.2.2.2.2.2.2.2.1 p18.2.2.2.2.2.2.2.2.2.1) (fun p38 => (br (bnot (ieql p12.1.1 p38.1.1)) (some ((false, ()), (v0.2.1, (v0.2.2.1, p18.2)))) (bd (g.model_Model_Used v1 2 v0.2.1 v0.2.2.1 p18.2.1 p18.2.2.1 p18.2.2.2.1 p18.2.2.2.2.1 p18.2.2.2.2.2.1 p18.2.2.2.2.2.2.1 p18.2.2.2.2.2.2.2.1 p18.2.2.2.2.2.2.2.2.1 p18.2.2.2.2.2.2.2.2.2.1) (fun p39 => (br (bnot (ieql (wrp IntKind.u64 p13.1.1) (wrp IntKind.u64 p39.1.1))) (some ((false, ()), (v0.2.1, (v0.2.2.1, p18.2)))) (br (bnot (ieql (wrp IntKind.u64 (iadd IntKind.i64 (iadd IntKind.i64 (iadd IntKind.i64 p14.1.1.2.1 (imul IntKind.i64 8 p14.1.1.1)) (imul IntKind.i64 64 (iadd IntKind.i64 p14.1.1.2.2.1 1))) (imul IntKind.i64 1024 p14.1.1.2.2.2))) (wrp IntKind.u64 (iadd IntKind.i64 (iadd IntKind.i64 (iadd IntKind.i64 p37.1.1.2.1 (imul IntKind.i64 8 p37.1.1.1)) (imul IntKind.i64 64 (iadd IntKind.i64 p37.1.1.2.2.1 1))) (imul IntKind.i64 1024 p37.1.1.2.2.2))))) (some ((false, ()), (v0.2.1, (v0.2.2.1, p18.2)))) (jn (fun (k40 : (Unit × U0) → _) => (br s3.1.1 (k40 ((), ((), ((), ((), ()))))) (k (((iadd IntKind.i64 s.1.1 1), ()), ((), ((), ((), p18.2))))))) (fun (s41 : (Unit × U0)) => (bd (g.model_Model_Ctl v1 3 v0.2.1 v0.2.2.1 p18.2.1 p18.2.2.1 p18.2.2.2.1 p18.2.2.2.2.1 p18.2.2.2.2.2.1 p18.2.2.2.2.2.2.1 p18.2.2.2.2.2.2.2.1 p18.2.2.2.2.2.2.2.2.1 p18.2.2.2.2.2.2.2.2.2.1) (fun p42 => (bd (g.model_Model_Portal v1 3 v0.2.1 v0.2.2.1 p18.2.1 p18.2.2.1 p18.2.2.2.1 p18.2.2.2.2.1 p18.2.2.2.2.2.1 p18.2.2.2.2.2.2.1 p18.2.2.2.2.2.2.2.1 p18.2.2.2.2.2.2.2.2.1 p18.2.2.2.2.2.2.2.2.2.1) (fun p43 => (br (bnot (ieql p15.1.1 p43.1.1)) (some ((false, ()), (v0.2.1, (v0.2.2.1, p18.2)))) (bd (g.model_Model_Used v1 3 v0.2.1 v0.2.2.1 p18.2.1 p18.2.2.1 p18.2.2.2.1 p18.2.2.2.2.1 p18.2.2.2.2.2.1 p18.2.2.2.2.2.2.1 p18.2.2.2.2.2.2.2.1 p18.2.2.2.2.2.2.2.2.1 p18.2.2.2.2.2.2.2.2.2.1) (fun p44 => (br (bnot (ieql (wrp IntKind.u64 p16.1.1) (wrp IntKind.u64 p44.1.1))) (some ((false, ()), (v0.2.1, (v0.2.2.1, p18.2)))) (br (bnot (ieql (wrp IntKind.u64 (iadd IntKind.i64 (iadd IntKind.i64 (iadd IntKind.i64 p17.1.1.2.1 (imul IntKind.i64 8 p17.1.1.1)) (imul IntKind.i64 64 (iadd IntKind.i64 p17.1.1.2.2.1 1))) (imul IntKind.i64 1024 p17.1.1.2.2.2))) (wrp IntKind.u64 (iadd IntKind.i64 (iadd IntKind.i64 (iadd IntKind.i64 p42.1.1.2.1 (imul IntKind.i64 8 p42.1.1.1)) (imul IntKind.i64 64 (iadd IntKind.i64 p42.1.1.2.2.1 1))) (imul IntKind.i64 1024 p42.1.1.2.2.2))))) (some ((false, ()), (v0.2.1, (v0.2.2.1, p18.2)))) (jn (fun (k45 : (Unit × U0) → _) => (k (((iadd IntKind.i64 s.1.1 1), ()), ((), ((), ((), p18.2)))))) (fun (s46 : (Unit × U0)) => (bd (g.model_Model_Ctl v1 4 v0.2.1 v0.2.2.1 p18.2.1 p18.2.2.1 p18.2.2.2.1 p18.2.2.2.2.1 p18.2.2.2.2.2.1 p18.2.2.2.2.2.2.1 p18.2.2.2.2.2.2.2.1 p18.2.2.2.2.2.2.2.2.1 p18.2.2.2.2.2.2.2.2.2.1) (fun p47 => (bd (g.model_Model_Portal v1 4 v0.2.1 v0.2.2.1 p18.2.1 p18.2.2.1 p18.2.2.2.1 p18.2.2.2.2.1 p18.2.2.2.2.2.1 p18.2.2.2.2.2.2.1 p18.2.2.2.2.2.2.2.1 p18.2.2.2.2.2.2.2.2.1 p18.2.2.2.2.2.2.2.2.2.1) (fun p48 => (br (bnot (ieql (wrp IntKind.u64 p7.1.1) p48.1.1)) (some ((false, ()), (v0.2.1, (v0.2.2.1, p18.2)))) (bd (g.model_Model_Used v1 4 v0.2.1 v0.2.2.1 p18.2.1 p18.2.2.1 p18.2.2.2.1 p18.2.2.2.2.1 p18.2.2.2.2.2.1 p18.2.2.2.2.2.2.1 p18.2.2.2.2.2.2.2.1 p18.2.2.2.2.2.2.2.2.1 p18.2.2.2.2.2.2.2.2.2.1) (fun p49 => (br (bnot (ieql (wrp IntKind.u64 (iadd IntKind.i64 (iadd IntKind.i64 (iadd IntKind.i64 p8.1.1.2.1 (imul IntKind.i64 8 p8.1.1.1)) (imul IntKind.i64 64 (iadd IntKind.i64 p8.1.1.2.2.1 1))) (imul IntKind.i64 1024 p8.1.1.2.2.2))) (wrp IntKind.u64 p49.1.1))) (some ((false, ()), (v0.2.1, (v0.2.2.1, p18.2)))) none))))))))))))))))))))))))))))))))))))))))))))))))))))))))))))))))))))))))))))))))))))))))))))))))))))))))))
noncomputable def g.penfoldlaw12_ModelOwn_l1 (a1 : (List (Int × U8))) (v0 : U3) (k : (U12 → U4)) (s : U12) : U4 := (jn (fun (k0 : (Unit × U0) → _) => (br (ilss s.1.1 (zN (len a1))) (br (ilss s.1.1 60) (k0 ((), ((), ((), ((), ()))))) (some ((true, ()), (v0.2.1, (v0.2.2.1, s.2.2.2.2))))) (some ((true, ()), (v0.2.1, (v0.2.2.1, s.2.2.2.2)))))) (fun (s1 : (Unit × U0)) => (gd (ige s.1.1) (gd (nlt (nN s.1.1) (len a1)) (gd (ige s.1.1) (gd (nlt (nN s.1.1) (len a1)) (jn (fun (k2 : U7 → _) => (br (ieql (nth (0, (0, (0, (0, (0, (0, (0, 0))))))) a1 (nN s.1.1)).2.1 0) (k2 ((true, ()), ((), ((), ((), ()))))) (br (ieql (nth (0, (0, (0, (0, (0, (0, (0, 0))))))) a1 (nN s.1.1)).2.1 1) (k2 ((true, ()), ((), ((), ((), ()))))) (br (ieql (nth (0, (0, (0, (0, (0, (0, (0, 0))))))) a1 (nN s.1.1)).2.1 6) (k2 ((true, ()), ((), ((), ((), ()))))) (br (ieql (nth (0, (0, (0, (0, (0, (0, (0, 0))))))) a1 (nN s.1.1)).2.1 8) (k2 ((true, ()), ((), ((), ((), ()))))) (k2 (((ieql (nth (0, (0, (0, (0, (0, (0, (0, 0))))))) a1 (nN s.1.1)).2.1 10), ()), ((), ((), ((), ())))))))))) (fun (s3 : U7) => none))))))))
noncomputable def g.penfoldlaw12_ModelOwn (a0 : (List (List U2))) (a1 : (List (Int × U8))) (d0 : T0) (d1 : T1) (d2 : T2) (d3 : T3) (d4 : T4) (d5 : T5) (d6 : T6) (d7 : T7) (d8 : T8) (d9 : T9) (d10 : T10) : U4 := (bd (g.penfoldlaw12_shown d0 d1 d2 d3 d4 d5 d6 d7 d8 d9 d10) (fun p0 => (bd g.penfoldlaw12_some (fun p1 => (bd (g.penfoldref10_Fit a0) (fun p2 => (bd (g.model_New (p1.1.1.1, (p1.1.1.2.1, (p1.1.1.2.2.1, p1.1.1.2.2.2))) p2.1.1 p0.2.2.2.2.2.2.2.2.2.1 p0.2.2.2.2.2.2.2.2.2.2.1 p0.2.2.2.2.2.2.2.2.2.2.2.1 p0.2.1 p0.2.2.1 p0.2.2.2.1 p0.2.2.2.2.1 p0.2.2.2.2.2.1 p0.2.2.2.2.2.2.1 p0.2.2.2.2.2.2.2.1 p0.2.2.2.2.2.2.2.2.1) (fun p3 => (opt p3.1.1 (jn (fun (k4 : (Unit × U0) → _) => (br (bnot p0.1.1) (some ((false, ()), (p3.2.1, (p3.2.2.1, (p3.2.2.2.1, (p3.2.2.2.2.1, (p3.2.2.2.2.2.1, (p3.2.2.2.2.2.2.1, (p3.2.2.2.2.2.2.2.1, (p3.2.2.2.2.2.2.2.2.1, (p0.2.2.2.2.2.2.2.2.2.1, (p0.2.2.2.2.2.2.2.2.2.2.1, (p0.2.2.2.2.2.2.2.2.2.2.2.1, ()))))))))))))) (some ((false, ()), (p3.2.1, (p3.2.2.1, (p3.2.2.2.1, (p3.2.2.2.2.1, (p3.2.2.2.2.2.1, (p3.2.2.2.2.2.2.1, (p3.2.2.2.2.2.2.2.1, (p3.2.2.2.2.2.2.2.2.1, (p0.2.2.2.2.2.2.2.2.2.1, (p0.2.2.2.2.2.2.2.2.2.2.1, (p0.2.2.2.2.2.2.2.2.2.2.2.1, ()))))))))))))))) (fun (s5 : (Unit × U0)) => (loop (g.penfoldlaw12_ModelOwn_l1 a1 p3) ((0, ()), ((), ((), ((), (p3.2.2.2.1, (p3.2.2.2.2.1, (p3.2.2.2.2.2.1, (p3.2.2.2.2.2.2.1, (p3.2.2.2.2.2.2.2.1, (p3.2.2.2.2.2.2.2.2.1, (p0.2.2.2.2.2.2.2.2.2.1, (p0.2.2.2.2.2.2.2.2.2.2.1, (p0.2.2.2.2.2.2.2.2.2.2.2.1, ())))))))))))))))) (fun p12 => (jn (fun (k13 : (Unit × U0) → _) => (br (bnot p0.1.1) (some ((false, ()), (p3.2.1, (p3.2.2.1, (p3.2.2.2.1, (p3.2.2.2.2.1, (p3.2.2.2.2.2.1, (p3.2.2.2.2.2.2.1, (p3.2.2.2.2.2.2.2.1, (p3.2.2.2.2.2.2.2.2.1, (p0.2.2.2.2.2.2.2.2.2.1, (p0.2.2.2.2.2.2.2.2.2.2.1, (p0.2.2.2.2.2.2.2.2.2.2.2.1, ()))))))))))))) (br (bnot (ieql p3.1.2.1 0)) (some ((false, ()), (p3.2.1, (p3.2.2.1, (p3.2.2.2.1, (p3.2.2.2.2.1, (p3.2.2.2.2.2.1, (p3.2.2.2.2.2.2.1, (p3.2.2.2.2.2.2.2.1, (p3.2.2.2.2.2.2.2.2.1, (p0.2.2.2.2.2.2.2.2.2.1, (p0.2.2.2.2.2.2.2.2.2.2.1, (p0.2.2.2.2.2.2.2.2.2.2.2.1, ()))))))))))))) (k13 ((), ((), ((), ((), ())))))))) (fun (s14 : (Unit × U0)) => (loop (g.penfoldlaw12_ModelOwn_l0 a1 p3 p12) ((0, ()), ((), ((), ((), (p3.2.2.2.1, (p3.2.2.2.2.1, (p3.2.2.2.2.2.1, (p3.2.2.2.2.2.2.1, (p3.2.2.2.2.2.2.2.1, (p3.2.2.2.2.2.2.2.2.1, (p0.2.2.2.2.2.2.2.2.2.1, (p0.2.2.2.2.2.2.2.2.2.2.1, (p0.2.2.2.2.2.2.2.2.2.2.2.1, ()))))))))))))))))))))))))))
noncomputable def F7 : Plain sg7 := fun x c d => g.penfoldlaw12_ModelOwn x.1 x.2.1 d.1 d.2.1 d.2.2.1 d.2.2.2.1 d.2.2.2.2.1 d.2.2.2.2.2.1 d.2.2.2.2.2.2.1 d.2.2.2.2.2.2.2.1 d.2.2.2.2.2.2.2.2.1 d.2.2.2.2.2.2.2.2.2.1 d.2.2.2.2.2.2.2.2.2.2.1
theorem ct7 : CtOk Tryz.prog 7 sg7 F7 := ct_of envok mixed fnok (hm := homes) (ctC_ok ct11 (ctC_ok ct12 (ctC_ok ct13 (ctC_ok ct14 (ctC_ok ct15 (ctC_ok ct16 (ctC_ok ct17 (ctC_ok ct20 (ctC_ok ct21 (ctC_ok ct27 (ctC_ok ct28 (ctC_ok ct29 (ctN_ok))))))))))))) 8 (fun x c d => by kernel_rfl)
end Go.Proofs.YtihiooaimdoapaaGreat
set_option linter.unusedVariables false
set_option linter.unusedSimpArgs false
namespace Go.Proofs.YtihiooaimdoapaaGreat
open Go.Bm Go.Pen
theorem ow_l0 {md : Nat} {v0 : CoN} {l : List Stp} (hc : ∀ x ∈ l, CalOk x.2) {m : M} {d0 d1 d2 d3 d4 d5 d6 d7 d8} (h : St v0.2.1 v0.2.2.1 d0 d1 d2 d3 d4 d5 d6 d7 d8 md 0 m) (hmp : m.p = pSome) :
  Yes (loop (g.penfoldlaw12_ModelOwn_l0 l v0 md) (coLo 0 d0 d1 d2 d3 d4 d5 d6 d7 d8)) := by
 refine loop_Q (fun r (st : CoL) => ∃ (i : Nat) (m : M) (d0 : T2) (d1 : T3) (d2 : T4) (d3 : T5) (d4 : T6) (d5 : T7) (d6 : T8) (d7 : T9) (d8 : T10), r + i = 60 ∧ St v0.2.1 v0.2.2.1 d0 d1 d2 d3 d4 d5 d6 d7 d8 md i m ∧ m.p = pSome ∧ st = coLo (i : Int) d0 d1 d2 d3 d4 d5 d6 d7 d8) Yes ?_ (m := 60)
  ⟨0, m, d0, d1, d2, d3, d4, d5, d6, d7, d8, rfl, h, hmp, rfl⟩ (by unfold big; omega)
 rintro r st ⟨i, m, d0, d1, d2, d3, d4, d5, d6, d7, d8, hri, h, hmp, rfl⟩ G hG
 have hlt : m.th.length = 2 := by have := h.mi.lt; rw [hmp] at this; exact Int.ofNat.inj this
 have hns : m.p.1 = 4 := by rw [hmp]
 unfold g.penfoldlaw12_ModelOwn_l0 coLo
 dsimp only
 (refine YS ?_)
 by_cases h1 : i < l.length
 ·(refine YS ?_)
  by_cases h2 : i < 60
  ·have hx : nth (0, (0, (0, (0, (0, (0, (0, 0))))))) l (nN (i : Int)) = l[i] := nth_lt h1
   have hco := hc l[i] (List.getElem_mem h1)
   have et : bits BinOp.and .i64 l[i].1 1 = l[i].1 % 2 := and_i64 1 (by omega) (by decide)
   have ei : iadd .i64 (i : Int) 1 = ((i + 1 : Nat) : Int) := by rw [iadd_s (by omega)]; omega
   have hn : 0 ≤ l[i].1 % 2 ∧ l[i].1 % 2 < m.th.length := by omega
   have en : isub .i64 1 (l[i].1 % 2) = 1 - l[i].1 % 2 := isub_s (by omega)
   have hj : 0 ≤ 1 - l[i].1 % 2 ∧ 1 - l[i].1 % 2 < m.th.length := by omega
   rw [hx, et, en]
   generalize l[i].1 % 2 = n at *
   generalize l[i] = z at *
   obtain ⟨w, op, rg, hh, vv, a, b, c⟩ := z
   dsimp only at hco ⊢
   have R0 := Regs_s h hj
   have E0 := Entries_s h hj
   have t0 := h.mi.thAt hj
   have lr0 := t0.1
   have le0 := t0.2.2.len
   have W0 := Words_s (l := (m.thAt (1 - n)).regs) (by omega)
   have S0 := Same_s (l := (m.thAt (1 - n)).ents) (by omega)
   have C0 := Ctl_s h (s := 0) (by omega)
   have C1 := Ctl_s h (s := 1) (by omega)
   have C2 := Ctl_s h (s := 2) (by omega)
   have C3 := Ctl_s h (s := 3) (by omega)
   have P0 := Portal_s h (s := 0) (by omega)
   have P1 := Portal_s h (s := 1) (by omega)
   have P2 := Portal_s h (s := 2) (by omega)
   have P3 := Portal_s h (s := 3) (by omega)
   have U0' := Used_s h (s := 0) (by omega)
   have U1' := Used_s h (s := 1) (by omega)
   have U2' := Used_s h (s := 2) (by omega)
   have U3' := Used_s h (s := 3) (by omega)
   obtain ⟨r0, r1, r2, r3, r4, r5, r6, r7, r8, hDo, h'⟩ := h.step (by omega) n (c := (op, rg, hh, vv, a, b, c)) hco
   have hp' : (m.step n (op, rg, hh, vv, a, b, c)).1.p = pSome := (p_step m n _).trans hmp
   have hgo : Yes (G (coLo (iadd .i64 (i : Int) 1) r0 r1 r2 r3 r4 r5 r6 r7 r8)) := hG (r - 1) _ (by omega) ⟨i + 1, _, r0, r1, r2, r3, r4, r5, r6, r7, r8, by omega, h', hp', by rw [← ei]⟩
   have hns' : (m.step n (op, rg, hh, vv, a, b, c)).1.p.1 = 4 := by rw [hp']
   have hlt' : ((m.step n (op, rg, hh, vv, a, b, c)).1.th.length : Int) = 2 := by have := h'.mi.lt; rw [hp'] at this; exact this
   have eth := (Oth.step m n (op, rg, hh, vv, a, b, c)).at (j := 1 - n) (by omega)
   have R0' := Regs_s h' (n := 1 - n) (by omega)
   have E0' := Entries_s h' (n := 1 - n) (by omega)
   rw [eth] at R0' E0'
   by_cases hcalm : op = 0 ∨ op = 1 ∨ op = 6 ∨ op = 8 ∨ op = 10
   ·have hk := calm m n (c := (op, rg, hh, vv, a, b, c)) hcalm
    have ear : ∀ s, (m.step n (op, rg, hh, vv, a, b, c)).1.arAt s = m.arAt s := fun s => by unfold M.arAt; rw [hk.ar]
    have D0 := Ctl_s h' (s := 0) (by omega)
    have D1 := Ctl_s h' (s := 1) (by omega)
    have D2 := Ctl_s h' (s := 2) (by omega)
    have D3 := Ctl_s h' (s := 3) (by omega)
    have Q0 := Portal_s h' (s := 0) (by omega)
    have Q1 := Portal_s h' (s := 1) (by omega)
    have Q2 := Portal_s h' (s := 2) (by omega)
    have Q3 := Portal_s h' (s := 3) (by omega)
    have V0' := Used_s h' (s := 0) (by omega)
    have V1' := Used_s h' (s := 1) (by omega)
    have V2' := Used_s h' (s := 2) (by omega)
    have V3' := Used_s h' (s := 3) (by omega)
    rw [hk.sc] at D0 D1 D2 D3
    rw [ear] at Q0 Q1 Q2 Q3 V0' V1' V2' V3'
    rcases hcalm with rfl | rfl | rfl | rfl | rfl
    ·repeat (refine YS ?_)
     exact hgo
    ·repeat (refine YS ?_)
     exact hgo
    ·repeat (refine YS ?_)
     exact hgo
    ·repeat (refine YS ?_)
     exact hgo
    ·have e10 : ieql (10 : Int) 10 = true := rfl
     repeat (refine YS ?_)
     exact hgo
   ·have e10 : ieql op 10 = false := decide_eq_false (by omega)
    repeat (refine YS ?_)
    exact hgo
  ·(refine YS ?_)
   exact Yes.mk
 ·(refine YS ?_)
  exact Yes.mk
theorem modelOwn_plain (f : List (List FOp)) (l : List Stp) (hf : okT (.slc (.slc (.pair (.int .u8) (.pair (.int .i64) (.int .i64))))) f)
  (hl : okT (.slc (.pair (.int .i64) (.pair (.int .u8) (.pair (.int .u8) (.pair (.int .u8) (.pair (.int .u8) (.pair (.int .i64) (.pair (.int .i64) (.int .i64))))))))) l) : ∃ d, F7 (f, l, ()) (emR _) (emR _) = some ((true, ()), d) := by
 have hop : ∀ x ∈ f, ∀ o ∈ x, 0 ≤ o.1 := fun x hx o ho => (((hf.2 x hx).2 o ho).1).1
 have hco : ∀ x ∈ l, CalOk x.2 := fun x hx => ⟨((hl.2 x hx).2.2.1).1, ((hl.2 x hx).2.2.2.1).1, ((hl.2 x hx).2.2.2.2.1).1⟩
 show Yes (g.penfoldlaw12_ModelOwn f l [] [] [] [] [] [] [] [] [] [] [])
 unfold g.penfoldlaw12_ModelOwn
 obtain ⟨d, hd⟩ := shown_yes [] [] [] [] [] [] [] [] [] [] []
 refine YbdI' hd ?_
 refine YbdI' (rfl : g.penfoldlaw12_some = some ((pSome, ()), ())) ?_
 refine YbdI' (ref10_Fit_s hop) ?_
 obtain ⟨e0, e1, e2, e3, e4, e5, e6, e7, k1, h⟩ := St.new (p := pSome) (by decide) (fitF_right f) d.2.2.2.2.2.2.2.2.1 d.2.2.2.2.2.2.2.2.2.1 d.2.2.2.2.2.2.2.2.2.2.1 d.1 d.2.1 d.2.2.1 d.2.2.2.1 d.2.2.2.2.1 d.2.2.2.2.2.1 d.2.2.2.2.2.2.1 d.2.2.2.2.2.2.2.1
 refine YbdI' k1 ?_
 repeat (refine YS ?_)
 exact ow_l0 hco h rfl
end Go.Proofs.YtihiooaimdoapaaGreat
set_option linter.unusedVariables false
set_option linter.unusedSimpArgs false
namespace Go.Proofs.YtihiooaimdoapaaGreat
open Go.Bm
open Go.ChangeShapes Go.WideShapes Go.ChangeAt Go.RowKit
theorem Tryz.own : ownKnob Tryz.prog.godebug = none := by kernel_rfl
theorem Tryz.laidOut : laidOutB Tryz.prog = true := by kernel_rfl
theorem modelOwn_rd0 (W : World) : RdT Tryz.prog W 26 (.slc (.slc (.pair (.int .u8) (.pair (.int .i64) (.int .i64))))) := (rdSlc Tryz.underlying26 (by kernel_rfl) (by decide) (rdSlc Tryz.underlying25 (by kernel_rfl) (by decide) (rdStruct Tryz.underlying24 (by kernel_rfl) (.cons (rdInt Tryz.underlying5) rfl (by kernel_rfl) (.cons (rdInt Tryz.underlying3) rfl (by kernel_rfl) (.one (rdInt Tryz.underlying3) rfl (by kernel_rfl)))))))
theorem modelOwn_rd1 (W : World) : RdT Tryz.prog W 50 (.slc (.pair (.int .i64) (.pair (.int .u8) (.pair (.int .u8) (.pair (.int .u8) (.pair (.int .u8) (.pair (.int .i64) (.pair (.int .i64) (.int .i64))))))))) := (rdSlc Tryz.underlying50 (by kernel_rfl) (by decide) (rdStruct Tryz.underlying54 (by kernel_rfl) (.cons (rdInt Tryz.underlying3) rfl (by kernel_rfl) (.one (rdStruct Tryz.underlying40 (by kernel_rfl) (.cons (rdInt Tryz.underlying5) rfl (by kernel_rfl) (.cons (rdInt Tryz.underlying5) rfl (by kernel_rfl) (.cons (rdInt Tryz.underlying5) rfl (by kernel_rfl) (.cons (rdInt Tryz.underlying5) rfl (by kernel_rfl) (.cons (rdInt Tryz.underlying3) rfl (by kernel_rfl) (.cons (rdInt Tryz.underlying3) rfl (by kernel_rfl) (.one (rdInt Tryz.underlying3) rfl (by kernel_rfl))))))))) rfl (by kernel_rfl)))))
set_option maxRecDepth 100000 in
theorem modelOwn_lifted (os : Os) (started : os.Started) (H : Type) (enc : TypeId × Value → H) :
  ReturnsInHanded {} Tryz.checked os 7 .any (Rows.modelOwnSpec.pre6 enc Tryz.prog Tryz.f7 Rows.modelOwnRow.domain false) (Rows.modelOwnSpec.post enc Tryz.prog Tryz.f7 false true false false) := by
 refine returnsInHanded_of_change (C := Tryz.checked) Tryz.own started (by kernel_rfl) Tryz.func7
  (ChangeSpec.witness6 (enc := enc) (C := Tryz.checked) false ⟨#[], #[.slice none 0 0, .slice none 0 0], []⟩ 8 (by kernel_rfl) (by kernel_rfl) (by kernel_rfl) (by kernel_rfl)) ?_
 intro W base args ds gs before hval0 hW hcnd _
 have hval : ∀ (j : Nat) t v, Tryz.f7.params[j]? = some t → args[j]? = some v → Value.okWide Tryz.prog W .any base t v := hval0
 have hW' := hW
 obtain ⟨p, q, hA0, hV, rfl, hfz, hnd⟩ := hW
 have hA : DataW.TrodAll enc Tryz.prog W 0 (fun _ => true) true Tryz.f7.params.toList args.toList ds p := hA0
 rw [Tryz.params7] at hA hval
 obtain ⟨v0, v1, d0, d1, p0, p1, rfl, rfl, rfl, h0, h1⟩ := trodAll_two hA
 obtain ⟨rfl, rfl⟩ := trodVars_none hV
 clear hA0 hval0
 simp only [List.append_nil] at hW'
 have c0 : v0.cells.toList = [v0] := by obtain ⟨_, _, _, rfl⟩ := okWide_slice Tryz.underlying26 (hval 0 26 v0 rfl rfl); rfl
 obtain ⟨x0, k0, o0⟩ := rd_top (modelOwn_rd0 W) rfl c0 h0
 have c1 : v1.cells.toList = [v1] := by obtain ⟨_, _, _, rfl⟩ := okWide_slice Tryz.underlying50 (hval 1 50 v1 rfl rfl); rfl
 obtain ⟨x1, k1, o1⟩ := rd_top (modelOwn_rd1 W) rfl c1 h1
 have hlt : ∀ x ∈ p0 ++ p1, x.block < W.heap.size := fun x hx => hW'.lt x (by simpa using hx)
 obtain ⟨dd, hF⟩ := modelOwn_plain x0 x1 o0 o1
 refine (law_true ct7 rfl (x0, x1, ()) hF rfl (vs := [v0, v1]) rfl (fun i d v e1 e2 => ?_)).mono fun e W' ⟨he, hs⟩ => ?_
 ·match i with
  | 0 => cases e1; cases e2; exact k0
  | 1 => cases e1; cases e2; exact k1
  | i + 2 => cases e1
 subst he
 have r0 : DataW.Trod enc Tryz.prog W' 0 (fun b => decide (b < W.heap.size)) true 26 (v0) d0 p0 :=
  WideElems.Trod_stays Tryz.laidOut (by kernel_rfl) (of_decide_eq_true (by kernel_rfl)) h0 (fun x hx => hs.sameAt (hlt x (by simp [hx]))) (fun x hx => by simpa using hlt x (by simp [hx]))
 have r1 : DataW.Trod enc Tryz.prog W' 0 (fun b => decide (b < W.heap.size)) true 50 (v1) d1 p1 :=
  WideElems.Trod_stays Tryz.laidOut (by kernel_rfl) (of_decide_eq_true (by kernel_rfl)) h1 (fun x hx => hs.sameAt (hlt x (by simp [hx]))) (fun x hx => by simpa using hlt x (by simp [hx]))
 refine ⟨_, rfl, _, _, _, [], p0 ++ p1, [], hW', ?_, ?_, ?_, hs.frame _, fun h => by cases h⟩
 ·exact trodAll_mk1 (shut_bool Tryz.underlying4 true)
 ·exact trodAll_mk2 r0 r1
 ·exact rfl
theorem modelOwn_holds : Rows.ModelOwnSaid :=
 OpenClaim.holds_of_wide 7 Tryz.f7 rfl rfl rfl rfl rfl rfl rfl ⟨rfl, rfl, rfl, rfl, rfl⟩ rfl rfl rfl rfl rfl (by kernel_rfl) Tryz.func7 (by kernel_rfl)
  (of_decide_eq_true (by kernel_rfl)) (by unfold Func.isWrapper; first | (rw [if_pos (by decide +kernel)]; kernel_rfl) | (rw [if_neg (by decide +kernel)]; exact ⟨rfl, rfl⟩))
  (fun os started H enc _ => modelOwn_lifted os started H enc)
end Go.Proofs.YtihiooaimdoapaaGreat
