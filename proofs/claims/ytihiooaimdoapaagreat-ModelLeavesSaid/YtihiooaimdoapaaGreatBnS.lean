/- From plain functions to statements: arguments are read as data, by their types; a law that answers true. -/
import Derived.Test.YtihiooaimdoapaaGreatBnR
import Derived.Deep.Slices
import Derived.WideShapes
import Derived.ChangeArms
import Derived.Deep.OwnRows
import Derived.WideKeyArgs
import Derived.OpenShut
import Derived.Carry
set_option linter.unusedVariables false
set_option linter.unusedSimpArgs false
namespace Go.Bm
noncomputable section
open Go.RowKit Go.ChangeShapes Go.WideShapes Go.Deep
/-- All cells of a world, as memory that stays. -/
def memOf (W : World) : Mem := fun b o => (W.cell? ⟨b, o, none⟩).filter (·.oneCell')
theorem memOf_of {W : World} {b o : Nat} {x : Value} (h : W.cell? ⟨b, o, none⟩ = some x) (h1 : x.oneCell' = true) : memOf W b o = some x := by simp [memOf, h, h1]
theorem cell_heap {W : World} {b o : Nat} {x : Value} (h : W.cell? ⟨b, o, none⟩ = some x) : ∃ cur ty fz, W.heap[b]? = some (.cells cur ty fz) ∧ cur[o]? = some x := by
  unfold World.cell? at h
  split at h
  · rename_i c ty fz hb
    simp at h
    exact ⟨c, ty, fz, hb, h⟩
  · cases h
def inR (k : IntKind) (a : Int) : Prop := k.min ≤ a ∧ a ≤ k.max
/-- What is known of a value of a type. -/
def okT : (t : Ty) → t.T → Prop
  | .int k, a => inR k a
  | .bool, _ => True
  | .unit, _ => True
  | .pair a b, x => okT a x.1 ∧ okT b x.2
  | .arr n t, l => List.length (α := t.T) l = n ∧ ∀ x : t.T, List.Mem (α := t.T) x l → okT t x
  | .slc t, l => List.length (α := t.T) l ≤ maxLen ∧ ∀ x : t.T, List.Mem (α := t.T) x l → okT t x
  | _, _ => False
def RdT (P : Program) (W : World) (t : TypeId) (u : Ty) : Prop :=
  ∀ (H : Type) (enc : TypeId × Value → H) (n : Nat) (cs : List Value) (x : DataW H × List MemPlace), DataW.trod enc P W 0 (fun _ => true) true n t cs = some x → ∃ a : u.T, VDs (memOf W) (encD u a) cs ∧ okT u a
theorem pick_list {α : Type} {Q : Nat → α → Prop} : ∀ n : Nat, (∀ i, i < n → ∃ x, Q i x) → ∃ xs : List α, xs.length = n ∧ ∀ (i : Nat) (x : α), xs[i]? = some x → Q i x
  | 0, _ => ⟨[], rfl, fun i x h => by simp at h⟩
  | n + 1, h => by
    obtain ⟨xs, h1, h2⟩ := pick_list n (fun i hi => h i (by omega))
    obtain ⟨x, hx⟩ := h n (by omega)
    refine ⟨xs ++ [x], by simp [h1], fun i y hy => ?_⟩
    by_cases hi : i < xs.length
    · rw [List.getElem?_append_left hi] at hy; exact h2 i y hy
    · rw [List.getElem?_append_right (by omega)] at hy
      have := (List.getElem?_eq_some_iff.1 hy).1
      have e : i - xs.length = 0 := by simp at this; omega
      rw [e] at hy
      simp at hy
      subst hy
      rw [show i = n by omega]; exact hx
theorem cells_get {W : World} {base n : Nat} {a : Addr} {cs : List Value} (h : W.cells? base a n = some cs) (k : Nat) (x : Value) (hk : cs[k]? = some x) : W.cell? (a.add k) = some x := by
  unfold World.cells? at h
  split at h
  · have hlen := mapM_some_length h
    have hlt := (List.getElem?_eq_some_iff.1 hk).1
    rw [List.length_range] at hlen
    rw [← hk]
    exact mapM_some_get h k k (by rw [List.getElem?_range (by omega)])
  · cases h
theorem rows_VDs {α : Type} {M : Mem} {f : α → List D} : ∀ ps : List (α × List Value), (∀ q ∈ ps, VDs M (f q.1) q.2) → VDs M (ps.map fun q => f q.1).flatten (ps.map (·.2)).flatten
  | [], _ => ⟨rfl, by simp⟩
  | q :: ps, h => by
    rw [List.map_cons, List.map_cons, List.flatten_cons, List.flatten_cons]
    exact (h q (List.mem_cons_self ..)).append (rows_VDs ps (fun r hr => h r (List.mem_cons_of_mem _ hr)))
theorem rows_mem {α : Type} {M : Mem} {b sz : Nat} : ∀ (ps : List (α × List Value)) (off : Nat), (∀ (i : Nat) (q : α × List Value), ps[i]? = some q → q.2.length = sz ∧ ∀ (k : Nat) (x : Value), q.2[k]? = some x → M b (off + i * sz + k) = some x) →
    ∀ (j : Nat) (x : Value), (ps.map (·.2)).flatten[j]? = some x → M b (off + j) = some x
  | [], _, _, j, x, h => by simp at h
  | q :: ps, off, h, j, x, hj => by
    obtain ⟨h1, h2⟩ := h 0 q rfl
    rw [List.map_cons, List.flatten_cons] at hj
    by_cases hlt : j < q.2.length
    · rw [List.getElem?_append_left hlt] at hj
      simpa using h2 j x hj
    · rw [List.getElem?_append_right (by omega)] at hj
      have := rows_mem ps (off + sz) (fun i r hr => by
        obtain ⟨k1, k2⟩ := h (i + 1) r (by simpa using hr)
        refine ⟨k1, fun k x hk => ?_⟩
        have := k2 k x hk
        rwa [show off + sz + i * sz + k = off + (i + 1) * sz + k by rw [Nat.add_mul]; omega]) _ x hj
      rwa [show off + sz + (j - q.2.length) = off + j by omega] at this
theorem VDs.one' {M : Mem} {d : D} {v : Value} (h : VD M d v) : VDs M [d] [v] := ⟨rfl, fun j c x k1 k2 => by
  cases j with
  | zero => simp at k1 k2; subst k1 k2; exact h
  | succ j => simp at k1⟩
theorem VDs.cut {M : Mem} {ds es : List D} {cs : List Value} (n : Nat) (h1 : VDs M ds (cs.take n)) (h2 : VDs M es (cs.drop n)) : VDs M (ds ++ es) cs := by
  have := h1.append h2
  rwa [List.take_append_drop] at this
theorem VDs.ones {M : Mem} {ds : List D} {vs : List Value} (h : VDs M ds vs) : ∀ x ∈ vs, x.oneCell' = true := fun x hx => by
  obtain ⟨j, hj⟩ := List.getElem?_of_mem hx
  have hl := (List.getElem?_eq_some_iff.1 hj).1
  exact (h.2 j _ x (List.getElem?_eq_getElem (by rw [h.1]; exact hl)) hj).one
section
variable {P : Program} {W : World}
theorem rdInt {t : TypeId} {k : IntKind} (ht : P.underlying t = some (.int k)) : RdT P W t (.int k) := by
  intro H enc n cs x h
  obtain ⟨a, rfl, _, hw⟩ := DataW.trod_int ht h
  refine ⟨a, .one' (.v _ rfl), ?_⟩
  have hw : (decide (k.min ≤ a) && decide (a ≤ k.max)) = true := hw
  rw [Bool.and_eq_true] at hw
  exact ⟨of_decide_eq_true hw.1, of_decide_eq_true hw.2⟩
theorem rdBool {t : TypeId} (ht : P.underlying t = some .bool) : RdT P W t .bool := by
  intro H enc n cs x h
  obtain ⟨a, rfl, _⟩ := DataW.trod_bool ht h
  exact ⟨a, .one' (.v _ rfl), trivial⟩
theorem encD_flat {u : Ty} (l : List u.T) (n : Nat) (hn : l.length = n) : encD (.arr n u) l = (l.map (encD u)).flatten := by
  subst hn
  have := range_nth (encD u) u.dflt l
  rw [← List.flatMap_def]
  exact this
theorem rdSlc {t e : TypeId} {u : Ty} (ht : P.underlying t = some (.slice e)) (he : P.cellsOf e = u.size) (h0 : 0 < u.size) (h : RdT P W e u) : RdT P W t (.slc u) := by
  intro H enc n cs x hx
  rcases open_slice ht hx with ⟨rfl, _⟩ | ⟨a, len, cap, m, n', D', Pl, rfl, hb, hl, hm, hmm, _, hel⟩
  · exact ⟨([] : List u.T), .one' (.sl0 u.size false none), Nat.zero_le _, fun x hx => by cases hx⟩
  · have hm' : m = cap := by simpa using hmm
    by_cases hc : cap = 0
    · subst hc
      have : len = 0 := by omega
      subst this
      exact ⟨([] : List u.T), .one' (.sl0 u.size false _), Nat.zero_le _, fun x hx => by cases hx⟩
    · obtain ⟨b, off, sp⟩ := a
      have hsp : sp = none := by
        obtain ⟨cs', k1, _⟩ := hel 0 (by omega)
        obtain ⟨_, hlen, hcell⟩ := World.cells?_some k1
        have g0 := hcell 0 (by omega)
        obtain ⟨c0, hc0⟩ : ∃ c0, cs'[0]? = some c0 := by
          cases cs' with
          | nil => simp at hlen; omega
          | cons c _ => exact ⟨c, rfl⟩
        rw [hc0] at g0
        simpa [Addr.add] using World.cell?_spot g0
      subst hsp
      obtain ⟨ps, h1, h2⟩ := pick_list (Q := fun i (q : u.T × List Value) => W.cells? 0 ((⟨b, off, none⟩ : Addr).add (i * P.cellsOf e)) (P.cellsOf e) = some q.2 ∧ VDs (memOf W) (encD u q.1) q.2 ∧ okT u q.1) len (fun i hi => by
        obtain ⟨cs', k1, k2⟩ := hel i (by omega)
        obtain ⟨x, k3, k4⟩ := h H enc n' cs' _ k2
        exact ⟨(x, cs'), k1, k3, k4⟩)
      have hmem : ∀ q ∈ ps, VDs (memOf W) (encD u q.1) q.2 := fun q hq => by
        obtain ⟨i, hi⟩ := List.getElem?_of_mem hq
        exact (h2 i q hi).2.1
      refine ⟨ps.map (·.1), .one' ?_, ?_, fun x hx' => ?_⟩
      · have hlen : ((ps.map (·.1)).map (encD u)).length = len := by simp [h1]
        have hv := rows_VDs ps hmem
        have hfl : ((ps.map (·.1)).map (encD u)).flatten = (ps.map fun q => encD u q.1).flatten := by rw [List.map_map]; rfl
        have := VD.sl (M := memOf W) u.size false ((ps.map (·.1)).map (encD u)) (some (b, off)) cap (ps.map (·.2)).flatten (by
          intro e' he'
          obtain ⟨x, _, rfl⟩ := List.mem_map.1 he'
          exact encD_len u x) (by rw [hlen]; exact hl) (fun h => by cases h) (fun h => by cases h) hm (by rw [hfl]; exact hv.1) (fun p j x hp hj => by
          cases hp
          refine rows_mem (M := memOf W) (b := b) (sz := u.size) ps off (fun i q hq => ?_) j x hj
          obtain ⟨k1, k2, _⟩ := h2 i q hq
          refine ⟨by rw [← k2.1, encD_len], fun k x hk => ?_⟩
          refine memOf_of ?_ (k2.ones x (List.mem_of_getElem? hk))
          have hcell := cells_get k1 k x hk
          rw [he] at hcell
          simpa [Addr.add_lit] using hcell) (fun j c x e1 e2 => hv.2 j c x (by rw [← hfl]; exact e1) e2)
        rw [hlen] at this
        exact this
      · show (ps.map (·.1)).length ≤ maxLen
        simp [h1]; omega
      · have hx' : x ∈ ps.map (·.1) := hx'
        obtain ⟨q, hq, rfl⟩ := List.mem_map.1 hx'
        obtain ⟨i, hi⟩ := List.getElem?_of_mem hq
        exact (h2 i q hi).2.2
theorem rdArr {t e : TypeId} {n : Nat} {u : Ty} (ht : P.underlying t = some (.array n e)) (he : P.cellsOf e = u.size) (hn : P.cellsOf t = n * u.size) (h : RdT P W e u) : RdT P W t (.arr n u) := by
  intro H enc m cs x hx
  obtain ⟨xs, m', _, _, hl, hxl, hel⟩ := DataW.trod_array ht hx
  rw [he] at hel
  have key : ∀ k, k ≤ n → ∃ as : List u.T, as.length = k ∧ VDs (memOf W) (as.map (encD u)).flatten (cs.drop ((n - k) * u.size)) ∧ ∀ x ∈ as, okT u x := by
    intro k
    induction k with
    | zero =>
      intro _
      refine ⟨[], rfl, ?_, by simp⟩
      rw [Nat.sub_zero, ← hn, ← hl, List.drop_length]; exact ⟨rfl, by simp⟩
    | succ k ih =>
      intro hk
      obtain ⟨as, a1, a2, a3⟩ := ih (by omega)
      have h1 := hel (n - (k + 1)) (by omega)
      have hx1 : xs[n - (k + 1)]? = some xs[n - (k + 1)] := List.getElem?_eq_getElem (by omega)
      rw [hx1] at h1
      obtain ⟨a, b1, b2⟩ := h H enc m' _ _ h1
      refine ⟨a :: as, by simp [a1], ?_, ?_⟩
      · rw [List.map_cons, List.flatten_cons]
        refine .cut u.size b1 ?_
        rw [List.drop_drop]
        have : (n - (k + 1)) * u.size + u.size = (n - k) * u.size := by rw [← Nat.succ_mul]; congr 1; omega
        rw [this]; exact a2
      · intro y hy
        rcases List.mem_cons.1 hy with rfl | hy
        · exact b2
        · exact a3 y hy
  obtain ⟨as, a1, a2, a3⟩ := key n (Nat.le_refl _)
  rw [Nat.sub_self, Nat.zero_mul, List.drop_zero] at a2
  refine ⟨as, ?_, a1, a3⟩
  rw [encD_flat as n a1]; exact a2
/-- Readers of a struct's fields. -/
inductive RdF (P : Program) (W : World) : List Field → Nat → Ty → Prop
  | one {fd : Field} {off : Nat} {a : Ty} (h : RdT P W fd.type a) (ho : fd.offset = off) (hs : P.cellsOf fd.type = a.size) : RdF P W [fd] off a
  | cons {fd : Field} {fs : List Field} {off : Nat} {a b : Ty} (h : RdT P W fd.type a) (ho : fd.offset = off) (hs : P.cellsOf fd.type = a.size) (k : RdF P W fs (off + a.size) b) : RdF P W (fd :: fs) off (.pair a b)
theorem RdF.read {H : Type} {enc : TypeId × Value → H} {n : Nat} {cs : List Value} {fs : List Field} {off : Nat} {u : Ty} (h : RdF P W fs off u) : cs.length = off + u.size →
    (∀ fd ∈ fs, ∃ x, DataW.trod enc P W 0 (fun _ => true) true n fd.type ((cs.drop fd.offset).take (P.cellsOf fd.type)) = some x) → ∃ a : u.T, VDs (memOf W) (encD u a) (cs.drop off) ∧ okT u a := by
  induction h with
  | one h ho hs =>
    intro hl hx
    obtain ⟨x, hx1⟩ := hx _ (List.mem_cons_self ..)
    obtain ⟨a, a1, a2⟩ := h H enc n _ x hx1
    refine ⟨a, ?_, a2⟩
    rw [ho, hs, List.take_of_length_le (by simp; omega)] at a1
    exact a1
  | cons h ho hs k ih =>
    rename_i fd fs off a b
    intro hl hx
    have hl : cs.length = off + (a.size + b.size) := hl
    obtain ⟨x, hx1⟩ := hx fd (List.mem_cons_self ..)
    obtain ⟨y, a1, a2⟩ := h H enc n _ x hx1
    obtain ⟨z, b1, b2⟩ := ih (by omega) (fun fd' hm => hx fd' (List.mem_cons_of_mem _ hm))
    refine ⟨(y, z), ?_, a2, b2⟩
    rw [ho, hs] at a1
    refine VDs.cut (ds := encD a y) (es := encD b z) a.size a1 ?_
    rw [List.drop_drop]; exact b1
theorem rdStruct {t : TypeId} {fs : Array Field} {u : Ty} (ht : P.underlying t = some (.struct fs)) (hl : P.cellsOf t = u.size) (h : RdF P W fs.toList 0 u) : RdT P W t u := by
  intro H enc n cs x hx
  obtain ⟨xs, m, _, _, hcl, hxl, hf⟩ := DataW.trod_struct ht hx
  obtain ⟨a, d1, d2⟩ := h.read (H := H) (enc := enc) (n := m) (cs := cs) (by rw [hcl, hl, Nat.zero_add]) (fun fd hm => by
    obtain ⟨i, hi⟩ := List.getElem?_of_mem hm
    have hi' : fs[i]? = some fd := by simpa using hi
    have h1 := hf i fd hi'
    have hlt : i < fs.size := (Array.getElem?_eq_some_iff.1 hi').1
    exact ⟨xs[i]'(by omega), by rw [h1]; exact List.getElem?_eq_getElem (by omega)⟩)
  rw [List.drop_zero] at d1
  exact ⟨a, d1, d2⟩
/-! ### the start -/
def gst (W : World) : G := ⟨fun _ => none, memOf W, fun _ => none⟩
theorem Inv.start {S : Hp} (hS : ∀ o, S.ob o = none) : Inv (gst W) S W where
  cells := fun o cs h => by rw [hS] at h; cases h
  oth := fun o x h => by rw [hS] at h; cases h
  fresh := fun _ _ => rfl
  lt := fun o b s h => by cases h
  inj := fun o o' x x' b s s' h => by rw [hS] at h; cases h
  mem := fun b i x h => by
    have h : (W.cell? ⟨b, i, none⟩).filter (·.oneCell') = some x := h
    rw [Option.filter_eq_some_iff] at h
    exact cell_heap h.1
  memd := fun o b s i x h => by rw [hS] at h; cases h
  lp := fun b l h => by cases h
/-- A whole argument. -/
theorem rd_top {t : TypeId} {u : Ty} {H : Type} {enc : TypeId × Value → H} {v : Value} {dd : DataW H} {p : List MemPlace} (hr : RdT P W t u) (hd : u.data = true) (hc : v.cells.toList = [v]) (h : DataW.Trod enc P W 0 (fun _ => true) true t v dd p) :
    ∃ a : u.T, V (gst W) (packA false u a) v ∧ okT u a := by
  obtain ⟨fuel, hf⟩ := h
  rw [hc] at hf
  obtain ⟨a, h1, h2⟩ := hr H enc fuel _ _ hf
  have h3 := VDs.cells (g := gst W) u a _ hd h1
  refine ⟨a, ?_, h2⟩
  show V (gst W) (match encA u a with | [c] => c | _ => .junk) v
  obtain ⟨hl, h4⟩ := h3
  match he : encA u a with
  | [c] => exact (h4 0 c v (by rw [he]; rfl) rfl).1
  | [] => exact .junk _
  | _ :: _ :: _ => exact .junk _
theorem rd_topA {t : TypeId} {u : Ty} {H : Type} {enc : TypeId × Value → H} {vs : Array Value} {dd : DataW H} {p : List MemPlace} (hr : RdT P W t u) (hd : u.data = true) (h : DataW.Trod enc P W 0 (fun _ => true) true t (.agg vs) dd p) :
    ∃ a : u.T, V (gst W) (packA true u a) (.agg vs) ∧ okT u a := by
  obtain ⟨fuel, hf⟩ := h
  obtain ⟨a, h1, h2⟩ := hr H enc fuel _ _ hf
  have h3 := VDs.cells (g := gst W) u a _ hd h1
  have h3 : Vs (gst W) (encA u a) vs.toList := by simpa [Value.cells] using h3
  exact ⟨a, by have := h3.agg; simpa [packA] using this, h2⟩
theorem okWide_agg {base : Nat} {t e : TypeId} {n : Nat} {v : Value} (ht : P.underlying t = some (.array n e)) (h : Value.okWide P W .any base t v) : ∃ vs, v = .agg vs := by
  unfold Value.okWide at h
  rw [ht] at h
  obtain ⟨cs, h1, _⟩ := h
  exact ⟨cs, h1⟩
def emK : (k : RK) → k.T
  | .box t => ([] : List t.T)
  | .row t => ([] : List (Option (List t.T)))
  | .map _ tk _ tv => ([] : List (List (tk.T × tv.T)))
def emR : (l : List (Nat × RK)) → Rgs l
  | [] => ()
  | p :: l => (emK p.2, emR l)
theorem regOb_em : ∀ (k : RK) (j : Nat), regOb k (emK k) j = none
  | .box _, _ => rfl
  | .row _, _ => rfl
  | .map _ _ _ _, _ => rfl
theorem rfind_em : ∀ (l : List (Nat × RK)) (r : Nat) (x : Rg), rfind (rgsL l (emR l)) r = some x → ∀ j, regOb x.k x.c j = none
  | [], r, x, h, j => by cases h
  | p :: l, r, x, h, j => by
    have h : (bif Nat.beq p.1 r then some (⟨p.1, p.2, emK p.2⟩ : Rg) else rfind (rgsL l (emR l)) r) = some x := h
    cases hp : Nat.beq p.1 r with
    | true => rw [hp] at h; cases h; exact regOb_em p.2 j
    | false => rw [hp] at h; exact rfind_em l r x h j
theorem h0_none (rl wl : List (Nat × RK)) (o : Nat) : (hp (h0 rl wl (emR rl) (emR wl))).ob o = none := by
  show (if o < lim then tOb .nil o else regAt (rgsL wl (emR wl) ++ rgsL rl (emR rl)) o) = none
  split
  · unfold tOb; rw [Tr.get_nil]
  · unfold regAt
    rw [rfind_app]
    cases h1 : rfind (rgsL wl (emR wl)) (rOf o) with
    | some x => exact rfind_em wl _ x h1 _
    | none =>
      simp only
      cases h2 : rfind (rgsL rl (emR rl)) (rOf o) with
      | some x => exact rfind_em rl _ x h2 _
      | none => rfl
/-- A law that answers true: what its statement asks of the world behind it. -/
theorem law_true {f : FuncId} {sg : Sig} {F : Plain sg} (h : CtOk P f sg F) (hrs : sg.rs = [(false, .bool)]) (x : Tup sg.ps) {y : Tup sg.rs} {d' : Rgs sg.wg} (hF : F x (emR sg.rg) (emR sg.wg) = some (y, d')) (hy : retA sg.rs y = .v (.bool true)) {vs : List Value}
    (hl : (argsA sg.ps x).length = vs.length) (hv : ∀ (i : Nat) (p : A) (v : Value), (argsA sg.ps x)[i]? = some p → vs[i]? = some v → V (gst W) p v) :
    Calls P f vs.toArray W fun e W' => e = .returned (.bool true) ∧ Go.World.Since W.heap.size W W' := by
  obtain ⟨t, nid, lk, hp⟩ := h.pc x _ _ y d' hF
  refine (hp (gst W) W vs (.start (h0_none _ _)) hl hv).mono ?_
  rintro e W' ⟨v, g', rfl, h1, _, h3⟩
  rw [hy] at h1
  cases h1
  exact ⟨rfl, h3.os, h3.tape, h3.output, h3.size, fun k hk => h3.frame k hk (by rintro ⟨o, s, x, _, e⟩; cases e)⟩
end
end
end Go.Bm
