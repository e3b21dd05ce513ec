/- Arguments read as data: what a slice in the starting world is, in the logic of pure values. -/
import Derived.Test.YtopmocpjgjbdbaaPvG
import Derived.Deep.Slices
import Derived.WideShapes
import Derived.ChangeArms
import Derived.Deep.OwnRows
import Derived.WideKeyArgs
namespace Go.Pv
open Go.RowKit Go.ChangeShapes Go.WideShapes Go.Deep

/-- All cells of a world, as memory that stays. -/
def memOf (W : World) : Mem := fun b o => (W.cell? ⟨b, o, none⟩).filter (·.oneCell')
theorem memOf_of {W : World} {b o : Nat} {x : Value} (h : W.cell? ⟨b, o, none⟩ = some x) (h1 : x.oneCell' = true) : memOf W b o = some x := by simp [memOf, h, h1]
theorem Inv.start (W : World) : Inv (Gh.pur (memOf W)) ⟨[], []⟩ W := by
  refine ⟨rfl, rfl, fun b o x e => ?_, fun b o x e => ?_, by simp, by simp, by simp [Gh.pur], by simp [Gh.pur], by simp [Gh.pur], by simp [Gh.pur], by simp, by simp [Gh.pur], by simp [Gh.pur], .none⟩
  · simp only [Gh.pur, memOf, Option.filter_eq_some_iff] at e; exact e.1
  · simp only [Gh.pur, memOf, Option.filter_eq_some_iff] at e; exact e.2

theorem pick_list {α : Type} {Q : Nat → α → Prop} : ∀ n : Nat, (∀ i, i < n → ∃ x, Q i x) → ∃ xs : List α, xs.length = n ∧ ∀ (i : Nat) (x : α), xs[i]? = some x → Q i x
  | 0, _ => ⟨[], rfl, fun i x h => by simp at h⟩
  | n + 1, h => by
    obtain ⟨xs, h1, h2⟩ := pick_list n (fun i hi => h i (by omega))
    obtain ⟨x, hx⟩ := h n (by omega)
    refine ⟨xs ++ [x], by simp [h1], fun i y hy => ?_⟩
    by_cases hi : i < xs.length
    · rw [List.getElem?_append_left hi] at hy; exact h2 i y hy
    · rw [List.getElem?_append_right (by omega)] at hy
      have := (List.getElem?_eq_some_iff.1 hy).1
      have e : i - xs.length = 0 := by simp at this; omega
      rw [e] at hy
      simp at hy
      subst hy
      rw [show i = n by omega]; exact hx
theorem cells_get {W : World} {base n : Nat} {a : Addr} {cs : List Value} (h : W.cells? base a n = some cs) (k : Nat) (x : Value) (hk : cs[k]? = some x) : W.cell? (a.add k) = some x := by
  unfold World.cells? at h
  split at h
  · have hlen := mapM_some_length h
    have hlt := (List.getElem?_eq_some_iff.1 hk).1
    rw [List.length_range] at hlen
    rw [← hk]
    exact mapM_some_get h k k (by rw [List.getElem?_range (by omega)])
  · cases h
theorem rows_VsD {α : Type} {M : Mem} {f : α → List D} : ∀ ps : List (α × List Value), (∀ q ∈ ps, VsD M (f q.1) q.2) → VsD M (ps.map fun q => f q.1).flatten (ps.map (·.2)).flatten
  | [], _ => ⟨rfl, by simp⟩
  | q :: ps, h => by
    rw [List.map_cons, List.map_cons, List.flatten_cons, List.flatten_cons]
    exact (h q (List.mem_cons_self ..)).append (rows_VsD ps (fun r hr => h r (List.mem_cons_of_mem _ hr)))
theorem rows_mem {α : Type} {M : Mem} {b sz : Nat} : ∀ (ps : List (α × List Value)) (off : Nat), (∀ (i : Nat) (q : α × List Value), ps[i]? = some q → q.2.length = sz ∧ ∀ (k : Nat) (x : Value), q.2[k]? = some x → M b (off + i * sz + k) = some x) →
    ∀ (j : Nat) (x : Value), (ps.map (·.2)).flatten[j]? = some x → M b (off + j) = some x
  | [], _, _, j, x, h => by simp at h
  | q :: ps, off, h, j, x, hj => by
    obtain ⟨h1, h2⟩ := h 0 q rfl
    rw [List.map_cons, List.flatten_cons] at hj
    by_cases hlt : j < q.2.length
    · rw [List.getElem?_append_left hlt] at hj
      simpa using h2 j x hj
    · rw [List.getElem?_append_right (by omega)] at hj
      have := rows_mem ps (off + sz) (fun i r hr => by
        obtain ⟨k1, k2⟩ := h (i + 1) r (by simpa using hr)
        refine ⟨k1, fun k x hk => ?_⟩
        have := k2 k x hk
        rwa [show off + sz + i * sz + k = off + (i + 1) * sz + k by rw [Nat.add_mul]; omega]) _ x hj
      rwa [show off + sz + (j - q.2.length) = off + j by omega] at this

section
variable {H : Type} {enc : TypeId × Value → H} {P : Program} {W : World}
theorem rd_slice {α : Type} {t e : TypeId} {sz : Nat} {f : α → List D} {ok : α → Prop} {base : Nat} {v : Value} {d : DataW H} {p : List MemPlace} (ht : P.underlying t = some (.slice e)) (he : P.cellsOf e = sz)
    (elem : ∀ (n : Nat) (cs : List Value) (x : DataW H × List MemPlace), DataW.trod enc P W 0 (fun _ => true) true n e cs = some x → ∃ a : α, VsD (memOf W) (f a) cs ∧ ok a) (hf : ∀ a, (f a).length = sz)
    (hv : Value.okWide P W .any base t v) (h : DataW.Trod enc P W 0 (fun _ => true) true t v d p) : ∃ xs : List α, VD (memOf W) (.sl sz false (xs.map f)) v ∧ ∀ x ∈ xs, ok x := by
  obtain ⟨a0, len0, cap0, rfl⟩ := okWide_slice ht hv
  have hspot : ∀ a, a0 = some a → a.spot = none := by
    rintro a rfl
    simp only [Value.okWide, ht, Cell.okWide, Cell.ok] at hv
    exact hv.2.2.2.1
  obtain ⟨fuel, hfu⟩ := h
  rcases open_slice ht hfu with ⟨hcs, _⟩ | ⟨a, len, cap, m, n, D', Pl, hcs, hb, hl, hm, hmm, _, hx⟩
  · simp [Value.cells] at hcs
    obtain ⟨rfl, rfl, rfl⟩ := hcs
    exact ⟨[], .sl sz false [] none 0 [] (by simp) (Nat.le_refl _) (fun h => by cases h) (fun _ => rfl) (by simp) rfl (by simp) (by simp), by simp⟩
  · simp [Value.cells] at hcs
    obtain ⟨rfl, rfl, rfl⟩ := hcs
    have hs := hspot a rfl
    obtain ⟨b, off, sp⟩ := a
    simp only at hs
    subst hs
    have hm' : m = cap0 := by simpa using hmm
    obtain ⟨ps, h1, h2⟩ := pick_list (Q := fun i (q : α × List Value) => W.cells? 0 ((⟨b, off, none⟩ : Addr).add (i * P.cellsOf e)) (P.cellsOf e) = some q.2 ∧ VsD (memOf W) (f q.1) q.2 ∧ ok q.1) len0 (fun i hi => by
      obtain ⟨cs', k1, k2⟩ := hx i (by omega)
      obtain ⟨x, k3, k4⟩ := elem n cs' _ k2
      exact ⟨(x, cs'), k1, k3, k4⟩)
    have hmem : ∀ q ∈ ps, VsD (memOf W) (f q.1) q.2 := fun q hq => by
      obtain ⟨i, hi⟩ := List.getElem?_of_mem hq
      exact (h2 i q hi).2.1
    refine ⟨ps.map (·.1), ?_, fun x hx' => ?_⟩
    · have hlen : ((ps.map (·.1)).map f).length = len0 := by simp [h1]
      have := VD.row (M := memOf W) (sz := sz) (full := false) (es := (ps.map (·.1)).map f) (vs := (ps.map (·.2)).flatten) b off cap0 (by
        intro e' he'
        obtain ⟨x, _, rfl⟩ := List.mem_map.1 he'
        exact hf x) (by rw [hlen]; exact hl) (fun h => by cases h) hm (by
        rw [List.map_map]; exact rows_VsD ps hmem) (rows_mem ps off (fun i q hq => by
          obtain ⟨k1, k2, _⟩ := h2 i q hq
          refine ⟨by rw [← k2.1, hf], fun k x hk => ?_⟩
          refine memOf_of ?_ (k2.one x (List.mem_of_getElem? hk))
          have hcell := cells_get k1 k x hk
          rw [he] at hcell
          simpa [Addr.add_lit] using hcell))
      rwa [hlen] at this
    · obtain ⟨q, hq, rfl⟩ := List.mem_map.1 hx'
      obtain ⟨i, hi⟩ := List.getElem?_of_mem hq
      exact (h2 i q hi).2.2

theorem rd_int {t : TypeId} {k : IntKind} (ht : P.underlying t = some (.int k)) (n : Nat) (cs : List Value) (x : DataW H × List MemPlace) (h : DataW.trod enc P W 0 (fun _ => true) true n t cs = some x) :
    ∃ a : Int, VsD (memOf W) [.v (.int k a)] cs ∧ (Lit.int k a).wf = true := by
  obtain ⟨a, rfl, _, hw⟩ := DataW.trod_int ht h
  refine ⟨a, ⟨rfl, fun j c x h1 h2 => ?_⟩, hw⟩
  cases j with
  | zero => simp at h1 h2; subst h1 h2; exact ⟨.v _ rfl, rfl⟩
  | succ j => simp at h1
/-- A law of data that answers true: what its statement asks of the world behind it. -/
theorem law_true {f : FuncId} {as : List D} {vs : List Value} (h : PF P f as (.d (.v (.bool true)))) (hl : as.length = vs.length) (hv : ∀ (i : Nat) (d : D) (v : Value), as[i]? = some d → vs[i]? = some v → VD (memOf W) d v) :
    Calls P f vs.toArray W fun e W' => e = .returned (.bool true) ∧ Go.World.Since W.heap.size W W' := by
  refine (h (Gh.pur (memOf W)) W vs (Inv.start W) (by simpa using hl) (fun i p v h1 h2 => ?_)).mono ?_
  · simp only [List.getElem?_map, Option.map_eq_some_iff] at h1
    obtain ⟨d, hd, rfl⟩ := h1
    exact .d _ _ (hv i d v hd h2)
  · rintro e W' ⟨v, g', rfl, h1, _, h3⟩
    cases h1 with
    | d _ _ h1 =>
      cases h1 with
      | v _ _ => exact ⟨rfl, h3.os, h3.tape, h3.output, h3.size, fun k hk => h3.frame k hk (by rintro (⟨i, e⟩ | ⟨t, T, e, _⟩ | ⟨i, j, F, e, _⟩) <;> simp [Gh.pur] at e)⟩
end
end Go.Pv
