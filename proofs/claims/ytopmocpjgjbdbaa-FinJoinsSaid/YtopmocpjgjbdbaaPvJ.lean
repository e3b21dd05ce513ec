/- Arguments read as data, by their types. -/
import Derived.Test.YtopmocpjgjbdbaaPvK
import Derived.OpenShut
import Derived.Carry
namespace Go.Pv
open Go.RowKit Go.ChangeShapes Go.WideShapes Go.Deep

def Rd {α : Type} (P : Program) (W : World) (t : TypeId) (f : α → List D) (ok : α → Prop) : Prop :=
  ∀ (H : Type) (enc : TypeId × Value → H) (n : Nat) (cs : List Value) (x : DataW H × List MemPlace), DataW.trod enc P W 0 (fun _ => true) true n t cs = some x → ∃ a : α, VsD (memOf W) (f a) cs ∧ ok a
section
variable {P : Program} {W : World}
theorem VsD.one_v {M : Mem} {v : Value} (h : v.oneCell' = true) : VsD M [.v v] [v] := ⟨rfl, fun j c x h1 h2 => by
  cases j with
  | zero => simp at h1 h2; subst h1 h2; exact ⟨.v _ h, h⟩
  | succ j => simp at h1⟩
theorem VsD.one_d {M : Mem} {d : D} {v : Value} (h : VD M d v) (h1 : v.oneCell' = true) : VsD M [d] [v] := ⟨rfl, fun j c x k1 k2 => by
  cases j with
  | zero => simp at k1 k2; subst k1 k2; exact ⟨h, h1⟩
  | succ j => simp at k1⟩
theorem VsD.nil {M : Mem} : VsD M [] [] := ⟨rfl, fun j c x h => by simp at h⟩
theorem rdI {t : TypeId} {k : IntKind} (ht : P.underlying t = some (.int k)) : Rd P W t (fun a : Int => [.v (.int k a)]) (fun a => (Lit.int k a).wf = true) := by
  intro H enc n cs x h
  obtain ⟨a, rfl, _, hw⟩ := DataW.trod_int ht h
  exact ⟨a, .one_v rfl, hw⟩
theorem rdB {t : TypeId} (ht : P.underlying t = some .bool) : Rd P W t (fun a : Bool => [.v (.bool a)]) (fun _ => True) := by
  intro H enc n cs x h
  obtain ⟨a, rfl, _⟩ := DataW.trod_bool ht h
  exact ⟨a, .one_v rfl, trivial⟩
theorem Rd.ok {α : Type} {t : TypeId} {f : α → List D} {ok ok' : α → Prop} (h : Rd P W t f ok) (k : ∀ a, ok a → ok' a) : Rd P W t f ok' := fun H enc n cs x e =>
  let ⟨a, h1, h2⟩ := h H enc n cs x e; ⟨a, h1, k a h2⟩
theorem rdSl {α : Type} {t e : TypeId} {sz : Nat} {f : α → List D} {ok : α → Prop} (ht : P.underlying t = some (.slice e)) (he : P.cellsOf e = sz) (h0 : 0 < sz) (hf : ∀ a, (f a).length = sz) (h : Rd P W e f ok) :
    Rd P W t (fun xs : List α => [.sl sz false (xs.map f)]) (fun xs => xs.length ≤ maxLen ∧ ∀ x ∈ xs, ok x) := by
  intro H enc n cs x hx
  rcases open_slice ht hx with ⟨rfl, _⟩ | ⟨a, len, cap, m, n', D', Pl, rfl, hb, hl, hm, hmm, _, hel⟩
  · exact ⟨[], .one_d (.sl0 sz none) rfl, by simp, by simp⟩
  · have hm' : m = cap := by simpa using hmm
    by_cases hc : cap = 0
    · subst hc
      have : len = 0 := by omega
      subst this
      exact ⟨[], .one_d (.sl0 sz _) rfl, by simp, by simp⟩
    · obtain ⟨b, off, sp⟩ := a
      have hsp : sp = none := by
        obtain ⟨cs', k1, _⟩ := hel 0 (by omega)
        obtain ⟨_, hlen, hcell⟩ := World.cells?_some k1
        have g0 := hcell 0 (by omega)
        obtain ⟨c0, hc0⟩ : ∃ c0, cs'[0]? = some c0 := by
          cases cs' with
          | nil => simp at hlen; omega
          | cons c _ => exact ⟨c, rfl⟩
        rw [hc0] at g0
        simpa [Addr.add] using World.cell?_spot g0
      subst hsp
      obtain ⟨ps, h1, h2⟩ := pick_list (Q := fun i (q : α × List Value) => W.cells? 0 ((⟨b, off, none⟩ : Addr).add (i * P.cellsOf e)) (P.cellsOf e) = some q.2 ∧ VsD (memOf W) (f q.1) q.2 ∧ ok q.1) len (fun i hi => by
        obtain ⟨cs', k1, k2⟩ := hel i (by omega)
        obtain ⟨x, k3, k4⟩ := h H enc n' cs' _ k2
        exact ⟨(x, cs'), k1, k3, k4⟩)
      have hmem : ∀ q ∈ ps, VsD (memOf W) (f q.1) q.2 := fun q hq => by
        obtain ⟨i, hi⟩ := List.getElem?_of_mem hq
        exact (h2 i q hi).2.1
      refine ⟨ps.map (·.1), .one_d ?_ rfl, by simp [h1]; omega, fun x hx' => ?_⟩
      · have hlen : ((ps.map (·.1)).map f).length = len := by simp [h1]
        have := VD.row (M := memOf W) (sz := sz) (full := false) (es := (ps.map (·.1)).map f) (vs := (ps.map (·.2)).flatten) b off cap (by
          intro e' he'
          obtain ⟨x, _, rfl⟩ := List.mem_map.1 he'
          exact hf x) (by rw [hlen]; exact hl) (fun h => by cases h) hm (by
          rw [List.map_map]; exact rows_VsD ps hmem) (rows_mem ps off (fun i q hq => by
            obtain ⟨k1, k2, _⟩ := h2 i q hq
            refine ⟨by rw [← k2.1, hf], fun k x hk => ?_⟩
            refine memOf_of ?_ (k2.one x (List.mem_of_getElem? hk))
            have hcell := cells_get k1 k x hk
            rw [he] at hcell
            simpa [Addr.add_lit] using hcell))
        rwa [hlen] at this
      · obtain ⟨q, hq, rfl⟩ := List.mem_map.1 hx'
        obtain ⟨i, hi⟩ := List.getElem?_of_mem hq
        exact (h2 i q hi).2.2
theorem VsD.split {M : Mem} {ds es : List D} {cs : List Value} (n : Nat) (h1 : VsD M ds (cs.take n)) (h2 : VsD M es (cs.drop n)) : VsD M (ds ++ es) cs := by
  have := h1.append h2
  rwa [List.take_append_drop] at this
theorem rdArr {α : Type} {t e : TypeId} {n sz : Nat} {f : α → List D} {ok : α → Prop} (ht : P.underlying t = some (.array n e)) (he : P.cellsOf e = sz) (hn : P.cellsOf t = n * sz) (h : Rd P W e f ok) :
    Rd P W t (fun xs : List α => (xs.map f).flatten) (fun xs => xs.length = n ∧ ∀ x ∈ xs, ok x) := by
  intro H enc m cs x hx
  obtain ⟨xs, m', _, _, hl, hxl, hel⟩ := DataW.trod_array ht hx
  rw [he] at hel
  have key : ∀ k, k ≤ n → ∃ as : List α, as.length = k ∧ VsD (memOf W) (as.map f).flatten (cs.drop ((n - k) * sz)) ∧ ∀ x ∈ as, ok x := by
    intro k
    induction k with
    | zero =>
      intro _
      refine ⟨[], rfl, ?_, by simp⟩
      rw [Nat.sub_zero, ← hn, ← hl, List.drop_length]; exact .nil
    | succ k ih =>
      intro hk
      obtain ⟨as, a1, a2, a3⟩ := ih (by omega)
      have h1 := hel (n - (k + 1)) (by omega)
      have hx1 : xs[n - (k + 1)]? = some xs[n - (k + 1)] := List.getElem?_eq_getElem (by omega)
      rw [hx1] at h1
      obtain ⟨a, b1, b2⟩ := h H enc m' _ _ h1
      refine ⟨a :: as, by simp [a1], ?_, ?_⟩
      · rw [List.map_cons, List.flatten_cons]
        refine .split sz b1 ?_
        rw [List.drop_drop]
        have : (n - (k + 1)) * sz + sz = (n - k) * sz := by rw [← Nat.succ_mul]; congr 1; omega
        rw [this]; exact a2
      · intro y hy
        rcases List.mem_cons.1 hy with rfl | hy
        · exact b2
        · exact a3 y hy
  obtain ⟨as, a1, a2, a3⟩ := key n (Nat.le_refl _)
  rw [Nat.sub_self, Nat.zero_mul, List.drop_zero] at a2
  exact ⟨as, a2, a1, a3⟩

/-- Readers of a struct's fields. -/
inductive RdF (P : Program) (W : World) : List Field → Nat → (List D → Prop) → Prop
  | nil {off : Nat} : RdF P W [] off (fun ds => ds = [])
  | cons {α : Type} {f : α → List D} {ok : α → Prop} {fd : Field} {fs : List Field} {off sz : Nat} {okR : List D → Prop} (h : Rd P W fd.type f ok) (ho : fd.offset = off) (hs : P.cellsOf fd.type = sz) (k : RdF P W fs (off + sz) okR) :
      RdF P W (fd :: fs) off (fun ds => ∃ a r, ds = f a ++ r ∧ ok a ∧ okR r)
def total (P : Program) : List Field → Nat → Nat
  | [], off => off
  | fd :: fs, off => total P fs (off + P.cellsOf fd.type)
theorem RdF.read {H : Type} {enc : TypeId × Value → H} {n : Nat} {cs : List Value} {fs : List Field} {off : Nat} {okR : List D → Prop} (h : RdF P W fs off okR) : cs.length = total P fs off →
    (∀ fd ∈ fs, ∃ x, DataW.trod enc P W 0 (fun _ => true) true n fd.type ((cs.drop fd.offset).take (P.cellsOf fd.type)) = some x) → ∃ ds, VsD (memOf W) ds (cs.drop off) ∧ okR ds := by
  induction h with
  | nil =>
    intro hl _
    refine ⟨[], ?_, rfl⟩
    simp only [total] at hl
    rw [← hl, List.drop_length]; exact .nil
  | cons h ho hs k ih =>
    intro hl hx
    rename_i α f ok fd fs off sz okR
    obtain ⟨x, hx1⟩ := hx fd (List.mem_cons_self ..)
    obtain ⟨a, a1, a2⟩ := h H enc n _ x hx1
    obtain ⟨ds, b1, b2⟩ := ih (by simpa only [total, hs] using hl) (fun fd' hm => hx fd' (List.mem_cons_of_mem _ hm))
    refine ⟨f a ++ ds, ?_, a, ds, rfl, a2, b2⟩
    rw [ho, hs] at a1
    refine .split sz a1 ?_
    rw [List.drop_drop]; exact b1
theorem rdStruct {α : Type} {t : TypeId} {fs : Array Field} {okR : List D → Prop} {f : α → List D} {ok : α → Prop} (ht : P.underlying t = some (.struct fs)) (h : RdF P W fs.toList 0 okR) (hl : P.cellsOf t = total P fs.toList 0) (hk : ∀ ds, okR ds → ∃ a, ds = f a ∧ ok a) : Rd P W t f ok := by
  intro H enc n cs x hx
  obtain ⟨xs, m, _, _, hcl, hxl, hf⟩ := DataW.trod_struct ht hx
  obtain ⟨ds, d1, d2⟩ := h.read (H := H) (enc := enc) (n := m) (cs := cs) (by rw [hcl, hl]) (fun fd hm => by
    obtain ⟨i, hi⟩ := List.getElem?_of_mem hm
    have hi' : fs[i]? = some fd := by simpa using hi
    have h1 := hf i fd hi'
    have hlt : i < fs.size := (Array.getElem?_eq_some_iff.1 hi').1
    exact ⟨xs[i]'(by omega), by rw [h1]; exact List.getElem?_eq_getElem (by omega)⟩)
  obtain ⟨a, rfl, a2⟩ := hk ds d2
  rw [List.drop_zero] at d1
  exact ⟨a, d1, a2⟩

/-- At the head: a whole argument. -/
theorem rd_top1 {α : Type} {t : TypeId} {d : α → D} {ok : α → Prop} {H : Type} {enc : TypeId × Value → H} {v : Value} {dd : DataW H} {p : List MemPlace} (hr : Rd P W t (fun a => [d a]) ok) (hc : v.cells.toList = [v]) (h : DataW.Trod enc P W 0 (fun _ => true) true t v dd p) :
    ∃ a, VD (memOf W) (d a) v ∧ ok a := by
  obtain ⟨fuel, hf⟩ := h
  rw [hc] at hf
  obtain ⟨a, h1, h2⟩ := hr H enc fuel _ _ hf
  exact ⟨a, (h1.2 0 (d a) v rfl rfl).1, h2⟩
theorem rd_topA {α : Type} {t : TypeId} {f : α → List D} {ok : α → Prop} {H : Type} {enc : TypeId × Value → H} {vs : Array Value} {dd : DataW H} {p : List MemPlace} (hr : Rd P W t f ok) (h : DataW.Trod enc P W 0 (fun _ => true) true t (.agg vs) dd p) :
    ∃ a, VD (memOf W) (.agg (f a)) (.agg vs) ∧ ok a := by
  obtain ⟨fuel, hf⟩ := h
  obtain ⟨a, h1, h2⟩ := hr H enc fuel _ _ hf
  exact ⟨a, .agg _ _ (by simpa [Value.cells] using h1.1) (by simpa [Value.cells] using h1.one) (fun i c x e1 e2 => (h1.2 i c x e1 (by simpa [Value.cells] using e2)).1), h2⟩
theorem okWide_agg {base : Nat} {t e : TypeId} {n : Nat} {v : Value} (ht : P.underlying t = some (.array n e)) (h : Value.okWide P W .any base t v) : ∃ vs, v = .agg vs := by
  unfold Value.okWide at h
  rw [ht] at h
  obtain ⟨cs, h1, _⟩ := h
  exact ⟨cs, h1⟩
end
end Go.Pv
