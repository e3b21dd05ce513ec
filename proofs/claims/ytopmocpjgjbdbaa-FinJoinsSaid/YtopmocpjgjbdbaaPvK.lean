/- Small facts that a printed reckoning uses. -/
import Derived.Test.YtopmocpjgjbdbaaPvU
namespace Go.Pv
open Go.RowKit
theorem and_l {a b : Bool} (h : (a && b) = true) : a = true := by cases a <;> simp_all
theorem and_r {a b : Bool} (h : (a && b) = true) : b = true := by cases a <;> simp_all
theorem and_f {a b : Bool} (h : (a && b) = false) : a = false ∨ b = false := by cases a <;> simp_all
theorem or_t {a b : Bool} (h : (a || b) = true) : a = true ∨ b = true := by cases a <;> simp_all
theorem or_fl {a b : Bool} (h : (a || b) = false) : a = false := by cases a <;> simp_all
theorem or_fr {a b : Bool} (h : (a || b) = false) : b = false := by cases a <;> simp_all
theorem nt {a : Bool} (h : (!a) = true) : a = false := by cases a <;> simp_all
theorem nf {a : Bool} (h : (!a) = false) : a = true := by cases a <;> simp_all
theorem and_tt {a b : Bool} (h : a = true) (k : b = true) : (a && b) = true := by simp [h, k]
theorem and_lf {a : Bool} (b : Bool) (h : a = false) : (a && b) = false := by simp [h]
theorem and_rf (a : Bool) {b : Bool} (h : b = false) : (a && b) = false := by simp [h]
theorem or_lt {a : Bool} (b : Bool) (h : a = true) : (a || b) = true := by simp [h]
theorem or_rt (a : Bool) {b : Bool} (h : b = true) : (a || b) = true := by simp [h]
theorem or_ff {a b : Bool} (h : a = false) (k : b = false) : (a || b) = false := by simp [h, k]
theorem not_t {a : Bool} (h : a = false) : (!a) = true := by simp [h]
theorem not_f {a : Bool} (h : a = true) : (!a) = false := by simp [h]
theorem idp {p : Prop} : p → p := fun h => h
theorem idt (a : Bool) : a = true → a = true := fun h => h
theorem idn (a : Bool) : a = false → (!a) = true := fun h => by simp [h]
theorem le_eq {p q : PV} (h : p = q) : PVle p q := h ▸ .rfl'
theorem le_int {k : IntKind} {a b : Int} (h : a = b) : PVle (.d (.v (.int k a))) (.d (.v (.int k b))) := h ▸ .rfl'
theorem le_bool {a b : Bool} (h : a = b) : PVle (.d (.v (.bool a))) (.d (.v (.bool b))) := h ▸ .rfl'
theorem le_sl {z : Nat} {f : Bool} {a b : List (List D)} (h : a = b) : PVle (.d (.sl z f a)) (.d (.sl z f b)) := h ▸ .rfl'
theorem le_app {t z : Nat} {a b : List (List D)} (h : a = b) : PVle (.app t z a) (.app t z b) := h ▸ .rfl'
theorem ix_get {α : Type} [Inhabited α] {f : α → List D} (xs : List α) (n : Int) (k : Nat) (hn : n = (k : Int)) (hk : k < xs.length) : 0 ≤ n ∧ (xs.map f)[n.toNat]? = some (f (xs.getD k default)) := by
  subst hn; exact ⟨by omega, by rw [Int.toNat_natCast]; exact map_get hk⟩
theorem ix_eq {es : List (List D)} {n : Int} {l : List D} (h : 0 ≤ n) (k : es[n.toNat]? = some l) : 0 ≤ n ∧ es[n.toNat]? = some l := ⟨h, k⟩
theorem len_map {α : Type} (f : α → List D) (xs : List α) : (xs.map f).length = xs.length := List.length_map ..
theorem app_ok' {b m n : Nat} (h1 : (m + n) * b ≤ 140737488355328) (h2 : m + n ≤ 9223372036854775807) : AppOk b m n := ⟨h1, h2⟩
theorem ite_min' (m n : Int) : (if n < m then n else m) = min m n := ite_min m n
theorem sl_map {α : Type} {f : α → List D} (xs : List α) (l u : Int) (i j : Nat) (hl : l = (i : Int)) (hu : u = (j : Int)) (h1 : i ≤ j) (h2 : j ≤ xs.length) :
    0 ≤ l ∧ l ≤ u ∧ u ≤ (xs.map f).length ∧ ((xs.map f).drop l.toNat).take (u.toNat - l.toNat) = ((xs.drop i).take (j - i)).map f := by
  subst hl hu
  refine ⟨by omega, by omega, by rw [List.length_map]; omega, by simp [List.map_take, List.map_drop]⟩
theorem sl_take {α : Type} {f : α → List D} (xs : List α) (u : Int) (j : Nat) (hu : u = (j : Int)) (h2 : j ≤ xs.length) :
    0 ≤ (0 : Int) ∧ 0 ≤ u ∧ u ≤ (xs.map f).length ∧ ((xs.map f).drop (0 : Int).toNat).take (u.toNat - (0 : Int).toNat) = (xs.take j).map f := by
  subst hu
  refine ⟨by omega, by omega, by rw [List.length_map]; omega, by simp [List.map_take]⟩
theorem row_ld {α : Type} [Inhabited α] {f : α → List D} {S : Sx} {b n k : Nat} {xs : List α} {c : D} (i : Nat) (hb : S.bs[b]? = some (some (row f xs))) (hf : ∀ x, (f x).length = n) (hi : i < xs.length) (hk : k < n) (hc : (f (xs.getD i default))[k]? = some c) :
    ∃ cs, S.bs[b]? = some (some cs) ∧ cs[i * n + k]? = some (.d c) := ⟨_, hb, by rw [row_get hf xs i k hi hk, hc]; rfl⟩
theorem row_lda {α : Type} [Inhabited α] {f : α → List D} {S : Sx} {b n : Nat} {xs : List α} (i : Nat) (hb : S.bs[b]? = some (some (row f xs))) (hf : ∀ x, (f x).length = n) (h0 : 0 < n) (hi : i < xs.length) :
    ∃ cs, S.bs[b]? = some (some cs) ∧ i * n + n ≤ cs.length ∧ cs ≠ [] ∧ (cs.drop (i * n)).take n = (f (xs.getD i default)).map .d :=
  ⟨_, hb, by rw [row_len hf, ← Nat.succ_mul]; exact Nat.mul_le_mul_right _ hi, row_ne hf h0 hi, row_thing hf xs i hi⟩
end Go.Pv
namespace Go.Pv
inductive TabL (P : Program) : Tab → Prop
  | nil : TabL P []
  | cons {t : Nat} {e : TyE} {r : Tab} (h : TyOk P t e) (k : TabL P r) : TabL P ((t, e) :: r)
theorem tget_ok {P : Program} {T : Tab} (h : TabL P T) : ∀ t e, tget T t = some e → TyOk P t e := by
  induction h with
  | nil => intro t e h; cases h
  | cons h k ih =>
    rename_i t0 e0 r
    intro t e ht
    unfold tget at ht
    cases hb : Nat.beq t0 t with
    | true =>
      rw [hb] at ht; simp only [cond_true, Option.some.injEq] at ht
      obtain rfl := Nat.eq_of_beq_eq_true hb
      subst ht; exact h
    | false => rw [hb] at ht; exact ih t e ht
inductive FnL (P : Program) : List Nat → Prop
  | nil : FnL P []
  | cons {f : Nat} {r : List Nat} (h : FnOk P f) (k : FnL P r) : FnL P (f :: r)
theorem fns_ok {P : Program} {l : List Nat} (h : FnL P l) : ∀ f, l.any (Nat.beq f) = true → FnOk P f := by
  induction h with
  | nil => intro f h; simp at h
  | cons h k ih =>
    rename_i f0 r
    intro f hf
    rw [List.any_cons, Bool.or_eq_true] at hf
    rcases hf with hf | hf
    · obtain rfl := Nat.eq_of_beq_eq_true hf; exact h
    · exact ih f hf
end Go.Pv
namespace Go.Pv
theorem or_r {a b : Bool} (h : (a || b) = true) (k : a = false) : b = true := by simp_all
theorem or_l {a b : Bool} (h : (a || b) = true) (k : b = false) : a = true := by simp_all
theorem and_fr {a b : Bool} (h : (a && b) = false) (k : a = true) : b = false := by simp_all
theorem and_fl {a b : Bool} (h : (a && b) = false) (k : b = true) : a = false := by simp_all
end Go.Pv
namespace Go.Pv
theorem sl_takem {α : Type} {f : α → List D} (xs : List α) (u : Int) (n : Nat) (hu : u = ((min xs.length n : Nat) : Int)) :
    0 ≤ (0 : Int) ∧ 0 ≤ u ∧ u ≤ (xs.map f).length ∧ ((xs.map f).drop (0 : Int).toNat).take (u.toNat - (0 : Int).toNat) = (xs.take n).map f := by
  subst hu
  refine ⟨by omega, by omega, by rw [List.length_map]; omega, ?_⟩
  simp only [Int.toNat_zero, List.drop_zero, Nat.sub_zero, Int.toNat_natCast, ← List.map_take]
  congr 1
  rw [List.take_eq_take_iff]; omega
end Go.Pv
namespace Go.Pv
inductive EqL (P : Program) : List Nat → Prop
  | nil : EqL P []
  | cons {t : Nat} {r : List Nat} (h : EqTy P t) (k : EqL P r) : EqL P (t :: r)
theorem eqs_ok {P : Program} {l : List Nat} (h : EqL P l) : ∀ t, l.any (Nat.beq t) = true → EqTy P t := by
  induction h with
  | nil => intro f h; simp at h
  | cons h k ih =>
    rename_i f0 r
    intro f hf
    rw [List.any_cons, Bool.or_eq_true] at hf
    rcases hf with hf | hf
    · obtain rfl := Nat.eq_of_beq_eq_true hf; exact h
    · exact ih f hf
theorem eqTy_of {P : Program} {t : Nat} {fs : Array Field} (h1 : P.stoodInHeld t = false) (h2 : P.eqGuardType P.depth t = false) (h3 : P.underlying t = some (.struct fs)) (h4 : fs.toList.all (fun f => f.name != "_") = true) : EqTy P t :=
  ⟨h1, h2, fun fs' e f hf => by
    rw [h3] at e
    cases e
    have := List.all_eq_true.1 h4 f hf
    simpa using this⟩
end Go.Pv
namespace Go.Pv
theorem frz_len {α : Type} {f : α → List D} {sz : Nat} (xs : List α) (hf : ∀ x, (f x).length = sz) : ∀ e ∈ xs.map f, e.length = sz := fun e he => by
  obtain ⟨x, _, rfl⟩ := List.mem_map.1 he
  exact hf x
end Go.Pv
namespace Go.Pv
/-- A row of slices, each with a tag of its own. -/
def rowT (t sz : Nat) : List (List (List D)) → List PV
  | [] => []
  | es :: r => .app t sz es :: rowT (t + 1) sz r
theorem rowT_len {sz : Nat} : ∀ (l : List (List (List D))) (t : Nat), (rowT t sz l).length = l.length
  | [], _ => rfl
  | _ :: r, t => by simp [rowT, rowT_len r]
theorem rowT_get {sz : Nat} : ∀ (l : List (List (List D))) (t i : Nat), (rowT t sz l)[i]? = (l[i]?).map (.app (t + i) sz)
  | [], _, i => by simp [rowT]
  | es :: r, t, 0 => by simp [rowT]
  | es :: r, t, i + 1 => by
    simp only [rowT, List.getElem?_cons_succ, rowT_get r (t + 1) i]
    rw [show t + 1 + i = t + (i + 1) by omega]
theorem rowT_set {sz : Nat} {es : List (List D)} : ∀ (l : List (List (List D))) (t i : Nat), (rowT t sz l).set i (.app (t + i) sz es) = rowT t sz (l.set i es)
  | [], _, i => by simp [rowT]
  | e :: r, t, 0 => by simp [rowT]
  | e :: r, t, i + 1 => by
    simp only [rowT, List.set_cons_succ]
    rw [show t + (i + 1) = t + 1 + i by omega, rowT_set r (t + 1) i]
theorem rowT_tag (t sz n : Nat) : tagRow t sz n = rowT t sz (List.replicate n []) := by
  apply List.ext_getElem?
  intro i
  rw [rowT_get]
  unfold tagRow
  rw [List.getElem?_map, List.getElem?_replicate]
  by_cases h : i < n <;> simp [h]
theorem rowT_nob {b sz : Nat} : ∀ (l : List (List (List D))) (t : Nat), PV.nobL b (rowT t sz l) = true
  | [], _ => rfl
  | _ :: r, t => by simp [rowT, PV.nobL, PV.nob, rowT_nob r]
theorem rowT_ok {nb nt sz : Nat} : ∀ (l : List (List (List D))) (t : Nat), t + l.length ≤ nt → PV.okL nb nt (rowT t sz l) = true
  | [], _, _ => rfl
  | _ :: r, t, h => by
    simp only [List.length_cons] at h
    simp only [rowT, PV.okL, PV.ok, Bool.and_eq_true, decide_eq_true_eq]
    exact ⟨by omega, rowT_ok r (t + 1) (by omega)⟩
theorem rowT_toDs {sz : Nat} : ∀ (l : List (List (List D))) (t : Nat), toDs (rowT t sz l) = some (l.map fun es => .sl sz false es)
  | [], _ => rfl
  | es :: r, t => by simp [rowT, toDs, PV.toD1, rowT_toDs r]
theorem splice_one {p : PV} : ∀ (cs : List PV) (i : Nat), i < cs.length → splice cs i [p] = cs.set i p
  | [], i, h => by simp at h
  | c :: cs, 0, _ => by simp [splice]
  | c :: cs, i + 1, h => by simp only [splice, List.set_cons_succ]; rw [splice_one cs i (by simpa using h)]
end Go.Pv
namespace Go.Pv
theorem rowE_ld {α : Type} {f : α → List D} {S : Sx} {b t sz : Nat} {xss : List (List α)} (i : Nat) (hb : S.bs[b]? = some (some (rowT t sz (xss.map (·.map f))))) (hi : i < xss.length) :
    ∃ cs, S.bs[b]? = some (some cs) ∧ cs[0 + i * 1]? = some (.app (t + i) sz ((xss.getD i []).map f)) := by
  refine ⟨_, hb, ?_⟩
  rw [show 0 + i * 1 = i by omega, rowT_get, List.getElem?_map, List.getElem?_eq_getElem hi]
  simp [List.getD, hi]
theorem rowE_st {α : Type} {f : α → List D} {S : Sx} {b t sz : Nat} {xss : List (List α)} (i : Nat) (es : List α) {p : PV} (hp : p = .app (t + i) sz (es.map f)) (hb : S.bs[b]? = some (some (rowT t sz (xss.map (·.map f))))) (hi : i < xss.length) :
    ∃ cs, S.bs[b]? = some (some cs) ∧ 0 + i * 1 + 1 ≤ cs.length ∧ cs ≠ [] ∧ splice cs (0 + i * 1) [p] = rowT t sz ((xss.set i es).map (·.map f)) := by
  subst hp
  have hl : (rowT t sz (xss.map (·.map f))).length = xss.length := by rw [rowT_len, List.length_map]
  refine ⟨_, hb, by omega, by intro h; rw [h] at hl; simp at hl; omega, ?_⟩
  rw [show 0 + i * 1 = i by omega, splice_one _ _ (by omega), rowT_set, List.map_set]
end Go.Pv
namespace Go.Pv
theorem toDs_d : ∀ ds : List D, toDs (ds.map .d) = some ds
  | [] => rfl
  | d :: ds => by simp [toDs, PV.toD1, toDs_d ds]
theorem frz_len1 {α : Type} (g : α → D) (l : List α) : ∀ e ∈ l.map (fun x => [g x]), e.length = 1 := fun e he => by
  obtain ⟨x, _, rfl⟩ := List.mem_map.1 he; rfl
theorem mkok {b n : Nat} (h1 : n * b ≤ 281474976710656) (h2 : n ≤ 9223372036854775807) : mkOk b n := ⟨h1, h2⟩
end Go.Pv
namespace Go.Pv
theorem sx_eq {a b : Sx} (h1 : a.bs = b.bs) (h2 : a.ts = b.ts) : a = b := by cases a; cases b; simp at h1 h2; subst h1 h2; rfl
end Go.Pv
namespace Go.Pv
theorem PVle.fnd {f : FuncId} : PVle (.fn f [] []) (.d (.v (.func (.func f) #[] #[]))) := fun g v hv => by
  cases hv with
  | fn _ _ _ fv cv h1 h2 _ _ =>
    have e1 : fv = #[] := Array.eq_empty_of_size_eq_zero h1.symm
    have e2 : cv = #[] := Array.eq_empty_of_size_eq_zero h2.symm
    subst e1 e2
    exact .d _ _ (.v _ rfl)
end Go.Pv
namespace Go.Pv
/-- Rows of things of one cell. -/
theorem row1_ld {α : Type} [Inhabited α] {f : α → List D} {S : Sx} {b : Nat} {xs : List α} {c : D} (i : Nat) (hb : S.bs[b]? = some (some (row f xs))) (hf : ∀ x, (f x).length = 1) (hi : i < xs.length) (hc : (f (xs.getD i default))[0]? = some c) :
    ∃ cs, S.bs[b]? = some (some cs) ∧ cs[0 + i * 1]? = some (.d c) := ⟨_, hb, by rw [show 0 + i * 1 = i * 1 + 0 by omega, row_get hf xs i 0 hi (by omega), hc]; rfl⟩
theorem row1_st {α : Type} [Inhabited α] {f : α → List D} {S : Sx} {b : Nat} {xs : List α} (i : Nat) (x' : α) {c : D} (hc : f x' = [c]) (hb : S.bs[b]? = some (some (row f xs))) (hf : ∀ x, (f x).length = 1) (hi : i < xs.length) :
    ∃ cs, S.bs[b]? = some (some cs) ∧ 0 + i * 1 + 1 ≤ cs.length ∧ cs ≠ [] ∧ splice cs (0 + i * 1) [.d c] = row f (xs.set i x') := by
  have hl := row_len hf xs
  refine ⟨_, hb, by omega, row_ne hf (by omega) hi, ?_⟩
  have h := splice_row hf (x' := x') (ds := [c]) xs i 0 hi (by simp) (by
    have h1 := hf (xs.getD i default)
    match hq : f (xs.getD i default), h1 with
    | [d], _ => rw [hc]; rfl)
  rw [show 0 + i * 1 = i * 1 + 0 by omega]; exact h
end Go.Pv
namespace Go.Pv
/-- A row told more weakly: what its things are. -/
def Dle (c d : D) : Prop := ∀ (M : Mem) (x : Value), VD M c x → VD M d x
theorem Dle.refl (c : D) : Dle c c := fun _ _ h => h
theorem Dle.full {sz : Nat} {f : Bool} {es : List (List D)} : Dle (.sl sz f es) (.sl sz false es) := fun M x h => by
  have := PVle.full (sz := sz) (f := f) (es := es) ⟨M, [], [], fun _ => none, fun _ _ => none⟩ x (.d _ _ h)
  cases this with | d _ _ h => exact h
inductive Dles : List D → List D → Prop
  | nil : Dles [] []
  | cons {c d : D} {cs ds : List D} (h : Dle c d) (k : Dles cs ds) : Dles (c :: cs) (d :: ds)
theorem Dles.get {cs ds : List D} (h : Dles cs ds) : cs.length = ds.length ∧ ∀ (j : Nat) (d : D), ds[j]? = some d → ∃ c, cs[j]? = some c ∧ Dle c d := by
  induction h with
  | nil => exact ⟨rfl, fun j d hj => by simp at hj⟩
  | cons h k ih =>
    refine ⟨by simp [ih.1], fun j d hj => ?_⟩
    cases j with
    | zero => simp at hj; subst hj; exact ⟨_, rfl, h⟩
    | succ j => simp at hj; exact ih.2 j d hj
theorem PVle.sls {sz : Nat} {f : Bool} {es es' : List (List D)} (h : Dles es.flatten es'.flatten) (hl : es.length = es'.length) (hz : ∀ e ∈ es', e.length = sz) (hn : es ≠ []) : PVle (.d (.sl sz f es)) (.d (.sl sz f es')) := fun g v hv => by
  cases hv with | d _ _ hv =>
  cases hv with
  | sl sz full es a cap vs hz0 hc hf hna hx hl0 hm hv =>
    obtain ⟨h1, h2⟩ := h.get
    refine .d _ _ ?_
    rw [hl]
    refine .sl sz f es' a cap vs hz (by omega) (by rw [← hl]; exact hf) hna hx (by rw [← h1]; exact hl0) hm (fun j c x hj hx' => ?_)
    obtain ⟨c', hc', hle⟩ := h2 j c hj
    exact hle _ _ (hv j c' x hc' hx')
  | sl0 sz A => exact absurd rfl hn
end Go.Pv
namespace Go.Pv
/-- Rows that grow: of tagged slices, of slices that hold nothing, of data. -/
def nils (n ez : Nat) : List PV := (List.replicate n (D.sl ez true [])).map PV.d
theorem nils_len (n ez : Nat) : (nils n ez).length = n := by simp [nils]
theorem nils_eq (n ez : Nat) : nils n ez = List.replicate n (.d (.sl ez true [])) := by simp [nils]
theorem nils_ok {nb nt n ez : Nat} {r : List (Option (List PV))} (h : okB nb nt r = true) : okB nb nt (some (nils n ez) :: r) = true := okB_cons (okL_map _) h
theorem nils_grow {S : Sx} {b n ez : Nat} (hb : S.bs[b]? = some (some (nils n ez))) : ∃ cs, S.bs[b]? = some (some cs) ∧ cs.length = n * 1 ∧ cs ++ ([[D.sl ez true []]] : List (List D)).flatten.map PV.d = nils (n + 1) ez :=
  ⟨_, hb, by rw [nils_len]; omega, by simp [nils, List.replicate_succ']⟩
theorem rowV_ix {α : Type} {f : α → List D} {S : Sx} {b t sz n : Nat} {xss : List (List α)} (hb : S.bs[b]? = some (some (rowT t sz (xss.map (·.map f))))) (hn : xss.length = n) : ∃ cs, S.bs[b]? = some (some cs) ∧ cs.length = n * 1 :=
  ⟨_, hb, by rw [rowT_len, List.length_map]; omega⟩
theorem rowV_ld {α : Type} {f : α → List D} {S : Sx} {b t sz n : Nat} {xss : List (List α)} (i : Nat) (hb : S.bs[b]? = some (some (rowT t sz (xss.map (·.map f))))) (hn : xss.length = n) (hi : i < xss.length) :
    ∃ cs, S.bs[b]? = some (some cs) ∧ cs.length = n * 1 ∧ cs[0 + i * 1]? = some (.app (t + i) sz ((xss.getD i []).map f)) := by
  obtain ⟨cs, h1, h2⟩ := rowE_ld (f := f) i hb hi
  refine ⟨cs, h1, ?_, h2⟩
  rw [hb] at h1
  obtain rfl : rowT t sz (xss.map (·.map f)) = cs := by simpa using h1
  rw [rowT_len, List.length_map]; omega
theorem rowV_st {α : Type} {f : α → List D} {S : Sx} {b t sz n : Nat} {xss : List (List α)} (i : Nat) (es : List α) {p : PV} (hp : p = .app (t + i) sz (es.map f)) (hb : S.bs[b]? = some (some (rowT t sz (xss.map (·.map f))))) (hn : xss.length = n) (hi : i < xss.length) :
    ∃ cs, S.bs[b]? = some (some cs) ∧ cs.length = n * 1 ∧ 0 + i * 1 + 1 ≤ cs.length ∧ cs ≠ [] ∧ splice cs (0 + i * 1) [p] = rowT t sz ((xss.set i es).map (·.map f)) := by
  obtain ⟨cs, h1, h2⟩ := rowE_st (f := f) i es hp hb hi
  refine ⟨cs, h1, ?_, h2⟩
  rw [hb] at h1
  obtain rfl : rowT t sz (xss.map (·.map f)) = cs := by simpa using h1
  rw [rowT_len, List.length_map]; omega
theorem row_grow {α : Type} [Inhabited α] {f : α → List D} {S : Sx} {b n sz : Nat} {xs ys : List α} (hb : S.bs[b]? = some (some (row f xs))) (hf : ∀ x, (f x).length = sz) (hn : xs.length = n) : ∃ cs, S.bs[b]? = some (some cs) ∧ cs.length = n * sz ∧ cs ++ (ys.map f).flatten.map PV.d = row f (xs ++ ys) :=
  ⟨_, hb, by rw [row_len hf, hn], by simp [row]⟩
end Go.Pv
namespace Go.Pv
theorem ibk_add (k : IntKind) {a b : Int} (h : k.wrap (a + b) = a + b) : ibin .add k a b = some (.int k (a + b)) := by simp only [ibin]; rw [h]
theorem ibk_sub (k : IntKind) {a b : Int} (h : k.wrap (a - b) = a - b) : ibin .sub k a b = some (.int k (a - b)) := by simp only [ibin]; rw [h]
theorem ibk_mul (k : IntKind) {a b : Int} (h : k.wrap (a * b) = a * b) : ibin .mul k a b = some (.int k (a * b)) := by simp only [ibin]; rw [h]
end Go.Pv
