/- Functions told as plain ones: the pieces of which they are made. -/
import Derived.Test.YtopmocpjgjbdbaaPvK
namespace Go.Pv
open Go.RowKit
section
variable {α β σ : Type}
def gd (p : Prop) [Decidable p] (x : Option α) : Option α := if p then x else none
def bd (x : Option α) (f : α → Option β) : Option β := match x with
  | some a => f a
  | none => none
def br (b : Bool) (x y : Option α) : Option α := match b with
  | true => x
  | false => y
def ob [Inhabited α] (b : Bool) (x : Option α) : Option α := match b with
  | true => x
  | false => some default
def iter (f : (σ → Option α) → σ → Option α) : Nat → σ → Option α
  | 0, _ => none
  | n + 1, s => f (iter f n) s
def big : Nat := 9223372036854775808
abbrev inK (k : IntKind) (x : Int) : Prop := k.wrap x = x
theorem gd_p {p : Prop} [Decidable p] {x : Option α} {r : α} (h : gd p x = some r) : p := by
  unfold gd at h; split at h
  · assumption
  · cases h
theorem gd_x {p : Prop} [Decidable p] {x : Option α} {r : α} (h : gd p x = some r) : x = some r := by
  unfold gd at h; split at h
  · exact h
  · cases h
theorem bd_ex {x : Option α} {f : α → Option β} {r : β} (h : bd x f = some r) : ∃ a, x = some a := by
  cases x with
  | none => cases h
  | some a => exact ⟨a, rfl⟩
theorem bd_at {x : Option α} {f : α → Option β} {r : β} {a : α} (h : bd x f = some r) (e : x = some a) : f a = some r := by subst e; exact h
theorem br_t {b : Bool} {x y : Option α} {r : α} (h : br b x y = some r) (e : b = true) : x = some r := by subst e; exact h
theorem br_f {b : Bool} {x y : Option α} {r : α} (h : br b x y = some r) (e : b = false) : y = some r := by subst e; exact h
theorem ob_t [Inhabited α] {b : Bool} {x : Option α} {a : α} (h : ob b x = some a) (e : b = true) : x = some a := by subst e; exact h
theorem iter_p {f : (σ → Option α) → σ → Option α} {n : Nat} {s : σ} {r : α} (h : iter f n s = some r) : n - 1 < n := by
  cases n with
  | zero => cases h
  | succ n => omega
theorem iter_e {f : (σ → Option α) → σ → Option α} {n : Nat} {s : σ} {r : α} (h : iter f n s = some r) : f (iter f (n - 1)) s = some r := by
  cases n with
  | zero => cases h
  | succ n => exact h
theorem none_ne {r : α} (h : (none : Option α) = some r) : False := by cases h
theorem some_eq {a r : α} (h : some a = some r) : a = r := Option.some.inj h
theorem leafE {R : Type} {a r : R} (h : some a = some r) (F : R → PV) {p : PV} (hp : p = F a) : PVle p (F r) := by cases h; exact hp ▸ .rfl'
theorem sxE {R : Type} {a r : R} (h : some a = some r) (F : R → Sx) {p : Sx} (hp : p = F a) : p = F r := by cases h; exact hp
theorem gd_true {p : Prop} [Decidable p] {x : Option α} (h : p) : gd p x = x := if_pos h
theorem bd_some {a : α} {f : α → Option β} : bd (some a) f = f a := rfl
theorem br_true {x y : Option α} : br true x y = x := rfl
theorem br_false {x y : Option α} : br false x y = y := rfl
end
theorem inK_i64 {x : Int} : inK .i64 x ↔ -9223372036854775808 ≤ x ∧ x ≤ 9223372036854775807 :=
  ⟨fun h => by rw [inK, IntKind.wrap_i64] at h; omega, fun h => by rw [inK, IntKind.wrap_i64]; omega⟩
theorem inK_u8 {x : Int} : inK .u8 x ↔ 0 ≤ x ∧ x ≤ 255 :=
  ⟨fun h => by rw [inK, IntKind.wrap_u8] at h; omega, fun h => by rw [inK, IntKind.wrap_u8]; omega⟩
theorem inK_u64 {x : Int} : inK .u64 x ↔ 0 ≤ x ∧ x ≤ 18446744073709551615 :=
  ⟨fun h => by rw [inK, IntKind.wrap_u64] at h; omega, fun h => by rw [inK, IntKind.wrap_u64]; omega⟩
theorem ib_quoD {k : IntKind} {a b : Int} (h : b ≠ 0) : ibin .quo k a b = some (.int k (k.wrap (a.tdiv b))) := by simp only [ibin, if_neg h]
theorem ib_remD {k : IntKind} {a b : Int} (h : b ≠ 0) : ibin .rem k a b = some (.int k (a.tmod b)) := by simp only [ibin, if_neg h]
theorem reps_row {α : Type} {f : α → List D} (x0 : α) (n : Nat) {zs : List PV} (hz : zs = (f x0).map PV.d) : reps n zs = row f (List.replicate n x0) := by
  subst hz
  unfold reps row
  induction n with
  | zero => rfl
  | succ n ih => simp only [List.replicate_succ, List.flatten_cons, List.map_cons, List.map_append, ih]
theorem drow_len {α : Type} {f : α → List D} {n : Nat} (hf : ∀ x, (f x).length = n) (xs : List α) : (row f xs).length = xs.length * n := by
  unfold row
  rw [List.length_map, flat_len (sz := n) (fun e he => by obtain ⟨x, _, rfl⟩ := List.mem_map.1 he; exact hf x), List.length_map]
/-- A part of a row's element written. -/
theorem row_stk {α : Type} [Inhabited α] {f : α → List D} {S : Sx} {b n k : Nat} {xs : List α} {ps : List PV} (i : Nat) (x' : α) (hb : S.bs[b]? = some (some (row f xs))) (hf : ∀ x, (f x).length = n) (hi : i < xs.length) (hk : k + ps.length ≤ n) (h0 : 0 < ps.length)
    (hx : splice ((f (xs.getD i default)).map PV.d) k ps = (f x').map PV.d) : ∃ cs, S.bs[b]? = some (some cs) ∧ (0 + i * n + k) + ps.length ≤ cs.length ∧ cs ≠ [] ∧ splice cs (0 + i * n + k) ps = row f (xs.set i x') := by
  rw [Nat.zero_add]
  have hl := drow_len hf xs
  have hle : i * n + k + ps.length ≤ (row f xs).length := by
    rw [hl]
    have : (i + 1) * n ≤ xs.length * n := Nat.mul_le_mul_right _ hi
    rw [Nat.add_mul] at this; omega
  refine ⟨row f xs, hb, hle, fun h => by rw [h] at hle; simp only [List.length_nil] at hle; omega, ?_⟩
  have hxl : xs = xs.take i ++ xs.getD i default :: xs.drop (i + 1) := by
    rw [List.getD_eq_getElem?_getD, List.getElem?_eq_getElem hi, Option.getD_some, List.getElem_cons_drop, List.take_append_drop]
  have hsl : xs.set i x' = xs.take i ++ x' :: xs.drop (i + 1) := List.set_eq_take_append_cons_drop .. |>.trans (if_pos hi)
  have e1 : row f xs = row f (xs.take i) ++ ((f (xs.getD i default)).map PV.d ++ row f (xs.drop (i + 1))) := by
    conv => lhs; rw [hxl]
    simp only [row, List.map_append, List.map_cons, List.flatten_append, List.flatten_cons]
  have e2 : row f (xs.set i x') = row f (xs.take i) ++ ((f x').map PV.d ++ row f (xs.drop (i + 1))) := by
    rw [hsl]
    simp only [row, List.map_append, List.map_cons, List.flatten_append, List.flatten_cons]
  have lt : (row f (xs.take i)).length = i * n := by rw [drow_len hf]; simp [Nat.min_eq_left (Nat.le_of_lt hi)]
  have lm : ((f (xs.getD i default)).map PV.d).length = n := by rw [List.length_map]; exact hf _
  rw [e2, ← hx, e1, splice_eq _ _ _ (by rw [← e1]; exact hle), splice_eq _ _ _ (by rw [lm]; exact hk)]
  rw [List.take_append, List.drop_append, lt, List.take_of_length_le (by omega), List.drop_eq_nil_of_le (as := row f (xs.take i)) (by omega), List.nil_append]
  rw [show i * n + k - i * n = k by omega, show i * n + k + ps.length - i * n = k + ps.length by omega]
  rw [List.take_append, List.drop_append, lm, show k - n = 0 by omega, show k + ps.length - n = 0 by omega]
  simp
theorem row_split {α : Type} [Inhabited α] {f : α → List D} {n : Nat} {xs : List α} (hf : ∀ x, (f x).length = n) (i : Nat) (hi : i < xs.length) : ∃ a c, row f xs = a ++ ((f (xs.getD i default)).map PV.d ++ c) ∧ a.length = i * n := by
  refine ⟨row f (xs.take i), row f (xs.drop (i + 1)), ?_, by rw [drow_len hf]; simp [Nat.min_eq_left (Nat.le_of_lt hi)]⟩
  have hxl : xs = xs.take i ++ xs.getD i default :: xs.drop (i + 1) := by
    rw [List.getD_eq_getElem?_getD, List.getElem?_eq_getElem hi, Option.getD_some, List.getElem_cons_drop, List.take_append_drop]
  conv => lhs; rw [hxl]
  simp only [row, List.map_append, List.map_cons, List.flatten_append, List.flatten_cons]
/-- A cell of a row's element. -/
theorem row_ld0 {α : Type} [Inhabited α] {f : α → List D} {S : Sx} {b n k : Nat} {xs : List α} {p : PV} (i : Nat) (hb : S.bs[b]? = some (some (row f xs))) (hf : ∀ x, (f x).length = n) (hi : i < xs.length) (hk : k < n) (hc : ((f (xs.getD i default)).map PV.d)[k]? = some p) :
    ∃ cs, S.bs[b]? = some (some cs) ∧ cs[0 + i * n + k]? = some p := by
  obtain ⟨a, c, h1, h2⟩ := row_split hf i hi
  refine ⟨_, hb, ?_⟩
  rw [h1, Nat.zero_add, List.getElem?_append_right (by omega), show i * n + k - a.length = k by omega, List.getElem?_append_left (by rw [List.length_map, hf]; exact hk)]
  exact hc
/-- A part of a row's element. -/
theorem row_lda0 {α : Type} [Inhabited α] {f : α → List D} {S : Sx} {b n k m : Nat} {xs : List α} {ps : List PV} (i : Nat) (hb : S.bs[b]? = some (some (row f xs))) (hf : ∀ x, (f x).length = n) (hi : i < xs.length) (hk : k + m ≤ n) (h0 : 0 < n) (hc : (((f (xs.getD i default)).map PV.d).drop k).take m = ps) :
    ∃ cs, S.bs[b]? = some (some cs) ∧ (0 + i * n + k) + m ≤ cs.length ∧ cs ≠ [] ∧ (cs.drop (0 + i * n + k)).take m = ps := by
  obtain ⟨a, c, h1, h2⟩ := row_split hf i hi
  have hl : ((f (xs.getD i default)).map PV.d).length = n := by rw [List.length_map, hf]
  refine ⟨_, hb, by rw [h1]; simp only [List.length_append, hl]; omega, fun h => ?_, ?_⟩
  · rw [h1] at h; have := congrArg List.length h; simp only [List.length_append, hl, List.length_nil] at this; omega
  · rw [h1, Nat.zero_add, List.drop_append, List.drop_eq_nil_of_le (by omega), List.nil_append, show i * n + k - a.length = k by omega, List.drop_append, List.take_append_of_le_length (by rw [List.length_drop, hl]; omega)]
    exact hc
/-- A row's beginning written over. -/
theorem row_cpy {α : Type} {f : α → List D} {z : Nat} {xs ys : List α} (hf : ∀ x, (f x).length = z) (h1 : ys.length ≤ xs.length) : splice (row f xs) 0 ((ys.map f).flatten.map PV.d) = row f (ys ++ xs.drop ys.length) := by
  have e0 : (ys.map f).flatten.map PV.d = row f ys := rfl
  rw [e0, splice_eq _ _ _ (by rw [drow_len hf, drow_len hf, Nat.zero_add]; exact Nat.mul_le_mul_right _ h1)]
  have e1 : row f xs = row f (xs.take ys.length) ++ row f (xs.drop ys.length) := by
    conv => lhs; rw [← List.take_append_drop ys.length xs]
    simp only [row, List.map_append, List.flatten_append]
  have e2 : row f (ys ++ xs.drop ys.length) = row f ys ++ row f (xs.drop ys.length) := by simp only [row, List.map_append, List.flatten_append]
  rw [e2, e1, Nat.zero_add, List.take_zero, List.nil_append]
  have hl : (row f (xs.take ys.length)).length = (row f ys).length := by rw [drow_len hf, drow_len hf]; simp [Nat.min_eq_left h1]
  rw [List.drop_append, ← hl, Nat.sub_self, List.drop_zero, List.drop_length, List.nil_append]
/-- A slice that holds nothing is nil, or not. -/
theorem PF.nil_arg {P : Program} {f : FuncId} {sz : Nat} {fl : Bool} {r : PV} (h : ∀ A c, PF P f [.v (.slice A 0 c)] r) : PF P f [.sl sz fl []] r := by
  intro g w vs hI hl hv
  match vs, hl with
  | [v], _ =>
    have h1 := hv 0 _ v rfl rfl
    cases h1 with
    | d _ _ h1 =>
      obtain ⟨A, c, rfl⟩ := h1.unsl0
      refine h A c g w [.slice A 0 c] hI rfl (fun i p v e1 e2 => ?_)
      cases i with
      | zero => simp at e1 e2; subst e1 e2; exact .d _ _ (.v _ rfl)
      | succ i => simp at e1
theorem PF.list_cases {P : Program} {f : FuncId} {α : Type} {sz : Nat} {e : α → List D} {fl : Bool} {R : List α → PV} (h1 : PF P f [.sl sz fl []] (R [])) (h2 : ∀ x l, PF P f [.sl sz fl ((x :: l).map e)] (R (x :: l))) : ∀ l, PF P f [.sl sz fl (l.map e)] (R l)
  | [] => h1
  | x :: l => h2 x l
/-- A pointer that may be none. -/
def optP (o : Option Nat) (f : Nat → PV) : PV := match o with
  | none => .d (.v (.pointer none))
  | some j => f j
theorem optP_none {o : Option Nat} {f : Nat → PV} (h : o = none) : optP o f = .d (.v (.pointer none)) := by subst h; rfl
theorem optP_some {o : Option Nat} {f : Nat → PV} (h : ¬ o = none) : optP o f = f (o.getD 0) := by cases o with
  | none => exact absurd rfl h
  | some j => rfl
mutual
theorem ok_mono {nb nb' nt : Nat} (h : nb ≤ nb') : ∀ p : PV, p.ok nb nt = true → p.ok nb' nt = true
  | .d _, _ => by simp only [PV.ok]
  | .agg cs, k => by simp only [PV.ok] at k ⊢; exact okL_mono h cs k
  | .tup cs, k => by simp only [PV.ok] at k ⊢; exact okL_mono h cs k
  | .app t _ _, k => by simp only [PV.ok] at k ⊢; exact k
  | .ptr b _, k => by simp only [PV.ok, decide_eq_true_eq] at k ⊢; omega
  | .ms b _ _ n, k => by simp only [PV.ok, Bool.or_eq_true, decide_eq_true_eq, beq_iff_eq] at k ⊢; omega
  | .vec b _ _, k => by simp only [PV.ok, decide_eq_true_eq] at k ⊢; omega
  | .vp b _ _, k => by simp only [PV.ok, decide_eq_true_eq] at k ⊢; omega
  | .rp _, _ => by simp only [PV.ok]
  | .fp i _ _, k => by simp only [PV.ok, decide_eq_true_eq] at k ⊢; omega
  | .fs i _ _ _ n, k => by simp only [PV.ok, Bool.or_eq_true, decide_eq_true_eq, beq_iff_eq] at k ⊢; omega
  | .fv i _ _ _, k => by simp only [PV.ok, decide_eq_true_eq] at k ⊢; omega
  | .fq i _ _ _, k => by simp only [PV.ok, decide_eq_true_eq] at k ⊢; omega
  | .fm i _, k => by simp only [PV.ok, decide_eq_true_eq] at k ⊢; omega
  | .fh, _ => by simp only [PV.ok]
  | .fn _ fi ca, k => by simp only [PV.ok, Bool.and_eq_true] at k ⊢; exact ⟨okL_mono h fi k.1, okL_mono h ca k.2⟩
  | .opt b p, k => by
    simp only [PV.ok, Bool.or_eq_true] at k ⊢
    exact k.imp (ok_mono h p) id
  | .un, _ => by simp only [PV.ok]
  | .junk, _ => by simp only [PV.ok]
theorem okL_mono {nb nb' nt : Nat} (h : nb ≤ nb') : ∀ ps : List PV, PV.okL nb nt ps = true → PV.okL nb' nt ps = true
  | [], _ => rfl
  | p :: ps, k => by simp only [PV.okL, Bool.and_eq_true] at k ⊢; exact ⟨ok_mono h p k.1, okL_mono h ps k.2⟩
end
theorem okL_opt {nb nt : Nat} {o : Option Nat} {f : Nat → PV} (h : ∀ j, (f j).ok nb nt = true) : PV.okL nb nt [optP o f] = true := by
  cases o with
  | none => rfl
  | some j => simp only [PV.okL, optP, h j, Bool.and_self]
theorem isNone_t {α : Type} {o : Option α} (h : o = none) : o.isNone = true := by subst h; rfl
theorem isNone_f {α : Type} {o : Option α} (h : ¬ o = none) : o.isNone = false := by cases o with
  | none => exact absurd rfl h
  | some j => rfl
theorem res_tr {P : Program} {f : FuncId} {as : List PV} {S S' : Sx} {r r' : PV} (h : PC P f as S S' r) (e : r = r') : PC P f as S S' r' := e ▸ h
/-! ### Families of one kind -/
def famB {α : Type} (f : α → List PV) (l : List α) : List PV := .fh :: l.map fun x => .agg (f x)
theorem famB_get {α : Type} [Inhabited α] {f : α → List PV} {l : List α} (j : Nat) (h : j < l.length) : (famB f l)[j + 1]? = some (.agg (f (l.getD j default))) := by
  simp [famB, List.getD_eq_getElem?_getD, List.getElem?_eq_getElem h]
theorem famB_set {α : Type} {f : α → List PV} {l : List α} (j : Nat) (x : α) : (famB f l).set (j + 1) (.agg (f x)) = famB f (l.set j x) := by simp [famB, List.map_set]
theorem famB_push {α : Type} {f : α → List PV} {l : List α} (x : α) : famB f l ++ [.agg (f x)] = famB f (l ++ [x]) := by simp [famB]
theorem famB_len {α : Type} {f : α → List PV} {l : List α} : (famB f l).length = l.length + 1 := by simp [famB]
theorem famB_at {α : Type} [Inhabited α] {f : α → List PV} {l : List α} {S : Sx} {i : Nat} (j : Nat) (hb : S.bs[i]? = some (some (famB f l))) (h : j < l.length) : FamAt S i j (f (l.getD j default)) := ⟨_, hb, rfl, famB_get j h⟩
/-- A member's place. -/
theorem fv_ix {α : Type} [Inhabited α] {f : α → List D} {ls : List (List α)} {S : Sx} {i j m z k : Nat} {n : Int} (hb : S.bs[i]? = some (some (famB (row f) ls))) (hf : ∀ x, (f x).length = z) (hj : j < ls.length) (hm : m = (ls.getD j default).length) (hn : n = ((k : Nat) : Int)) (hk : k < m) :
    (n = ((k : Nat) : Int) ∧ k < m) ∧ FamAt S i j (row f (ls.getD j default)) ∧ (row f (ls.getD j default)).length = m * z := ⟨⟨hn, hk⟩, famB_at j hb hj, by rw [drow_len hf, hm]⟩
theorem row_part {α : Type} [Inhabited α] {f : α → List D} {n k m : Nat} {xs : List α} {ps : List PV} (i : Nat) (hf : ∀ x, (f x).length = n) (hi : i < xs.length) (hk : k + m ≤ n) (h0 : 0 < n) (hc : (((f (xs.getD i default)).map PV.d).drop k).take m = ps) :
    (i * n + k) + m ≤ (row f xs).length ∧ row f xs ≠ [] ∧ ((row f xs).drop (i * n + k)).take m = ps := by
  obtain ⟨cs, h1, h2, h3, h4⟩ := row_lda0 (S := ⟨[some (row f xs)], []⟩) (b := 0) i rfl hf hi hk h0 hc
  cases h1
  rw [Nat.zero_add] at h2 h4
  exact ⟨h2, h3, h4⟩
theorem fq_ld {α : Type} [Inhabited α] {f : α → List D} {ls : List (List α)} {S : Sx} {i j n k m : Nat} {ps : List PV} (e : Nat) (hb : S.bs[i]? = some (some (famB (row f) ls))) (hf : ∀ x, (f x).length = n) (hj : j < ls.length) (he : e < (ls.getD j default).length) (hk : k + m ≤ n) (h0 : 0 < n)
    (hc : (((f ((ls.getD j default).getD e default)).map PV.d).drop k).take m = ps) : ldP S i j (e * n + k) m (row f (ls.getD j default)) ps := ⟨famB_at j hb hj, row_part e hf he hk h0 hc⟩
theorem row_len_eq {α : Type} {f : α → List D} {n N : Nat} (hf : ∀ x, (f x).length = n) (xs : List α) (h : N = xs.length) : (row f xs).length = N * n := by rw [drow_len hf, h]
theorem fq_st {α : Type} [Inhabited α] {f : α → List D} {ls : List (List α)} {S : Sx} {i j n k : Nat} {ps : List PV} (e : Nat) (x' : α) (hb : S.bs[i]? = some (some (famB (row f) ls))) (hf : ∀ x, (f x).length = n) (hj : j < ls.length) (he : e < (ls.getD j default).length) (hk : k + ps.length ≤ n) (h0 : 0 < ps.length)
    (hx : splice ((f ((ls.getD j default).getD e default)).map PV.d) k ps = (f x').map PV.d) : stP S i j (e * n + k) ps.length (famB (row f) ls) (row f (ls.getD j default)) ps (famB (row f) (ls.set j ((ls.getD j default).set e x'))) := by
  obtain ⟨cs, h1, h2, h3, h4⟩ := row_stk (S := ⟨[some (row f (ls.getD j default))], []⟩) (b := 0) e x' rfl hf he hk h0 hx
  cases h1
  rw [Nat.zero_add] at h2 h4
  refine ⟨⟨hb, rfl⟩, famB_get j hj, h2, h3, ?_⟩
  rw [h4]
  exact famB_set (f := row f) j _
theorem fam_mk {α : Type} {f : α → List PV} {ls : List α} {S : Sx} {i : Nat} (x : α) {zs : List PV} (hb : S.bs[i]? = some (some (famB f ls))) (hz : zs = f x) : mkP S i ls.length (famB f ls) zs (famB f (ls ++ [x])) := ⟨⟨hb, rfl⟩, famB_len, by rw [hz]; exact famB_push x⟩
theorem famB_ok {α : Type} {f : α → List PV} {nb nt : Nat} (hf : ∀ x, PV.okL nb nt (f x) = true) (ls : List α) : PV.okL nb nt (famB f ls) = true := by
  unfold famB
  simp only [PV.okL, PV.ok, Bool.true_and]
  induction ls with
  | nil => rfl
  | cons x l ih => simp only [List.map_cons, PV.okL, PV.ok, hf x, Bool.true_and]; exact ih
end Go.Pv
