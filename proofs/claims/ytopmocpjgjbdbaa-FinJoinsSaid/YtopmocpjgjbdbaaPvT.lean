/- The rules in the forms that a printed walk uses. -/
import Derived.Test.YtopmocpjgjbdbaaPvF
namespace Go.Pv
open Go.RowKit
section
variable {P : Program} {g0 : Gh} {w0 : World} {Q : Exit → St → Prop} {st : St}

/-- What is known of a type: its cells, its bytes, its zero. -/
def TI (P : Program) (T : TypeId) (sz bytes : Nat) (z : Value) : Prop := ∃ i, P.info? T = some i ∧ i.zero = some z ∧ i.size = sz ∧ i.bytes = bytes ∧ z.cells.size = sz ∧ (z.cells.toList.all (·.oneCell')) = true
theorem ti_of {T : TypeId} {sz bytes : Nat} {z : Value} (h : (P.info? T).map (fun i => (i.zero, i.size, i.bytes)) = some (some z, sz, bytes)) (h1 : z.cells.size = sz) (h2 : (z.cells.toList.all (·.oneCell')) = true) : TI P T sz bytes z := by
  cases hi : P.info? T with
  | none => simp [hi] at h
  | some i =>
    simp [hi] at h
    exact ⟨i, hi, h.1, h.2.1, h.2.2, h1, h2⟩
theorem TI.size {T : TypeId} {sz bytes : Nat} {z : Value} (h : TI P T sz bytes z) : SizeIs P T sz := let ⟨i, h1, _, h2, _⟩ := h; ⟨i, h1, h2⟩

theorem Zs.nil : Zs [] [] := fun _ => ⟨rfl, by simp⟩
theorem Zs.cons {p : PV} {ps : List PV} {v : Value} {vs : List Value} (h : ∀ g, V g p v) (h1 : v.oneCell' = true) (k : Zs ps vs) : Zs (p :: ps) (v :: vs) := fun g => by
  refine ⟨by simp [(k g).1], fun j c x e1 e2 => ?_⟩
  cases j with
  | zero => simp at e1 e2; subst e1 e2; exact ⟨h g, h1⟩
  | succ j => exact (k g).2 j c x (by simpa using e1) (by simpa using e2)
theorem Zs.v {x : Value} {ps : List PV} {vs : List Value} (h1 : x.oneCell' = true) (k : Zs ps vs) : Zs (.d (.v x) :: ps) (x :: vs) := .cons (fun _ => .d _ _ (.v _ h1)) h1 k
theorem Zs.sl {z : Nat} {ps : List PV} {vs : List Value} (k : Zs ps vs) : Zs (.d (.sl z true []) :: ps) (.slice none 0 0 :: vs) := .cons (fun g => V_nil g z true) rfl k

variable {o : Oper} {ρ : Operand → PV} {S : Sx}

theorem o_move {x : Operand} {p : PV} (ho : o.op = .move x) (hx : ρ x = p) : OpS P o ρ S S p := hx ▸ opS_move ho
theorem o_assign {x : Operand} {p : PV} (ho : o.op = .assign x) (hx : ρ x = p) : OpS P o ρ S S p := hx ▸ opS_assign ho
theorem o_pick_t {x y z : Operand} {p : PV} (ho : o.op = .pick x y z) (hx : ρ x = .d (.v (.bool true))) (hy : ρ y = p) : OpS P o ρ S S p := by have := opS_pick (P := P) (S := S) ho hx; simpa [hy] using this
theorem o_pick_f {x y z : Operand} {p : PV} (ho : o.op = .pick x y z) (hx : ρ x = .d (.v (.bool false))) (hz : ρ z = p) : OpS P o ρ S S p := by have := opS_pick (P := P) (S := S) ho hx; simpa [hz] using this
theorem o_alloc {T : TypeId} {sz b : Nat} {z : Value} {zs : List PV} (ho : o.op = .alloc T) (hT : TI P T sz b z) (hz : Zs zs z.cells.toList) : OpS P o ρ S ⟨S.bs ++ [some zs], S.ts⟩ (.ptr S.bs.length 0) :=
  let ⟨_, h1, h2, _⟩ := hT; opS_alloc ho h1 h2 hz
theorem o_build {T : TypeId} {fs : Array Field} {sz b : Nat} {z : Value} {zs cs : List PV} {pl : Array (Nat × Nat)} {parts : Array (Nat × Operand)} (ho : o.op = .build T parts) (hu : P.underlying T = some (.struct fs)) (hT : TI P T sz b z) (hz : Zs zs z.cells.toList)
    (hpl : ∀ w : World, (fs.mapM fun f => (do pure (f.offset, ← sizeOf f.type) : Sem (Nat × Nat))).run P w = .ok pl w) (hf : fillP ρ (pl[·]?) zs parts.toList = some cs) : OpS P o ρ S S (.agg cs) :=
  let ⟨_, h1, h2, _⟩ := hT; opS_build ho hu h1 h2 hz hpl hf
theorem o_buildSlice {T E : TypeId} {n sz b : Nat} {parts : Array (Nat × Operand)} {z : Value} {es : List (List D)} (ho : o.op = .buildSlice T n parts) (hu : P.underlying T = some (.slice E)) (hE : TI P E sz b z) (h0 : 0 < sz) (hn : n * sz ≤ 16777216)
    (hes : elsOf ρ parts.toList 0 = some es) (hl : es.length = n) (hel : (es.all fun e => e.length == sz) = true) : OpS P o ρ S S (.d (.sl sz true es)) :=
  let ⟨_, h1, h2, h3, _⟩ := hE; opS_buildSlice ho hu h1 h2 h3 h0 hn hes hl (fun e he => by simpa using List.all_eq_true.1 hel e he)
theorem o_append_tag {T E : TypeId} {sz b : Nat} {z : Value} {x y : Operand} {t : Nat} {es ys : List (List D)} (ho : o.op = .call { callee := .builtin .append, args := #[x, y], argTypes := #[T, T] }) (hT : P.underlying T = some (.slice E))
    (hE : TI P E sz b z) (h0 : 0 < sz) (hx : ρ x = .app t sz es) (hy : (ρ y).els = some (sz, ys)) (hcur : S.ts[t]? = some es.length) (hb : (es.length + ys.length) * b ≤ 140737488355328) (hmax : es.length + ys.length ≤ 9223372036854775807) :
    OpS P o ρ S ⟨S.bs, S.ts.set t (es.length + ys.length)⟩ (.app t sz (es ++ ys)) := by
  obtain ⟨i, h1, h2, h3, h4, h5, h6⟩ := hE
  subst h4
  exact opS_append_tag ho hT h1 h2 h3 h0 h5 (fun v hv => by simpa using List.all_eq_true.1 h6 v hv) hx hy hcur hb hmax
theorem o_append_full {T E : TypeId} {sz b : Nat} {z : Value} {x y : Operand} {es ys : List (List D)} (ho : o.op = .call { callee := .builtin .append, args := #[x, y], argTypes := #[T, T] }) (hT : P.underlying T = some (.slice E))
    (hE : TI P E sz b z) (h0 : 0 < sz) (hx : ρ x = .d (.sl sz true es)) (hy : (ρ y).els = some (sz, ys)) (hb : (es.length + ys.length) * b ≤ 140737488355328) (hmax : es.length + ys.length ≤ 9223372036854775807) :
    OpS P o ρ S ⟨S.bs, S.ts ++ [es.length + ys.length]⟩ (.app S.ts.length sz (es ++ ys)) := by
  obtain ⟨i, h1, h2, h3, h4, h5, h6⟩ := hE
  subst h4
  exact opS_append_full ho hT h1 h2 h3 h0 h5 (fun v hv => by simpa using List.all_eq_true.1 h6 v hv) hx hy hb hmax

theorem o_len {T E : TypeId} {x : Operand} {sz n : Nat} {es : List (List D)} (ho : o.op = .call { callee := .builtin .len, args := #[x], argTypes := #[T] }) (hT : P.underlying T = some (.slice E)) (hx : (ρ x).els = some (sz, es)) (hn : es.length = n) :
    OpS P o ρ S S (.d (.v (.int .i64 ((n : Nat) : Int)))) := hn ▸ opS_len ho hT hx
theorem o_min {T : Array TypeId} {x y : Operand} {k : IntKind} {m n r : Int} (ho : o.op = .call { callee := .builtin .min, args := #[x, y], argTypes := T }) (hx : ρ x = .d (.v (.int k m))) (hy : ρ y = .d (.v (.int k n))) (h : (if n < m then n else m) = r) :
    OpS P o ρ S S (.d (.v (.int k r))) := h ▸ opS_min ho hx hy
theorem o_slice {T E : TypeId} {x : Operand} {lo hi : Option Operand} {sz : Nat} {es r : List (List D)} {l h : Int} (ho : o.op = .slice T x lo hi none) (hT : P.underlying T = some (.slice E)) (hE : SizeIs P E sz) (hx : (ρ x).els = some (sz, es))
    (hlo : bnd ρ lo 0 = some l) (hhi : bnd ρ hi es.length = some h) (h1 : 0 ≤ l) (h2 : l ≤ h) (h3 : h ≤ es.length) (hr : (es.drop l.toNat).take (h.toNat - l.toNat) = r) : OpS P o ρ S S (.d (.sl sz false r)) := hr ▸ opS_slice ho hT hE hx hlo hhi h1 h2 h3
theorem o_nilCheck_ptr {x : Operand} {b off : Nat} (ho : o.op = .nilCheck x) (hx : ρ x = .ptr b off) : OpS P o ρ S S (.ptr b off) := hx ▸ opS_nilCheck ho (.inl ⟨b, off, hx⟩)
theorem o_nilCheck_rp {x : Operand} {cs : List D} (ho : o.op = .nilCheck x) (hx : ρ x = .rp cs) : OpS P o ρ S S (.rp cs) := hx ▸ opS_nilCheck ho (.inr (.inl ⟨cs, hx⟩))
theorem o_nilCheck_vp {x : Operand} {b N off : Nat} (ho : o.op = .nilCheck x) (hx : ρ x = .vp b N off) : OpS P o ρ S S (.vp b N off) := hx ▸ opS_nilCheck ho (.inr (.inr ⟨b, N, off, hx⟩))
theorem o_eqb_eql {T T' : TypeId} {x y : Operand} {m n r : Bool} (ho : o.op = .binOp .eql T x y T') (hT : P.underlying T = some .bool) (hx : ρ x = .d (.v (.bool m))) (hy : ρ y = .d (.v (.bool n))) (h : (m == n) = r) : OpS P o ρ S S (.d (.v (.bool r))) := by
  have := opS_eqb (P := P) (S := S) ho hT hx hy (.inl rfl)
  simpa [h] using this
theorem o_eqb_neq {T T' : TypeId} {x y : Operand} {m n r : Bool} (ho : o.op = .binOp .neq T x y T') (hT : P.underlying T = some .bool) (hx : ρ x = .d (.v (.bool m))) (hy : ρ y = .d (.v (.bool n))) (h : (m != n) = r) : OpS P o ρ S S (.d (.v (.bool r))) := by
  have := opS_eqb (P := P) (S := S) ho hT hx hy (.inr rfl)
  rw [if_neg (by decide), h] at this
  exact this
theorem o_conv {s t : TypeId} {x : Operand} {k k' : IntKind} {n : Int} (ho : o.op = .convert s t x) (hs : (P.underlying s).isSome = true) (ht : P.underlying t = some (.int k')) (hx : ρ x = .d (.v (.int k n))) (h : k'.wrap n = n) :
    OpS P o ρ S S (.d (.v (.int k' n))) := by
  have := opS_conv (P := P) (S := S) ho hs ht hx
  rwa [h] at this
inductive AL (ρ : Operand → PV) : List Operand → List PV → Prop
  | nil : AL ρ [] []
  | cons {x : Operand} {p : PV} {xs : List Operand} {ps : List PV} (h : PVle (ρ x) p) (k : AL ρ xs ps) : AL ρ (x :: xs) (p :: ps)
theorem args_ok {xs : List Operand} {as : List PV} (h : AL ρ xs as) : ∀ (i : Nat) (x : Operand) (p : PV), xs.toArray[i]? = some x → as[i]? = some p → PVle (ρ x) p := by
  induction h with
  | nil => intro i x p h; simp at h
  | cons h _ ih =>
    intro i x p h1 h2
    cases i with
    | zero => simp at h1 h2; subst h1 h2; exact h
    | succ i => exact ih i x p (by simpa using h1) (by simpa using h2)

theorem not_dec_true {p : Prop} [Decidable p] (h : (!decide p) = true) : ¬ p := by simpa using h
theorem not_dec_false {p : Prop} [Decidable p] (h : (!decide p) = false) : p := by simpa using h
/-! ### numbers -/
theorem ib_add {a b : Int} (h1 : -9223372036854775808 ≤ a + b) (h2 : a + b ≤ 9223372036854775807) : ibin .add .i64 a b = some (.int .i64 (a + b)) := by simp only [ibin]; rw [Go.IntWalk.i64_in _ ⟨h1, h2⟩]
theorem ib_sub {a b : Int} (h1 : -9223372036854775808 ≤ a - b) (h2 : a - b ≤ 9223372036854775807) : ibin .sub .i64 a b = some (.int .i64 (a - b)) := by simp only [ibin]; rw [Go.IntWalk.i64_in _ ⟨h1, h2⟩]
theorem ib_mul {a b : Int} (h1 : -9223372036854775808 ≤ a * b) (h2 : a * b ≤ 9223372036854775807) : ibin .mul .i64 a b = some (.int .i64 (a * b)) := by simp only [ibin]; rw [Go.IntWalk.i64_in _ ⟨h1, h2⟩]
theorem ib_eq {k : IntKind} {a b : Int} {c : Bool} (h : decide (a = b) = c) : ibin .eql k a b = some (.bool c) := by simp [ibin, ← h]
theorem ib_ne {k : IntKind} {a b : Int} {c : Bool} (h : (!decide (a = b)) = c) : ibin .neq k a b = some (.bool c) := by simp [ibin, ← h]
theorem ib_lt {k : IntKind} {a b : Int} {c : Bool} (h : decide (a < b) = c) : ibin .lss k a b = some (.bool c) := by simp [ibin, ← h]
theorem ib_le {k : IntKind} {a b : Int} {c : Bool} (h : decide (a ≤ b) = c) : ibin .leq k a b = some (.bool c) := by simp [ibin, ← h]
theorem ib_gt {k : IntKind} {a b : Int} {c : Bool} (h : decide (b < a) = c) : ibin .gtr k a b = some (.bool c) := by simp [ibin, ← h]
theorem ib_ge {k : IntKind} {a b : Int} {c : Bool} (h : decide (b ≤ a) = c) : ibin .geq k a b = some (.bool c) := by simp [ibin, ← h]

/-! ### the element of a list of things -/
theorem map_get {α : Type} [Inhabited α] {f : α → List D} {xs : List α} {i : Nat} (h : i < xs.length) : (xs.map f)[i]? = some (f (xs.getD i default)) := by simp [h, List.getD]

/-! ### states written out -/
def look (i : Nat) : List (Nat × PV) → PV
  | [] => .junk
  | (j, p) :: r => if i = j then p else look i r
def St.ofL (n : Nat) (l : List (Nat × PV)) (S : Sx) : St := ⟨fun i => look i l, n, S⟩
inductive WL (st : St) : List (Nat × PV) → Prop
  | nil : WL st []
  | cons {i : Nat} {p : PV} {l : List (Nat × PV)} (h : PVle (st.t i) p) (k : WL st l) : WL st ((i, p) :: l)
theorem WL.get {l : List (Nat × PV)} (h : WL st l) (i : Nat) : PVle (st.t i) (look i l) := by
  induction h with
  | nil => exact .junk
  | cons h _ ih =>
    unfold look
    split
    · rename_i e; subst e; exact h
    · exact ih
theorem Wk.ofL {n : Nat} {l : List (Nat × PV)} {S : Sx} (hn : st.n = n) (hS : st.S = S) (h : WL st l) : Wk g0 w0 st (St.ofL n l S) := by
  subst hn hS
  exact Weak0.wk ⟨rfl, rfl, fun i _ => h.get i⟩
/-- Written out anew, own variables and tags cut. -/
theorem Wk.ofL_cut {n nb nt : Nat} {l : List (Nat × PV)} {S : Sx} (hb : Gl g0 nb) (ht : g0.tg.length ≤ nt) (hn : st.n = n) (hS : st.S.cut nb nt = S) (h : WL st l) (h1 : okUpto (fun i => look i l) nb nt n = true) (h2 : okB nb nt (st.S.bs.take nb) = true) :
    Wk g0 w0 st (St.ofL n l S) := by
  subst hn hS
  have := Wk.cut (g0 := g0) (w0 := w0) (st := St.ofL st.n l st.S) nb nt hb ht h1 h2
  exact (Wk.ofL rfl rfl h).trans this

/-- A slice's length has a bound. -/
theorem pw_len {c : Code} {i sz : Nat} {es : List (List D)} (hi : i < st.n) (h : (st.t i).els = some (sz, es)) (k : es.length ≤ 9223372036854775807 → pw P g0 w0 c Q st) : pw P g0 w0 c Q st := by
  intro a w hr
  obtain ⟨g, k1, k2, k3, k4, k5⟩ := hr
  have hx := ((k5 i hi).els h).lens.2
  exact k (by simp only [maxLen] at hx; omega) a w ⟨g, k1, k2, k3, k4, k5⟩
end
end Go.Pv
