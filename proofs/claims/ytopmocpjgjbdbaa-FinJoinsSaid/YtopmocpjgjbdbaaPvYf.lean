/- A reckoner, continued: families, maps. -/
import Derived.Test.YtopmocpjgjbdbaaPvY
import Derived.Test.YtopmocpjgjbdbaaPvFm
namespace Go.Pv
open Go.RowKit
section
variable {P : Program} {E : Env} {o : Oper} {ρ : Operand → PV} {S : Sx}

def FamIs (S : Sx) (i : Nat) (cs : List PV) : Prop := S.bs[i]? = some (some cs) ∧ isFam cs = true
def ldP (S : Sx) (i j off n : Nat) (ds ps : List PV) : Prop := FamAt S i j ds ∧ off + n ≤ ds.length ∧ ds ≠ [] ∧ (ds.drop off).take n = ps
def ldF (d : TypeDesc) (n : Nat) (S : Sx) (ds ps : List PV) : PV → Option Ro
  | .fp i j off => bif aggT d then some (.r [ldP S i j off n ds ps] (.agg ps) (.b i)) else (bif Nat.beq n 1 then (match ps with
    | [p] => some (.r [ldP S i j off n ds [p]] p (.b i))
    | _ => none) else none)
  | .fq i j N off => bif aggT d then some (.r [ldP S i j off n ds ps, ds.length = N] (.agg ps) (.b i)) else (bif Nat.beq n 1 then (match ps with
    | [p] => some (.r [ldP S i j off n ds [p], ds.length = N] p (.b i))
    | _ => none) else none)
  | _ => none
theorem FamAt.ag {S S2 : Sx} {i j : Nat} {ds : List PV} (h : FamAt S i j ds) (ha : Agree S S2 (.b i)) : FamAt S2 i j ds := by
  obtain ⟨cs, h1, h2⟩ := h
  exact ⟨cs, Eq.trans ha h1, h2⟩
theorem one_get {ds : List PV} {off : Nat} {p : PV} (h : (ds.drop off).take 1 = [p]) : ds[off]? = some p := by
  have h1 : ((ds.drop off).take 1)[0]? = some p := by rw [h]; rfl
  simpa [List.getElem?_drop] using h1
theorem ldF_ok (hE : EnvOk P E) {T : Nat} {x : Operand} {e : TyE} {ds ps : List PV} {r : Ro} (ho : o.op = .load T x) (ht : tget E.tab T = some e) (hr : ldF e.d e.size S ds ps (ρ x) = some r) : RoOk P o ρ S r := by
  have hk := hE.tab _ _ ht
  unfold ldF at hr
  split at hr
  · rename_i i j off hx
    cases ha : aggT e.d with
    | true =>
      rw [ha] at hr; simp only [cond_true, Option.some.injEq] at hr; subst hr
      rintro ⟨⟨h1, h2, h3, h4⟩, _⟩ S2 hag
      rw [← h4]
      exact o_load_fam_agg ho hk.u ha hk.ti.size (.inl hx) (h1.ag hag) h2 h3
    | false =>
      rw [ha] at hr; simp only [cond_false] at hr
      cases hn : Nat.beq e.size 1 with
      | false => rw [hn] at hr; cases hr
      | true =>
        rw [hn] at hr; simp only [cond_true] at hr
        have hn := Nat.eq_of_beq_eq_true hn
        split at hr
        · simp only [Option.some.injEq] at hr; subst hr
          rintro ⟨⟨h1, h2, h3, h4⟩, _⟩ S2 hag
          rw [hn] at h4
          exact o_load_fam ho hk.u ha (.inl hx) (h1.ag hag) (one_get h4)
        · cases hr
  · rename_i i j N off hx
    cases ha : aggT e.d with
    | true =>
      rw [ha] at hr; simp only [cond_true, Option.some.injEq] at hr; subst hr
      rintro ⟨⟨h1, h2, h3, h4⟩, rfl, _⟩ S2 hag
      rw [← h4]
      exact o_load_fam_agg ho hk.u ha hk.ti.size (.inr hx) (h1.ag hag) h2 h3
    | false =>
      rw [ha] at hr; simp only [cond_false] at hr
      cases hn : Nat.beq e.size 1 with
      | false => rw [hn] at hr; cases hr
      | true =>
        rw [hn] at hr; simp only [cond_true] at hr
        have hn := Nat.eq_of_beq_eq_true hn
        split at hr
        · simp only [Option.some.injEq] at hr; subst hr
          rintro ⟨⟨h1, h2, h3, h4⟩, rfl, _⟩ S2 hag
          rw [hn] at h4
          exact o_load_fam ho hk.u ha (.inr hx) (h1.ag hag) (one_get h4)
        · cases hr
  · cases hr
/-- A member's store: the family before, the member, the family behind. -/
def stP (S : Sx) (i j off n : Nat) (cs ds ps c' : List PV) : Prop := FamIs S i cs ∧ cs[j + 1]? = some (.agg ds) ∧ off + n ≤ ds.length ∧ ds ≠ [] ∧ cs.set (j + 1) (.agg (splice ds off ps)) = c'
def stF (n : Nat) (S : Sx) (cs ds ps c' : List PV) : PV → Option Ro
  | .fp i j off => bif Nat.beq ps.length n then some (.e [stP S i j off n cs ds ps c'] .junk (.box i c')) else none
  | .fq i j N off => bif Nat.beq ps.length n then some (.e [stP S i j off n cs ds ps c', ds.length = N] .junk (.box i c')) else none
  | _ => none
theorem stF_ok (hE : EnvOk P E) {T : Nat} {x y : Operand} {e : TyE} {cs ds ps c' : List PV} {r : Ro} (ho : o.op = .store T x y) (ht : tget E.tab T = some e) (hy : (ρ y).cells = some ps) (hr : stF e.size S cs ds ps c' (ρ x) = some r) : RoOk P o ρ S r := by
  have hk := hE.tab _ _ ht
  unfold stF at hr
  split at hr
  · rename_i i j off hx
    cases hl : Nat.beq ps.length e.size with
    | false => rw [hl] at hr; cases hr
    | true =>
      have hlen := Nat.eq_of_beq_eq_true hl
      rw [hl] at hr; simp only [cond_true, Option.some.injEq] at hr; subst hr
      rintro ⟨⟨⟨h1, h2⟩, h3, h4, h5, h6⟩, _⟩ S2 hag
      have := o_store_fam (P := P) (ρ := ρ) (S := S2) ho hk.ti.size (.inl hx) hy hlen (Eq.trans hag h1) h2 h3 h4 h5
      rw [h6] at this
      exact this
  · rename_i i j N off hx
    cases hl : Nat.beq ps.length e.size with
    | false => rw [hl] at hr; cases hr
    | true =>
      have hlen := Nat.eq_of_beq_eq_true hl
      rw [hl] at hr; simp only [cond_true, Option.some.injEq] at hr; subst hr
      rintro ⟨⟨⟨h1, h2⟩, h3, h4, h5, h6⟩, rfl, _⟩ S2 hag
      have := o_store_fam (P := P) (ρ := ρ) (S := S2) ho hk.ti.size (.inr hx) hy hlen (Eq.trans hag h1) h2 h3 h4 h5
      rw [h6] at this
      exact this
  · cases hr
def nilF : PV → Option Ro
  | .fp i j off => some (.v [] (.fp i j off))
  | .fq i j N off => some (.v [] (.fq i j N off))
  | _ => none
theorem nilF_ok {x : Operand} {r : Ro} (ho : o.op = .nilCheck x) (hr : nilF (ρ x) = some r) : RoOk P o ρ S r := by
  unfold nilF at hr
  split at hr
  · rename_i i j off hx; simp only [Option.some.injEq] at hr; subst hr
    intro _ S
    have := o_nil_fam (P := P) (S := S) ho (.inl ⟨i, j, off, hx⟩)
    rw [hx] at this; exact this
  · rename_i i j N off hx; simp only [Option.some.injEq] at hr; subst hr
    intro _ S
    have := o_nil_fam (P := P) (S := S) ho (.inr ⟨i, j, N, off, hx⟩)
    rw [hx] at this; exact this
  · cases hr
def fieldF (E : Env) (d : TypeDesc) (f : Nat) (p : PV) : Option Ro :=
  match d with
  | .struct fs => match fs[f]? with
    | some fd => match tget E.tab fd.type with
      | some ef => bif Nat.blt 0 ef.size then (match p with
        | .fp i j off => some (.v [] (.fp i j (off + fd.offset)))
        | .fq i j N off => some (.v [] (.fq i j N (off + fd.offset)))
        | _ => none) else none
      | none => none
    | none => none
  | _ => none
theorem fieldF_ok (hE : EnvOk P E) {T f : Nat} {x : Operand} {e : TyE} {r : Ro} (ho : o.op = .fieldAddr T x f) (ht : tget E.tab T = some e) (hr : fieldF E e.d f (ρ x) = some r) : RoOk P o ρ S r := by
  have hk := hE.tab _ _ ht
  unfold fieldF at hr
  split at hr
  · rename_i fs hd
    split at hr
    · rename_i fd hf
      split at hr
      · rename_i ef hef
        have hs := (hE.tab _ _ hef).ti.size
        cases h0 : Nat.blt 0 ef.size with
        | false => rw [h0] at hr; cases hr
        | true =>
          rw [h0] at hr; simp only [cond_true] at hr
          have h0' : ef.size ≠ 0 := by intro h; rw [h] at h0; cases h0
          have hu : P.underlying T = some (.struct fs) := by rw [hk.u, hd]
          split at hr
          · rename_i hx; simp only [Option.some.injEq] at hr; subst hr; exact fun _ S => o_field_fp ho hu hf hs h0' hx
          · rename_i hx; simp only [Option.some.injEq] at hr; subst hr; exact fun _ S => o_field_fq ho hu hf hs h0' hx
          · cases hr
      · cases hr
    · cases hr
  · cases hr
def indexF (E : Env) (d : TypeDesc) (S : Sx) (k : Nat) (ds : List PV) (px py : PV) : Option Ro :=
  match py with
  | .d (.v (.int _ n)) => match d with
    | .slice el => match tget E.tab el with
      | some ee => match px with
        | .fs i j off sz m => bif Nat.beq sz ee.size then some (.v [n = (k : Int) ∧ k < m] (.fp i j (off + k * sz))) else none
        | .fv i j sz m => bif Nat.beq sz ee.size && Nat.blt 0 sz then some (.r [(n = (k : Int) ∧ k < m) ∧ FamAt S i j ds ∧ ds.length = m * sz] (.fq i j (m * sz) (k * sz)) (.b i)) else none
        | _ => none
      | none => none
    | _ => none
  | _ => none
theorem indexF_ok (hE : EnvOk P E) {T k : Nat} {x y : Operand} {e : TyE} {ds : List PV} {r : Ro} (ho : o.op = .indexAddr T x y) (ht : tget E.tab T = some e) (hr : indexF E e.d S k ds (ρ x) (ρ y) = some r) : RoOk P o ρ S r := by
  have hk := hE.tab _ _ ht
  unfold indexF at hr
  split at hr
  · rename_i kd n hy
    split at hr
    · rename_i el hd
      have hu : P.underlying T = some (.slice el) := by rw [hk.u, hd]
      split at hr
      · rename_i ee hee
        have hs := (hE.tab _ _ hee).ti.size
        split at hr
        · rename_i i j off sz m hx
          cases hb : Nat.beq sz ee.size with
          | false => rw [hb] at hr; cases hr
          | true =>
            rw [hb] at hr; simp only [cond_true, Option.some.injEq] at hr; subst hr
            obtain rfl := Nat.eq_of_beq_eq_true hb
            rintro ⟨⟨rfl, hj⟩, _⟩ S
            have := o_index_fs (P := P) (S := S) ho hu hs hx hy (by omega) (by omega)
            simpa using this
        · rename_i i j sz m hx
          cases hb : (Nat.beq sz ee.size && Nat.blt 0 sz) with
          | false => rw [hb] at hr; cases hr
          | true =>
            rw [hb] at hr; simp only [cond_true, Option.some.injEq] at hr; subst hr
            simp only [Bool.and_eq_true] at hb
            obtain rfl := Nat.eq_of_beq_eq_true hb.1
            have h0 : 0 < ee.size := by simpa using hb.2
            rintro ⟨⟨⟨rfl, hj⟩, h1, h2⟩, _⟩ S2 hag
            have := o_index_fv (P := P) (S := S2) ho hu hs h0 hx hy (h1.ag hag) h2 (by omega) (by omega)
            simpa using this
        · cases hr
      · cases hr
    · cases hr
  · cases hr
def lenF' (E : Env) (T : Nat) (p : PV) : Option Ro :=
  match tget E.tab T with
  | some ⟨.slice _, _, _, _, _, _⟩ => match p with
    | .fs _ _ _ _ n => some (.v [] (.d (.v (.int .i64 ((n : Nat) : Int)))))
    | .fv _ _ _ n => some (.v [] (.d (.v (.int .i64 ((n : Nat) : Int)))))
    | _ => none
  | _ => none
theorem lenF'_ok (hE : EnvOk P E) {T : Nat} {x : Operand} {r : Ro} (ho : o.op = .call { callee := .builtin .len, args := #[x], argTypes := #[T] }) (hr : lenF' E T (ρ x) = some r) : RoOk P o ρ S r := by
  unfold lenF' at hr
  split at hr
  · rename_i ht
    have hu := (hE.tab _ _ ht).u
    split at hr
    · rename_i hx; simp only [Option.some.injEq] at hr; subst hr; exact fun _ S => o_len_fs ho hu hx
    · rename_i hx; simp only [Option.some.injEq] at hr; subst hr; exact fun _ S => o_len_fv ho hu hx
    · cases hr
  · cases hr
/-- A new member: the family before, and behind. -/
def mkP (S : Sx) (i N : Nat) (cs zs c' : List PV) : Prop := FamIs S i cs ∧ cs.length = N + 1 ∧ cs ++ [.agg zs] = c'
def allocF (i N : Nat) (cs c' : List PV) (zs : List PV) (S : Sx) : Option Ro := some (.e [mkP S i N cs zs c'] (.fp i N 0) (.box i c'))
theorem allocF_ok (hE : EnvOk P E) {T i N : Nat} {e : TyE} {cs c' : List PV} {r : Ro} (ho : o.op = .alloc T) (ht : tget E.tab T = some e) (hr : allocF i N cs c' e.zs S = some r) : RoOk P o ρ S r := by
  have hk := hE.tab _ _ ht
  cases hr
  rintro ⟨⟨⟨h1, h2⟩, h3, rfl⟩, _⟩ S2 hag
  exact o_alloc_mem ho hk.ti hk.zs (Eq.trans hag h1) h2 h3
theorem boxF_ok {T i N : Nat} {x : Operand} {ps cs c' : List PV} {r : Ro} (ho : o.op = .box T x) (hx : (ρ x).cells = some ps) (hr : allocF i N cs c' ps S = some r) : RoOk P o ρ S r := by
  cases hr
  rintro ⟨⟨⟨h1, h2⟩, h3, rfl⟩, _⟩ S2 hag
  exact o_box_mem ho hx (Eq.trans hag h1) h2 h3
def mkF (E : Env) (T : Nat) (S : Sx) (i N n : Nat) (cs c' : List PV) (px py : PV) : Option Ro :=
  match tget E.tab T with
  | some ⟨.slice el, _, _, _, _, _⟩ => match tget E.tab el with
    | some ee => match px, py with
      | .d (.v (.int _ a)), .d (.v (.int _ b)) => bif Nat.blt 0 ee.size then some (.e [a = ((n : Nat) : Int), b = ((n : Nat) : Int), n * ee.bytes ≤ 281474976710656 ∧ n ≤ 9223372036854775807, mkP S i N cs (reps n ee.zs) c'] (.fs i N 0 ee.size n) (.box i c')) else none
      | _, _ => none
    | none => none
  | _ => none
theorem mkF_ok (hE : EnvOk P E) {T i N n : Nat} {x y : Operand} {cs c' : List PV} {r : Ro} (ho : o.op = .makeSlice T x y) (hr : mkF E T S i N n cs c' (ρ x) (ρ y) = some r) : RoOk P o ρ S r := by
  unfold mkF at hr
  split at hr
  · rename_i ht
    have hu := (hE.tab _ _ ht).u
    split at hr
    · rename_i ee hee
      have hk := hE.tab _ _ hee
      split at hr
      · rename_i hx hy
        cases h0 : Nat.blt 0 ee.size with
        | false => rw [h0] at hr; cases hr
        | true =>
          rw [h0] at hr; simp only [cond_true, Option.some.injEq] at hr; subst hr
          rintro ⟨rfl, rfl, ⟨h3, h4⟩, ⟨⟨h5, h6⟩, h7, rfl⟩, _⟩ S2 hag
          exact o_mk_mem ho hu hk.ti (by simpa using h0) hk.zs hx hy h3 h4 (Eq.trans hag h5) h6 h7
      · cases hr
    · cases hr
  · cases hr
def appF (E : Env) (T : Nat) (S : Sx) (k : FA) (px py : PV) : Option Ro :=
  match tget E.tab T with
  | some ⟨.slice el, _, _, _, _, _⟩ => match tget E.tab el with
    | some ee => bif Nat.blt 0 ee.size then (match k with
      | .fv m cs ds ps c' => match px with
        | .fv i j sz n => bif Nat.beq sz ee.size then some (.e [Src S py sz m ps, FamIs S i cs, cs[j + 1]? = some (.agg ds) ∧ ds.length = n * sz ∧ cs.set (j + 1) (.agg (ds ++ ps)) = c', AppOk ee.bytes n m] (.fv i j sz (n + m)) (.all ⟨S.bs.set i (some c'), S.ts⟩)) else none
        | _ => none
      | .mem i N m cs ps c' => match px with
        | .d (.sl sz true []) => bif Nat.beq sz ee.size then some (.e [Src S py sz m ps, mkP S i N cs ps c', AppOk ee.bytes 0 m] (.fs i N 0 sz m) (.all ⟨S.bs.set i (some c'), S.ts⟩)) else none
        | _ => none
      | .new m ps => match px with
        | .d (.sl sz true []) => bif Nat.beq sz ee.size then some (.e [Src S py sz m ps, isFam ps = false, AppOk ee.bytes 0 m] (.ms S.bs.length 0 sz m) (.all ⟨S.bs ++ [some ps], S.ts⟩)) else none
        | _ => none
      | .zero => match px.els, py.els with
        | some (sz, []), some (sz', []) => bif Nat.beq sz ee.size && Nat.beq sz' ee.size then some (.v [] (.d (.sl sz false []))) else none
        | _, _ => none) else none
    | none => none
  | _ => none
theorem appF_ok (hE : EnvOk P E) {T : Nat} {x y : Operand} {k : FA} {r : Ro} (ho : o.op = .call { callee := .builtin .append, args := #[x, y], argTypes := #[T, T] }) (hr : appF E T S k (ρ x) (ρ y) = some r) : RoOk P o ρ S r := by
  unfold appF at hr
  split at hr
  · rename_i ht
    have hu := (hE.tab _ _ ht).u
    split at hr
    · rename_i ee hee
      have hs := (hE.tab _ _ hee).ti
      cases h0 : Nat.blt 0 ee.size with
      | false => rw [h0] at hr; cases hr
      | true =>
        rw [h0] at hr; simp only [cond_true] at hr
        have h0' : 0 < ee.size := by simpa using h0
        split at hr
        · split at hr
          · rename_i i j sz n hx
            cases hb : Nat.beq sz ee.size with
            | false => rw [hb] at hr; cases hr
            | true =>
              rw [hb] at hr; simp only [cond_true, Option.some.injEq] at hr; subst hr
              obtain rfl := Nat.eq_of_beq_eq_true hb
              rintro ⟨h1, ⟨h2, h3⟩, ⟨h4, h5, rfl⟩, h6, _⟩ S2 rfl
              exact o_append_fv ho hu hs h0' hx h1 h2 h3 h4 h5 h6.1 h6.2
          · cases hr
        · split at hr
          · rename_i sz hx
            cases hb : Nat.beq sz ee.size with
            | false => rw [hb] at hr; cases hr
            | true =>
              rw [hb] at hr; simp only [cond_true, Option.some.injEq] at hr; subst hr
              obtain rfl := Nat.eq_of_beq_eq_true hb
              rintro ⟨h1, ⟨⟨h2, h3⟩, h4, rfl⟩, h6, _⟩ S2 rfl
              unfold AppOk at h6
              exact o_append_mem ho hu hs h0' hx h1 (by simpa using h6.1) (by simpa using h6.2) h2 h3 h4
          · cases hr
        · split at hr
          · rename_i sz hx
            cases hb : Nat.beq sz ee.size with
            | false => rw [hb] at hr; cases hr
            | true =>
              rw [hb] at hr; simp only [cond_true, Option.some.injEq] at hr; subst hr
              obtain rfl := Nat.eq_of_beq_eq_true hb
              rintro ⟨h1, h2, h6, _⟩ S2 rfl
              unfold AppOk at h6
              exact o_append_new ho hu hs h0' hx h1 (by simpa using h6.1) (by simpa using h6.2) h2
          · cases hr
        · split at hr
          · rename_i sz sz' hx hy
            cases hb : (Nat.beq sz ee.size && Nat.beq sz' ee.size) with
            | false => rw [hb] at hr; cases hr
            | true =>
              rw [hb] at hr; simp only [cond_true, Option.some.injEq] at hr; subst hr
              simp only [Bool.and_eq_true] at hb
              obtain rfl := Nat.eq_of_beq_eq_true hb.1
              obtain rfl := Nat.eq_of_beq_eq_true hb.2
              exact fun _ S => o_append_zero ho hu hs hx hy
          · cases hr
    · cases hr
  · cases hr
def bsF (E : Env) (e : TyE) (n : Nat) (ρ : Operand → PV) (S : Sx) (ps : List (Nat × Operand)) : Option Ro :=
  match e.d with
  | .slice el => match tget E.tab el with
    | some ee => match elsP ρ ps 0 with
      | some es => bif Nat.blt 0 ee.size && Nat.ble (n * ee.size) 16777216 && Nat.beq es.length n && Nat.blt 0 n && es.all (fun e => e.length == ee.size) then some (.e [] (.ms S.bs.length 0 ee.size n) (.all ⟨S.bs ++ [some es.flatten], S.ts⟩)) else none
      | none => none
    | none => none
  | _ => none
theorem bsF_ok (hE : EnvOk P E) {T n : Nat} {e : TyE} {ps : Array (Nat × Operand)} {r : Ro} (ho : o.op = .buildSlice T n ps) (ht : tget E.tab T = some e) (hr : bsF E e n ρ S ps.toList = some r) : RoOk P o ρ S r := by
  have hk := hE.tab _ _ ht
  unfold bsF at hr
  split at hr
  · rename_i el hd
    have hu : P.underlying T = some (.slice el) := by rw [hk.u, hd]
    split at hr
    · rename_i ee hee
      have hs := (hE.tab _ _ hee).ti
      split at hr
      · rename_i es hes
        cases hb : (Nat.blt 0 ee.size && Nat.ble (n * ee.size) 16777216 && Nat.beq es.length n && Nat.blt 0 n && es.all (fun e => e.length == ee.size)) with
        | false => rw [hb] at hr; cases hr
        | true =>
          rw [hb] at hr; simp only [cond_true, Option.some.injEq] at hr; subst hr
          simp only [Bool.and_eq_true] at hb
          obtain ⟨⟨⟨⟨h1, h2⟩, h3⟩, h4⟩, h5⟩ := hb
          rintro _ S2 rfl
          exact o_buildSlice_ms ho hu hs (by simpa using h1) (Nat.le_of_ble_eq_true h2) (by simpa using h4) hes (Nat.eq_of_beq_eq_true h3) h5
      · cases hr
    · cases hr
  · cases hr
def slmF (E : Env) (d : TypeDesc) (k : Nat) (px ph : PV) : Option Ro :=
  match d with
  | .slice el => match tget E.tab el with
    | some ee => match ph with
      | .d (.v (.int _ a)) => match px with
        | .ms b off sz n => bif Nat.beq sz ee.size then some (.v [a = ((k : Nat) : Int), k ≤ n] (.ms b off sz k)) else none
        | .fs i j off sz n => bif Nat.beq sz ee.size then some (.v [a = ((k : Nat) : Int), k ≤ n] (.fs i j off sz k)) else none
        | _ => none
      | _ => none
    | none => none
  | _ => none
theorem slmF_ok (hE : EnvOk P E) {T k : Nat} {x hi : Operand} {e : TyE} {r : Ro} (ho : o.op = .slice T x none (some hi) none) (ht : tget E.tab T = some e) (hr : slmF E e.d k (ρ x) (ρ hi) = some r) : RoOk P o ρ S r := by
  have hk := hE.tab _ _ ht
  unfold slmF at hr
  split at hr
  · rename_i el hd
    have hu : P.underlying T = some (.slice el) := by rw [hk.u, hd]
    split at hr
    · rename_i ee hee
      have hs := (hE.tab _ _ hee).ti.size
      split at hr
      · rename_i hh
        split at hr
        · rename_i b off sz n hx
          cases hb : Nat.beq sz ee.size with
          | false => rw [hb] at hr; cases hr
          | true =>
            rw [hb] at hr; simp only [cond_true, Option.some.injEq] at hr; subst hr
            obtain rfl := Nat.eq_of_beq_eq_true hb
            rintro ⟨rfl, h2, _⟩ S
            exact o_slice_ms ho hu hs hx hh h2
        · rename_i i j off sz n hx
          cases hb : Nat.beq sz ee.size with
          | false => rw [hb] at hr; cases hr
          | true =>
            rw [hb] at hr; simp only [cond_true, Option.some.injEq] at hr; subst hr
            obtain rfl := Nat.eq_of_beq_eq_true hb
            rintro ⟨rfl, h2, _⟩ S
            exact o_slice_fs ho hu hs hx hh h2
        · cases hr
      · cases hr
    · cases hr
  · cases hr
def s3F (E : Env) (d : TypeDesc) (k : Nat) (px ph pm : PV) : Option Ro :=
  match d with
  | .slice el => match tget E.tab el with
    | some ee => match ph, pm with
      | .d (.v (.int _ a)), .d (.v (.int _ b)) => match px with
        | .ms _ _ sz _ => bif Nat.beq sz ee.size then some (.v [a = 0, b = 0] (.d (.sl sz true []))) else none
        | .fs _ _ _ sz _ => bif Nat.beq sz ee.size then some (.v [a = 0, b = 0] (.d (.sl sz true []))) else none
        | px => match px.els with
          | some (sz, es) => bif Nat.beq sz ee.size then some (.v [es ≠ [], a = ((k : Nat) : Int), b = ((k : Nat) : Int), k ≤ es.length] (.d (.sl sz true (es.take k)))) else none
          | none => none
      | _, _ => none
    | none => none
  | _ => none
theorem s3F_ok (hE : EnvOk P E) {T k : Nat} {x hi mx : Operand} {e : TyE} {r : Ro} (ho : o.op = .slice T x none (some hi) (some mx)) (ht : tget E.tab T = some e) (hr : s3F E e.d k (ρ x) (ρ hi) (ρ mx) = some r) : RoOk P o ρ S r := by
  have hk := hE.tab _ _ ht
  unfold s3F at hr
  split at hr
  · rename_i el hd
    have hu : P.underlying T = some (.slice el) := by rw [hk.u, hd]
    split at hr
    · rename_i ee hee
      have hs := (hE.tab _ _ hee).ti.size
      split at hr
      · rename_i hh hm
        split at hr
        · rename_i b off sz n hx
          cases hb : Nat.beq sz ee.size with
          | false => rw [hb] at hr; cases hr
          | true =>
            rw [hb] at hr; simp only [cond_true, Option.some.injEq] at hr; subst hr
            obtain rfl := Nat.eq_of_beq_eq_true hb
            rintro ⟨rfl, rfl, _⟩ S
            exact o_slice3z ho hu hs (.inl ⟨b, off, n, hx⟩) hh hm
        · rename_i i j off sz n hx
          cases hb : Nat.beq sz ee.size with
          | false => rw [hb] at hr; cases hr
          | true =>
            rw [hb] at hr; simp only [cond_true, Option.some.injEq] at hr; subst hr
            obtain rfl := Nat.eq_of_beq_eq_true hb
            rintro ⟨rfl, rfl, _⟩ S
            exact o_slice3z ho hu hs (.inr ⟨i, j, off, n, hx⟩) hh hm
        · split at hr
          · rename_i sz es hx
            cases hb : Nat.beq sz ee.size with
            | false => rw [hb] at hr; cases hr
            | true =>
              rw [hb] at hr; simp only [cond_true, Option.some.injEq] at hr; subst hr
              obtain rfl := Nat.eq_of_beq_eq_true hb
              rintro ⟨h1, rfl, rfl, h2, _⟩ S
              exact o_slice3 ho hu hs hx h1 hh hm h2
          · cases hr
      · cases hr
    · cases hr
  · cases hr
/-- Maps. -/
def lookF (E : Env) (T : Nat) (ok : Bool) (S : Sx) (ds : List PV) (h : Option (Nat × PV)) (px py : PV) : Option Ro :=
  match tget E.tab T with
  | some ⟨.map K T2, _, _, _, _, _⟩ => match tget E.tab K, tget E.tab T2 with
    | some e, some e2 => bif keyTy E e.d then (match px with
      | .fm i j => match h with
        | some (n, q) => some (.r [(keyE E K e.d py py).isSome = true, FamAt S i j ds, KYes E K e.d ds py n, ds[2 * n + 1]? = some q] (bif ok then .tup [q, .d (.v (.bool true))] else q) (.b i))
        | none => some (.r [(keyE E K e.d py py).isSome = true, FamAt S i j ds, KNo E K e.d ds py (ds.length / 2), ∀ g, V g (zpv e2) e2.zero] (bif ok then .tup [zpv e2, .d (.v (.bool false))] else zpv e2) (.b i))
      | _ => none) else none
    | _, _ => none
  | _ => none
theorem lookF_ok (hE : EnvOk P E) {T : Nat} {x y : Operand} {ok : Bool} {ds : List PV} {h : Option (Nat × PV)} {r : Ro} (ho : o.op = .lookup T x y ok) (hr : lookF E T ok S ds h (ρ x) (ρ y) = some r) : RoOk P o ρ S r := by
  unfold lookF at hr
  split at hr
  · rename_i ht
    have hu := (hE.tab _ _ ht).u
    split at hr
    · rename_i e e2 he he2
      cases hkt : keyTy E e.d with
      | false => rw [hkt] at hr; cases hr
      | true =>
        rw [hkt] at hr; simp only [cond_true] at hr
        split at hr
        · rename_i i j hx
          split at hr
          · simp only [Option.some.injEq] at hr; subst hr
            rintro ⟨h1, h2, h3, h4, _⟩ S2 hag
            obtain ⟨b, hb⟩ := Option.isSome_iff_exists.1 h1
            exact o_lookup_yes hE ho hu he hkt hb hx (h2.ag hag) h3 h4
          · simp only [Option.some.injEq] at hr; subst hr
            rintro ⟨h1, h2, h3, h4, _⟩ S2 hag
            obtain ⟨b, hb⟩ := Option.isSome_iff_exists.1 h1
            exact o_lookup_no hE ho hu he he2 hkt hb h4 hx (h2.ag hag) h3
        · cases hr
    · cases hr
  · cases hr
def mputF (E : Env) (T : Nat) (S : Sx) (cs ds c' : List PV) (px py pz : PV) : Option Ro :=
  match tget E.tab T with
  | some ⟨.map K _, _, _, _, _, _⟩ => match tget E.tab K with
    | some e => bif keyTy E e.d then (match px with
      | .fm i j => some (.e [(keyE E K e.d py py).isSome = true, FamIs S i cs, cs[j + 1]? = some (.agg ds), KNo E K e.d ds py (ds.length / 2), cs.set (j + 1) (.agg (ds ++ [py, pz])) = c'] .junk (.box i c'))
      | _ => none) else none
    | none => none
  | _ => none
theorem mputF_ok (hE : EnvOk P E) {T : Nat} {x y z : Operand} {cs ds c' : List PV} {r : Ro} (ho : o.op = .mapUpdate T x y z ∨ o.op = .insert T x y z) (hr : mputF E T S cs ds c' (ρ x) (ρ y) (ρ z) = some r) : RoOk P o ρ S r := by
  unfold mputF at hr
  split at hr
  · rename_i ht
    have hu := (hE.tab _ _ ht).u
    split at hr
    · rename_i e he
      cases hkt : keyTy E e.d with
      | false => rw [hkt] at hr; cases hr
      | true =>
        rw [hkt] at hr; simp only [cond_true] at hr
        split at hr
        · rename_i i j hx
          simp only [Option.some.injEq] at hr; subst hr
          rintro ⟨h1, ⟨h2, h3⟩, h4, h5, rfl, _⟩ S2 hag
          obtain ⟨b, hb⟩ := Option.isSome_iff_exists.1 h1
          exact put_wp hE ho hu he hkt hb hx (Eq.trans hag h2) h3 h4 h5
        · cases hr
    · cases hr
  · cases hr
def delF (E : Env) (T : Nat) (S : Sx) (n : Nat) (q : PV) (cs ds c' : List PV) (px py : PV) : Option Ro :=
  match tget E.tab T with
  | some ⟨.map K _, _, _, _, _, _⟩ => match tget E.tab K with
    | some e => bif keyTy E e.d then (match px with
      | .fm i j => some (.e [(keyE E K e.d py py).isSome = true, FamIs S i cs, cs[j + 1]? = some (.agg ds), KYes E K e.d ds py n, ds[2 * n + 1]? = some q, cs.set (j + 1) (.agg (ds.take (2 * n) ++ ds.drop (2 * n + 2))) = c'] .junk (.box i c'))
      | _ => none) else none
    | none => none
  | _ => none
theorem delF_ok (hE : EnvOk P E) {T n : Nat} {x y : Operand} {Ts : Array TypeId} {q : PV} {cs ds c' : List PV} {r : Ro} (ho : o.op = .call { callee := .builtin .delete, args := #[x, y], argTypes := Ts }) (h0 : Ts[0]? = some T) (hr : delF E T S n q cs ds c' (ρ x) (ρ y) = some r) : RoOk P o ρ S r := by
  unfold delF at hr
  split at hr
  · rename_i ht
    have hu := (hE.tab _ _ ht).u
    split at hr
    · rename_i e he
      cases hkt : keyTy E e.d with
      | false => rw [hkt] at hr; cases hr
      | true =>
        rw [hkt] at hr; simp only [cond_true] at hr
        split at hr
        · rename_i i j hx
          simp only [Option.some.injEq] at hr; subst hr
          rintro ⟨h1, ⟨h2, h3⟩, h4, h5, h6, rfl, _⟩ S2 hag
          obtain ⟨b, hb⟩ := Option.isSome_iff_exists.1 h1
          exact o_delete_yes hE ho h0 hu he hkt hb hx (Eq.trans hag h2) h3 h4 h5 h6
        · cases hr
    · cases hr
  · cases hr

/-- A map all of whose keys are plain. -/
def famAt0 (S : Sx) (i j : Nat) : Option (List PV × List PV) :=
  match boxAt S i with
  | some cs => match cs[j + 1]? with
    | some (.agg ds) => bif isFam cs then some (cs, ds) else none
    | _ => none
  | none => none
theorem famAt0_ok {i j : Nat} {cs ds : List PV} (h : famAt0 S i j = some (cs, ds)) : FamIs S i cs ∧ cs[j + 1]? = some (.agg ds) := by
  unfold famAt0 at h
  split at h
  · rename_i cs' hb
    split at h
    · rename_i ds' hd
      cases hf : isFam cs' with
      | false => rw [hf] at h; cases h
      | true => rw [hf] at h; cases h; exact ⟨⟨boxAt_of hb, hf⟩, hd⟩
    · cases h
  · cases h
def isF : Option Bool → Bool
  | some false => true
  | _ => false
def isT : Option Bool → Bool
  | some true => true
  | _ => false
def knoB (E : Env) (K : Nat) (d : TypeDesc) (p : PV) : List PV → Bool
  | q :: _ :: r => isF (keyE E K d p q) && knoB E K d p r
  | [] => true
  | _ => false
theorem isF_eq {o : Option Bool} (h : isF o = true) : o = some false := by
  match o, h with
  | some false, _ => rfl
theorem isT_eq {o : Option Bool} (h : isT o = true) : o = some true := by
  match o, h with
  | some true, _ => rfl
theorem knoB_ok {K : Nat} {d : TypeDesc} {p : PV} : ∀ (ds : List PV), knoB E K d p ds = true → KNo E K d ds p (ds.length / 2)
  | [], _ => fun m hm => absurd hm (by simp)
  | [_], h => by simp [knoB] at h
  | q :: v :: r, h => by
    simp only [knoB, Bool.and_eq_true] at h
    intro m hm
    cases m with
    | zero => exact ⟨q, rfl, isF_eq h.1⟩
    | succ m =>
      obtain ⟨q', h1, h2⟩ := knoB_ok r h.2 m (by simp at hm; omega)
      exact ⟨q', by rw [show 2 * (m + 1) = 2 * m + 1 + 1 by omega]; simpa using h1, h2⟩
def kfind (E : Env) (K : Nat) (d : TypeDesc) (p : PV) : List PV → Option (Nat × PV)
  | q :: v :: r => bif isT (keyE E K d p q) then some (0, v) else bif isF (keyE E K d p q) then (match kfind E K d p r with
    | some (n, x) => some (n + 1, x)
    | none => none) else none
  | _ => none
theorem kfind_ok {K : Nat} {d : TypeDesc} {p : PV} : ∀ (ds : List PV) (n : Nat) (x : PV), kfind E K d p ds = some (n, x) → KYes E K d ds p n ∧ ds[2 * n + 1]? = some x
  | [], n, x, h => by simp [kfind] at h
  | [_], n, x, h => by simp [kfind] at h
  | q :: v :: r, n, x, h => by
    unfold kfind at h
    cases ht : isT (keyE E K d p q) with
    | true =>
      rw [ht] at h; simp only [cond_true, Option.some.injEq, Prod.mk.injEq] at h
      obtain ⟨rfl, rfl⟩ := h
      exact ⟨⟨fun m hm => absurd hm (Nat.not_lt_zero m), q, rfl, isT_eq ht⟩, rfl⟩
    | false =>
      rw [ht] at h; simp only [cond_false] at h
      cases hf : isF (keyE E K d p q) with
      | false => rw [hf] at h; cases h
      | true =>
        rw [hf] at h; simp only [cond_true] at h
        split at h
        · rename_i n' x' hr
          simp only [Option.some.injEq, Prod.mk.injEq] at h
          obtain ⟨rfl, rfl⟩ := h
          obtain ⟨⟨h1, q', h2, h3⟩, h4⟩ := kfind_ok r n' x' hr
          refine ⟨⟨fun m hm => ?_, q', by rw [show 2 * (n' + 1) = 2 * n' + 1 + 1 by omega]; simpa using h2, h3⟩, by rw [show 2 * (n' + 1) + 1 = 2 * n' + 1 + 1 + 1 by omega]; simpa using h4⟩
          cases m with
          | zero => exact ⟨q, rfl, isF_eq hf⟩
          | succ m =>
            obtain ⟨q2, k1, k2⟩ := h1 m (by omega)
            exact ⟨q2, by rw [show 2 * (m + 1) = 2 * m + 1 + 1 by omega]; simpa using k1, k2⟩
        · cases h
def put0F (E : Env) (T : Nat) (S : Sx) (px py pz : PV) : Option Ro :=
  match tget E.tab T with
  | some ⟨.map K _, _, _, _, _, _⟩ => match tget E.tab K with
    | some e => match px with
      | .fm i j => match famAt0 S i j with
        | some (cs, ds) => bif keyTy E e.d && (keyE E K e.d py py).isSome && knoB E K e.d py ds then some (.e [] .junk (.box i (cs.set (j + 1) (.agg (ds ++ [py, pz]))))) else none
        | none => none
      | _ => none
    | none => none
  | _ => none
theorem put0F_ok (hE : EnvOk P E) {T : Nat} {x y z : Operand} {r : Ro} (ho : o.op = .mapUpdate T x y z ∨ o.op = .insert T x y z) (hr : put0F E T S (ρ x) (ρ y) (ρ z) = some r) : RoOk P o ρ S r := by
  unfold put0F at hr
  split at hr
  · rename_i ht
    have hu := (hE.tab _ _ ht).u
    split at hr
    · rename_i e he
      split at hr
      · rename_i i j hx
        split at hr
        · rename_i cs ds hfa
          cases hb : (keyTy E e.d && (keyE E _ e.d (ρ y) (ρ y)).isSome && knoB E _ e.d (ρ y) ds) with
          | false => rw [hb] at hr; cases hr
          | true =>
            rw [hb] at hr; simp only [cond_true, Option.some.injEq] at hr; subst hr
            simp only [Bool.and_eq_true] at hb
            obtain ⟨⟨b1, b2⟩, b3⟩ := hb
            obtain ⟨b, hb⟩ := Option.isSome_iff_exists.1 b2
            obtain ⟨⟨h1, h2⟩, h3⟩ := famAt0_ok hfa
            intro _ S2 hag
            exact put_wp hE ho hu he b1 hb hx (Eq.trans hag h1) h2 h3 (knoB_ok ds b3)
        · cases hr
      · cases hr
    · cases hr
  · cases hr
def look0F (E : Env) (T : Nat) (ok : Bool) (S : Sx) (px py : PV) : Option Ro :=
  match tget E.tab T with
  | some ⟨.map K T2, _, _, _, _, _⟩ => match tget E.tab K, tget E.tab T2 with
    | some e, some e2 => match px with
      | .fm i j => match famAt0 S i j with
        | some (_, ds) => bif keyTy E e.d && (keyE E K e.d py py).isSome then (match kfind E K e.d py ds with
          | some (_, q) => some (.r [] (bif ok then .tup [q, .d (.v (.bool true))] else q) (.b i))
          | none => bif knoB E K e.d py ds && !aggT e2.d && Nat.beq e2.zs.length 1 && e2.zero.oneCell' then some (.r [] (bif ok then .tup [zpv e2, .d (.v (.bool false))] else zpv e2) (.b i)) else none) else none
        | none => none
      | _ => none
    | _, _ => none
  | _ => none
theorem look0F_ok (hE : EnvOk P E) {T : Nat} {x y : Operand} {ok : Bool} {r : Ro} (ho : o.op = .lookup T x y ok) (hr : look0F E T ok S (ρ x) (ρ y) = some r) : RoOk P o ρ S r := by
  unfold look0F at hr
  split at hr
  · rename_i K T2 _ _ _ _ _ ht
    have hu := (hE.tab _ _ ht).u
    split at hr
    · rename_i e e2 he he2
      split at hr
      · rename_i i j hx
        split at hr
        · rename_i cs ds hfa
          cases hb : (keyTy E e.d && (keyE E K e.d (ρ y) (ρ y)).isSome) with
          | false => rw [hb] at hr; cases hr
          | true =>
            rw [hb] at hr; simp only [cond_true] at hr
            simp only [Bool.and_eq_true] at hb
            obtain ⟨b1, b2⟩ := hb
            obtain ⟨b, hb⟩ := Option.isSome_iff_exists.1 b2
            obtain ⟨⟨h1, h2⟩, h3⟩ := famAt0_ok hfa
            have hfm : FamAt S i j ds := ⟨cs, h1, h2, h3⟩
            split at hr
            · rename_i n q hk
              simp only [Option.some.injEq] at hr; subst hr
              intro _ S2 hag
              obtain ⟨k1, k2⟩ := kfind_ok ds n q hk
              exact o_lookup_yes hE ho hu he b1 hb hx (hfm.ag hag) k1 k2
            · cases hc : (knoB E K e.d (ρ y) ds && !aggT e2.d && Nat.beq e2.zs.length 1 && e2.zero.oneCell') with
              | false => rw [hc] at hr; cases hr
              | true =>
                rw [hc] at hr; simp only [cond_true, Option.some.injEq] at hr; subst hr
                simp only [Bool.and_eq_true, Bool.not_eq_true'] at hc
                obtain ⟨⟨⟨c1, c2⟩, c3⟩, c4⟩ := hc
                intro _ S2 hag
                exact o_lookup_no hE ho hu he he2 b1 hb (fun g => zpv_ok (hE.tab _ _ he2) g (fun _ => ⟨Nat.eq_of_beq_eq_true c3, c4⟩) (fun h => by rw [c2] at h; cases h)) hx (hfm.ag hag) (knoB_ok ds c1)
        · cases hr
      · cases hr
    · cases hr
  · cases hr
/-- A new member of a family that is plain. -/
def fam0 (S : Sx) (i : Nat) : Option (Nat × List PV) :=
  match boxAt S i with
  | some (.fh :: r) => some (r.length, .fh :: r)
  | _ => none
theorem fam0_ok {i N : Nat} {cs : List PV} (h : fam0 S i = some (N, cs)) : FamIs S i cs ∧ cs.length = N + 1 := by
  unfold fam0 at h
  split at h
  · rename_i r hb
    cases h
    exact ⟨⟨boxAt_of hb, rfl⟩, rfl⟩
  · cases h
def mem0F (T : Option TyE) (op : Op) (ρ : Operand → PV) (S : Sx) (i : Nat) : Option Ro :=
  match fam0 S i with
  | some (N, cs) => match op with
    | .makeMap _ none => some (.e [] (.fm i N) (.box i (cs ++ [.agg []])))
    | .alloc _ => match T with
      | some e => some (.e [] (.fp i N 0) (.box i (cs ++ [.agg e.zs])))
      | none => none
    | .box _ x => match (ρ x).cells with
      | some ps => some (.e [] (.fp i N 0) (.box i (cs ++ [.agg ps])))
      | none => none
    | _ => none
  | none => none
theorem mem0F_ok (hE : EnvOk P E) {i : Nat} {r : Ro} (hr : mem0F (match o.op with | .alloc T => tget E.tab T | _ => none) o.op ρ S i = some r) : RoOk P o ρ S r := by
  generalize hop : o.op = op at hr
  unfold mem0F at hr
  split at hr
  · rename_i N cs hf
    obtain ⟨⟨h1, h2⟩, h3⟩ := fam0_ok hf
    split at hr
    · simp only [Option.some.injEq] at hr; subst hr
      exact fun _ S2 hag => o_makeMap hop (Eq.trans hag h1) h2 h3
    · split at hr
      · rename_i e he
        simp only [Option.some.injEq] at hr; subst hr
        have hk := hE.tab _ _ he
        exact fun _ S2 hag => o_alloc_mem hop hk.ti hk.zs (Eq.trans hag h1) h2 h3
      · cases hr
    · split at hr
      · rename_i ps hx
        simp only [Option.some.injEq] at hr; subst hr
        exact fun _ S2 hag => o_box_mem hop hx (Eq.trans hag h1) h2 h3
      · cases hr
    · cases hr
  · cases hr
def isEqOp : BinOp → Bool
  | .eql | .neq => true
  | _ => false
def eqsF (E : Env) (op : BinOp) (T : Nat) (px : PV) : Option Ro :=
  bif isEqOp op then (match tget E.tab T with
    | some ⟨.slice _, _, _, _, _, _⟩ => match px with
      | .d (.v (.slice A _ _)) => some (.v [] (.d (.v (.bool (if op = .eql then A.isNone else !A.isNone)))))
      | .d (.sl _ _ es) => some (.v [es ≠ []] (.d (.v (.bool (if op = .eql then false else !false)))))
      | _ => none
    | _ => none) else none
theorem eqsF_ok (hE : EnvOk P E) {op : BinOp} {T T' : Nat} {x : Operand} {r : Ro} (ho : o.op = .binOp op T x (.const (.slice none 0 0)) T') (hr : eqsF E op T (ρ x) = some r) : RoOk P o ρ S r := by
  unfold eqsF at hr
  cases hb : isEqOp op with
  | false => rw [hb] at hr; cases hr
  | true =>
    have hop : op = .eql ∨ op = .neq := by cases op <;> first | exact .inl rfl | exact .inr rfl | cases hb
    rw [hb] at hr; simp only [cond_true] at hr
    split at hr
    · rename_i ht
      have hu := (hE.tab _ _ ht).u
      split at hr
      · rename_i A n c hx
        simp only [Option.some.injEq] at hr; subst hr
        exact fun _ S => o_eqs (A := fun _ => A) ho hu hop (fun g v hv => ⟨A, n, c, by rw [hx] at hv; exact hv.d_v.1, rfl⟩)
      · rename_i sz f es hx
        simp only [Option.some.injEq] at hr; subst hr
        rintro ⟨hne, _⟩ S
        refine o_eqs (A := fun _ => none) ho hu hop (fun g v hv => ?_)
        rw [hx] at hv
        cases hv with
        | d _ _ hv =>
          obtain ⟨a2, cap2, us, h2, hz2, hc2, _, hn2, _⟩ := hv.unslN hne
          refine ⟨_, _, _, h2, ?_⟩
          cases a2 with
          | none =>
            have h1 := hn2 rfl
            have h3 := List.length_pos_iff.2 hne
            omega
          | some p => rfl
      · cases hr
    · cases hr
def zero2F (E : Env) (T : Nat) (px py : PV) : Option Ro :=
  match tget E.tab T with
  | some ⟨.slice el, _, _, _, _, _⟩ => match tget E.tab el with
    | some ee => match px.els, py with
      | some (sz, []), .d (.v (.slice _ 0 _)) => bif Nat.beq sz ee.size then some (.v [] (.d (.sl sz false []))) else none
      | _, _ => none
    | none => none
  | _ => none
theorem zero2F_ok (hE : EnvOk P E) {T : Nat} {x y : Operand} {r : Ro} (ho : o.op = .call { callee := .builtin .append, args := #[x, y], argTypes := #[T, T] }) (hr : zero2F E T (ρ x) (ρ y) = some r) : RoOk P o ρ S r := by
  unfold zero2F at hr
  split at hr
  · rename_i ht
    have hu := (hE.tab _ _ ht).u
    split at hr
    · rename_i ee hee
      have hs := (hE.tab _ _ hee).ti
      split at hr
      · rename_i sz B c2 hx hy
        cases hb : Nat.beq sz ee.size with
        | false => rw [hb] at hr; cases hr
        | true =>
          rw [hb] at hr; simp only [cond_true, Option.some.injEq] at hr; subst hr
          obtain rfl := Nat.eq_of_beq_eq_true hb
          exact fun _ S => o_append_zero2 ho hu hs hx hy
      · cases hr
    · cases hr
  · cases hr
def cpyF (E : Env) (T : Nat) (S : Sx) (m : Nat) (cs ps c' : List PV) (px py : PV) : Option Ro :=
  match tget E.tab T with
  | some ⟨.slice el, _, _, _, _, _⟩ => match tget E.tab el with
    | some ee => match px with
      | .ms b off sz n => bif Nat.blt 0 ee.size && Nat.beq sz ee.size then some (.e [Src S py sz m ps, S.bs[b]? = some (some cs), off + n * sz ≤ cs.length ∧ m ≤ n ∧ splice cs off ps = c'] (.d (.v (.int .i64 ((m : Nat) : Int)))) (.all ⟨S.bs.set b (some c'), S.ts⟩)) else none
      | _ => none
    | none => none
  | _ => none
theorem cpyF_ok (hE : EnvOk P E) {T T' m : Nat} {x y : Operand} {cs ps c' : List PV} {r : Ro} (ho : o.op = .call { callee := .builtin .copy, args := #[x, y], argTypes := #[T, T'] }) (hr : cpyF E T S m cs ps c' (ρ x) (ρ y) = some r) : RoOk P o ρ S r := by
  unfold cpyF at hr
  split at hr
  · rename_i ht
    have hu := (hE.tab _ _ ht).u
    split at hr
    · rename_i ee hee
      have hs := (hE.tab _ _ hee).ti.size
      split at hr
      · rename_i b off sz n hx
        cases hb : (Nat.blt 0 ee.size && Nat.beq sz ee.size) with
        | false => rw [hb] at hr; cases hr
        | true =>
          rw [hb] at hr; simp only [cond_true, Option.some.injEq] at hr; subst hr
          simp only [Bool.and_eq_true] at hb
          obtain rfl := Nat.eq_of_beq_eq_true hb.2
          have h0 : 0 < ee.size := by simpa using hb.1
          rintro ⟨h1, h2, ⟨h3, h4, rfl⟩, _⟩ S2 rfl
          exact o_copyG ho hu hs h0 hx h1 h2 h3 h4
      · cases hr
    · cases hr
  · cases hr
def mkatF (E : Env) (T : Nat) (S : Sx) (p n : Nat) (px py : PV) : Option Ro :=
  match tget E.tab T with
  | some ⟨.slice el, _, _, _, _, _⟩ => match tget E.tab el with
    | some ee => match px, py, S.bs[p]? with
      | .d (.v (.int _ a)), .d (.v (.int _ b)), some none => bif Nat.blt 0 ee.size then some (.e [a = ((n : Nat) : Int), b = ((n : Nat) : Int), n * ee.bytes ≤ 281474976710656 ∧ n ≤ 9223372036854775807] (.ms p 0 ee.size n) (.box p (reps n ee.zs))) else none
      | _, _, _ => none
    | none => none
  | _ => none
theorem mkatF_ok (hE : EnvOk P E) {T p n : Nat} {x y : Operand} {r : Ro} (ho : o.op = .makeSlice T x y) (hr : mkatF E T S p n (ρ x) (ρ y) = some r) : RoOk P o ρ S r := by
  unfold mkatF at hr
  split at hr
  · rename_i ht
    have hu := (hE.tab _ _ ht).u
    split at hr
    · rename_i ee hee
      have hk := hE.tab _ _ hee
      split at hr
      · rename_i hx hy hp
        cases h0 : Nat.blt 0 ee.size with
        | false => rw [h0] at hr; cases hr
        | true =>
          rw [h0] at hr; simp only [cond_true, Option.some.injEq] at hr; subst hr
          rintro ⟨rfl, rfl, ⟨h3, h4⟩, _⟩ S2 hag
          exact o_mk_at ho hu hk.ti (by simpa using h0) hk.zs hx hy h3 h4 (Eq.trans hag hp)
      · cases hr
    · cases hr
  · cases hr
def bsvF (E : Env) (e : TyE) (n : Nat) (ρ : Operand → PV) (S : Sx) (i N : Nat) (cs zs c' : List PV) (ps : List (Nat × Operand)) : Option Ro :=
  match e.d with
  | .slice el => match tget E.tab el with
    | some ee => match elsP ρ ps 0 with
      | some es => bif Nat.blt 0 ee.size && Nat.ble (n * ee.size) 16777216 && Nat.beq es.length n && Nat.blt 0 n && es.all (fun e => e.length == ee.size) then some (.e [es.flatten = zs, mkP S i N cs zs c'] (.fv i N ee.size n) (.box i c')) else none
      | none => none
    | none => none
  | _ => none
theorem bsvF_ok (hE : EnvOk P E) {T n i N : Nat} {e : TyE} {ps : Array (Nat × Operand)} {cs zs c' : List PV} {r : Ro} (ho : o.op = .buildSlice T n ps) (ht : tget E.tab T = some e) (hr : bsvF E e n ρ S i N cs zs c' ps.toList = some r) : RoOk P o ρ S r := by
  have hk := hE.tab _ _ ht
  unfold bsvF at hr
  split at hr
  · rename_i el hd
    have hu : P.underlying T = some (.slice el) := by rw [hk.u, hd]
    split at hr
    · rename_i ee hee
      have hs := (hE.tab _ _ hee).ti
      split at hr
      · rename_i es hes
        cases hb : (Nat.blt 0 ee.size && Nat.ble (n * ee.size) 16777216 && Nat.beq es.length n && Nat.blt 0 n && es.all (fun e => e.length == ee.size)) with
        | false => rw [hb] at hr; cases hr
        | true =>
          rw [hb] at hr; simp only [cond_true, Option.some.injEq] at hr; subst hr
          simp only [Bool.and_eq_true] at hb
          obtain ⟨⟨⟨⟨h1, h2⟩, h3⟩, h4⟩, h5⟩ := hb
          rintro ⟨rfl, ⟨⟨k1, k2⟩, k3, rfl⟩, _⟩ S2 hag
          exact o_buildSlice_fv ho hu hs (by simpa using h1) (Nat.le_of_ble_eq_true h2) (by simpa using h4) hes (Nat.eq_of_beq_eq_true h3) h5 (Eq.trans hag k1) k2 k3
      · cases hr
    · cases hr
  · cases hr
def opF (E : Env) (op : Op) (ρ : Operand → PV) (S : Sx) (k : FH) : Option Ro :=
  match op, k with
  | .load T x, .ld ds ps => match tget E.tab T with
    | some e => ldF e.d e.size S ds ps (ρ x)
    | none => none
  | .store T x y, .st cs ds c' => match tget E.tab T with
    | some e => match (ρ y).cells with
      | some ps => stF e.size S cs ds ps c' (ρ x)
      | none => none
    | none => none
  | .nilCheck x, .go => nilF (ρ x)
  | .fieldAddr T x f, .go => match tget E.tab T with
    | some e => fieldF E e.d f (ρ x)
    | none => none
  | .indexAddr T x y, .ix k ds => match tget E.tab T with
    | some e => indexF E e.d S k ds (ρ x) (ρ y)
    | none => none
  | .call ⟨.builtin .len, ⟨[x]⟩, ⟨[T]⟩⟩, .go => lenF' E T (ρ x)
  | .alloc T, .mem i N cs c' => match tget E.tab T with
    | some e => allocF i N cs c' e.zs S
    | none => none
  | .box _ x, .mem i N cs c' => match (ρ x).cells with
    | some ps => allocF i N cs c' ps S
    | none => none
  | .makeSlice T x y, .mk i N n cs c' => mkF E T S i N n cs c' (ρ x) (ρ y)
  | .call ⟨.builtin .append, ⟨[x, y]⟩, ⟨[T, T']⟩⟩, .app k => bif Nat.beq T T' then appF E T S k (ρ x) (ρ y) else none
  | .buildSlice T n ps, .go => match tget E.tab T with
    | some e => bsF E e n ρ S ps.toList
    | none => none
  | .slice T x none (some hi) (some mx), .s3 k => match tget E.tab T with
    | some e => s3F E e.d k (ρ x) (ρ hi) (ρ mx)
    | none => none
  | .slice T x none (some hi) none, .slm k => match tget E.tab T with
    | some e => slmF E e.d k (ρ x) (ρ hi)
    | none => none
  | .makeMap _ none, .mem i N cs c' => some (.e [mkP S i N cs [] c'] (.fm i N) (.box i c'))
  | .lookup T x y ok, .look ds h => lookF E T ok S ds h (ρ x) (ρ y)
  | .mapUpdate T x y z, .put cs ds c' => mputF E T S cs ds c' (ρ x) (ρ y) (ρ z)
  | .insert T x y z, .put cs ds c' => mputF E T S cs ds c' (ρ x) (ρ y) (ρ z)
  | .insert T x y z, .put0 => put0F E T S (ρ x) (ρ y) (ρ z)
  | .mapUpdate T x y z, .put0 => put0F E T S (ρ x) (ρ y) (ρ z)
  | .lookup T x y ok, .look0 => look0F E T ok S (ρ x) (ρ y)
  | .binOp op T x (.const (.slice none 0 0)) _, .go => eqsF E op T (ρ x)
  | .binOp .andNot _ x y _, .go => match ρ x, ρ y with
    | .d (.v (.int k m)), .d (.v (.int k' n)) => if k = k' then some (.v [] (.d (.v (.int k (bitsN k m n))))) else none
    | _, _ => none
  | .call ⟨.builtin .append, ⟨[x, y]⟩, ⟨[T, T']⟩⟩, .go => bif Nat.beq T T' then zero2F E T (ρ x) (ρ y) else none
  | .call ⟨.builtin .copy, ⟨[x, y]⟩, ⟨[T, _]⟩⟩, .cpy m cs ps c' => cpyF E T S m cs ps c' (ρ x) (ρ y)
  | .makeSlice T x y, .mkat p n => mkatF E T S p n (ρ x) (ρ y)
  | .buildSlice T n ps, .bsv i N cs zs c' => match tget E.tab T with
    | some e => bsvF E e n ρ S i N cs zs c' ps.toList
    | none => none
  | op, .mem0 i => mem0F (match op with | .alloc T => tget E.tab T | _ => none) op ρ S i
  | .call ⟨.builtin .delete, ⟨[x, y]⟩, ⟨T :: Ts⟩⟩, .del n q cs ds c' => delF E T S n q cs ds c' (ρ x) (ρ y)
  | _, _ => none
theorem opF_ok (hE : EnvOk P E) {k : FH} {r : Ro} (hr : opF E o.op ρ S k = some r) : RoOk P o ρ S r := by
  generalize hop : o.op = op at hr
  unfold opF at hr
  split at hr
  · split at hr
    · rename_i ht; exact ldF_ok hE hop ht hr
    · cases hr
  · split at hr
    · rename_i ht
      split at hr
      · rename_i hy; exact stF_ok hE hop ht hy hr
      · cases hr
    · cases hr
  · exact nilF_ok hop hr
  · split at hr
    · rename_i ht; exact fieldF_ok hE hop ht hr
    · cases hr
  · split at hr
    · rename_i ht; exact indexF_ok hE hop ht hr
    · cases hr
  · exact lenF'_ok hE hop hr
  · split at hr
    · rename_i ht; exact allocF_ok hE hop ht hr
    · cases hr
  · split at hr
    · rename_i hx; exact boxF_ok hop hx hr
    · cases hr
  · exact mkF_ok hE hop hr
  · rename_i x y T T' k'
    cases hT : Nat.beq T T' with
    | false => rw [hT] at hr; cases hr
    | true =>
      rw [hT] at hr; simp only [cond_true] at hr
      obtain rfl := Nat.eq_of_beq_eq_true hT
      exact appF_ok hE hop hr
  · split at hr
    · rename_i ht; exact bsF_ok hE hop ht hr
    · cases hr
  · split at hr
    · rename_i ht; exact s3F_ok hE hop ht hr
    · cases hr
  · split at hr
    · rename_i ht; exact slmF_ok hE hop ht hr
    · cases hr
  · simp only [Option.some.injEq] at hr; subst hr
    rintro ⟨⟨⟨h1, h2⟩, h3, rfl⟩, _⟩ S2 hag
    exact o_makeMap hop (Eq.trans hag h1) h2 h3
  · exact lookF_ok hE hop hr
  · exact mputF_ok hE (.inl hop) hr
  · exact mputF_ok hE (.inr hop) hr
  · exact put0F_ok hE (.inr hop) hr
  · exact put0F_ok hE (.inl hop) hr
  · exact look0F_ok hE hop hr
  · exact eqsF_ok hE hop hr
  · split at hr
    · rename_i hx hy
      split at hr
      · rename_i hk; subst hk
        simp only [Option.some.injEq] at hr; subst hr
        exact fun _ S => o_andNot hop hx hy
      · cases hr
    · cases hr
  · rename_i x y T T'
    cases hT : Nat.beq T T' with
    | false => rw [hT] at hr; cases hr
    | true =>
      rw [hT] at hr; simp only [cond_true] at hr
      obtain rfl := Nat.eq_of_beq_eq_true hT
      exact zero2F_ok hE hop hr
  · exact cpyF_ok hE hop hr
  · exact mkatF_ok hE hop hr
  · split at hr
    · rename_i ht; exact bsvF_ok hE hop ht hr
    · cases hr
  · subst hop; exact mem0F_ok hE hr
  · exact delF_ok hE hop rfl hr
  · cases hr
end
end Go.Pv
