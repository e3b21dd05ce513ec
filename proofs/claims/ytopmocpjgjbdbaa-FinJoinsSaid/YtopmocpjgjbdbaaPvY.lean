/- A reckoner, continued: memory, rows, calls; and all operations. -/
import Derived.Test.YtopmocpjgjbdbaaPvX
namespace Go.Pv
open Go.RowKit
section
variable {P : Program} {E : Env} {o : Oper} {ρ : Operand → PV} {S : Sx}

def boxAt (S : Sx) (b : Nat) : Option (List PV) :=
  match S.bs[b]? with
  | some (some cs) => some cs
  | _ => none
theorem boxAt_of {b : Nat} {cs : List PV} (h : boxAt S b = some cs) : S.bs[b]? = some (some cs) := by
  unfold boxAt at h
  split at h
  · rename_i hb; rw [hb]; cases h; rfl
  · cases h
theorem one_of {cs cs2 : List PV} {off : Nat} {p : PV} (h : (cs2.drop off).take 1 = (cs.drop off).take 1) (hp : cs[off]? = some p) : cs2[off]? = some p := by
  have h1 : ((cs2.drop off).take 1)[0]? = ((cs.drop off).take 1)[0]? := by rw [h]
  simpa [List.getElem?_drop, hp] using h1
def loadE (d : TypeDesc) (n : Nat) (S : Sx) (h : Hint) : PV → Option Ro
  | .rp cs => bif aggT d then (bif Nat.ble n cs.length then some (.v [] (.d (.agg (cs.take n)))) else none) else
    match cs with
    | c :: _ => some (.v [] (.d c))
    | [] => none
  | .ptr b off => bif aggT d then
      (match h with
      | .pvs ps => some (.r [∃ cs, S.bs[b]? = some (some cs) ∧ off + n ≤ cs.length ∧ cs ≠ [] ∧ (cs.drop off).take n = ps] (.agg ps) (.b b))
      | _ => match boxAt S b with
        | some cs => bif Nat.ble (off + n) cs.length && Nat.blt 0 cs.length then some (.r [] (.agg ((cs.drop off).take n)) (.c b off n)) else none
        | none => none)
    else
      (match h with
      | .pv p => some (.r [∃ cs, S.bs[b]? = some (some cs) ∧ cs[off]? = some p] p (.b b))
      | _ => match boxAt S b with
        | some cs => match cs[off]? with
          | some p => some (.r [] p (.c b off 1))
          | none => none
        | none => none)
  | .vp b N off => bif aggT d then
      (match h with
      | .pvs ps => some (.r [∃ cs, S.bs[b]? = some (some cs) ∧ cs.length = N ∧ off + n ≤ cs.length ∧ cs ≠ [] ∧ (cs.drop off).take n = ps] (.agg ps) (.b b))
      | _ => none)
    else
      (match h with
      | .pv p => some (.r [∃ cs, S.bs[b]? = some (some cs) ∧ cs.length = N ∧ cs[off]? = some p] p (.b b))
      | _ => none)
  | _ => none
theorem load_ok (hE : EnvOk P E) {T : Nat} {x : Operand} {e : TyE} {h : Hint} {r : Ro} (ho : o.op = .load T x) (ht : tget E.tab T = some e) (hr : loadE e.d e.size S h (ρ x) = some r) : RoOk P o ρ S r := by
  have hk := hE.tab _ _ ht
  unfold loadE at hr
  split at hr
  · rename_i cs hx
    cases ha : aggT e.d with
    | true =>
      rw [ha] at hr; simp only [cond_true] at hr
      cases hl : Nat.ble e.size cs.length with
      | true =>
        rw [hl] at hr; simp only [cond_true, Option.some.injEq] at hr; subst hr
        exact fun _ S => opS_load_rp_agg ho hk.u ha hk.ti.size hx (Nat.le_of_ble_eq_true hl)
      | false => rw [hl] at hr; cases hr
    | false =>
      rw [ha] at hr; simp only [cond_false] at hr
      split at hr
      · simp only [Option.some.injEq] at hr; subst hr
        exact fun _ S => opS_load_rp ho hk.u ha hx
      · cases hr
  · rename_i b off hx
    cases ha : aggT e.d with
    | true =>
      rw [ha] at hr; simp only [cond_true] at hr
      split at hr
      · simp only [Option.some.injEq] at hr; subst hr
        rintro ⟨⟨cs, h1, h2, h3, h4⟩, _⟩ S2 hag
        rw [← h4]
        exact opS_load_box_agg ho hk.u ha hk.ti.size hx (Eq.trans hag h1) h2 h3
      · split at hr
        · rename_i cs hb
          cases hl : (Nat.ble (off + e.size) cs.length && Nat.blt 0 cs.length) with
          | true =>
            rw [hl] at hr; simp only [cond_true, Option.some.injEq] at hr; subst hr
            simp only [Bool.and_eq_true] at hl
            intro _ S2 hag
            obtain ⟨cs2, k1, k2, k3⟩ := Agree.cells hag (boxAt_of hb)
            rw [← k3]
            have h1 := Nat.le_of_ble_eq_true hl.1
            have h2 : 0 < cs.length := by simpa using hl.2
            exact opS_load_box_agg ho hk.u ha hk.ti.size hx k1 (by omega) (by rintro rfl; simp at k2; omega)
          | false => rw [hl] at hr; cases hr
        · cases hr
    | false =>
      rw [ha] at hr; simp only [cond_false] at hr
      split at hr
      · simp only [Option.some.injEq] at hr; subst hr
        rintro ⟨⟨cs, h1, h2⟩, _⟩ S2 hag
        exact opS_load_box ho hk.u ha hx (Eq.trans hag h1) h2
      · split at hr
        · rename_i cs hb
          split at hr
          · rename_i p hp
            simp only [Option.some.injEq] at hr; subst hr
            intro _ S2 hag
            obtain ⟨cs2, k1, k2, k3⟩ := Agree.cells hag (boxAt_of hb)
            exact opS_load_box ho hk.u ha hx k1 (one_of k3 hp)
          · cases hr
        · cases hr
  · rename_i b N off hx
    cases ha : aggT e.d with
    | true =>
      rw [ha] at hr; simp only [cond_true] at hr
      split at hr
      · simp only [Option.some.injEq] at hr; subst hr
        rintro ⟨⟨cs, h1, h5, h2, h3, h4⟩, _⟩ S2 hag
        rw [← h4]
        exact o_load_vp_agg ho hk.u ha hk.ti.size hx (Eq.trans hag h1) h5 h2 h3
      · cases hr
    | false =>
      rw [ha] at hr; simp only [cond_false] at hr
      split at hr
      · simp only [Option.some.injEq] at hr; subst hr
        rintro ⟨⟨cs, h1, h5, h2⟩, _⟩ S2 hag
        exact o_load_vp ho hk.u ha hx (Eq.trans hag h1) h5 h2
      · cases hr
  · cases hr

def storeE (n : Nat) (S : Sx) (h : Hint) (ps : List PV) : PV → Option Ro
  | .ptr b off => bif Nat.beq ps.length n then
      (match h with
      | .stb c' => some (.e [∃ cs, S.bs[b]? = some (some cs) ∧ off + n ≤ cs.length ∧ cs ≠ [] ∧ splice cs off ps = c'] .junk (.box b c'))
      | _ => match boxAt S b with
        | some cs => bif Nat.ble (off + n) cs.length && Nat.blt 0 cs.length then some (.e [] .junk (.spl b off ps)) else none
        | none => none)
    else none
  | .vp b N off => bif Nat.beq ps.length n then
      (match h with
      | .stb c' => some (.e [∃ cs, S.bs[b]? = some (some cs) ∧ cs.length = N ∧ off + n ≤ cs.length ∧ cs ≠ [] ∧ splice cs off ps = c'] .junk (.box b c'))
      | _ => none)
    else none
  | _ => none
theorem store_ok (hE : EnvOk P E) {T : Nat} {x y : Operand} {e : TyE} {ps : List PV} {h : Hint} {r : Ro} (ho : o.op = .store T x y) (ht : tget E.tab T = some e) (hy : (ρ y).cells = some ps) (hr : storeE e.size S h ps (ρ x) = some r) : RoOk P o ρ S r := by
  have hk := hE.tab _ _ ht
  unfold storeE at hr
  split at hr
  · rename_i b off hx
    cases hl : Nat.beq ps.length e.size with
    | false => rw [hl] at hr; cases hr
    | true =>
      have hlen := Nat.eq_of_beq_eq_true hl
      rw [hl] at hr; simp only [cond_true] at hr
      split at hr
      · simp only [Option.some.injEq] at hr; subst hr
        rintro ⟨⟨cs, h1, h2, h3, h4⟩, _⟩ S2 hag
        have := opS_store (P := P) ho hk.ti.size hx hy hlen (Eq.trans hag h1) h2 h3
        rw [h4] at this
        exact this
      · split at hr
        · rename_i cs hb
          cases hl2 : (Nat.ble (off + e.size) cs.length && Nat.blt 0 cs.length) with
          | true =>
            rw [hl2] at hr; simp only [cond_true, Option.some.injEq] at hr; subst hr
            simp only [Bool.and_eq_true] at hl2
            have h1 := Nat.le_of_ble_eq_true hl2.1
            have h2 : 0 < cs.length := by simpa using hl2.2
            intro _ S2 hag
            obtain ⟨cs2, k1, k2, k3⟩ := Agree.cells hag (boxAt_of hb)
            have := opS_store (P := P) ho hk.ti.size hx hy hlen k1 (by omega) (by rintro rfl; simp at k2; omega)
            have e1 : (Ef.spl b off ps).app S2 = ⟨S2.bs.set b (some (splice cs2 off ps)), S2.ts⟩ := by
              simp only [Ef.app, k1]
              rw [show Nat.ble (off + ps.length) cs2.length = true from Nat.ble_eq_true_of_le (by omega)]
              rfl
            rw [e1]; exact this
          | false => rw [hl2] at hr; cases hr
        · cases hr
  · rename_i b N off hx
    cases hl : Nat.beq ps.length e.size with
    | false => rw [hl] at hr; cases hr
    | true =>
      have hlen := Nat.eq_of_beq_eq_true hl
      rw [hl] at hr; simp only [cond_true] at hr
      split at hr
      · simp only [Option.some.injEq] at hr; subst hr
        rintro ⟨⟨cs, h1, h5, h2, h3, h4⟩, _⟩ S2 hag
        have := o_store_vp (P := P) ho hk.ti.size hx hy hlen (Eq.trans hag h1) h5 h2 h3
        rw [h4] at this
        exact this
      · cases hr
  · cases hr

def nilE : PV → Option Ro
  | .ptr b off => some (.v [] (.ptr b off))
  | .rp cs => some (.v [] (.rp cs))
  | .vp b N off => some (.v [] (.vp b N off))
  | _ => none
theorem nil_ok {x : Operand} {r : Ro} (ho : o.op = .nilCheck x) (hr : nilE (ρ x) = some r) : RoOk P o ρ S r := by
  unfold nilE at hr
  split at hr
  · rename_i hx; simp only [Option.some.injEq] at hr; subst hr; exact fun _ S => o_nilCheck_ptr ho hx
  · rename_i hx; simp only [Option.some.injEq] at hr; subst hr; exact fun _ S => o_nilCheck_rp ho hx
  · rename_i b N off hx; simp only [Option.some.injEq] at hr; subst hr
    intro _ S
    have := opS_nilCheck (P := P) (S := S) ho (.inr (.inr ⟨b, N, off, hx⟩))
    rw [hx] at this; exact this
  · cases hr

def fieldE (E : Env) (d : TypeDesc) (f : Nat) (p : PV) : Option Ro :=
  match d with
  | .struct fs => match fs[f]? with
    | some fd => match tget E.tab fd.type with
      | some ef => bif Nat.blt 0 ef.size then (match p with
        | .ptr b off => some (.v [] (.ptr b (off + fd.offset)))
        | .rp cs => some (.v [] (.rp (cs.drop fd.offset)))
        | .vp b N off => some (.v [] (.vp b N (off + fd.offset)))
        | _ => none) else none
      | none => none
    | none => none
  | _ => none
theorem field_ok (hE : EnvOk P E) {T f : Nat} {x : Operand} {e : TyE} {r : Ro} (ho : o.op = .fieldAddr T x f) (ht : tget E.tab T = some e) (hr : fieldE E e.d f (ρ x) = some r) : RoOk P o ρ S r := by
  have hk := hE.tab _ _ ht
  unfold fieldE at hr
  split at hr
  · rename_i fs hd
    split at hr
    · rename_i fd hf
      split at hr
      · rename_i ef hef
        have hs := (hE.tab _ _ hef).ti.size
        cases h0 : Nat.blt 0 ef.size with
        | false => rw [h0] at hr; cases hr
        | true =>
          rw [h0] at hr; simp only [cond_true] at hr
          have h0' : ef.size ≠ 0 := by intro h; rw [h] at h0; cases h0
          have hu : P.underlying T = some (.struct fs) := by rw [hk.u, hd]
          split at hr
          · rename_i hx; simp only [Option.some.injEq] at hr; subst hr; exact fun _ S => opS_field_ptr ho hu hf hs h0' hx
          · rename_i hx; simp only [Option.some.injEq] at hr; subst hr; exact fun _ S => opS_field_rp ho hu hf hs h0' hx
          · rename_i hx; simp only [Option.some.injEq] at hr; subst hr; exact fun _ S => o_field_vp ho hu hf hs h0' hx
          · cases hr
      · cases hr
    · cases hr
  · cases hr

def indexE (E : Env) (d : TypeDesc) (S : Sx) (h : Hint) (px py : PV) : Option Ro :=
  match py with
  | .d (.v (.int _ n)) => match d with
    | .slice el => match tget E.tab el with
      | some ee => match px with
        | .ms b off sz m => match h with
          | .nat j => bif Nat.beq sz ee.size then some (.v [n = (j : Int) ∧ j < m] (.ptr b (off + j * sz))) else none
          | _ => none
        | .vec b sz m => match h with
          | .nat j => bif Nat.beq sz ee.size && Nat.blt 0 sz then some (.r [(n = (j : Int) ∧ j < m) ∧ ∃ cs, S.bs[b]? = some (some cs) ∧ cs.length = m * sz] (.vp b (m * sz) (0 + j * sz)) (.b b)) else none
          | _ => none
        | .d (.sl sz _ es) => match h with
          | .cells l => bif Nat.beq sz ee.size then some (.v [0 ≤ n ∧ es[n.toNat]? = some l] (.rp l)) else none
          | _ => none
        | .app _ sz es => match h with
          | .cells l => bif Nat.beq sz ee.size then some (.v [0 ≤ n ∧ es[n.toNat]? = some l] (.rp l)) else none
          | _ => none
        | _ => none
      | none => none
    | .array len el => match tget E.tab el with
      | some ee => match px with
        | .ptr b off => match h with
          | .nat j => some (.v [n = (j : Int) ∧ j < len] (.ptr b (off + j * ee.size)))
          | _ => bif decide (0 ≤ n ∧ n < len) then some (.v [] (.ptr b (off + n.toNat * ee.size))) else none
        | .rp cs => match h with
          | .nat j => some (.v [n = (j : Int) ∧ j < len] (.rp (cs.drop (j * ee.size))))
          | _ => bif decide (0 ≤ n ∧ n < len) then some (.v [] (.rp (cs.drop (n.toNat * ee.size)))) else none
        | _ => none
      | none => none
    | _ => none
  | _ => none
theorem index_ok (hE : EnvOk P E) {T : Nat} {x y : Operand} {e : TyE} {h : Hint} {r : Ro} (ho : o.op = .indexAddr T x y) (ht : tget E.tab T = some e) (hr : indexE E e.d S h (ρ x) (ρ y) = some r) : RoOk P o ρ S r := by
  have hk := hE.tab _ _ ht
  unfold indexE at hr
  split at hr
  · rename_i k n hy
    split at hr
    · rename_i el hd
      have hu : P.underlying T = some (.slice el) := by rw [hk.u, hd]
      split at hr
      · rename_i ee hee
        have hs := (hE.tab _ _ hee).ti.size
        split at hr
        · rename_i b off sz m hx
          split at hr
          · rename_i j
            cases hb : Nat.beq sz ee.size with
            | false => rw [hb] at hr; cases hr
            | true =>
              rw [hb] at hr; simp only [cond_true, Option.some.injEq] at hr; subst hr
              obtain rfl := Nat.eq_of_beq_eq_true hb
              rintro ⟨⟨rfl, hj⟩, _⟩ S
              exact o_index_ms ho hu hs hx hy (by omega) (by omega)
          · cases hr
        · rename_i b sz m hx
          split at hr
          · rename_i j
            cases hb : (Nat.beq sz ee.size && Nat.blt 0 sz) with
            | false => rw [hb] at hr; cases hr
            | true =>
              rw [hb] at hr; simp only [cond_true, Option.some.injEq] at hr; subst hr
              simp only [Bool.and_eq_true] at hb
              obtain rfl := Nat.eq_of_beq_eq_true hb.1
              have h0 : 0 < ee.size := by simpa using hb.2
              rintro ⟨⟨⟨rfl, hj⟩, cs, h1, h2⟩, _⟩ S2 hag
              have := o_index_vec (P := P) (S := S2) ho hu hs h0 hx hy (Eq.trans hag h1) h2 (by omega) (by omega)
              simpa using this
          · cases hr
        · rename_i sz f es hx
          split at hr
          · rename_i l
            cases hb : Nat.beq sz ee.size with
            | false => rw [hb] at hr; cases hr
            | true =>
              rw [hb] at hr; simp only [cond_true, Option.some.injEq] at hr; subst hr
              obtain rfl := Nat.eq_of_beq_eq_true hb
              rintro ⟨⟨h1, h2⟩, _⟩ S
              exact opS_index ho hu hs (by rw [hx]; rfl) hy h1 h2
          · cases hr
        · rename_i t sz es hx
          split at hr
          · rename_i l
            cases hb : Nat.beq sz ee.size with
            | false => rw [hb] at hr; cases hr
            | true =>
              rw [hb] at hr; simp only [cond_true, Option.some.injEq] at hr; subst hr
              obtain rfl := Nat.eq_of_beq_eq_true hb
              rintro ⟨⟨h1, h2⟩, _⟩ S
              exact opS_index ho hu hs (by rw [hx]; rfl) hy h1 h2
          · cases hr
        · cases hr
      · cases hr
    · rename_i len el hd
      have hu : P.underlying T = some (.array len el) := by rw [hk.u, hd]
      split at hr
      · rename_i ee hee
        have hs := (hE.tab _ _ hee).ti.size
        split at hr
        · rename_i b off hx
          split at hr
          · simp only [Option.some.injEq] at hr; subst hr
            rintro ⟨⟨rfl, hj⟩, _⟩ S
            exact opS_index_arr_ptr (n := (_ : Nat)) ho hu hs hx hy (by omega)
          · cases hb : decide (0 ≤ n ∧ n < len) with
            | false => rw [hb] at hr; cases hr
            | true =>
              rw [hb] at hr; simp only [cond_true, Option.some.injEq] at hr; subst hr
              exact fun _ S => opS_index_arr_ptr ho hu hs hx hy (of_decide_eq_true hb)
        · rename_i cs hx
          split at hr
          · simp only [Option.some.injEq] at hr; subst hr
            rintro ⟨⟨rfl, hj⟩, _⟩ S
            exact opS_index_arr_rp (n := (_ : Nat)) ho hu hs hx hy (by omega)
          · cases hb : decide (0 ≤ n ∧ n < len) with
            | false => rw [hb] at hr; cases hr
            | true =>
              rw [hb] at hr; simp only [cond_true, Option.some.injEq] at hr; subst hr
              exact fun _ S => opS_index_arr_rp ho hu hs hx hy (of_decide_eq_true hb)
        · cases hr
      · cases hr
    · cases hr
  · cases hr

def sliceE (E : Env) (d : TypeDesc) (h : Hint) (p : PV) (ρ : Operand → PV) (lo hi : Option Operand) : Option Ro :=
  match d with
  | .slice el => match tget E.tab el with
    | some ee => match p.els with
      | some (sz, es) => bif Nat.beq sz ee.size then
          (match bnd ρ lo 0, bnd ρ hi es.length, h with
          | some l, some u, .rows r => some (.v [0 ≤ l ∧ l ≤ u ∧ u ≤ es.length ∧ (es.drop l.toNat).take (u.toNat - l.toNat) = r] (.d (.sl sz false r)))
          | _, _, _ => none)
        else none
      | none => none
    | none => none
  | _ => none
theorem slice_ok (hE : EnvOk P E) {T : Nat} {x : Operand} {lo hi : Option Operand} {e : TyE} {h : Hint} {r : Ro} (ho : o.op = .slice T x lo hi none) (ht : tget E.tab T = some e) (hr : sliceE E e.d h (ρ x) ρ lo hi = some r) : RoOk P o ρ S r := by
  have hk := hE.tab _ _ ht
  unfold sliceE at hr
  split at hr
  · rename_i el hd
    have hu : P.underlying T = some (.slice el) := by rw [hk.u, hd]
    split at hr
    · rename_i ee hee
      have hs := (hE.tab _ _ hee).ti.size
      split at hr
      · rename_i sz es hx
        cases hb : Nat.beq sz ee.size with
        | false => rw [hb] at hr; cases hr
        | true =>
          rw [hb] at hr; simp only [cond_true] at hr
          obtain rfl := Nat.eq_of_beq_eq_true hb
          split at hr
          · rename_i l u r' hl hh
            simp only [Option.some.injEq] at hr; subst hr
            rintro ⟨⟨h1, h2, h3, h4⟩, _⟩ S
            exact o_slice ho hu hs hx hl hh h1 h2 h3 h4
          · cases hr
      · cases hr
    · cases hr
  · cases hr

/-- Calls. -/
def ALe : List PV → List PV → Prop
  | [], [] => True
  | p :: ps, q :: qs => PVle p q ∧ ALe ps qs
  | _, _ => False
theorem ALe.get : ∀ {ps qs : List PV}, ALe ps qs → ps.length = qs.length ∧ ∀ (i : Nat) (p q : PV), ps[i]? = some p → qs[i]? = some q → PVle p q
  | [], [], _ => ⟨rfl, fun i p q h => by simp at h⟩
  | p :: ps, q :: qs, h => by
    obtain ⟨e1, e2⟩ := ALe.get h.2
    refine ⟨by simp [e1], fun i p' q' h1 h2 => ?_⟩
    cases i with
    | zero => simp at h1 h2; subst h1 h2; exact h.1
    | succ i => exact e2 i p' q' (by simpa using h1) (by simpa using h2)
  | [], _ :: _, h => h.elim
  | _ :: _, [], h => h.elim
theorem canon_ale : ∀ (ps : List PV), ALe ps (ps.map PV.canon)
  | [] => trivial
  | p :: ps => ⟨PVle.canon p, canon_ale ps⟩
theorem toDs_ale : ∀ {ps : List PV} {ds : List D}, toDs ps = some ds → ALe ps (ds.map .d)
  | [], ds, h => by cases h; trivial
  | p :: ps, ds, h => by
    unfold toDs at h
    split at h
    · rename_i d ds' h1 h2
      cases h
      exact ⟨fun g v hv => .d _ _ (hv.toD1 h1), toDs_ale h2⟩
    · cases h
theorem ALe.trans : ∀ {a b c : List PV}, ALe a b → ALe b c → ALe a c
  | [], [], [], _, _ => trivial
  | _ :: _, _ :: _, _ :: _, h, k => ⟨h.1.trans k.1, ALe.trans h.2 k.2⟩
  | [], [], _ :: _, _, k => k.elim
  | [], _ :: _, _, h, _ => h.elim
  | _ :: _, [], _, h, _ => h.elim
  | _ :: _, _ :: _, [], _, k => k.elim

def callE (P : Program) (E : Env) (f : Nat) (S : Sx) (h : Hint) (args : List PV) : Option Ro :=
  bif E.fns.any (Nat.beq f) then
    (match h with
    | .pf r => match toDs (args.map PV.canon) with
      | some ds => some (.v [PF P f ds r] r)
      | none => none
    | .pfa ds r => some (.v [ALe args (ds.map .d), PF P f ds r] r)
    | .pr as r => some (.r [ALe args as, PC P f as S S r] r .all)
    | .pc as S' r => some (.e [ALe args as, PC P f as S S' r] r (.all S'))
    | _ => none)
  else none
/-- What a call comes to, whatever the way by which it is called. -/
def CallOk (P : Program) (o : Oper) (ρ : Operand → PV) (f : Nat) (args : List PV) : Prop :=
  ∀ (as : List PV) (S S' : Sx) (r : PV), FnOk P f → ALe args as → PC P f as S S' r → OpS P o ρ S S' r
theorem callE_ok (hE : EnvOk P E) {f : Nat} {args : List PV} {h : Hint} {r : Ro} (hc : CallOk P o ρ f args) (hr : callE P E f S h args = some r) : RoOk P o ρ S r := by
  unfold callE at hr
  cases hf : E.fns.any (Nat.beq f) with
  | false => rw [hf] at hr; cases hr
  | true =>
    rw [hf] at hr; simp only [cond_true] at hr
    have hfn := hE.fns f hf
    split at hr
    · split at hr
      · rename_i ds hds
        simp only [Option.some.injEq] at hr; subst hr
        exact fun hφ S => hc _ S S _ hfn ((canon_ale args).trans (toDs_ale hds)) (hφ.1.at S)
      · cases hr
    · simp only [Option.some.injEq] at hr; subst hr
      exact fun hφ S => hc _ S S _ hfn hφ.1 (hφ.2.1.at S)
    · simp only [Option.some.injEq] at hr; subst hr
      rintro hφ S2 rfl
      exact hc _ _ _ _ hfn hφ.1 hφ.2.1
    · simp only [Option.some.injEq] at hr; subst hr
      rintro hφ S2 rfl
      exact hc _ _ _ _ hfn hφ.1 hφ.2.1
    · cases hr
theorem call_dir {f : Nat} {xs : Array Operand} {ts : Array TypeId} (ho : o.op = .call { callee := .value (.func f), args := xs, argTypes := ts }) : CallOk P o ρ f (xs.toList.map ρ) := by
  intro as S S' r hf ha h
  obtain ⟨h1, h2⟩ := ha.get
  refine opS_call ho hf (by simpa using h1) (fun i x p k1 k2 => h2 i _ _ ?_ k2) h
  rw [List.getElem?_map, Array.getElem?_toList, k1]; rfl
theorem call_fn {x : Operand} {f : Nat} {fi ca : List PV} {xs : Array Operand} {ts : Array TypeId} (ho : o.op = .call { callee := .value x, args := xs, argTypes := ts }) (hx : ρ x = .fn f fi ca) : CallOk P o ρ f (fi ++ xs.toList.map ρ ++ ca) := by
  intro as S S' r hf ha h
  obtain ⟨h1, h2⟩ := ha.get
  exact opS_callv ho hf hx (by have := h1; simp at this; omega) (fun i p q k1 k2 => h2 i q p k1 k2) h
theorem call_fd {x : Operand} {f : Nat} {xs : Array Operand} {ts : Array TypeId} (ho : o.op = .call { callee := .value x, args := xs, argTypes := ts }) (hx : ρ x = .d (.v (.func (.func f) #[] #[]))) : CallOk P o ρ f (xs.toList.map ρ) := by
  intro as S S' r hf ha h
  obtain ⟨h1, h2⟩ := ha.get
  refine o_callv_d ho hf hx (by simpa using h1) (fun i y p k1 k2 => h2 i _ _ ?_ k2) h
  rw [List.getElem?_map, Array.getElem?_toList, k1]; rfl
def callvE (P : Program) (E : Env) (S : Sx) (h : Hint) (args : List PV) : PV → Option Ro
  | .fn f fi ca => callE P E f S h (fi ++ args ++ ca)
  | .d (.v (.func (.func f) ⟨[]⟩ ⟨[]⟩)) => callE P E f S h args
  | _ => none
theorem callv_ok (hE : EnvOk P E) {x : Operand} {xs : Array Operand} {ts : Array TypeId} {h : Hint} {r : Ro} (ho : o.op = .call { callee := .value x, args := xs, argTypes := ts }) (hr : callvE P E S h (xs.toList.map ρ) (ρ x) = some r) : RoOk P o ρ S r := by
  unfold callvE at hr
  split at hr
  · rename_i hx; exact callE_ok hE (call_fn ho hx) hr
  · rename_i hx; exact callE_ok hE (call_fd ho hx) hr
  · cases hr

def AppOk (b m n : Nat) : Prop := (m + n) * b ≤ 140737488355328 ∧ m + n ≤ 9223372036854775807
def appE (E : Env) (T : Nat) (S : Sx) (h : Hint) (px py : PV) : Option Ro :=
  match tget E.tab T with
  | some ⟨.slice el, _, _, _, _, _⟩ => match tget E.tab el with
    | some ee => match py.els with
      | some (sy, ys) => bif Nat.blt 0 ee.size && Nat.beq sy ee.size then
        (match px with
        | .d (.sl sz true es) => bif Nat.beq sz ee.size then
          (match h with
          | .appP => some (.v [AppOk ee.bytes es.length ys.length] (.d (.sl sz false (es ++ ys))))
          | .appF => some (.e [AppOk ee.bytes es.length ys.length] (.app S.ts.length sz (es ++ ys)) (.ntag (es.length + ys.length)))
          | .appM cs n => match es with
            | [] => some (.e [cs = ys.flatten.map .d, ys.length = n, AppOk ee.bytes 0 n] (.ms S.bs.length 0 sz n) (.all ⟨S.bs ++ [some cs], S.ts⟩))
            | _ => none
          | _ => none) else none
        | .vec b sz n => bif Nat.beq sz ee.size then
          (match h with
          | .grow c' n' => some (.e [∃ cs, S.bs[b]? = some (some cs) ∧ cs.length = n * sz ∧ cs ++ ys.flatten.map .d = c', n + ys.length = n', AppOk ee.bytes n ys.length] (.vec b sz n') (.box b c'))
          | _ => none) else none
        | .app t sz es => bif Nat.beq sz ee.size then some (.e [S.ts[t]? = some es.length, AppOk ee.bytes es.length ys.length] (.app t sz (es ++ ys)) (.tag t (es.length + ys.length))) else none
        | _ => none) else none
      | none => none
    | none => none
  | _ => none
theorem app_ok (hE : EnvOk P E) {T : Nat} {x y : Operand} {h : Hint} {r : Ro} (ho : o.op = .call { callee := .builtin .append, args := #[x, y], argTypes := #[T, T] }) (hr : appE E T S h (ρ x) (ρ y) = some r) : RoOk P o ρ S r := by
  unfold appE at hr
  split at hr
  · rename_i el _ _ _ _ _ ht
    have hu := (hE.tab _ _ ht).u
    split at hr
    · rename_i ee hee
      have hs := (hE.tab _ _ hee).ti
      split at hr
      · rename_i sy ys hy
        cases hb : (Nat.blt 0 ee.size && Nat.beq sy ee.size) with
        | false => rw [hb] at hr; cases hr
        | true =>
          rw [hb] at hr; simp only [cond_true] at hr
          simp only [Bool.and_eq_true] at hb
          obtain ⟨h0, hb⟩ := hb
          have h0' : 0 < ee.size := by simpa using h0
          obtain rfl := Nat.eq_of_beq_eq_true hb
          split at hr
          · rename_i sz es hx
            cases hb2 : Nat.beq sz ee.size with
            | false => rw [hb2] at hr; cases hr
            | true =>
              rw [hb2] at hr; simp only [cond_true] at hr
              obtain rfl := Nat.eq_of_beq_eq_true hb2
              split at hr
              · simp only [Option.some.injEq] at hr; subst hr
                exact fun hφ S => o_append_pure ho hu hs h0' hx hy hφ.1.1 hφ.1.2
              · simp only [Option.some.injEq] at hr; subst hr
                intro hφ S2 hag
                have hag : S2.ts = S.ts := hag
                rw [← hag]
                exact o_append_full ho hu hs h0' hx hy hφ.1.1 hφ.1.2
              · split at hr
                · simp only [Option.some.injEq] at hr; subst hr
                  rintro ⟨rfl, rfl, h3, _⟩ S2 rfl
                  unfold AppOk at h3
                  exact o_append_ms ho hu hs h0' hx hy (by simpa using h3.1) (by simpa using h3.2)
                · cases hr
              · cases hr
          · rename_i b sz n hx
            cases hb2 : Nat.beq sz ee.size with
            | false => rw [hb2] at hr; cases hr
            | true =>
              rw [hb2] at hr; simp only [cond_true] at hr
              obtain rfl := Nat.eq_of_beq_eq_true hb2
              split at hr
              · simp only [Option.some.injEq] at hr; subst hr
                rintro ⟨⟨cs, h1, h2, h3⟩, h4, h5, _⟩ S2 hag
                subst h3 h4
                exact o_append_vec ho hu hs h0' hx hy (Eq.trans hag h1) h2 h5.1 h5.2
              · cases hr
          · rename_i t sz es hx
            cases hb2 : Nat.beq sz ee.size with
            | false => rw [hb2] at hr; cases hr
            | true =>
              rw [hb2] at hr; simp only [cond_true, Option.some.injEq] at hr; subst hr
              obtain rfl := Nat.eq_of_beq_eq_true hb2
              intro hφ S2 hag
              exact o_append_tag ho hu hs h0' hx hy (Eq.trans hag.1 hφ.1) hφ.2.1.1 hφ.2.1.2
          · cases hr
      · cases hr
    · cases hr
  · cases hr

def lenE (E : Env) (T : Nat) (h : Hint) (p : PV) : Option Ro :=
  match tget E.tab T with
  | some ⟨.slice _, _, _, _, _, _⟩ => match p with
    | .ms _ _ _ n => some (.v [] (.d (.v (.int .i64 ((n : Nat) : Int)))))
    | .vec _ _ n => some (.v [] (.d (.v (.int .i64 ((n : Nat) : Int)))))
    | .d (.sl _ _ es) => match h with
      | .nat n => some (.v [es.length = n] (.d (.v (.int .i64 ((n : Nat) : Int)))))
      | _ => some (.v [] (.d (.v (.int .i64 ((es.length : Nat) : Int)))))
    | .app _ _ es => match h with
      | .nat n => some (.v [es.length = n] (.d (.v (.int .i64 ((n : Nat) : Int)))))
      | _ => some (.v [] (.d (.v (.int .i64 ((es.length : Nat) : Int)))))
    | _ => none
  | _ => none
theorem len_ok (hE : EnvOk P E) {T : Nat} {x : Operand} {h : Hint} {r : Ro} (ho : o.op = .call { callee := .builtin .len, args := #[x], argTypes := #[T] }) (hr : lenE E T h (ρ x) = some r) : RoOk P o ρ S r := by
  unfold lenE at hr
  split at hr
  · rename_i el _ _ _ _ _ ht
    have hu := (hE.tab _ _ ht).u
    split at hr
    · rename_i hx
      simp only [Option.some.injEq] at hr; subst hr
      exact fun _ S => o_len_ms ho hu hx
    · rename_i hx
      simp only [Option.some.injEq] at hr; subst hr
      exact fun _ S => o_len_vec ho hu hx
    · rename_i hx
      split at hr
      · simp only [Option.some.injEq] at hr; subst hr
        exact fun hφ S => o_len ho hu (by rw [hx]; rfl) hφ.1
      · simp only [Option.some.injEq] at hr; subst hr
        exact fun _ S => o_len ho hu (by rw [hx]; rfl) rfl
    · rename_i hx
      split at hr
      · simp only [Option.some.injEq] at hr; subst hr
        exact fun hφ S => o_len ho hu (by rw [hx]; rfl) hφ.1
      · simp only [Option.some.injEq] at hr; subst hr
        exact fun _ S => o_len ho hu (by rw [hx]; rfl) rfl
    · cases hr
  · cases hr
def minE (h : Hint) : PV → PV → Option Ro
  | .d (.v (.int k m)), .d (.v (.int k' n)) => if k = k' then (match h with
    | .int r => some (.v [(if n < m then n else m) = r] (.d (.v (.int k r))))
    | _ => none) else none
  | _, _ => none
theorem min_ok {T : Array Nat} {x y : Operand} {h : Hint} {r : Ro} (ho : o.op = .call { callee := .builtin .min, args := #[x, y], argTypes := T }) (hr : minE h (ρ x) (ρ y) = some r) : RoOk P o ρ S r := by
  unfold minE at hr
  split at hr
  · rename_i k m k' n hx hy
    split at hr
    · rename_i hk; subst hk
      split at hr
      · simp only [Option.some.injEq] at hr; subst hr
        exact fun hφ S => o_min ho hx hy hφ.1
      · cases hr
    · cases hr
  · cases hr
def convE (E : Env) (s d : Nat) (h : Hint) (p : PV) : Option Ro :=
  match tget E.tab s, tget E.tab d, p with
  | some _, some ⟨.int k', _, _, _, _, _⟩, .d (.v (.int _ n)) => match h with
    | .int r => some (.v [k'.wrap n = r] (.d (.v (.int k' r))))
    | .raw => some (.v [] (.d (.v (.int k' (k'.wrap n)))))
    | _ => some (.v [k'.wrap n = n] (.d (.v (.int k' n))))
  | _, _, _ => none
theorem conv_ok (hE : EnvOk P E) {s d : Nat} {x : Operand} {h : Hint} {r : Ro} (ho : o.op = .convert s d x) (hr : convE E s d h (ρ x) = some r) : RoOk P o ρ S r := by
  unfold convE at hr
  split at hr
  · rename_i e0 k' _ _ _ _ _ k n hs' hd hx
    have h1 : (P.underlying s).isSome = true := by rw [(hE.tab _ _ hs').u]; rfl
    have h2 := (hE.tab _ _ hd).u
    split at hr
    · simp only [Option.some.injEq] at hr; subst hr
      exact fun hφ S => hφ.1 ▸ opS_conv ho h1 h2 hx
    · simp only [Option.some.injEq] at hr; subst hr
      exact fun _ S => opS_conv ho h1 h2 hx
    · simp only [Option.some.injEq] at hr; subst hr
      exact fun hφ S => o_conv ho h1 h2 hx hφ.1
  · cases hr

def mkOk (b n : Nat) : Prop := n * b ≤ 281474976710656 ∧ n ≤ 9223372036854775807
def mkE (E : Env) (T : Nat) (S : Sx) (h : Hint) : PV → PV → Option Ro
  | .d (.v (.int _ m)), .d (.v (.int _ m')) => match tget E.tab T with
    | some ⟨.slice el, _, _, _, _, _⟩ => match tget E.tab el with
      | some ee => match h with
        | .nat n => bif Nat.blt 0 ee.size then some (.e [m = (n : Nat), m' = (n : Nat), mkOk ee.bytes n] (.ms S.bs.length 0 ee.size n) (.all ⟨S.bs ++ [some (reps n ee.zs)], S.ts⟩)) else none
        | .mkT ez n => match ee with
          | ⟨_, 1, b, .slice none 0 0, _, _⟩ => some (.e [m = (n : Nat), m' = (n : Nat), mkOk b n] (.ms S.bs.length 0 1 n) (.all ⟨S.bs ++ [some (tagRow S.ts.length ez n)], S.ts ++ List.replicate n 0⟩))
          | _ => none
        | _ => none
      | none => none
    | _ => none
  | _, _ => none
theorem mk_ok (hE : EnvOk P E) {T : Nat} {x y : Operand} {h : Hint} {r : Ro} (ho : o.op = .makeSlice T x y) (hr : mkE E T S h (ρ x) (ρ y) = some r) : RoOk P o ρ S r := by
  unfold mkE at hr
  split at hr
  · rename_i k m k' m' hx hy
    split at hr
    · rename_i el _ _ _ _ _ ht
      have hu := (hE.tab _ _ ht).u
      split at hr
      · rename_i ee hee
        split at hr
        · rename_i n
          cases h0 : Nat.blt 0 ee.size with
          | false => rw [h0] at hr; cases hr
          | true =>
            rw [h0] at hr; simp only [cond_true, Option.some.injEq] at hr; subst hr
            rintro ⟨rfl, rfl, h3, _⟩ S2 rfl
            exact o_mk ho hu (hE.tab _ _ hee).ti (by simpa using h0) (hE.tab _ _ hee).zs hx hy h3.1 h3.2
        · rename_i ez n
          split at hr
          · simp only [Option.some.injEq] at hr; subst hr
            rintro ⟨rfl, rfl, h3, _⟩ S2 rfl
            exact o_mkT ez ho hu (hE.tab _ _ hee).ti hx hy h3.1 h3.2
          · cases hr
        · cases hr
      · cases hr
    · cases hr
  · cases hr
def slaE (E : Env) (d : TypeDesc) : PV → Option Ro
  | .ptr b 0 => match d with
    | .array n el => match tget E.tab el with
      | some ee => bif Nat.ble n 9223372036854775807 then some (.v [] (.ms b 0 ee.size n)) else none
      | none => none
    | _ => none
  | _ => none
theorem sla_ok (hE : EnvOk P E) {T : Nat} {x : Operand} {e : TyE} {r : Ro} (ho : o.op = .slice T x none none none) (ht : tget E.tab T = some e) (hr : slaE E e.d (ρ x) = some r) : RoOk P o ρ S r := by
  have hk := hE.tab _ _ ht
  unfold slaE at hr
  split at hr
  · rename_i b hx
    split at hr
    · rename_i n el hd
      split at hr
      · rename_i ee hee
        cases hn : Nat.ble n 9223372036854775807 with
        | false => rw [hn] at hr; cases hr
        | true =>
          rw [hn] at hr; simp only [cond_true, Option.some.injEq] at hr; subst hr
          exact fun _ S => o_slice_arr ho (by rw [hk.u, hd]) (hE.tab _ _ hee).ti.size (Nat.le_of_ble_eq_true hn) hx
      · cases hr
    · cases hr
  · cases hr
def arrE (e : TyE) (h : Hint) (p : PV) : Option Ro :=
  match e.d, h, p.els with
  | .array n _, .cells l, some (_, es) => bif Nat.blt 0 n then some (.v [n ≤ es.length ∧ es.flatten.take l.length = l] (.rp l)) else none
  | _, _, _ => none
theorem arr_ok (hE : EnvOk P E) {T : Nat} {x : Operand} {e : TyE} {h : Hint} {r : Ro} (ho : o.op = .sliceToArrayPointer T x) (ht : tget E.tab T = some e) (hr : arrE e h (ρ x) = some r) : RoOk P o ρ S r := by
  have hk := hE.tab _ _ ht
  unfold arrE at hr
  split at hr
  · rename_i n el l sz es hd hx
    cases h0 : Nat.blt 0 n with
    | false => rw [h0] at hr; cases hr
    | true =>
      rw [h0] at hr; simp only [cond_true, Option.some.injEq] at hr; subst hr
      exact fun hφ S => o_arrayAt ho (by rw [hk.u, hd]) hx hφ.1.1 (by simpa using h0) hφ.1.2
  · cases hr
def ixvE (E : Env) (e : TyE) (h : Hint) (px py : PV) : Option Ro :=
  match e.d, h, px.cells, py with
  | .array n el, .pvs ps, some cs, .d (.v (.int _ i)) => match tget E.tab el with
    | some ee => bif aggT ee.d && isAggP px && Nat.beq ps.length ee.size then some (.v [(0 ≤ i ∧ i < n) ∧ (cs.drop (i.toNat * ee.size)).take ee.size = ps] (.agg ps)) else none
    | none => none
  | _, _, _, _ => none
theorem ixv_ok (hE : EnvOk P E) {T : Nat} {x y : Operand} {e : TyE} {h : Hint} {r : Ro} (ho : o.op = .index T x y) (ht : tget E.tab T = some e) (hr : ixvE E e h (ρ x) (ρ y) = some r) : RoOk P o ρ S r := by
  have hk := hE.tab _ _ ht
  unfold ixvE at hr
  split at hr
  · rename_i n el ps cs k i hd hcs hy
    split at hr
    · rename_i ee hee
      have hk2 := hE.tab _ _ hee
      cases hc : (aggT ee.d && isAggP (ρ x) && Nat.beq ps.length ee.size) with
      | false => rw [hc] at hr; cases hr
      | true =>
        rw [hc] at hr; simp only [cond_true, Option.some.injEq] at hr; subst hr
        simp only [Bool.and_eq_true] at hc
        exact fun hφ S => o_index_val ho (by rw [hk.u, hd]) hk2.ti.size hk2.u hc.1.1 hcs hc.1.2 hy hφ.1.1 hφ.1.2 (Nat.eq_of_beq_eq_true hc.2)
    · cases hr
  · cases hr
def cpyE (E : Env) (T : Nat) (S : Sx) (h : Hint) (px py : PV) : Option Ro :=
  match px, h, py.els, tget E.tab T with
  | .ms b off 1 n, .cpy m c, some (1, ys), some ⟨.slice el, _, _, _, _, _⟩ => match tget E.tab el with
    | some ⟨_, 1, _, _, _, _⟩ => some (.e [∃ cs, S.bs[b]? = some (some cs) ∧ off + n ≤ cs.length ∧ m = min ys.length n ∧ splice cs off ((ys.take m).flatten.map .d) = c] (.d (.v (.int .i64 ((m : Nat) : Int)))) (.box b c))
    | _ => none
  | _, _, _, _ => none
theorem cpy_ok (hE : EnvOk P E) {T T' : Nat} {x y : Operand} {h : Hint} {r : Ro} (ho : o.op = .call { callee := .builtin .copy, args := #[x, y], argTypes := #[T, T'] }) (hr : cpyE E T S h (ρ x) (ρ y) = some r) : RoOk P o ρ S r := by
  unfold cpyE at hr
  split at hr
  · rename_i b off n m c ys el _ _ _ _ _ hx hy ht
    have hu := (hE.tab _ _ ht).u
    split at hr
    · rename_i hee
      simp only [Option.some.injEq] at hr; subst hr
      rintro ⟨⟨cs, h1, h2, h3, h4⟩, _⟩ S2 hag
      have := o_copy (P := P) (ρ := ρ) (S := S2) ho hu (hE.tab _ _ hee).ti.size hx hy (Eq.trans hag h1) h2 h3
      rw [h4] at this
      exact this
    · cases hr
  · cases hr
def strE (E : Env) (s d : Nat) (h : Hint) (p : PV) : Option Ro :=
  match tget E.tab s, tget E.tab d, p.els, h with
  | some ⟨.slice el, _, _, _, _, _⟩, some ⟨.string, _, _, _, _, _⟩, some (1, es), .ints ns => match tget E.tab el with
    | some ⟨.int .u8, _, _, _, _, _⟩ => some (.v [es = ns.map eByte] (.d (.v (.string (strB ns)))))
    | _ => none
  | _, _, _, _ => none
theorem str_ok (hE : EnvOk P E) {s d : Nat} {x : Operand} {h : Hint} {r : Ro} (ho : o.op = .convert s d x) (hr : strE E s d h (ρ x) = some r) : RoOk P o ρ S r := by
  unfold strE at hr
  split at hr
  · rename_i el _ _ _ _ _ _ _ _ _ _ es ns hs hd hx
    split at hr
    · rename_i hee
      simp only [Option.some.injEq] at hr; subst hr
      exact fun hφ S => o_str ns ho (hE.tab _ _ hs).u (hE.tab _ _ hee).u (hE.tab _ _ hd).u hx hφ.1
    · cases hr
  · cases hr

def opE (P : Program) (E : Env) (op : Op) (ρ : Operand → PV) (S : Sx) (h : Hint) : Option Ro :=
  match op with
  | .move x => some (.v [] (ρ x))
  | .assign x => some (.v [] (ρ x))
  | .pick c a b => pickE True h (ρ c) (ρ a) (ρ b)
  | .alloc T => match tget E.tab T with
    | some e => allocE e.zs S h
    | none => none
  | .box _ x => match (ρ x).cells with
    | some ps => allocE ps S h
    | none => none
  | .build T ps => match tget E.tab T with
    | some e => buildE E e ρ ps.toList
    | none => none
  | .buildSlice T n ps => match tget E.tab T with
    | some e => bsE E e n ρ ps.toList
    | none => none
  | .load T x => match tget E.tab T with
    | some e => loadE e.d e.size S h (ρ x)
    | none => none
  | .store T x y => match tget E.tab T with
    | some e => match (ρ y).cells with
      | some ps => storeE e.size S h ps (ρ x)
      | none => none
    | none => none
  | .nilCheck x => nilE (ρ x)
  | .binOp op T x y _ => binE E op T h (ρ x) (ρ y)
  | .unOp .not _ x => match ρ x with
    | .d (.v (.bool b)) => some (.v [] (.d (.v (.bool (!b)))))
    | _ => none
  | .convert s d x => match h with
    | .ints ns => strE E s d (.ints ns) (ρ x)
    | h => convE E s d h (ρ x)
  | .makeSlice T x y => mkE E T S h (ρ x) (ρ y)
  | .sliceToArrayPointer T x => match tget E.tab T with
    | some e => arrE e h (ρ x)
    | none => none
  | .index T x y => match tget E.tab T with
    | some e => ixvE E e h (ρ x) (ρ y)
    | none => none
  | .makeFunc (.func f) fi ca => some (.v [] (.fn f (fi.toList.map ρ) (ca.toList.map ρ)))
  | .slice T x lo hi none => match tget E.tab T with
    | some e => match e.d, lo, hi with
      | .array _ _, none, none => slaE E e.d (ρ x)
      | _, _, _ => sliceE E e.d h (ρ x) ρ lo hi
    | none => none
  | .fieldAddr T x f => match tget E.tab T with
    | some e => fieldE E e.d f (ρ x)
    | none => none
  | .indexAddr T x y => match tget E.tab T with
    | some e => indexE E e.d S h (ρ x) (ρ y)
    | none => none
  | .extract x i => match ρ x with
    | .tup cs => match cs[i]? with
      | some p => some (.v [] p)
      | none => none
    | _ => none
  | .call ⟨.value (.func f), xs, _⟩ => callE P E f S h (xs.toList.map ρ)
  | .call ⟨.value x, xs, _⟩ => callvE P E S h (xs.toList.map ρ) (ρ x)
  | .call ⟨.builtin .len, ⟨[x]⟩, ⟨[T]⟩⟩ => lenE E T h (ρ x)
  | .call ⟨.builtin .min, ⟨[x, y]⟩, _⟩ => minE h (ρ x) (ρ y)
  | .call ⟨.builtin .copy, ⟨[x, y]⟩, ⟨[T, T']⟩⟩ => cpyE E T S h (ρ x) (ρ y)
  | .call ⟨.builtin .append, ⟨[x, y]⟩, ⟨[T, T']⟩⟩ => bif Nat.beq T T' then appE E T S h (ρ x) (ρ y) else none
  | _ => none

theorem opE_ok (hE : EnvOk P E) {h : Hint} {r : Ro} (hr : opE P E o.op ρ S h = some r) : RoOk P o ρ S r := by
  generalize hop : o.op = op at hr
  unfold opE at hr
  split at hr
  · simp only [Option.some.injEq] at hr; subst hr; exact fun _ S => opS_move hop
  · simp only [Option.some.injEq] at hr; subst hr; exact fun _ S => opS_assign hop
  · exact pickE_ok trivial hop hr
  · split at hr
    · rename_i ht; exact alloc_ok hE hop ht hr
    · cases hr
  · split at hr
    · rename_i hx; exact box_ok hop hx hr
    · cases hr
  · split at hr
    · rename_i ht; exact build_ok hE hop ht hr
    · cases hr
  · split at hr
    · rename_i ht; exact bs_ok hE hop ht hr
    · cases hr
  · split at hr
    · rename_i ht; exact load_ok hE hop ht hr
    · cases hr
  · split at hr
    · rename_i ht
      split at hr
      · rename_i hy; exact store_ok hE hop ht hy hr
      · cases hr
    · cases hr
  · exact nil_ok hop hr
  · exact binE_ok hE hop hr
  · split at hr
    · rename_i hx; simp only [Option.some.injEq] at hr; subst hr; exact fun _ S => opS_not hop hx
    · cases hr
  · split at hr
    · exact str_ok hE hop hr
    · exact conv_ok hE hop hr
  · exact mk_ok hE hop hr
  · split at hr
    · rename_i ht; exact arr_ok hE hop ht hr
    · cases hr
  · split at hr
    · rename_i ht; exact ixv_ok hE hop ht hr
    · cases hr
  · simp only [Option.some.injEq] at hr; subst hr; exact fun _ S => opS_makeFunc hop
  · split at hr
    · rename_i ht
      split at hr
      · exact sla_ok hE hop ht hr
      · exact slice_ok hE hop ht hr
    · cases hr
  · split at hr
    · rename_i ht; exact field_ok hE hop ht hr
    · cases hr
  · split at hr
    · rename_i ht; exact index_ok hE hop ht hr
    · cases hr
  · split at hr
    · rename_i hx
      split at hr
      · rename_i hp; simp only [Option.some.injEq] at hr; subst hr; exact fun _ S => opS_extract hop hx hp
      · cases hr
    · cases hr
  · exact callE_ok hE (call_dir hop) hr
  · exact callv_ok hE hop hr
  · exact len_ok hE hop hr
  · exact min_ok hop hr
  · exact cpy_ok hE hop hr
  · rename_i x y T T'
    cases hT : Nat.beq T T' with
    | false => rw [hT] at hr; cases hr
    | true =>
      rw [hT] at hr; simp only [cond_true] at hr
      obtain rfl := Nat.eq_of_beq_eq_true hT
      exact app_ok hE hop hr
  · cases hr
end
end Go.Pv
