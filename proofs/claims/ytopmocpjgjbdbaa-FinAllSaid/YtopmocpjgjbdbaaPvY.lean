/- A reckoner, continued: memory, rows, calls; and all operations. -/
import Derived.Test.YtopmocpjgjbdbaaPvX
namespace Go.Pv
open Go.RowKit
section
variable {P : Program} {E : Env} {o : Oper} {ρ : Operand → PV} {S : Sx}

def boxAt (S : Sx) (b : Nat) : Option (List PV) :=
  match S.bs[b]? with
  | some (some cs) => some cs
  | _ => none
theorem boxAt_of {b : Nat} {cs : List PV} (h : boxAt S b = some cs) : S.bs[b]? = some (some cs) := by
  unfold boxAt at h
  split at h
  · rename_i hb; rw [hb]; cases h; rfl
  · cases h
def loadE (d : TypeDesc) (n : Nat) (S : Sx) (h : Hint) : PV → Option Ro
  | .rp cs => bif aggT d then (bif Nat.ble n cs.length then some (.v [] (.d (.agg (cs.take n)))) else none) else
    match cs with
    | c :: _ => some (.v [] (.d c))
    | [] => none
  | .ptr b off => bif aggT d then
      (match h with
      | .pvs ps => some (.r [∃ cs, S.bs[b]? = some (some cs) ∧ off + n ≤ cs.length ∧ cs ≠ [] ∧ (cs.drop off).take n = ps] (.agg ps))
      | _ => match boxAt S b with
        | some cs => bif Nat.ble (off + n) cs.length && Nat.blt 0 cs.length then some (.r [] (.agg ((cs.drop off).take n))) else none
        | none => none)
    else
      (match h with
      | .pv p => some (.r [∃ cs, S.bs[b]? = some (some cs) ∧ cs[off]? = some p] p)
      | _ => match boxAt S b with
        | some cs => match cs[off]? with
          | some p => some (.r [] p)
          | none => none
        | none => none)
  | _ => none
theorem load_ok (hE : EnvOk P E) {T : Nat} {x : Operand} {e : TyE} {h : Hint} {r : Ro} (ho : o.op = .load T x) (ht : tget E.tab T = some e) (hr : loadE e.d e.size S h (ρ x) = some r) : RoOk P o ρ S r := by
  have hk := hE.tab _ _ ht
  unfold loadE at hr
  split at hr
  · rename_i cs hx
    cases ha : aggT e.d with
    | true =>
      rw [ha] at hr; simp only [cond_true] at hr
      cases hl : Nat.ble e.size cs.length with
      | true =>
        rw [hl] at hr; simp only [cond_true, Option.some.injEq] at hr; subst hr
        exact fun _ S => opS_load_rp_agg ho hk.u ha hk.ti.size hx (Nat.le_of_ble_eq_true hl)
      | false => rw [hl] at hr; cases hr
    | false =>
      rw [ha] at hr; simp only [cond_false] at hr
      split at hr
      · simp only [Option.some.injEq] at hr; subst hr
        exact fun _ S => opS_load_rp ho hk.u ha hx
      · cases hr
  · rename_i b off hx
    cases ha : aggT e.d with
    | true =>
      rw [ha] at hr; simp only [cond_true] at hr
      split at hr
      · simp only [Option.some.injEq] at hr; subst hr
        rintro ⟨⟨cs, h1, h2, h3, h4⟩, _⟩
        rw [← h4]
        exact opS_load_box_agg ho hk.u ha hk.ti.size hx h1 h2 h3
      · split at hr
        · rename_i cs hb
          cases hl : (Nat.ble (off + e.size) cs.length && Nat.blt 0 cs.length) with
          | true =>
            rw [hl] at hr; simp only [cond_true, Option.some.injEq] at hr; subst hr
            simp only [Bool.and_eq_true] at hl
            exact fun _ => opS_load_box_agg ho hk.u ha hk.ti.size hx (boxAt_of hb) (Nat.le_of_ble_eq_true hl.1) (by rintro rfl; simp at hl)
          | false => rw [hl] at hr; cases hr
        · cases hr
    | false =>
      rw [ha] at hr; simp only [cond_false] at hr
      split at hr
      · simp only [Option.some.injEq] at hr; subst hr
        rintro ⟨⟨cs, h1, h2⟩, _⟩
        exact opS_load_box ho hk.u ha hx h1 h2
      · split at hr
        · rename_i cs hb
          split at hr
          · rename_i p hp
            simp only [Option.some.injEq] at hr; subst hr
            exact fun _ => opS_load_box ho hk.u ha hx (boxAt_of hb) hp
          · cases hr
        · cases hr
  · cases hr

def storeE (n : Nat) (S : Sx) (h : Hint) (ps : List PV) : PV → Option Ro
  | .ptr b off => bif Nat.beq ps.length n then
      (match h with
      | .st S' => some (.e [∃ cs, S.bs[b]? = some (some cs) ∧ off + n ≤ cs.length ∧ cs ≠ [] ∧ S' = ⟨S.bs.set b (some (splice cs off ps)), S.ts⟩] .junk S')
      | _ => match boxAt S b with
        | some cs => bif Nat.ble (off + n) cs.length && Nat.blt 0 cs.length then some (.e [] .junk ⟨S.bs.set b (some (splice cs off ps)), S.ts⟩) else none
        | none => none)
    else none
  | _ => none
theorem store_ok (hE : EnvOk P E) {T : Nat} {x y : Operand} {e : TyE} {ps : List PV} {h : Hint} {r : Ro} (ho : o.op = .store T x y) (ht : tget E.tab T = some e) (hy : (ρ y).cells = some ps) (hr : storeE e.size S h ps (ρ x) = some r) : RoOk P o ρ S r := by
  have hk := hE.tab _ _ ht
  unfold storeE at hr
  split at hr
  · rename_i b off hx
    cases hl : Nat.beq ps.length e.size with
    | false => rw [hl] at hr; cases hr
    | true =>
      have hlen := Nat.eq_of_beq_eq_true hl
      rw [hl] at hr; simp only [cond_true] at hr
      split at hr
      · simp only [Option.some.injEq] at hr; subst hr
        rintro ⟨⟨cs, h1, h2, h3, h4⟩, _⟩
        rw [h4]
        exact opS_store ho hk.ti.size hx hy hlen h1 h2 h3
      · split at hr
        · rename_i cs hb
          cases hl2 : (Nat.ble (off + e.size) cs.length && Nat.blt 0 cs.length) with
          | true =>
            rw [hl2] at hr; simp only [cond_true, Option.some.injEq] at hr; subst hr
            simp only [Bool.and_eq_true] at hl2
            exact fun _ => opS_store ho hk.ti.size hx hy hlen (boxAt_of hb) (Nat.le_of_ble_eq_true hl2.1) (by rintro rfl; simp at hl2)
          | false => rw [hl2] at hr; cases hr
        · cases hr
  · cases hr

def nilE : PV → Option Ro
  | .ptr b off => some (.v [] (.ptr b off))
  | .rp cs => some (.v [] (.rp cs))
  | _ => none
theorem nil_ok {x : Operand} {r : Ro} (ho : o.op = .nilCheck x) (hr : nilE (ρ x) = some r) : RoOk P o ρ S r := by
  unfold nilE at hr
  split at hr
  · rename_i hx; simp only [Option.some.injEq] at hr; subst hr; exact fun _ S => o_nilCheck_ptr ho hx
  · rename_i hx; simp only [Option.some.injEq] at hr; subst hr; exact fun _ S => o_nilCheck_rp ho hx
  · cases hr

def fieldE (E : Env) (d : TypeDesc) (f : Nat) (p : PV) : Option Ro :=
  match d with
  | .struct fs => match fs[f]? with
    | some fd => match tget E.tab fd.type with
      | some ef => bif Nat.blt 0 ef.size then (match p with
        | .ptr b off => some (.v [] (.ptr b (off + fd.offset)))
        | .rp cs => some (.v [] (.rp (cs.drop fd.offset)))
        | _ => none) else none
      | none => none
    | none => none
  | _ => none
theorem field_ok (hE : EnvOk P E) {T f : Nat} {x : Operand} {e : TyE} {r : Ro} (ho : o.op = .fieldAddr T x f) (ht : tget E.tab T = some e) (hr : fieldE E e.d f (ρ x) = some r) : RoOk P o ρ S r := by
  have hk := hE.tab _ _ ht
  unfold fieldE at hr
  split at hr
  · rename_i fs hd
    split at hr
    · rename_i fd hf
      split at hr
      · rename_i ef hef
        have hs := (hE.tab _ _ hef).ti.size
        cases h0 : Nat.blt 0 ef.size with
        | false => rw [h0] at hr; cases hr
        | true =>
          rw [h0] at hr; simp only [cond_true] at hr
          have h0' : ef.size ≠ 0 := by intro h; rw [h] at h0; cases h0
          have hu : P.underlying T = some (.struct fs) := by rw [hk.u, hd]
          split at hr
          · rename_i hx; simp only [Option.some.injEq] at hr; subst hr; exact fun _ S => opS_field_ptr ho hu hf hs h0' hx
          · rename_i hx; simp only [Option.some.injEq] at hr; subst hr; exact fun _ S => opS_field_rp ho hu hf hs h0' hx
          · cases hr
      · cases hr
    · cases hr
  · cases hr

def indexE (E : Env) (d : TypeDesc) (h : Hint) (px py : PV) : Option Ro :=
  match py with
  | .d (.v (.int _ n)) => match d with
    | .slice el => match tget E.tab el with
      | some ee => match px with
        | .ms b off sz m => match h with
          | .nat j => bif Nat.beq sz ee.size then some (.v [n = (j : Int) ∧ j < m] (.ptr b (off + j * sz))) else none
          | _ => none
        | .d (.sl sz _ es) => match h with
          | .cells l => bif Nat.beq sz ee.size then some (.v [0 ≤ n ∧ es[n.toNat]? = some l] (.rp l)) else none
          | _ => none
        | .app _ sz es => match h with
          | .cells l => bif Nat.beq sz ee.size then some (.v [0 ≤ n ∧ es[n.toNat]? = some l] (.rp l)) else none
          | _ => none
        | _ => none
      | none => none
    | .array len el => match tget E.tab el with
      | some ee => match px with
        | .ptr b off => match h with
          | .nat j => some (.v [n = (j : Int) ∧ j < len] (.ptr b (off + j * ee.size)))
          | _ => bif decide (0 ≤ n ∧ n < len) then some (.v [] (.ptr b (off + n.toNat * ee.size))) else none
        | .rp cs => match h with
          | .nat j => some (.v [n = (j : Int) ∧ j < len] (.rp (cs.drop (j * ee.size))))
          | _ => bif decide (0 ≤ n ∧ n < len) then some (.v [] (.rp (cs.drop (n.toNat * ee.size)))) else none
        | _ => none
      | none => none
    | _ => none
  | _ => none
theorem index_ok (hE : EnvOk P E) {T : Nat} {x y : Operand} {e : TyE} {h : Hint} {r : Ro} (ho : o.op = .indexAddr T x y) (ht : tget E.tab T = some e) (hr : indexE E e.d h (ρ x) (ρ y) = some r) : RoOk P o ρ S r := by
  have hk := hE.tab _ _ ht
  unfold indexE at hr
  split at hr
  · rename_i k n hy
    split at hr
    · rename_i el hd
      have hu : P.underlying T = some (.slice el) := by rw [hk.u, hd]
      split at hr
      · rename_i ee hee
        have hs := (hE.tab _ _ hee).ti.size
        split at hr
        · rename_i b off sz m hx
          split at hr
          · rename_i j
            cases hb : Nat.beq sz ee.size with
            | false => rw [hb] at hr; cases hr
            | true =>
              rw [hb] at hr; simp only [cond_true, Option.some.injEq] at hr; subst hr
              obtain rfl := Nat.eq_of_beq_eq_true hb
              rintro ⟨⟨rfl, hj⟩, _⟩ S
              exact o_index_ms ho hu hs hx hy (by omega) (by omega)
          · cases hr
        · rename_i sz f es hx
          split at hr
          · rename_i l
            cases hb : Nat.beq sz ee.size with
            | false => rw [hb] at hr; cases hr
            | true =>
              rw [hb] at hr; simp only [cond_true, Option.some.injEq] at hr; subst hr
              obtain rfl := Nat.eq_of_beq_eq_true hb
              rintro ⟨⟨h1, h2⟩, _⟩ S
              exact opS_index ho hu hs (by rw [hx]; rfl) hy h1 h2
          · cases hr
        · rename_i t sz es hx
          split at hr
          · rename_i l
            cases hb : Nat.beq sz ee.size with
            | false => rw [hb] at hr; cases hr
            | true =>
              rw [hb] at hr; simp only [cond_true, Option.some.injEq] at hr; subst hr
              obtain rfl := Nat.eq_of_beq_eq_true hb
              rintro ⟨⟨h1, h2⟩, _⟩ S
              exact opS_index ho hu hs (by rw [hx]; rfl) hy h1 h2
          · cases hr
        · cases hr
      · cases hr
    · rename_i len el hd
      have hu : P.underlying T = some (.array len el) := by rw [hk.u, hd]
      split at hr
      · rename_i ee hee
        have hs := (hE.tab _ _ hee).ti.size
        split at hr
        · rename_i b off hx
          split at hr
          · simp only [Option.some.injEq] at hr; subst hr
            rintro ⟨⟨rfl, hj⟩, _⟩ S
            exact opS_index_arr_ptr (n := (_ : Nat)) ho hu hs hx hy (by omega)
          · cases hb : decide (0 ≤ n ∧ n < len) with
            | false => rw [hb] at hr; cases hr
            | true =>
              rw [hb] at hr; simp only [cond_true, Option.some.injEq] at hr; subst hr
              exact fun _ S => opS_index_arr_ptr ho hu hs hx hy (of_decide_eq_true hb)
        · rename_i cs hx
          split at hr
          · simp only [Option.some.injEq] at hr; subst hr
            rintro ⟨⟨rfl, hj⟩, _⟩ S
            exact opS_index_arr_rp (n := (_ : Nat)) ho hu hs hx hy (by omega)
          · cases hb : decide (0 ≤ n ∧ n < len) with
            | false => rw [hb] at hr; cases hr
            | true =>
              rw [hb] at hr; simp only [cond_true, Option.some.injEq] at hr; subst hr
              exact fun _ S => opS_index_arr_rp ho hu hs hx hy (of_decide_eq_true hb)
        · cases hr
      · cases hr
    · cases hr
  · cases hr

def sliceE (E : Env) (d : TypeDesc) (h : Hint) (p : PV) (ρ : Operand → PV) (lo hi : Option Operand) : Option Ro :=
  match d with
  | .slice el => match tget E.tab el with
    | some ee => match p.els with
      | some (sz, es) => bif Nat.beq sz ee.size then
          (match bnd ρ lo 0, bnd ρ hi es.length, h with
          | some l, some u, .rows r => some (.v [0 ≤ l ∧ l ≤ u ∧ u ≤ es.length ∧ (es.drop l.toNat).take (u.toNat - l.toNat) = r] (.d (.sl sz false r)))
          | _, _, _ => none)
        else none
      | none => none
    | none => none
  | _ => none
theorem slice_ok (hE : EnvOk P E) {T : Nat} {x : Operand} {lo hi : Option Operand} {e : TyE} {h : Hint} {r : Ro} (ho : o.op = .slice T x lo hi none) (ht : tget E.tab T = some e) (hr : sliceE E e.d h (ρ x) ρ lo hi = some r) : RoOk P o ρ S r := by
  have hk := hE.tab _ _ ht
  unfold sliceE at hr
  split at hr
  · rename_i el hd
    have hu : P.underlying T = some (.slice el) := by rw [hk.u, hd]
    split at hr
    · rename_i ee hee
      have hs := (hE.tab _ _ hee).ti.size
      split at hr
      · rename_i sz es hx
        cases hb : Nat.beq sz ee.size with
        | false => rw [hb] at hr; cases hr
        | true =>
          rw [hb] at hr; simp only [cond_true] at hr
          obtain rfl := Nat.eq_of_beq_eq_true hb
          split at hr
          · rename_i l u r' hl hh
            simp only [Option.some.injEq] at hr; subst hr
            rintro ⟨⟨h1, h2, h3, h4⟩, _⟩ S
            exact o_slice ho hu hs hx hl hh h1 h2 h3 h4
          · cases hr
      · cases hr
    · cases hr
  · cases hr

/-- Calls. -/
def ALe : List PV → List PV → Prop
  | [], [] => True
  | p :: ps, q :: qs => PVle p q ∧ ALe ps qs
  | _, _ => False
theorem ALe.get : ∀ {ps qs : List PV}, ALe ps qs → ps.length = qs.length ∧ ∀ (i : Nat) (p q : PV), ps[i]? = some p → qs[i]? = some q → PVle p q
  | [], [], _ => ⟨rfl, fun i p q h => by simp at h⟩
  | p :: ps, q :: qs, h => by
    obtain ⟨e1, e2⟩ := ALe.get h.2
    refine ⟨by simp [e1], fun i p' q' h1 h2 => ?_⟩
    cases i with
    | zero => simp at h1 h2; subst h1 h2; exact h.1
    | succ i => exact e2 i p' q' (by simpa using h1) (by simpa using h2)
  | [], _ :: _, h => h.elim
  | _ :: _, [], h => h.elim
theorem canon_ale : ∀ (ps : List PV), ALe ps (ps.map PV.canon)
  | [] => trivial
  | p :: ps => ⟨PVle.canon p, canon_ale ps⟩
theorem toDs_ale : ∀ {ps : List PV} {ds : List D}, toDs ps = some ds → ALe ps (ds.map .d)
  | [], ds, h => by cases h; trivial
  | p :: ps, ds, h => by
    unfold toDs at h
    split at h
    · rename_i d ds' h1 h2
      cases h
      exact ⟨fun g v hv => .d _ _ (hv.toD1 h1), toDs_ale h2⟩
    · cases h
theorem ALe.trans : ∀ {a b c : List PV}, ALe a b → ALe b c → ALe a c
  | [], [], [], _, _ => trivial
  | _ :: _, _ :: _, _ :: _, h, k => ⟨h.1.trans k.1, ALe.trans h.2 k.2⟩
  | [], [], _ :: _, _, k => k.elim
  | [], _ :: _, _, h, _ => h.elim
  | _ :: _, [], _, h, _ => h.elim
  | _ :: _, _ :: _, [], _, k => k.elim

def callE (P : Program) (E : Env) (f : Nat) (S : Sx) (h : Hint) (args : List PV) : Option Ro :=
  bif E.fns.any (Nat.beq f) then
    (match h with
    | .pf r => match toDs (args.map PV.canon) with
      | some ds => some (.v [PF P f ds r] r)
      | none => none
    | .pfa ds r => some (.v [ALe args (ds.map .d), PF P f ds r] r)
    | .pr as r => some (.r [ALe args as, PC P f as S S r] r)
    | .pc as S' r => some (.e [ALe args as, PC P f as S S' r] r S')
    | _ => none)
  else none
/-- What a call comes to, whatever the way by which it is called. -/
def CallOk (P : Program) (o : Oper) (ρ : Operand → PV) (f : Nat) (args : List PV) : Prop :=
  ∀ (as : List PV) (S S' : Sx) (r : PV), FnOk P f → ALe args as → PC P f as S S' r → OpS P o ρ S S' r
theorem callE_ok (hE : EnvOk P E) {f : Nat} {args : List PV} {h : Hint} {r : Ro} (hc : CallOk P o ρ f args) (hr : callE P E f S h args = some r) : RoOk P o ρ S r := by
  unfold callE at hr
  cases hf : E.fns.any (Nat.beq f) with
  | false => rw [hf] at hr; cases hr
  | true =>
    rw [hf] at hr; simp only [cond_true] at hr
    have hfn := hE.fns f hf
    split at hr
    · split at hr
      · rename_i ds hds
        simp only [Option.some.injEq] at hr; subst hr
        exact fun hφ S => hc _ S S _ hfn ((canon_ale args).trans (toDs_ale hds)) (hφ.1.at S)
      · cases hr
    · simp only [Option.some.injEq] at hr; subst hr
      exact fun hφ S => hc _ S S _ hfn hφ.1 (hφ.2.1.at S)
    · simp only [Option.some.injEq] at hr; subst hr
      exact fun hφ => hc _ S S _ hfn hφ.1 hφ.2.1
    · simp only [Option.some.injEq] at hr; subst hr
      exact fun hφ => hc _ S _ _ hfn hφ.1 hφ.2.1
    · cases hr
theorem call_dir {f : Nat} {xs : Array Operand} {ts : Array TypeId} (ho : o.op = .call { callee := .value (.func f), args := xs, argTypes := ts }) : CallOk P o ρ f (xs.toList.map ρ) := by
  intro as S S' r hf ha h
  obtain ⟨h1, h2⟩ := ha.get
  refine opS_call ho hf (by simpa using h1) (fun i x p k1 k2 => h2 i _ _ ?_ k2) h
  rw [List.getElem?_map, Array.getElem?_toList, k1]; rfl
theorem call_fn {x : Operand} {f : Nat} {fi ca : List PV} {xs : Array Operand} {ts : Array TypeId} (ho : o.op = .call { callee := .value x, args := xs, argTypes := ts }) (hx : ρ x = .fn f fi ca) : CallOk P o ρ f (fi ++ xs.toList.map ρ ++ ca) := by
  intro as S S' r hf ha h
  obtain ⟨h1, h2⟩ := ha.get
  exact opS_callv ho hf hx (by have := h1; simp at this; omega) (fun i p q k1 k2 => h2 i q p k1 k2) h
theorem call_fd {x : Operand} {f : Nat} {xs : Array Operand} {ts : Array TypeId} (ho : o.op = .call { callee := .value x, args := xs, argTypes := ts }) (hx : ρ x = .d (.v (.func (.func f) #[] #[]))) : CallOk P o ρ f (xs.toList.map ρ) := by
  intro as S S' r hf ha h
  obtain ⟨h1, h2⟩ := ha.get
  refine o_callv_d ho hf hx (by simpa using h1) (fun i y p k1 k2 => h2 i _ _ ?_ k2) h
  rw [List.getElem?_map, Array.getElem?_toList, k1]; rfl
def callvE (P : Program) (E : Env) (S : Sx) (h : Hint) (args : List PV) : PV → Option Ro
  | .fn f fi ca => callE P E f S h (fi ++ args ++ ca)
  | .d (.v (.func (.func f) ⟨[]⟩ ⟨[]⟩)) => callE P E f S h args
  | _ => none
theorem callv_ok (hE : EnvOk P E) {x : Operand} {xs : Array Operand} {ts : Array TypeId} {h : Hint} {r : Ro} (ho : o.op = .call { callee := .value x, args := xs, argTypes := ts }) (hr : callvE P E S h (xs.toList.map ρ) (ρ x) = some r) : RoOk P o ρ S r := by
  unfold callvE at hr
  split at hr
  · rename_i hx; exact callE_ok hE (call_fn ho hx) hr
  · rename_i hx; exact callE_ok hE (call_fd ho hx) hr
  · cases hr

def AppOk (b m n : Nat) : Prop := (m + n) * b ≤ 140737488355328 ∧ m + n ≤ 9223372036854775807
def appE (E : Env) (T : Nat) (S : Sx) (h : Hint) (px py : PV) : Option Ro :=
  match tget E.tab T with
  | some ⟨.slice el, _, _, _, _, _⟩ => match tget E.tab el with
    | some ee => match py.els with
      | some (sy, ys) => bif Nat.blt 0 ee.size && Nat.beq sy ee.size then
        (match px with
        | .d (.sl sz true es) => bif Nat.beq sz ee.size then
          (match h with
          | .appP => some (.v [AppOk ee.bytes es.length ys.length] (.d (.sl sz false (es ++ ys))))
          | .appF => some (.e [AppOk ee.bytes es.length ys.length] (.app S.ts.length sz (es ++ ys)) ⟨S.bs, S.ts ++ [es.length + ys.length]⟩)
          | .appM cs n => match es with
            | [] => some (.e [cs = ys.flatten.map .d, ys.length = n, AppOk ee.bytes 0 n] (.ms S.bs.length 0 sz n) ⟨S.bs ++ [some cs], S.ts⟩)
            | _ => none
          | _ => none) else none
        | .app t sz es => bif Nat.beq sz ee.size then some (.e [S.ts[t]? = some es.length, AppOk ee.bytes es.length ys.length] (.app t sz (es ++ ys)) ⟨S.bs, S.ts.set t (es.length + ys.length)⟩) else none
        | _ => none) else none
      | none => none
    | none => none
  | _ => none
theorem app_ok (hE : EnvOk P E) {T : Nat} {x y : Operand} {h : Hint} {r : Ro} (ho : o.op = .call { callee := .builtin .append, args := #[x, y], argTypes := #[T, T] }) (hr : appE E T S h (ρ x) (ρ y) = some r) : RoOk P o ρ S r := by
  unfold appE at hr
  split at hr
  · rename_i el _ _ _ _ _ ht
    have hu := (hE.tab _ _ ht).u
    split at hr
    · rename_i ee hee
      have hs := (hE.tab _ _ hee).ti
      split at hr
      · rename_i sy ys hy
        cases hb : (Nat.blt 0 ee.size && Nat.beq sy ee.size) with
        | false => rw [hb] at hr; cases hr
        | true =>
          rw [hb] at hr; simp only [cond_true] at hr
          simp only [Bool.and_eq_true] at hb
          obtain ⟨h0, hb⟩ := hb
          have h0' : 0 < ee.size := by simpa using h0
          obtain rfl := Nat.eq_of_beq_eq_true hb
          split at hr
          · rename_i sz es hx
            cases hb2 : Nat.beq sz ee.size with
            | false => rw [hb2] at hr; cases hr
            | true =>
              rw [hb2] at hr; simp only [cond_true] at hr
              obtain rfl := Nat.eq_of_beq_eq_true hb2
              split at hr
              · simp only [Option.some.injEq] at hr; subst hr
                exact fun hφ S => o_append_pure ho hu hs h0' hx hy hφ.1.1 hφ.1.2
              · simp only [Option.some.injEq] at hr; subst hr
                exact fun hφ => o_append_full ho hu hs h0' hx hy hφ.1.1 hφ.1.2
              · split at hr
                · simp only [Option.some.injEq] at hr; subst hr
                  rintro ⟨rfl, rfl, h3, _⟩
                  unfold AppOk at h3
                  exact o_append_ms ho hu hs h0' hx hy (by simpa using h3.1) (by simpa using h3.2)
                · cases hr
              · cases hr
          · rename_i t sz es hx
            cases hb2 : Nat.beq sz ee.size with
            | false => rw [hb2] at hr; cases hr
            | true =>
              rw [hb2] at hr; simp only [cond_true, Option.some.injEq] at hr; subst hr
              obtain rfl := Nat.eq_of_beq_eq_true hb2
              exact fun hφ => o_append_tag ho hu hs h0' hx hy hφ.1 hφ.2.1.1 hφ.2.1.2
          · cases hr
      · cases hr
    · cases hr
  · cases hr

def lenE (E : Env) (T : Nat) (h : Hint) (p : PV) : Option Ro :=
  match tget E.tab T with
  | some ⟨.slice _, _, _, _, _, _⟩ => match p with
    | .ms _ _ _ n => some (.v [] (.d (.v (.int .i64 ((n : Nat) : Int)))))
    | .d (.sl _ _ es) => match h with
      | .nat n => some (.v [es.length = n] (.d (.v (.int .i64 ((n : Nat) : Int)))))
      | _ => some (.v [] (.d (.v (.int .i64 ((es.length : Nat) : Int)))))
    | .app _ _ es => match h with
      | .nat n => some (.v [es.length = n] (.d (.v (.int .i64 ((n : Nat) : Int)))))
      | _ => some (.v [] (.d (.v (.int .i64 ((es.length : Nat) : Int)))))
    | _ => none
  | _ => none
theorem len_ok (hE : EnvOk P E) {T : Nat} {x : Operand} {h : Hint} {r : Ro} (ho : o.op = .call { callee := .builtin .len, args := #[x], argTypes := #[T] }) (hr : lenE E T h (ρ x) = some r) : RoOk P o ρ S r := by
  unfold lenE at hr
  split at hr
  · rename_i el _ _ _ _ _ ht
    have hu := (hE.tab _ _ ht).u
    split at hr
    · rename_i hx
      simp only [Option.some.injEq] at hr; subst hr
      exact fun _ S => o_len_ms ho hu hx
    · rename_i hx
      split at hr
      · simp only [Option.some.injEq] at hr; subst hr
        exact fun hφ S => o_len ho hu (by rw [hx]; rfl) hφ.1
      · simp only [Option.some.injEq] at hr; subst hr
        exact fun _ S => o_len ho hu (by rw [hx]; rfl) rfl
    · rename_i hx
      split at hr
      · simp only [Option.some.injEq] at hr; subst hr
        exact fun hφ S => o_len ho hu (by rw [hx]; rfl) hφ.1
      · simp only [Option.some.injEq] at hr; subst hr
        exact fun _ S => o_len ho hu (by rw [hx]; rfl) rfl
    · cases hr
  · cases hr
def minE (h : Hint) : PV → PV → Option Ro
  | .d (.v (.int k m)), .d (.v (.int k' n)) => if k = k' then (match h with
    | .int r => some (.v [(if n < m then n else m) = r] (.d (.v (.int k r))))
    | _ => none) else none
  | _, _ => none
theorem min_ok {T : Array Nat} {x y : Operand} {h : Hint} {r : Ro} (ho : o.op = .call { callee := .builtin .min, args := #[x, y], argTypes := T }) (hr : minE h (ρ x) (ρ y) = some r) : RoOk P o ρ S r := by
  unfold minE at hr
  split at hr
  · rename_i k m k' n hx hy
    split at hr
    · rename_i hk; subst hk
      split at hr
      · simp only [Option.some.injEq] at hr; subst hr
        exact fun hφ S => o_min ho hx hy hφ.1
      · cases hr
    · cases hr
  · cases hr
def convE (E : Env) (s d : Nat) (h : Hint) (p : PV) : Option Ro :=
  match tget E.tab s, tget E.tab d, p with
  | some _, some ⟨.int k', _, _, _, _, _⟩, .d (.v (.int _ n)) => match h with
    | .int r => some (.v [k'.wrap n = r] (.d (.v (.int k' r))))
    | .raw => some (.v [] (.d (.v (.int k' (k'.wrap n)))))
    | _ => some (.v [k'.wrap n = n] (.d (.v (.int k' n))))
  | _, _, _ => none
theorem conv_ok (hE : EnvOk P E) {s d : Nat} {x : Operand} {h : Hint} {r : Ro} (ho : o.op = .convert s d x) (hr : convE E s d h (ρ x) = some r) : RoOk P o ρ S r := by
  unfold convE at hr
  split at hr
  · rename_i e0 k' _ _ _ _ _ k n hs' hd hx
    have h1 : (P.underlying s).isSome = true := by rw [(hE.tab _ _ hs').u]; rfl
    have h2 := (hE.tab _ _ hd).u
    split at hr
    · simp only [Option.some.injEq] at hr; subst hr
      exact fun hφ S => hφ.1 ▸ opS_conv ho h1 h2 hx
    · simp only [Option.some.injEq] at hr; subst hr
      exact fun _ S => opS_conv ho h1 h2 hx
    · simp only [Option.some.injEq] at hr; subst hr
      exact fun hφ S => o_conv ho h1 h2 hx hφ.1
  · cases hr

def opE (P : Program) (E : Env) (op : Op) (ρ : Operand → PV) (S : Sx) (h : Hint) : Option Ro :=
  match op with
  | .move x => some (.v [] (ρ x))
  | .assign x => some (.v [] (ρ x))
  | .pick c a b => pickE True h (ρ c) (ρ a) (ρ b)
  | .alloc T => match tget E.tab T with
    | some e => allocE e.zs S h
    | none => none
  | .box _ x => match (ρ x).cells with
    | some ps => allocE ps S h
    | none => none
  | .build T ps => match tget E.tab T with
    | some e => buildE E e ρ ps.toList
    | none => none
  | .buildSlice T n ps => match tget E.tab T with
    | some e => bsE E e n ρ ps.toList
    | none => none
  | .load T x => match tget E.tab T with
    | some e => loadE e.d e.size S h (ρ x)
    | none => none
  | .store T x y => match tget E.tab T with
    | some e => match (ρ y).cells with
      | some ps => storeE e.size S h ps (ρ x)
      | none => none
    | none => none
  | .nilCheck x => nilE (ρ x)
  | .binOp op T x y _ => binE E op T h (ρ x) (ρ y)
  | .unOp .not _ x => match ρ x with
    | .d (.v (.bool b)) => some (.v [] (.d (.v (.bool (!b)))))
    | _ => none
  | .convert s d x => convE E s d h (ρ x)
  | .makeFunc (.func f) fi ca => some (.v [] (.fn f (fi.toList.map ρ) (ca.toList.map ρ)))
  | .slice T x lo hi none => match tget E.tab T with
    | some e => sliceE E e.d h (ρ x) ρ lo hi
    | none => none
  | .fieldAddr T x f => match tget E.tab T with
    | some e => fieldE E e.d f (ρ x)
    | none => none
  | .indexAddr T x y => match tget E.tab T with
    | some e => indexE E e.d h (ρ x) (ρ y)
    | none => none
  | .extract x i => match ρ x with
    | .tup cs => match cs[i]? with
      | some p => some (.v [] p)
      | none => none
    | _ => none
  | .call ⟨.value (.func f), xs, _⟩ => callE P E f S h (xs.toList.map ρ)
  | .call ⟨.value x, xs, _⟩ => callvE P E S h (xs.toList.map ρ) (ρ x)
  | .call ⟨.builtin .len, ⟨[x]⟩, ⟨[T]⟩⟩ => lenE E T h (ρ x)
  | .call ⟨.builtin .min, ⟨[x, y]⟩, _⟩ => minE h (ρ x) (ρ y)
  | .call ⟨.builtin .append, ⟨[x, y]⟩, ⟨[T, T']⟩⟩ => bif Nat.beq T T' then appE E T S h (ρ x) (ρ y) else none
  | _ => none

theorem opE_ok (hE : EnvOk P E) {h : Hint} {r : Ro} (hr : opE P E o.op ρ S h = some r) : RoOk P o ρ S r := by
  generalize hop : o.op = op at hr
  unfold opE at hr
  split at hr
  · simp only [Option.some.injEq] at hr; subst hr; exact fun _ S => opS_move hop
  · simp only [Option.some.injEq] at hr; subst hr; exact fun _ S => opS_assign hop
  · exact pickE_ok trivial hop hr
  · split at hr
    · rename_i ht; exact alloc_ok hE hop ht hr
    · cases hr
  · split at hr
    · rename_i hx; exact box_ok hop hx hr
    · cases hr
  · split at hr
    · rename_i ht; exact build_ok hE hop ht hr
    · cases hr
  · split at hr
    · rename_i ht; exact bs_ok hE hop ht hr
    · cases hr
  · split at hr
    · rename_i ht; exact load_ok hE hop ht hr
    · cases hr
  · split at hr
    · rename_i ht
      split at hr
      · rename_i hy; exact store_ok hE hop ht hy hr
      · cases hr
    · cases hr
  · exact nil_ok hop hr
  · exact binE_ok hE hop hr
  · split at hr
    · rename_i hx; simp only [Option.some.injEq] at hr; subst hr; exact fun _ S => opS_not hop hx
    · cases hr
  · exact conv_ok hE hop hr
  · simp only [Option.some.injEq] at hr; subst hr; exact fun _ S => opS_makeFunc hop
  · split at hr
    · rename_i ht; exact slice_ok hE hop ht hr
    · cases hr
  · split at hr
    · rename_i ht; exact field_ok hE hop ht hr
    · cases hr
  · split at hr
    · rename_i ht; exact index_ok hE hop ht hr
    · cases hr
  · split at hr
    · rename_i hx
      split at hr
      · rename_i hp; simp only [Option.some.injEq] at hr; subst hr; exact fun _ S => opS_extract hop hx hp
      · cases hr
    · cases hr
  · exact callE_ok hE (call_dir hop) hr
  · exact callv_ok hE hop hr
  · exact len_ok hE hop hr
  · exact min_ok hop hr
  · rename_i x y T T'
    cases hT : Nat.beq T T' with
    | false => rw [hT] at hr; cases hr
    | true =>
      rw [hT] at hr; simp only [cond_true] at hr
      obtain rfl := Nat.eq_of_beq_eq_true hT
      exact app_ok hE hop hr
  · cases hr
end
end Go.Pv
