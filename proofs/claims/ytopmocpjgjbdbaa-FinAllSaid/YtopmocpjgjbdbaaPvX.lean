/- A reckoner: what operations do, computed; what is not computed is asked for. -/
import Derived.Test.YtopmocpjgjbdbaaPvL
namespace Go.Pv
open Go.RowKit

inductive Hint where
  | raw
  | int (r : Int)
  | bool (b : Bool)
  | cells (l : List D)
  | nat (j : Nat)
  | pv (p : PV)
  | pvs (ps : List PV)
  | st (S : Sx)
  | rows (r : List (List D))
  | pf (r : PV)
  | pfa (as : List D) (r : PV)
  | pc (as : List PV) (S' : Sx) (r : PV)
  | appP | appT | appF
  | appM (cs : List PV) (n : Nat)
  | pr (as : List PV) (r : PV)
  | at (p : Nat)
  | known (v : Bool) (h : Hint)
  | no

inductive Ro where
  | v (φ : List Prop) (p : PV)
  | r (φ : List Prop) (p : PV)
  | e (φ : List Prop) (p : PV) (S' : Sx)
def AllP : List Prop → Prop
  | [] => True
  | φ :: l => φ ∧ AllP l
def RoOk (P : Program) (o : Oper) (ρ : Operand → PV) (S : Sx) : Ro → Prop
  | .v φ p => AllP φ → ∀ S, OpS P o ρ S S p
  | .r φ p => AllP φ → OpS P o ρ S S p
  | .e φ p S' => AllP φ → OpS P o ρ S S' p

def isShift : BinOp → Bool
  | .shl | .shr => true
  | _ => false
def isCmp : BinOp → Bool
  | .eql | .neq | .lss | .leq | .gtr | .geq => true
  | _ => false
def cmpE : BinOp → Int → Int → Bool
  | .eql, m, n => decide (m = n)
  | .neq, m, n => !decide (m = n)
  | .lss, m, n => decide (m < n)
  | .leq, m, n => decide (m ≤ n)
  | .gtr, m, n => decide (n < m)
  | _, m, n => decide (n ≤ m)
def arE : BinOp → Int → Int → Int
  | .add, m, n => m + n
  | .sub, m, n => m - n
  | _, m, n => m * n
def isAr : BinOp → Bool
  | .add | .sub | .mul => true
  | _ => false
def rawE : BinOp → IntKind → Int → Int → Int
  | .add, k, m, n => k.wrap (m + n)
  | .sub, k, m, n => k.wrap (m - n)
  | _, k, m, n => k.wrap (m * n)

def binI (op : BinOp) (h : Hint) (k k' : IntKind) (m n : Int) : Option Ro :=
  match h with
  | .int r => bif isShift op then some (.v [ishift op k m n = some (.int k r)] (.d (.v (.int k r)))) else
      if k = k' then some (.v [ibin op k m n = some (.int k r)] (.d (.v (.int k r)))) else none
  | .raw => bif isAr op then (if k = k' then some (.v [] (.d (.v (.int k (rawE op k m n))))) else none) else none
  | _ => if k = k' then (bif isCmp op then some (.v [] (.d (.v (.bool (cmpE op m n)))))
      else bif isAr op then some (.v [ibin op k m n = some (.int k (arE op m n))] (.d (.v (.int k (arE op m n))))) else none) else none
def eqOp (op : BinOp) (b : Bool) : Option Ro :=
  match op with
  | .eql => some (.v [] (.d (.v (.bool b))))
  | .neq => some (.v [] (.d (.v (.bool (!b)))))
  | _ => none
def binE (E : Env) (op : BinOp) (T : Nat) (h : Hint) (px py : PV) : Option Ro :=
  match px, py with
  | .d (.v (.int k m)), .d (.v (.int k' n)) => binI op h k k' m n
  | .d (.v (.bool a)), .d (.v (.bool b)) =>
    match tget E.tab T with
    | some ⟨.bool, _, _, _, _, _⟩ => match op with
      | .eql => some (.v [] (.d (.v (.bool (a == b)))))
      | .neq => some (.v [] (.d (.v (.bool (a != b)))))
      | _ => none
    | _ => none
  | px, py => bif isAggP px && isAggP py && E.eqs.any (Nat.beq T) then
      (match tget E.tab T, px.cells, py.cells with
      | some e, some cs, some ds => bif aggT e.d then (match eqC E 6 T cs ds with
        | some b => eqOp op b
        | none => none) else none
      | _, _, _ => none)
    else match tget E.tab T with
      | some ⟨.pointer _, _, _, _, _, _⟩ => match nilEq px py with
        | some b => eqOp op b
        | none => none
      | _ => none

section
variable {P : Program} {E : Env} {o : Oper} {ρ : Operand → PV} {S : Sx}

theorem binI_ok {op : BinOp} {T T' : TypeId} {x y : Operand} {k k' : IntKind} {m n : Int} {h : Hint} {r : Ro} (ho : o.op = .binOp op T x y T') (hx : ρ x = .d (.v (.int k m))) (hy : ρ y = .d (.v (.int k' n)))
    (hr : binI op h k k' m n = some r) : RoOk P o ρ S r := by
  unfold binI at hr
  split at hr
  · rename_i r'
    cases hs : isShift op with
    | true =>
      rw [hs] at hr; simp only [cond_true, Option.some.injEq] at hr; subst hr
      exact fun hφ S => opS_shift ho hx hy hφ.1
    | false =>
      rw [hs] at hr; simp only [cond_false] at hr
      split at hr
      · rename_i hk; subst hk; simp only [Option.some.injEq] at hr; subst hr
        exact fun hφ S => opS_bin ho hx hy hφ.1
      · cases hr
  · cases ha : isAr op with
    | true =>
      rw [ha] at hr; simp only [cond_true] at hr
      split at hr
      · rename_i hk; subst hk; simp only [Option.some.injEq] at hr; subst hr
        exact fun _ S => opS_bin ho hx hy (by cases op <;> first | rfl | cases ha)
      · cases hr
    | false => rw [ha] at hr; cases hr
  · split at hr
    · rename_i hk; subst hk
      cases hc : isCmp op with
      | true =>
        rw [hc] at hr; simp only [cond_true, Option.some.injEq] at hr; subst hr
        exact fun _ S => opS_bin ho hx hy (by cases op <;> first | rfl | cases hc)
      | false =>
        rw [hc] at hr; simp only [cond_false] at hr
        cases ha : isAr op with
        | true =>
          rw [ha] at hr; simp only [cond_true, Option.some.injEq] at hr; subst hr
          exact fun hφ S => opS_bin ho hx hy hφ.1
        | false => rw [ha] at hr; cases hr
    · cases hr

theorem eqOp_ok {op : BinOp} {b : Bool} {r : Ro} (hr : eqOp op b = some r) (h : (op = .eql ∨ op = .neq) → ∀ S, OpS P o ρ S S (.d (.v (.bool (if op = .eql then b else !b))))) : RoOk P o ρ S r := by
  unfold eqOp at hr
  split at hr
  · simp only [Option.some.injEq] at hr; subst hr; exact fun _ S => h (.inl rfl) S
  · simp only [Option.some.injEq] at hr; subst hr; exact fun _ S => h (.inr rfl) S
  · cases hr
theorem binE_ok (hE : EnvOk P E) {op : BinOp} {T T' : TypeId} {x y : Operand} {h : Hint} {r : Ro} (ho : o.op = .binOp op T x y T') (hr : binE E op T h (ρ x) (ρ y) = some r) : RoOk P o ρ S r := by
  unfold binE at hr
  split at hr
  · rename_i hx hy; exact binI_ok ho hx hy hr
  · rename_i hx hy
    split at hr
    · rename_i ht
      have hu := (hE.tab _ _ ht).u
      split at hr
      · simp only [Option.some.injEq] at hr; subst hr
        exact fun _ S => o_eqb_eql ho hu hx hy rfl
      · simp only [Option.some.injEq] at hr; subst hr
        exact fun _ S => o_eqb_neq ho hu hx hy rfl
      · cases hr
    · cases hr
  · cases hc : (isAggP (ρ x) && isAggP (ρ y) && E.eqs.any (Nat.beq T)) with
    | true =>
      rw [hc] at hr; simp only [cond_true] at hr
      simp only [Bool.and_eq_true] at hc
      split at hr
      · rename_i e cs ds ht hcx hcy
        cases ha : aggT e.d with
        | false => rw [ha] at hr; cases hr
        | true =>
          rw [ha] at hr; simp only [cond_true] at hr
          split at hr
          · rename_i b hb
            exact eqOp_ok hr (fun hop S => opS_eqagg hE ho ht ha (hE.eqs T hc.2) hc.1.1 hc.1.2 hcx hcy hb (by decide) hop)
          · cases hr
      · cases hr
    | false =>
      rw [hc] at hr; simp only [cond_false] at hr
      split at hr
      · rename_i ht
        split at hr
        · rename_i b hb
          exact eqOp_ok hr (fun hop S => opS_eqptr hE ho ht rfl hb hop)
        · cases hr
      · cases hr

theorem OpS.le {p q : PV} {S' : Sx} (h : OpS P o ρ S S' p) (hq : PVle p q) : OpS P o ρ S S' q :=
  fun g w a next Q hI hv K => h g w a next Q hI hv (fun v g' w' h1 h2 h3 => K v g' w' (hq g' v h1) h2 h3)
theorem PVle.opt {b : Bool} {p : PV} (h : b = true) : PVle (.opt b p) p := fun g v hv => by
  cases hv with | opt _ _ _ h1 _ => exact h1 h

def unopt (c : Prop) : PV → List Prop × PV
  | .opt b p => ([c → b = true], p)
  | p => ([], p)
theorem unopt_le {c : Prop} {p : PV} (hc : c) (h : AllP (unopt c p).1) : PVle p (unopt c p).2 := by
  cases p <;> first | exact .rfl' | exact PVle.opt (h.1 hc)
theorem AllP_app : ∀ {l m : List Prop}, AllP (l ++ m) ↔ AllP l ∧ AllP m
  | [], m => by simp [AllP]
  | φ :: l, m => by simp only [List.cons_append, AllP, AllP_app (l := l), and_assoc]
def pickE (C : Prop) (h : Hint) (pc a b : PV) : Option Ro :=
  match (unopt C pc).2 with
  | .d (.v (.bool c)) =>
    match h with
    | .known true _ => some (.v ((unopt C pc).1 ++ ((c = true) :: (unopt True a).1)) (unopt True a).2)
    | .known false _ => some (.v ((unopt C pc).1 ++ ((c = false) :: (unopt True b).1)) (unopt True b).2)
    | _ => match (unopt (c = true) a).2, (unopt (c = false) b).2 with
      | .d (.v (.bool x)), .d (.v (.bool y)) => some (.v ((unopt C pc).1 ++ ((unopt (c = true) a).1 ++ (unopt (c = false) b).1)) (.d (.v (.bool (cond c x y)))))
      | .d (.v (.int k m)), .d (.v (.int k' n)) => if k = k' then some (.v ((unopt C pc).1 ++ ((unopt (c = true) a).1 ++ (unopt (c = false) b).1)) (.d (.v (.int k (cond c m n))))) else none
      | _, _ => none
  | _ => none
theorem pickE_ok {C : Prop} (hC : C) {h : Hint} {x y z : Operand} {r : Ro} (ho : o.op = .pick x y z) (hr : pickE C h (ρ x) (ρ y) (ρ z) = some r) : RoOk P o ρ S r := by
  have hpick : ∀ (S : Sx) (c : Bool), AllP (unopt C (ρ x)).1 → (unopt C (ρ x)).2 = .d (.v (.bool c)) → OpS P o ρ S S (if c then ρ y else ρ z) := by
    intro S c h0 hx
    have hle : PVle (ρ x) (.d (.v (.bool c))) := by have := unopt_le hC h0; rw [hx] at this; exact this
    refine .value fun g w a hI hv => ?_
    have e1 := hle g _ (hv x (by simp [ho, Op.operands]))
    have e2 := e1.d_v.1
    have hy := hv y (by simp [ho, Op.operands])
    have hz := hv z (by simp [ho, Op.operands])
    cases c with
    | true => exact ⟨a.eval y, by simp [execOp, ho, e2, asBool], by simpa using hy⟩
    | false => exact ⟨a.eval z, by simp [execOp, ho, e2, asBool], by simpa using hz⟩
  unfold pickE at hr
  split at hr
  · rename_i c hx
    split at hr
    · simp only [Option.some.injEq] at hr; subst hr
      intro hφ S
      obtain ⟨h0, rfl, h2⟩ := AllP_app.1 hφ
      exact (hpick S _ h0 hx).le (unopt_le trivial h2)
    · simp only [Option.some.injEq] at hr; subst hr
      intro hφ S
      obtain ⟨h0, rfl, h2⟩ := AllP_app.1 hφ
      exact (hpick S _ h0 hx).le (unopt_le trivial h2)
    · split at hr
      · rename_i x' y' e1 e2
        simp only [Option.some.injEq] at hr; subst hr
        intro hφ S
        obtain ⟨h0, hφ⟩ := AllP_app.1 hφ
        obtain ⟨h1, h2⟩ := AllP_app.1 hφ
        refine (hpick S c h0 hx).le ?_
        cases c with
        | true => have := unopt_le rfl h1; rw [e1] at this; exact this
        | false => have := unopt_le rfl h2; rw [e2] at this; exact this
      · rename_i k m k' n e1 e2
        split at hr
        · rename_i hk; subst hk
          simp only [Option.some.injEq] at hr; subst hr
          intro hφ S
          obtain ⟨h0, hφ⟩ := AllP_app.1 hφ
          obtain ⟨h1, h2⟩ := AllP_app.1 hφ
          refine (hpick S c h0 hx).le ?_
          cases c with
          | true => have := unopt_le rfl h1; rw [e1] at this; exact this
          | false => have := unopt_le rfl h2; rw [e2] at this; exact this
        · cases hr
      · cases hr
  · cases hr

def allocE (zs : List PV) (S : Sx) : Hint → Option Ro
  | .at p => match S.bs[p]? with
    | some none => some (.e [] (.ptr p 0) ⟨S.bs.set p (some zs), S.ts⟩)
    | _ => none
  | _ => some (.e [] (.ptr S.bs.length 0) ⟨S.bs ++ [some zs], S.ts⟩)
theorem alloc_ok (hE : EnvOk P E) {T : Nat} {e : TyE} {h : Hint} {r : Ro} (ho : o.op = .alloc T) (ht : tget E.tab T = some e) (hr : allocE e.zs S h = some r) : RoOk P o ρ S r := by
  have hk := hE.tab _ _ ht
  unfold allocE at hr
  split at hr
  · split at hr
    · rename_i hp
      simp only [Option.some.injEq] at hr; subst hr
      exact fun _ => o_alloc_at _ ho hk.ti hk.zs hp
    · cases hr
  · simp only [Option.some.injEq] at hr; subst hr
    exact fun _ => o_alloc ho hk.ti hk.zs
theorem box_ok {T : Nat} {x : Operand} {ps : List PV} {h : Hint} {r : Ro} (ho : o.op = .box T x) (hx : (ρ x).cells = some ps) (hr : allocE ps S h = some r) : RoOk P o ρ S r := by
  unfold allocE at hr
  split at hr
  · split at hr
    · rename_i hp
      simp only [Option.some.injEq] at hr; subst hr
      exact fun _ => o_box_at _ ho hx hp
    · cases hr
  · simp only [Option.some.injEq] at hr; subst hr
    exact fun _ => opS_box ho hx

def buildE (E : Env) (e : TyE) (ρ : Operand → PV) (ps : List (Nat × Operand)) : Option Ro :=
  match e.d with
  | .struct _ => match fillP ρ (fun i => e.pl.toArray[i]?) e.zs ps with
    | some cs => some (.v [] (.agg cs))
    | none => none
  | .array _ el => match tget E.tab el with
    | some e' => match fillP ρ (fun i => some (i * e'.size, e'.size)) e.zs ps with
      | some cs => some (.v [] (.agg cs))
      | none => none
    | none => none
  | _ => none
theorem build_ok (hE : EnvOk P E) {T : Nat} {e : TyE} {ps : Array (Nat × Operand)} {r : Ro} (ho : o.op = .build T ps) (ht : tget E.tab T = some e) (hr : buildE E e ρ ps.toList = some r) : RoOk P o ρ S r := by
  have hk := hE.tab _ _ ht
  unfold buildE at hr
  split at hr
  · rename_i fs hd
    split at hr
    · rename_i cs hf
      simp only [Option.some.injEq] at hr; subst hr
      exact fun _ S => o_build ho (by rw [hk.u, hd]) hk.ti hk.zs (hk.pl fs hd) hf
    · cases hr
  · rename_i n el hd
    split at hr
    · rename_i e' he'
      split at hr
      · rename_i cs hf
        simp only [Option.some.injEq] at hr; subst hr
        exact fun _ S => o_build_arr ho (by rw [hk.u, hd]) hk.ti hk.zs (hE.tab _ _ he').ti.size hf
      · cases hr
    · cases hr
  · cases hr

def bsE (E : Env) (e : TyE) (n : Nat) (ρ : Operand → PV) (ps : List (Nat × Operand)) : Option Ro :=
  match e.d with
  | .slice el => match tget E.tab el with
    | some e' => match elsOf ρ ps 0 with
      | some es => bif Nat.blt 0 e'.size && Nat.ble (n * e'.size) 16777216 && Nat.beq es.length n && es.all (fun e => e.length == e'.size) then some (.v [] (.d (.sl e'.size true es))) else none
      | none => none
    | none => none
  | _ => none
theorem bs_ok (hE : EnvOk P E) {T n : Nat} {e : TyE} {ps : Array (Nat × Operand)} {r : Ro} (ho : o.op = .buildSlice T n ps) (ht : tget E.tab T = some e) (hr : bsE E e n ρ ps.toList = some r) : RoOk P o ρ S r := by
  have hk := hE.tab _ _ ht
  unfold bsE at hr
  split at hr
  · rename_i el hd
    split at hr
    · rename_i e' he'
      split at hr
      · rename_i es hes
        cases hb : (Nat.blt 0 e'.size && Nat.ble (n * e'.size) 16777216 && Nat.beq es.length n && es.all (fun e => e.length == e'.size)) with
        | false => rw [hb] at hr; cases hr
        | true =>
          rw [hb] at hr; simp only [cond_true, Option.some.injEq] at hr; subst hr
          simp only [Bool.and_eq_true] at hb
          obtain ⟨⟨⟨h1, h2⟩, h3⟩, h4⟩ := hb
          exact fun _ S => o_buildSlice ho (by rw [hk.u, hd]) (hE.tab _ _ he').ti (by simpa using h1) (Nat.le_of_ble_eq_true h2) hes (Nat.eq_of_beq_eq_true h3) h4
      · cases hr
    · cases hr
  · cases hr
end
end Go.Pv
