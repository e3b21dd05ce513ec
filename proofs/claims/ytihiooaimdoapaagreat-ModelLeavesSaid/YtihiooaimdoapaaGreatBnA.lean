/- Operations, run: entries taken out; things made in their region. -/
import Derived.Test.YtihiooaimdoapaaGreatBmZ
set_option linter.unusedVariables false
set_option linter.unusedSimpArgs false
namespace Go.Bm
noncomputable section
open Go.RowKit
section
variable {P : Program} {E : Env} {o : Oper} {ρ : Operand → A} {h : H} {β : Type} {K : A → H → Fp → Option β} {r : β}
def mdelK (E : Env) (T : Nat) (px py : A) (h : H) (K : A → H → Fp → Option β) : Option β := match tget E.tab T with
  | some ⟨.map KT _, _, _, _, _, _, _⟩ => match tget E.tab KT with
    | some e => match px with
      | .mp (.loc q) => match h.t.get q with
        | some (.oth (.map es)) => match keyE E KT e.d py py with
          | some _ => bif keyTy E e.d && Nat.blt q 16777216 && !(lkd h (rlo q)) then findK (keyE E KT e.d py) es 0 (fun res => setT h.t q (some (.oth (.map (eraR es res)))) (fun t1 => K .junk { h with t := t1 } (.wr [rlo q]))) else none
          | none => none
        | _ => none
      | .mp (.reg q j) => mpK h q j (fun ka tk va tv es => bif ksh E KT e ka tk && keyTy E e.d then (match packK ka tk py with
        | some x => opt (mfi (eqT tk x) es 0) (putM h q j ka tk va tv es (fun h' => K .junk h' (.wr [rgn q])))
          (fun p => putM h q j ka tk va tv (mdel es p.1) (fun h' => K .junk h' (.wr [rgn q])))
        | none => none) else none)
      | _ => none
    | none => none
  | _ => none
theorem ents_del {ka : Bool} {tk : Ty} {va : Bool} {tv : Ty} (es : List (tk.T × tv.T)) (p : Option (Nat × tv.T)) :
    ents ka tk va tv (match p with | some p => mdel es p.1 | none => es) = eraR (ents ka tk va tv es) (p.map fun p => (p.1, packA va tv p.2)) := by
  cases p with
  | none => rfl
  | some p =>
    show (es.eraseIdx p.1).map _ = (es.map _).eraseIdx p.1
    generalize p.1 = n
    induction es generalizing n with
    | nil => rfl
    | cons a es ih => cases n with
      | zero => rfl
      | succ n => simp only [List.map_cons, List.eraseIdx_cons_succ, List.map_cons, ih n]
theorem mdelK_ok (hE : EnvOk P E) {T : Nat} {x y : Operand} {Ts : Array TypeId} (ho : o.op = .call { callee := .builtin .delete, args := #[x, y], argTypes := Ts }) (h0 : Ts[0]? = some T) (hr : mdelK E T (ρ x) (ρ y) h K = some r) : Out P o ρ h K r := by
  have hd : ∀ c, o.op ≠ .defer c := by rw [ho]; intro c e; cases e
  have hops : x ∈ o.op.operands := by simp [ho, Op.operands, Call.operands]
  unfold mdelK at hr
  split at hr
  · rename_i KT VT _ _ _ _ _ _ ht
    have hT := (hE.tab _ _ ht).u
    split at hr
    · rename_i e he
      split at hr
      · rename_i q hx
        split at hr
        · rename_i es hg
          split at hr
          · rename_i b hs
            obtain ⟨h1, hr⟩ := cond_some hr
            simp only [Bool.and_eq_true] at h1
            have hq := blt_lt h1.1.2
            obtain ⟨res, k1, k2⟩ := findK_ok _ _ _ hr
            have hob : (hp h).ob q = some (.oth (.map es)) := by rw [hp_loc hq]; unfold tOb; rw [hg]; rfl
            obtain ⟨_, t1, k3, k4⟩ := setT_inv k1
            exact ⟨_, _, _, k3, .of [.set q (.oth (.map (eraR es res)))] (hp_set (x := .oth (.map (eraR es res))) hq k4) rfl (fun u hu => by rcases List.mem_singleton.1 hu with rfl; exact touch_loc (o := q) hq (.head _))
              (fun S2 hA => opS_delete hE ho h0 hT he h1.1.1 hs hx ((hA q (touch_loc hq (.head _))).1.trans hob) k2) hd⟩
          · cases hr
        · cases hr
      · rename_i q j hx
        obtain ⟨ka, tk, va, tv, es, hr, hq, _, hob⟩ := mpK_ok hr
        obtain ⟨h1, hr⟩ := cond_some hr
        simp only [Bool.and_eq_true] at h1
        split at hr
        · rename_i kx hkx
          have hne : x ≠ y := fun e => by rw [← e, hx] at hkx; exact packK_mp h1.1 hkx
          have hX : okR (.reg q j) = true := by show Nat.blt q 64 = true; simpa using hq
          have pres : ∀ (g : G) (S : Hp) (w : World) (a : Act), Inv g S w → (∀ x ∈ o.op.operands, V g (ρ x) (a.eval x)) → g.at' (Ref.reg q j).id ≠ none := fun g S w a hI hv => by
            have hvx := hv x hops
            rw [hx] at hvx
            obtain ⟨b, s, hat⟩ := hvx.mpAt
            rw [hat]; intro h; cases h
          have here : ∀ S2, Agree (.wr (rs1 (.reg q j) :: [])) (hp h) S2 → ∀ {S' : Hp} {pv : A}, (S2.ob (rid q j) = some (.oth (.map (ents ka tk va tv es))) → OpS P o ρ S2 S' pv) → OpS P o ρ S2 S' pv := fun S2 hA _ _ k => OpS.at' fun g w a hI hv => by
            have hvx := hv x hops
            rw [hx] at hvx
            obtain ⟨b, s, hat⟩ := hvx.mpAt
            have ha := hA (rid q j) (touch_reg (r := q) (j := j) hq (.head _))
            exact k (hob g S2 w b s hI ha.1 ha.2 hat)
          have hxt : told ρ y (packA ka tk kx) x = .mp (.reg q j) := by rw [told_ne hne, hx]
          have conv := fun {S S' : Hp} {pv : A} => OpS.conv (P := P) (o := o) (ρ := ρ) (ρ' := told ρ y (packA ka tk kx)) (S := S) (S' := S') (pv := pv) (fun x _ g v hv => told_conv (fun g v hv => packK_ok hkx hv) x g v hv)
          have hs : keyE E KT e.d (told ρ y (packA ka tk kx) y) (told ρ y (packA ka tk kx) y) = some (eqT tk kx kx) := by rw [told_self]; exact ksh_eq he h1.1 kx kx
          have hf := findA_typed (va := va) (tv := tv) he h1.1 kx es 0
          have main : ∀ p, mfi (eqT tk kx) es 0 = p → putM h q j ka tk va tv (match p with | some p => mdel es p.1 | none => es) (fun h' => K .junk h' (.wr [rgn q])) = some r → Out P o ρ h K r := fun p hp' hr => by
            obtain ⟨h', k1, k2⟩ := putM_ok hq hr
            refine ⟨_, _, _, k1, .put hd hX k2 pres (fun S2 hA => here S2 hA fun hob2 => ?_)⟩
            rw [hp'] at hf
            rw [ents_del]
            exact conv (opS_delete (X := .reg q j) hE ho h0 hT he h1.2 hs hxt hob2 (by rw [told_self]; exact hf))
          rcases opt_inv hr with ⟨e1, hr⟩ | ⟨p, e1, hr⟩
          · exact main none e1 hr
          · exact main (some p) e1 hr
        · cases hr
      · cases hr
    · cases hr
  · cases hr
/-- A type's region, where all of its things are made. -/
def homeOf : List (Nat × Nat) → Nat → Option Nat
  | [], _ => none
  | (t, r) :: l, T => bif Nat.beq t T then some r else homeOf l T
def pushK (h : H) (q : Nat) (t : Ty) (x : t.T) (k : Nat → H → Option β) : Option β := bif lkd h (rgn q) then none else match rfind h.rg q with
  | some ⟨_, .box t', c⟩ => match castT t t' x with
    | some x' => bif Nat.blt q 64 then k (len (α := t'.T) c) { h with rg := rput h.rg q (.box t') (cat (α := t'.T) c [x']) } else none
    | none => none
  | _ => none
theorem pushK_ok {q : Nat} {t : Ty} {x : t.T} {k : Nat → H → Option β} (hr : pushK h q t x k = some r) : ∃ h' j, k j h' = some r ∧ q < 64 ∧ (hp h).fr (rid q j) ∧ hp h' = app [.new (rid q j) (.cells (encA t x))] (hp h) := by
  obtain ⟨_, hr⟩ := bif_none hr
  split at hr
  · rename_i rr t' c hf
    split at hr
    · rename_i x' hx
      obtain ⟨e, hx⟩ := castT_eq hx
      subst e
      obtain rfl : x = x' := hx
      obtain ⟨h1, hr⟩ := cond_some hr
      have h3 : q < 64 := blt_lt h1
      refine ⟨_, _, hr, h3, ?_, ?_⟩
      · rw [hp_reg.2, regFr_eq h3 hf]; exact Nat.le_refl _
      · exact hp_push (k := .box t) (c := cat (α := t.T) c [x]) (n := List.length (α := t.T) c) h3 hf rfl (len_cat (α := t.T) c _) (fun j => regOb_catB (c := c) (x := x) j)
    · cases hr
  · cases hr
theorem V.ptr_tpR {g : G} {q j : Nat} {v : Value} (hv : V g (.ptr (rid q j) 0) v) : V g (.tp (.reg q j) []) v := by
  cases hv with
  | ptr _ _ b s hb => exact .tp (.reg q j) [] b s hb trivial
def alhK (E : Env) (hm : List (Nat × Nat)) (T : Nat) (h : H) (K : A → H → Fp → Option β) : Option β := match homeOf hm T with
  | some q => match tget E.tab T with
    | some e => match e.t with
      | some t => pushK h q t t.dflt (fun j h' => K (.tp (.reg q j) []) h' (.wr [rgn q]))
      | none => none
    | none => none
  | none => alcK E T h K
theorem alhK_ok (hE : EnvOk P E) {hm : List (Nat × Nat)} {T : Nat} (ho : o.op = .alloc T) (hr : alhK E hm T h K = some r) : Out P o ρ h K r := by
  have hd : ∀ c, o.op ≠ .defer c := by rw [ho]; intro c e; cases e
  unfold alhK at hr
  split at hr
  · rename_i q _
    split at hr
    · rename_i e ht
      have hk := hE.tab _ _ ht
      obtain ⟨i, t1, t2, t3, t4, t5, t6⟩ := hk.ti
      split at hr
      · rename_i t hty
        obtain ⟨h', j, k1, hq, hf, hh⟩ := pushK_ok hr
        exact ⟨_, _, _, k1, Step.weak (.of _ hh rfl (fun u hu => by rcases List.mem_singleton.1 hu with rfl; exact touch_reg (r := q) (j := j) hq (.head _)) (fun S2 hA => opS_allocz ho t1 t2 (hk.tz t hty) ((hA _ (touch_reg (r := q) (j := j) hq (.head _))).2.2 hf)) hd) (fun g v hv => hv.ptr_tpR)⟩
      · cases hr
    · cases hr
  · exact alcK_ok hE ho hr
def bxhK (E : Env) (hm : List (Nat × Nat)) (T : Nat) (px : A) (h : H) (K : A → H → Fp → Option β) : Option β := match homeOf hm T with
  | some q => match tget E.tab T, px.cells with
    | some e, some ps => match e.t with
      | some t => match fixC 64 t ps h with
        | some (ps', h1, T1) => match toC t ps' with
          | some x => pushK h1 q t x (fun j h' => K (.tp (.reg q j) []) h' (.wr (rgn q :: T1)))
          | none => none
        | none => none
      | none => none
    | _, _ => none
  | none => boxOK E T px h K
/-- What is new in a region comes behind what was told otherwise. -/
theorem Step.newR {T1 : List Nat} {h1 h2 : H} {us : List Up} {x : Ob} {pv : A} {q j : Nat} (c1 : hp h1 = app us (hp h)) (c2 : ∀ u ∈ us, touch (.wr T1) u.id = true) (hq : q < 64) (hf : (hp h1).fr (rid q j)) (hh : hp h2 = app [.new (rid q j) x] (hp h1)) (hd : ∀ c, o.op ≠ .defer c)
    (k : ∀ S2 g w a, Agree (.wr T1) (hp h) S2 → (app us S2).fr (rid q j) → Inv g S2 w → (∀ x ∈ o.op.operands, V g (ρ x) (a.eval x)) → OpAt P o S2 ((app us S2).new (rid q j) x) pv g w a) : Step P o ρ h h2 (.wr (rgn q :: T1)) pv :=
  .of (us ++ [.new (rid q j) x]) (by rw [app_app, ← c1, hh]) rfl (fun u hu => by
    rcases List.mem_append.1 hu with hu | hu
    · exact touch_mono (fun i hi => .tail _ hi) (c2 u hu)
    · rcases List.mem_singleton.1 hu with rfl; exact touch_reg (r := q) (j := j) hq (.head _)) (fun S2 hA g w a next Q hI hv K' => by
    have hfr : (app us S2).fr (rid q j) := by
      have := Agree.app us hA
      rw [← c1] at this
      exact (this (rid q j) (touch_reg hq (.head _))).2.2 hf
    have e := app_app us [.new (rid q j) x] S2
    rw [e] at K'
    exact k S2 g w a (hA.mono fun i hi => .tail _ hi) hfr hI hv next Q K') hd
theorem boxw_at {S : Hp} {T : TypeId} {x : Operand} {qs : List A} {q : Nat} {g : G} {w : World} {a : Act} (ho : o.op = .box T x) (hI : Inv g S w) (e2 : Vs g qs (a.eval x).cells.toList) (hf : S.fr q) : OpAt P o S (S.new q (.cells qs)) (.ptr q 0) g w a := by
  intro next Q K
  obtain ⟨h1, h2⟩ := hI.allocs hf (cs := qs) (vs := (a.eval x).cells) T (by have := e2.1; simp at this ⊢; omega) e2.all
  unfold Oper.wp
  simp only [execOp, ho, Instr.box, Sem.run_bind, Result.andThen_ok, Sem.run_pure, newVar, newRow, run_newObj]
  exact K _ _ _ (.ptr _ _ w.heap.size _ gput_at) h1 h2
theorem bxhK_ok {hm : List (Nat × Nat)} {T : Nat} {x : Operand} (ho : o.op = .box T x) (hr : bxhK E hm T (ρ x) h K = some r) : Out P o ρ h K r := by
  have hd : ∀ c, o.op ≠ .defer c := by rw [ho]; intro c e; cases e
  unfold bxhK at hr
  split at hr
  · rename_i q _
    split at hr
    · rename_i e ps ht hps
      split at hr
      · rename_i t hty
        split at hr
        · rename_i ps' h1 T1 hf
          split at hr
          · rename_i y hy
            obtain ⟨us, c1, c2, c3⟩ := fixC_ok _ _ _ _ _ _ _ hf
            obtain ⟨h', j, k1, hq, hfr, hh⟩ := pushK_ok hr
            refine ⟨_, _, _, k1, Step.weak (pv := .ptr (rid q j) 0) (.newR c1 c2 hq hfr hh hd (fun S2 g w a hA hf hI hv => ?_)) (fun g v hv => ?_)⟩
            · obtain ⟨g1, q1, q2, q3⟩ := c3 g S2 w _ hI hA ((hv x (by simp [ho, Op.operands])).cells hps)
              refine OpAt.pre ?_ q2
              exact boxw_at ho q1 ((toC_ok t ps' y hy).2 _ q3) hf
            · cases hv with
              | ptr _ _ b s h0 => exact .tp (.reg q j) [] b s h0 trivial
          · cases hr
        · cases hr
      · cases hr
    · cases hr
  · exact boxOK_ok ho hr
end
end
end Go.Bm
