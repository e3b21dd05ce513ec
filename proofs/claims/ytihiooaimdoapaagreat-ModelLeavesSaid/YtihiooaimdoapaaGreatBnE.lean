/- Functions, run in their caller's place. -/
import Derived.Test.YtihiooaimdoapaaGreatBnD
set_option linter.unusedVariables false
set_option linter.unusedSimpArgs false
namespace Go.Bm
noncomputable section
open Go.RowKit
abbrev DrT := (β : Type) → DrF β
def argsT : Nat → List A → Option (Tr A)
  | _, [] => some .nil
  | i, p :: ps => match argsT (i + 1) ps with
    | some F => fcA p (fun p => setT F i (some p) some)
    | none => none
/-- What is handed back; the places that are looked at for that. -/
def resK {β : Type} (E : Env) (n : Nat) (F : Tr A) (h : H) : List ResultVar → (List A → List Nat → Option β) → Option β
  | [], k => k [] []
  | .tmp i :: r, k => bif Nat.blt i n then resK E n F h r (fun ps l => k (slotA F.get i :: ps) l) else none
  | .cell a T :: r, k => bif Nat.blt a n then ldK E T (slotA F.get a) h (fun v _ T1 => resK E n F h r (fun ps l => k (v :: ps) (T1.rs ++ l))) else none
/-- Blocks that were opened are shut. -/
def dropK {β : Type} : Tr MOb → List Nat → (Tr MOb → Option β) → Option β
  | t, [], k => k t
  | t, d :: ds, k => match t.get d with
    | some (.oth .dfr) => bif Nat.blt d 16777216 then setT t d none (fun t => dropK t ds k) else none
    | _ => none
def isEnd : Exit → Bool
  | .normal => true
  | .ret => true
  | _ => false
abbrev FT := Nat → Option (Func × XCode)
/-- What is known of a function. -/
structure FxOk (P : Program) (f : Nat) (fn : Func) (x : XCode) : Prop where
  at' : P.funcs[f]? = some fn
  body : fn.body = some x.code
  name : (fn.name == "runtime.NumGoroutine") = false
def FTOk (P : Program) (fns : FT) : Prop := ∀ f fn x, fns f = some (fn, x) → FxOk P f fn x
def fnK (E : Env) (fns : FT) (dr : Cx → Nat → DrT) (cx : Cx) (β : Type) (f : FuncId) (as : List A) (h : H) (K : A → H → Fp → Option β) : Option β := match fns f with
  | some (fn, x) => match argsT 0 as with
    | some F => bif Nat.ble as.length fn.ntmps then exC E cx false fn.ntmps (dr cx fn.ntmps β) x F h [] .no (fun e F' h' ds U => bif isEnd e then dropK h'.t ds (fun t' => resK E fn.ntmps F' { h' with t := t' } fn.results.toList (fun ps l => K (retX ps) { h' with t := t' } ((U.cat (.wr (ds.map rlo))).cat (.rd l)))) else none) else none
    | none => none
  | none => none
/-- A round, run. -/
def rndK (E : Env) (dr : Cx → Nat → DrT) (cx : Cx) (β : Type) (y : A) (as : List A) (h : H) (K : A → H → Fp → Option β) : Option β := match y with
  | .yld q n F ps _ asg bd => match h.t.get q with
    | some (.oth (.loop .ready _)) => bif Nat.blt q 16777216 then setAll F ps as (fun F1 => exC E cx true n (dr cx n β) asg F1 h [] .no (fun e1 Fa ha ds1 T1 => match e1 with
      | .normal => match ha.t.get q with
        | some (.oth (.loop .ready pe)) => setT ha.t q (some (.oth (.loop .busy pe))) (fun t2 => exC E cx true n (dr cx n β) bd Fa { ha with t := t2 } ds1 .no (fun e2 _ hb _ T2 => match hb.t.get q, rndE e2 with
          | some (.oth (.loop _ _)), some jump => setT hb.t q (some (.oth (.loop (rndS jump) jump))) (fun t3 => K (.v (.bool jump.isNone)) { hb with t := t3 } ((T1.cat (.wr [rlo q])).cat (T2.cat (.wr [rlo q]))))
          | _, _ => none))
        | _ => none
      | _ => none)) else none
    | _ => none
  | _ => none
def stepCx (E : Env) (fns : FT) (dr : Cx → Nat → DrT) (hm : List (Nat × Nat)) (cx : Cx) : Cx := ⟨fnK E fns dr cx, hm, rndK E dr cx⟩
def zeroCx (hm : List (Nat × Nat)) : Cx := ⟨fun _ _ _ _ _ => none, hm, fun _ _ _ _ _ => none⟩
def runK (E : Env) (fns : FT) (dr : Cx → Nat → DrT) (hm : List (Nat × Nat)) : Nat → Cx
  | 0 => zeroCx hm
  | k + 1 => stepCx E fns dr hm (runK E fns dr hm k)
section
variable {P : Program} {E : Env} {n : Nat}
theorem argsT_ok : ∀ (as : List A) (i : Nat) (F : Tr A), argsT i as = some F → ∀ j, slotA F.get j = if i ≤ j then as.getD (j - i) .un else .un
  | [], i, F, h, j => by
    cases h
    simp [slotA, Tr.get_nil]
  | p :: ps, i, F, h, j => by
    simp only [argsT] at h
    split at h
    · rename_i F1 h1
      have ih := argsT_ok ps (i + 1) F1 h1 j
      rw [fcA_eq] at h
      obtain ⟨_, F2, hF, hg⟩ := setT_inv h
      cases hF
      have e : slotA F.get j = if j = i then p else slotA F1.get j := by
        simp only [slotA, hg]
        by_cases hj : j = i
        · rw [if_pos hj, if_pos hj]
        · rw [if_neg hj, if_neg hj]
      rw [e, ih]
      by_cases hj : j = i
      · subst hj; simp
      · rw [if_neg hj]
        by_cases hk : i ≤ j
        · rw [if_pos hk, if_pos (by omega), show j - i = (j - (i + 1)) + 1 by omega, List.getD_cons_succ]
        · rw [if_neg hk, if_neg (by omega)]
    · cases h
theorem load_run {P : Program} {T : Nat} {u v : Value} {ad : Addr} {w w' : World} {a : Act} {o : Oper} (ho : o.op = .load T (.const u)) (hu : u = .pointer (some ad)) (h : (execOp a.eval o).run P w = .ok (.value v) w') : (loadVar T ad).run P w = .ok v w' := by
  simp only [execOp, ho, Act.eval, hu, Instr.loadAt, Instr.sureAddr, pure_bind] at h
  simp only [Sem.run_bind] at h
  generalize (loadVar T ad).run P w = res at h
  cases res with
  | ok x w1 =>
    simp only [Result.andThen_ok, Sem.run_pure, Result.ok.injEq, Next.value.injEq] at h
    obtain ⟨rfl, rfl⟩ := h
    rfl
  | halt x w1 => cases h
theorem ldK_ptr {β : Type} {E : Env} {T : Nat} {px : A} {h : H} {K : A → H → Fp → Option β} {r : β} (hr : ldK E T px h K = some r) {g : G} {u : Value} (hv : V g px u) : ∃ ad, u = .pointer (some ad) := by
  unfold ldK at hr
  split at hr
  · split at hr
    · cases hv; exact ⟨_, rfl⟩
    · cases hv; exact ⟨_, rfl⟩
    · cases hv; exact ⟨_, rfl⟩
    · cases hr
  · cases hr
theorem resK_ok {β : Type} {r : β} (hE : EnvOk P E) {F : Tr A} {h : H} : ∀ (rvs : List ResultVar) (k : List A → List Nat → Option β), resK E n F h rvs k = some r →
    ∃ ps l, k ps l = some r ∧ ∀ S2, Agree (.rd l) (hp h) S2 → ∀ (g : G) (w : World) (tmps : Array Value), Inv g S2 w → (∀ i, i < n → V g (slotA F.get i) (tmps.getD i undef)) →
      ∃ vs : List Value, (rvs.mapM (fun rv => resOf rv tmps)).run P w = .ok vs w ∧ ps.length = vs.length ∧ ∀ (i : Nat) (p : A) (v : Value), ps[i]? = some p → vs[i]? = some v → V g p v
  | [], k, hk => ⟨[], [], hk, fun S2 _ g w tmps _ _ => ⟨[], rfl, rfl, by simp⟩⟩
  | .tmp i :: rvs, k, hk => by
    simp only [resK] at hk
    obtain ⟨hi, hk⟩ := cond_some hk
    obtain ⟨ps, l, k1, k2⟩ := resK_ok hE rvs _ hk
    refine ⟨_, l, k1, fun S2 hA g w tmps hI hv => ?_⟩
    obtain ⟨vs, q1, q2, q3⟩ := k2 S2 hA g w tmps hI hv
    refine ⟨tmps.getD i undef :: vs, ?_, by simp [q2], fun k q x e1 e2 => ?_⟩
    · have : (resOf (.tmp i) tmps).run P w = .ok (tmps.getD i undef) w := rfl
      rw [List.mapM_cons]
      simp only [Sem.run_bind, this, Result.andThen_ok]
      rw [q1]
      simp only [Result.andThen_ok, Sem.run_pure]
    · cases k with
      | zero =>
        simp only [List.getElem?_cons_zero, Option.some.injEq] at e1 e2
        subst e1 e2
        exact hv i (blt_lt hi)
      | succ k => exact q3 k q x (by simpa using e1) (by simpa using e2)
  | .cell a T :: rvs, k, hk => by
    simp only [resK] at hk
    obtain ⟨hi, hk⟩ := cond_some hk
    obtain ⟨v, l1, k0, kv⟩ := ldV_ok hE hk
    obtain ⟨ps, l, k1, k2⟩ := resK_ok hE rvs _ k0
    refine ⟨_, _, k1, fun S2 hA g w tmps hI hv => ?_⟩
    have hA : Agree (.rd (l1 ++ l)) (hp h) S2 := hA
    obtain ⟨vs, q1, q2, q3⟩ := k2 S2 (hA.mono fun i hi => List.mem_append_right _ hi) g w tmps hI hv
    have hva := hv a (blt_lt hi)
    obtain ⟨ad, had⟩ := ldK_ptr hk hva
    obtain ⟨x, u1, u2⟩ := kv S2 (hA.mono fun i hi => List.mem_append_left _ hi) { dst := none, op := .load T (.const (tmps.getD a undef)), type := 0, pos := "", after := #[], guard := none } (fun _ => slotA F.get a) (.const (tmps.getD a undef)) rfl rfl g w { tmps := #[], defers := [] } hI (fun y hy => by
      simp only [Op.operands, Array.mem_singleton] at hy
      subst hy; exact hva)
    have hrun : (resOf (.cell a T) tmps).run P w = .ok x w := by
      have := load_run rfl had u1
      show (do loadVar T (← asAddr (tmps.getD a undef)) : Sem Value).run P w = _
      rw [had]
      exact this
    refine ⟨x :: vs, ?_, by simp [q2], fun k q y e1 e2 => ?_⟩
    · rw [List.mapM_cons]
      simp only [Sem.run_bind, hrun, Result.andThen_ok]
      rw [q1]
      simp only [Result.andThen_ok, Sem.run_pure]
    · cases k with
      | zero =>
        simp only [List.getElem?_cons_zero, Option.some.injEq] at e1 e2
        subst e1 e2
        exact u2
      | succ k => exact q3 k q y (by simpa using e1) (by simpa using e2)
/-- A block is shut. -/
theorem Inv.drop {g : G} {S : Hp} {w : World} (h : Inv g S w) {d b : Nat} {s : Nat × Nat} (ho : S.ob d = some (.oth .dfr)) (hg : g.at' d = some (some b, s)) :
    w.heap[b]? = some (.deferred (some [])) ∧ Inv g (S.del d) (w.putObj b (.deferred none)) ∧ Ext S g w (S.del d) g (w.putObj b (.deferred none)) := by
  obtain ⟨b1, s1, ob, k1, k2, k3⟩ := h.oth d _ ho
  rw [hg] at k1
  obtain ⟨rfl, rfl⟩ : b = b1 ∧ s = s1 := by simpa using k1
  have k3 : ob = .deferred (some []) := k3
  subst k3
  have hsub : ∀ {i x}, (S.del d).ob i = some x → i ≠ d ∧ S.ob i = some x := fun {i x} e => by
    have e : (if i = d then none else S.ob i) = some x := e
    split at e
    · cases e
    · exact ⟨by assumption, e⟩
  have hoth : ∀ k, k ≠ b → (w.putObj b (.deferred none)).heap[k]? = w.heap[k]? := fun k hne => World.putObj_heap_other hne
  refine ⟨k2, ⟨fun i cs e => ?_, fun i x e => ?_, fun i e => h.fresh i e, fun i b' s' e => by rw [World.putObj_size]; exact h.lt i b' s' e, fun i j x y b1 s1 s2 e1 e2 => h.inj i j _ _ b1 s1 s2 (hsub e1).2 (hsub e2).2, fun b' i x e => ?_, fun i b' s' j x e k => h.memd i b' s' j _ (hsub e).2 k, fun b' l e => ?_⟩,
    ⟨.refl g, rfl, rfl, rfl, by rw [World.putObj_size]; exact Nat.le_refl _, fun k _ hn => hoth k (fun hh => hn ⟨d, s, _, ho, by rw [hh]; exact hg⟩), fun k ⟨i, s', x, e1, e2⟩ => .inl ⟨i, s', x, (hsub e1).2, e2⟩, fun _ _ e => .inl e, fun _ e => e, fun _ _ _ e => .inl e, fun _ _ e => .inl e⟩⟩
  · obtain ⟨hne, e⟩ := hsub e
    refine (h.cells i cs e).imp id fun ⟨b1, t, q1, cur, ty, q2, q3⟩ => ⟨b1, t, q1, cur, ty, ?_, q3⟩
    rw [hoth b1 (fun hb => by subst hb; rw [k2] at q2; cases q2)]; exact q2
  · obtain ⟨hne, e⟩ := hsub e
    obtain ⟨b1, s1, o1, q1, q2, q3⟩ := h.oth i x e
    exact ⟨b1, s1, o1, q1, by rw [hoth b1 (fun hb => by subst hb; exact hne (h.inj i d _ _ b1 s1 s e ho q1 hg))]; exact q2, q3⟩
  · obtain ⟨cur, ty, fz, q1, q2⟩ := h.mem b' i x e
    exact ⟨cur, ty, fz, by rw [hoth b' (fun hb => by subst hb; rw [k2] at q1; cases q1)]; exact q1, q2⟩
  · obtain ⟨r, q1, q2⟩ := h.lp b' l e
    exact ⟨r, by rw [hoth b' (fun hb => by subst hb; rw [k2] at q1; cases q1)]; exact q1, q2⟩
theorem dropK_ok {β : Type} {r : β} {h : H} : ∀ (ds : List Nat) (t : Tr MOb) (k : Tr MOb → Option β), dropK t ds k = some r → ∃ t', k t' = some r ∧ Fr2 { h with t := t } { h with t := t' } (.wr (ds.map rlo)) ∧
    ∀ (fn : Func) (tmps : Array Value) (Rr : Ending → World → Prop) S2, Agree (.wr (ds.map rlo)) (hp { h with t := t }) S2 → ∀ (g : G) (w : World) (l : List Deferred), Inv g S2 w → DefOk g ds l →
      (∀ w', Inv g (ovr (.wr (ds.map rlo)) (hp { h with t := t' }) S2) w' → Ext S2 g w (ovr (.wr (ds.map rlo)) (hp { h with t := t' }) S2) g w' → ∃ v, (results fn tmps).run P w' = .ok v w' ∧ Rr (.returned v) w') → LeavesInM (FR none) 0 P fn tmps Rr l .returning w
  | [], t, k, hk => ⟨t, hk, ⟨fun _ _ => ⟨rfl, Iff.rfl⟩, fun _ _ => ⟨rfl, Iff.rfl⟩⟩, fun fn tmps Rr S2 hA g w l hI hd K => by
    obtain rfl : l = [] := List.length_eq_zero_iff.1 (by have := hd.1; simpa using this.symm)
    have e : ovr (.wr (List.map rlo [])) (hp { h with t := t }) S2 = S2 := ovr_self hA
    rw [e] at K
    exact K w hI (.refl _ g w)⟩
  | d :: ds, t, k, hk => by
    have hk : (match t.get d with | some (.oth .dfr) => _ | _ => none) = some r := hk
    split at hk
    · rename_i hob
      obtain ⟨hd0, hk⟩ := cond_some hk
      have hd0 := blt_lt hd0
      obtain ⟨_, t1, k1, ht1⟩ := setT_inv hk
      obtain ⟨t', q1, q2, q3⟩ := dropK_ok (h := h) ds t1 k k1
      obtain ⟨f1, v1⟩ := del_ovr (h := { h with t := t }) hd0 ht1
      have ec : (Fp.wr [rlo d]).cat (.wr (ds.map rlo)) = .wr ((d :: ds).map rlo) := rfl
      have f1 : Fr2 { h with t := t } { h with t := t1 } (.wr [rlo d]) := f1
      refine ⟨t', q1, ec ▸ f1.trans q2, fun fn tmps Rr S2 hA g w l hI hd K => ?_⟩
      rw [← ec] at hA K
      rw [← ovr_cat q2] at K
      have A1 := hA.left
      have A2 := Agree.right f1 hA
      have v1 := v1 S2 A1
      have v1 : ovr (.wr [rlo d]) (hp { h with t := t1 }) S2 = S2.del d := v1
      rw [v1] at A2 K
      cases l with
      | nil => have := hd.1; simp at this
      | cons el l =>
        obtain ⟨b, s, hg, rfl⟩ := hd.2 0 d el rfl rfl
        obtain ⟨u1, u2, u3⟩ := hI.drop (ag_ob (x := .oth .dfr) hd0 hob A1 (.head _)) hg
        refine ⟨by simp, .inl ⟨b, _, rfl, run_takeDeferred u1, ?_⟩⟩
        exact q3 fn tmps Rr _ A2 g _ l u2 ⟨by have := hd.1; simpa using this, fun i d el e1 e2 => hd.2 (i + 1) d el (by simpa using e1) (by simpa using e2)⟩ (fun w' z1 z2 => K w' z1 (u3.trans z2))
    · cases hk
theorem fnK_ok (hE : EnvOk P E) {fns : FT} (hF : FTOk P fns) {dr : Cx → Nat → DrT} {cx : Cx} (hx : CxOk P cx) (hdr : ∀ n β, DrOk P n (dr cx n β)) {β : Type} {f : FuncId} {as : List A} {h : H} {K : A → H → Fp → Option β} {r : β} (hr : fnK E fns dr cx β f as h K = some r) :
    ∃ pv h' T, K pv h' T = some r ∧ CStep P f as h h' T pv := by
  unfold fnK at hr
  split at hr
  · rename_i fn x hf
    have hfx := hF f fn x hf
    split at hr
    · rename_i F hFa
      obtain ⟨hn, hr⟩ := cond_some hr
      have hn := Nat.le_of_ble_eq_true hn
      obtain ⟨e, F', h', ds', T0, k1, _, k2, k3⟩ := exC_ok hE hx (hdr fn.ntmps β) x F h [] .no _ hr
      rw [Fp.no_cat] at k1
      obtain ⟨k4, k1⟩ := cond_some k1
      obtain ⟨t', k5, k6, k7⟩ := dropK_ok (P := P) (h := h') ds' h'.t _ k1
      obtain ⟨ps, l, k8, k9⟩ := resK_ok (P := P) hE _ _ k5
      have f3 : Fr2 { h' with t := t' } { h' with t := t' } (.rd l) := ⟨fun _ _ => ⟨rfl, Iff.rfl⟩, fun _ _ => ⟨rfl, Iff.rfl⟩⟩
      have f12 : Fr2 h { h' with t := t' } (T0.cat (.wr (ds'.map rlo))) := k2.trans k6
      refine ⟨_, _, _, k8, (f12.trans f3).out, (f12.trans f3).rd, ⟨fn, hfx.at', hfx.name, by rw [hfx.body]; rfl⟩, fun S2 hA g w vs hI hl hv => ?_⟩
      have A1 := hA.left.left
      have A2 : Agree (.wr (ds'.map rlo)) (hp h') _ := Agree.right k2 hA.left
      have A3 := Agree.right f12 hA
      rw [← ovr_cat f3, ovr_self A3, ← ovr_cat k6]
      rw [← ovr_cat k6] at A3
      have d := k3 none (fun _ => rfl) S2 g w S2 A1 (fun e1 st => e1 = e ∧ st = stF fn.ntmps F' ds' (ovr T0 (hp h') S2)) ⟨rfl, rfl⟩
      refine (callsIn_wide (n := 0)).1 (callsIn_of_wp_marks (F := FR none) hfx.at' hfx.body trivial ?_)
      have hsz : (vs.toArray ++ Array.replicate (fn.ntmps - vs.toArray.size) undef).size = fn.ntmps := by simp; omega
      have hR0 : R S2 g w (stF fn.ntmps F [] S2) { tmps := vs.toArray ++ Array.replicate (fn.ntmps - vs.toArray.size) undef, defers := [] } w := by
        refine ⟨g, hI, .refl _ g w, ⟨rfl, fun i d el e1 => by simp [stF] at e1⟩, hsz, fun i hi => ?_⟩
        show V g (slotA F.get i) ((vs.toArray ++ Array.replicate (fn.ntmps - vs.toArray.size) undef).getD i undef)
        rw [argsT_ok as 0 F hFa i, if_pos (Nat.zero_le i), Nat.sub_zero, Array.getD_eq_getD_getElem?]
        by_cases hia : i < as.length
        · rw [Array.getElem?_append_left (by simp; omega)]
          have h1 : as[i]? = some as[i] := List.getElem?_eq_getElem hia
          have h2 : vs[i]? = some (vs[i]'(by omega)) := List.getElem?_eq_getElem (by omega)
          have := hv i _ _ h1 h2
          simpa [List.getD, h1, h2] using this
        · rw [Array.getElem?_append_right (by simp; omega)]
          have h1 : as[i]? = none := List.getElem?_eq_none (by omega)
          have h2 : (Array.replicate (fn.ntmps - vs.toArray.size) undef)[i - vs.toArray.size]?.getD undef = undef := by
            cases hx : (Array.replicate (fn.ntmps - vs.toArray.size) undef)[i - vs.toArray.size]? with
            | none => rfl
            | some x =>
              obtain ⟨hlt, hx'⟩ := Array.getElem?_eq_some_iff.1 hx
              rw [← hx']; simp
          rw [h2]
          simp only [List.getD, h1, Option.getD_none]
          exact .un
      refine wpIn_mono (d _ w hR0) ?_
      rintro e1 a w' ⟨st, hR, rfl, rfl⟩
      obtain ⟨g1, i1, x1, d1, s1, v1⟩ := hR
      have key : LeavesInM (FR none) 0 P fn a.tmps (fun e w2 => ∃ v g', e = .returned v ∧ V g' (retX ps) v ∧ Inv g' (ovr (.wr (ds'.map rlo)) (hp { h' with t := t' }) (ovr T0 (hp h') S2)) w2 ∧ Ext S2 g w (ovr (.wr (ds'.map rlo)) (hp { h' with t := t' }) (ovr T0 (hp h') S2)) g' w2) a.defers .returning w' := by
        refine k7 fn a.tmps _ _ A2 g1 w' a.defers i1 d1 (fun w2 i2 x2 => ?_)
        obtain ⟨us, u1, u2, u3⟩ := k9 _ A3 g1 w2 a.tmps i2 v1
        have hrun := results_run (P := P) (fn := fn) u1
        refine ⟨_, hrun, _, g1, rfl, ?_, i2, x1.trans x2⟩
        match ps, us, u2, u3 with
        | [p], [u], _, u3 => exact u3 0 p u rfl rfl
        | [], [], _, _ => exact .tup [] #[] rfl (by simp)
        | p :: q :: ps, u :: v :: us, u2, u3 =>
          rw [dif_neg (by simp)]
          exact .tup _ _ (by simpa using u2) (fun i c x e1 e2 => u3 i c x e1 (by simpa using e2))
      cases e1 with
      | normal => exact key
      | ret => exact key
      | _ => exact absurd k4 (by simp [isEnd])
    · cases hr
  · cases hr
/-- Rounds. -/
theorem rndK_ok (hE : EnvOk P E) {dr : Cx → Nat → DrT} {cx : Cx} (hx : CxOk P cx) (hdr : ∀ n β, DrOk P n (dr cx n β)) {β : Type} {y : A} {as : List A} {h : H} {K : A → H → Fp → Option β} {r : β} (hr : rndK E dr cx β y as h K = some r) :
    ∃ pv h' T, K pv h' T = some r ∧ YStep P y as h h' T pv := by
  unfold rndK at hr
  split at hr
  · rename_i q n F ps j asg bd
    split at hr
    · rename_i pe0 hq0
      obtain ⟨hq, hr⟩ := cond_some hr
      have hq := blt_lt hq
      obtain ⟨F1, hr, hlen, hset⟩ := setAll_ok _ _ _ _ hr
      obtain ⟨e1, Fa, ha, ds1, T1, hr, _, f1, d1⟩ := exC_ok hE hx (hdr n β) asg F1 h [] .no _ hr
      rw [Fp.no_cat] at hr
      split at hr
      · split at hr
        · rename_i pe hqa
          obtain ⟨_, t2, hr, ht2⟩ := setT_inv hr
          obtain ⟨e2, Fb, hb, ds2, T2, hr, _, f3, d2⟩ := exC_ok hE hx (hdr n β) bd Fa _ ds1 .no _ hr
          rw [Fp.no_cat] at hr
          split at hr
          · rename_i st3 pe3 jump hqb hj
            obtain ⟨_, t3, hr, ht3⟩ := setT_inv hr
            obtain ⟨f2, v2⟩ := set_ovr (h := ha) hq ht2
            obtain ⟨f4, v4⟩ := set_ovr (h := hb) hq ht3
            have f12 := f1.trans f2
            have f34 := f3.trans f4
            have ft := f12.trans f34
            refine ⟨_, _, _, hr, ft.out, ft.rd, fun S2 hA g w u vs hI hu hl hv => ?_⟩
            have hA12 := hA.left
            have hA34 := Agree.right f12 hA
            rw [← ovr_cat f34, ← ovr_cat f4]
            rw [← ovr_cat f2] at hA34 ⊢
            have A1 := hA12.left
            have A2 := Agree.right f1 hA12
            have A3 := hA34.left
            have A4 := Agree.right f3 hA34
            have hob2 := ag_ob (x := .oth (.loop .ready pe)) hq hqa A2 (.head _)
            have hob4 := ag_ob (x := .oth (.loop st3 pe3)) hq hqb A4 (.head _)
            have hob0 : S2.ob q = some (.oth (.loop .ready pe0)) ∨ True := .inr trivial
            rw [v4 _ A4]
            rw [v2 _ A2] at A3 A4 hob4 ⊢
            cases hu with
            | yld _ _ _ _ _ _ _ b s lp h0 hlp h1 h2 h3 h4 h5 =>
            obtain ⟨rr, r1, r2⟩ := hI.lp b lp hlp
            subst r2
            refine ⟨b, rr, rfl, r1, ?_, ?_⟩
            · rw [← hl, hlen, ← h1]; simp [lpOf]
            have efold : (rr.params.zip vs.toArray).foldl (fun tmps (t, a) => tmps.setIfInBounds t a) rr.tmps = (ps.zip vs).foldl (fun tmps x => tmps.setIfInBounds x.1 x.2) rr.tmps := by
              rw [← Array.foldl_toList, Array.toList_zip, ← h1]; rfl
            rw [efold]
            obtain ⟨z1, z2⟩ := hset g n vs rr.tmps hl hv h4 h5
            generalize (ps.zip vs).foldl (fun tmps x => tmps.setIfInBounds x.1 x.2) rr.tmps = T at z1 z2
            have h2 : rr.assign = asg.code := h2
            have h3 : rr.body = bd.code := h3
            rw [h2, h3]
            refine roundIn_of_wpIn trivial ?_
            show asg.code.wpIn (FR (some b)) 0 P _ _ _
            have hR0 : R S2 g w (stF n F1 [] S2) { tmps := T, defers := [] } w := ⟨g, hI, .refl _ g w, ⟨rfl, fun i d el e1 => by simp [stF] at e1⟩, z1, z2⟩
            refine wpIn_mono (d1 (some b) (fun h => by cases h) S2 g w S2 A1 (fun e st => e = .normal ∧ st = stF n Fa ds1 (ovr T1 (hp ha) S2)) ⟨rfl, rfl⟩ _ w hR0) ?_
            rintro e1 a1 w1 ⟨st, hR1, rfl, rfl⟩
            obtain ⟨g1, i1, x1, hd1, hs1, hv1⟩ := hR1
            have i1 : Inv g1 (ovr T1 (hp ha) S2) w1 := i1
            obtain ⟨b1, s1, ob1, q1, q2, q3⟩ := i1.oth q _ hob2
            have hat1 := x1.le.at' _ _ h0
            rw [q1] at hat1
            obtain ⟨rfl, rfl⟩ : b1 = b ∧ s1 = s := by simpa using hat1
            obtain ⟨rr1, rfl, u1, u2⟩ := q3
            obtain ⟨i2, x2⟩ := i1.setlp (st' := .busy) (pe' := rr1.pending) hob2 q1 q2
            rw [u2] at i2 x2
            refine ⟨_, run_beginRound q2 u1, ?_⟩
            show bd.code.wpIn (FR (some b1)) 0 P _ _ _
            have eb : ({ rr1 with state := .busy } : Loop) = { rr1 with state := .busy, pending := pe } := by rw [← u2]
            rw [eb]
            refine wpIn_mono (d2 (some b1) (fun h => by cases h) S2 g w _ A3 (fun e st => e = e2 ∧ st = stF n Fb ds2 (ovr T2 (hp hb) ((ovr T1 (hp ha) S2).set q (.oth (.loop .busy pe))))) ⟨rfl, rfl⟩ a1 _ ⟨g1, i2, x1.trans x2, hd1, hs1, hv1⟩) ?_
            rintro e2' a2 w3 ⟨st, hR3, rfl, rfl⟩
            obtain ⟨g3, i3, x3, _, _, _⟩ := hR3
            obtain ⟨b3, s3, ob3, p1, p2, p3⟩ := i3.oth q _ hob4
            have hat3 := x3.le.at' _ _ h0
            rw [p1] at hat3
            obtain ⟨rfl, rfl⟩ : b3 = b1 ∧ s3 = s1 := by simpa using hat3
            obtain ⟨rr3, rfl, w1', w2'⟩ := p3
            have fin : ∀ jc : Option Code, rndE e2' = some jc → ∃ v w4, (Instr.endRound b3 jc).run P w3 = .ok v w4 ∧ ∃ v' g', Ending.returned v = .returned v' ∧ V g' (.v (.bool jump.isNone)) v' ∧ Inv g' ((ovr T2 (hp hb) ((ovr T1 (hp ha) S2).set q (.oth (.loop .busy pe)))).set q (MOb.oth (.loop (rndS jump) jump)).low) w4 ∧ Ext S2 g w ((ovr T2 (hp hb) ((ovr T1 (hp ha) S2).set q (.oth (.loop .busy pe)))).set q (MOb.oth (.loop (rndS jump) jump)).low) g' w4 := by
              intro jc hj'
              rw [hj] at hj'
              obtain rfl := Option.some.inj hj'
              have hend := run_endRound (P := P) jump p2
              have est : (if jump.isNone = true then LoopState.ready else LoopState.done) = rndS jump := by cases jump <;> rfl
              rw [est] at hend
              obtain ⟨i4, x4⟩ := i3.setlp (st' := rndS jump) (pe' := jump) hob4 p1 p2
              exact ⟨_, _, hend, _, g3, rfl, .v _, i4, x3.trans x4⟩
            cases e2' with
            | normal => exact fin none rfl
            | ret => exact fin _ rfl
            | exit id => exact fin _ rfl
            | goto l => cases hj
            | panic c => cases hj
            | outgrown => cases hj
          · cases hr
        · cases hr
      · cases hr
    · cases hr
  · cases hr
theorem stepCx_ok (hE : EnvOk P E) {fns : FT} (hF : FTOk P fns) {dr : Cx → Nat → DrT} {hm : List (Nat × Nat)} {cx : Cx} (hx : CxOk P cx) (hdr : ∀ n β, DrOk P n (dr cx n β)) : CxOk P (stepCx E fns dr hm cx) :=
  ⟨fun _ _ _ _ _ _ h => fnK_ok hE hF hx hdr h, fun _ _ _ _ _ _ h => rndK_ok hE hx hdr h⟩
theorem zeroCx_ok (hm : List (Nat × Nat)) : CxOk P (zeroCx hm) := ⟨fun _ _ _ _ _ r h => (by have h : (none : Option _) = some r := h; cases h), fun _ _ _ _ _ r h => (by have h : (none : Option _) = some r := h; cases h)⟩
theorem runK_ok (hE : EnvOk P E) {fns : FT} (hF : FTOk P fns) {dr : Cx → Nat → DrT} (hdr : ∀ cx, CxOk P cx → ∀ n β, DrOk P n (dr cx n β)) {hm : List (Nat × Nat)} : ∀ k, CxOk P (runK E fns dr hm k)
  | 0 => zeroCx_ok hm
  | k + 1 => stepCx_ok hE hF (runK_ok hE hF hdr k) (hdr _ (runK_ok hE hF hdr k))
end
end
end Go.Bm
