/- Code, run. -/
import Derived.Test.YtihiooaimdoapaaGreatBnQ
import Derived.LoopNIn
set_option linter.unusedVariables false
set_option linter.unusedSimpArgs false
namespace Go.Bm
noncomputable section
open Go.RowKit
section
variable {P : Program} {E : Env} {cx : Cx} {n : Nat} {β : Type} {r : β}
/-- What comes behind. -/
abbrev KC (β : Type) := Exit → Tr A → H → List Nat → Fp → Option β
def seqC (K1 : Tr A → H → List Nat → Fp → Option β) (K : KC β) : KC β := fun e F h ds U => match e with
  | .normal => K1 F h ds U
  | e => K e F h ds U
def blkC (id : Nat) (K : KC β) : KC β := fun e F h ds U => match e with
  | .exit i => bif Nat.beq i id then K .normal F h ds U else K (.exit i) F h ds U
  | e => K e F h ds U
/-- A condition is looked at; from then on it is known. -/
def cndK (n : Nat) (F : Tr A) (c : Operand) (k : Tr A → Bool → Option β) : Option β := match c with
  | .tmp d => match opd n F (.tmp d) with
    | .v (.bool b) => br b (setT F d (some (.v (.bool true))) (fun F' => k F' true)) (setT F d (some (.v (.bool false))) (fun F' => k F' false))
    | _ => none
  | .const (.bool b) => k F b
  | _ => none
theorem cndK_ok {F : Tr A} {c : Operand} {k : Tr A → Bool → Option β} (h : cndK n F c k = some r) : ∃ F' b, k F' b = some r ∧ (∀ ds S, stF n F' ds S = stF n F ds S) ∧ opd n F c = .v (.bool b) := by
  unfold cndK at h
  split at h
  · rename_i d
    split at h
    · rename_i b hb
      have same : ∀ (F' : Tr A) (c : Bool), b = c → F'.get = (fun m => if m = d then some (.v (.bool c)) else F.get m) → ∀ ds S, stF n F' ds S = stF n F ds S := fun F' c hc e ds S => by
        have : slotA F'.get = slotA F.get := by
          funext i
          by_cases hi : i = d
          · subst hi
            rw [opd_tmp hb (by intro h; cases h), hc]
            unfold slotA
            rw [e]; simp
          · unfold slotA
            rw [e]; simp [hi]
        unfold stF
        rw [this]
      rcases br_inv h with ⟨rfl, h1⟩ | ⟨rfl, h1⟩
      · obtain ⟨_, F', k1, k2⟩ := setT_inv h1
        exact ⟨F', true, k1, same F' true rfl k2, hb⟩
      · obtain ⟨_, F', k1, k2⟩ := setT_inv h1
        exact ⟨F', false, k1, same F' false rfl k2, hb⟩
    · cases h
  · rename_i b
    exact ⟨F, b, h, fun ds S => rfl, rfl⟩
  · cases h
/-- Slots that code writes. -/
def asgC : XCode → List Nat
  | .region _ ops _ => asgO ops
  | .seq x y => asgC x ++ asgC y
  | .cut H x y => (asgC x ++ (H.vary.map (·.1) ++ H.grow.map (·.1))) ++ asgC y
  | .cond _ x y => asgC x ++ asgC y
  | .block _ x => asgC x
  | .loop H x => asgC x ++ (H.vary.map (·.1) ++ H.grow.map (·.1))
  | _ => []
/-- All meet; or go on. -/
def metC {σ : Type} (pj : Tr A → H → List Nat → Fp → Option σ) (k : σ → Option β) (K : KC β) : KC β := fun e F h ds T => match e with
  | .normal => (match pj F h ds T with
    | some s => k s
    | none => none)
  | e => K e F h ds T
def catC (U : Fp) (K : KC β) : KC β := fun e F h ds T => K e F h ds (U.cat T)
abbrev DrF (β : Type) := Nat → List Oper → Tr A → H → Fp → (Tr A → H → Fp → Option β) → Option β
/-- Code, run. -/
def exC (E : Env) (cx : Cx) (inr : Bool) (n : Nat) (dr : DrF β) : XCode → Tr A → H → List Nat → Fp → KC β → Option β
  | .skip, F, h, ds, U, K => K .normal F h ds U
  | .ret, F, h, ds, U, K => K .ret F h ds U
  | .exit id, F, h, ds, U, K => K (.exit id) F h ds U
  | .bad _, _, _, _, _, _ => none
  | .region id ops d, F, h, ds, U, K => bif d then dr id ops F h U (fun F h U => K .normal F h ds U) else regK E cx n ops ops F h U (fun F h U => K .normal F h ds U)
  | .seq x y, F, h, ds, U, K => exC E cx inr n dr x F h ds U (seqC (fun F h ds U => exC E cx inr n dr y F h ds U K) K)
  | .cut J x y, F, h, ds, U, K => match entA J F h with
    | some e => bif entOk J e ds F h then
        jn (fun k => exC E cx inr n dr x F h ds .no (metC (pjC J n h.nid e.bs e.cs e.qs e.dels ds) k (catC U K)))
          (fun s => injK J (asgC x ++ (J.vary.map (·.1) ++ J.grow.map (·.1))) e.bs e.cs e.dels F h s (fun Fc hc => exC E cx inr n dr y Fc hc ds .no (catC (U.cat (jT J h.nid e)) K)))
      else none
    | none => none
  | .cond c x y, F, h, ds, U, K => cndK n F c (fun F b => bif b then exC E cx inr n dr x F h ds U K else exC E cx inr n dr y F h ds U K)
  | .block id x, F, h, ds, U, K => exC E cx inr n dr x F h ds U (blkC id K)
  | .loop J x, F, h, ds, U, K => match entA J F h with
    | some e => bif entOk J e ds F h then (match pjC J n h.nid e.bs e.cs e.qs e.dels ds F h ds .no with
      | some s0 => loop (fun k s => injK J (asgC x ++ (J.vary.map (·.1) ++ J.grow.map (·.1))) e.bs e.cs e.dels F h s (fun Fc hc => exC E cx inr n dr x Fc hc ds .no (metC (pjC J n h.nid e.bs e.cs e.qs e.dels ds) k (catC (U.cat (jT J h.nid e)) K)))) s0
      | none => none) else none
    | none => none
  | .range g ps J as bd, F, h, ds, U, K => bif inr then none else match opd n F g with
    | .fn f fi ca => bif Nat.blt h.nid 16777214 then setT h.t h.nid (some (.oth .dfr)) (fun t1 => setT t1 (h.nid + 1) (some (.oth (.loop .ready none))) (fun t2 => cx.call β f (fi ++ .yld (h.nid + 1) n F ps J as bd :: ca) { h with t := t2, nid := h.nid + 1 + 1 } (fun _ h3 T3 => match h3.t.get (h.nid + 1) with
      | some (.oth (.loop st pe)) => bif isBusy st then none else setT h3.t (h.nid + 1) none (fun t4 => match jumpX pe with
        | some e => K e F { h3 with t := t4 } (h.nid :: ds) (U.cat (((Fp.wr [rlo h.nid]).cat (.wr [rlo (h.nid + 1)])).cat (T3.cat (.wr [rlo (h.nid + 1)]))))
        | none => none)
      | _ => none))) else none
    | _ => none
/-- What is shown of code. -/
def Does (P : Program) (inr : Bool) (n : Nat) (c : Code) (F : Tr A) (h : H) (ds : List Nat) (e : Exit) (F' : Tr A) (h' : H) (ds' : List Nat) (T : Fp) : Prop :=
  Fr2 h h' T ∧ ∀ ro, (inr = false → ro = none) → ∀ S0 g0 w0, Leads F h F' h' n T (fun Q st => pw P ro S0 g0 w0 c Q st) e ds ds'
def DrOk (P : Program) (n : Nat) (dr : DrF β) : Prop :=
  ∀ id ops F h U K (r : β), dr id ops F h U K = some r → ∃ F' h' T, K F' h' (U.cat T) = some r ∧ Kp (asgO ops) F F' ∧ ∀ inr ds, Does P inr n (.region id ops.toArray true) F h ds .normal F' h' ds T
theorem all_eq {S S2 : Hp} {l m : List Nat} {w : Bool} (h : Agree ⟨true, l, w, m⟩ S S2) : S2 = S := Hp.ext' (fun i => (h i rfl).1) (fun i => (h i rfl).2)
theorem ovr_all {S S2 : Hp} {l m : List Nat} {w : Bool} : ovr ⟨true, l, w, m⟩ S S2 = S := Hp.ext' (fun i => by
  show (if touch ⟨true, l, w, m⟩ i = true then S.ob i else S2.ob i) = S.ob i
  rw [if_pos (show touch ⟨true, l, w, m⟩ i = true from rfl)]) (fun i => by
  show (if touch ⟨true, l, w, m⟩ i = true then S.fr i else S2.fr i) ↔ S.fr i
  rw [if_pos (show touch ⟨true, l, w, m⟩ i = true from rfl)])
theorem jT_cat (J : LH) (N : Nat) (e : Ent) (T : Fp) : ∃ l m w, (jT J N e).cat T = ⟨true, l, w, m⟩ := ⟨_, _, _, rfl⟩
/-- What is known where all meet for the first time. -/
theorem R.entry {n : Nat} {F : Tr A} {h : H} {ds : List Nat} {S0 : Hp} {g0 : G} {w0 w : World} {a : Act} (hR : R S0 g0 w0 (stF n F ds (hp h)) a w) : (∀ i, h.nid ≤ i → i < lim → tOb h.t i = none) ∧ ∀ o, h.nid ≤ o → o < lim → S0.fr o ∧ g0.at' o = none := by
  obtain ⟨g, hI, hE, _⟩ := hR
  have hI : Inv g (hp h) w := hI
  have hE : Ext S0 g0 w0 (hp h) g w := hE
  have fr : ∀ o, h.nid ≤ o → o < lim → (hp h).fr o := fun o h1 h2 => by show (if o < lim then _ else _); rw [if_pos h2]; exact h1
  refine ⟨fun i h1 h2 => ?_, fun o h1 h2 => ⟨hE.fr o (fr o h1 h2), ?_⟩⟩
  · cases hx : tOb h.t i with
    | none => rfl
    | some x =>
      have hob : (hp h).ob i = some x := by show (if i < lim then _ else _) = _; rw [if_pos h2]; exact hx
      have hat := hI.fresh i (fr i h1 h2)
      cases x with
      | cells cs =>
        rcases hI.cells i cs hob with ⟨k, _⟩ | ⟨b, t, k, _⟩
        · rw [hat] at k; cases k
        · rw [hat] at k; cases k
      | oth x =>
        obtain ⟨b, s, ob, k, _⟩ := hI.oth i x hob
        rw [hat] at k; cases k
  · have hat := hI.fresh o (fr o h1 h2)
    cases hx : g0.at' o with
    | none => rfl
    | some p => rw [hE.le.at' o p hx] at hat; cases hat
section
variable {J : LH} {asg ds : List Nat} {En : Ent} {F : Tr A} {h : H}
theorem inj_kp {s : J.S} {Fc : Tr A} {hc : H} (k : InjOk J asg En F h s Fc hc) (hv : ∀ i, i ∈ J.vary.map (·.1) ++ J.grow.map (·.1) → i ∈ asg) : Kp asg F Fc := by
  have aV : ∀ (l : List (Nat × Bool × Ty)) (x : Tup (l.map (·.2))), (∀ i ∈ l.map (·.1), i ∈ asg) → allV (fun i c => i ∉ asg → c = slotA F.get i) l x := fun l => by
    induction l with
    | nil => exact fun _ _ => trivial
    | cons p l ih => exact fun x hh => ⟨fun hn => absurd (hh p.1 (.head _)) hn, ih x.2 (fun i hi => hh i (.tail _ hi))⟩
  have aW : ∀ (l : List (Nat × Ty)) (j : Nat), (∀ i ∈ l.map (·.1), i ∈ asg) → allW (fun i c => i ∉ asg → c = slotA F.get i) l j := fun l => by
    induction l with
    | nil => exact fun _ _ => trivial
    | cons p l ih => exact fun j hh => ⟨fun hn => absurd (hh p.1 (.head _)) hn, ih (j + 1) (fun i hi => hh i (.tail _ hi))⟩
  exact k.F (fun i c => i ∉ asg → c = slotA F.get i) (fun i h1 h2 => absurd h1 h2) (fun i _ _ => rfl) (aV _ _ (fun i hi => hv i (List.mem_append_left _ hi))) (aW _ _ (fun i hi => hv i (List.mem_append_right _ hi)))
/-- From what comes of a piece that began where all meet, back there. -/
theorem met_R {n : Nat} {s s' : J.S} {Fc Fc' F1 : Tr A} {hc hc' h1 : H} {ds1 : List Nat} {T1 : Fp} (E : EntOk J En ds F h) (k : InjOk J asg En F h s Fc hc) (k' : InjOk J asg En F h s' Fc' hc') (hv : ∀ i, i ∈ J.vary.map (·.1) ++ J.grow.map (·.1) → i ∈ asg)
    (hkp : Kp asg Fc F1) (hfr : Fr2 hc h1 T1) (hpj : pjC J n h.nid En.bs En.cs En.qs En.dels ds F1 h1 ds1 T1 = some s') {S0 : Hp} {g0 : G} {w0 w : World} {a : Act} (hemp : ∀ i, h.nid ≤ i → i < lim → tOb h.t i = none) (hf : ∀ o, h.nid ≤ o → o < lim → S0.fr o ∧ g0.at' o = none)
    (hR : R S0 g0 w0 (stF n F1 ds1 (hp h1)) a w) : R S0 g0 w0 (stF n Fc' ds (hp hc')) a w := by
  obtain ⟨j1, j2, _⟩ := inj_same E k
  have hw := hpj
  unfold pjC at hw
  obtain ⟨hck, _⟩ := cond_some hw
  rw [Bool.and_eq_true, Bool.and_eq_true] at hck
  have htop := E.top
  exact rj_ok E hemp (fun i hi => (hkp i hi).trans (inj_kp k hv i hi)) (fun i hi hn => (hfr.rd i (chkW_own hck.1.1 (by omega) hi hn)).1.trans (j1 i hi (fun h => hn (by
      rcases List.mem_append.1 h with h | h
      · exact List.mem_append_left _ h
      · exact List.mem_append_right _ (List.mem_append_left _ h)))))
    (fun i hl hk => by
      have e1 := hfr.rd i (chkW_reg hck.1.1 hl hk)
      have e2 := j2 i hl hk
      exact ⟨e1.1.trans e2.1, e1.2.trans e2.2⟩) hpj k' hf hR
theorem ent_R {n : Nat} {s' : J.S} {Fc' F1 : Tr A} {hc' h1 : H} {ds1 : List Nat} {T1 : Fp} (E : EntOk J En ds F h) (k' : InjOk J asg En F h s' Fc' hc')
    (hkp : Kp asg F F1) (hfr : Fr2 h h1 T1) (hpj : pjC J n h.nid En.bs En.cs En.qs En.dels ds F1 h1 ds1 T1 = some s') {S0 : Hp} {g0 : G} {w0 w : World} {a : Act} (hemp : ∀ i, h.nid ≤ i → i < lim → tOb h.t i = none) (hf : ∀ o, h.nid ≤ o → o < lim → S0.fr o ∧ g0.at' o = none)
    (hR : R S0 g0 w0 (stF n F1 ds1 (hp h1)) a w) : R S0 g0 w0 (stF n Fc' ds (hp hc')) a w := by
  have hw := hpj
  unfold pjC at hw
  obtain ⟨hck, _⟩ := cond_some hw
  rw [Bool.and_eq_true, Bool.and_eq_true] at hck
  have htop := E.top
  exact rj_ok E hemp (fun i hi => hkp i hi) (fun i hi hn => (hfr.rd i (chkW_own hck.1.1 (by omega) hi hn)).1) (fun i hl hk => hfr.rd i (chkW_reg hck.1.1 hl hk)) hpj k' hf hR
theorem inj_fr {s : J.S} {Fc : Tr A} {hc : H} (E : EntOk J En ds F h) (k : InjOk J asg En F h s Fc hc) : Fr2 h hc (jT J h.nid En) := ⟨fun i hi => (by cases hi), (inj_same E k).2.2⟩
theorem metC_inv {σ : Type} {pj : Tr A → H → List Nat → Fp → Option σ} {k : σ → Option β} {K : KC β} {e : Exit} {T : Fp} (hr : metC pj k K e F h ds T = some r) : (e = .normal ∧ ∃ s, pj F h ds T = some s ∧ k s = some r) ∨ (e ≠ .normal ∧ K e F h ds T = some r) := by
  unfold metC at hr
  split at hr
  · split at hr
    · rename_i s hs; exact .inl ⟨rfl, s, hs, hr⟩
    · cases hr
  · rename_i hne; exact .inr ⟨hne, hr⟩
/-- Rounds. -/
theorem loop_ok {inr : Bool} {n : Nat} {x : XCode} {dr : DrF β} {E : Env} {cx : Cx} {K : KC β} {U : Fp} (hx : ∀ (F : Tr A) (h : H) (ds : List Nat) (U : Fp) (K : KC β), exC E cx inr n dr x F h ds U K = some r → ∃ e F' h' ds' T, K e F' h' ds' (U.cat T) = some r ∧ Kp (asgC x) F F' ∧ Does P inr n x.code F h ds e F' h' ds' T)
    (EO : EntOk J En ds F h) (hv : ∀ i, i ∈ J.vary.map (·.1) ++ J.grow.map (·.1) → i ∈ asg) (ha : ∀ i, i ∈ asgC x → i ∈ asg) : ∀ (m : Nat) (s : J.S), iter (fun k s => injK J asg En.bs En.cs En.dels F h s (fun Fc hc => exC E cx inr n dr x Fc hc ds .no (metC (pjC J n h.nid En.bs En.cs En.qs En.dels ds) k (catC (U.cat (jT J h.nid En)) K)))) m s = some r →
    ∃ Fc hc, InjOk J asg En F h s Fc hc ∧ ∃ e F' h' ds' T, K e F' h' ds' (U.cat ((jT J h.nid En).cat T)) = some r ∧ Kp asg F F' ∧ Fr2 h h' ((jT J h.nid En).cat T) ∧
      ∀ ro, (inr = false → ro = none) → ∀ S0 g0 w0, (∀ i, h.nid ≤ i → i < lim → tOb h.t i = none) → (∀ o, h.nid ≤ o → o < lim → S0.fr o ∧ g0.at' o = none) → ∀ Q : Exit → St → Prop, Q e (stF n F' ds' (hp h')) → ∀ a w, R S0 g0 w0 (stF n Fc ds (hp hc)) a w → Code.roundsIn (FR ro) 0 P x.code (lift S0 g0 w0 Q) m a w
  | 0, s, hr => by cases hr
  | m + 1, s, hr => by
    obtain ⟨Fc, hc, k1, k2⟩ := injK_inv (show injK J asg En.bs En.cs En.dels F h s (fun Fc hc => exC E cx inr n dr x Fc hc ds .no (metC (pjC J n h.nid En.bs En.cs En.qs En.dels ds) (iter (fun k s => injK J asg En.bs En.cs En.dels F h s (fun Fc hc => exC E cx inr n dr x Fc hc ds .no (metC (pjC J n h.nid En.bs En.cs En.qs En.dels ds) k (catC (U.cat (jT J h.nid En)) K)))) m) (catC (U.cat (jT J h.nid En)) K))) = some r from hr)
    obtain ⟨e1, F1, h1, ds1, T1, k3, k4, k5, k6⟩ := hx Fc hc ds .no _ k1
    rw [Fp.no_cat] at k3
    refine ⟨Fc, hc, k2, ?_⟩
    rcases metC_inv k3 with ⟨rfl, s', q1, q2⟩ | ⟨hne, q1⟩
    · obtain ⟨Fc', hc', u1, e, F', h', ds', T, u2, u3, u4, u5⟩ := loop_ok hx EO hv ha m s' q2
      refine ⟨e, F', h', ds', T, u2, u3, u4, fun ro hro S0 g0 w0 hemp hf Q hq a w hR => ?_⟩
      rw [roundsIn_succ]
      refine wpIn_mono (k6 ro hro S0 g0 w0 (hp hc) Agree.self (fun e st => e = .normal ∧ st = stF n F1 ds1 (hp h1)) ⟨rfl, by rw [ovr_end k5]⟩ a w hR) ?_
      rintro e2 a2 w2 ⟨st, hR2, rfl, rfl⟩
      exact u5 ro hro S0 g0 w0 hemp hf Q hq a2 w2 (met_R EO k2 u1 hv (k4.mono ha) k5 q1 hemp hf hR2)
    · refine ⟨e1, F1, h1, ds1, T1, by rw [← Fp.cat_assoc]; exact q1, (inj_kp k2 hv).trans k4 (fun i hi => hi) ha, (inj_fr EO k2).trans k5, fun ro hro S0 g0 w0 hemp hf Q hq a w hR => ?_⟩
      rw [roundsIn_succ]
      refine wpIn_mono (k6 ro hro S0 g0 w0 (hp hc) Agree.self (fun e st => e = e1 ∧ st = stF n F1 ds1 (hp h1)) ⟨rfl, by rw [ovr_end k5]⟩ a w hR) ?_
      rintro e2 a2 w2 ⟨st, hR2, rfl, rfl⟩
      have hl : lift S0 g0 w0 Q e2 a2 w2 := ⟨_, hR2, hq⟩
      cases e2 with
      | normal => exact absurd rfl hne
      | _ => exact hl
end
theorem exC_ok {inr : Bool} {dr : DrF β} (hE : EnvOk P E) (hx : CxOk P cx) (hdr : DrOk P n dr) : ∀ (c : XCode) (F : Tr A) (h : H) (ds : List Nat) (U : Fp) (K : KC β), exC E cx inr n dr c F h ds U K = some r →
    ∃ e F' h' ds' T, K e F' h' ds' (U.cat T) = some r ∧ Kp (asgC c) F F' ∧ Does P inr n c.code F h ds e F' h' ds' T
  | .skip, F, h, ds, U, K, hr => ⟨.normal, F, h, ds, .no, by rw [Fp.cat_no]; exact hr, .refl _ F, .refl h, fun ro hro S0 g0 w0 S2 hA Q hq => by rw [ovr_no] at hq; exact pw_skip hq⟩
  | .ret, F, h, ds, U, K, hr => ⟨.ret, F, h, ds, .no, by rw [Fp.cat_no]; exact hr, .refl _ F, .refl h, fun ro hro S0 g0 w0 S2 hA Q hq => by rw [ovr_no] at hq; exact pw_ret hq⟩
  | .exit id, F, h, ds, U, K, hr => ⟨.exit id, F, h, ds, .no, by rw [Fp.cat_no]; exact hr, .refl _ F, .refl h, fun ro hro S0 g0 w0 S2 hA Q hq => by rw [ovr_no] at hq; exact pw_exit hq⟩
  | .bad _, F, h, ds, U, K, hr => by cases hr
  | .region id ops d, F, h, ds, U, K, hr => by
    cases d with
    | true =>
      obtain ⟨F', h', T, k1, kp, k2⟩ := hdr id ops F h U _ r hr
      exact ⟨.normal, F', h', ds, T, k1, kp, k2 inr ds⟩
    | false =>
      obtain ⟨F', h', T, k1, kp, k2, k3⟩ := regK_ok hE hx ops F h U _ hr
      exact ⟨.normal, F', h', ds, T, k1, kp, k2, fun ro hro S0 g0 w0 S2 hA Q hq => pw_region (k3 ro S0 g0 w0 ds S2 hA Q hq)⟩
  | .seq x y, F, h, ds, U, K, hr => by
    obtain ⟨e, F1, h1, ds1, T1, k1, kp, k2, k3⟩ := exC_ok hE hx hdr x F h ds U _ hr
    cases e with
    | normal =>
      obtain ⟨e, F2, h2, ds2, T2, q1, qp, q2, q3⟩ := exC_ok hE hx hdr y F1 h1 ds1 _ K k1
      refine ⟨e, F2, h2, ds2, T1.cat T2, by rw [← Fp.cat_assoc]; exact q1, kp.trans qp (fun i hi => List.mem_append_left _ hi) (fun i hi => List.mem_append_right _ hi), k2.trans q2, fun ro hro S0 g0 w0 S2 hA Q hq => ?_⟩
      refine pw_seq (k3 ro hro S0 g0 w0 S2 hA.left _ ?_)
      refine q3 ro hro S0 g0 w0 _ (Agree.right k2 hA) Q ?_
      rw [ovr_cat q2]; exact hq
    | _ => exact ⟨_, F1, h1, ds1, T1, k1, kp.mono (fun i hi => List.mem_append_left _ hi), k2, fun ro hro S0 g0 w0 S2 hA Q hq => pw_seq (k3 ro hro S0 g0 w0 S2 hA _ hq)⟩
  | .cut J x y, F, h, ds, U, K, hr => by
    have hr : (match entA J F h with | some e => _ | none => none) = some r := hr
    split at hr
    · rename_i En hbs
      obtain ⟨ho, hr⟩ := cond_some hr
      have EO := entOk_ok ho
      have hv : ∀ i, i ∈ J.vary.map (·.1) ++ J.grow.map (·.1) → i ∈ asgC x ++ (J.vary.map (·.1) ++ J.grow.map (·.1)) := fun i hi => List.mem_append_right _ hi
      obtain ⟨e1, F1, h1, ds1, T1, k1, kp, k2, k3⟩ := exC_ok hE hx hdr x F h ds .no _ (show exC E cx inr n dr x F h ds .no _ = some r from (jn_eq _ _).symm.trans hr)
      rw [Fp.no_cat] at k1
      rcases metC_inv k1 with ⟨rfl, s, q1, q2⟩ | ⟨hne, q1⟩
      · obtain ⟨Fc, hc, u1, u2⟩ := injK_inv q2
        obtain ⟨e, F2, h2, ds2, T2, u3, u4, u5, u6⟩ := exC_ok hE hx hdr y Fc hc ds .no _ u1
        rw [Fp.no_cat] at u3
        have u3 : K e F2 h2 ds2 ((U.cat (jT J h.nid En)).cat T2) = some r := u3
        refine ⟨e, F2, h2, ds2, (jT J h.nid En).cat T2, by rw [← Fp.cat_assoc]; exact u3, (inj_kp u2 hv).trans u4 (fun i hi => List.mem_append_left _ hi) (fun i hi => List.mem_append_right _ hi), (inj_fr EO u2).trans u5, fun ro hro S0 g0 w0 S2 hA Q hq => ?_⟩
        obtain ⟨l, m, w, ej⟩ := jT_cat J h.nid En T2
        rw [ej] at hA hq
        rw [ovr_all] at hq
        rw [all_eq hA]
        intro a w hR
        obtain ⟨hemp, hf⟩ := hR.entry
        refine pw_seq (k3 ro hro S0 g0 w0 (hp h) Agree.self _ ?_) a w hR
        rw [ovr_end k2]
        intro a1 w1 hR1
        refine u6 ro hro S0 g0 w0 (hp hc) Agree.self Q ?_ a1 w1 (ent_R EO u2 (kp.mono (fun i hi => List.mem_append_left _ hi)) k2 q1 hemp hf hR1)
        rw [ovr_end u5]; exact hq
      · refine ⟨e1, F1, h1, ds1, T1, q1, kp.mono (fun i hi => List.mem_append_left _ (List.mem_append_left _ hi)), k2, fun ro hro S0 g0 w0 S2 hA Q hq => pw_seq (k3 ro hro S0 g0 w0 S2 hA _ ?_)⟩
        cases e1 with
        | normal => exact absurd rfl hne
        | _ => exact hq
    · cases hr
  | .cond c x y, F, h, ds, U, K, hr => by
    obtain ⟨F1, b, k1, k2, k3⟩ := cndK_ok hr
    cases b with
    | true =>
      obtain ⟨e, F2, h2, ds2, T2, q1, qp, q2, q3⟩ := exC_ok hE hx hdr x F1 h ds U K k1
      refine ⟨e, F2, h2, ds2, T2, q1, (Kp.of (l := []) k2).trans qp (fun i hi => by cases hi) (fun i hi => List.mem_append_left _ hi), q2, fun ro hro S0 g0 w0 S2 hA Q hq => ?_⟩
      refine pw_cond (b := true) (by rw [← opd_eq]; exact k3) (fun _ => ?_) (fun h => by cases h)
      rw [← k2]
      exact q3 ro hro S0 g0 w0 S2 hA Q hq
    | false =>
      obtain ⟨e, F2, h2, ds2, T2, q1, qp, q2, q3⟩ := exC_ok hE hx hdr y F1 h ds U K k1
      refine ⟨e, F2, h2, ds2, T2, q1, (Kp.of (l := []) k2).trans qp (fun i hi => by cases hi) (fun i hi => List.mem_append_right _ hi), q2, fun ro hro S0 g0 w0 S2 hA Q hq => ?_⟩
      refine pw_cond (b := false) (by rw [← opd_eq]; exact k3) (fun h => by cases h) (fun _ => ?_)
      rw [← k2]
      exact q3 ro hro S0 g0 w0 S2 hA Q hq
  | .block id x, F, h, ds, U, K, hr => by
    obtain ⟨e, F1, h1, ds1, T1, k1, kp, k2, k3⟩ := exC_ok hE hx hdr x F h ds U _ hr
    cases e with
    | exit i =>
      have kk : (bif Nat.beq i id then K .normal F1 h1 ds1 (U.cat T1) else K (.exit i) F1 h1 ds1 (U.cat T1)) = some r := k1
      cases hb : Nat.beq i id with
      | true =>
        rw [hb] at kk
        obtain rfl := beq_eq hb
        refine ⟨.normal, F1, h1, ds1, T1, kk, kp, k2, fun ro hro S0 g0 w0 S2 hA Q hq => pw_block (k3 ro hro S0 g0 w0 S2 hA _ ?_)⟩
        show (if i = i then Q .normal _ else _)
        rw [if_pos rfl]; exact hq
      | false =>
        rw [hb] at kk
        refine ⟨.exit i, F1, h1, ds1, T1, kk, kp, k2, fun ro hro S0 g0 w0 S2 hA Q hq => pw_block (k3 ro hro S0 g0 w0 S2 hA _ ?_)⟩
        show (if i = id then _ else Q (.exit i) _)
        rw [if_neg (fun e => by rw [e, Nat.beq_refl] at hb; cases hb)]; exact hq
    | _ => exact ⟨_, F1, h1, ds1, T1, k1, kp, k2, fun ro hro S0 g0 w0 S2 hA Q hq => pw_block (k3 ro hro S0 g0 w0 S2 hA _ hq)⟩
  | .loop J x, F, h, ds, U, K, hr => by
    have hr : (match entA J F h with | some e => _ | none => none) = some r := hr
    split at hr
    · rename_i En hbs
      obtain ⟨ho, hr⟩ := cond_some hr
      split at hr
      · rename_i s0 hs0
        have EO := entOk_ok ho
        have hv : ∀ i, i ∈ J.vary.map (·.1) ++ J.grow.map (·.1) → i ∈ asgC x ++ (J.vary.map (·.1) ++ J.grow.map (·.1)) := fun i hi => List.mem_append_right _ hi
        obtain ⟨Fc, hc, u1, e, F', h', ds', T, u2, u3, u4, u5⟩ := loop_ok (P := P) (fun F h ds U K hr => exC_ok hE hx hdr x F h ds U K hr) EO hv (fun i hi => List.mem_append_left _ hi) big s0 ((loop_eq _ _).symm.trans hr)
        refine ⟨e, F', h', ds', _, u2, u3, u4, fun ro hro S0 g0 w0 S2 hA Q hq => ?_⟩
        obtain ⟨l, m, w, ej⟩ := jT_cat J h.nid En T
        rw [ej] at hA hq
        rw [ovr_all] at hq
        rw [all_eq hA]
        intro a w hR
        obtain ⟨hemp, hf⟩ := hR.entry
        exact wpIn_loop_rounds big (u5 ro hro S0 g0 w0 hemp hf Q hq a w (ent_R (T1 := .no) EO u1 (.refl _ F) (.refl h) hs0 hemp hf hR))
      · cases hr
    · cases hr
  | .range g ps J as bd, F, h, ds, U, K, hr => by
    have hr : (bif inr then none else _) = some r := hr
    obtain ⟨hinr, hr⟩ := bif_none hr
    split at hr
    · rename_i f fi ca hf
      obtain ⟨hn, hr⟩ := cond_some hr
      have hn := blt_lt hn
      obtain ⟨_, t1, hr, ht1⟩ := setT_inv hr
      obtain ⟨_, t2, hr, ht2⟩ := setT_inv hr
      obtain ⟨pv, h3, T3, hr, k2⟩ := hx.call β f _ _ _ r hr
      split at hr
      · rename_i st pe h3q
        obtain ⟨hb, hr⟩ := bif_none hr
        obtain ⟨_, t4, hr, ht4⟩ := setT_inv hr
        split at hr
        · rename_i e hj
          obtain ⟨f1, v1⟩ := new_ovr (h := h) (x := .oth .dfr) (by omega) ht1
          obtain ⟨f2, v2⟩ := new_ovr (h := { h with t := t1, nid := h.nid + 1 }) (x := .oth (.loop .ready none)) (show h.nid + 1 < 16777216 by omega) ht2
          have f3 : Fr2 { h with t := t2, nid := h.nid + 1 + 1 } h3 T3 := ⟨k2.out, k2.rd⟩
          obtain ⟨f4, v4⟩ := del_ovr (h := h3) (q := h.nid + 1) (by omega) ht4
          have f12 := f1.trans f2
          have f34 := f3.trans f4
          refine ⟨e, F, { h3 with t := t4 }, h.nid :: ds, _, hr, .refl _ F, f12.trans f34, fun ro hro S0 g0 w0 S2 hA Q hq => ?_⟩
          obtain rfl := hro hinr
          have hA12 := hA.left
          have hA34 := Agree.right f12 hA
          rw [← ovr_cat f34, ← ovr_cat f4] at hq
          rw [← ovr_cat f2] at hA34 hq
          have A1 := hA12.left
          have A2 := Agree.right f1 hA12
          have A3 := hA34.left
          have A4 := Agree.right f3 hA34
          have hfr1 : S2.fr h.nid := (A1 h.nid (touch_loc (o := h.nid) (by omega) (.head _))).2.2 (by show (if h.nid < lim then h.nid ≤ h.nid else _); rw [if_pos (show h.nid < lim by unfold lim; omega)]; exact Nat.le_refl _)
          have hfr2 : (ovr (.wr [rlo h.nid]) (hp { h with t := t1, nid := h.nid + 1 }) S2).fr (h.nid + 1) := (A2 (h.nid + 1) (touch_loc (o := h.nid + 1) (by omega) (.head _))).2.2 (by show (if h.nid + 1 < lim then h.nid + 1 ≤ h.nid + 1 else _); rw [if_pos (show h.nid + 1 < lim by unfold lim; omega)]; exact Nat.le_refl _)
          have hob4 := ag_ob (x := .oth (.loop st pe)) (by omega) h3q A4 (.head _)
          rw [v2 _ A2] at A3 A4 hob4 hq
          rw [v4 _ A4] at hq
          rw [v1 _ A1] at hfr2 A3 A4 hob4 hq
          rintro a w ⟨gg, hI, hxx, hd, hs, hv⟩
          have hI : Inv gg S2 w := hI
          have hs : a.tmps.size = n := hs
          refine wpIn_rangeFunc (fun fn _ => ?_)
          obtain ⟨i1, x1⟩ := hI.alloc (s := (0, 0)) hfr1 (x := .oth .dfr) (ob := .deferred (some [])) ⟨_, heap_alloc_new w _, rfl⟩
          have q1 := gput_at (g := gg) (o := h.nid) (p := (some w.heap.size, (0, 0)))
          generalize gput gg h.nid (some w.heap.size, (0, 0)) = g1 at i1 x1 q1
          obtain ⟨rr, hrr⟩ : ∃ rr : Loop, rr = { state := .ready, pending := none, fn, tmps := a.tmps, params := ps.toArray, assign := as.code, body := bd.code, defers := w.heap.size } := ⟨_, rfl⟩
          obtain ⟨g2, i2, x2, q2, l2⟩ := i1.newlp hfr2 rr
          have hsz : (w.alloc (.deferred (some []))).heap.size = w.heap.size + 1 := Array.size_push _
          rw [hsz] at q2 l2
          have hu := V_opz (st := stF n F ds S2) hs hv 0 g
          rw [← opd_eq, hf] at hu
          generalize hev : a.eval g = u at hu
          cases hu with
          | fn _ _ _ fv cv hf1 hc1 h1 h2 =>
          obtain ⟨w1, hw1⟩ : ∃ w1, w1 = (w.alloc (.deferred (some []))).alloc (.loop rr) := ⟨_, rfl⟩
          rw [← hw1] at i2 x2
          rw [show rr.state = .ready by rw [hrr], show rr.pending = none by rw [hrr]] at i2 x2
          refine ⟨w.heap.size + 1, [{ target := .collected w.heap.size, args := #[] }], w1, { target := .fn (.func f) cv, args := fv ++ #[.func (.yield (w.heap.size + 1)) #[] #[]] }, w1, f, (fv.toList ++ .func (.yield (w.heap.size + 1)) #[] #[] :: cv.toList).toArray, w1, ?_, ?_, fun f' _ => trivial, ?_, fun h => by simp [FR, Fence.wide] at h, callsIn_FR ?_⟩
          · rw [hw1, hrr]; exact run_enterLoop_outer fn a.tmps ps.toArray as.code bd.code
          · simp only [resolve, hev, Deferred.ofValue, Sem.run_pure]
            congr 3
            simp [Act.eval]
          · have h2 := k2.fn.run ((fv.toList ++ .func (.yield (w.heap.size + 1)) #[] #[] :: cv.toList).toArray) w1
            simp only [invoke]
            rw [show fv ++ #[.func (.yield (w.heap.size + 1)) #[] #[]] ++ cv = (fv.toList ++ .func (.yield (w.heap.size + 1)) #[] #[] :: cv.toList).toArray by apply Array.ext'; simp]
            exact h2
          · have hle := x1.le.trans x2.le
            refine (k2.ok _ A3 g2 w1 (fv.toList ++ .func (.yield (w.heap.size + 1)) #[] #[] :: cv.toList) i2 (by simp [hf1, hc1]) (list3 (by simp [hf1]) (fun i c x e1 e2 => (h1 i c x e1 (by simpa using e2)).mono hle)
              (.yld _ n F ps J as bd _ _ _ q2 l2 (by rw [hrr]; rfl) (by rw [hrr]; rfl) (by rw [hrr]; rfl) (by rw [hrr]; exact hs) (fun i hi => by rw [hrr]; exact (hv i hi).mono hle)) (fun i c x e1 e2 => (h2 i c x e1 (by simpa using e2)).mono hle))).mono ?_
            rintro e1 w3 ⟨v, g3, rfl, _, i3, x3⟩
            obtain ⟨b3, s3, ob3, k1, k2', k3⟩ := i3.oth (h.nid + 1) _ hob4
            have hb3 := x3.le.at' _ _ q2
            rw [k1] at hb3
            obtain ⟨rfl, rfl⟩ : b3 = w.heap.size + 1 ∧ s3 = (0, 0) := by simpa using hb3
            obtain ⟨r3, rfl, r1, r2⟩ := k3
            have hend := run_endLoop (P := P) k2' (by rw [r1]; intro hh; rw [hh] at hb; cases hb)
            obtain ⟨i4, x4⟩ := i3.setlp (st' := .exhausted) (pe' := r3.pending) hob4 k1 k2'
            have hdel : ∀ (S : Hp) o ob, (S.del (h.nid + 1)).ob o = some ob → (S.set (h.nid + 1) (.oth (.loop .exhausted r3.pending))).ob o = some ob := fun S o ob e => by
              have e : (if o = h.nid + 1 then none else S.ob o) = some ob := e
              show (if o = h.nid + 1 then _ else S.ob o) = some ob
              by_cases ho : o = h.nid + 1
              · rw [if_pos ho] at e; cases e
              · rw [if_neg ho] at e; rw [if_neg ho]; exact e
            have i4 := i4.less (hdel _) (fun _ e => e)
            have x4 := x4.trans (Ext.less (hdel _) (fun _ e => e))
            have hxs := ((x1.trans (hw1 ▸ x2)).trans x3).trans x4
            have hR : ∀ S5, Inv g3 S5 (w3.putObj (w.heap.size + 1) (.loop { r3 with state := .exhausted, pending := r3.pending })) → Ext S2 gg w S5 g3 (w3.putObj (w.heap.size + 1) (.loop { r3 with state := .exhausted, pending := r3.pending })) → R S0 g0 w0 (stF n F (h.nid :: ds) S5) { a with defers := [{ target := .collected w.heap.size, args := #[] }] ++ a.defers } (w3.putObj (w.heap.size + 1) (.loop { r3 with state := .exhausted, pending := r3.pending })) := by
              intro S5 i4 hxs
              refine ⟨g3, i4, hxx.trans hxs, ⟨by have := hd.1; simp [stF] at this ⊢; exact this, fun i d el e1 e2 => ?_⟩, hs, fun i hi => (hv i hi).mono hxs.le⟩
              cases i with
              | zero =>
                simp [stF] at e1 e2; subst e1 e2
                exact ⟨w.heap.size, (0, 0), (x2.le.trans x3.le).at' _ _ q1, rfl⟩
              | succ i => exact (hd.mono hxs.le).2 i d el (by simpa [stF] using e1) (by simpa using e2)
            have hR := hR _ i4 hxs
            have hend : (Instr.endLoop (w.heap.size + 1)).run P w3 = .ok r3.pending (w3.putObj (w.heap.size + 1) (.loop { r3 with state := .exhausted, pending := r3.pending })) := hend
            generalize w3.putObj (w.heap.size + 1) (.loop { r3 with state := .exhausted, pending := r3.pending }) = w4 at hR hend
            refine ⟨r3.pending, _, hend, ?_⟩
            rw [r2]
            rcases jumpX_ok hj with ⟨h5, h6⟩ | ⟨h5, h6⟩ | ⟨id, h5, h6⟩
            · rw [h6] at hq; rw [h5]; exact ⟨_, hR, hq⟩
            · rw [h6] at hq; rw [h5]; exact wpIn_ret ⟨_, hR, hq⟩
            · rw [h6] at hq; rw [h5]; exact wpIn_exit ⟨_, hR, hq⟩
        · cases hr
      · cases hr
    · cases hr
end
end
end Go.Bm
