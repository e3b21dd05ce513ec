/- Contracts: a function told as a plain one. -/
import Derived.Test.YtihiooaimdoapaaGreatBnJ
set_option linter.unusedVariables false
set_option linter.unusedSimpArgs false
namespace Go.Bm
noncomputable section
open Go.RowKit
deriving instance DecidableEq for RK
def retX : List A → A
  | [p] => p
  | ps => .tup ps
/-- What a function takes, hands back; which regions it looks at, and which it changes. -/
structure Sig where
  ps : List (Bool × Ty)
  rs : List (Bool × Ty)
  rg : List (Nat × RK)
  wg : List (Nat × RK)
def Tup : List (Bool × Ty) → Type
  | [] => Unit
  | p :: l => p.2.T × Tup l
def argsA : (l : List (Bool × Ty)) → Tup l → List A
  | [], _ => []
  | p :: l, x => packA p.1 p.2 x.1 :: argsA l x.2
def Rgs : List (Nat × RK) → Type
  | [] => Unit
  | p :: l => p.2.T × Rgs l
def rgsL : (l : List (Nat × RK)) → Rgs l → List Rg
  | [], _ => []
  | p :: l, x => ⟨p.1, p.2, x.1⟩ :: rgsL l x.2
def h0 (rl wl : List (Nat × RK)) (c : Rgs rl) (d : Rgs wl) : H := ⟨.nil, 0, rgsL wl d ++ rgsL rl c, []⟩
/-- Values, told as typed ones. -/
def unA : (l : List (Bool × Ty)) → List A → Option (Tup l)
  | [], [] => some ()
  | p :: l, a :: as => match packK p.1 p.2 a, unA l as with
    | some x, some y => some (x, y)
    | _, _ => none
  | _, _ => none
theorem unA_ok : ∀ (l : List (Bool × Ty)) (as : List A) (x : Tup l), unA l as = some x → as.length = (argsA l x).length ∧ ∀ (i : Nat) (a b : A), as[i]? = some a → (argsA l x)[i]? = some b → ∀ g v, V g a v → V g b v
  | [], [], x, _ => ⟨rfl, fun i a b h => by simp at h⟩
  | p :: l, a :: as, x, h => by
    simp only [unA] at h
    split at h
    · rename_i y z h1 h2
      cases h
      obtain ⟨k1, k2⟩ := unA_ok l as z h2
      refine ⟨congrArg Nat.succ k1, fun i a' b e1 e2 => ?_⟩
      cases i with
      | zero =>
        have e1 : a = a' := Option.some.inj e1
        have e2 : packA p.1 p.2 y = b := Option.some.inj e2
        subst e1 e2
        exact fun g v hv => packK_ok h1 hv
      | succ i => exact k2 i a' b e1 e2
    · cases h
  | [], _ :: _, _, h => by cases h
  | _ :: _, [], _, h => by cases h
def castR (a b : RK) (c : a.T) : Option b.T := if h : a = b then some (h ▸ c) else none
def kpOf (l : List (Nat × RK)) (r : Nat) : Bool := l.any fun p => Nat.beq p.1 r
/-- Regions, told as typed ones. -/
def getR : (l : List (Nat × RK)) → List Rg → Option (Rgs l)
  | [], _ => some ()
  | p :: l, rg => match rfind rg p.1, getR l rg with
    | some ⟨_, k, c⟩, some y => match castR k p.2 c with
      | some x => some (x, y)
      | none => none
    | _, _ => none
theorem rfind_r : ∀ {rg : List Rg} {r : Nat} {x : Rg}, rfind rg r = some x → x.r = r
  | y :: l, r, x, h => by
    unfold rfind at h
    cases hy : Nat.beq y.r r with
    | true => rw [hy] at h; cases h; exact beq_eq hy
    | false => rw [hy] at h; exact rfind_r h
theorem rfind_rgsL_none : ∀ (l : List (Nat × RK)) (c : Rgs l) (r : Nat), kpOf l r = false → rfind (rgsL l c) r = none
  | [], _, _, _ => rfl
  | p :: l, c, r, h => by
    have h : (Nat.beq p.1 r || kpOf l r) = false := h
    rw [Bool.or_eq_false_iff] at h
    show (bif Nat.beq p.1 r then _ else _) = _
    rw [h.1]
    exact rfind_rgsL_none l c.2 r h.2
theorem rfind_rgsL_some : ∀ (l : List (Nat × RK)) (c : Rgs l) (r : Nat), kpOf l r = true → ∃ x, rfind (rgsL l c) r = some x
  | p :: l, c, r, h => by
    show ∃ x, (bif Nat.beq p.1 r then some (⟨p.1, p.2, c.1⟩ : Rg) else rfind (rgsL l c.2) r) = some x
    cases hq : Nat.beq p.1 r with
    | true => exact ⟨_, rfl⟩
    | false =>
      have h : (Nat.beq p.1 r || kpOf l r) = true := h
      rw [hq, Bool.false_or] at h
      exact rfind_rgsL_some l c.2 r h
theorem rfind_app : ∀ (l k : List Rg) (r : Nat), rfind (l ++ k) r = match rfind l r with | some x => some x | none => rfind k r
  | [], k, r => rfl
  | y :: l, k, r => by
    show (bif Nat.beq y.r r then some y else rfind (l ++ k) r) = match (bif Nat.beq y.r r then some y else rfind l r) with | some x => some x | none => rfind k r
    cases hy : Nat.beq y.r r with
    | true => rfl
    | false => exact rfind_app l k r
theorem getR_find : ∀ (l : List (Nat × RK)) (rg : List Rg) (c : Rgs l), getR l rg = some c → ∀ r, kpOf l r = true → rfind (rgsL l c) r = rfind rg r ∧ ∃ x, rfind rg r = some x
  | [], _, _, _, _, h => by cases h
  | p :: l, rg, c, hg, r, h => by
    simp only [getR] at hg
    split at hg
    · rename_i r' k c' y h1 h2
      split at hg
      · rename_i x hx
        cases hg
        show (bif Nat.beq p.1 r then some (⟨p.1, p.2, x⟩ : Rg) else rfind (rgsL l y) r) = _ ∧ _
        cases hp : Nat.beq p.1 r with
        | true =>
          have e := beq_eq hp
          subst e
          have hr := rfind_r h1
          simp only at hr
          subst hr
          unfold castR at hx
          split at hx
          · rename_i ek
            obtain ⟨p1, p2⟩ := p
            simp only at ek
            subst ek
            cases hx
            rw [h1]
            exact ⟨rfl, _, rfl⟩
          · cases hx
        | false =>
          have h : (Nat.beq p.1 r || kpOf l r) = true := h
          rw [hp, Bool.false_or] at h
          exact getR_find l rg y h2 r h
      · cases hg
    · cases hg
/-! ### own things become data, or a region's, on their way -/
def VsL (g : G) (as : List A) (vs : List Value) : Prop := ∀ (i : Nat) (a : A) (v : Value), as[i]? = some a → vs[i]? = some v → V g a v
def CvL (h h' : H) (T : List Nat) (as as' : List A) : Prop := as'.length = as.length ∧ ∃ us, hp h' = app us (hp h) ∧ (∀ u ∈ us, touch (.wr T) u.id = true) ∧
  ∀ g S w (vs : List Value), Inv g S w → Agree (.wr T) (hp h) S → as.length = vs.length → VsL g as vs → ∃ g', Inv g' (app us S) w ∧ Ext S g w (app us S) g' w ∧ VsL g' as' vs
def fixA (a : Bool) (t : Ty) (p : A) (h : H) : Option (A × H × List Nat) := bif a then (match p with
  | .agg cs => match fixC 20 t cs h with
    | some (cs', h', T) => some (.agg cs', h', T)
    | none => none
  | _ => none) else bif isAg p then none else (match p.cells with
  | some [c] => match fixC 20 t [c] h with
    | some ([c'], h', T) => some (c', h', T)
    | _ => none
  | _ => none)
def fixL : List (Bool × Ty) → List A → H → Option (List A × H × List Nat)
  | [], [], h => some ([], h, [])
  | p :: l, a :: as, h => match fixA p.1 p.2 a h with
    | some (a', h1, T1) => match fixL l as h1 with
      | some (as', h2, T2) => some (a' :: as', h2, T1 ++ T2)
      | none => none
    | none => none
  | _, _, _ => none
theorem cell_self {p c : A} (ha : isAg p = false) (h : p.cells = some [c]) : c = p := by
  unfold A.cells at h
  split at h
  · cases ha
  · rename_i x
    cases hx : x.oneCell' with
    | true => rw [hx] at h; simp at h; exact h.symm
    | false => rw [hx] at h; cases h
  · cases h
  · cases h
  · cases h
  · simp at h; exact h.symm
theorem fixA_ok {a : Bool} {t : Ty} {p p' : A} {h h' : H} {T : List Nat} (hf : fixA a t p h = some (p', h', T)) : ∃ us, hp h' = app us (hp h) ∧ (∀ u ∈ us, touch (.wr T) u.id = true) ∧ ∀ g S w (v : Value), Inv g S w → Agree (.wr T) (hp h) S → V g p v → ∃ g', Inv g' (app us S) w ∧ Ext S g w (app us S) g' w ∧ V g' p' v := by
  unfold fixA at hf
  cases a with
  | true =>
    simp only [cond_true] at hf
    split at hf
    · rename_i cs
      split at hf
      · rename_i cs' h1 T1 hc
        simp only [Option.some.injEq, Prod.mk.injEq] at hf
        obtain ⟨rfl, rfl, rfl⟩ := hf
        obtain ⟨us, c1, c2, c3⟩ := fixC_ok _ _ _ _ _ _ _ hc
        refine ⟨us, c1, c2, fun g S w v hI hA hv => ?_⟩
        cases hv with
        | agg _ vs hl h1 hh =>
          obtain ⟨g', q1, q2, q3⟩ := c3 g S w vs.toList hI hA ⟨by simpa using hl, fun j c x e1 e2 => ⟨hh j c x e1 (by simpa using e2), h1 x (List.mem_of_getElem? e2)⟩⟩
          exact ⟨g', q1, q2, by have := q3.agg; simpa using this⟩
      · cases hf
    · cases hf
  | false =>
    simp only [cond_false] at hf
    obtain ⟨ha, hf⟩ := bif_none hf
    split at hf
    · rename_i c hc
      split at hf
      · rename_i c' h1 T1 hfx
        simp only [Option.some.injEq, Prod.mk.injEq] at hf
        obtain ⟨rfl, rfl, rfl⟩ := hf
        obtain ⟨us, c1, c2, c3⟩ := fixC_ok _ _ _ _ _ _ _ hfx
        obtain rfl := cell_self ha hc
        refine ⟨us, c1, c2, fun g S w v hI hA hv => ?_⟩
        obtain ⟨g', q1, q2, q3⟩ := c3 g S w [v] hI hA ⟨rfl, fun j c x e1 e2 => by
          cases j with
          | zero => simp at e1 e2; subst e1 e2; exact ⟨hv, hv.sc1 ha hc⟩
          | succ j => simp at e1⟩
        exact ⟨g', q1, q2, (q3.2 0 _ v rfl rfl).1⟩
      · cases hf
    · cases hf
theorem fixL_ok : ∀ {l : List (Bool × Ty)} {as as' : List A} {h h' : H} {T : List Nat}, fixL l as h = some (as', h', T) → CvL h h' T as as'
  | [], [], as', h, h', T, hf => by
    simp only [fixL, Option.some.injEq, Prod.mk.injEq] at hf
    obtain ⟨rfl, rfl, rfl⟩ := hf
    exact ⟨rfl, [], rfl, fun u hu => (by simp at hu), fun g S w vs hI _ _ hv => ⟨g, hI, .refl S g w, hv⟩⟩
  | p :: l, a :: as, as', h, h', T, hf => by
    simp only [fixL] at hf
    split at hf
    · rename_i a1 h1 T1 hf1
      split at hf
      · rename_i as1 h2 T2 hf2
        simp only [Option.some.injEq, Prod.mk.injEq] at hf
        obtain ⟨rfl, rfl, rfl⟩ := hf
        obtain ⟨us, c1, c2, c3⟩ := fixA_ok hf1
        obtain ⟨hl, vs2, d1, d2, d3⟩ := fixL_ok hf2
        refine ⟨by simp [hl], us ++ vs2, by rw [app_app, ← c1, d1], fun u hu => ?_, fun g S w vs hI hA hlen hv => ?_⟩
        · rcases List.mem_append.1 hu with h | h
          · exact touch_mono (fun i hi => List.mem_append_left _ hi) (c2 u h)
          · exact touch_mono (fun i hi => List.mem_append_right _ hi) (d2 u h)
        · have hA1 : Agree (.wr T1) (hp h) S := hA.mono fun i hi => List.mem_append_left _ hi
          have hA2 : Agree (.wr T2) (hp h1) (app us S) := by rw [c1]; exact (hA.mono (fun i hi => List.mem_append_right _ hi)).app us
          cases vs with
          | nil => simp at hlen
          | cons v vs =>
            obtain ⟨g', q1, q2, q3⟩ := c3 g S w v hI hA1 (hv 0 a v rfl rfl)
            obtain ⟨g2, z1, z2, z3⟩ := d3 g' _ w vs q1 hA2 (by simpa using hlen) (fun i a v e1 e2 => (hv (i + 1) a v (by simpa using e1) (by simpa using e2)).mono q2.le)
            rw [app_app]
            refine ⟨g2, z1, q2.trans z2, fun i a v e1 e2 => ?_⟩
            cases i with
            | zero => simp at e1 e2; subst e1 e2; exact q3.mono z2.le
            | succ i => exact z3 i a v (by simpa using e1) (by simpa using e2)
      · cases hf
    · cases hf
  | [], _ :: _, _, _, _, _, hf => by cases hf
  | _ :: _, [], _, _, _, _, hf => by cases hf
def fixTup (l : List (Bool × Ty)) (pv : A) (h : H) : Option (A × H × List Nat) := match pv with
  | .tup as => match fixL l as h with
    | some (as', h', T) => some (.tup as', h', T)
    | none => none
  | _ => none
def fixRet (l : List (Bool × Ty)) (pv : A) (h : H) : Option (A × H × List Nat) := match l with
  | [p] => fixA p.1 p.2 pv h
  | l => fixTup l pv h
/-- The function, as a plain one. -/
def Plain (sg : Sig) : Type := Tup sg.ps → Rgs sg.rg → Rgs sg.wg → Option (Tup sg.rs × Rgs sg.wg)
def unRet (l : List (Bool × Ty)) (pv : A) : Option (Tup l) := match l with
  | [p] => unA [p] [pv]
  | l => match pv with
    | .tup as => unA l as
    | _ => none
/-- A resource that may be changed: own ones, and these regions. -/
def okW (l : List (Nat × RK)) (q : Nat) : Bool := Nat.beq (q % 2) 0 || l.any fun p => Nat.beq q (rgn p.1)
/-- What its run comes to. -/
def runA (cx : Cx) (f : FuncId) (sg : Sig) (as : List A) (c : Rgs sg.rg) (d : Rgs sg.wg) : Option (Tup sg.rs × Rgs sg.wg) := cx.call (Tup sg.rs × Rgs sg.wg) f as (h0 sg.rg sg.wg c d) (fun pv h' T => match fixRet sg.rs pv h' with
  | some (pv', h2, T2) => bif T.ws.all (okW sg.wg) && T2.all (okW sg.wg) then (match unRet sg.rs pv', getR sg.wg h2.rg with
    | some y, some d' => some (y, d')
    | _, _ => none) else none
  | none => none)
def runF (cx : Cx) (f : FuncId) (sg : Sig) : Plain sg := fun x c d => runA cx f sg (argsA sg.ps x) c d
def retA (l : List (Bool × Ty)) (y : Tup l) : A := retX (argsA l y)
structure CtOk (P : Program) (f : FuncId) (sg : Sig) (F : Plain sg) : Prop where
  fn : ∀ x c d y, F x c d = some y → FnOk P f
  pc : ∀ x c d y d', F x c d = some (y, d') → ∃ t nid lk, PC P f (argsA sg.ps x) (hp (h0 sg.rg sg.wg c d)) (hp ⟨t, nid, rgsL sg.wg d' ++ rgsL sg.rg c, lk⟩) (retA sg.rs y)
theorem okW_out {l : List (Nat × RK)} {ws : List Nat} (h : ws.all (okW l) = true) {r : Nat} (hr : kpOf l r = false) : ws.any (Nat.beq (rgn r)) = false := by
  cases hx : ws.any (Nat.beq (rgn r)) with
  | false => rfl
  | true =>
    obtain ⟨q, h1, h2⟩ := List.any_eq_true.1 hx
    have h3 := List.all_eq_true.1 h q h1
    obtain rfl := beq_eq h2
    unfold okW at h3
    rw [Bool.or_eq_true] at h3
    rcases h3 with h3 | h3
    · have := beq_eq h3; unfold rgn at this; omega
    · obtain ⟨p, p1, p2⟩ := List.any_eq_true.1 h3
      have : r = p.1 := by have := beq_eq p2; unfold rgn at this; omega
      subst this
      rw [show kpOf l p.1 = true from List.any_eq_true.2 ⟨p, p1, Nat.beq_refl _⟩] at hr
      cases hr
theorem unRet_ok {l : List (Bool × Ty)} {pv : A} {y : Tup l} (h : unRet l pv = some y) : ∀ g v, V g pv v → V g (retA l y) v := by
  have tup : ∀ (l : List (Bool × Ty)) (as : List A) (y : Tup l), unA l as = some y → ∀ g v, V g (.tup as) v → V g (.tup (argsA l y)) v := fun l as y h g v hv => by
    obtain ⟨k1, k2⟩ := unA_ok l as y h
    cases hv with
    | tup _ vs hl hvv =>
      refine .tup _ vs (by rw [← k1]; exact hl) (fun i c x e1 e2 => ?_)
      have hi : i < as.length := by rw [k1]; exact (List.getElem?_eq_some_iff.1 e1).1
      exact k2 i _ c (List.getElem?_eq_getElem hi) e1 g x (hvv i _ x (List.getElem?_eq_getElem hi) e2)
  match l, y, h with
  | [p], y, h => exact fun g v hv => (unA_ok [p] [pv] y h).2 0 pv _ rfl rfl g v hv
  | [], y, h =>
    intro g v hv
    cases pv with
    | tup as => exact tup [] as y h g v hv
    | _ => cases h
  | p :: q :: l, y, h =>
    intro g v hv
    cases pv with
    | tup as => exact tup (p :: q :: l) as y h g v hv
    | _ => cases h
theorem Agree.self {T : Fp} {S : Hp} : Agree T S S := fun _ _ => ⟨rfl, Iff.rfl⟩
theorem hp_ge {h : H} {i : Nat} (hl : ¬ i < lim) : (hp h).ob i = regAt h.rg i ∧ ((hp h).fr i ↔ regFr h.rg i) := ⟨if_neg hl, by show (if i < lim then _ else _) ↔ _; rw [if_neg hl]⟩
theorem res_ge {i : Nat} (h : ¬ i < 16777216) : res i = rgn (rOf i) := by
  unfold res
  rw [nlt_blt h]; rfl
theorem fixRet_ok {l : List (Bool × Ty)} {pv pv' : A} {h h' : H} {T : List Nat} (hf : fixRet l pv h = some (pv', h', T)) : ∃ us, hp h' = app us (hp h) ∧ (∀ u ∈ us, touch (.wr T) u.id = true) ∧ ∀ g S w (v : Value), Inv g S w → Agree (.wr T) (hp h) S → V g pv v → ∃ g', Inv g' (app us S) w ∧ Ext S g w (app us S) g' w ∧ V g' pv' v := by
  have tup : ∀ (l : List (Bool × Ty)), fixTup l pv h = some (pv', h', T) → ∃ us, hp h' = app us (hp h) ∧ (∀ u ∈ us, touch (.wr T) u.id = true) ∧ ∀ g S w (v : Value), Inv g S w → Agree (.wr T) (hp h) S → V g pv v → ∃ g', Inv g' (app us S) w ∧ Ext S g w (app us S) g' w ∧ V g' pv' v := fun l hf => by
    unfold fixTup at hf
    split at hf
    · rename_i as
      split at hf
      · rename_i as' h1 T1 hc
        simp only [Option.some.injEq, Prod.mk.injEq] at hf
        obtain ⟨rfl, rfl, rfl⟩ := hf
        obtain ⟨hl, us, c1, c2, c3⟩ := fixL_ok hc
        refine ⟨us, c1, c2, fun g S w v hI hA hv => ?_⟩
        cases hv with
        | tup _ vs hl2 hh =>
          obtain ⟨g', q1, q2, q3⟩ := c3 g S w vs.toList hI hA (by simpa using hl2) (fun i c x e1 e2 => hh i c x e1 (by simpa using e2))
          exact ⟨g', q1, q2, .tup as' vs (by rw [hl, hl2]) (fun i c x e1 e2 => q3 i c x e1 (by simpa using e2))⟩
      · cases hf
    · cases hf
  unfold fixRet at hf
  split at hf
  · exact fixA_ok hf
  · exact tup _ hf
theorem runA_ok {P : Program} {cx : Cx} (hx : CxOk P cx) (f : FuncId) (sg : Sig) : ∀ as c d y d', runA cx f sg as c d = some (y, d') → FnOk P f ∧ ∃ t nid lk, PC P f as (hp (h0 sg.rg sg.wg c d)) (hp ⟨t, nid, rgsL sg.wg d' ++ rgsL sg.rg c, lk⟩) (retA sg.rs y) := fun as c d y d' h => by
  obtain ⟨pv, h', T, k1, k2⟩ := hx.call _ f _ _ _ _ h
  split at k1
  · rename_i pv' h2 T2 hfix
    obtain ⟨kw, k1⟩ := cond_some k1
    rw [Bool.and_eq_true] at kw
    split at k1
    · rename_i y' d'' h1 hg2
      cases k1
      refine ⟨k2.fn, h2.t, h2.nid, h2.lk, ?_⟩
      have hs := k2.ok (hp (h0 sg.rg sg.wg c d)) Agree.self
      have e : ovr T (hp h') (hp (h0 sg.rg sg.wg c d)) = hp h' := Hp.ext' (fun i => by
        show (if touch T i = true then _ else _) = _
        split
        · rfl
        · rename_i hi; exact (k2.out i (by simpa using hi)).1.symm) (fun i => by
        show (if touch T i = true then _ else _) ↔ _
        split
        · exact Iff.rfl
        · rename_i hi; exact (k2.out i (by simpa using hi)).2.symm)
      rw [e] at hs
      obtain ⟨us, c1, c2, c3⟩ := fixRet_ok hfix
      have hf := getR_find _ _ _ hg2
      have e2 : hp h2 = hp ⟨h2.t, h2.nid, rgsL sg.wg d' ++ rgsL sg.rg c, h2.lk⟩ := by
        have key : ∀ i, ¬ i < lim → (hp h2).ob i = regAt (rgsL sg.wg d' ++ rgsL sg.rg c) i ∧ ((hp h2).fr i ↔ regFr (rgsL sg.wg d' ++ rgsL sg.rg c) i) := fun i hl => by
          cases hk : kpOf sg.wg (rOf i) with
          | true =>
            obtain ⟨q1, x, q2⟩ := hf _ hk
            rw [(hp_ge hl).1, (hp_ge hl).2]
            unfold regAt regFr
            rw [rfind_app, q1, q2]
            exact ⟨rfl, Iff.rfl⟩
          | false =>
            have hw : wt T i = false := by
              unfold wt
              rw [res_ge hl, okW_out kw.1 hk, Bool.and_false]
            have h3 := k2.rd i hw
            have h4 := app_out us (hp h') i (fun u hu e => by
              have := c2 u hu
              rw [← e] at this
              have this : T2.any (Nat.beq (res i)) = true := by simpa [touch, Fp.wr] using this
              rw [res_ge hl, okW_out kw.2 hk] at this; cases this)
            rw [c1, h4.1, h4.2, h3.1, h3.2, (hp_ge hl).1, (hp_ge hl).2]
            show regAt (rgsL sg.wg d ++ rgsL sg.rg c) i = _ ∧ (regFr (rgsL sg.wg d ++ rgsL sg.rg c) i ↔ _)
            unfold regAt regFr
            rw [rfind_app, rfind_app, rfind_rgsL_none _ _ _ hk, rfind_rgsL_none _ _ _ hk]
            exact ⟨rfl, Iff.rfl⟩
        refine Hp.ext' (fun i => ?_) (fun i => ?_)
        · by_cases hl : i < lim
          · show (if i < lim then _ else _) = (if i < lim then _ else _); rw [if_pos hl, if_pos hl]
          · rw [(key i hl).1, (hp_ge hl).1]
        · by_cases hl : i < lim
          · show (if i < lim then _ else _) ↔ (if i < lim then _ else _); rw [if_pos hl, if_pos hl]
          · rw [(key i hl).2, (hp_ge hl).2]
      rw [← e2, c1]
      intro g w vs hI hl hv
      refine (hs g w vs hI hl hv).mono ?_
      rintro e w' ⟨v, g', rfl, q1, q2, q3⟩
      obtain ⟨g2, z1, z2, z3⟩ := c3 g' _ w' v q2 Agree.self q1
      exact ⟨v, g2, rfl, unRet_ok h1 g2 v z3, z1, q3.trans z2⟩
    · cases k1
  · cases k1
theorem runF_ok {P : Program} {cx : Cx} (hx : CxOk P cx) (f : FuncId) (sg : Sig) : CtOk P f sg (runF cx f sg) :=
  ⟨fun x c d y h => (runA_ok hx f sg _ _ _ y.1 y.2 h).1, fun x c d y d' h => (runA_ok hx f sg _ _ _ _ _ h).2⟩
end
end Go.Bm
