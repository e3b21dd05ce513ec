/- Regions, in the order of the text. -/
import Derived.Test.YtihiooaimdoapaaGreatBnB
set_option linter.unusedVariables false
set_option linter.unusedSimpArgs false
namespace Go.Bm
noncomputable section
open Go.RowKit
/-! ### footprints, one behind the other -/
def Fp.cat (T U : Fp) : Fp := ⟨T.all || U.all, T.rs ++ U.rs, T.w || U.w, T.ws ++ U.ws⟩
theorem touch_cat (T U : Fp) (i : Nat) : touch (T.cat U) i = (touch T i || touch U i) := by
  unfold touch Fp.cat
  simp only [List.any_append]
  cases T.all <;> cases U.all <;> cases T.rs.any (Nat.beq (res i)) <;> cases U.rs.any (Nat.beq (res i)) <;> rfl
theorem wt_cat {T U : Fp} {i : Nat} (h : wt (T.cat U) i = false) : wt T i = false ∧ wt U i = false := by
  have h : ((T.w || U.w) && (T.ws ++ U.ws).any (Nat.beq (res i))) = false := h
  show (T.w && T.ws.any (Nat.beq (res i))) = false ∧ (U.w && U.ws.any (Nat.beq (res i))) = false
  rw [List.any_append] at h
  generalize T.ws.any (Nat.beq (res i)) = a at h ⊢
  generalize U.ws.any (Nat.beq (res i)) = b at h ⊢
  generalize T.w = c at h ⊢
  generalize U.w = d at h ⊢
  revert h
  cases a <;> cases b <;> cases c <;> cases d <;> decide
theorem Fp.cat_assoc (T U V : Fp) : (T.cat U).cat V = T.cat (U.cat V) := by
  unfold Fp.cat
  simp [Bool.or_assoc]
theorem Fp.no_cat (T : Fp) : Fp.no.cat T = T := by cases T; rfl
theorem Fp.cat_no (T : Fp) : T.cat .no = T := by cases T; simp [Fp.cat, Fp.no]
/-- What a piece of a run leaves as it was. -/
structure Fr2 (h h' : H) (T : Fp) : Prop where
  out : ∀ i, touch T i = false → (hp h').ob i = (hp h).ob i ∧ ((hp h').fr i ↔ (hp h).fr i)
  rd : ∀ i, wt T i = false → (hp h').ob i = (hp h).ob i ∧ ((hp h').fr i ↔ (hp h).fr i)
theorem Fr2.refl (h : H) : Fr2 h h .no := ⟨fun _ _ => ⟨rfl, Iff.rfl⟩, fun _ _ => ⟨rfl, Iff.rfl⟩⟩
theorem Fr2.trans {h h1 h2 : H} {T U : Fp} (a : Fr2 h h1 T) (b : Fr2 h1 h2 U) : Fr2 h h2 (T.cat U) where
  out := fun i hi => by
    rw [touch_cat, Bool.or_eq_false_iff] at hi
    have e1 := a.out i hi.1
    have e2 := b.out i hi.2
    exact ⟨e2.1.trans e1.1, e2.2.trans e1.2⟩
  rd := fun i hi => by
    obtain ⟨h1, h2⟩ := wt_cat hi
    have e1 := a.rd i h1
    have e2 := b.rd i h2
    exact ⟨e2.1.trans e1.1, e2.2.trans e1.2⟩
theorem Agree.left {T U : Fp} {S S2 : Hp} (h : Agree (T.cat U) S S2) : Agree T S S2 := fun i hi => h i (by rw [touch_cat, hi]; rfl)
theorem Agree.right {h h1 : H} {T U : Fp} {S2 : Hp} (f : Fr2 h h1 T) (k : Agree (T.cat U) (hp h) S2) : Agree U (hp h1) (ovr T (hp h1) S2) := fun i hi => by
  show (if touch T i = true then (hp h1).ob i else S2.ob i) = (hp h1).ob i ∧ ((if touch T i = true then (hp h1).fr i else S2.fr i) ↔ (hp h1).fr i)
  cases ht : touch T i with
  | true => exact ⟨if_pos rfl, by rw [if_pos rfl]⟩
  | false =>
    have e := f.out i ht
    have k := k i (by rw [touch_cat, hi]; simp)
    rw [if_neg (by simp), if_neg (by simp)]
    exact ⟨k.1.trans e.1.symm, k.2.trans e.2.symm⟩
theorem ovr_cat {h1 h2 : H} {T U : Fp} {S2 : Hp} (f : Fr2 h1 h2 U) : ovr U (hp h2) (ovr T (hp h1) S2) = ovr (T.cat U) (hp h2) S2 := by
  refine Hp.ext' (fun i => ?_) (fun i => ?_)
  · show (if touch U i = true then (hp h2).ob i else (if touch T i = true then (hp h1).ob i else S2.ob i)) = (if touch (T.cat U) i = true then (hp h2).ob i else S2.ob i)
    rw [touch_cat]
    cases hu : touch U i with
    | true => simp
    | false =>
      cases ht : touch T i with
      | true => simp [(f.out i hu).1]
      | false => simp
  · show (if touch U i = true then (hp h2).fr i else (if touch T i = true then (hp h1).fr i else S2.fr i)) ↔ (if touch (T.cat U) i = true then (hp h2).fr i else S2.fr i)
    rw [touch_cat]
    cases hu : touch U i with
    | true => simp
    | false =>
      cases ht : touch T i with
      | true => simp [(f.out i hu).2]
      | false => simp
theorem ovr_end {h h' : H} {T : Fp} (f : Fr2 h h' T) : ovr T (hp h') (hp h) = hp h' := Hp.ext' (fun i => by
  show (if touch T i = true then _ else _) = _
  split
  · rfl
  · rename_i hi; exact (f.out i (by simpa using hi)).1.symm) (fun i => by
  show (if touch T i = true then _ else _) ↔ _
  split
  · exact Iff.rfl
  · rename_i hi; exact (f.out i (by simpa using hi)).2.symm)
theorem ovr_no (S S2 : Hp) : ovr .no S S2 = S2 := Hp.ext' (fun i => rfl) (fun i => Iff.rfl)
/-! ### slots -/
def stF (n : Nat) (F : Tr A) (ds : List Nat) (S : Hp) : St := ⟨slotA F.get, n, ds, S⟩
def opd (n : Nat) (F : Tr A) : Operand → A
  | .tmp i => bif Nat.blt i n then slotA F.get i else .junk
  | .const v => .v v
  | .global _ => .junk
  | .func f => .fn f [] []
theorem lt_blt {a b : Nat} (h : a < b) : Nat.blt a b = true := by simpa using h
theorem nlt_blt {a b : Nat} (h : ¬ a < b) : Nat.blt a b = false := by
  cases hx : Nat.blt a b with
  | false => rfl
  | true => exact absurd (blt_lt hx) h
theorem opd_eq (n : Nat) (F : Tr A) (ds : List Nat) (S : Hp) : opd n F = (stF n F ds S).opz 0 := by
  funext x
  cases x with
  | tmp i =>
    show (bif Nat.blt i n then slotA F.get i else .junk) = (if i < n then slotA F.get i else .junk)
    by_cases h : i < n
    · rw [if_pos h, lt_blt h]; rfl
    · rw [if_neg h, nlt_blt h]; rfl
  | _ => rfl
/-! ### values are looked at once -/
def fcV {β : Type} (v : Value) (k : Value → β) : β := match v with
  | .int a n => k (.int a n)
  | .bool b => k (.bool b)
  | v => k v
theorem fcV_eq {β : Type} (v : Value) (k : Value → β) : fcV v k = k v := by unfold fcV; split <;> rfl
def fcS {β : Type} (p : A) (k : A → β) : β := match p with
  | .v x => fcV x (fun x => k (.v x))
  | .ptr o off => k (.ptr o off)
  | .tp x π => k (.tp x π)
  | .tw x z => k (.tw x z)
  | .tl t f l => k (.tl t f l)
  | .op r o => k (.op r o)
  | p => k p
theorem fcS_eq {β : Type} (p : A) (k : A → β) : fcS p k = k p := by unfold fcS; split <;> first | exact fcV_eq _ _ | rfl
def fcL {β : Type} : List A → (List A → β) → β
  | [], k => k []
  | c :: cs, k => fcS c (fun c => fcL cs (fun cs => k (c :: cs)))
theorem fcL_eq {β : Type} : ∀ (l : List A) (k : List A → β), fcL l k = k l
  | [], _ => rfl
  | c :: cs, k => by unfold fcL; rw [fcS_eq]; exact fcL_eq cs _
def fcA {β : Type} (p : A) (k : A → β) : β := match p with
  | .agg cs => fcL cs (fun cs => k (.agg cs))
  | .tup cs => fcL cs (fun cs => k (.tup cs))
  | .fn f fi ca => fcL fi (fun fi => fcL ca (fun ca => k (.fn f fi ca)))
  | p => fcS p k
theorem fcA_eq {β : Type} (p : A) (k : A → β) : fcA p k = k p := by
  unfold fcA
  split
  · exact fcL_eq _ _
  · exact fcL_eq _ _
  · rw [fcL_eq, fcL_eq]
  · exact fcS_eq _ _
def putF {β : Type} (F : Tr A) (d : Option Nat) (p : A) (k : Tr A → Option β) : Option β := match d with
  | none => k F
  | some d => fcA p (fun p => setT F d (some p) k)
/-- Slots that nobody writes stay. -/
def Kp (l : List Nat) (F F' : Tr A) : Prop := ∀ i, i ∉ l → slotA F'.get i = slotA F.get i
theorem Kp.refl (l : List Nat) (F : Tr A) : Kp l F F := fun _ _ => rfl
theorem Kp.trans {l k m : List Nat} {F F1 F2 : Tr A} (a : Kp l F F1) (b : Kp k F1 F2) (hl : ∀ i ∈ l, i ∈ m) (hk : ∀ i ∈ k, i ∈ m) : Kp m F F2 := fun i hi => (b i (fun h => hi (hk i h))).trans (a i (fun h => hi (hl i h)))
theorem Kp.mono {l m : List Nat} {F F1 : Tr A} (a : Kp l F F1) (hl : ∀ i ∈ l, i ∈ m) : Kp m F F1 := fun i hi => a i (fun h => hi (hl i h))
theorem Kp.of {l : List Nat} {n : Nat} {F F' : Tr A} (h : ∀ ds S, stF n F' ds S = stF n F ds S) : Kp l F F' := fun i _ => congrFun (congrArg St.t (h [] ⟨fun _ => none, fun _ => False⟩)) i
theorem putF_ok {β : Type} {F : Tr A} {d : Option Nat} {p : A} {k : Tr A → Option β} {r : β} (h : putF F d p k = some r) : ∃ F', k F' = some r ∧ Kp d.toList F F' ∧ ∀ (n : Nat) (ds : List Nat) (S S' : Hp), ((stF n F ds S).put d p).to S' = stF n F' ds S' := by
  cases d with
  | none => exact ⟨F, h, .refl _ F, fun n ds S S' => rfl⟩
  | some d =>
    have h : fcA p (fun p => setT F d (some p) k) = some r := h
    rw [fcA_eq] at h
    obtain ⟨_, F', k1, k2⟩ := setT_inv h
    refine ⟨F', k1, fun i hi => by
      simp only [slotA, k2]
      rw [if_neg (fun e => hi (by rw [e]; exact .head _))], fun n ds S S' => ?_⟩
    have e : (fun i => if i = d then p else slotA F.get i) = slotA F'.get := by
      funext i
      simp only [slotA, k2]
      by_cases hi : i = d
      · rw [if_pos hi, if_pos hi]
      · rw [if_neg hi, if_neg hi]
    simp only [St.put, St.to, stF, e]
/-- What a guard asks is looked at; from then on it is known. -/
def grdK {β : Type} (l0 : List Oper) (n : Nat) (F : Tr A) (j : Nat) (want : Bool) (k : Tr A → Bool → Option β) : Option β := match (l0[j]?).bind (·.dst) with
  | some d => match opd n F (.tmp d) with
    | .v (.bool b) => br b (setT F d (some (.v (.bool true))) (fun F' => k F' want)) (setT F d (some (.v (.bool false))) (fun F' => k F' (!want)))
    | .un => k F false
    | _ => none
  | none => none
theorem opd_tmp {n : Nat} {F : Tr A} {d : Nat} {p : A} (h : opd n F (.tmp d) = p) (hp : p ≠ .junk) : slotA F.get d = p := by
  have h : (bif Nat.blt d n then slotA F.get d else .junk) = p := h
  cases hb : Nat.blt d n with
  | true => rw [hb] at h; exact h
  | false => rw [hb] at h; exact absurd h.symm hp
theorem grdK_ok {β : Type} {l0 : List Oper} {n : Nat} {F : Tr A} {j : Nat} {want : Bool} {k : Tr A → Bool → Option β} {r : β} (h : grdK l0 n F j want k = some r) : ∃ F' b, k F' b = some r ∧ (∀ ds S, stF n F' ds S = stF n F ds S) ∧ ∀ ds S, gval l0.toArray (stF n F ds S) j want = some b := by
  unfold grdK at h
  split at h
  · rename_i d hd
    have gv : ∀ (b : Bool) (ds : List Nat) (S : Hp), ((match opd n F (.tmp d) with | .v (.bool b) => some (b == want) | .un => some false | _ => none) : Option Bool) = some b → gval l0.toArray (stF n F ds S) j want = some b := fun b ds S hb => by
      unfold gval
      rw [List.getElem?_toArray, ← opd_eq, hd]
      exact hb
    split at h
    · rename_i b hb
      have same : ∀ (F' : Tr A) (c : Bool), b = c → F'.get = (fun m => if m = d then some (.v (.bool c)) else F.get m) → ∀ ds S, stF n F' ds S = stF n F ds S := fun F' c hc e ds S => by
        have : slotA F'.get = slotA F.get := by
          funext i
          by_cases hi : i = d
          · subst hi
            rw [opd_tmp hb (by intro h; cases h), hc]
            unfold slotA
            rw [e]; simp
          · unfold slotA
            rw [e]; simp [hi]
        unfold stF
        rw [this]
      rcases br_inv h with ⟨rfl, h1⟩ | ⟨rfl, h1⟩
      · obtain ⟨_, F', k1, k2⟩ := setT_inv h1
        exact ⟨F', want, k1, same F' true rfl k2, fun ds S => gv _ ds S (by rw [hb]; cases want <;> rfl)⟩
      · obtain ⟨_, F', k1, k2⟩ := setT_inv h1
        exact ⟨F', !want, k1, same F' false rfl k2, fun ds S => gv _ ds S (by rw [hb]; cases want <;> rfl)⟩
    · rename_i hb
      exact ⟨F, false, h, fun ds S => rfl, fun ds S => gv _ ds S (by rw [hb])⟩
    · cases h
  · cases h
/-! ### operands that may be none are looked at ahead of an operation -/
def nrmO (p : A) : A := match p with
  | .op r (some j) => .tp (.reg r j) []
  | .op _ none => .v (.pointer none)
  | .os r z (some j) => .tw (.reg r j) z
  | .os _ _ none => .e0
  | .om r (some j) => .mp (.reg r j)
  | .om _ none => .v (.map none)
  | p => p
theorem nrmO_ok {p : A} {g : G} {v : Value} (h : V g p v) : V g (nrmO p) v := by
  unfold nrmO
  split
  · cases h with | op _ _ _ _ h1 => exact h1 _ rfl
  · cases h with | op _ _ _ h0 _ => rw [h0 rfl]; exact .v _
  · cases h with | os _ _ _ _ _ h1 => exact h1 _ rfl
  · cases h with | os _ _ _ _ h0 _ => exact h0 rfl
  · cases h with | om _ _ _ _ h1 => exact h1 _ rfl
  · cases h with | om _ _ _ h0 _ => rw [h0 rfl]; exact .v _
  · exact h
def opn (n : Nat) (F : Tr A) (l : List Nat) (x : Operand) : A := match x with
  | .tmp i => bif l.any (Nat.beq i) then nrmO (opd n F (.tmp i)) else opd n F (.tmp i)
  | x => opd n F x
theorem opn_ok {n : Nat} {F : Tr A} {l : List Nat} {x : Operand} {g : G} {v : Value} (h : V g (opd n F x) v) : V g (opn n F l x) v := by
  cases x with
  | tmp i =>
    show V g (bif l.any (Nat.beq i) then nrmO (opd n F (.tmp i)) else opd n F (.tmp i)) v
    cases l.any (Nat.beq i) with
    | true => exact nrmO_ok h
    | false => exact h
  | _ => exact h
def splL {β : Type} : List Nat → Tr A → (Tr A → Option β) → Option β
  | [], F, k => k F
  | i :: l, F, k => match slotA F.get i with
    | .op r v => opt v (setT F i (some (.op r none)) (fun F => splL l F k)) (fun j => setT F i (some (.op r (some j))) (fun F => splL l F k))
    | .os r z v => opt v (setT F i (some (.os r z none)) (fun F => splL l F k)) (fun j => setT F i (some (.os r z (some j))) (fun F => splL l F k))
    | .om r v => opt v (setT F i (some (.om r none)) (fun F => splL l F k)) (fun j => setT F i (some (.om r (some j))) (fun F => splL l F k))
    | _ => splL l F k
theorem splL_ok {β : Type} {r : β} : ∀ (l : List Nat) (F : Tr A) (k : Tr A → Option β), splL l F k = some r → ∃ F', k F' = some r ∧ slotA F'.get = slotA F.get
  | [], F, k, h => ⟨F, h, rfl⟩
  | i :: l, F, k, h => by
    have same : ∀ (p : A), slotA F.get i = p → setT F i (some p) (fun F => splL l F k) = some r → ∃ F', k F' = some r ∧ slotA F'.get = slotA F.get := fun p hp h => by
      obtain ⟨_, F1, k1, k2⟩ := setT_inv h
      obtain ⟨F2, k3, k4⟩ := splL_ok l F1 k k1
      refine ⟨F2, k3, k4.trans ?_⟩
      funext m
      unfold slotA at hp ⊢
      rw [k2]
      by_cases hm : m = i
      · subst hm; simp only [if_true]; exact hp.symm
      · simp only [if_neg hm]
    unfold splL at h
    split at h
    · rename_i q v hq
      rcases opt_inv h with ⟨e, h1⟩ | ⟨j, e, h1⟩
      · exact same _ (by rw [hq, e]) h1
      · exact same _ (by rw [hq, e]) h1
    · rename_i q z v hq
      rcases opt_inv h with ⟨e, h1⟩ | ⟨j, e, h1⟩
      · exact same _ (by rw [hq, e]) h1
      · exact same _ (by rw [hq, e]) h1
    · rename_i q v hq
      rcases opt_inv h with ⟨e, h1⟩ | ⟨j, e, h1⟩
      · exact same _ (by rw [hq, e]) h1
      · exact same _ (by rw [hq, e]) h1
    · exact splL_ok l F k h
def tmpO (x : Operand) : List Nat := match x with
  | .tmp i => [i]
  | _ => []
/-- Which operands are looked at. -/
def splO (op : Op) : List Nat := match op with
  | .fieldAddr _ x _ => tmpO x
  | .indexAddr _ x _ => tmpO x
  | .load _ x => tmpO x
  | .store _ x _ => tmpO x
  | .slice _ x _ _ _ => tmpO x
  | .lookup _ x _ _ => tmpO x
  | .mapUpdate _ x _ _ => tmpO x
  | .insert _ x _ _ => tmpO x
  | .nilCheck x => tmpO x
  | .call c => match c.callee with
    | .builtin _ => c.args.toList.flatMap tmpO
    | _ => []
  | _ => []
section
variable {P : Program} {E : Env} {cx : Cx} {n : Nat} {β : Type} {r : β}
def opP (E : Env) (cx : Cx) (n : Nat) (op : Op) (F : Tr A) (h : H) (K : Tr A → A → H → Fp → Option β) : Option β :=
  splL (splO op) F (fun F' => opK E cx op (opn n F' (splO op)) h (fun pv h' T => K F' pv h' T))
theorem opP_ok (hE : EnvOk P E) (hx : CxOk P cx) {o : Oper} {F : Tr A} {h : H} {K : Tr A → A → H → Fp → Option β} (hr : opP E cx n o.op F h K = some r) :
    ∃ F', (∀ ds S, stF n F' ds S = stF n F ds S) ∧ ∃ pv h' T, K F' pv h' T = some r ∧ Step P o (opd n F') h h' T pv := by
  obtain ⟨F', h1, h2⟩ := splL_ok _ _ _ hr
  obtain ⟨pv, h', T, k1, k2⟩ := opK_ok hE hx h1
  refine ⟨F', fun ds S => by unfold stF; rw [h2], pv, h', T, k1, k2.out, k2.rd, fun S2 hA r g w a next Q hI hv => k2.ok S2 hA r g w a next Q hI (fun x hx => opn_ok (hv x hx))⟩
def asgO (l : List Oper) : List Nat := l.flatMap fun o => o.dst.toList
def regK (E : Env) (cx : Cx) (n : Nat) (l0 : List Oper) : List Oper → Tr A → H → Fp → (Tr A → H → Fp → Option β) → Option β
  | [], F, h, U, K => K F h U
  | o :: l, F, h, U, K => match o.guard with
    | none => opP E cx n o.op F h (fun F pv h' T => putF F o.dst pv (fun F' => regK E cx n l0 l F' h' (U.cat T) K))
    | some (j, want) => grdK l0 n F j want (fun F b => bif b then opP E cx n o.op F h (fun F pv h' T => putF F o.dst pv (fun F' => regK E cx n l0 l F' h' (U.cat T) K)) else putF F o.dst .un (fun F' => regK E cx n l0 l F' h U K))
/-- What is shown of a piece that leads from one state to another. -/
def Leads (F : Tr A) (h : H) (F' : Tr A) (h' : H) (n : Nat) (T : Fp) (W : (Exit → St → Prop) → St → Prop) (e : Exit) (ds ds' : List Nat) : Prop :=
  ∀ S2, Agree T (hp h) S2 → ∀ Q : Exit → St → Prop, Q e (stF n F' ds' (ovr T (hp h') S2)) → W Q (stF n F ds S2)
theorem regK_ok (hE : EnvOk P E) (hx : CxOk P cx) {l0 : List Oper} : ∀ (l : List Oper) (F : Tr A) (h : H) (U : Fp) (K : Tr A → H → Fp → Option β), regK E cx n l0 l F h U K = some r →
    ∃ F' h' T, K F' h' (U.cat T) = some r ∧ Kp (asgO l) F F' ∧ Fr2 h h' T ∧ ∀ ro S0 g0 w0 ds, Leads F h F' h' n T (fun Q st => pwl P ro S0 g0 w0 l0.toArray Q l st) .normal ds ds
  | [], F, h, U, K, hr => ⟨F, h, .no, by rw [Fp.cat_no]; exact hr, .refl _ F, .refl h, fun ro S0 g0 w0 ds S2 hA Q hq => by
      rw [ovr_no] at hq; exact pwl_nil hq⟩
  | o :: l, F, h, U, K, hr => by
    have yes : ∀ (F : Tr A), opP E cx n o.op F h (fun F pv h' T => putF F o.dst pv (fun F' => regK E cx n l0 l F' h' (U.cat T) K)) = some r →
        (∀ ds S, o.guard = none ∨ ∃ j want, o.guard = some (j, want) ∧ gval l0.toArray (stF n F ds S) j want = some true) →
        ∃ F' h' T, K F' h' (U.cat T) = some r ∧ Kp (asgO (o :: l)) F F' ∧ Fr2 h h' T ∧ ∀ ro S0 g0 w0 ds, Leads F h F' h' n T (fun Q st => pwl P ro S0 g0 w0 l0.toArray Q (o :: l) st) .normal ds ds := fun F hr hg => by
      obtain ⟨F0, e0, pv, h1, T1, k1, k2⟩ := opP_ok hE hx hr
      obtain ⟨F1, k3, kp1, k4⟩ := putF_ok k1
      obtain ⟨F2, h2, T2, k5, kp2, k6, k7⟩ := regK_ok hE hx l F1 h1 (U.cat T1) K k3
      have f1 : Fr2 h h1 T1 := ⟨k2.out, k2.rd⟩
      have hg : ∀ ds S, o.guard = none ∨ ∃ j want, o.guard = some (j, want) ∧ gval l0.toArray (stF n F0 ds S) j want = some true := fun ds S => by rw [e0]; exact hg ds S
      refine ⟨F2, h2, T1.cat T2, by rw [← Fp.cat_assoc]; exact k5, (Kp.of (l := []) e0).trans (m := asgO (o :: l)) (kp1.trans kp2 (fun i hi => List.mem_append_left _ hi) (fun i hi => List.mem_append_right _ hi)) (fun i hi => by cases hi) (fun i hi => hi), f1.trans k6, fun ro S0 g0 w0 ds S2 hA Q hq => ?_⟩
      rw [← e0]
      have hop : OpR P o ((stF n F0 ds S2).opz 0) (stF n F0 ds S2).S (ovr T1 (hp h1) S2) pv := by rw [← opd_eq]; exact k2.ok S2 hA.left
      have hrest : pwl P ro S0 g0 w0 l0.toArray Q l (((stF n F0 ds S2).put o.dst pv).to (ovr T1 (hp h1) S2)) := by
        rw [k4]
        refine k7 ro S0 g0 w0 ds _ (Agree.right f1 hA) Q ?_
        rw [ovr_cat k6]; exact hq
      rcases hg ds S2 with hg | ⟨j, want, hg, hv⟩
      · exact pwl_step 0 hg hop hrest
      · exact pwl_step_yes 0 hg hv hop hrest
    unfold regK at hr
    split at hr
    · rename_i hg
      exact yes F hr (fun _ _ => .inl hg)
    · rename_i j want hg
      obtain ⟨F1, b, k1, k2, k3⟩ := grdK_ok hr
      cases b with
      | true =>
        simp only [cond_true] at k1
        obtain ⟨F', h', T, q1, qp, q2, q3⟩ := yes F1 k1 (fun ds S => .inr ⟨j, want, hg, by rw [k2]; exact k3 ds S⟩)
        refine ⟨F', h', T, q1, (Kp.of (l := []) k2).trans qp (fun i hi => by cases hi) (fun i hi => hi), q2, fun ro S0 g0 w0 ds S2 hA Q hq => ?_⟩
        rw [← k2]
        exact q3 ro S0 g0 w0 ds S2 hA Q hq
      | false =>
        simp only [cond_false] at k1
        obtain ⟨F2, k4, kp1, k5⟩ := putF_ok k1
        obtain ⟨F', h', T, q1, qp, q2, q3⟩ := regK_ok hE hx l F2 h U K k4
        refine ⟨F', h', T, q1, (Kp.of (l := []) k2).trans (m := asgO (o :: l)) (kp1.trans qp (fun i hi => List.mem_append_left _ hi) (fun i hi => List.mem_append_right _ hi)) (fun i hi => by cases hi) (fun i hi => hi), q2, fun ro S0 g0 w0 ds S2 hA Q hq => ?_⟩
        have := q3 ro S0 g0 w0 ds S2 hA Q hq
        rw [← k5 n ds S2 S2] at this
        rw [← k2]
        refine pwl_step_no hg (by rw [k2]; exact k3 ds S2) ?_
        rw [← put_to (st := stF n F1 ds S2)]
        exact this
end
end
end Go.Bm
