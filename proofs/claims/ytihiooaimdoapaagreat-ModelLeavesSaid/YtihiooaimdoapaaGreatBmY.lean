/- Operations, run: maps. -/
import Derived.Test.YtihiooaimdoapaaGreatBmX
set_option linter.unusedVariables false
set_option linter.unusedSimpArgs false
namespace Go.Bm
noncomputable section
open Go.RowKit
section
variable {P : Program} {E : Env} {o : Oper} {ρ : Operand → A} {S : Hp}
def modA (es : List (A × A)) (n : Nat) (v : A) : List (A × A) := es.modify n fun e => (e.1, v)
/-- An entry that there is gets another value. -/
theorem opS_putf (hE : EnvOk P E) {T K T2 : Nat} {X : Ref} {x y z : Operand} {e : TyE} {es : List (A × A)} {vz : A} {n : Nat} {old : A} (ho : o.op = .mapUpdate T x y z) (hT : P.underlying T = some (.map K T2)) (he : tget E.tab K = some e) (ht : keyTy E e.d = true) {b : Bool} (hs : keyE E K e.d (ρ y) (ρ y) = some b)
    (hx : ρ x = .mp X) (hm : S.ob X.id = some (.oth (.map es))) (hvz : ∀ g v, V g (ρ z) v → V g vz v) (hr : findA (keyE E K e.d (ρ y)) es 0 = some (some (n, old)))
    (hkey : ∀ g v q v', es[n]? = some q → V g (ρ y) v → V g q.1 v' → v' = v ∧ Instr.sameBits 10000 v v = true) : OpS P o ρ S (S.set X.id (.oth (.map (modA es n vz)))) .junk := by
  intro g w a next Q hI hv K'
  have e1 := hx ▸ hv x (by simp [ho, Op.operands])
  have e2 := hv y (by simp [ho, Op.operands])
  have e3 := hv z (by simp [ho, Op.operands])
  obtain ⟨blk, s, mes, clock, h1, h2, h3, h4⟩ := e1.map_at hI hm
  have hc := check_key hE w false he ht hs e2
  rcases h4.find (w := w) hE he e2 hr with ⟨hh, _⟩ | ⟨n', p, x', hh, hx', _, hn, hf⟩
  · cases hh
  cases hh
  obtain ⟨q, hq⟩ : ∃ q, es[n]? = some q := ⟨_, List.getElem?_eq_getElem hn⟩
  obtain ⟨k1, k2⟩ := hkey g _ q _ hq e2 (h4.2 n x' q hx' hq).1
  have hents : Ents g (mes.modify n fun e => { e with key := a.eval y, val := a.eval z }) (modA es n vz) := by
    refine ⟨by simp [modA, h4.1], fun m c r hy hz => ?_⟩
    unfold modA at hz
    rw [List.getElem?_modify] at hz
    rw [Array.getElem?_modify] at hy
    by_cases hmn : n = m
    · subst hmn
      simp only [if_true, hx', hq, Option.map_some, Option.map_eq_map, Option.some.injEq] at hy hz
      subst hy hz
      exact ⟨by rw [← k1]; exact (h4.2 n x' q hx' hq).1, hvz _ _ e3⟩
    · simp only [if_neg hmn, Option.map_eq_map, Option.map_id'] at hy hz
      exact h4.2 m c r hy hz
  obtain ⟨q1, q2⟩ := hI.setmap (clock' := clock) hm h2 h3 hents
  have hstay : (Instr.keyThatStays (((mes[n]?).map (·.key)).getD (a.eval y)) (a.eval y)).run P w = .ok (a.eval y) w := by
    rw [hx']
    simp only [Option.map_some, Option.getD_some, k1]
    simp [Instr.keyThatStays, k2]
  have hrun : (Instr.mapUpdate T (.map (some blk)) (a.eval y) (a.eval z)).run P w = .ok () { w with heap := w.heap.setIfInBounds blk (.map (mes.modify n fun e => { e with key := a.eval y, val := a.eval z }) clock) } := by
    simp only [Instr.mapUpdate, Sem.run_bind, run_underlying hT, Result.andThen_ok, MapKept.run_getObj_map h3, hc, hf, hstay, MapKept.run_setObj_map _ h3]
  unfold Oper.wp
  simp only [execOp, ho, h1, Sem.run_bind, hrun, Result.andThen_ok, Sem.run_pure]
  exact K' _ g _ (.junk _) q1 q2
end
/-- One of the entries is the one, or none is. -/
def findK {β : Type} (f : A → Option Bool) : List (A × A) → Nat → (Option (Nat × A) → Option β) → Option β
  | [], _, K => K none
  | (k, v) :: r, i, K => match f k with
    | some b => br b (K (some (i, v))) (findK f r (i + 1) K)
    | none => none
theorem findK_ok {β : Type} {f : A → Option Bool} {r : β} : ∀ (es : List (A × A)) (i : Nat) (K : Option (Nat × A) → Option β), findK f es i K = some r → ∃ x, K x = some r ∧ findA f es i = some x
  | [], i, K, h => ⟨none, h, rfl⟩
  | (k, v) :: es, i, K, h => by
    unfold findK at h
    split at h
    · rename_i b hb
      rcases br_inv h with ⟨rfl, h1⟩ | ⟨rfl, h1⟩
      · exact ⟨_, h1, by unfold findA; rw [hb]⟩
      · obtain ⟨x, k1, k2⟩ := findK_ok es (i + 1) K h1
        exact ⟨x, k1, by unfold findA; rw [hb]; exact k2⟩
    · cases h
/-! ### typed entries -/
/-- Whole numbers, held against each other. -/
def eqT : (t : Ty) → t.T → t.T → Bool
  | .int _, x, y => ieql x y
  | .pair a b, x, y => eqT a x.1 y.1 && eqT b x.2 y.2
  | _, _, _ => false
def mfi {κ α : Type} (p : κ → Bool) : List (κ × α) → Nat → Option (Nat × α)
  | [], _ => none
  | (k, v) :: r, i => bif p k then some (i, v) else mfi p r (i + 1)
def mset {κ α : Type} (l : List (κ × α)) (n : Nat) (v : α) : List (κ × α) := l.modify n fun e => (e.1, v)
def mdel {κ α : Type} (l : List (κ × α)) (n : Nat) : List (κ × α) := l.eraseIdx n
def isIntE (E : Env) (T : Nat) (k : IntKind) : Bool := match tget E.tab T with
  | some ⟨.int k', 1, _, _, _, _, _⟩ => if k' = k then true else false
  | _ => false
def kshF (E : Env) : List Field → Nat → Ty → Bool
  | [fd], i, .int k => Nat.beq fd.offset i && isIntE E fd.type k
  | fd :: fs, i, .pair (.int k) t => Nat.beq fd.offset i && isIntE E fd.type k && kshF E fs (i + 1) t
  | _, _, _ => false
def ksh (E : Env) (K : Nat) (e : TyE) (ka : Bool) (t : Ty) : Bool := match e.d with
  | .int k => !ka && (match t with
    | .int k' => if k' = k then true else false
    | _ => false)
  | .struct fs => ka && E.eqs.any (Nat.beq K) && kshF E fs.toList 0 t
  | _ => false
theorem isIntE_ok {E : Env} {T : Nat} {k : IntKind} (h : isIntE E T k = true) : ∃ e, tget E.tab T = some e ∧ e.d = .int k ∧ e.size = 1 := by
  unfold isIntE at h
  split at h
  · rename_i k' _ _ _ _ _ ht
    split at h
    · rename_i hk; subst hk; exact ⟨_, ht, rfl, rfl⟩
    · cases h
  · cases h
theorem eqC_int {E : Env} {T : Nat} {k : IntKind} {m n : Int} (h : isIntE E T k = true) (f : Nat) : eqC E (f + 1) T [.v (.int k m)] [.v (.int k n)] = some (ieql m n) := by
  obtain ⟨e, h1, h2, _⟩ := isIntE_ok h
  unfold eqC
  rw [h1]
  simp only [h2, if_true]
theorem kshF_eq {E : Env} (f : Nat) : ∀ (fs : List Field) (i : Nat) (t : Ty), kshF E fs i t = true → ∀ (p q : List A) (x y : t.T), p.length = i → q.length = i → eqF E (eqC E (f + 1)) fs (p ++ encA t x) (q ++ encA t y) = some (eqT t x y)
  | [], _, _, h => by simp [kshF] at h
  | [fd], i, .int k, h => fun p q x y hp hq => by
    simp only [kshF, Bool.and_eq_true] at h
    have h1 := beq_eq h.1
    obtain ⟨e, e1, e2, e3⟩ := isIntE_ok h.2
    unfold eqF
    rw [e1]
    simp only [e3, h1]
    rw [← hp, List.drop_left, hp, ← hq, List.drop_left]
    have := eqC_int (m := x) (n := y) h.2 f
    simp only [encA, List.take_succ_cons, List.take_zero, this, eqF]
    simp [eqT, band]
  | fd :: fs, i, .pair (.int k) t, h => fun p q x y hp hq => by
    have h : (Nat.beq fd.offset i && isIntE E fd.type k && kshF E fs (i + 1) t) = true := by
      cases fs <;> exact h
    simp only [Bool.and_eq_true] at h
    have h1 := beq_eq h.1.1
    obtain ⟨e, e1, e2, e3⟩ := isIntE_ok h.1.2
    unfold eqF
    rw [e1]
    simp only [e3, h1]
    have ih := kshF_eq f fs (i + 1) t h.2 (p ++ [A.v (.int k x.1)]) (q ++ [A.v (.int k y.1)]) x.2 y.2 (by simp [hp]) (by simp [hq])
    have ex : ∀ (p : List A) (x : (Ty.pair (.int k) t).T), p ++ encA (.pair (.int k) t) x = p ++ [A.v (.int k x.1)] ++ encA t x.2 := fun p x => by
      show p ++ ([A.v (.int k x.1)] ++ encA t x.2) = _
      rw [List.append_assoc]
    rw [ex, ex, ih]
    have hd1 : ((p ++ [A.v (.int k x.1)] ++ encA t x.2).drop i).take 1 = [A.v (.int k x.1)] := by rw [← hp, List.append_assoc, List.drop_left]; rfl
    have hd2 : ((q ++ [A.v (.int k y.1)] ++ encA t y.2).drop i).take 1 = [A.v (.int k y.1)] := by rw [← hq, List.append_assoc, List.drop_left]; rfl
    rw [hd1, hd2]
    exact congrArg (fun z : Option Bool => match z, some (eqT t x.2 y.2) with
      | some a, some b => some (band a b)
      | _, _ => none) (eqC_int (m := x.1) (n := y.1) h.1.2 f)
  | [_], _, .bool, h => by simp [kshF] at h
  | _ :: _ :: _, _, .bool, h => by simp [kshF] at h
  | _ :: _ :: _, _, .int _, h => by simp [kshF] at h
  | _ :: _, _, .unit, h => by simp [kshF] at h
  | _ :: _, _, .pair .bool _, h => by simp [kshF] at h
  | _ :: _, _, .pair .unit _, h => by simp [kshF] at h
  | _ :: _, _, .pair (.pair _ _) _, h => by simp [kshF] at h
  | _ :: _, _, .pair (.arr _ _) _, h => by simp [kshF] at h
  | _ :: _, _, .pair (.slc _) _, h => by simp [kshF] at h
  | _ :: _, _, .pair (.ptr _) _, h => by simp [kshF] at h
  | _ :: _, _, .pair (.nptr _) _, h => by simp [kshF] at h
  | _ :: _, _, .pair (.rsl _ _) _, h => by simp [kshF] at h
  | _ :: _, _, .pair (.wrg _ _) _, h => by simp [kshF] at h
  | _ :: _, _, .pair (.mp _) _, h => by simp [kshF] at h
  | _ :: _, _, .arr _ _, h => by simp [kshF] at h
  | _ :: _, _, .slc _, h => by simp [kshF] at h
  | _ :: _, _, .ptr _, h => by simp [kshF] at h
  | _ :: _, _, .nptr _, h => by simp [kshF] at h
  | _ :: _, _, .rsl _ _, h => by simp [kshF] at h
  | _ :: _, _, .wrg _ _, h => by simp [kshF] at h
  | _ :: _, _, .mp _, h => by simp [kshF] at h
theorem ksh_eq {E : Env} {K : Nat} {e : TyE} {ka : Bool} {t : Ty} (he : tget E.tab K = some e) (h : ksh E K e ka t = true) (x y : t.T) : keyE E K e.d (packA ka t x) (packA ka t y) = some (eqT t x y) := by
  unfold ksh at h
  split at h
  · rename_i k hd
    cases ka with
    | true => simp at h
    | false =>
      simp only [Bool.not_false, Bool.true_and] at h
      split at h
      · split at h
        · rename_i k' hk
          subst hk
          unfold keyE packA
          simp only [hd, cond_false, encA, if_true]
          rfl
        · cases h
      · cases h
  · rename_i fs hd
    simp only [Bool.and_eq_true] at h
    obtain ⟨⟨rfl, hq⟩, hs⟩ := h
    have h1 := kshF_eq 0 fs.toList 0 t hs [] [] x y rfl rfl
    simp only [List.nil_append] at h1
    unfold keyE packA
    simp only [hd, cond_true, isAggP, Bool.and_self, A.cells]
    show eqC E 2 K (encA t x) (encA t y) = some (eqT t x y)
    unfold eqC
    rw [he]
    simp only [hd, hq, cond_true]
    exact h1
  · cases h
theorem findA_typed {E : Env} {K : Nat} {e : TyE} {ka va : Bool} {t tv : Ty} (he : tget E.tab K = some e) (h : ksh E K e ka t = true) (x : t.T) : ∀ (es : List (t.T × tv.T)) (i : Nat),
    findA (keyE E K e.d (packA ka t x)) (es.map fun e => (packA ka t e.1, packA va tv e.2)) i = some ((mfi (eqT t x) es i).map fun p => (p.1, packA va tv p.2))
  | [], i => rfl
  | (k, v) :: es, i => by
    rw [List.map_cons]
    unfold findA mfi
    simp only [ksh_eq he h x k]
    cases eqT t x k with
    | true => rfl
    | false => exact findA_typed he h x es (i + 1)
theorem ieql_eq {a b : Int} (h : ieql a b = true) : a = b := by unfold ieql at h; exact of_decide_eq_true h
theorem kshF_same {E : Env} : ∀ (fs : List Field) (i : Nat) (t : Ty), kshF E fs i t = true → ∀ x y : t.T, eqT t x y = true → x = y
  | [], _, _, h => by simp [kshF] at h
  | [_], _, .int _, _ => fun _ _ e => ieql_eq e
  | fd :: fs, i, .pair (.int k) t, h => fun x y e => by
    have h : (Nat.beq fd.offset i && isIntE E fd.type k && kshF E fs (i + 1) t) = true := by
      cases fs <;> exact h
    simp only [Bool.and_eq_true] at h
    have e : (ieql x.1 y.1 && eqT t x.2 y.2) = true := e
    simp only [Bool.and_eq_true] at e
    exact Prod.ext (ieql_eq e.1) (kshF_same fs (i + 1) t h.2 _ _ e.2)
  | [_], _, .bool, h => by simp [kshF] at h
  | _ :: _ :: _, _, .bool, h => by simp [kshF] at h
  | _ :: _ :: _, _, .int _, h => by simp [kshF] at h
  | _ :: _, _, .unit, h => by simp [kshF] at h
  | _ :: _, _, .pair .bool _, h => by simp [kshF] at h
  | _ :: _, _, .pair .unit _, h => by simp [kshF] at h
  | _ :: _, _, .pair (.pair _ _) _, h => by simp [kshF] at h
  | _ :: _, _, .pair (.arr _ _) _, h => by simp [kshF] at h
  | _ :: _, _, .pair (.slc _) _, h => by simp [kshF] at h
  | _ :: _, _, .pair (.ptr _) _, h => by simp [kshF] at h
  | _ :: _, _, .pair (.nptr _) _, h => by simp [kshF] at h
  | _ :: _, _, .pair (.rsl _ _) _, h => by simp [kshF] at h
  | _ :: _, _, .pair (.wrg _ _) _, h => by simp [kshF] at h
  | _ :: _, _, .pair (.mp _) _, h => by simp [kshF] at h
  | _ :: _, _, .arr _ _, h => by simp [kshF] at h
  | _ :: _, _, .slc _, h => by simp [kshF] at h
  | _ :: _, _, .ptr _, h => by simp [kshF] at h
  | _ :: _, _, .nptr _, h => by simp [kshF] at h
  | _ :: _, _, .rsl _ _, h => by simp [kshF] at h
  | _ :: _, _, .wrg _ _, h => by simp [kshF] at h
  | _ :: _, _, .mp _, h => by simp [kshF] at h
theorem sb_int (n : Nat) (k : IntKind) (m : Int) : Instr.sameBits n (.int k m) (.int k m) = true := by cases n <;> simp [Instr.sameBits]
theorem kshF_ints {E : Env} : ∀ (fs : List Field) (i : Nat) (t : Ty), kshF E fs i t = true → ∀ (x : t.T) (g : G) (vs : List Value), Vs g (encA t x) vs → (∀ g' vs', Vs g' (encA t x) vs' → vs' = vs) ∧ ∀ n, ((vs.zip vs).all fun (a, b) => Instr.sameBits n a b) = true
  | [], _, _, h => by simp [kshF] at h
  | [_], _, .int k, _ => fun x g vs hv => by
    obtain ⟨v, rfl, h1, _⟩ := Vs.one' (show Vs g [.v (.int k x)] vs from hv)
    cases h1
    refine ⟨fun g' vs' hv' => ?_, fun n => ?_⟩
    · obtain ⟨v', rfl, h1', _⟩ := Vs.one' (show Vs g' [.v (.int k x)] vs' from hv')
      cases h1'; rfl
    · exact (Bool.and_true _).trans (sb_int n k x)
  | fd :: fs, i, .pair (.int k) t, h => fun x g vs hv => by
    have h : (Nat.beq fd.offset i && isIntE E fd.type k && kshF E fs (i + 1) t) = true := by
      cases fs <;> exact h
    simp only [Bool.and_eq_true] at h
    obtain ⟨v1, v2⟩ := Vs.split (show Vs g (encA (.int k) x.1 ++ encA t x.2) vs from hv)
    obtain ⟨r1, r2⟩ := kshF_ints fs (i + 1) t h.2 x.2 g _ v2
    obtain ⟨v, e1, h1, _⟩ := Vs.one' (show Vs g [.v (.int k x.1)] _ from v1)
    cases h1
    have hvs : vs = Value.int k x.1 :: vs.drop (encA (.int k) x.1).length := by
      have := List.take_append_drop (encA (.int k) x.1).length vs
      rw [e1] at this
      exact this.symm
    refine ⟨fun g' vs' hv' => ?_, fun n => ?_⟩
    · obtain ⟨v1', v2'⟩ := Vs.split (show Vs g' (encA (.int k) x.1 ++ encA t x.2) vs' from hv')
      obtain ⟨v', e1', h1', _⟩ := Vs.one' (show Vs g' [.v (.int k x.1)] _ from v1')
      cases h1'
      have hvs' : vs' = Value.int k x.1 :: vs'.drop (encA (.int k) x.1).length := by
        have := List.take_append_drop (encA (.int k) x.1).length vs'
        rw [e1'] at this
        exact this.symm
      rw [hvs', hvs, r1 _ _ v2']
    · rw [hvs, List.zip_cons_cons, List.all_cons, r2 n]
      exact (Bool.and_true _).trans (sb_int n k x.1)
  | [_], _, .bool, h => by simp [kshF] at h
  | _ :: _ :: _, _, .bool, h => by simp [kshF] at h
  | _ :: _ :: _, _, .int _, h => by simp [kshF] at h
  | _ :: _, _, .unit, h => by simp [kshF] at h
  | _ :: _, _, .pair .bool _, h => by simp [kshF] at h
  | _ :: _, _, .pair .unit _, h => by simp [kshF] at h
  | _ :: _, _, .pair (.pair _ _) _, h => by simp [kshF] at h
  | _ :: _, _, .pair (.arr _ _) _, h => by simp [kshF] at h
  | _ :: _, _, .pair (.slc _) _, h => by simp [kshF] at h
  | _ :: _, _, .pair (.ptr _) _, h => by simp [kshF] at h
  | _ :: _, _, .pair (.nptr _) _, h => by simp [kshF] at h
  | _ :: _, _, .pair (.rsl _ _) _, h => by simp [kshF] at h
  | _ :: _, _, .pair (.wrg _ _) _, h => by simp [kshF] at h
  | _ :: _, _, .pair (.mp _) _, h => by simp [kshF] at h
  | _ :: _, _, .arr _ _, h => by simp [kshF] at h
  | _ :: _, _, .slc _, h => by simp [kshF] at h
  | _ :: _, _, .ptr _, h => by simp [kshF] at h
  | _ :: _, _, .nptr _, h => by simp [kshF] at h
  | _ :: _, _, .rsl _ _, h => by simp [kshF] at h
  | _ :: _, _, .wrg _ _, h => by simp [kshF] at h
  | _ :: _, _, .mp _, h => by simp [kshF] at h
/-- Equal keys are one value. -/
theorem ksh_same {E : Env} {K : Nat} {e : TyE} {ka : Bool} {t : Ty} (h : ksh E K e ka t = true) {x y : t.T} (hxy : eqT t x y = true) {g : G} {v v' : Value} (h1 : V g (packA ka t x) v) (h2 : V g (packA ka t y) v') : v' = v ∧ Instr.sameBits 10000 v v = true := by
  unfold ksh at h
  split at h
  · rename_i k hd
    cases ka with
    | true => simp at h
    | false =>
      simp only [Bool.not_false, Bool.true_and] at h
      split at h
      · split at h
        · have := ieql_eq hxy
          subst this
          cases h1; cases h2
          exact ⟨rfl, sb_int _ _ _⟩
        · cases h
      · cases h
  · rename_i fs hd
    simp only [Bool.and_eq_true] at h
    obtain ⟨⟨rfl, hq⟩, hs⟩ := h
    have := kshF_same _ _ _ hs _ _ hxy
    subst this
    have c1 := h1.cells rfl
    have c2 := h2.cells rfl
    obtain ⟨us, rfl⟩ := h1.aggP rfl
    obtain ⟨us', rfl⟩ := h2.aggP rfl
    obtain ⟨r1, r2⟩ := kshF_ints _ _ _ hs x g _ c1
    have e := r1 _ _ c2
    have e : us' = us := Array.ext' e
    subst e
    refine ⟨rfl, ?_⟩
    have := r2 9999
    simp only [Value.cells] at this
    rw [show (10000 : Nat) = 9999 + 1 from rfl, Instr.sameBits]
    simp only [this, Bool.and_true, beq_self_eq_true]
  · cases h
end
end Go.Bm
