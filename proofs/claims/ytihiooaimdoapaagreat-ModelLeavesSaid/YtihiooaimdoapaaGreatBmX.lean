/- Operations, run: copies, what is cleared, least and greatest, functions made. -/
import Derived.Test.YtihiooaimdoapaaGreatBmW
set_option linter.unusedVariables false
set_option linter.unusedSimpArgs false
namespace Go.Bm
noncomputable section
open Go.RowKit
section
variable {P : Program} {E : Env} {o : Oper} {ρ : Operand → A} {h : H} {β : Type} {K : A → H → Fp → Option β} {r : β}
/-- Something that is there is written. -/
theorem Step.put {h1 : H} {X : Ref} {x : Ob} {T1 : List Nat} {pv : A} (hd : ∀ c, o.op ≠ .defer c) (hX : okR X = true) (k2 : PutOk h h1 X x) (pres : ∀ (g : G) (S : Hp) (w : World) (a : Act), Inv g S w → (∀ x ∈ o.op.operands, V g (ρ x) (a.eval x)) → g.at' X.id ≠ none)
    (k : ∀ S2, Agree (.pt (rs1 X) T1) (hp h) S2 → OpS P o ρ S2 (S2.set X.id x) pv) : Step P o ρ h h1 (.pt (rs1 X) T1) pv where
  out := fun i hi => k2.1 i (by
    have hi : (false || (rs1 X :: T1).any (Nat.beq (res i))) = false := hi
    rw [List.any_cons, Bool.or_eq_false_iff, Bool.or_eq_false_iff] at hi
    show (false || [rs1 X].any (Nat.beq (res i))) = false
    rw [List.any_cons, hi.2.1]; rfl)
  rd := fun i hi => k2.1 i (by simpa [wt, touch, Fp.pt, Fp.wr] using hi)
  ok := fun S2 hA => by
    refine OpS.opR (OpS.at' fun g w a hI hv => ?_) hd
    have hT1 : touch (.pt (rs1 X) T1) X.id = true := touch_ref hX (.head _)
    have hnf : ¬ (hp h).fr X.id := fun hf => pres g S2 w a hI hv (hI.fresh _ ((hA _ hT1).2.2 hf))
    rw [k2.2 hnf, ovr_app (fun u hu => by rcases List.mem_singleton.1 hu with rfl; exact hT1) hA]
    exact k S2 hA
theorem V.atw {g : G} {X : Ref} {z : Nat} {v : Value} (hv : V g (.tw X z) v) : g.at' X.id ≠ none := by cases hv <;> simp_all
theorem V.ats {g : G} {X : Ref} {z off n : Nat} {v : Value} (hv : V g (.ts X z off n) v) : g.at' X.id ≠ none := by cases hv <;> simp_all
def copyK (E : Env) (T : Nat) (px py : A) (h : H) (K : A → H → Fp → Option β) : Option β := match isSl E T with
  | some el => match tget E.tab el with
    | some e => match e.t, px with
      | some t, .tw X z => bif Nat.blt 0 e.size then srcK h t py (fun l T1 => rowK h X (fun t' l0 => match castT (.slc t') (.slc t) l0 with
        | some l0 => bif Nat.beq z e.size then gd (nlt 0 (len (α := t.T) l0)) (gd (nle (len l) (len (α := t.T) l0)) (putRow h X t (cat l (dr (α := t.T) (len l) l0)) (fun h1 => K (.v (.int .i64 (zN (len l)))) h1 (.pt (rs1 X) T1)))) else none
        | none => none)) else none
      | _, _ => none
    | none => none
  | none => none
theorem copyK_ok (hE : EnvOk P E) {T T' : Nat} {x y : Operand} (ho : o.op = .call { callee := .builtin .copy, args := #[x, y], argTypes := #[T, T'] }) (hr : copyK E T (ρ x) (ρ y) h K = some r) : Out P o ρ h K r := by
  have hd : ∀ c, o.op ≠ .defer c := by rw [ho]; intro c e; cases e
  unfold copyK at hr
  split at hr
  · rename_i el he
    split at hr
    · rename_i e ht
      have hk := hE.tab _ _ ht
      split at hr
      · rename_i t X z hty hx
        have hts := hk.ts t hty
        obtain ⟨h0, hr⟩ := cond_some hr
        have h0 := blt_lt h0
        obtain ⟨l, T1, hr, hsrc⟩ := srcK_ok hr
        obtain ⟨t', l0, hr, hX, hob⟩ := rowK_ok hr
        split at hr
        · rename_i l0' hl
          obtain ⟨e', rfl⟩ := castT_eq hl
          cases e'
          obtain ⟨hz, hr⟩ := cond_some hr
          have hz := beq_eq hz
          obtain ⟨h1, hr⟩ := gd_inv hr
          have h1 : 0 < l0.length := h1
          obtain ⟨h2, hr⟩ := gd_inv hr
          have h2 : l.length ≤ l0.length := h2
          obtain ⟨h', k1, k2⟩ := putRow_ok hX hr
          refine ⟨_, _, _, k1, .put hd hX k2 (fun g S w a hI hv => ?_) (fun S2 hA => ?_)⟩
          · have hv := hv x (by simp [ho, Op.operands, Call.operands])
            rw [hx] at hv
            exact hv.atw
          · have hob2 := (hA _ (touch_ref hX (.head _))).1.trans hob
            have := opS_copy (P := P) (ρ := ρ) (n := l0.length) (m := l.length) (off := 0) (z := e.size) ho (isSl_ok hE he) hk.ti.size (fun g w v hI hv => by
              rw [hx, hz, ← hts] at hv
              rcases hv.twLen hI (by rw [hts]; exact h0) hob2 with ⟨ad, _, rfl, rfl⟩ | ⟨b, s, cap, d, hat, rfl, k2, k3, k4, k5⟩
              · simp at h1
              · exact ⟨b, s, cap, d, hat, rfl, fun _ => k2 (by omega)⟩) hob2 (by rw [flatA_len, hts]; omega) (by have := hsrc S2 (hA.mono fun i hi => .tail _ hi); rwa [hts] at this) h2
            have e2 : put (l0.flatMap (encA t)) 0 (l.flatMap (encA t)) = (cat l (dr (len l) l0)).flatMap (encA t) := by
              rw [flat_cat, flat_dr]
              unfold put
              rw [flatA_len, List.take_zero, List.nil_append, Nat.zero_add]; rfl
            rw [e2] at this
            exact this
        · cases hr
      · cases hr
    · cases hr
  · cases hr
def clrK (E : Env) (T : Nat) (px : A) (h : H) (K : A → H → Fp → Option β) : Option β := match isSl E T with
  | some el => match tget E.tab el with
    | some e => match e.t, px with
      | some t, .ts X z off n => bif Nat.blt 0 e.size then rowK h X (fun t' l0 => match castT (.slc t') (.slc t) l0 with
        | some l0 => bif Nat.beq z e.size then gd (nlt 0 n) (putRow h X t (cat (tk (α := t.T) off l0) (cat (rep n t.dflt) (dr (α := t.T) (nadd off n) l0))) (fun h1 => K .junk h1 (.wr [rs1 X]))) else none
        | none => none) else none
      | _, _ => none
    | none => none
  | none => none
theorem clrK_ok (hE : EnvOk P E) {T : Nat} {x : Operand} (ho : o.op = .call { callee := .builtin .clear, args := #[x], argTypes := #[T] }) (hr : clrK E T (ρ x) h K = some r) : Out P o ρ h K r := by
  have hd : ∀ c, o.op ≠ .defer c := by rw [ho]; intro c e; cases e
  unfold clrK at hr
  split at hr
  · rename_i el he
    split at hr
    · rename_i e ht
      have hk := hE.tab _ _ ht
      split at hr
      · rename_i t X z off n hty hx
        have hts := hk.ts t hty
        obtain ⟨h0, hr⟩ := cond_some hr
        have h0 := blt_lt h0
        obtain ⟨t', l0, hr, hX, hob⟩ := rowK_ok hr
        split at hr
        · rename_i l0' hl
          obtain ⟨e', rfl⟩ := castT_eq hl
          cases e'
          obtain ⟨hz, hr⟩ := cond_some hr
          have hz := beq_eq hz
          obtain ⟨h1, hr⟩ := gd_inv hr
          have h1 : 0 < n := h1
          obtain ⟨h', k1, k2⟩ := putRow_ok hX hr
          refine ⟨_, _, _, k1, .put hd hX k2 (fun g S w a hI hv => ?_) (fun S2 hA => OpS.at' fun g0 w0 a0 hI0 hv0 => ?_)⟩
          · have hv := hv x (by simp [ho, Op.operands, Call.operands])
            rw [hx] at hv
            exact hv.ats
          · have hob2 := (hA _ (touch_ref hX (.head _))).1.trans hob
            have hle : off + n ≤ l0.length := by
              have hv := hv0 x (by simp [ho, Op.operands, Call.operands])
              rw [hx, hz, ← hts] at hv
              exact ts_le hI0 (by rw [hts]; exact h0) hob2 hv
            have := opS_clear (P := P) (ρ := ρ) (n := n) (off := off * e.size) (z := e.size) ho (isSl_ok hE he) hk.ti h0 (hk.tz t hty) (fun g w v hI hv => by
              rw [hx, hz] at hv
              cases hv with
              | ts0 _ _ _ _ _ _ hn => omega
              | ts _ _ _ _ b cap s hat hn _ _ _ d hd' => exact ⟨b, s, cap, d, hat, rfl, fun _ => hd' (by omega)⟩) h1 hob2 (by rw [flatA_len, hts, ← Nat.add_mul]; exact Nat.mul_le_mul_right _ hle)
            have e2 : put (l0.flatMap (encA t)) (off * e.size) (reps n (encA t t.dflt)) = (cat (tk off l0) (cat (rep n t.dflt) (dr (nadd off n) l0))).flatMap (encA t) := by
              rw [flat_cat, flat_cat, flat_tk, flat_dr, rep_flat, hts]
              unfold put
              rw [reps_len, encA_len, hts, ← Nat.add_mul]; rfl
            rw [e2] at this
            exact this
        · cases hr
      · cases hr
    · cases hr
  · cases hr
def mmK (mx : Bool) (px py : A) (h : H) (K : A → H → Fp → Option β) : Option β := match px, py with
  | .v (.int k m), .v (.int k' n) => if k = k' then K (.v (.int k (bif mx then imax m n else imin m n))) h .no else none
  | _, _ => none
theorem mmK_max {Ts : Array TypeId} {x y : Operand} (ho : o.op = .call { callee := .builtin .max, args := #[x, y], argTypes := Ts }) (hr : mmK true (ρ x) (ρ y) h K = some r) : Out P o ρ h K r := by
  unfold mmK at hr
  split at hr
  · rename_i k m k' n hx hy
    split at hr
    · rename_i hk; subst hk
      exact .pure hr (fun S2 => opS_max ho hx hy) (by rw [ho]; intro c e; cases e)
    · cases hr
  · cases hr
theorem mmK_min {Ts : Array TypeId} {x y : Operand} (ho : o.op = .call { callee := .builtin .min, args := #[x, y], argTypes := Ts }) (hr : mmK false (ρ x) (ρ y) h K = some r) : Out P o ρ h K r := by
  unfold mmK at hr
  split at hr
  · rename_i k m k' n hx hy
    split at hr
    · rename_i hk; subst hk
      exact .pure hr (fun S2 => opS_min ho hx hy) (by rw [ho]; intro c e; cases e)
    · cases hr
  · cases hr
def mkfK (f : FuncId) (fi ca : List A) (h : H) (K : A → H → Fp → Option β) : Option β := K (.fn f fi ca) h .no
theorem mkfK_ok {f : FuncId} {fi ca : Array Operand} (ho : o.op = .makeFunc (.func f) fi ca) (hr : mkfK f (fi.toList.map ρ) (ca.toList.map ρ) h K = some r) : Out P o ρ h K r :=
  .pure hr (fun S2 => opS_makeFunc ho) (by rw [ho]; intro c e; cases e)
end
end
end Go.Bm
