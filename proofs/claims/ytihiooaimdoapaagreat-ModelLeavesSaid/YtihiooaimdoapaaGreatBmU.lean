/- Operations, run: slices. -/
import Derived.Test.YtihiooaimdoapaaGreatBmT
set_option linter.unusedVariables false
set_option linter.unusedSimpArgs false
namespace Go.Bm
noncomputable section
open Go.RowKit
section
variable {P : Program} {E : Env} {o : Oper} {ρ : Operand → A} {h : H} {β : Type} {K : A → H → Fp → Option β} {r : β}
/-- A row's length is its cells'. -/
theorem V.twLen {g : G} {S : Hp} {w : World} (hI : Inv g S w) {X : Ref} {t : Ty} {l : List t.T} (h0 : 0 < t.size) (ho : S.ob X.id = some (.cells (l.flatMap (encA t)))) {v : Value} (hv : V g (.tw X t.size) v) :
    (∃ ad, g.at' X.id = some (none, (0, 0)) ∧ v = .slice ad 0 0 ∧ l = []) ∨ ∃ b s cap d, g.at' X.id = some (some b, s) ∧ v = .slice (some ⟨b, d, none⟩) l.length cap ∧ (cap ≠ 0 → d = 0) ∧ l.length ≤ cap ∧ cap ≤ maxLen ∧ cap * t.size ≤ s.2 := by
  have hlen := flatA_len t l
  cases hv with
  | tw0 _ _ ad hat =>
    rcases hI.cells _ _ ho with ⟨_, k2⟩ | ⟨b, tt, k1, _⟩
    · refine .inl ⟨ad, hat, rfl, List.eq_nil_of_length_eq_zero ?_⟩
      rw [k2] at hlen
      rcases Nat.eq_zero_or_pos l.length with h | h
      · exact h
      · have : 0 < l.length * t.size := Nat.mul_pos h h0
        simp at hlen; omega
    · rw [k1] at hat; cases hat
  | tw _ _ m b cap tt hat hn hx' hp d hd' =>
    rcases hI.cells _ _ ho with ⟨k1, _⟩ | ⟨b', tt', k1, _⟩
    · rw [k1] at hat; cases hat
    have hat0 := hat
    rw [k1] at hat
    simp only [Option.some.injEq, Prod.mk.injEq] at hat
    obtain ⟨rfl, hl, rfl⟩ := hat
    rw [hlen] at hl
    have hm : l.length = m := Nat.eq_of_mul_eq_mul_right h0 hl
    subst hm
    exact .inr ⟨b', _, cap, d, hat0, rfl, hd', hn, hx', hp⟩
def lenA (h : H) (px : A) (k : Nat → List Nat → Option β) : Option β := match px with
  | .e0 => k 0 []
  | .v (.slice _ n _) => k n []
  | .tl _ _ l => k (len l) []
  | .tw X z => rowK h X (fun t l => bif Nat.beq z t.size && Nat.blt 0 t.size then k (len l) [rs1 X] else none)
  | .ts _ _ _ n => k n []
  | .tf _ _ _ n => k n []
  | .as _ _ n _ => k n []
  | .sl _ _ _ n => k n []
  | _ => none
theorem V.tlLen {g : G} {t : Ty} {f : Bool} {l : List t.T} {v : Value} (hv : V g (.tl t f l) v) : ∃ ad c, v = .slice ad l.length c := by
  cases hv with
  | tl _ _ _ _ hd =>
    generalize hes : List.map (encD t) l = es at hd
    have hesl : es.length = l.length := by rw [← hes, List.length_map]
    cases hd with
    | sl0 => rw [← hesl]; exact ⟨_, _, rfl⟩
    | sl _ _ _ a cap vs => rw [← hesl]; exact ⟨_, _, rfl⟩
theorem lenA_ok {px : A} {k : Nat → List Nat → Option β} (hr : lenA h px k = some r) : ∃ n T, k n T = some r ∧ ∀ S2, Agree (.rd T) (hp h) S2 → ∀ g w v, Inv g S2 w → V g px v → ∃ ad c, v = .slice ad n c := by
  cases px with
  | e0 => exact ⟨0, [], hr, fun S2 _ g w v _ hv => by cases hv with | e0 ad => exact ⟨ad, 0, rfl⟩⟩
  | v x => cases x with
    | slice ad n c => exact ⟨n, [], hr, fun S2 _ g w v _ hv => by cases hv; exact ⟨_, _, rfl⟩⟩
    | _ => cases hr
  | tl t f l => exact ⟨len l, [], hr, fun S2 _ g w v _ hv => hv.tlLen⟩
  | tw X z =>
    obtain ⟨t, l, hr, hX, hob⟩ := rowK_ok (show rowK h X _ = some r from hr)
    obtain ⟨h1, hk⟩ := cond_some hr
    simp only [Bool.and_eq_true] at h1
    obtain rfl := beq_eq h1.1
    exact ⟨_, _, hk, fun S2 hA g w v hI hv => by
      rcases hv.twLen hI (blt_lt h1.2) ((hA _ (touch_ref hX (.head _))).1.trans hob) with ⟨ad, _, rfl, rfl⟩ | ⟨b, s, cap, d, _, rfl, _⟩
      · exact ⟨ad, 0, rfl⟩
      · exact ⟨_, cap, rfl⟩⟩
  | ts X z off n => exact ⟨n, [], hr, fun S2 _ g w v _ hv => by
      cases hv with
      | ts0 _ _ _ _ ad _ hn => exact ⟨ad, 0, by rw [show n = 0 by omega]⟩
      | ts => exact ⟨_, _, rfl⟩⟩
  | tf X z off n => exact ⟨n, [], hr, fun S2 _ g w v _ hv => by
      cases hv with
      | tf0 _ _ _ _ ad _ hn => exact ⟨ad, 0, by rw [show n = 0 by omega]⟩
      | tf => exact ⟨_, _, rfl⟩⟩
  | as X π n z => exact ⟨n, [], hr, fun S2 _ g w v _ hv => by cases hv; exact ⟨_, _, rfl⟩⟩
  | sl q off z n => exact ⟨n, [], hr, fun S2 _ g w v _ hv => by cases hv; exact ⟨_, _, rfl⟩⟩
  | _ => cases hr
def isSl (E : Env) (T : Nat) : Option Nat := match tget E.tab T with
  | some ⟨.slice el, _, _, _, _, _, _⟩ => some el
  | _ => none
theorem isSl_ok (hE : EnvOk P E) {T el : Nat} (h : isSl E T = some el) : P.underlying T = some (.slice el) := by
  unfold isSl at h
  split at h
  · rename_i ht; cases h; exact (hE.tab _ _ ht).u
  · cases h
def lenK (E : Env) (T : Nat) (px : A) (h : H) (K : A → H → Fp → Option β) : Option β := match isSl E T with
  | some _ => lenA h px (fun n T => K (.v (.int .i64 (zN n))) h (.rd T))
  | none => none
theorem lenK_ok (hE : EnvOk P E) {T : Nat} {x : Operand} (ho : o.op = .call { callee := .builtin .len, args := #[x], argTypes := #[T] }) (hr : lenK E T (ρ x) h K = some r) : Out P o ρ h K r := by
  unfold lenK at hr
  split at hr
  · rename_i el he
    obtain ⟨n, T', h1, h2⟩ := lenA_ok hr
    exact .read _ h1 (fun S2 hA => opS_len ho ⟨el, isSl_ok hE he⟩ (h2 S2 hA)) (by rw [ho]; intro c e; cases e)
  · cases hr
/-- An array's elements. -/
def fitL {α : Type} (d : α) (n : Nat) (l : List α) : List α := (List.range n).map (nth d l)
theorem fitL_flat {α β : Type} (f : α → List β) (d : α) (n : Nat) (l : List α) : (fitL d n l).flatMap f = arrF f d n l := by
  unfold fitL arrF
  rw [List.flatMap_map]
theorem fitL_len {α : Type} (d : α) (n : Nat) (l : List α) : (fitL d n l).length = n := by simp [fitL]
/-- A slice's elements, told one by one. -/
def srcK (h : H) (t : Ty) (py : A) (k : List t.T → List Nat → Option β) : Option β := match py with
  | .e0 => k [] []
  | .v (.slice _ 0 _) => k [] []
  | .tl t' _ l => match castT (.slc t') (.slc t) l with
    | some l' => bif t.data then k l' [] else none
    | none => none
  | .nn t' l => match castT (.slc t') (.slc t) l with
    | some l' => bif t.data then k l' [] else none
    | none => none
  | .os r z o => opt o (k [] []) (fun j => rowK h (.reg r j) (fun t' l => match castT (.slc t') (.slc t) l with
    | some l' => bif Nat.beq z t.size && Nat.blt 0 t.size then k l' [rs1 (.reg r j)] else none
    | none => none))
  | .tw X z => rowK h X (fun t' l => match castT (.slc t') (.slc t) l with
    | some l' => bif Nat.beq z t.size && Nat.blt 0 t.size then k l' [rs1 X] else none
    | none => none)
  | .ts X z off n => rowK h X (fun t' l => match castT (.slc t') (.slc t) l with
    | some l' => bif Nat.beq z t.size && Nat.blt 0 t.size then k (tk n (dr off l')) [rs1 X] else none
    | none => none)
  | .tf X z off n => rowK h X (fun t' l => match castT (.slc t') (.slc t) l with
    | some l' => bif Nat.beq z t.size && Nat.blt 0 t.size then k (tk n (dr off l')) [rs1 X] else none
    | none => none)
  | .as X π n z => placeK h X π (fun sg => match castT sg.t (.arr n t) sg.x with
    | some l => bif Nat.beq z t.size then k (fitL t.dflt n l) [rs1 X] else none
    | none => none)
  | .sl q off z n => match h.t.get q with
    | some (.cells cs) => bif Nat.blt q 16777216 && Nat.beq z t.size && Nat.ble (off + n * z) cs.length then (match toArr (toC t) t.size n ((cs.drop off).take (n * z)) with
      | some l => k l [rlo q]
      | none => none) else none
    | _ => none
  | _ => none
theorem Given.conv {g : G} {w : World} {v : Value} {sz m : Nat} {ps qs : List A} (k : Given g w v sz m ps) (hc : ∀ vs, Vs g ps vs → Vs g qs vs) : Given g w v sz m qs := by
  obtain ⟨A2, cap2, us, h1, h2, h3, h4⟩ := k
  exact ⟨A2, cap2, us, h1, hc _ h2, h3, h4⟩
theorem V.tlGiven {g : G} {S : Hp} {w : World} (hI : Inv g S w) {t : Ty} (hd : t.data = true) {f : Bool} {l : List t.T} {v : Value} (hv : V g (.tl t f l) v) : Given g w v t.size l.length (l.flatMap (encA t)) := by
  cases hv with
  | tl _ _ _ _ hv =>
    generalize hes : List.map (encD t) l = es at hv
    have hesl : es.length = l.length := by rw [← hes, List.length_map]
    have hfl : es.flatten = l.flatMap (encD t) := by rw [← hes, flat_map]
    cases hv with
    | sl0 =>
      have : l = [] := List.eq_nil_of_length_eq_zero hesl.symm
      subst this
      exact .zero ⟨_, _, rfl⟩
    | sl _ _ _ a cap vs hz hc hf hn hx hl hm hvv =>
      rw [hfl] at hvv hl
      have hvs : VDs g.mem (l.flatMap (encD t)) vs := ⟨hl, hvv⟩
      have h1 := flatD (g := g) (f := encA t) (f' := encD t) (fun x us hu => VDs.cells t x us hd hu) (fun x => by rw [encA_len, encD_len]) l vs hvs
      rw [hesl]
      refine ⟨_, cap, vs, rfl, h1, by rw [← h1.1, flatA_len], fun h0 => ?_⟩
      cases a with
      | none => have := hn rfl; omega
      | some p =>
        refine ⟨_, rfl, fun j x hj => ?_⟩
        obtain ⟨cur, ty, fz, q1, q2⟩ := hI.mem _ _ _ (hm p j x rfl hj)
        rw [show (adr p).add j = ⟨p.1, p.2 + j, none⟩ from Addr.add_lit _ _ _, cell_of_row w p.1 _ cur ty _ q1]; exact q2
/-- A piece of a row. -/
theorem piece {g : G} {S : Hp} {w : World} (hI : Inv g S w) {X : Ref} {t : Ty} {l : List t.T} {off n b cap d : Nat} {s : Nat × Nat} (_h0 : 0 < t.size) (hob : S.ob X.id = some (.cells (l.flatMap (encA t)))) (hat : g.at' X.id = some (some b, s)) (hle : off + n ≤ l.length) (hd : n ≠ 0 → d = off * t.size) :
    Given g w (.slice (some ⟨b, d, none⟩) n cap) t.size (tk n (dr off l)).length ((tk n (dr off l)).flatMap (encA t)) := by
  have hl : (tk n (dr off l)).length = n := by simp [tk, dr]; omega
  rw [hl]
  rcases Nat.eq_zero_or_pos n with h0 | h0
  · subst h0
    rw [show tk 0 (dr off l) = [] from by simp [tk]]
    exact .zero ⟨_, cap, rfl⟩
  · obtain rfl := hd (by omega)
    have := hI.given (off := off * t.size) (sz := t.size) (m := n) (cap := cap) hob hat (by rw [flatA_len, ← Nat.add_mul]; exact Nat.mul_le_mul_right _ hle)
    rw [flatA_part] at this
    exact this
theorem srcK_ok {t : Ty} {py : A} {k : List t.T → List Nat → Option β} (hr : srcK h t py k = some r) : ∃ l T, k l T = some r ∧ ∀ S2, Agree (.rd T) (hp h) S2 → ∀ g w v, Inv g S2 w → V g py v → Given g w v t.size l.length (l.flatMap (encA t)) := by
  cases py with
  | e0 => exact ⟨[], [], hr, fun S2 _ g w v _ hv => by cases hv with | e0 ad => exact .zero ⟨ad, 0, rfl⟩⟩
  | v x => cases x with
    | slice ad n c => cases n with
      | zero => exact ⟨[], [], hr, fun S2 _ g w v _ hv => by cases hv; exact .zero ⟨_, _, rfl⟩⟩
      | succ n => cases hr
    | _ => cases hr
  | tl t' f l =>
    unfold srcK at hr
    simp only at hr
    split at hr
    · rename_i l' hl
      obtain ⟨e, rfl⟩ := castT_eq hl
      cases e
      obtain ⟨h1, hr⟩ := cond_some hr
      exact ⟨_, [], hr, fun S2 _ g w v hI hv => hv.tlGiven hI h1⟩
    · cases hr
  | nn t' l =>
    unfold srcK at hr
    simp only at hr
    split at hr
    · rename_i l' hl
      obtain ⟨e, rfl⟩ := castT_eq hl
      cases e
      obtain ⟨h1, hr⟩ := cond_some hr
      exact ⟨_, [], hr, fun S2 _ g w v hI hv => by cases hv with | nn _ _ a n c h => exact (V.tl _ false _ _ h).tlGiven hI h1⟩
    · cases hr
  | os q z o =>
    rcases opt_inv (show opt o (k [] []) _ = some r from hr) with ⟨e0, hr⟩ | ⟨jj, e0, hr⟩
    · exact ⟨[], [], hr, fun S2 _ g w v _ hv => by
        cases hv with
        | os _ _ _ _ h0 _ => cases h0 e0 with | e0 ad => exact .zero ⟨ad, 0, rfl⟩⟩
    · obtain ⟨t', l, hr, hX, hob⟩ := rowK_ok (show rowK h (.reg q jj) _ = some r from hr)
      split at hr
      · rename_i l' hl
        obtain ⟨e, rfl⟩ := castT_eq hl
        cases e
        obtain ⟨h1, hk⟩ := cond_some hr
        simp only [Bool.and_eq_true] at h1
        have ez := beq_eq h1.1
        subst ez
        refine ⟨_, _, hk, fun S2 hA g w v hI hv0 => ?_⟩
        have hv : V g (.tw (.reg q jj) t.size) v := by cases hv0 with | os _ _ _ _ _ h1 => exact h1 jj e0
        have hob2 := (hA _ (touch_ref hX (.head _))).1.trans hob
        rcases hv.twLen hI (blt_lt h1.2) hob2 with ⟨ad, _, rfl, rfl⟩ | ⟨b, s, cap, d, hat, rfl, hd, hn, _⟩
        · exact .zero ⟨ad, 0, rfl⟩
        · rcases Nat.eq_zero_or_pos l.length with h0 | h0
          · have : l = [] := List.eq_nil_of_length_eq_zero h0
            subst this
            exact .zero ⟨_, cap, rfl⟩
          · obtain rfl := hd (by omega)
            have := hI.given (off := 0) (sz := t.size) (m := l.length) (cap := cap) hob2 hat (by rw [flatA_len]; omega)
            rw [List.drop_zero, List.take_of_length_le (by rw [flatA_len]; exact Nat.le_refl _)] at this
            exact this
      · cases hr
  | tw X z =>
    obtain ⟨t', l, hr, hX, hob⟩ := rowK_ok (show rowK h X _ = some r from hr)
    split at hr
    · rename_i l' hl
      obtain ⟨e, rfl⟩ := castT_eq hl
      cases e
      obtain ⟨h1, hk⟩ := cond_some hr
      simp only [Bool.and_eq_true] at h1
      obtain rfl := beq_eq h1.1
      refine ⟨_, _, hk, fun S2 hA g w v hI hv => ?_⟩
      have hob2 := (hA _ (touch_ref hX (.head _))).1.trans hob
      rcases hv.twLen hI (blt_lt h1.2) hob2 with ⟨ad, _, rfl, rfl⟩ | ⟨b, s, cap, d, hat, rfl, hd, hn, _⟩
      · exact .zero ⟨ad, 0, rfl⟩
      · rcases Nat.eq_zero_or_pos l.length with h0 | h0
        · have : l = [] := List.eq_nil_of_length_eq_zero h0
          subst this
          exact .zero ⟨_, cap, rfl⟩
        · obtain rfl := hd (by omega)
          have := hI.given (off := 0) (sz := t.size) (m := l.length) (cap := cap) hob2 hat (by rw [flatA_len]; omega)
          rw [List.drop_zero, List.take_of_length_le (by rw [flatA_len]; exact Nat.le_refl _)] at this
          exact this
    · cases hr
  | ts X z off n =>
    obtain ⟨t', l, hr, hX, hob⟩ := rowK_ok (show rowK h X _ = some r from hr)
    split at hr
    · rename_i l' hl
      obtain ⟨e, rfl⟩ := castT_eq hl
      cases e
      obtain ⟨h1, hk⟩ := cond_some hr
      simp only [Bool.and_eq_true] at h1
      obtain rfl := beq_eq h1.1
      refine ⟨_, _, hk, fun S2 hA g w v hI hv => ?_⟩
      have hob2 := (hA _ (touch_ref hX (.head _))).1.trans hob
      have hle := ts_le hI (blt_lt h1.2) hob2 hv
      cases hv with
      | ts0 _ _ _ _ ad _ hn =>
        rw [show n = 0 by omega, show tk 0 (dr off l) = [] by simp [tk]]
        exact .zero ⟨ad, 0, rfl⟩
      | ts _ _ _ _ b cap s hat hn hx hs hph d hd => exact piece hI (blt_lt h1.2) hob2 hat hle (fun hn0 => hd (by omega))
    · cases hr
  | tf X z off n =>
    obtain ⟨t', l, hr, hX, hob⟩ := rowK_ok (show rowK h X _ = some r from hr)
    split at hr
    · rename_i l' hl
      obtain ⟨e, rfl⟩ := castT_eq hl
      cases e
      obtain ⟨h1, hk⟩ := cond_some hr
      simp only [Bool.and_eq_true] at h1
      obtain rfl := beq_eq h1.1
      refine ⟨_, _, hk, fun S2 hA g w v hI hv => ?_⟩
      have hob2 := (hA _ (touch_ref hX (.head _))).1.trans hob
      cases hv with
      | tf0 _ _ _ _ ad _ hn =>
        rw [show n = 0 by omega, show tk 0 (dr off l) = [] by simp [tk]]
        exact .zero ⟨ad, 0, rfl⟩
      | tf _ _ _ _ b s hat hx hs d hd =>
        have hle : off + n ≤ l.length := by
          rcases hI.cells _ _ hob2 with ⟨k1, _⟩ | ⟨b', tt', k1, _⟩
          · rw [k1] at hat; cases hat
          rw [k1] at hat
          simp only [Option.some.injEq, Prod.mk.injEq] at hat
          obtain ⟨_, rfl⟩ := hat
          simp only [flatA_len] at hs
          exact Nat.le_of_mul_le_mul_right hs (blt_lt h1.2)
        exact piece hI (blt_lt h1.2) hob2 hat hle hd
    · cases hr
  | as X π n z =>
    obtain ⟨sg, hk, hX, h2⟩ := placeK_ok (show placeK h X π _ = some r from hr)
    split at hk
    · rename_i l hl
      obtain ⟨st, sx⟩ := sg
      obtain ⟨e, hl⟩ := castT_eq hl
      simp only at e hl h2
      subst e
      simp only at hl
      subst hl
      obtain ⟨h1, hk⟩ := cond_some hk
      refine ⟨_, _, hk, fun S2 hA g w v hI hv => ?_⟩
      obtain rfl := beq_eq h1
      cases hv with
      | as _ _ _ _ b cap s hat hp hn hx =>
        have ha := hA _ (touch_ref hX (.head _))
        obtain ⟨a, c, q1, q2⟩ := h2 g _ w _ hI ha.1 ha.2 (.tp X π b s hat hp)
        have e1 : (fitL (α := t.T) t.dflt n sx).flatMap (encA t) = encA (.arr n t) sx := fitL_flat _ _ _ _
        have e3 : (fitL (α := t.T) t.dflt n sx).length = n := fitL_len _ _ _
        have e2 : (encA (.arr n t) sx).length = n * t.size := encA_len (.arr n t) sx
        have := hI.given (off := offS π) (sz := t.size) (m := n) (cap := cap) q1 hat (by simp only [List.length_append]; rw [e2]; omega)
        rw [← q2, List.drop_left, ← e2, List.take_left, q2] at this
        exact Eq.subst (motive := fun k => Given g w _ t.size k _) e3.symm (Eq.subst (motive := fun cs => Given g w _ t.size n cs) e1.symm this)
    · cases hk
  | sl q off z n =>
    unfold srcK at hr
    simp only at hr
    split at hr
    · rename_i cs hg
      obtain ⟨h1, hr⟩ := cond_some hr
      simp only [Bool.and_eq_true] at h1
      have hq := blt_lt h1.1.1
      obtain rfl := beq_eq h1.1.2
      split at hr
      · rename_i l hy
        refine ⟨_, _, hr, fun S2 hA g w v hI hv => ?_⟩
        obtain ⟨z1, z2, z3⟩ := toArr_ok (g := g) (fun cs x h => toC_ok t cs x h) _ _ _ hy
        have hob : (hp h).ob q = some (.cells cs) := by rw [hp_loc hq]; unfold tOb; rw [hg]; rfl
        cases hv with
        | sl _ _ _ _ b cap s hat hn hx hs =>
          rw [z2]
          exact (hI.given ((hA q (touch_loc hq (.head _))).1.trans hob) hat (Nat.le_of_ble_eq_true h1.2)).conv z3
      · cases hr
    · cases hr
  | _ => cases hr
end
end
end Go.Bm
