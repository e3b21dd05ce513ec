/- Operations, run: rows made, and made longer. -/
import Derived.Test.YtihiooaimdoapaaGreatBmU
set_option linter.unusedVariables false
set_option linter.unusedSimpArgs false
namespace Go.Bm
noncomputable section
open Go.RowKit
section
variable {P : Program} {E : Env} {o : Oper} {ρ : Operand → A} {h : H} {β : Type} {K : A → H → Fp → Option β} {r : β}
theorem rep_flat (t : Ty) (n : Nat) (x : t.T) : (rep n x).flatMap (encA t) = reps n (encA t x) := by
  unfold rep reps
  induction n with
  | zero => rfl
  | succ n ih => rw [List.replicate_succ, List.replicate_succ, List.flatMap_cons, List.flatten_cons, ih]
def mkK (E : Env) (T : Nat) (same : Bool) (px : A) (h : H) (K : A → H → Fp → Option β) : Option β := match isSl E T with
  | some el => match tget E.tab el, px with
    | some e, .v (.int _ m) => match e.t with
      | some t => bif same && Nat.blt 0 e.size && Nat.ble (16777216 * e.bytes) 281474976710656 then gd (ige m) (gd (nle (nN m) 16777216) (newK (.row t (rep (nN m) t.dflt)) h (fun q h' => K (.tw (.loc q) e.size) h' (.wr [rlo q])))) else none
      | none => none
    | _, _ => none
  | none => none
theorem mkK_ok (hE : EnvOk P E) {T : Nat} {x y : Operand} {same : Bool} (ho : o.op = .makeSlice T x y) (hs : same = true → x = y) (hr : mkK E T same (ρ x) h K = some r) : Out P o ρ h K r := by
  have hd : ∀ c, o.op ≠ .defer c := by rw [ho]; intro c e; cases e
  unfold mkK at hr
  split at hr
  · rename_i el he
    split at hr
    · rename_i e k m ht hx
      split at hr
      · rename_i t hty
        obtain ⟨h1, hr⟩ := cond_some hr
        simp only [Bool.and_eq_true] at h1
        obtain rfl := hs h1.1.1
        obtain ⟨h2, hr⟩ := gd_inv hr
        obtain ⟨h3, hr⟩ := gd_inv hr
        have h3 : nN m ≤ 16777216 := h3
        obtain ⟨h', k1, hq, hf, hh⟩ := newK_ok hr
        have hk := hE.tab _ _ ht
        have hb := Nat.le_of_ble_eq_true h1.2
        refine ⟨_, _, _, k1, .of _ hh rfl (fun u hu => by rcases List.mem_singleton.1 hu with rfl; exact touch_loc (o := h.nid) hq (.head _)) (fun S2 hA => ?_) hd⟩
        have e1 : MOb.low (.row t (rep (nN m) t.dflt)) = .cells (reps (nN m) (encA t t.dflt)) := congrArg Ob.cells (rep_flat t _ _)
        rw [e1]
        have hx' : ρ x = .v (.int k ((nN m : Nat) : Int)) := by rw [hx, nN_eq h2]
        exact opS_makeSlice ho (isSl_ok hE he) hk.ti (blt_lt h1.1.2) hx' hx' (Nat.le_trans (Nat.mul_le_mul_right _ h3) hb) (by omega) ((hA _ (touch_loc hq (.head _))).2.2 hf) (hk.tz t hty)
      · cases hr
    · cases hr
  · cases hr
/-- A row is given away. -/
def delK (h : H) (X : Ref) (k : H → Option β) : Option β := bif lkd h (rs1 X) then none else match X with
  | .loc o => setT h.t o none (fun t1 => k { h with t := t1 })
  | .reg r j => match rfind h.rg r with
    | some ⟨_, .row t', c⟩ => bif Nat.blt r 64 then gd (nlt j (len (α := Option (List t'.T)) c)) (k { h with rg := rput h.rg r (.row t') (upd (α := Option (List t'.T)) c j none) }) else none
    | _ => none
theorem regOb_updN {t : Ty} {c : List (Option (List t.T))} {j : Nat} (hj : j < c.length) (i : Nat) : regOb (.row t) (upd c j none) i = if i = j then none else regOb (.row t) c i := by
  show (match gtA (upd c j none) i with | some (some l) => some (Ob.cells (l.flatMap (encA t))) | _ => none) = if i = j then none else (match gtA c i with | some (some l) => some (Ob.cells (l.flatMap (encA t))) | _ => none)
  rw [gtA_upd]
  by_cases h : i = j
  · subst h; rw [if_pos ⟨rfl, hj⟩, if_pos rfl]
  · rw [if_neg (fun k => h k.1), if_neg h]
theorem delK_ok {X : Ref} {k : H → Option β} (hr : delK h X k = some r) : ∃ h', k h' = some r ∧ okR X = true ∧ hp h' = app [.del X.id] (hp h) ∧ h'.nid = h.nid := by
  obtain ⟨_, hr⟩ := bif_none hr
  cases X with
  | loc o =>
    obtain ⟨hq, t1, k1, k2⟩ := setT_inv hr
    exact ⟨_, k1, by show Nat.blt o 16777216 = true; simpa using (lt15 hq), hp_del (lt15 hq) k2, rfl⟩
  | reg r j =>
    simp only at hr
    split at hr
    · rename_i _ t' c hf
      obtain ⟨h3, hr⟩ := cond_some hr
      obtain ⟨h4, hr⟩ := gd_inv hr
      have hlt : j < List.length (α := Option (List t'.T)) c := h4
      refine ⟨_, hr, h3, ?_, rfl⟩
      exact hp_mem (j := j) (u := .del (rid r j)) (blt_lt h3) hf (upd_len (α := Option (List t'.T)) c j _) (fun i hi => by rw [regOb_updN (c := c) hlt, if_neg hi]) rfl (by rw [regOb_updN (c := c) hlt, if_pos rfl]; exact if_pos rfl) rfl
    · cases hr
/-- Nothing, whatever may come behind it. -/
def isNilS : A → Bool
  | .e0 => true
  | .v (.slice _ 0 0) => true
  | _ => false
theorem V.nilS {g : G} {p : A} {v : Value} (hv : V g p v) (h : isNilS p = true) : ∃ ad, v = .slice ad 0 0 := by
  unfold isNilS at h
  split at h
  · cases hv with | e0 ad => exact ⟨ad, rfl⟩
  · cases hv; exact ⟨_, rfl⟩
  · cases h
/-- append to a row's beginning, in its own place. -/
theorem opS_append_in {S : Hp} {T E' : TypeId} {z b m n : Nat} {X : Ref} {zv : Value} {cs ps : List A} {x y : Operand} (ho : o.op = .call { callee := .builtin .append, args := #[x, y], argTypes := #[T, T] }) (hT : P.underlying T = some (.slice E')) (hE : TI P E' z b zv) (h0 : 0 < z)
    (hp : S.ob X.id = some (.cells cs)) (hx : ρ x = .ts X z 0 n) (hcl : (n + m) * z ≤ cs.length) (hy : ∀ g w v, Inv g S w → V g (ρ y) v → Given g w v z m ps) : OpS P o ρ S (S.set X.id (.cells (put cs (n * z) ps))) (.ts X z 0 (n + m)) :=
  .app ho fun g w a hI e1 e2 => by
    obtain ⟨i, t1, t2, t3, t4, t5, t6⟩ := hE
    subst t3 t4
    have hE' : SizeIs P E' i.size := ⟨i, t1, rfl⟩
    obtain ⟨A2, cap2, us, hu2, hpv, hul, hA2⟩ := hy g w _ hI e2
    rw [hx] at e1
    generalize hu : a.eval x = vx at e1 ⊢
    cases e1 with
    | ts0 _ _ _ _ ad hg hn =>
      rcases hI.cells X.id cs hp with ⟨_, k2⟩ | ⟨b', t, k1, _⟩
      · subst k2
        have hn : n = 0 := by omega
        subst hn
        have hm : m = 0 := by
          rcases Nat.eq_zero_or_pos m with h | h
          · exact h
          · have : 0 < (0 + m) * i.size := Nat.mul_pos (by omega) h0
            simp only [List.length_nil] at hcl; omega
        subst hm
        have hps : ps = [] := List.eq_nil_of_length_eq_zero (by rw [hpv.1, hul]; simp)
        subst hps
        have hS : S.set X.id (.cells (put [] (0 * i.size) [])) = S := by
          refine Hp.ext' (fun j => ?_) (fun j => Iff.rfl)
          show (if j = X.id then some (.cells (put [] (0 * i.size) [])) else S.ob j) = S.ob j
          by_cases hj : j = X.id
          · subst hj; rw [if_pos rfl, hp]; simp [put]
          · rw [if_neg hj]
        rw [hS, hu2]
        exact ⟨_, g, w, run_append_zeroA w T E' o.type hT hE' _ A2 0 0 cap2 (Nat.le_refl _), .ts0 X i.size 0 (0 + 0) ad hg (by simp), hI, .refl S g w⟩
      · rw [k1] at hg; cases hg
    | ts _ _ _ _ bk cap s hg hnc hcm hs hph d hd hq =>
      rw [hu2]
      rw [Nat.zero_add] at hph hq
      have hps : ps.length = m * i.size := by rw [hpv.1, hul]
      have hlen : (put cs (n * i.size) ps).length = cs.length := put_len (by rw [hps, ← Nat.add_mul]; exact hcl)
      rcases hI.cells X.id cs hp with ⟨k1, _⟩ | ⟨b', t, k1, cur, ty, k2, k2', k3⟩
      · rw [k1] at hg; cases hg
      have hg0 := hg
      rw [k1] at hg; simp at hg
      obtain ⟨rfl, rfl⟩ := hg
      simp only at hq hph hs
      have hroom : n + m ≤ cap := Nat.le_of_mul_le_mul_right (Nat.le_trans hcl hq) h0
      have hts : (0 + (n + m)) * i.size ≤ (cs.length, t).1 := by rw [Nat.zero_add]; exact hcl
      have hval : ∀ g', g'.at' X.id = some (some b', (cs.length, t)) → V g' (.ts X i.size 0 (n + m)) (.slice (some ⟨b', d, none⟩) (n + m) cap) := fun g' hat => .ts X i.size 0 (n + m) b' cap _ hat hroom hcm hts (by rw [Nat.zero_add]; exact hph) d hd (by rw [Nat.zero_add]; exact hq)
      rcases Nat.eq_zero_or_pos m with rfl | hm
      · have hps : ps = [] := List.eq_nil_of_length_eq_zero (by rw [hps]; simp)
        subst hps
        have hput : put cs (n * i.size) [] = cs := by simp [put]
        have hS : S.set X.id (.cells (put cs (n * i.size) [])) = S := by
          rw [hput]
          refine Hp.ext' (fun j => ?_) (fun j => Iff.rfl)
          show (if j = X.id then some (.cells cs) else S.ob j) = S.ob j
          by_cases hj : j = X.id
          · subst hj; rw [if_pos rfl, hp]
          · rw [if_neg hj]
        rw [hS]
        exact ⟨_, g, w, run_append_zeroA w T E' o.type hT hE' _ A2 n cap cap2 hnc, hval g hg0, hI, .refl S g w⟩
      · obtain ⟨ad2, rfl, hnews⟩ := hA2 hm
        obtain rfl := hd (by omega)
        have hnm : (n + m) * i.size ≤ cs.length := hcl
        rw [Nat.add_mul] at hnm
        obtain ⟨cur', ty', c1, c2, c3, c4⟩ := hI.store (off := n * i.size) hp hg0 hpv (by rw [hps]; exact hnm)
        rw [k2] at c1
        simp only [Option.some.injEq, Obj.cells.injEq, and_true] at c1
        obtain ⟨rfl, rfl⟩ := c1
        have hrun := run_append_room' (P := P) w T o.type E' ty i hT t1 b' n cap cur k2 ad2 m cap2 us hul hnews hpv.one hroom c2
        rw [Nat.zero_mul]
        exact ⟨_, g, _, hrun, by have := hval g hg0; rwa [Nat.zero_mul] at this, c3, c4⟩
def appK (E : Env) (T : Nat) (px py : A) (h : H) (K : A → H → Fp → Option β) : Option β := match isSl E T with
  | some el => match tget E.tab el with
    | some e => match e.t with
      | some t => bif Nat.blt 0 e.size && Nat.ble (16777216 * e.bytes) 140737488355328 then srcK h t py (fun l T1 =>
        bif isNilS px then gd (nle (len l) 16777216) (newK (.row t l) h (fun q h' => K (.tw (.loc q) e.size) h' (.pt (rlo q) T1)))
        else match px with
        | .tw X z => rowK h X (fun t' l0 => match castT (.slc t') (.slc t) l0 with
          | some l0 => bif Nat.beq z e.size then gd (nle (nadd (len (α := t.T) l0) (len l)) 16777216) (delK h X (fun h1 => newK (.row t (cat (α := t.T) l0 l)) h1 (fun q h2 => K (.tw (.loc q) e.size) h2 (.p2 (rlo q) (rs1 X) T1)))) else none
          | none => none)
        | .ts X z 0 n => rowK h X (fun t' l0 => match castT (.slc t') (.slc t) l0 with
          | some l0 => bif Nat.beq z e.size then (match py with
            | .ts _ _ _ _ => gd (nle (nadd n (len l)) (len (α := t.T) l0)) (putRow h X t (cat (tk (α := t.T) n l0) (cat l (dr (α := t.T) (nadd n (len l)) l0))) (fun h1 => K (.ts X z 0 (nadd n (len l))) h1 (.wr (rs1 X :: T1))))
            | _ => gd (nle (nadd n (len l)) 16777216) (delK h X (fun h1 => newK (.row t (cat (tk (α := t.T) n l0) l)) h1 (fun q h2 => K (.tw (.loc q) e.size) h2 (.p2 (rlo q) (rs1 X) T1))))) else none
          | none => none)
        | .tf X z off n => br (ieql (zN n) 0) (gd (nle (len l) 16777216) (newK (.row t l) h (fun q h' => K (.tw (.loc q) e.size) h' (.pt (rlo q) T1)))) (rowK h X (fun t' l0 => match castT (.slc t') (.slc t) l0 with
          | some l0 => bif Nat.beq z e.size then gd (nlt 0 (len l)) (gd (nle (nadd n (len l)) 16777216) (newK (.row t (cat (tk n (dr (α := t.T) off l0)) l)) h (fun q h2 => K (.tw (.loc q) e.size) h2 (.p2 (rlo q) (rs1 X) T1)))) else none
          | none => none))
        | _ => none) else none
      | none => none
    | none => none
  | none => none
theorem flat_cat (t : Ty) (a b : List t.T) : (cat a b).flatMap (encA t) = a.flatMap (encA t) ++ b.flatMap (encA t) := List.flatMap_append
theorem flat_tk (t : Ty) (n : Nat) (l : List t.T) : (tk n l).flatMap (encA t) = (l.flatMap (encA t)).take (n * t.size) := by
  have := flatA_part t l 0 n
  simpa [tk] using this.symm
theorem flat_dr (t : Ty) (n : Nat) (l : List t.T) : (dr n l).flatMap (encA t) = (l.flatMap (encA t)).drop (n * t.size) := by
  have := flatA_part t l n l.length
  rw [List.take_of_length_le (by rw [List.length_drop, flatA_len]; omega), List.take_of_length_le (by simp)] at this
  exact this.symm
/-- The old row is gone, the new one is there. -/
theorem moved {t : Ty} {X : Ref} {l : List t.T} {h1 h2 : H} {T1 : List Nat} {pv : A} (hd : ∀ c, o.op ≠ .defer c) (hX : okR X = true) (e1 : hp h1 = app [.del X.id] (hp h)) (hn : h1.nid = h.nid) (hq : h1.nid < 16777216) (hf : (hp h1).fr h1.nid) (e2 : hp h2 = app [.new h1.nid (MOb.row t l).low] (hp h1))
    (k : ∀ S2, Agree (.p2 (rlo h1.nid) (rs1 X) T1) (hp h) S2 → S2.fr h1.nid → OpS P o ρ S2 ((S2.del X.id).new h1.nid (.cells (l.flatMap (encA t)))) pv) : Step P o ρ h h2 (.p2 (rlo h1.nid) (rs1 X) T1) pv :=
  .of2 [.del X.id, .new h1.nid (.cells (l.flatMap (encA t)))] (by rw [e2, e1]; rfl) (fun u hu => by
    rcases List.mem_cons.1 hu with rfl | hu
    · exact touch_ref hX (.tail _ (.head _))
    · rcases List.mem_singleton.1 hu with rfl; exact touch_loc (o := h1.nid) hq (.head _)) (fun u hu => by
    show touch (.wr [rlo h1.nid, rs1 X]) u.id = true
    rcases List.mem_cons.1 hu with rfl | hu
    · exact touch_ref hX (.tail _ (.head _))
    · rcases List.mem_singleton.1 hu with rfl; exact touch_loc (o := h1.nid) hq (.head _)) (fun S2 hA => k S2 hA ((hA _ (touch_loc hq (.head _))).2.2 (by rw [e1] at hf; exact hf))) hd
theorem appK_ok (hE : EnvOk P E) {T : Nat} {x y : Operand} (ho : o.op = .call { callee := .builtin .append, args := #[x, y], argTypes := #[T, T] }) (hr : appK E T (ρ x) (ρ y) h K = some r) : Out P o ρ h K r := by
  have hd : ∀ c, o.op ≠ .defer c := by rw [ho]; intro c e; cases e
  unfold appK at hr
  split at hr
  · rename_i el he
    have hT := isSl_ok hE he
    split at hr
    · rename_i e ht
      have hk := hE.tab _ _ ht
      split at hr
      · rename_i t hty
        have hts := hk.ts t hty
        obtain ⟨hb, hr⟩ := cond_some hr
        simp only [Bool.and_eq_true] at hb
        have h0 := blt_lt hb.1
        have hb := Nat.le_of_ble_eq_true hb.2
        have hbd : ∀ {n : Nat}, n ≤ 16777216 → n * e.bytes ≤ 140737488355328 ∧ n ≤ maxLen := fun hn => ⟨Nat.le_trans (Nat.mul_le_mul_right _ hn) hb, by unfold maxLen; omega⟩
        obtain ⟨l, T1, hr, hsrc⟩ := srcK_ok hr
        rw [hts] at hsrc
        cases hnil : isNilS (ρ x) with
        | true =>
          rw [hnil] at hr; simp only [cond_true] at hr
          obtain ⟨h2, hr⟩ := gd_inv hr
          have h2 : l.length ≤ 16777216 := h2
          obtain ⟨h', k1, hq, hf, hh⟩ := newK_ok hr
          exact ⟨_, _, _, k1, .of2 _ hh (fun u hu => by rcases List.mem_singleton.1 hu with rfl; exact touch_loc (o := h.nid) hq (.head _)) (fun u hu => by rcases List.mem_singleton.1 hu with rfl; exact touch_loc (l := [rlo h.nid]) (w := false) (s := []) (o := h.nid) hq (.head _))
            (fun S2 hA => opS_append_nil ho hT hk.ti (fun g v hv => hv.nilS hnil) (hsrc S2 (hA.mono fun i hi => .tail _ hi)) ((hA _ (touch_loc hq (.head _))).2.2 hf) (hbd h2).1 (hbd h2).2) hd⟩
        | false =>
          rw [hnil] at hr; simp only [cond_false] at hr
          split at hr
          · rename_i X z hx
            obtain ⟨t', l0, hr, hX, hob⟩ := rowK_ok hr
            split at hr
            · rename_i l0' hl
              obtain ⟨e', rfl⟩ := castT_eq hl
              cases e'
              obtain ⟨hz, hr⟩ := cond_some hr
              have hz := beq_eq hz
              obtain ⟨h2, hr⟩ := gd_inv hr
              have h2 : l0.length + l.length ≤ 16777216 := h2
              obtain ⟨h1, hr, _, e1, hn⟩ := delK_ok hr
              obtain ⟨h', k1, hq, hf, hh⟩ := newK_ok hr
              refine ⟨_, _, _, k1, moved hd hX e1 hn hq hf hh (fun S2 hA hfr => ?_)⟩
              have hob2 := (hA _ (touch_ref hX (.tail _ (.head _)))).1.trans hob
              have := opS_append (P := P) (n := l0.length) (m := l.length) (z := e.size) ho hT hk.ti h0 hob2 (fun g w v hI hv => by
                rw [hx, hz, ← hts] at hv
                rcases hv.twLen hI (by rw [hts]; exact h0) hob2 with ⟨ad, _, rfl, rfl⟩ | ⟨b, s, cap, d, hat, rfl, k2, k3, k4, k5⟩
                · exact .inl ⟨ad, rfl, rfl⟩
                · exact .inr ⟨b, s, cap, d, hat, rfl, k2, k3, k4, by rw [← hts]; exact k5⟩) (by rw [flatA_len, hts]; exact Nat.le_refl _) (hsrc S2 (hA.mono fun i hi => .tail _ (.tail _ hi))) hfr (hbd h2).1 (hbd h2).2
              rw [List.take_of_length_le (by rw [flatA_len, hts]; exact Nat.le_refl _), ← flat_cat] at this
              exact this
            · cases hr
          · rename_i X z n hx
            obtain ⟨t', l0, hr, hX, hob⟩ := rowK_ok hr
            split at hr
            · rename_i l0' hl
              obtain ⟨e', rfl⟩ := castT_eq hl
              cases e'
              obtain ⟨hz, hr⟩ := cond_some hr
              have hz := beq_eq hz
              split at hr
              · obtain ⟨h2, hr⟩ := gd_inv hr
                have h2 : n + l.length ≤ l0.length := h2
                obtain ⟨h1, k1, k2⟩ := putRow_ok hX hr
                refine ⟨_, _, _, k1, ⟨fun i hi => k2.1 i (touch_app (fun j hj => by rcases List.mem_singleton.1 hj with rfl; exact .head _) hi), fun i hi => k2.1 i (touch_app (T := rs1 X :: T1) (fun j hj => by rcases List.mem_singleton.1 hj with rfl; exact .head _) (wt_wr hi)), fun S2 hA => ?_⟩⟩
                refine OpS.opR (OpS.at' fun g w a hI hv => ?_) hd
                have hv := hv x (by simp [ho, Op.operands, Call.operands])
                have hob2 := (hA _ (touch_ref hX (.head _))).1.trans hob
                have hnf : ¬ (hp h).fr X.id := fun hf => by
                  have hf2 := (hA _ (touch_ref hX (.head _))).2.2 hf
                  have := hI.fresh _ hf2
                  rw [hx] at hv
                  generalize a.eval x = vx at hv
                  cases hv with
                  | ts0 _ _ _ _ ad hat => rw [hat] at this; cases this
                  | ts _ _ _ _ b cap s hat => rw [hat] at this; cases this
                have e1 := k2.2 hnf
                have hT1 : touch (.wr (rs1 X :: T1)) X.id = true := touch_ref hX (.head _)
                rw [e1, ovr_app (fun u hu => by rcases List.mem_singleton.1 hu with rfl; exact hT1) hA]
                have := opS_append_in (P := P) (n := n) (m := l.length) (X := X) ho hT hk.ti h0 hob2 (by rw [hx, hz]) (by rw [flatA_len, hts]; exact Nat.mul_le_mul_right _ h2) (hsrc S2 (hA.mono fun i hi => .tail _ hi))
                have e2 : put (l0.flatMap (encA t)) (n * e.size) (l.flatMap (encA t)) = (cat (tk n l0) (cat l (dr (nadd n (len l)) l0))).flatMap (encA t) := by
                  rw [flat_cat, flat_cat, flat_tk, flat_dr, hts]
                  unfold put
                  rw [flatA_len, hts, ← Nat.add_mul]; rfl
                rw [e2] at this
                rw [hz]
                exact this
              · obtain ⟨h2, hr⟩ := gd_inv hr
                have h2 : n + l.length ≤ 16777216 := h2
                obtain ⟨h1, hr, _, e1, hn⟩ := delK_ok hr
                obtain ⟨h', k1, hq, hf, hh⟩ := newK_ok hr
                refine ⟨_, _, _, k1, moved hd hX e1 hn hq hf hh (fun S2 hA hfr => OpS.at' fun g0 w0 a0 hI0 hv0 => ?_)⟩
                have hob2 := (hA _ (touch_ref hX (.tail _ (.head _)))).1.trans hob
                have hle : n ≤ l0.length := by
                  have hv := hv0 x (by simp [ho, Op.operands, Call.operands])
                  rw [hx, hz, ← hts] at hv
                  have := ts_le hI0 (by rw [hts]; exact h0) hob2 hv
                  omega
                have := opS_append (P := P) (n := n) (m := l.length) (z := e.size) ho hT hk.ti h0 hob2 (fun g w v hI hv => by
                  rw [hx, hz] at hv
                  cases hv with
                  | ts0 _ _ _ _ ad _ hn => exact .inl ⟨ad, rfl, by omega⟩
                  | ts _ _ _ _ b cap s hat k2 k3 k4 k5 d k6 =>
                    rw [Nat.zero_add] at k5
                    exact .inr ⟨b, s, cap, d, hat, rfl, fun hc => by rw [k6 hc, Nat.zero_mul], k2, k3, k5⟩) (by rw [flatA_len, hts]; exact Nat.mul_le_mul_right _ hle) (hsrc S2 (hA.mono fun i hi => .tail _ (.tail _ hi))) hfr (hbd h2).1 (hbd h2).2
                rw [← hts, ← flat_tk, ← flat_cat] at this
                rw [← hts]
                exact this
            · cases hr
          · rename_i X z off n hx
            rcases br_inv hr with ⟨hn0, hr⟩ | ⟨_, hr⟩
            · obtain ⟨h2, hr⟩ := gd_inv hr
              have h2 : l.length ≤ 16777216 := h2
              have hn0 : n = 0 := by have := of_decide_eq_true hn0; unfold zN at this; omega
              obtain ⟨h', k1, hq, hf, hh⟩ := newK_ok hr
              exact ⟨_, _, _, k1, .of2 _ hh (fun u hu => by rcases List.mem_singleton.1 hu with rfl; exact touch_loc (o := h.nid) hq (.head _)) (fun u hu => by rcases List.mem_singleton.1 hu with rfl; exact touch_loc (l := [rlo h.nid]) (w := false) (s := []) (o := h.nid) hq (.head _))
                (fun S2 hA => opS_append_nil ho hT hk.ti (fun g v hv => by rw [hx, hn0] at hv; cases hv <;> exact ⟨_, rfl⟩) (hsrc S2 (hA.mono fun i hi => .tail _ hi)) ((hA _ (touch_loc hq (.head _))).2.2 hf) (hbd h2).1 (hbd h2).2) hd⟩
            obtain ⟨t', l0, hr, hX, hob⟩ := rowK_ok hr
            split at hr
            · rename_i l0' hl
              obtain ⟨e', rfl⟩ := castT_eq hl
              cases e'
              obtain ⟨hz, hr⟩ := cond_some hr
              have hz := beq_eq hz
              obtain ⟨h3, hr⟩ := gd_inv hr
              have h3 : 0 < l.length := h3
              obtain ⟨h2, hr⟩ := gd_inv hr
              have h2 : n + l.length ≤ 16777216 := h2
              obtain ⟨h', k1, hq, hf, hh⟩ := newK_ok hr
              refine ⟨_, _, _, k1, .of2 _ hh (fun u hu => by rcases List.mem_singleton.1 hu with rfl; exact touch_loc (o := h.nid) hq (.head _)) (fun u hu => by rcases List.mem_singleton.1 hu with rfl; exact touch_loc (l := [rlo h.nid, rs1 X]) (w := false) (s := []) (o := h.nid) hq (.head _)) (fun S2 hA => OpS.at' fun g0 w0 a0 hI0 hv0 => ?_) hd⟩
              have hob2 := (hA _ (touch_ref hX (.tail _ (.head _)))).1.trans hob
              have hle : off + n ≤ l0.length := by
                have hv := hv0 x (by simp [ho, Op.operands, Call.operands])
                rw [hx, hz, ← hts] at hv
                generalize a0.eval x = vx at hv
                cases hv with
                | tf0 _ _ _ _ _ _ hn => omega
                | tf _ _ _ _ b s hat _ hs =>
                  rcases hI0.cells _ _ hob2 with ⟨k1, _⟩ | ⟨b', tt', k1, _⟩
                  · rw [k1] at hat; cases hat
                  rw [k1] at hat
                  simp only [Option.some.injEq, Prod.mk.injEq] at hat
                  obtain ⟨_, rfl⟩ := hat
                  simp only [flatA_len] at hs
                  exact Nat.le_of_mul_le_mul_right hs (by rw [hts]; exact h0)
              have := opS_append_full (P := P) (off := off * e.size) (n := n) (m := l.length) (z := e.size) ho hT hk.ti h0 (fun g w v hI hv => by
                rw [hx, hz] at hv
                cases hv with
                | tf0 _ _ _ _ ad _ hn => exact .inl ⟨ad, rfl, by omega⟩
                | tf _ _ _ _ b s hat _ _ d k6 => exact .inr ⟨b, s, d, hat, rfl, k6⟩) hob2 (by rw [flatA_len, hts, ← Nat.add_mul]; exact Nat.mul_le_mul_right _ hle) (hsrc S2 (hA.mono fun i hi => .tail _ (.tail _ hi))) h3 ((hA _ (touch_loc hq (.head _))).2.2 hf) (hbd h2).1 (hbd h2).2
              rw [← hts, flatA_part, ← flat_cat] at this
              rw [← hts]
              exact this
            · cases hr
          · cases hr
      · cases hr
    · cases hr
  · cases hr
end
end
end Go.Bm
