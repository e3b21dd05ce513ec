/- Operations, run: memory. -/
import Derived.Test.YtihiooaimdoapaaGreatBmR
set_option linter.unusedVariables false
set_option linter.unusedSimpArgs false
namespace Go.Bm
noncomputable section
open Go.RowKit
section
variable {P : Program} {E : Env} {o : Oper} {ρ : Operand → A} {h : H} {β : Type} {K : A → H → Fp → Option β} {r : β}
def ldK (E : Env) (T : Nat) (px : A) (h : H) (K : A → H → Fp → Option β) : Option β := match tget E.tab T with
  | some e => match px with
    | .ptr q off => bif Nat.blt q 16777216 then (match h.t.get q with
      | some (.cells cs) => bif aggT e.d then (bif Nat.ble (off + e.size) cs.length then K (.agg ((cs.drop off).take e.size)) h (.rd [rlo q]) else none) else (match cs[off]? with
        | some c => spK c (fun v => K v h (.rd [rlo q]))
        | none => none)
      | _ => none) else none
    | .tp X π => placeK h X π (fun s => bif Nat.beq s.t.size e.size then (bif aggT e.d then K (.agg (encA s.t s.x)) h (.rd [rs1 X]) else (match encA s.t s.x with
      | [c] => spK c (fun v => K v h (.rd [rs1 X]))
      | _ => none)) else none)
    | .dp t x => bif t.data && Nat.beq t.size e.size then (bif aggT e.d then K (.agg (encA t x)) h .no else (match encA t x with
      | [c] => spK c (fun v => K v h .no)
      | _ => none)) else none
    | _ => none
  | none => none
/-- What is loaded. -/
theorem ldV_ok (hE : EnvOk P E) {T : Nat} {px : A} (hr : ldK E T px h K = some r) : ∃ v l, K v h (.rd l) = some r ∧ ∀ S2, Agree (.rd l) (hp h) S2 → ∀ (o : Oper) (ρ : Operand → A) (x : Operand), o.op = .load T x → ρ x = px → OpV P o ρ S2 v := by
  have sp : ∀ {c : A} {l : List Nat}, spK c (fun v => K v h (.rd l)) = some r → (∀ S2, Agree (.rd l) (hp h) S2 → ∀ (o : Oper) (ρ : Operand → A) (x : Operand), o.op = .load T x → ρ x = px → OpV P o ρ S2 c) →
      ∃ v l, K v h (.rd l) = some r ∧ ∀ S2, Agree (.rd l) (hp h) S2 → ∀ (o : Oper) (ρ : Operand → A) (x : Operand), o.op = .load T x → ρ x = px → OpV P o ρ S2 v := fun h1 h2 => by
    obtain ⟨v, k1, k2⟩ := spK_ok h1
    exact ⟨v, _, k1, fun S2 hA o ρ x ho hx g w a hI hv => let ⟨u, q1, q2⟩ := h2 S2 hA o ρ x ho hx g w a hI hv; ⟨u, q1, k2 g u q2⟩⟩
  unfold ldK at hr
  split at hr
  · rename_i e ht
    have hk := hE.tab _ _ ht
    split at hr
    · rename_i q off
      obtain ⟨hq, hr⟩ := cond_some hr
      have hq := blt_lt hq
      split at hr
      · rename_i cs hg
        have hob : (hp h).ob q = some (.cells cs) := by rw [hp_loc hq]; unfold tOb; rw [hg]; rfl
        cases ha : aggT e.d with
        | true =>
          rw [ha] at hr; simp only [cond_true] at hr
          obtain ⟨h1, hr⟩ := cond_some hr
          exact ⟨_, _, hr, fun S2 hA o ρ x ho hx => opV_load_agg ho hk.u ha hk.ti.size (by rw [hx]; rfl) ((hA q (touch_loc hq (.head _))).1.trans hob) (Nat.le_of_ble_eq_true h1)⟩
        | false =>
          rw [ha] at hr; simp only [cond_false] at hr
          split at hr
          · rename_i c hc
            exact sp hr (fun S2 hA o ρ x ho hx => opV_load ho hk.u ha (by rw [hx]; rfl) ((hA q (touch_loc hq (.head _))).1.trans hob) hc)
          · cases hr
      · cases hr
    · rename_i X π
      obtain ⟨sg, h1, hX, h2⟩ := placeK_ok hr
      obtain ⟨h3, h1⟩ := cond_some h1
      have h3 := beq_eq h3
      have at' : ∀ {S2 : Hp} {v : A} {o : Oper} {ρ : Operand → A} {x : Operand}, o.op = .load T x → ρ x = .tp X π → Agree (.rd [rs1 X]) (hp h) S2 → (∀ a c, S2.ob X.id = some (.cells (a ++ (encA sg.t sg.x ++ c))) → a.length = offS π → OpV P o ρ S2 v) → OpV P o ρ S2 v := fun {S2 v o ρ x} ho hx hA k => .at' fun g w a hI hv => by
        have hv1 := hv x (by simp [ho, Op.operands])
        rw [hx] at hv1
        have ha := hA _ (touch_ref hX (.head _))
        obtain ⟨a, c, q1, q2⟩ := h2 g _ w _ hI ha.1 ha.2 hv1
        exact k a c q1 q2
      have hpl : ∀ {ρ : Operand → A} {x : Operand}, ρ x = .tp X π → Pl (ρ x) = some (X.id, offS π) := fun hx => by rw [hx]; rfl
      cases ha : aggT e.d with
      | true =>
        rw [ha] at h1; simp only [cond_true] at h1
        refine ⟨_, _, h1, fun S2 hA o ρ x ho hx => at' ho hx hA fun a c q1 q2 => ?_⟩
        have := opV_load_agg (P := P) ho hk.u ha hk.ti.size (hpl hx) q1 (by simp only [List.length_append, encA_len]; omega)
        rwa [← q2, List.drop_left, ← h3, ← encA_len sg.t sg.x, List.take_left] at this
      | false =>
        rw [ha] at h1; simp only [cond_false] at h1
        split at h1
        · rename_i c0 hc0
          refine sp h1 (fun S2 hA o ρ x ho hx => at' ho hx hA fun a c q1 q2 => ?_)
          refine opV_load ho hk.u ha (hpl hx) q1 ?_
          rw [← q2, List.getElem?_append_right (Nat.le_refl _), Nat.sub_self, hc0]; rfl
        · cases h1
    · rename_i t y
      obtain ⟨h1, hr⟩ := cond_some hr
      simp only [Bool.and_eq_true] at h1
      have h3 := beq_eq h1.2
      cases ha : aggT e.d with
      | true =>
        rw [ha] at hr; simp only [cond_true] at hr
        exact ⟨_, [], hr, fun S2 _ o ρ x ho hx => opV_load_dp ho hk.u (by rw [h3]; exact hk.ti.size) hx h1.1 (by rw [ha, if_pos rfl])⟩
      | false =>
        rw [ha] at hr; simp only [cond_false] at hr
        split at hr
        · rename_i c0 hc0
          exact sp (l := []) hr (fun S2 _ o ρ x ho hx => opV_load_dp ho hk.u (by rw [h3]; exact hk.ti.size) hx h1.1 (by rw [ha, if_neg (by simp)]; exact hc0))
        · cases hr
    · cases hr
  · cases hr
theorem ldK_ok (hE : EnvOk P E) {T : Nat} {x : Operand} (ho : o.op = .load T x) (hr : ldK E T (ρ x) h K = some r) : Out P o ρ h K r := by
  have hd : ∀ c, o.op ≠ .defer c := by rw [ho]; intro c e; cases e
  obtain ⟨v, l, k1, k2⟩ := ldV_ok hE hr
  exact .read _ k1 (fun S2 hA => .value (k2 S2 hA o ρ x ho rfl)) hd
/-- An operation, there and then. -/
def OpAt (P : Program) (o : Oper) (S S' : Hp) (pv : A) (g : G) (w : World) (a : Act) : Prop :=
  ∀ (next : Act → World → Prop) (Q : Exit → Act → World → Prop), (∀ v g' w', V g' pv v → Inv g' S' w' → Ext S g w S' g' w' → next (a.put o.dst v) w') → o.wp P a w next Q
theorem OpAt.pre {S S1 S' : Hp} {pv : A} {g g1 : G} {w : World} {a : Act} (k : OpAt P o S1 S' pv g1 w a) (e : Ext S g w S1 g1 w) : OpAt P o S S' pv g w a := fun next Q K => k next Q (fun v g' w' h1 h2 h3 => K v g' w' h1 h2 (e.trans h3))
theorem store_at {S : Hp} {T : TypeId} {x y : Operand} {p off n : Nat} {cs ps : List A} {g : G} {w : World} {a : Act} (ho : o.op = .store T x y) (hs : SizeIs P T n) (hI : Inv g S w) (hx : ∃ b s, g.at' p = some (some b, s) ∧ a.eval x = .pointer (some ⟨b, off, none⟩)) (hy : Vs g ps (a.eval y).cells.toList) (hl : ps.length = n)
    (hp : S.ob p = some (.cells cs)) (hn : off + n ≤ cs.length) : OpAt P o S (S.set p (.cells (put cs off ps))) .junk g w a := by
  intro next Q K
  obtain ⟨b, s, h, hu⟩ := hx
  obtain ⟨cur, ty, k2, k2', h3, h4⟩ := hI.store (off := off) hp h hy (by omega)
  unfold Oper.wp
  have hsz : (a.eval y).cells.size = n := by have := hy.1; simp at this; omega
  have hst := run_storeCells_at P b off ty (a.eval y).cells.toList 0 cur w k2 (by simpa using k2') hy.one
  simp only [execOp, ho, hu, Instr.storeAt, Instr.sureAddr, pure_bind, storeVar, Sem.run_bind, hs.run w, Result.andThen_ok, hsz, ne_eq, not_true_eq_false, if_false]
  simp only [Nat.add_zero] at hst
  simp only [hst, Result.andThen_ok, Sem.run_pure]
  exact K _ g _ (.junk _) h3 h4
/-- Steps that tell what is known otherwise, ahead of what is done. -/
theorem ovr_pre {T : Fp} {us : List Up} {S' S2 : Hp} (hT : ∀ u ∈ us, touch T u.id = true) : ovr T S' (app us S2) = ovr T S' S2 := by
  refine Hp.ext' (fun i => ?_) (fun i => ?_)
  · show (if touch T i = true then _ else _) = (if touch T i = true then _ else _)
    split
    · rfl
    · rename_i hi; exact (app_out us S2 i (fun u hu e => hi (e ▸ hT u hu))).1
  · show (if touch T i = true then _ else _) ↔ (if touch T i = true then _ else _)
    split
    · exact Iff.rfl
    · rename_i hi; exact (app_out us S2 i (fun u hu e => hi (e ▸ hT u hu))).2
def stK (E : Env) (T : Nat) (px py : A) (h : H) (K : A → H → Fp → Option β) : Option β := match tget E.tab T, py.cells with
  | some e, some ps => match px with
    | .ptr q off => bif Nat.blt q 16777216 then (match h.t.get q with
      | some (.cells cs) => bif Nat.beq ps.length e.size && Nat.ble (off + e.size) cs.length && !(lkd h (rlo q)) then setT h.t q (some (.cells (put cs off ps))) (fun t1 => K .junk { h with t := t1 } (.wr [rlo q])) else none
      | _ => none) else none
    | .tp X π => match plT h X π with
      | some u => bif Nat.beq u.size e.size then (fixP u ps h (fun ps' h1 T1 => match toC u ps' with
          | some y => setK h1 X π u y (fun h2 => K .junk h2 (.wr (rs1 X :: T1)))
          | none => none)) else none
      | none => none
    | _ => none
  | _, _ => none
theorem touch_app {T U : List Nat} {w : Bool} {s : List Nat} {i : Nat} (hU : ∀ j ∈ U, j ∈ T) (k : touch ⟨false, T, w, s⟩ i = false) : touch ⟨false, U, w, s⟩ i = false := by
  cases hx : touch ⟨false, U, w, s⟩ i with
  | false => rfl
  | true => rw [touch_mono hU hx] at k; cases k
theorem stK_ok (hE : EnvOk P E) {T : Nat} {x y : Operand} (ho : o.op = .store T x y) (hr : stK E T (ρ x) (ρ y) h K = some r) : Out P o ρ h K r := by
  have hd : ∀ c, o.op ≠ .defer c := by rw [ho]; intro c e; cases e
  unfold stK at hr
  split at hr
  · rename_i e ps ht hps
    have hk := hE.tab _ _ ht
    split at hr
    · rename_i q off hx
      obtain ⟨hq, hr⟩ := cond_some hr
      have hq := blt_lt hq
      split at hr
      · rename_i cs hg
        have hob : (hp h).ob q = some (.cells cs) := by rw [hp_loc hq]; unfold tOb; rw [hg]; rfl
        obtain ⟨h1, hr⟩ := cond_some hr
        simp only [Bool.and_eq_true] at h1
        obtain ⟨_, t1, k1, k2⟩ := setT_inv hr
        exact ⟨_, _, _, k1, .of [.set q (.cells (put cs off ps))] (hp_set (x := .cells (put cs off ps)) hq k2) rfl (fun u hu => by rcases List.mem_singleton.1 hu with rfl; exact touch_loc (o := q) hq (.head _))
          (fun S2 hA => opS_store ho hk.ti.size (by rw [hx]; rfl) hps (beq_eq h1.1.1) ((hA q (touch_loc hq (.head _))).1.trans hob) (Nat.le_of_ble_eq_true h1.1.2)) hd⟩
      · cases hr
    · rename_i X π hx
      split at hr
      · rename_i u hu
        obtain ⟨hsz0, hr⟩ := cond_some hr
        obtain ⟨ps', h1, T1, hr, us, c1, c2, c3⟩ := fixP_ok hr
        split at hr
        · rename_i y' hy
          obtain ⟨h2, k1, hX, k2, k3⟩ := setK_ok hr
          have hus : ∀ u ∈ us, touch (Fp.wr (rs1 X :: T1)) u.id = true := fun u hu => touch_mono (fun i hi => .tail _ hi) (c2 u hu)
          have out : ∀ i, touch (Fp.wr (rs1 X :: T1)) i = false → (hp h2).ob i = (hp h).ob i ∧ ((hp h2).fr i ↔ (hp h).fr i) := fun i hi => by
            have e1 := k2 i (touch_app (T := rs1 X :: T1) (fun j hj => by rcases List.mem_singleton.1 hj with rfl; exact .head _) hi)
            have e2 := app_out us (hp h) i (fun u hu e => by have := hus u hu; rw [← e] at this; rw [show touch (Fp.wr (rs1 X :: T1)) i = false from hi] at this; cases this)
            rw [← c1] at e2
            exact ⟨e1.1.trans e2.1, e1.2.trans e2.2⟩
          refine ⟨_, _, _, k1, ⟨out, fun i hi => out i (wt_wr hi), fun S2 hA => ?_⟩⟩
          · refine OpS.opR (fun g w a next Q hI hv K' => ?_) hd
            have hvx := hv x (by simp [ho, Op.operands])
            have hvy := (hv y (by simp [ho, Op.operands])).cells hps
            obtain ⟨g1, q1, q2, q3⟩ := c3 g S2 w _ hI (hA.mono fun i hi => .tail _ hi) hvy
            obtain ⟨z1, z2⟩ := toC_ok (g := g1) u ps' y' hy
            have hA1 : Agree (Fp.wr (rs1 X :: T1)) (hp h1) (app us S2) := by rw [c1]; exact Agree.app us hA
            rw [hx] at hvx
            have hvx1 := hvx.mono q2.le
            obtain ⟨cs, w1, w2, w3⟩ := k3 (rs1 X :: T1) (.head _) g1 _ w _ q1 hA1 hvx1
            have hpl : ∃ b s, g1.at' X.id = some (some b, s) ∧ a.eval x = .pointer (some ⟨b, offS π, none⟩) := hvx1.pl rfl
            have hsz := beq_eq hsz0
            have st := store_at (P := P) ho hk.ti.size q1 hpl (z2 _ q3) (by rw [encA_len, hsz]) w1 (by rw [← hsz]; exact w2)
            rw [← w3, ovr_pre hus] at st
            exact (st.pre q2) next Q K'
        · cases hr
      · cases hr
    · cases hr
  · cases hr
/-- Something new of its own. -/
def newK (x : MOb) (h : H) (k : Nat → H → Option β) : Option β := setT h.t h.nid (some x) (fun t1 => k h.nid { h with t := t1, nid := h.nid + 1 })
theorem newK_ok {x : MOb} {k : Nat → H → Option β} (hr : newK x h k = some r) : ∃ h', k h.nid h' = some r ∧ h.nid < 16777216 ∧ (hp h).fr h.nid ∧ hp h' = app [.new h.nid x.low] (hp h) := by
  obtain ⟨hq, t1, k1, k2⟩ := setT_inv hr
  have hq : h.nid < 16777216 := lt15 hq
  refine ⟨_, k1, hq, ?_, hp_new hq k2⟩
  have e : (if h.nid < lim then h.nid ≤ h.nid else regFr h.rg h.nid) = (h.nid ≤ h.nid) := if_pos hq
  show (if h.nid < lim then h.nid ≤ h.nid else regFr h.rg h.nid)
  rw [e]; exact Nat.le_refl _
theorem opS_allocz {S : Hp} {T : TypeId} {i : TypeInfo} {z : Value} {q : Nat} {zs : List A} (ho : o.op = .alloc T) (hi : P.info? T = some i) (hz : i.zero = some z) (hz1 : Zs zs z) (hf : S.fr q) :
    OpS P o ρ S (S.new q (.cells zs)) (.ptr q 0) := by
  intro g w a next Q hI hv K
  have hzs := hz1 g
  obtain ⟨h1, h2⟩ := hI.allocs hf (cs := zs) (vs := z.cells) T (by have := hzs.1; simp at this ⊢; omega) hzs.all
  unfold Oper.wp
  simp only [execOp, ho, Instr.alloc, Sem.run_bind, zeroValue, typeInfo, run_program, Result.andThen_ok, hi, hz, Sem.run_pure, newVar, newRow, run_newObj]
  exact K _ _ _ (.ptr _ _ w.heap.size _ gput_at) h1 h2
theorem V.ptr_tp {g : G} {q : Nat} {v : Value} (hv : V g (.ptr q 0) v) : V g (.tp (.loc q) []) v := by
  cases hv with
  | ptr _ _ b s hb => exact .tp (.loc q) [] b s hb trivial
def alcK (E : Env) (T : Nat) (h : H) (K : A → H → Fp → Option β) : Option β := match tget E.tab T with
  | some e => bif e.lt then (match e.t with
    | some t => newK (.one t t.dflt) h (fun q h' => K (.tp (.loc q) []) h' (.wr [rlo q]))
    | none => none) else newK (.cells (zeros e.zero)) h (fun q h' => K (.ptr q 0) h' (.wr [rlo q]))
  | none => none
theorem alcK_ok (hE : EnvOk P E) {T : Nat} (ho : o.op = .alloc T) (hr : alcK E T h K = some r) : Out P o ρ h K r := by
  have hd : ∀ c, o.op ≠ .defer c := by rw [ho]; intro c e; cases e
  unfold alcK at hr
  split at hr
  · rename_i e ht
    have hk := hE.tab _ _ ht
    obtain ⟨i, t1, t2, t3, t4, t5, t6⟩ := hk.ti
    cases hl : e.lt with
    | true =>
      rw [hl] at hr; simp only [cond_true] at hr
      split at hr
      · rename_i t hty
        obtain ⟨h', k1, hq, hf, hh⟩ := newK_ok hr
        refine ⟨_, _, _, k1, Step.weak (.of _ hh rfl (fun u hu => by rcases List.mem_singleton.1 hu with rfl; exact touch_loc (o := h.nid) hq (.head _)) (fun S2 hA => opS_allocz ho t1 t2 (hk.tz t hty) ((hA _ (touch_loc hq (.head _))).2.2 hf)) hd) (fun g v hv => hv.ptr_tp)⟩
      · cases hr
    | false =>
      rw [hl] at hr; simp only [cond_false] at hr
      obtain ⟨h', k1, hq, hf, hh⟩ := newK_ok hr
      exact ⟨_, _, _, k1, .of _ hh rfl (fun u hu => by rcases List.mem_singleton.1 hu with rfl; exact touch_loc (o := h.nid) hq (.head _)) (fun S2 hA => opS_allocz ho t1 t2 (zeros_zs t6) ((hA _ (touch_loc hq (.head _))).2.2 hf)) hd⟩
  · cases hr
theorem opS_boxw {S : Hp} {T : TypeId} {x : Operand} {ps qs : List A} {q : Nat} (ho : o.op = .box T x) (hx : (ρ x).cells = some ps) (hq : ∀ g vs, Vs g ps vs → Vs g qs vs) (hf : S.fr q) : OpS P o ρ S (S.new q (.cells qs)) (.ptr q 0) := by
  intro g w a next Q hI hv K
  have e2 := hq _ _ ((hv x (by simp [ho, Op.operands])).cells hx)
  obtain ⟨h1, h2⟩ := hI.allocs hf (cs := qs) (vs := (a.eval x).cells) T (by have := e2.1; simp at this ⊢; omega) e2.all
  unfold Oper.wp
  simp only [execOp, ho, Instr.box, Sem.run_bind, Result.andThen_ok, Sem.run_pure, newVar, newRow, run_newObj]
  exact K _ _ _ (.ptr _ _ w.heap.size _ gput_at) h1 h2
def boxOK (E : Env) (T : Nat) (px : A) (h : H) (K : A → H → Fp → Option β) : Option β := match tget E.tab T, px.cells with
  | some e, some ps => bif e.lt then (match e.t with
    | some t => match toC t ps with
      | some x => newK (.one t x) h (fun q h' => K (.tp (.loc q) []) h' (.wr [rlo q]))
      | none => none
    | none => none) else newK (.cells ps) h (fun q h' => K (.ptr q 0) h' (.wr [rlo q]))
  | _, _ => none
theorem boxOK_ok {T : Nat} {x : Operand} (ho : o.op = .box T x) (hr : boxOK E T (ρ x) h K = some r) : Out P o ρ h K r := by
  have hd : ∀ c, o.op ≠ .defer c := by rw [ho]; intro c e; cases e
  unfold boxOK at hr
  split at hr
  · rename_i e ps ht hps
    cases hl : e.lt with
    | true =>
      rw [hl] at hr; simp only [cond_true] at hr
      split at hr
      · rename_i t hty
        split at hr
        · rename_i y hy
          obtain ⟨h', k1, hq, hf, hh⟩ := newK_ok hr
          exact ⟨_, _, _, k1, Step.weak (.of _ hh rfl (fun u hu => by rcases List.mem_singleton.1 hu with rfl; exact touch_loc (o := h.nid) hq (.head _)) (fun S2 hA => opS_boxw ho hps (fun g vs hv => (toC_ok t ps y hy).2 vs hv) ((hA _ (touch_loc hq (.head _))).2.2 hf)) hd) (fun g v hv => hv.ptr_tp)⟩
        · cases hr
      · cases hr
    | false =>
      rw [hl] at hr; simp only [cond_false] at hr
      obtain ⟨h', k1, hq, hf, hh⟩ := newK_ok hr
      exact ⟨_, _, _, k1, .of _ hh rfl (fun u hu => by rcases List.mem_singleton.1 hu with rfl; exact touch_loc (o := h.nid) hq (.head _)) (fun S2 hA => opS_boxw ho hps (fun g vs hv => hv) ((hA _ (touch_loc hq (.head _))).2.2 hf)) hd⟩
  · cases hr
end
end
end Go.Bm
