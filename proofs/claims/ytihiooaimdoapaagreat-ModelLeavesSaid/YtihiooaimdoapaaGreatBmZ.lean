/- Operations, run: maps, told by their entries. -/
import Derived.Test.YtihiooaimdoapaaGreatBmY
set_option linter.unusedVariables false
set_option linter.unusedSimpArgs false
namespace Go.Bm
noncomputable section
open Go.RowKit
section
variable {P : Program} {E : Env} {o : Oper} {ρ : Operand → A} {h : H} {β : Type} {K : A → H → Fp → Option β} {r : β}
def isAg : A → Bool
  | .agg _ => true
  | _ => false
theorem V.sc1 {g : G} {p : A} {v : Value} {cs : List A} (hv : V g p v) (ha : isAg p = false) (hc : p.cells = some cs) : v.oneCell' = true := by
  cases hv with
  | v x =>
    unfold A.cells at hc
    cases hx : v.oneCell' with
    | true => rfl
    | false => simp only [hx, cond_false] at hc; cases hc
  | agg => cases ha
  | tup => cases hc
  | un => cases hc
  | junk => cases hc
  | op r o v h0 h1 => exact V.oneo (.op r o v h0 h1)
  | os r z o v h0 h1 => exact V.oneo (.os r z o v h0 h1)
  | om r o v h0 h1 => exact V.oneo (.om r o v h0 h1)
  | tl t f l v hd => exact hd.one
  | _ => rfl
def packK (a : Bool) (t : Ty) (p : A) : Option t.T := bif a then (match p with
  | .agg cs => toC t cs
  | _ => none) else bif isAg p then none else (match p.cells with
  | some cs => bif Nat.beq t.size 1 then toC t cs else none
  | none => none)
theorem packK_ok {a : Bool} {t : Ty} {p : A} {x : t.T} (hx : packK a t p = some x) {g : G} {v : Value} (hv : V g p v) : V g (packA a t x) v := by
  unfold packK at hx
  unfold packA
  cases a with
  | true =>
    simp only [cond_true] at hx ⊢
    split at hx
    · rename_i cs
      obtain ⟨us, rfl⟩ := hv.aggP rfl
      exact Vs.agg ((toC_ok (g := g) t cs x hx).2 _ (hv.cells rfl))
    · cases hx
  | false =>
    simp only [cond_false] at hx ⊢
    cases ha : isAg p with
    | true => rw [ha] at hx; cases hx
    | false =>
      rw [ha] at hx; simp only [cond_false] at hx
      split at hx
      · rename_i cs hc
        obtain ⟨h1, hx⟩ := cond_some hx
        have h1 := beq_eq h1
        have hv2 := (toC_ok (g := g) t cs x hx).2 _ (hv.cells hc)
        rw [one_cells (hv.sc1 ha hc)] at hv2
        have hl : (encA t x).length = 1 := by rw [encA_len]; exact h1
        match he : encA t x, hl with
        | [c], _ =>
          rw [he] at hv2
          exact (hv2.2 0 c v rfl rfl).1
      · cases hx
theorem OpS.conv {S S' : Hp} {ρ' : Operand → A} {pv : A} (hc : ∀ x ∈ o.op.operands, ∀ g v, V g (ρ x) v → V g (ρ' x) v) (k : OpS P o ρ' S S' pv) : OpS P o ρ S S' pv :=
  fun g w a next Q hI hv K => k g w a next Q hI (fun x hx => hc x hx g _ (hv x hx)) K
/-- Told otherwise. -/
def told (ρ : Operand → A) (y : Operand) (p : A) : Operand → A := fun z => open Classical in if z = y then p else ρ z
theorem told_self {ρ : Operand → A} {y : Operand} {p : A} : told ρ y p y = p := if_pos rfl
theorem told_ne {ρ : Operand → A} {y z : Operand} {p : A} (h : z ≠ y) : told ρ y p z = ρ z := if_neg h
theorem told_conv {ρ : Operand → A} {y : Operand} {p : A} (h : ∀ g v, V g (ρ y) v → V g p v) : ∀ (x : Operand) (g : G) (v : Value), V g (ρ x) v → V g (told ρ y p x) v := fun x g v hv => by
  by_cases hx : x = y
  · subst hx; rw [told_self]; exact h g v hv
  · rw [told_ne hx]; exact hv
/-- A region's map. -/
def mpK (h : H) (r j : Nat) (k : (ka : Bool) → (tk : Ty) → (va : Bool) → (tv : Ty) → List (tk.T × tv.T) → Option β) : Option β := match rfind h.rg r with
  | some ⟨_, .map ka tk va tv, c⟩ => bif Nat.blt r 64 then k ka tk va tv (nth (α := List (tk.T × tv.T)) [] c j) else none
  | _ => none
def ents (ka : Bool) (tk : Ty) (va : Bool) (tv : Ty) (es : List (tk.T × tv.T)) : List (A × A) := es.map fun e => (packA ka tk e.1, packA va tv e.2)
theorem regOb_map {ka va : Bool} {tk tv : Ty} {c : List (List (tk.T × tv.T))} {j : Nat} (h : j < c.length) : regOb (.map ka tk va tv) c j = some (.oth (.map (ents ka tk va tv (nth [] c j)))) := by
  show (match gtA (α := List (tk.T × tv.T)) c j with | some es => some (Ob.oth (.map (ents ka tk va tv es))) | none => none) = _
  have e : gtA c j = some (nth [] c j) := by simp [gtA, nth, List.getD_eq_getElem?_getD, List.getElem?_eq_getElem h]
  rw [e]
theorem mpK_ok {q j : Nat} {k : (ka : Bool) → (tk : Ty) → (va : Bool) → (tv : Ty) → List (tk.T × tv.T) → Option β} (hr : mpK h q j k = some r) : ∃ (ka : Bool) (tk : Ty) (va : Bool) (tv : Ty) (es : List (tk.T × tv.T)), k ka tk va tv es = some r ∧ q < 64 ∧ (∃ x : Rg, rfind h.rg q = some x ∧ ∃ c : List (List (tk.T × tv.T)), x = ⟨x.r, .map ka tk va tv, c⟩ ∧ es = nth [] c j) ∧
    ∀ g S (w : World) b s, Inv g S w → S.ob (rid q j) = (hp h).ob (rid q j) → (S.fr (rid q j) ↔ (hp h).fr (rid q j)) → g.at' (rid q j) = some (some b, s) → S.ob (rid q j) = some (.oth (.map (ents ka tk va tv es))) := by
  unfold mpK at hr
  split at hr
  · rename_i rr ka tk va tv c hf
    obtain ⟨h1, h2⟩ := cond_some hr
    have h3 : q < 64 := blt_lt h1
    refine ⟨ka, tk, va, tv, _, h2, h3, ⟨_, hf, c, rfl, rfl⟩, fun g S w b s hI e e2 hg => ?_⟩
    have hlt : j < List.length (α := List (tk.T × tv.T)) c := by
      rcases Nat.lt_or_ge j (List.length (α := List (tk.T × tv.T)) c) with hlt | hge
      · exact hlt
      · have : S.fr (rid q j) := e2.2 (by rw [hp_reg.2, regFr_eq h3 hf]; exact hge)
        have := hI.fresh _ this
        rw [this] at hg; cases hg
    rw [e, hp_reg.1, regAt_eq h3 hf]
    exact regOb_map hlt
  · cases hr
/-- Other parts of memory are what they were. -/
theorem ob_at {T : Fp} {S2 : Hp} (hA : Agree T (hp h) S2) {i : Nat} (hi : touch T i = true) : S2.ob i = (hp h).ob i ∧ (S2.fr i ↔ (hp h).fr i) := hA i hi
def lkpR (ok : Bool) (z : A) (res : Option (Nat × A)) (h : H) (T : Fp) (K : A → H → Fp → Option β) : Option β := bif ok then K (.tup [valR z res, .v (.bool res.isSome)]) h T else spK (valR z res) (fun v => K v h T)
theorem lkpR_ok {ok : Bool} {z : A} {res : Option (Nat × A)} {T : List Nat} (hd : ∀ c, o.op ≠ .defer c) (hr : lkpR ok z res h (.rd T) K = some r) (k : ∀ S2, Agree (.rd T) (hp h) S2 → OpS P o ρ S2 S2 (bif ok then .tup [valR z res, .v (.bool res.isSome)] else valR z res)) : Out P o ρ h K r := by
  unfold lkpR at hr
  cases ok with
  | true => exact .read T hr k hd
  | false => exact .sp hr (.read _ k hd)
def lkpK (E : Env) (T : Nat) (ok : Bool) (px py : A) (h : H) (K : A → H → Fp → Option β) : Option β := match tget E.tab T with
  | some ⟨.map KT VT, _, _, _, _, _, _⟩ => match tget E.tab KT, tget E.tab VT with
    | some e, some e2 => match zeroA e2.zero with
      | some z => match px with
        | .mp (.loc q) => match h.t.get q with
          | some (.oth (.map es)) => match keyE E KT e.d py py with
            | some _ => bif keyTy E e.d && Nat.blt q 16777216 then findK (keyE E KT e.d py) es 0 (fun res => lkpR ok z res h (.rd [rlo q]) K) else none
            | none => none
          | _ => none
        | .mp (.reg q j) => mpK h q j (fun ka tk va tv es => bif ksh E KT e ka tk && keyTy E e.d then (match packK ka tk py with
          | some x => opt (mfi (eqT tk x) es 0) (lkpR ok z none h (.rd [rgn q]) K) (fun p => lkpR ok z (some (p.1, packA va tv p.2)) h (.rd [rgn q]) K)
          | none => none) else none)
        | _ => none
      | none => none
    | _, _ => none
  | _ => none
theorem lkpK_ok (hE : EnvOk P E) {T : Nat} {x y : Operand} {ok : Bool} (ho : o.op = .lookup T x y ok) (hr : lkpK E T ok (ρ x) (ρ y) h K = some r) : Out P o ρ h K r := by
  have hd : ∀ c, o.op ≠ .defer c := by rw [ho]; intro c e; cases e
  unfold lkpK at hr
  split at hr
  · rename_i KT VT _ _ _ _ _ _ ht
    have hT := (hE.tab _ _ ht).u
    split at hr
    · rename_i e e2 he he2
      obtain ⟨i, t1, t2, t3, t4, t5, t6⟩ := (hE.tab _ _ he2).ti
      split at hr
      · rename_i z hz
        have hzz := zeroA_ok hz t6
        split at hr
        · rename_i q hx
          split at hr
          · rename_i es hg
            split at hr
            · rename_i b hs
              obtain ⟨h1, hr⟩ := cond_some hr
              simp only [Bool.and_eq_true] at h1
              have hq := blt_lt h1.2
              obtain ⟨res, k1, k2⟩ := findK_ok _ _ _ hr
              have hob : (hp h).ob q = some (.oth (.map es)) := by rw [hp_loc hq]; unfold tOb; rw [hg]; rfl
              exact lkpR_ok hd k1 (fun S2 hA => opS_lookup hE ho hT he he2 h1.1 hs hx ((hA q (touch_loc hq (.head _))).1.trans hob) k2 hzz)
            · cases hr
          · cases hr
        · rename_i q j hx
          obtain ⟨ka, tk, va, tv, es, hr, hq, _, hob⟩ := mpK_ok hr
          obtain ⟨h1, hr⟩ := cond_some hr
          simp only [Bool.and_eq_true] at h1
          split at hr
          · rename_i kx hkx
            have hne : x ≠ y := fun e => by
              rw [← e, hx] at hkx
              unfold packK at hkx
              cases ka with
              | true => cases hkx
              | false =>
                simp only [cond_false, isAg, A.cells] at hkx
                obtain ⟨_, hkx⟩ := cond_some hkx
                have hs := h1.1
                unfold ksh at hs
                split at hs
                · simp only [Bool.not_false, Bool.true_and] at hs
                  split at hs
                  · simp [toC] at hkx
                  · cases hs
                · simp at hs
                · cases hs
            have main : ∀ res, mfi (eqT tk kx) es 0 = res → lkpR ok z (res.map fun p => (p.1, packA va tv p.2)) h (.rd [rgn q]) K = some r → Out P o ρ h K r := fun res hm hr => by
              refine lkpR_ok hd hr (fun S2 hA => OpS.at' fun g w a hI hv => ?_)
              have hvx := hv x (by simp [ho, Op.operands])
              rw [hx] at hvx
              have ha := hA (rid q j) (touch_reg (r := q) (j := j) hq (.head _))
              have hm2 : ∃ b s, g.at' (rid q j) = some (some b, s) := by
                generalize a.eval x = vx at hvx
                cases hvx with
                | mp _ b s hat => exact ⟨b, s, hat⟩
              obtain ⟨b, s, hat⟩ := hm2
              have hob2 := hob g S2 w b s hI ha.1 ha.2 hat
              refine OpS.conv (ρ' := told ρ y (packA ka tk kx)) (fun x _ g v hv => told_conv (fun g v hv => packK_ok hkx hv) x g v hv) ?_
              have hf := findA_typed (va := va) (tv := tv) he h1.1 kx es 0
              rw [hm] at hf
              exact opS_lookup (X := .reg q j) (es := ents ka tk va tv es) hE ho hT he he2 h1.2 (b := eqT tk kx kx) (by rw [told_self]; exact ksh_eq he h1.1 kx kx) (by rw [told_ne hne, hx]) hob2 (by rw [told_self]; exact hf) hzz
            rcases opt_inv hr with ⟨e, hr⟩ | ⟨p, e, hr⟩
            · exact main none e hr
            · exact main (some p) e hr
          · cases hr
        · cases hr
      · cases hr
    · cases hr
  · cases hr
/-- A new map. -/
def mkmK (h : H) (K : A → H → Fp → Option β) : Option β := newK (.oth (.map [])) h (fun q h' => K (.mp (.loc q)) h' (.wr [rlo q]))
theorem mkmK_ok {T : Nat} (ho : o.op = .makeMap T none) (hr : mkmK h K = some r) : Out P o ρ h K r := by
  have hd : ∀ c, o.op ≠ .defer c := by rw [ho]; intro c e; cases e
  obtain ⟨h', k1, hq, hf, hh⟩ := newK_ok hr
  exact ⟨_, _, _, k1, .of _ hh rfl (fun u hu => by rcases List.mem_singleton.1 hu with rfl; exact touch_loc (o := h.nid) hq (.head _)) (fun S2 hA => opS_makeMap ho ((hA _ (touch_loc hq (.head _))).2.2 hf)) hd⟩
/-- A map written. -/
def putM (h : H) (q j : Nat) (ka : Bool) (tk : Ty) (va : Bool) (tv : Ty) (es : List (tk.T × tv.T)) (k : H → Option β) : Option β := bif lkd h (rgn q) then none else match rfind h.rg q with
  | some ⟨_, .map ka' tk' va' tv', c⟩ => if ka = ka' ∧ va = va' then (match castT (.slc (.pair tk tv)) (.slc (.pair tk' tv')) es with
    | some es' => k { h with rg := rput h.rg q (.map ka' tk' va' tv') (upd (α := List (tk'.T × tv'.T)) c j es') }
    | none => none) else none
  | _ => none
theorem regOb_updM {ka va : Bool} {tk tv : Ty} {c : List (List (tk.T × tv.T))} {j : Nat} {es : List (tk.T × tv.T)} (hj : j < c.length) (i : Nat) : regOb (.map ka tk va tv) (upd c j es) i = if i = j then some (.oth (.map (ents ka tk va tv es))) else regOb (.map ka tk va tv) c i := by
  show (match gtA (α := List (tk.T × tv.T)) (upd c j es) i with | some es => some (Ob.oth (.map (ents ka tk va tv es))) | none => none) = if i = j then some (.oth (.map (ents ka tk va tv es))) else (match gtA (α := List (tk.T × tv.T)) c i with | some es => some (Ob.oth (.map (ents ka tk va tv es))) | none => none)
  rw [gtA_upd]
  by_cases h : i = j
  · rw [if_pos ⟨h, hj⟩, if_pos h]
  · rw [if_neg (fun k => h k.1), if_neg h]
theorem putM_ok {q j : Nat} {ka : Bool} {tk : Ty} {va : Bool} {tv : Ty} {es : List (tk.T × tv.T)} {k : H → Option β} (h3 : q < 64) (hr : putM h q j ka tk va tv es k = some r) : ∃ h', k h' = some r ∧ PutOk h h' (.reg q j) (.oth (.map (ents ka tk va tv es))) := by
  obtain ⟨_, hr⟩ := bif_none hr
  split at hr
  · rename_i rr ka' tk' va' tv' c hf
    split at hr
    · rename_i e
      obtain ⟨rfl, rfl⟩ := e
      split at hr
      rotate_left
      · cases hr
      rename_i es' hes
      obtain ⟨e, hes⟩ := castT_eq hes
      cases e
      obtain rfl : es = es' := hes
      refine ⟨_, hr, fun i hi => ?_, fun hfr => ?_⟩
      · have hn := touch_rg h3 hi
        have := hp_rput (h := h) (k := .map ka tk va tv) (c := upd (α := List (tk.T × tv.T)) c j es) hf i
        rw [if_neg hn, if_neg hn] at this
        exact this
      · have hlt : j < List.length (α := List (tk.T × tv.T)) c := by
          rcases Nat.lt_or_ge j (List.length (α := List (tk.T × tv.T)) c) with hlt | hge
          · exact hlt
          · exact absurd (by rw [show (Ref.reg q j).id = rid q j from rfl, hp_reg.2, regFr_eq h3 hf]; exact hge) hfr
        exact hp_mem (j := j) (u := .set (rid q j) _) h3 hf (upd_len (α := List (tk.T × tv.T)) c j _) (fun i hi => by rw [regOb_updM (c := c) hlt, if_neg hi]) rfl (by rw [regOb_updM (c := c) hlt, if_pos rfl]; exact set_ob) rfl
    · cases hr
  · cases hr
/-- An integer key found is the one. -/
def intKey : A → Bool
  | .v (.int _ _) => true
  | _ => false
def mputK (E : Env) (T : Nat) (ins ne : Bool) (px py pz : A) (h : H) (K : A → H → Fp → Option β) : Option β := match tget E.tab T with
  | some ⟨.map KT _, _, _, _, _, _, _⟩ => match tget E.tab KT with
    | some e => match px with
      | .mp (.loc q) => match h.t.get q with
        | some (.oth (.map es)) => match keyE E KT e.d py py with
          | some _ => bif keyTy E e.d && Nat.blt q 16777216 && !(lkd h (rlo q)) then findK (keyE E KT e.d py) es 0 (fun res => match res with
            | none => setT h.t q (some (.oth (.map (es ++ [(py, pz)])))) (fun t1 => K .junk { h with t := t1 } (.wr [rlo q]))
            | some _ => none) else none
          | none => none
        | _ => none
      | .mp (.reg q j) => mpK h q j (fun ka tk va tv es => bif ksh E KT e ka tk && keyTy E e.d && ne then (match packK ka tk py, packK va tv pz with
        | some x, some y => opt (mfi (eqT tk x) es 0) (putM h q j ka tk va tv (cat es [(x, y)]) (fun h' => K .junk h' (.wr [rgn q])))
          (fun p => bif ins then none else putM h q j ka tk va tv (mset es p.1 y) (fun h' => K .junk h' (.wr [rgn q])))
        | _, _ => none) else none)
      | _ => none
    | none => none
  | _ => none
theorem mfi_spec {κ α : Type} {p : κ → Bool} : ∀ (l : List (κ × α)) (i n : Nat) (v : α), mfi p l i = some (n, v) → ∃ m k, n = i + m ∧ l[m]? = some (k, v) ∧ p k = true
  | [], _, _, _, h => by cases h
  | (k, v) :: l, i, n, v', h => by
    unfold mfi at h
    cases hk : p k with
    | true => rw [hk] at h; cases h; exact ⟨0, k, rfl, rfl, hk⟩
    | false =>
      rw [hk] at h
      obtain ⟨m, k', h1, h2, h3⟩ := mfi_spec l (i + 1) n v' h
      exact ⟨m + 1, k', by omega, h2, h3⟩
theorem V.mpAt {g : G} {X : Ref} {v : Value} (hv : V g (.mp X) v) : ∃ b s, g.at' X.id = some (some b, s) := by
  cases hv with
  | mp _ b s hat => exact ⟨b, s, hat⟩
theorem packK_mp {E : Env} {K : Nat} {e : TyE} {ka : Bool} {tk : Ty} {X : Ref} {kx : tk.T} (hs : ksh E K e ka tk = true) (hkx : packK ka tk (.mp X) = some kx) : False := by
  unfold packK at hkx
  cases ka with
  | true => cases hkx
  | false =>
    simp only [cond_false, isAg, A.cells] at hkx
    obtain ⟨_, hkx⟩ := cond_some hkx
    unfold ksh at hs
    split at hs
    · simp only [Bool.not_false, Bool.true_and] at hs
      split at hs
      · simp [toC] at hkx
      · cases hs
    · simp at hs
    · cases hs
theorem mputK_ok (hE : EnvOk P E) {T : Nat} {x y z : Operand} {ins ne : Bool} (hzy : ne = true → z ≠ y) (ho : (ins = false ∧ o.op = .mapUpdate T x y z) ∨ (ins = true ∧ o.op = .insert T x y z)) (hr : mputK E T ins ne (ρ x) (ρ y) (ρ z) h K = some r) : Out P o ρ h K r := by
  have hd : ∀ c, o.op ≠ .defer c := by rcases ho with ⟨_, ho⟩ | ⟨_, ho⟩ <;> (rw [ho]; intro c e; cases e)
  have ho' : o.op = .mapUpdate T x y z ∨ o.op = .insert T x y z := by rcases ho with ⟨_, ho⟩ | ⟨_, ho⟩ <;> simp [ho]
  have hops : x ∈ o.op.operands := by rcases ho' with ho | ho <;> simp [ho, Op.operands]
  unfold mputK at hr
  split at hr
  · rename_i KT VT _ _ _ _ _ _ ht
    have hT := (hE.tab _ _ ht).u
    split at hr
    · rename_i e he
      split at hr
      · rename_i q hx
        split at hr
        · rename_i es hg
          split at hr
          · rename_i b hs
            obtain ⟨h1, hr⟩ := cond_some hr
            simp only [Bool.and_eq_true] at h1
            have hq := blt_lt h1.1.2
            obtain ⟨res, k1, k2⟩ := findK_ok _ _ _ hr
            have hob : (hp h).ob q = some (.oth (.map es)) := by rw [hp_loc hq]; unfold tOb; rw [hg]; rfl
            split at k1
            · obtain ⟨_, t1, k3, k4⟩ := setT_inv k1
              exact ⟨_, _, _, k3, .of [.set q (.oth (.map (es ++ [(ρ y, ρ z)])))] (hp_set (x := .oth (.map (es ++ [(ρ y, ρ z)]))) hq k4) rfl (fun u hu => by rcases List.mem_singleton.1 hu with rfl; exact touch_loc (o := q) hq (.head _))
                (fun S2 hA => opS_put hE ho' hT he h1.1.1 hs hx ((hA q (touch_loc hq (.head _))).1.trans hob) (fun g v hv => hv) (fun g v hv => hv) k2) hd⟩
            · cases k1
          · cases hr
        · cases hr
      · rename_i q j hx
        obtain ⟨ka, tk, va, tv, es, hr, hq, _, hob⟩ := mpK_ok hr
        obtain ⟨h1, hr⟩ := cond_some hr
        simp only [Bool.and_eq_true] at h1
        split at hr
        · rename_i kx vy hkx hvy
          have hne : x ≠ y := fun e => by rw [← e, hx] at hkx; exact packK_mp h1.1.1 hkx
          have hX : okR (.reg q j) = true := by show Nat.blt q 64 = true; simpa using hq
          have pres : ∀ (g : G) (S : Hp) (w : World) (a : Act), Inv g S w → (∀ x ∈ o.op.operands, V g (ρ x) (a.eval x)) → g.at' (Ref.reg q j).id ≠ none := fun g S w a hI hv => by
            have hvx := hv x hops
            rw [hx] at hvx
            obtain ⟨b, s, hat⟩ := hvx.mpAt
            rw [hat]; intro h; cases h
          have here : ∀ S2, Agree (.wr (rs1 (.reg q j) :: [])) (hp h) S2 → ∀ {S' : Hp} {pv : A}, (S2.ob (rid q j) = some (.oth (.map (ents ka tk va tv es))) → OpS P o ρ S2 S' pv) → OpS P o ρ S2 S' pv := fun S2 hA _ _ k => OpS.at' fun g w a hI hv => by
            have hvx := hv x hops
            rw [hx] at hvx
            obtain ⟨b, s, hat⟩ := hvx.mpAt
            have ha := hA (rid q j) (touch_reg (r := q) (j := j) hq (.head _))
            exact k (hob g S2 w b s hI ha.1 ha.2 hat)
          have hxt : told ρ y (packA ka tk kx) x = .mp (.reg q j) := by rw [told_ne hne, hx]
          have hvz : ∀ g v, V g (told ρ y (packA ka tk kx) z) v → V g (packA va tv vy) v := fun g v hv => by
            rw [told_ne (hzy h1.2)] at hv; exact packK_ok hvy hv
          have conv := fun {S S' : Hp} {pv : A} => OpS.conv (P := P) (o := o) (ρ := ρ) (ρ' := told ρ y (packA ka tk kx)) (S := S) (S' := S') (pv := pv) (fun x _ g v hv => told_conv (fun g v hv => packK_ok hkx hv) x g v hv)
          have hs : keyE E KT e.d (told ρ y (packA ka tk kx) y) (told ρ y (packA ka tk kx) y) = some (eqT tk kx kx) := by rw [told_self]; exact ksh_eq he h1.1.1 kx kx
          have hf := findA_typed (va := va) (tv := tv) he h1.1.1 kx es 0
          rcases opt_inv hr with ⟨e1, hr⟩ | ⟨p, e1, hr⟩
          · obtain ⟨h', k1, k2⟩ := putM_ok hq hr
            refine ⟨_, _, _, k1, .put hd hX k2 pres (fun S2 hA => here S2 hA fun hob2 => ?_)⟩
            have e2 : ents ka tk va tv (cat es [(kx, vy)]) = ents ka tk va tv es ++ [(packA ka tk kx, packA va tv vy)] := by simp [ents, cat]
            rw [e2]
            rw [e1] at hf
            exact conv (opS_put (X := .reg q j) hE ho' hT he h1.1.2 hs hxt hob2 (fun g v hv => by rw [told_self] at hv; exact hv) hvz (by rw [told_self]; exact hf))
          · cases hi : ins with
            | true => rw [hi] at hr; cases hr
            | false =>
              rw [hi] at hr; simp only [cond_false] at hr
              obtain ⟨h', k1, k2⟩ := putM_ok hq hr
              refine ⟨_, _, _, k1, .put hd hX k2 pres (fun S2 hA => here S2 hA fun hob2 => ?_)⟩
              have e2 : ents ka tk va tv (mset es p.1 vy) = modA (ents ka tk va tv es) p.1 (packA va tv vy) := by
                unfold ents mset modA
                apply List.ext_getElem?
                intro m
                simp only [List.getElem?_map, List.getElem?_modify]
                cases es[m]? with
                | none => rfl
                | some u =>
                  by_cases hm : p.1 = m
                  · simp [hm]
                  · simp [hm]
              rw [e2]
              rw [e1] at hf
              obtain ⟨m, kk, m1, m2, m3⟩ := mfi_spec es 0 p.1 p.2 e1
              have hmu : o.op = .mapUpdate T x y z := by
                rcases ho with ⟨_, ho⟩ | ⟨hh, _⟩
                · exact ho
                · rw [hi] at hh; cases hh
              refine conv (opS_putf (X := .reg q j) (n := p.1) hE hmu hT he h1.1.2 hs hxt hob2 hvz (by rw [told_self]; exact hf) (fun g v u v' hu hv hv' => ?_))
              rw [told_self] at hv
              have hu2 : (ents ka tk va tv es)[p.1]? = some (packA ka tk kk, packA va tv p.2) := by
                rw [m1, Nat.zero_add]
                unfold ents
                rw [List.getElem?_map, m2]; rfl
              rw [hu2] at hu
              cases hu
              exact ksh_same h1.1.1 m3 hv hv'
        · cases hr
      · cases hr
    · cases hr
  · cases hr
end
end
end Go.Bm
