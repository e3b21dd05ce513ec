/- Maps: members that are maps. -/
import Derived.Test.YtopmocpjgjbdbaaPvFe
import Derived.MapKept
namespace Go.Pv
open Go.RowKit
section
variable {g : Gh} {S : Sx} {w : World} {i j : Nat} {ds : List PV}
/-- A member is another one, in its own block. -/
theorem Inv.setmem (h : Inv g S w) {cs ds' : List PV} {blk : Nat} {F0 : Fx} {W : World} (hb : S.bs[i]? = some (some cs)) (hf : isFam cs = true) (hm : cs[j + 1]? = some (.agg ds)) (f1 : g.fx i j = some F0) (f2 : F0.blk = some blk)
    (hoth : ∀ k, k ≠ blk → W.heap[k]? = w.heap[k]?) (hsize : W.heap.size = w.heap.size) (hos : W.os = w.os) (htape : W.tape = w.tape) (hout : W.output = w.output) (hM : Member g W F0 ds') :
    Inv g ⟨S.bs.set i (some (cs.set (j + 1) (.agg ds'))), S.ts⟩ W ∧ Ext g w g W := by
  have hlt : i < S.bs.length := (List.getElem?_eq_some_iff.1 hb).1
  have hltj : j + 1 < cs.length := (List.getElem?_eq_some_iff.1 hm).1
  obtain ⟨o1, o2, o3, o4⟩ := h.fam.out i j F0 blk f1 f2
  refine ⟨?_, ?_⟩
  · refine ⟨by simp [h.hbx], h.htg, ?_, h.one, ?_, ?_, h.bmem, ?_, h.inj, ?_, ?_, ?_, h.tinj, ?_⟩
    · intro k o x e
      have hne : k ≠ blk := fun hh => by subst hh; rw [o2 o] at e; cases e
      rw [World.cell?_of_block (w := w) (hoth k hne)]
      exact h.mem k o x e
    · intro i' cs' e hne' hf'
      rw [List.getElem?_set] at e
      by_cases hib : i = i'
      · subst hib
        simp only [if_true, hlt] at e
        obtain rfl := Option.some.inj (Option.some.inj e)
        rw [isFam_set, hf] at hf'; cases hf'
      · rw [if_neg hib] at e
        obtain ⟨blk', cur', ty', k1, k2, k3⟩ := h.box i' cs' e hne' hf'
        refine ⟨blk', cur', ty', k1, ?_, k3⟩
        rw [hoth blk' (fun hh => o3 i' (hh ▸ k1))]
        exact k2
    · intro i' e
      rw [List.getElem?_set] at e
      by_cases hib : i = i'
      · subst hib; simp [hlt] at e
      · rw [if_neg hib] at e; exact h.nob i' e
    · intro i' k e; rw [hsize]; exact h.blt i' k e
    · intro i' G e
      obtain ⟨cs', k1, k2, k3, k4, k5, k6⟩ := h.gr i' G e
      have hib : i ≠ i' := by rintro rfl; rw [(h.fam.bx i cs hb hf).2] at e; cases e
      refine ⟨cs', by show (S.bs.set i _)[i']? = _; rw [List.getElem?_set, if_neg hib]; exact k1, k2, k3, k4, k5, fun hc => ?_⟩
      obtain ⟨blk', cur', ty', j1, j2, j3⟩ := k6 hc
      refine ⟨blk', cur', ty', j1, ?_, j3⟩
      rw [hoth blk' (fun hh => o3 i' (hh ▸ j1))]
      exact j2
    · intro t m e
      obtain ⟨T, k1, k2, k3, k4, k5⟩ := h.tag t m e
      refine ⟨T, k1, k2, k3, k4, fun hlt => ?_⟩
      obtain ⟨blk', cur', ty', j1, j2, j3⟩ := k5 hlt
      refine ⟨blk', cur', ty', j1, ?_, j3⟩
      rw [hoth blk' (fun hh => by subst hh; exact o4 t T k1 j1 hlt)]
      exact j2
    · intro t T k e1 e2 e3; rw [hsize]; exact h.tbx t T k e1 e2 e3
    · refine ⟨fun i' cs' e hf' => ?_, fun i' j' cs' m e hf' hm' => ?_, fun i' j' F e => ?_, fun i' j' F b e hb' => ?_, h.fam.inj⟩
      · rw [List.getElem?_set] at e
        by_cases hib : i = i'
        · subst hib; exact h.fam.bx i cs hb hf
        · rw [if_neg hib] at e; exact h.fam.bx i' cs' e hf'
      · have hother : ∀ (F : Fx) (ds' : List PV), g.fx i' j' = some F → Member g w F ds' → ¬ (i' = i ∧ j' = j) → Member g W F ds' := fun F ds' e1 e2 hne =>
          e2.map (fun _ _ _ _ hv => hv) (fun b hb' => hoth b (fun hh => hne (by subst hh; exact h.fam.inj i' j' i j F F0 b e1 f1 hb' f2)))
        rw [List.getElem?_set] at e
        by_cases hib : i = i'
        · subst hib
          simp only [if_true, hlt] at e
          obtain rfl := Option.some.inj (Option.some.inj e)
          rw [List.getElem?_set] at hm'
          by_cases hjj : j + 1 = j' + 1
          · obtain rfl : j = j' := by omega
            rw [if_pos rfl, if_pos hltj] at hm'
            obtain rfl := Option.some.inj hm'
            exact ⟨F0, _, f1, rfl, hM⟩
          · rw [if_neg hjj] at hm'
            obtain ⟨F, ds', k1, rfl, k3⟩ := h.fam.mem i j' cs m hb hf hm'
            exact ⟨F, ds', k1, rfl, hother F ds' k1 k3 (by omega)⟩
        · rw [if_neg hib] at e
          obtain ⟨F, ds', k1, rfl, k3⟩ := h.fam.mem i' j' cs' m e hf' hm'
          exact ⟨F, ds', k1, rfl, hother F ds' k1 k3 (by omega)⟩
      · obtain ⟨cs', k1, k2, k3⟩ := h.fam.dom i' j' F e
        by_cases hib : i = i'
        · subst hib
          rw [hb] at k1
          obtain rfl : cs = cs' := by simpa using k1
          exact ⟨_, List.getElem?_set_self hlt, by rw [isFam_set]; exact hf, by simpa using k3⟩
        · exact ⟨cs', by show (S.bs.set i _)[i']? = _; rw [List.getElem?_set, if_neg hib]; exact k1, k2, k3⟩
      · rw [hsize]; exact h.fam.out i' j' F b e hb'
  · exact ⟨.refl g, hos, htape, hout, by rw [hsize]; exact Nat.le_refl _, fun k _ hn => hoth k (fun hh => hn (.inr (.inr ⟨i, j, F0, f1, by rw [hh]; exact f2⟩))), fun _ hh => .inl hh, fun _ _ _ hh => .inl hh⟩
end

/-! ### Keys -/
/-- Is a key an entry's? -/
def keyE (E : Env) (T : Nat) (d : TypeDesc) (p q : PV) : Option Bool :=
  match d with
  | .int _ => match p, q with
    | .d (.v (.int k m)), .d (.v (.int k' n)) => if k = k' then some (decide (m = n)) else none
    | _, _ => none
  | .struct _ => bif isAggP p && isAggP q then (match p.cells, q.cells with
    | some a, some b => eqC E 2 T a b
    | _, _ => none) else none
  | _ => none
/-- Types of keys that are served: an integer's, a struct's of integers. -/
def keyTy (E : Env) (d : TypeDesc) : Bool :=
  match d with
  | .int _ => true
  | .struct fs => fs.toList.all fun f => (match tget E.tab f.type with
    | some ef => match ef.d with
      | .int _ => true
      | _ => false
    | none => false)
  | _ => false
section
variable {P : Program} {E : Env}
/-- How a key is held against an entry's. -/
def KEq (P : Program) (w : World) (T : Nat) (v v' : Value) (b : Bool) : Prop :=
  (∃ kd, P.underlying T = some (.int kd) ∧ ∃ k m n, v = .int k m ∧ v' = .int k n ∧ b = decide (m = n)) ∨ ((∃ fs, P.underlying T = some (.struct fs)) ∧ (∃ vs, v = .agg vs) ∧ (Op.equal T v v').run P w = .ok b w)
theorem keyE_ok (hE : EnvOk P E) {g : Gh} {T : Nat} {e : TyE} {p q : PV} {v v' : Value} {b : Bool} (w : World) (he : tget E.tab T = some e) (h : keyE E T e.d p q = some b) (hp : V g p v) (hq : V g q v') : KEq P w T v v' b := by
  have hk := hE.tab T e he
  have hu := hk.u
  unfold keyE at h
  split at h
  · rename_i kd hd
    split at h
    · rename_i k m k' n
      split at h
      · rename_i hkk; subst hkk; cases h
        exact .inl ⟨kd, by rw [hu, hd], k, m, n, hp.d_v.1, hq.d_v.1, rfl⟩
      · cases h
    · cases h
  · rename_i fs hd
    cases hag : (isAggP p && isAggP q) with
    | false => rw [hag] at h; cases h
    | true =>
      rw [hag] at h; simp only [cond_true] at h
      simp only [Bool.and_eq_true] at hag
      split at h
      · rename_i a c ha hc
        obtain ⟨vs, h1⟩ := hp.aggP hag.1
        obtain ⟨us, h2⟩ := hq.aggP hag.2
        have c1 := hp.cells ha
        have c2 := hq.cells hc
        rw [h1] at c1
        rw [h2] at c2
        have haa : aggT e.d = true := by rw [hd]; rfl
        have hrun := eqC_ok hE 2 T a c b h g _ _ 9998 w e (.agg vs) (.agg us) he c1 c2 (by simp [valOf, haa, Value.cells]) (by simp [valOf, haa, Value.cells])
        refine .inr ⟨⟨fs, by rw [hu, hd]⟩, ⟨vs, h1⟩, ?_⟩
        rw [h1, h2]
        exact hrun
      · cases h
  · cases h
theorem find_miss {T : Nat} {v : Value} {w : World} : ∀ (es : List MapEntry), (∀ e ∈ es, KEq P w T v e.key false) → (es = [] → ∃ d, P.underlying T = some d) → (Instr.findKey T v es).run P w = .ok none w
  | [], _, hd => by
    obtain ⟨d, hd⟩ := hd rfl
    simp [Instr.findKey, run_underlying hd, Instr.findNow]
  | e :: es, hall, _ => by
    rcases hall e (List.mem_cons_self ..) with ⟨kd, hu, k, m, n, hv, hv', hb⟩ | ⟨⟨fs, hu⟩, ⟨vs, hv⟩, hr⟩
    · have hf : ∀ (l : List MapEntry) (i : Nat), (∀ e ∈ l, KEq P w T v e.key false) → Instr.findNow (.int kd) v l i = some none := by
        intro l
        induction l with
        | nil => intro i _; rfl
        | cons e l ih =>
          intro i hl
          rcases hl e (List.mem_cons_self ..) with ⟨kd', hu', k', m', n', hv1, hv1', hb'⟩ | ⟨⟨fs, hu'⟩, _⟩
          · unfold Instr.findNow
            have hne : (m' == n') = false := by
              have : ¬ m' = n' := of_decide_eq_false hb'.symm
              simpa using this
            simp only [hv1, hv1', Instr.sameNow, if_true, hne]
            rw [← hv1]
            exact ih (i + 1) (fun e he => hl e (List.mem_cons_of_mem _ he))
          · rw [hu] at hu'; cases hu'
      simp [Instr.findKey, run_underlying hu, hf (e :: es) 0 hall]
    · have hn : Instr.findNow (.struct fs) v (e :: es) 0 = none := by
        unfold Instr.findNow
        rw [hv]
        cases e.key <;> rfl
      have hf : ∀ (l : List MapEntry) (i : Nat), (∀ e ∈ l, KEq P w T v e.key false) → (Instr.findAsking T v l i).run P w = .ok none w := by
        intro l
        induction l with
        | nil => intro i _; simp [Instr.findAsking]
        | cons e l ih =>
          intro i hl
          rcases hl e (List.mem_cons_self ..) with ⟨kd', hu', _⟩ | ⟨_, _, hr'⟩
          · rw [hu] at hu'; cases hu'
          · simp only [Instr.findAsking, Sem.run_bind, hr', Result.andThen_ok]
            exact ih (i + 1) (fun e he => hl e (List.mem_cons_of_mem _ he))
      simp [Instr.findKey, run_underlying hu, hn, hf (e :: es) 0 hall]
theorem find_hit {T : Nat} {v : Value} {w : World} {es : List MapEntry} {j : Nat} {e : MapEntry} (hj : es[j]? = some e) (hb : ∀ (i : Nat) (e' : MapEntry), i < j → es[i]? = some e' → KEq P w T v e'.key false) (ht : KEq P w T v e.key true) :
    (Instr.findKey T v es).run P w = .ok (some (j, e.val)) w := by
  rcases ht with ⟨kd, hu, k, m, n, hv, hv', hbb⟩ | ⟨⟨fs, hu⟩, ⟨vs, hv⟩, hr⟩
  · have hf : ∀ (l : List MapEntry) (i j : Nat), l[j]? = some e → (∀ (i : Nat) (e' : MapEntry), i < j → l[i]? = some e' → KEq P w T v e'.key false) → Instr.findNow (.int kd) v l i = some (some (i + j, e.val)) := by
      intro l
      induction l with
      | nil => intro i j h; simp at h
      | cons a l ih =>
        intro i j h hl
        unfold Instr.findNow
        cases j with
        | zero =>
          obtain rfl : a = e := by simpa using h
          have : (m == n) = true := by simpa using (of_decide_eq_true hbb.symm)
          simp only [hv, hv', Instr.sameNow, if_true, this]
          simp
        | succ j =>
          rcases hl 0 a (by omega) rfl with ⟨kd', hu', k', m', n', hv1, hv1', hb'⟩ | ⟨⟨fs, hu'⟩, _⟩
          · have hne : (m' == n') = false := by
              have : ¬ m' = n' := of_decide_eq_false hb'.symm
              simpa using this
            simp only [hv1, hv1', Instr.sameNow, if_true, hne]
            rw [← hv1, ih (i + 1) j (by simpa using h) (fun i' e' hi he => hl (i' + 1) e' (by omega) (by simpa using he))]
            congr 3; omega
          · rw [hu] at hu'; cases hu'
    have := hf es 0 j hj hb
    simp [Instr.findKey, run_underlying hu, this]
  · have hn : Instr.findNow (.struct fs) v es 0 = none := by
      cases es with
      | nil => simp at hj
      | cons a l =>
        unfold Instr.findNow
        rw [hv]
        cases a.key <;> rfl
    have hf : ∀ (l : List MapEntry) (i j : Nat), l[j]? = some e → (∀ (i : Nat) (e' : MapEntry), i < j → l[i]? = some e' → KEq P w T v e'.key false) → (Instr.findAsking T v l i).run P w = .ok (some (i + j, e.val)) w := by
      intro l
      induction l with
      | nil => intro i j h; simp at h
      | cons a l ih =>
        intro i j h hl
        cases j with
        | zero =>
          obtain rfl : a = e := by simpa using h
          simp [Instr.findAsking, hr]
        | succ j =>
          rcases hl 0 a (by omega) rfl with ⟨kd', hu', _⟩ | ⟨_, _, hr'⟩
          · rw [hu] at hu'; cases hu'
          · simp only [Instr.findAsking, Sem.run_bind, hr', Result.andThen_ok, Bool.false_eq_true, if_false]
            rw [ih (i + 1) j (by simpa using h) (fun i' e' hi he => hl (i' + 1) e' (by omega) (by simpa using he))]
            congr 3; omega
    have := hf es 0 j hj hb
    simp [Instr.findKey, run_underlying hu, hn, this]
theorem check_key (hE : EnvOk P E) {g : Gh} {T : Nat} {e : TyE} {p : PV} {v : Value} {b : Bool} (w : World) (em : Bool) (he : tget E.tab T = some e) (ht : keyTy E e.d = true) (h : keyE E T e.d p p = some b) (hp : V g p v) : (Instr.checkKey em 10000 T v).run P w = .ok () w := by
  have hk := hE.tab T e he
  have hu := hk.u
  unfold keyTy at ht
  split at ht
  · rename_i kd hd
    rcases keyE_ok hE w he h hp hp with ⟨kd', hu', k, m, n, hv, _⟩ | ⟨⟨fs, hu'⟩, _⟩
    · rw [show 10000 = 9999 + 1 from rfl, Instr.checkKey]
      simp only [Sem.run_bind, run_underlying hu, Result.andThen_ok, hd, hv]
      rfl
    · rw [hu, hd] at hu'; cases hu'
  · rename_i fs hd
    have hu' : P.underlying T = some (.struct fs) := by rw [hu, hd]
    have hcells : ∃ a, p.cells = some a ∧ isAggP p = true ∧ eqC E 2 T a a = some b := by
      unfold keyE at h
      rw [hd] at h
      simp only at h
      cases hag : (isAggP p && isAggP p) with
      | false => rw [hag] at h; cases h
      | true =>
        rw [hag] at h; simp only [cond_true] at h
        simp only [Bool.and_self] at hag
        split at h
        · rename_i a c ha hc; rw [ha] at hc; cases hc; exact ⟨a, ha, hag, h⟩
        · cases h
    obtain ⟨a, ha, hag, heq⟩ := hcells
    obtain ⟨vs, rfl⟩ := hp.aggP hag
    have c1 : Vs g a vs.toList := hp.cells ha
    unfold eqC at heq
    rw [he] at heq
    simp only [hd] at heq
    cases hq : E.eqs.any (Nat.beq T) with
    | false => rw [hq] at heq; cases heq
    | true =>
      rw [hq] at heq; simp only [cond_true] at heq
      have hnames := (hE.eqs T hq).names fs hu'
      rw [show 10000 = 9999 + 1 from rfl, Instr.checkKey]
      simp only [Sem.run_bind, run_underlying hu', Result.andThen_ok]
      rw [← Array.forIn_toList]
      have hall := List.all_eq_true.1 ht
      generalize fs.toList = L at heq hall hnames
      clear hu' hd ht h
      induction L generalizing b with
      | nil => simp
      | cons f L ih =>
        have hf := hall f (List.mem_cons_self ..)
        have hn := hnames f (List.mem_cons_self ..)
        unfold eqF at heq
        split at heq
        · rename_i ef hef
          split at heq
          · rename_i x y hx hy
            rw [hef] at hf
            simp only at hf
            split at hf
            · rename_i kd hkd
              have hkf := hE.tab _ _ hef
              have huf := hkf.u
              -- the part
              have hpart : ∃ k m, (part f.type vs f.offset).run P w = .ok (.int k m) w := by
                unfold eqC at hx
                rw [hef] at hx
                simp only [hkd] at hx
                split at hx
                · rename_i k m k' n hc1 hc2
                  have c2 := c1.part f.offset ef.size
                  rw [hc1] at c2
                  obtain ⟨z, e1, e2⟩ := c2.single
                  have e2 := e2.d_v.1
                  subst e2
                  exact ⟨k, m, run_part hkf (by simp [valOf, hkd, aggT, e1]) w⟩
                · cases hx
              obtain ⟨k, m, hpr⟩ := hpart
              have hck : (Instr.checkKey em 9999 f.type (.int k m)).run P w = .ok () w := by
                rw [show 9999 = 9998 + 1 from rfl, Instr.checkKey]
                simp only [Sem.run_bind, run_underlying huf, Result.andThen_ok, hkd]
                rfl
              simp only [List.forIn_cons, Sem.run_bind, hn, ne_eq, not_false_eq_true, if_true, Result.andThen_ok, hpr, hck, Sem.run_pure]
              exact ih hy (fun y hy => hall y (List.mem_cons_of_mem _ hy)) (fun y hy => hnames y (List.mem_cons_of_mem _ hy))
            · cases hf
          · cases heq
        · cases heq
  · cases ht
variable {o : Oper} {ρ : Operand → PV} {S : Sx} {i j : Nat} {ds : List PV}
def KNo (E : Env) (K : Nat) (d : TypeDesc) (ds : List PV) (p : PV) (n : Nat) : Prop := ∀ m, m < n → ∃ q, ds[2 * m]? = some q ∧ keyE E K d p q = some false
def KYes (E : Env) (K : Nat) (d : TypeDesc) (ds : List PV) (p : PV) (n : Nat) : Prop := KNo E K d ds p n ∧ ∃ q, ds[2 * n]? = some q ∧ keyE E K d p q = some true
theorem V.fm_mem {g : Gh} {w : World} {v : Value} (hI : Inv g S w) (hv : V g (.fm i j) v) (hm : FamAt S i j ds) : ∃ blk es clock, v = .map (some blk) ∧ g.fx i j = some ⟨some blk, .mp⟩ ∧ w.heap[blk]? = some (.map es clock) ∧ Ents g es ds := by
  cases hv with
  | fm _ _ blk h =>
    obtain ⟨F, k1, k2⟩ := hm.member hI
    rw [h] at k1
    obtain rfl := Option.some.inj k1
    obtain ⟨b, es, clock, e1, e2, e3⟩ := k2
    obtain rfl : blk = b := by simpa using e1
    exact ⟨blk, es, clock, rfl, h, e2, e3⟩
theorem Ents.no {g : Gh} {w : World} {es : Array MapEntry} (hE : EnvOk P E) {K : Nat} {e : TyE} {p : PV} {v : Value} {n : Nat} (he : tget E.tab K = some e) (h : Ents g es ds) (hk : KNo E K e.d ds p n) (hp : V g p v) : ∀ (m : Nat) (x : MapEntry), m < n → es.toList[m]? = some x → KEq P w K v x.key false := by
  intro m x hm hx
  obtain ⟨q, h1, h2⟩ := hk m hm
  obtain ⟨k, y, e1, e2, e3, e4⟩ := h.2 m x (by simpa using hx)
  rw [e1] at h1
  obtain rfl := Option.some.inj h1
  exact keyE_ok hE w he h2 hp e3
theorem Ents.findNo {g : Gh} {w : World} {es : Array MapEntry} (hE : EnvOk P E) {K : Nat} {e : TyE} {p : PV} {v : Value} (he : tget E.tab K = some e) (h : Ents g es ds) (hk : KNo E K e.d ds p (ds.length / 2)) (hp : V g p v) : (Instr.findKey K v es.toList).run P w = .ok none w := by
  refine find_miss _ (fun x hx => ?_) (fun _ => ⟨_, (hE.tab _ _ he).u⟩)
  obtain ⟨m, hm, rfl⟩ := List.getElem_of_mem hx
  exact h.no hE he hk hp m _ (by have := h.1; simp at hm; omega) (List.getElem?_eq_getElem hm)
theorem Ents.findYes {g : Gh} {w : World} {es : Array MapEntry} (hE : EnvOk P E) {K : Nat} {e : TyE} {p : PV} {v : Value} {n : Nat} {q : PV} (he : tget E.tab K = some e) (h : Ents g es ds) (hk : KYes E K e.d ds p n) (hp : V g p v) (hq : ds[2 * n + 1]? = some q) :
    ∃ x, es[n]? = some x ∧ (Instr.findKey K v es.toList).run P w = .ok (some (n, x.val)) w ∧ V g q x.val ∧ KEq P w K v x.key true := by
  obtain ⟨h1, q0, h2, h3⟩ := hk
  have hlt := (List.getElem?_eq_some_iff.1 hq).1
  have hn : n < es.size := by have := h.1; omega
  obtain ⟨k, y, e1, e2, e3, e4⟩ := h.2 n es[n] (by simp [hn])
  rw [e1] at h2
  obtain rfl := Option.some.inj h2
  rw [e2] at hq
  obtain rfl := Option.some.inj hq
  have hke := keyE_ok hE w he h3 hp e3
  exact ⟨es[n], by simp [hn], find_hit (by simp [hn]) (fun m x hm hx => h.no hE he h1 hp m x hm hx) hke, e4, hke⟩
/-- The value that there is none. -/
def zpv (e : TyE) : PV := bif aggT e.d then .agg e.zs else e.zs.headD .junk
theorem zpv_ok {T : Nat} {e : TyE} (hk : TyOk P T e) (g : Gh) (h1 : aggT e.d = false → e.zs.length = 1 ∧ e.zero.oneCell' = true) (h2 : aggT e.d = true → ∃ vs, e.zero = .agg vs) : V g (zpv e) e.zero := by
  have hz := hk.zs g
  unfold zpv
  cases ha : aggT e.d with
  | true =>
    simp only [cond_true]
    obtain ⟨vs, hv⟩ := h2 ha
    rw [hv] at hz ⊢
    exact .agg _ _ (by have := hz.1; simpa [Value.cells] using this) (fun v hv => by
      obtain ⟨k, hk, rfl⟩ := List.getElem_of_mem hv
      have hl := hz.1
      simp only [Value.cells] at hl
      exact (hz.2 k (e.zs[k]'(by omega)) _ (List.getElem?_eq_getElem _) (by simp [Value.cells] at hk ⊢)).2) (fun i c x e1 e2 => (hz.2 i c x e1 (by simpa [Value.cells] using e2)).1)
  | false =>
    simp only [cond_false]
    obtain ⟨hl, ho⟩ := h1 ha
    match hzs : e.zs, hl with
    | [p], _ =>
      have hc : e.zero.cells = #[e.zero] := by cases hh : e.zero <;> first | rfl | (rw [hh] at ho; cases ho)
      rw [hzs, hc] at hz
      exact (hz.2 0 p e.zero rfl rfl).1
theorem o_makeMap {T N : Nat} {cs : List PV} (ho : o.op = .makeMap T none) (hb : S.bs[i]? = some (some cs)) (hf : isFam cs = true) (hN : cs.length = N + 1) : OpS P o ρ S ⟨S.bs.set i (some (cs ++ [.agg []])), S.ts⟩ (.fm i N) := by
  intro g w a next Q hI hv K
  obtain ⟨k1, k2⟩ := hI.allocmem (k := .mp) (o := .map #[] 0) (ds := []) hb hf hN ⟨w.heap.size, #[], 0, rfl, heap_alloc_new w _, rfl, fun m x h => by simp at h⟩
  unfold Oper.wp
  simp only [execOp, ho, Instr.makeMap, Option.map_none, Sem.run_bind, Result.andThen_ok, Sem.run_pure, run_newObj, pure_bind]
  exact K _ _ _ (.fm i N w.heap.size addf_new) k1 k2
theorem o_lookup_yes (hE : EnvOk P E) {T K T2 n : Nat} {x y : Operand} {ok : Bool} {e : TyE} {q : PV} (ho : o.op = .lookup T x y ok) (hT : P.underlying T = some (.map K T2)) (he : tget E.tab K = some e) (ht : keyTy E e.d = true) {b : Bool} (hs : keyE E K e.d (ρ y) (ρ y) = some b)
    (hx : ρ x = .fm i j) (hm : FamAt S i j ds) (hk : KYes E K e.d ds (ρ y) n) (hq : ds[2 * n + 1]? = some q) : OpS P o ρ S S (bif ok then .tup [q, .d (.v (.bool true))] else q) :=
  .value fun g w a hI hv => by
    have e1 := hv x (by simp [ho, Op.operands])
    rw [hx] at e1
    have e2 := hv y (by simp [ho, Op.operands])
    obtain ⟨blk, es, clock, h1, h2, h3, h4⟩ := e1.fm_mem hI hm
    obtain ⟨z, z1, z2, z3, _⟩ := h4.findYes (w := w) hE he hk e2 hq
    have hc := check_key hE w es.isEmpty he ht hs e2
    refine ⟨if ok then .tuple #[z.val, .bool true] else z.val, ?_, ?_⟩
    · simp only [execOp, ho, h1, Instr.lookup, Sem.run_bind, run_underlying hT, Result.andThen_ok, MapKept.run_getObj_map h3, hc, z2, Sem.run_pure]
    · cases ok with
      | true =>
        refine .tup _ _ rfl (fun k c x e3 e4 => ?_)
        match k with
        | 0 => simp at e3 e4; subst e3 e4; exact z3
        | 1 => simp at e3 e4; subst e3 e4; exact .d _ _ (.v _ rfl)
        | k + 2 => simp at e3
      | false => exact z3
theorem o_lookup_no (hE : EnvOk P E) {T K T2 : Nat} {x y : Operand} {ok : Bool} {e e2 : TyE} (ho : o.op = .lookup T x y ok) (hT : P.underlying T = some (.map K T2)) (he : tget E.tab K = some e) (he2 : tget E.tab T2 = some e2) (ht : keyTy E e.d = true) {b : Bool} (hs : keyE E K e.d (ρ y) (ρ y) = some b)
    (hz : ∀ g, V g (zpv e2) e2.zero) (hx : ρ x = .fm i j) (hm : FamAt S i j ds) (hk : KNo E K e.d ds (ρ y) (ds.length / 2)) : OpS P o ρ S S (bif ok then .tup [zpv e2, .d (.v (.bool false))] else zpv e2) :=
  .value fun g w a hI hv => by
    have e1 := hv x (by simp [ho, Op.operands])
    rw [hx] at e1
    have e2' := hv y (by simp [ho, Op.operands])
    obtain ⟨blk, es, clock, h1, h2, h3, h4⟩ := e1.fm_mem hI hm
    have hf := h4.findNo (w := w) hE he hk e2'
    have hc := check_key hE w es.isEmpty he ht hs e2'
    obtain ⟨ti, t1, t2, _⟩ := (hE.tab _ _ he2).ti
    have hzv : (zeroValue T2).run P w = .ok e2.zero w := by simp [zeroValue, typeInfo, t1, t2]
    refine ⟨if ok then .tuple #[e2.zero, .bool false] else e2.zero, ?_, ?_⟩
    · simp only [execOp, ho, h1, Instr.lookup, Sem.run_bind, run_underlying hT, Result.andThen_ok, MapKept.run_getObj_map h3, hc, hf, hzv, Sem.run_pure]
    · cases ok with
      | true =>
        refine .tup _ _ rfl (fun k c x e3 e4 => ?_)
        match k with
        | 0 => simp at e3 e4; subst e3 e4; exact hz g
        | 1 => simp at e3 e4; subst e3 e4; exact .d _ _ (.v _ rfl)
        | k + 2 => simp at e3
      | false => exact hz g
theorem Ents.push {g : Gh} {es : Array MapEntry} {k q : PV} {x : MapEntry} (h : Ents g es ds) (hk : V g k x.key) (hq : V g q x.val) : Ents g (es.push x) (ds ++ [k, q]) := by
  obtain ⟨h1, h2⟩ := h
  refine ⟨by simp [h1]; omega, fun m y hy => ?_⟩
  rw [Array.getElem?_push] at hy
  split at hy
  · rename_i hm
    cases hy
    exact ⟨k, q, by rw [List.getElem?_append_right (by omega)]; simp [h1, hm], by rw [List.getElem?_append_right (by omega)]; simp [show 2 * m + 1 - ds.length = 1 by omega], hk, hq⟩
  · obtain ⟨a, b, e1, e2, e3⟩ := h2 m y hy
    exact ⟨a, b, by rw [List.getElem?_append_left (List.getElem?_eq_some_iff.1 e1).1]; exact e1, by rw [List.getElem?_append_left (List.getElem?_eq_some_iff.1 e2).1]; exact e2, e3⟩
theorem put_wp (hE : EnvOk P E) {T K T2 : Nat} {x y z : Operand} {e : TyE} {cs : List PV} (ho : o.op = .mapUpdate T x y z ∨ o.op = .insert T x y z) (hT : P.underlying T = some (.map K T2)) (he : tget E.tab K = some e) (ht : keyTy E e.d = true) {b : Bool} (hs : keyE E K e.d (ρ y) (ρ y) = some b)
    (hx : ρ x = .fm i j) (hb : S.bs[i]? = some (some cs)) (hf : isFam cs = true) (hmm : cs[j + 1]? = some (.agg ds)) (hk : KNo E K e.d ds (ρ y) (ds.length / 2)) : OpS P o ρ S ⟨S.bs.set i (some (cs.set (j + 1) (.agg (ds ++ [ρ y, ρ z])))), S.ts⟩ .junk := by
  intro g w a next Q hI hv K'
  have hops : x ∈ o.op.operands ∧ y ∈ o.op.operands ∧ z ∈ o.op.operands := by rcases ho with ho | ho <;> simp [ho, Op.operands]
  have e1 := hv x hops.1
  rw [hx] at e1
  have e2 := hv y hops.2.1
  have e3 := hv z hops.2.2
  obtain ⟨blk, es, clock, h1, h2, h3, h4⟩ := e1.fm_mem hI ⟨cs, hb, hf, hmm⟩
  have hfn := h4.findNo (w := w) hE he hk e2
  have hc := check_key hE w false he ht hs e2
  have hblt : blk < w.heap.size := (Array.getElem?_eq_some_iff.1 h3).1
  obtain ⟨k1, k2⟩ := hI.setmem (W := { w with heap := w.heap.setIfInBounds blk (.map (es.push { key := a.eval y, val := a.eval z, born := clock }) (clock + 1)) }) (ds' := ds ++ [ρ y, ρ z]) hb hf hmm h2 rfl
    (fun k hne => by show (w.heap.setIfInBounds blk _)[k]? = _; rw [Array.getElem?_setIfInBounds_ne (by omega)]) (by simp) rfl rfl rfl
    ⟨blk, es.push { key := a.eval y, val := a.eval z, born := clock }, clock + 1, rfl, by show (w.heap.setIfInBounds blk _)[blk]? = _; simp [hblt], h4.push (x := { key := a.eval y, val := a.eval z, born := clock }) e2 e3⟩
  have hrun : (Instr.mapUpdate T (.map (some blk)) (a.eval y) (a.eval z)).run P w = .ok () { w with heap := w.heap.setIfInBounds blk (.map (es.push { key := a.eval y, val := a.eval z, born := clock }) (clock + 1)) } := by
    simp only [Instr.mapUpdate, Sem.run_bind, run_underlying hT, Result.andThen_ok, MapKept.run_getObj_map h3, hc, hfn, MapKept.run_setObj_map _ h3]
  unfold Oper.wp
  rcases ho with ho | ho
  · simp only [execOp, ho, h1, Sem.run_bind, hrun, Result.andThen_ok, Sem.run_pure]
    exact K' _ g _ (.junk _) k1 k2
  · simp only [execOp, ho, h1, Sem.run_bind, hrun, Result.andThen_ok, Sem.run_pure]
    exact K' _ g _ (.junk _) k1 k2
theorem o_delete_yes (hE : EnvOk P E) {T K T2 n : Nat} {x y : Operand} {Ts : Array TypeId} {e : TyE} {cs : List PV} {q : PV} (ho : o.op = .call { callee := .builtin .delete, args := #[x, y], argTypes := Ts }) (h0 : Ts[0]? = some T) (hT : P.underlying T = some (.map K T2)) (he : tget E.tab K = some e) (ht : keyTy E e.d = true) {b : Bool} (hs : keyE E K e.d (ρ y) (ρ y) = some b)
    (hx : ρ x = .fm i j) (hb : S.bs[i]? = some (some cs)) (hf : isFam cs = true) (hmm : cs[j + 1]? = some (.agg ds)) (hk : KYes E K e.d ds (ρ y) n) (hq : ds[2 * n + 1]? = some q) : OpS P o ρ S ⟨S.bs.set i (some (cs.set (j + 1) (.agg (ds.take (2 * n) ++ ds.drop (2 * n + 2))))), S.ts⟩ .junk := by
  intro g w a next Q hI hv K'
  have e1 := hv x (by simp [ho, Op.operands, Call.operands])
  rw [hx] at e1
  have e2 := hv y (by simp [ho, Op.operands, Call.operands])
  obtain ⟨blk, es, clock, h1, h2, h3, h4⟩ := e1.fm_mem hI ⟨cs, hb, hf, hmm⟩
  obtain ⟨z, z1, z2, z3, _⟩ := h4.findYes (w := w) hE he hk e2 hq
  have hc := check_key hE w es.isEmpty he ht hs e2
  have hblt : blk < w.heap.size := (Array.getElem?_eq_some_iff.1 h3).1
  have hn : n < es.size := (Array.getElem?_eq_some_iff.1 z1).1
  have hen : Ents g (es.eraseIdxIfInBounds n) (ds.take (2 * n) ++ ds.drop (2 * n + 2)) := by
    have hl := h4.1
    have hel : (es.eraseIdxIfInBounds n).toList = es.toList.eraseIdx n := by simp
    refine ⟨by have : (es.eraseIdxIfInBounds n).size = es.size - 1 := by rw [← Array.length_toList, hel, List.length_eraseIdx]; simp [hn]
               rw [this]; simp; omega, fun m y hy => ?_⟩
    rw [← Array.getElem?_toList, hel, List.getElem?_eraseIdx] at hy
    split at hy
    · rename_i hm
      obtain ⟨p, r, e3, e4, e5⟩ := h4.2 m y (by simpa using hy)
      exact ⟨p, r, by rw [List.getElem?_append_left (by simp; omega), List.getElem?_take, if_pos (by omega)]; exact e3, by rw [List.getElem?_append_left (by simp; omega), List.getElem?_take, if_pos (by omega)]; exact e4, e5⟩
    · rename_i hm
      obtain ⟨p, r, e3, e4, e5⟩ := h4.2 (m + 1) y (by simpa using hy)
      refine ⟨p, r, ?_, ?_, e5⟩
      · rw [List.getElem?_append_right (by simp; omega), List.getElem?_drop, ← e3]; congr 1; simp; omega
      · rw [List.getElem?_append_right (by simp; omega), List.getElem?_drop, ← e4]; congr 1; simp; omega
  obtain ⟨k1, k2⟩ := hI.setmem (W := { w with heap := w.heap.setIfInBounds blk (.map (es.eraseIdxIfInBounds n) clock) }) (ds' := ds.take (2 * n) ++ ds.drop (2 * n + 2)) hb hf hmm h2 rfl
    (fun k hne => by show (w.heap.setIfInBounds blk _)[k]? = _; rw [Array.getElem?_setIfInBounds_ne (by omega)]) (by simp) rfl rfl rfl
    ⟨blk, _, clock, rfl, by show (w.heap.setIfInBounds blk _)[blk]? = _; simp [hblt], hen⟩
  unfold Oper.wp
  simp only [execOp, ho, resolve, invoke, builtin, Sem.run_bind, Sem.run_pure, Result.andThen_ok, List.map_toArray, List.map_cons, List.map_nil, Builtin.delete_, h0, h1, run_underlying hT, MapKept.run_getObj_map h3, hc, z2, MapKept.run_setObj_map _ h3, List.getElem?_toArray, List.getElem?_cons_zero, List.getElem?_cons_succ]
  exact K' _ g _ (.junk _) k1 k2
end
end Go.Pv
