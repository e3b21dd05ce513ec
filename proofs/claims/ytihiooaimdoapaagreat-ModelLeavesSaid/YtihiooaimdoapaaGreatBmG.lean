/- What operations do: maps, calls. -/
import Derived.Test.YtihiooaimdoapaaGreatBmF
import Derived.MapKept
import Derived.WideKeyArgs
set_option linter.unusedVariables false
set_option linter.unusedSimpArgs false
namespace Go.Bm
noncomputable section
open Go.RowKit
def keyE (E : Env) (T : Nat) (d : TypeDesc) (p q : A) : Option Bool :=
  match d with
  | .int _ => match p, q with
    | .v (.int k m), .v (.int k' n) => if k = k' then some (ieql m n) else none
    | _, _ => none
  | .struct _ => bif isAggP p && isAggP q then (match p.cells, q.cells with
    | some a, some b => eqC E 2 T a b
    | _, _ => none) else none
  | _ => none
def keyTy (E : Env) (d : TypeDesc) : Bool :=
  match d with
  | .int _ => true
  | .struct fs => fs.toList.all fun f => (match tget E.tab f.type with
    | some ef => match ef.d with
      | .int _ => true
      | _ => false
    | none => false)
  | _ => false
section
variable {P : Program} {E : Env}
def KEq (P : Program) (w : World) (T : Nat) (v v' : Value) (b : Bool) : Prop :=
  (∃ kd, P.underlying T = some (.int kd) ∧ ∃ k m n, v = .int k m ∧ v' = .int k n ∧ b = decide (m = n)) ∨ ((∃ fs, P.underlying T = some (.struct fs)) ∧ (∃ vs, v = .agg vs) ∧ (Op.equal T v v').run P w = .ok b w)
theorem keyE_ok (hE : EnvOk P E) {g : G} {T : Nat} {e : TyE} {p q : A} {v v' : Value} {b : Bool} (w : World) (he : tget E.tab T = some e) (h : keyE E T e.d p q = some b) (hp : V g p v) (hq : V g q v') : KEq P w T v v' b := by
  have hk := hE.tab T e he
  have hu := hk.u
  unfold keyE at h
  split at h
  · rename_i kd hd
    split at h
    · rename_i k m k' n
      split at h
      · rename_i hkk; subst hkk; cases h
        exact .inl ⟨kd, by rw [hu, hd], k, m, n, hp.v_eq, hq.v_eq, rfl⟩
      · cases h
    · cases h
  · rename_i fs hd
    cases hag : (isAggP p && isAggP q) with
    | false => rw [hag] at h; cases h
    | true =>
      rw [hag] at h; simp only [cond_true] at h
      simp only [Bool.and_eq_true] at hag
      split at h
      · rename_i a c ha hc
        obtain ⟨vs, h1⟩ := hp.aggP hag.1
        obtain ⟨us, h2⟩ := hq.aggP hag.2
        have c1 := hp.cells ha
        have c2 := hq.cells hc
        rw [h1] at c1
        rw [h2] at c2
        have haa : aggT e.d = true := by rw [hd]; rfl
        have hrun := eqC_ok hE 2 T a c b h g _ _ 9998 w e (.agg vs) (.agg us) he c1 c2 (by simp [valOf, haa, Value.cells]) (by simp [valOf, haa, Value.cells])
        refine .inr ⟨⟨fs, by rw [hu, hd]⟩, ⟨vs, h1⟩, ?_⟩
        rw [h1, h2]
        exact hrun
      · cases h
  · cases h
theorem find_miss {T : Nat} {v : Value} {w : World} : ∀ (es : List MapEntry), (∀ e ∈ es, KEq P w T v e.key false) → (es = [] → ∃ d, P.underlying T = some d) → (Instr.findKey T v es).run P w = .ok none w
  | [], _, hd => by
    obtain ⟨d, hd⟩ := hd rfl
    simp [Instr.findKey, run_underlying hd, Instr.findNow]
  | e :: es, hall, _ => by
    rcases hall e (List.mem_cons_self ..) with ⟨kd, hu, k, m, n, hv, hv', hb⟩ | ⟨⟨fs, hu⟩, ⟨vs, hv⟩, hr⟩
    · have hf : ∀ (l : List MapEntry) (i : Nat), (∀ e ∈ l, KEq P w T v e.key false) → Instr.findNow (.int kd) v l i = some none := by
        intro l
        induction l with
        | nil => intro i _; rfl
        | cons e l ih =>
          intro i hl
          rcases hl e (List.mem_cons_self ..) with ⟨kd', hu', k', m', n', hv1, hv1', hb'⟩ | ⟨⟨fs, hu'⟩, _⟩
          · unfold Instr.findNow
            have hne : (m' == n') = false := by
              have : ¬ m' = n' := of_decide_eq_false hb'.symm
              simpa using this
            simp only [hv1, hv1', Instr.sameNow, if_true, hne]
            rw [← hv1]
            exact ih (i + 1) (fun e he => hl e (List.mem_cons_of_mem _ he))
          · rw [hu] at hu'; cases hu'
      simp [Instr.findKey, run_underlying hu, hf (e :: es) 0 hall]
    · have hn : Instr.findNow (.struct fs) v (e :: es) 0 = none := by
        unfold Instr.findNow
        rw [hv]
        cases e.key <;> rfl
      have hf : ∀ (l : List MapEntry) (i : Nat), (∀ e ∈ l, KEq P w T v e.key false) → (Instr.findAsking T v l i).run P w = .ok none w := by
        intro l
        induction l with
        | nil => intro i _; simp [Instr.findAsking]
        | cons e l ih =>
          intro i hl
          rcases hl e (List.mem_cons_self ..) with ⟨kd', hu', _⟩ | ⟨_, _, hr'⟩
          · rw [hu] at hu'; cases hu'
          · simp only [Instr.findAsking, Sem.run_bind, hr', Result.andThen_ok]
            exact ih (i + 1) (fun e he => hl e (List.mem_cons_of_mem _ he))
      simp [Instr.findKey, run_underlying hu, hn, hf (e :: es) 0 hall]
theorem find_hit {T : Nat} {v : Value} {w : World} {es : List MapEntry} {j : Nat} {e : MapEntry} (hj : es[j]? = some e) (hb : ∀ (i : Nat) (e' : MapEntry), i < j → es[i]? = some e' → KEq P w T v e'.key false) (ht : KEq P w T v e.key true) :
    (Instr.findKey T v es).run P w = .ok (some (j, e.val)) w := by
  rcases ht with ⟨kd, hu, k, m, n, hv, hv', hbb⟩ | ⟨⟨fs, hu⟩, ⟨vs, hv⟩, hr⟩
  · have hf : ∀ (l : List MapEntry) (i j : Nat), l[j]? = some e → (∀ (i : Nat) (e' : MapEntry), i < j → l[i]? = some e' → KEq P w T v e'.key false) → Instr.findNow (.int kd) v l i = some (some (i + j, e.val)) := by
      intro l
      induction l with
      | nil => intro i j h; simp at h
      | cons a l ih =>
        intro i j h hl
        unfold Instr.findNow
        cases j with
        | zero =>
          obtain rfl : a = e := by simpa using h
          have : (m == n) = true := by simpa using (of_decide_eq_true hbb.symm)
          simp only [hv, hv', Instr.sameNow, if_true, this]
          simp
        | succ j =>
          rcases hl 0 a (by omega) rfl with ⟨kd', hu', k', m', n', hv1, hv1', hb'⟩ | ⟨⟨fs, hu'⟩, _⟩
          · have hne : (m' == n') = false := by
              have : ¬ m' = n' := of_decide_eq_false hb'.symm
              simpa using this
            simp only [hv1, hv1', Instr.sameNow, if_true, hne]
            rw [← hv1, ih (i + 1) j (by simpa using h) (fun i' e' hi he => hl (i' + 1) e' (by omega) (by simpa using he))]
            congr 3; omega
          · rw [hu] at hu'; cases hu'
    have := hf es 0 j hj hb
    simp [Instr.findKey, run_underlying hu, this]
  · have hn : Instr.findNow (.struct fs) v es 0 = none := by
      cases es with
      | nil => simp at hj
      | cons a l =>
        unfold Instr.findNow
        rw [hv]
        cases a.key <;> rfl
    have hf : ∀ (l : List MapEntry) (i j : Nat), l[j]? = some e → (∀ (i : Nat) (e' : MapEntry), i < j → l[i]? = some e' → KEq P w T v e'.key false) → (Instr.findAsking T v l i).run P w = .ok (some (i + j, e.val)) w := by
      intro l
      induction l with
      | nil => intro i j h; simp at h
      | cons a l ih =>
        intro i j h hl
        cases j with
        | zero =>
          obtain rfl : a = e := by simpa using h
          simp [Instr.findAsking, hr]
        | succ j =>
          rcases hl 0 a (by omega) rfl with ⟨kd', hu', _⟩ | ⟨_, _, hr'⟩
          · rw [hu] at hu'; cases hu'
          · simp only [Instr.findAsking, Sem.run_bind, hr', Result.andThen_ok, Bool.false_eq_true, if_false]
            rw [ih (i + 1) j (by simpa using h) (fun i' e' hi he => hl (i' + 1) e' (by omega) (by simpa using he))]
            congr 3; omega
    have := hf es 0 j hj hb
    simp [Instr.findKey, run_underlying hu, hn, this]
theorem check_key (hE : EnvOk P E) {g : G} {T : Nat} {e : TyE} {p : A} {v : Value} {b : Bool} (w : World) (em : Bool) (he : tget E.tab T = some e) (ht : keyTy E e.d = true) (h : keyE E T e.d p p = some b) (hp : V g p v) : (Instr.checkKey em 10000 T v).run P w = .ok () w := by
  have hk := hE.tab T e he
  have hu := hk.u
  unfold keyTy at ht
  split at ht
  · rename_i kd hd
    rcases keyE_ok hE w he h hp hp with ⟨kd', hu', k, m, n, hv, _⟩ | ⟨⟨fs, hu'⟩, _⟩
    · rw [show 10000 = 9999 + 1 from rfl, Instr.checkKey]
      simp only [Sem.run_bind, run_underlying hu, Result.andThen_ok, hd, hv]
      rfl
    · rw [hu, hd] at hu'; cases hu'
  · rename_i fs hd
    have hu' : P.underlying T = some (.struct fs) := by rw [hu, hd]
    have hcells : ∃ a, p.cells = some a ∧ isAggP p = true ∧ eqC E 2 T a a = some b := by
      unfold keyE at h
      rw [hd] at h
      simp only at h
      cases hag : (isAggP p && isAggP p) with
      | false => rw [hag] at h; cases h
      | true =>
        rw [hag] at h; simp only [cond_true] at h
        simp only [Bool.and_self] at hag
        split at h
        · rename_i a c ha hc; rw [ha] at hc; cases hc; exact ⟨a, ha, hag, h⟩
        · cases h
    obtain ⟨a, ha, hag, heq⟩ := hcells
    obtain ⟨vs, rfl⟩ := hp.aggP hag
    have c1 : Vs g a vs.toList := hp.cells ha
    unfold eqC at heq
    rw [he] at heq
    simp only [hd] at heq
    cases hq : E.eqs.any (Nat.beq T) with
    | false => rw [hq] at heq; cases heq
    | true =>
      rw [hq] at heq; simp only [cond_true] at heq
      have hnames := (hE.eqs T hq).names fs hu'
      rw [show 10000 = 9999 + 1 from rfl, Instr.checkKey]
      simp only [Sem.run_bind, run_underlying hu', Result.andThen_ok]
      rw [← Array.forIn_toList]
      have hall := List.all_eq_true.1 ht
      generalize fs.toList = L at heq hall hnames
      clear hu' hd ht h
      induction L generalizing b with
      | nil => simp
      | cons f L ih =>
        have hf := hall f (List.mem_cons_self ..)
        have hn := hnames f (List.mem_cons_self ..)
        unfold eqF at heq
        split at heq
        · rename_i ef hef
          split at heq
          · rename_i x y hx hy
            rw [hef] at hf
            simp only at hf
            split at hf
            · rename_i kd hkd
              have hkf := hE.tab _ _ hef
              have huf := hkf.u
              -- the part
              have hpart : ∃ k m, (part f.type vs f.offset).run P w = .ok (.int k m) w := by
                unfold eqC at hx
                rw [hef] at hx
                simp only [hkd] at hx
                split at hx
                · rename_i k m k' n hc1 hc2
                  have c2 := c1.part f.offset ef.size
                  rw [hc1] at c2
                  obtain ⟨z, e1, e2⟩ := c2.single
                  have e2 := e2.v_eq
                  subst e2
                  exact ⟨k, m, run_part hkf (by simp [valOf, hkd, aggT, e1]) w⟩
                · cases hx
              obtain ⟨k, m, hpr⟩ := hpart
              have hck : (Instr.checkKey em 9999 f.type (.int k m)).run P w = .ok () w := by
                rw [show 9999 = 9998 + 1 from rfl, Instr.checkKey]
                simp only [Sem.run_bind, run_underlying huf, Result.andThen_ok, hkd]
                rfl
              simp only [List.forIn_cons, Sem.run_bind, hn, ne_eq, not_false_eq_true, if_true, Result.andThen_ok, hpr, hck, Sem.run_pure]
              exact ih hy (fun y hy => hall y (List.mem_cons_of_mem _ hy)) (fun y hy => hnames y (List.mem_cons_of_mem _ hy))
            · cases hf
          · cases heq
        · cases heq
  · cases ht
end
section
variable {P : Program} {E : Env} {o : Oper} {ρ : Operand → A} {S : Hp}
def findA (f : A → Option Bool) : List (A × A) → Nat → Option (Option (Nat × A))
  | [], _ => some none
  | (k, v) :: r, i => match f k with
    | some true => some (some (i, v))
    | some false => findA f r (i + 1)
    | none => none
theorem findA_spec {f : A → Option Bool} : ∀ (es : List (A × A)) (i : Nat) (r : Option (Nat × A)), findA f es i = some r →
    (r = none ∧ ∀ (j : Nat) (q : A × A), es[j]? = some q → f q.1 = some false) ∨ ∃ n v k, r = some (i + n, v) ∧ es[n]? = some (k, v) ∧ f k = some true ∧ ∀ (j : Nat) (q : A × A), j < n → es[j]? = some q → f q.1 = some false
  | [], i, r, h => by cases h; exact .inl ⟨rfl, fun j q h => by simp at h⟩
  | (k, v) :: es, i, r, h => by
    unfold findA at h
    split at h
    · rename_i hk; cases h
      exact .inr ⟨0, v, k, rfl, rfl, hk, fun j q hj => by omega⟩
    · rename_i hk
      rcases findA_spec es (i + 1) r h with ⟨rfl, h2⟩ | ⟨n, v', k', rfl, h2, h3, h4⟩
      · refine .inl ⟨rfl, fun j q hj => ?_⟩
        cases j with
        | zero => simp at hj; subst hj; exact hk
        | succ j => exact h2 j q (by simpa using hj)
      · refine .inr ⟨n + 1, v', k', by rw [show i + (n + 1) = i + 1 + n by omega], by simpa using h2, h3, fun j q hj hq => ?_⟩
        cases j with
        | zero => simp at hq; subst hq; exact hk
        | succ j => exact h4 j q (by omega) (by simpa using hq)
    · cases h
theorem Ents.find {g : G} {w : World} {mes : Array MapEntry} {es : List (A × A)} (hE : EnvOk P E) {K : Nat} {e : TyE} {p : A} {v : Value} {r : Option (Nat × A)} (he : tget E.tab K = some e) (h : Ents g mes es) (hp : V g p v) (hr : findA (keyE E K e.d p) es 0 = some r) :
    (r = none ∧ (Instr.findKey K v mes.toList).run P w = .ok none w) ∨ ∃ n q x, r = some (n, q) ∧ mes[n]? = some x ∧ V g q x.val ∧ n < es.length ∧ (Instr.findKey K v mes.toList).run P w = .ok (some (n, x.val)) w := by
  have key : ∀ (j : Nat) (x : MapEntry) (q : A × A) (b : Bool), mes[j]? = some x → es[j]? = some q → keyE E K e.d p q.1 = some b → KEq P w K v x.key b := fun j x q b h1 h2 h3 =>
    keyE_ok hE w he h3 hp (h.2 j x q h1 h2).1
  have at' : ∀ (j : Nat) (x : MapEntry), mes[j]? = some x → ∃ q, es[j]? = some q := fun j x hx => ⟨_, List.getElem?_eq_getElem (by have := (Array.getElem?_eq_some_iff.1 hx).1; have := h.1; omega)⟩
  rcases findA_spec es 0 r hr with ⟨rfl, h2⟩ | ⟨n, q, k, rfl, h2, h3, h4⟩
  · refine .inl ⟨rfl, find_miss _ (fun x hx => ?_) (fun _ => ⟨_, (hE.tab _ _ he).u⟩)⟩
    obtain ⟨j, hj, rfl⟩ := List.getElem_of_mem hx
    have hx' : mes[j]? = some mes.toList[j] := by simp at hj ⊢
    obtain ⟨q, hq⟩ := at' j _ hx'
    exact key j _ q false hx' hq (h2 j q hq)
  · have hn := (List.getElem?_eq_some_iff.1 h2).1
    have hx : mes[n]? = some (mes[n]'(by have := h.1; omega)) := by simp
    refine .inr ⟨n, q, _, by rw [Nat.zero_add], hx, (h.2 n _ _ hx h2).2, hn, ?_⟩
    refine find_hit (by simp) (fun j x hj hjx => ?_) (key n _ (k, q) true hx h2 h3)
    have hjx' : mes[j]? = some x := by simpa using hjx
    obtain ⟨q', hq'⟩ := at' j _ hjx'
    exact key j x q' false hjx' hq' (h4 j q' hj hq')
theorem V.map_at {g : G} {w : World} {x : Ref} {es : List (A × A)} {v : Value} (hI : Inv g S w) (hv : V g (.mp x) v) (ho : S.ob x.id = some (.oth (.map es))) : ∃ b s mes clock, v = .map (some b) ∧ g.at' x.id = some (some b, s) ∧ w.heap[b]? = some (.map mes clock) ∧ Ents g mes es := by
  obtain ⟨b, s, ob, k1, k2, mes, clock, rfl, k3⟩ := hI.oth x.id _ ho
  cases hv with
  | mp _ b' s' h =>
    rw [k1] at h
    obtain ⟨rfl, _⟩ : b = b' ∧ s = s' := by simpa using h
    exact ⟨b, s, mes, clock, rfl, k1, k2, k3⟩
theorem opS_makeMap {T q : Nat} (ho : o.op = .makeMap T none) (hf : S.fr q) : OpS P o ρ S (S.new q (.oth (.map []))) (.mp (.loc q)) := by
  intro g w a next Q hI hv K
  obtain ⟨k1, k2⟩ := hI.alloc (s := (0, 0)) hf (x := .oth (.map [])) (ob := .map #[] 0) ⟨.map #[] 0, heap_alloc_new w _, #[], 0, rfl, rfl, fun j e q h => by simp at h⟩
  unfold Oper.wp
  simp only [execOp, ho, Instr.makeMap, Option.map_none, Sem.run_bind, Result.andThen_ok, Sem.run_pure, run_newObj, pure_bind]
  exact K _ _ _ (.mp (.loc q) w.heap.size _ gput_at) k1 k2
def zeroA (z : Value) : Option A := match z with
  | .agg vs => some (.agg (vs.toList.map .v))
  | .tuple _ => none
  | z => some (.v z)
theorem zeroA_ok {z : Value} {p : A} (h : zeroA z = some p) (h1 : (z.cells.toList.all (·.oneCell')) = true) (g : G) : V g p z := by
  unfold zeroA at h
  split at h
  · rename_i vs
    cases h
    refine .agg _ vs (by simp) (fun v hv => List.all_eq_true.1 h1 v (by simpa [Value.cells] using hv)) (fun i c x e1 e2 => ?_)
    simp only [List.getElem?_map, Option.map_eq_some_iff, Array.getElem?_toList] at e1
    obtain ⟨y, hy, rfl⟩ := e1
    rw [e2] at hy
    obtain rfl := Option.some.inj hy
    exact .v _
  · cases h
  · cases h; exact .v _
def valR (z : A) : Option (Nat × A) → A
  | some (_, v) => v
  | none => z
def eraR (es : List (A × A)) : Option (Nat × A) → List (A × A)
  | some (n, _) => es.eraseIdx n
  | none => es
theorem opS_lookup (hE : EnvOk P E) {T K T2 : Nat} {X : Ref} {x y : Operand} {ok : Bool} {e e2 : TyE} {es : List (A × A)} {r : Option (Nat × A)} (ho : o.op = .lookup T x y ok) (hT : P.underlying T = some (.map K T2)) (he : tget E.tab K = some e) (he2 : tget E.tab T2 = some e2) (ht : keyTy E e.d = true) {b : Bool} (hs : keyE E K e.d (ρ y) (ρ y) = some b)
    (hx : ρ x = .mp X) (hm : S.ob X.id = some (.oth (.map es))) (hr : findA (keyE E K e.d (ρ y)) es 0 = some r) {z : A} (hz : ∀ g, V g z e2.zero) : OpS P o ρ S S (bif ok then .tup [valR z r, .v (.bool r.isSome)] else valR z r) :=
  .value fun g w a hI hv => by
    have e1 := hx ▸ hv x (by simp [ho, Op.operands])
    have e2' := hv y (by simp [ho, Op.operands])
    obtain ⟨blk, s, mes, clock, h1, h2, h3, h4⟩ := e1.map_at hI hm
    have hc := check_key hE w mes.isEmpty he ht hs e2'
    obtain ⟨ti, t1, t2, t3, t4, t5, t6⟩ := (hE.tab _ _ he2).ti
    have hzv : (zeroValue T2).run P w = .ok e2.zero w := by simp [zeroValue, typeInfo, t1, t2]
    have pair : ∀ (p : A) (u : Value) (b : Bool), V g p u → V g (bif ok then .tup [p, .v (.bool b)] else p) (if ok then .tuple #[u, .bool b] else u) := by
      intro p u b hp
      cases ok with
      | true =>
        refine .tup _ _ rfl (fun k c x e3 e4 => ?_)
        match k with
        | 0 => simp at e3 e4; subst e3 e4; exact hp
        | 1 => simp at e3 e4; subst e3 e4; exact .v _
        | k + 2 => simp at e3
      | false => exact hp
    rcases h4.find (w := w) hE he e2' hr with ⟨rfl, hf⟩ | ⟨n, p, x', rfl, hx', hpv, _, hf⟩
    · refine ⟨if ok then .tuple #[e2.zero, .bool false] else e2.zero, ?_, pair z e2.zero false (hz g)⟩
      simp only [execOp, ho, h1, Instr.lookup, Sem.run_bind, run_underlying hT, Result.andThen_ok, MapKept.run_getObj_map h3, hc, hf, hzv, Sem.run_pure]
    · refine ⟨if ok then .tuple #[x'.val, .bool true] else x'.val, ?_, pair p x'.val true hpv⟩
      simp only [execOp, ho, h1, Instr.lookup, Sem.run_bind, run_underlying hT, Result.andThen_ok, MapKept.run_getObj_map h3, hc, hf, Sem.run_pure]
theorem Inv.setmap {g : G} {w : World} (h : Inv g S w) {q b clock clock' : Nat} {s : Nat × Nat} {es es' : List (A × A)} {mes mes' : Array MapEntry} (ho : S.ob q = some (.oth (.map es))) (hg : g.at' q = some (some b, s)) (hh : w.heap[b]? = some (.map mes clock)) (hE : Ents g mes' es') :
    Inv g (S.set q (.oth (.map es'))) { w with heap := w.heap.setIfInBounds b (.map mes' clock') } ∧ Ext S g w (S.set q (.oth (.map es'))) g { w with heap := w.heap.setIfInBounds b (.map mes' clock') } := by
  have hb : b < w.heap.size := (Array.getElem?_eq_some_iff.1 hh).1
  exact h.write ho hg (by simp) (fun k hk => by simp [Array.getElem?_setIfInBounds, hk.symm]) rfl rfl rfl ⟨.map mes' clock', by simp [hb], mes', clock', rfl, hE⟩
theorem opS_put (hE : EnvOk P E) {T K T2 : Nat} {X : Ref} {x y z : Operand} {e : TyE} {es : List (A × A)} {ky vz : A} (ho : o.op = .mapUpdate T x y z ∨ o.op = .insert T x y z) (hT : P.underlying T = some (.map K T2)) (he : tget E.tab K = some e) (ht : keyTy E e.d = true) {b : Bool} (hs : keyE E K e.d (ρ y) (ρ y) = some b)
    (hx : ρ x = .mp X) (hm : S.ob X.id = some (.oth (.map es))) (hky : ∀ g v, V g (ρ y) v → V g ky v) (hvz : ∀ g v, V g (ρ z) v → V g vz v) (hr : findA (keyE E K e.d (ρ y)) es 0 = some none) : OpS P o ρ S (S.set X.id (.oth (.map (es ++ [(ky, vz)])))) .junk := by
  intro g w a next Q hI hv K'
  have hops : x ∈ o.op.operands ∧ y ∈ o.op.operands ∧ z ∈ o.op.operands := by rcases ho with ho | ho <;> simp [ho, Op.operands]
  have e1 := hx ▸ hv x hops.1
  have e2 := hv y hops.2.1
  have e3 := hv z hops.2.2
  obtain ⟨blk, s, mes, clock, h1, h2, h3, h4⟩ := e1.map_at hI hm
  have hc := check_key hE w false he ht hs e2
  have hfn : (Instr.findKey K (a.eval y) mes.toList).run P w = .ok none w := by
    rcases h4.find (w := w) hE he e2 hr with ⟨_, hf⟩ | ⟨n, p, x', hh, _⟩
    · exact hf
    · cases hh
  have hents : Ents g (mes.push { key := a.eval y, val := a.eval z, born := clock }) (es ++ [(ky, vz)]) := by
    refine ⟨by simp [h4.1], fun m x q hy hq => ?_⟩
    rw [Array.getElem?_push] at hy
    split at hy
    · rename_i hm
      cases hy
      rw [List.getElem?_append_right (by have := h4.1; omega)] at hq
      rw [show m - es.length = 0 by have := h4.1; omega] at hq
      simp at hq; subst hq
      exact ⟨hky _ _ e2, hvz _ _ e3⟩
    · rw [List.getElem?_append_left (by have := (Array.getElem?_eq_some_iff.1 hy).1; have := h4.1; omega)] at hq
      exact h4.2 m x q hy hq
  obtain ⟨k1, k2⟩ := hI.setmap (clock' := clock + 1) hm h2 h3 hents
  have hrun : (Instr.mapUpdate T (.map (some blk)) (a.eval y) (a.eval z)).run P w = .ok () { w with heap := w.heap.setIfInBounds blk (.map (mes.push { key := a.eval y, val := a.eval z, born := clock }) (clock + 1)) } := by
    simp only [Instr.mapUpdate, Sem.run_bind, run_underlying hT, Result.andThen_ok, MapKept.run_getObj_map h3, hc, hfn, MapKept.run_setObj_map _ h3]
  unfold Oper.wp
  rcases ho with ho | ho
  · simp only [execOp, ho, h1, Sem.run_bind, hrun, Result.andThen_ok, Sem.run_pure]
    exact K' _ g _ (.junk _) k1 k2
  · simp only [execOp, ho, h1, Sem.run_bind, hrun, Result.andThen_ok, Sem.run_pure]
    exact K' _ g _ (.junk _) k1 k2
theorem opS_delete (hE : EnvOk P E) {T K T2 : Nat} {X : Ref} {x y : Operand} {Ts : Array TypeId} {e : TyE} {es : List (A × A)} {r : Option (Nat × A)} (ho : o.op = .call { callee := .builtin .delete, args := #[x, y], argTypes := Ts }) (h0 : Ts[0]? = some T) (hT : P.underlying T = some (.map K T2)) (he : tget E.tab K = some e) (ht : keyTy E e.d = true) {b : Bool} (hs : keyE E K e.d (ρ y) (ρ y) = some b)
    (hx : ρ x = .mp X) (hm : S.ob X.id = some (.oth (.map es))) (hr : findA (keyE E K e.d (ρ y)) es 0 = some r) : OpS P o ρ S (S.set X.id (.oth (.map (eraR es r)))) .junk := by
  intro g w a next Q hI hv K'
  have e1 := hx ▸ hv x (by simp [ho, Op.operands, Call.operands])
  have e2 := hv y (by simp [ho, Op.operands, Call.operands])
  obtain ⟨blk, s, mes, clock, h1, h2, h3, h4⟩ := e1.map_at hI hm
  have hc := check_key hE w mes.isEmpty he ht hs e2
  unfold Oper.wp
  rcases h4.find (w := w) hE he e2 hr with ⟨rfl, hf⟩ | ⟨n, p, x', rfl, hx', _, hn, hf⟩
  · obtain ⟨k1, k2⟩ := hI.setmap (clock' := clock) hm h2 h3 h4
    simp only [execOp, ho, resolve, invoke, builtin, Sem.run_bind, Sem.run_pure, Result.andThen_ok, List.map_toArray, List.map_cons, List.map_nil, Builtin.delete_, h0, h1, run_underlying hT, MapKept.run_getObj_map h3, hc, hf, MapKept.run_setObj_map _ h3, List.getElem?_toArray, List.getElem?_cons_zero, List.getElem?_cons_succ]
    exact K' _ g _ (.junk _) k1 k2
  · have hen : Ents g (mes.eraseIdxIfInBounds n) (es.eraseIdx n) := by
      have hel : (mes.eraseIdxIfInBounds n).toList = mes.toList.eraseIdx n := by simp
      have hl := h4.1
      refine ⟨by rw [← Array.length_toList, hel, List.length_eraseIdx, List.length_eraseIdx]; simp [hl], fun m y z hy hz => ?_⟩
      rw [← Array.getElem?_toList, hel, List.getElem?_eraseIdx] at hy
      rw [List.getElem?_eraseIdx] at hz
      split at hy
      · rename_i hm
        rw [if_pos hm] at hz
        exact h4.2 m y z (by simpa using hy) hz
      · rename_i hm
        rw [if_neg hm] at hz
        exact h4.2 (m + 1) y z (by simpa using hy) hz
    obtain ⟨k1, k2⟩ := hI.setmap (clock' := clock) hm h2 h3 hen
    simp only [execOp, ho, resolve, invoke, builtin, Sem.run_bind, Sem.run_pure, Result.andThen_ok, List.map_toArray, List.map_cons, List.map_nil, Builtin.delete_, h0, h1, run_underlying hT, MapKept.run_getObj_map h3, hc, hf, MapKept.run_setObj_map _ h3, List.getElem?_toArray, List.getElem?_cons_zero, List.getElem?_cons_succ]
    exact K' _ g _ (.junk _) k1 k2
/-! ### functions -/
/-- A function: called with values that are 'as', memory being S, it hands back 'r', and memory is S'. -/
def PC (P : Program) (f : FuncId) (as : List A) (S S' : Hp) (r : A) : Prop :=
  ∀ g w (vs : List Value), Inv g S w → as.length = vs.length → (∀ (i : Nat) (p : A) (v : Value), as[i]? = some p → vs[i]? = some v → V g p v) →
    Calls P f vs.toArray w (fun e w' => ∃ v g', e = .returned v ∧ V g' r v ∧ Inv g' S' w' ∧ Ext S g w S' g' w')
theorem opS_call {f : FuncId} {xs : Array Operand} {ts : Array TypeId} {S' : Hp} {r : A} (ho : o.op = .call { callee := .value (.func f), args := xs, argTypes := ts }) (hf : FnOk P f) (h : PC P f (xs.toList.map ρ) S S' r) : OpS P o ρ S S' r := by
  intro g w a next Q hI hv K
  unfold Oper.wp
  have e : (execOp a.eval o).run P w = .ok (.enter f (xs.toList.map a.eval).toArray) w := by
    have h2 := hf.run ((xs.toList.map a.eval).toArray) w
    simp only [execOp, ho, resolve, Act.eval, Deferred.ofValue, pure_bind, invoke]
    rw [show #[] ++ Array.map a.eval xs ++ #[] = (xs.toList.map a.eval).toArray by apply Array.ext'; simp]
    exact h2
  rw [e]
  simp only [Oper.upon]
  refine (h g w (xs.toList.map a.eval) hI (by simp) (fun i p v h1 h2 => ?_)).mono ?_
  · simp only [List.getElem?_map, Option.map_eq_some_iff, Array.getElem?_toList] at h1 h2
    obtain ⟨x, hx, rfl⟩ := h1
    obtain ⟨x', hx', rfl⟩ := h2
    rw [hx] at hx'
    obtain rfl := Option.some.inj hx'
    exact hv x (by simp only [ho, Op.operands, Call.operands]; exact Array.mem_append.2 (.inr (Array.mem_of_getElem? hx)))
  · rintro e w' ⟨v, g', rfl, h1, h2, h3⟩
    exact K v g' w' h1 h2 h3
theorem opS_callv {x : Operand} {f : FuncId} {fi ca : List A} {xs : Array Operand} {ts : Array TypeId} {S' : Hp} {r : A} (ho : o.op = .call { callee := .value x, args := xs, argTypes := ts }) (hf : FnOk P f) (hx : ρ x = .fn f fi ca)
    (h : PC P f (fi ++ xs.toList.map ρ ++ ca) S S' r) : OpS P o ρ S S' r := by
  intro g w a next Q hI hv K
  unfold Oper.wp
  have e1 := hx ▸ hv x (by simp [ho, Op.operands, Call.operands])
  generalize hu : a.eval x = u at e1
  cases e1 with
  | fn _ _ _ fv cv hf1 hc1 h1 h2 =>
  have e : (execOp a.eval o).run P w = .ok (.enter f (fv.toList ++ xs.toList.map a.eval ++ cv.toList).toArray) w := by
    have h2 := hf.run ((fv.toList ++ xs.toList.map a.eval ++ cv.toList).toArray) w
    simp only [execOp, ho, resolve, hu, Deferred.ofValue, pure_bind, invoke]
    rw [show fv ++ Array.map a.eval xs ++ cv = (fv.toList ++ xs.toList.map a.eval ++ cv.toList).toArray by apply Array.ext'; simp]
    exact h2
  rw [e]
  simp only [Oper.upon]
  refine (h g w (fv.toList ++ xs.toList.map a.eval ++ cv.toList) hI (by simp; omega) (fun i p v k1 k2 => ?_)).mono ?_
  · by_cases c1 : i < fi.length
    · rw [List.append_assoc, List.getElem?_append_left c1] at k1
      rw [List.append_assoc, List.getElem?_append_left (by simp; omega)] at k2
      exact h1 i p v k1 (by simpa using k2)
    · by_cases c2 : i < fi.length + xs.size
      · rw [List.append_assoc, List.getElem?_append_right (by omega), List.getElem?_append_left (by simp; omega)] at k1
        rw [List.append_assoc, List.getElem?_append_right (by simp; omega), List.getElem?_append_left (by simp; omega)] at k2
        simp only [Array.length_toList, ← hf1, List.getElem?_map, Option.map_eq_some_iff] at k1 k2
        obtain ⟨y, hy, rfl⟩ := k1
        obtain ⟨y', hy', rfl⟩ := k2
        rw [hy] at hy'
        obtain rfl := Option.some.inj hy'
        exact hv y (by simp only [ho, Op.operands, Call.operands]; exact Array.mem_append.2 (.inr (Array.mem_of_getElem? (by simpa using hy))))
      · rw [List.getElem?_append_right (by simp; omega)] at k1 k2
        simp only [List.length_append, Array.length_toList, List.length_map, ← hf1] at k1 k2
        exact h2 _ p v k1 (by simpa using k2)
  · rintro e w' ⟨v, g', rfl, h1, h2, h3⟩
    exact K v g' w' h1 h2 h3
theorem opS_makeFunc {f : FuncId} {fi ca : Array Operand} (ho : o.op = .makeFunc (.func f) fi ca) : OpS P o ρ S S (.fn f (fi.toList.map ρ) (ca.toList.map ρ)) :=
  .value fun g w a _ hv => by
    refine ⟨.func (.func f) (fi.map a.eval) (ca.map a.eval), by simp [execOp, ho, Instr.makeFunc], .fn _ _ _ _ _ (by simp) (by simp) (fun i c x h1 h2 => ?_) (fun i c x h1 h2 => ?_)⟩
    · simp only [List.getElem?_map, Array.getElem?_map, Option.map_eq_some_iff, Array.getElem?_toList] at h1 h2
      obtain ⟨y, hy, rfl⟩ := h1
      obtain ⟨y', hy', rfl⟩ := h2
      rw [hy] at hy'
      obtain rfl := Option.some.inj hy'
      exact hv y (by simp only [ho, Op.operands]; exact Array.mem_append.2 (.inl (Array.mem_of_getElem? hy)))
    · simp only [List.getElem?_map, Array.getElem?_map, Option.map_eq_some_iff, Array.getElem?_toList] at h1 h2
      obtain ⟨y, hy, rfl⟩ := h1
      obtain ⟨y', hy', rfl⟩ := h2
      rw [hy] at hy'
      obtain rfl := Option.some.inj hy'
      exact hv y (by simp only [ho, Op.operands]; exact Array.mem_append.2 (.inr (Array.mem_of_getElem? hy)))
theorem opS_min {Ts : Array TypeId} {x y : Operand} {k : IntKind} {m n : Int} (ho : o.op = .call { callee := .builtin .min, args := #[x, y], argTypes := Ts }) (hx : ρ x = .v (.int k m)) (hy : ρ y = .v (.int k n)) : OpS P o ρ S S (.v (.int k (imin m n))) :=
  .value fun g w a hI hv => by
    have e1 := (hx ▸ hv x (by simp [ho, Op.operands, Call.operands])).v_eq
    have e2 := (hy ▸ hv y (by simp [ho, Op.operands, Call.operands])).v_eq
    exact ⟨_, by simp [execOp, ho, resolve, invoke, builtin, Builtin.min_, e1, e2, Builtin.min2]; rfl, .v _⟩
theorem opS_max {Ts : Array TypeId} {x y : Operand} {k : IntKind} {m n : Int} (ho : o.op = .call { callee := .builtin .max, args := #[x, y], argTypes := Ts }) (hx : ρ x = .v (.int k m)) (hy : ρ y = .v (.int k n)) : OpS P o ρ S S (.v (.int k (imax m n))) :=
  .value fun g w a hI hv => by
    have e1 := (hx ▸ hv x (by simp [ho, Op.operands, Call.operands])).v_eq
    have e2 := (hy ▸ hv y (by simp [ho, Op.operands, Call.operands])).v_eq
    exact ⟨_, by simp [execOp, ho, resolve, invoke, builtin, Builtin.max_, e1, e2, Builtin.max2]; rfl, .v _⟩
/-- append to a piece that has no room: a row of its own comes of it. -/
theorem opS_append_full {T E' : TypeId} {z b m n p q off : Nat} {zv : Value} {cs ps : List A} {x y : Operand} (ho : o.op = .call { callee := .builtin .append, args := #[x, y], argTypes := #[T, T] }) (hT : P.underlying T = some (.slice E')) (hE : TI P E' z b zv) (h0 : 0 < z)
    (hx : ∀ g w v, Inv g S w → V g (ρ x) v → (∃ ad, v = .slice ad 0 0 ∧ n = 0) ∨ ∃ bk s d, g.at' p = some (some bk, s) ∧ v = .slice (some ⟨bk, d, none⟩) n n ∧ (n ≠ 0 → d = off)) (hp : S.ob p = some (.cells cs)) (hcl : off + n * z ≤ cs.length)
    (hy : ∀ g w v, Inv g S w → V g (ρ y) v → Given g w v z m ps) (hm : 0 < m) (hf : S.fr q) (hb : (n + m) * b ≤ 140737488355328) (hmax : n + m ≤ maxLen) : OpS P o ρ S (S.new q (.cells ((cs.drop off).take (n * z) ++ ps))) (.tw (.loc q) z) :=
  .app ho fun g w a hI e1 e2 => by
    rcases hx g w _ hI e1 with ⟨ad, hu, rfl⟩ | ⟨bk, s, d, hg, hu, hd⟩
    · rw [hu, Nat.zero_mul, List.take_zero, List.nil_append]
      exact append_nil_at ad hT hE hI (hy g w _ hI e2) hf (by simpa using hb) (by simpa using hmax)
    obtain ⟨i, t1, t2, t3, t4, t5, t6⟩ := hE
    subst t3 t4
    obtain ⟨A2, cap2, us, hu2, hpv, hul, hA2⟩ := hy g w _ hI e2
    rw [hu, hu2]
    obtain ⟨ad2, rfl, hnews⟩ := hA2 hm
    rcases hI.cells p cs hp with ⟨k1, _⟩ | ⟨b', t, k1, cur, ty, k2, k2', k3⟩
    · rw [k1] at hg; cases hg
    rw [k1] at hg; simp at hg
    obtain ⟨rfl, rfl⟩ := hg
    have hge := grownCap_ge w (n + m) n E'
    have hcm2 := grownCap_le_maxLen w (n + m) n E' hmax
    obtain ⟨os, h1, h2, h3⟩ := row_part (off := off) (n := n * i.size) k2 k3 hcl
    have hos : ∀ j v, os[j]? = some v → w.cell? ((⟨b', d, none⟩ : Addr).add j) = some v := fun j v hj => by
      by_cases hc0 : n = 0
      · subst hc0
        have hos0 : os = [] := List.eq_nil_of_length_eq_zero (by rw [h2]; simp)
        rw [hos0] at hj
        simp at hj
      · obtain rfl := hd hc0; exact h3 j v hj
    have hr := run_append_grow (P := P) w T o.type E' i zv hT t1 t2 ⟨b', d, none⟩ n n os h2 hos ad2 m cap2 us hul hnews (by omega) (by simp only [maxLen] at hmax; omega) (growslice_fits (by omega) hb)
    have hcells : (os.toArray ++ us.toArray ++ Builtin.zeroCells zv.cells (grownCap w (n + m) n E' - (n + m))).size = grownCap w (n + m) n E' * i.size := by
      simp only [Array.size_append, List.size_toArray, size_zeroCells, t5, h2, hul, ← Nat.add_mul]
      congr 1; omega
    have hle : (n + m) * i.size ≤ grownCap w (n + m) n E' * i.size := Nat.mul_le_mul_right _ hge
    have hlen : ((cs.drop off).take (n * i.size) ++ ps).length = (n + m) * i.size := by rw [List.length_append, List.length_take, List.length_drop, Nat.min_eq_left (by omega), hpv.1, hul, Nat.add_mul]
    obtain ⟨q1, q2⟩ := hI.drew.allocs hf (cs := (cs.drop off).take (n * i.size) ++ ps) (vs := os.toArray ++ us.toArray ++ Builtin.zeroCells zv.cells (grownCap w (n + m) n E' - (n + m))) E' (by rw [hcells, hlen]; exact hle)
      (by have := grown_row (ex := (Builtin.zeroCells zv.cells (grownCap w (n + m) n E' - (n + m))).toList) h1 hpv; simpa using this)
    exact ⟨_, _, _, hr, .tw (.loc q) i.size (n + m) _ _ _ (by rw [show (Ref.loc q).id = q from rfl, gput_at, hlen]; rfl) hge hcm2 (Nat.le_of_eq hcells.symm) 0 (fun _ => rfl), q1, Inv.undrew q2⟩
/-- Cells are made what they are at first. -/
theorem opS_clear {T El : TypeId} {x : Operand} {z b p off n : Nat} {zv : Value} {zs cs : List A} (ho : o.op = .call { callee := .builtin .clear, args := #[x], argTypes := #[T] }) (hT : P.underlying T = some (.slice El)) (hE : TI P El z b zv) (h0 : 0 < z) (hz : Zs zs zv)
    (hx : ∀ g w v, Inv g S w → V g (ρ x) v → ∃ bk s cap d, g.at' p = some (some bk, s) ∧ v = .slice (some ⟨bk, d, none⟩) n cap ∧ (n ≠ 0 → d = off)) (hn : 0 < n) (hp : S.ob p = some (.cells cs)) (hcl : off + n * z ≤ cs.length) : OpS P o ρ S (S.set p (.cells (put cs off (reps n zs)))) .junk := by
  intro g w a next Q hI hv K
  obtain ⟨bk, s, cap, d, hg, hu, hd⟩ := hx g w _ hI (hv x (by simp [ho, Op.operands, Call.operands]))
  obtain rfl := hd (by omega)
  obtain ⟨i, t1, t2, t3, t4, t5, t6⟩ := hE
  subst t3 t4
  have hzl : zs.length = i.size := by have := (hz g).1; simp at this; omega
  have hvs : Vs g (reps n zs) (Builtin.zeroCells zv.cells n).toList := by
    refine ⟨by rw [reps_len, hzl]; simp [size_zeroCells, t5], fun j c x q1 q2 => ?_⟩
    have hj : j < n * zs.length := by have := (List.getElem?_eq_some_iff.1 q1).1; rwa [reps_len] at this
    rw [reps_get hj] at q1
    have hm : j % zv.cells.size < zv.cells.size := Nat.mod_lt _ (by omega)
    simp only [Builtin.zeroCells, Array.toList_map, Array.toList_range, List.getElem?_map, Option.map_eq_some_iff] at q2
    obtain ⟨k, hk, rfl⟩ := q2
    rw [List.getElem?_range (by rw [hzl, ← t5] at hj; exact hj)] at hk
    obtain rfl := Option.some.inj hk
    rw [getElem!_pos zv.cells _ hm]
    exact (hz g).2 _ c _ (by rw [hzl, ← t5] at q1; exact q1) (by simp [hm])
  have hlen : (Builtin.zeroCells zv.cells n).toList.length = n * i.size := by simp [size_zeroCells, t5]
  obtain ⟨cur, ty, k1, k2, k3, k4⟩ := hI.store (off := d) hp hg hvs (by rw [hvs.1, hlen]; exact hcl)
  have hst := run_storeCells_at P bk d ty (Builtin.zeroCells zv.cells n).toList 0 cur w k1 (by simpa using k2) hvs.one
  simp only [Nat.add_zero] at hst
  unfold Oper.wp
  obtain ⟨n0, rfl⟩ : ∃ n0, n = n0 + 1 := ⟨n - 1, by omega⟩
  simp only [execOp, ho, resolve, invoke, builtin, Sem.run_bind, Sem.run_pure, Result.andThen_ok, List.map_toArray, List.map_cons, List.map_nil, hu, Builtin.clear_, List.getElem?_toArray, List.getElem?_cons_zero, run_underlying hT, zeroValue, typeInfo, run_program, t1, t2, hst]
  exact K _ g _ (.junk _) k3 k4
end
end
end Go.Bm
