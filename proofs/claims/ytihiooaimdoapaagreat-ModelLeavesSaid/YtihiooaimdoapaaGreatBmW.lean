/- Operations, run: pieces, copies. -/
import Derived.Test.YtihiooaimdoapaaGreatBmV
set_option linter.unusedVariables false
set_option linter.unusedSimpArgs false
namespace Go.Bm
noncomputable section
open Go.RowKit
theorem flatG_len {α β : Type} {f : α → List β} {s : Nat} (hf : ∀ x, (f x).length = s) (l : List α) : (l.flatMap f).length = l.length * s := by
  induction l with
  | nil => simp
  | cons a l ih => rw [List.flatMap_cons, List.length_append, ih, hf, List.length_cons, Nat.succ_mul, Nat.add_comm]
theorem flatG_part {α β : Type} {f : α → List β} {s : Nat} (hf : ∀ x, (f x).length = s) (l : List α) (off n : Nat) : ((l.flatMap f).drop (off * s)).take (n * s) = ((l.drop off).take n).flatMap f := by
  have h1 : l.flatMap f = (l.take off).flatMap f ++ (l.drop off).flatMap f := by rw [← List.flatMap_append, List.take_append_drop]
  by_cases hl : off ≤ l.length
  · have h2 : ((l.take off).flatMap f).length = off * s := by rw [flatG_len hf, List.length_take, Nat.min_eq_left hl]
    rw [h1, List.drop_append, List.drop_eq_nil_of_le (by omega), List.nil_append, h2, Nat.sub_self, List.drop_zero]
    generalize l.drop off = k
    have h3 : k.flatMap f = (k.take n).flatMap f ++ (k.drop n).flatMap f := by rw [← List.flatMap_append, List.take_append_drop]
    by_cases hk : n ≤ k.length
    · have h4 : ((k.take n).flatMap f).length = n * s := by rw [flatG_len hf, List.length_take, Nat.min_eq_left hk]
      rw [h3, List.take_append_of_le_length (by omega), List.take_of_length_le (by omega)]
    · rw [List.take_of_length_le (by rw [flatG_len hf]; exact Nat.mul_le_mul_right _ (by omega)), List.take_of_length_le (l := k) (by omega)]
  · rw [List.drop_eq_nil_of_le (as := l) (by omega), List.drop_eq_nil_of_le (by rw [flatG_len hf]; exact Nat.mul_le_mul_right _ (by omega))]
    simp
/-- What a piece of a slice is. -/
def cutV (ad : Option Addr) (z lo hi c : Nat) : Value := .slice (if c = lo then ad else ad.map (·.add (lo * z))) (hi - lo) (c - lo)
theorem V.tlPart {g : G} {t : Ty} {f f' : Bool} {l : List t.T} {lo hi : Nat} {v : Value} (hv : V g (.tl t f l) v) (h1 : lo ≤ hi) (h2 : hi ≤ l.length) :
    ∃ ad cap, v = .slice ad l.length cap ∧ l.length ≤ cap ∧ (f = true → cap = l.length) ∧ ∀ c, hi ≤ c → c ≤ cap → (f' = true → c = hi) → V g (.tl t f' (tk (hi - lo) (dr lo l))) (cutV ad t.size lo hi c) := by
  cases hv with
  | tl _ _ _ _ hd =>
    generalize hes : List.map (encD t) l = es at hd
    have hesl : es.length = l.length := by rw [← hes, List.length_map]
    have hfl : es.flatten = l.flatMap (encD t) := by rw [← hes, flat_map]
    cases hd with
    | sl0 =>
      have : l = [] := List.eq_nil_of_length_eq_zero hesl.symm
      subst this
      refine ⟨_, 0, rfl, Nat.le_refl _, fun _ => rfl, fun c k1 k2 k3 => ?_⟩
      have hc : c = 0 := by omega
      have hl : lo = 0 := by simp at h2; omega
      have hh : hi = 0 := by simpa using h2
      subst hc hl hh
      exact .tl t f' _ _ (by rw [show tk (0 - 0) (dr 0 ([] : List t.T)) = [] by simp [tk]]; exact .sl0 _ _ _)
    | sl _ _ _ a cap vs hz hc hf hn hx hl hm hvv =>
      rw [hesl] at hc hf
      rw [hesl]
      refine ⟨_, cap, rfl, hc, hf, fun c k1 k2 k3 => ?_⟩
      unfold cutV
      by_cases hcl : c = lo
      · have e1 : hi - lo = 0 := by omega
        rw [if_pos hcl, e1, show c - lo = 0 by omega]
        exact .tl t f' _ _ (by rw [show tk 0 (dr lo l) = [] by simp [tk]]; exact .sl0 _ _ _)
      · rw [if_neg hcl]
        cases a with
        | none => have := hn rfl; omega
        | some p =>
          have hlen : (tk (hi - lo) (dr lo l)).length = hi - lo := by simp [tk, dr]; omega
          have hpart := flatG_part (f := encD t) (fun x => encD_len t x) l lo (hi - lo)
          rw [hfl] at hl hvv
          have e2 : ((tk (hi - lo) (dr lo l)).map (encD t)).flatten = ((l.flatMap (encD t)).drop (lo * t.size)).take ((hi - lo) * t.size) := by rw [flat_map, hpart]; rfl
          have := VD.sl (M := g.mem) t.size f' ((tk (hi - lo) (dr lo l)).map (encD t)) (some (p.1, p.2 + lo * t.size)) (c - lo) ((vs.drop (lo * t.size)).take ((hi - lo) * t.size))
            (fun e he => by obtain ⟨x, _, rfl⟩ := List.mem_map.1 he; exact encD_len t x) (by rw [List.length_map, hlen]; omega) (fun h => by rw [List.length_map, hlen, k3 h]) (fun h => by cases h) (by omega)
            (by rw [e2]; simp only [List.length_take, List.length_drop, hl])
            (fun q j x hq hj => by
              cases hq
              rw [List.getElem?_take] at hj
              split at hj
              · rw [List.getElem?_drop] at hj
                have := hm p _ x rfl hj
                rw [← Nat.add_assoc] at this; exact this
              · cases hj)
            (fun j d x hj hj2 => by
              rw [e2] at hj
              rw [List.getElem?_take] at hj hj2
              split at hj
              · rename_i hlt
                rw [if_pos hlt] at hj2
                rw [List.getElem?_drop] at hj hj2
                exact hvv _ d x hj hj2
              · cases hj)
          rw [List.length_map, hlen] at this
          have e3 : Option.map (fun x : Addr => x.add (lo * t.size)) (Option.map adr (some p)) = Option.map adr (some (p.1, p.2 + lo * t.size)) := congrArg some (Addr.add_lit _ _ _)
          rw [e3]
          exact .tl t f' _ _ this
section
variable {P : Program} {E : Env} {o : Oper} {ρ : Operand → A} {h : H} {β : Type} {K : A → H → Fp → Option β} {r : β}
/-- A bound. -/
def bdK (ox : Option A) (d : Nat) (k : Nat → Option β) : Option β := match ox with
  | none => k d
  | some (.v (.int _ m)) => gd (ige m) (k (nN m))
  | _ => none
theorem bdK_ok {x : Option Operand} {d : Nat} {k : Nat → Option β} (hr : bdK (x.map ρ) d k = some r) : ∃ n, k n = some r ∧ Bd ρ d x n := by
  unfold bdK at hr
  split at hr
  · rename_i hx
    cases x with
    | none => exact ⟨d, hr, rfl⟩
    | some y => cases hx
  · rename_i kd m hx
    cases x with
    | none => cases hx
    | some y =>
      obtain ⟨h1, h2⟩ := gd_inv hr
      refine ⟨_, h2, kd, ?_⟩
      rw [nN_eq h1]
      exact Option.some.inj hx
  · cases hr
/-- Pieces of rows. -/
theorem V.twCut {g : G} {S : Hp} {w : World} (hI : Inv g S w) {X : Ref} {t : Ty} {l : List t.T} (h0 : 0 < t.size) (ho : S.ob X.id = some (.cells (l.flatMap (encA t)))) {v : Value} (hv : V g (.tw X t.size) v) {lo hi : Nat} (h1 : lo ≤ hi) (h2 : hi ≤ l.length) :
    ∃ ad cap, v = .slice ad l.length cap ∧ l.length ≤ cap ∧ V g (.ts X t.size lo (hi - lo)) (cutV ad t.size lo hi cap) ∧ V g (.tf X t.size lo (hi - lo)) (cutV ad t.size lo hi hi) := by
  have hlen := flatA_len t l
  rcases hv.twLen hI h0 ho with ⟨ad, hat, rfl, rfl⟩ | ⟨b, s, cap, d, hat, rfl, k2, k3, k4, k5⟩
  · have hh : hi = 0 := by simpa using h2
    have hl : lo = 0 := by omega
    subst hh hl
    exact ⟨ad, 0, rfl, Nat.le_refl _, .ts0 X t.size 0 _ ad hat rfl, .tf0 X t.size 0 _ ad hat rfl⟩
  · have hs : s.1 = l.length * t.size := by
      rcases hI.cells _ _ ho with ⟨k1, _⟩ | ⟨b', tt', k1, _⟩
      · rw [k1] at hat; cases hat
      rw [k1] at hat
      simp only [Option.some.injEq, Prod.mk.injEq] at hat
      obtain ⟨_, rfl⟩ := hat
      exact hlen
    have hsub : (lo + (hi - lo)) * t.size ≤ s.1 := by rw [hs]; exact Nat.mul_le_mul_right _ (by omega)
    refine ⟨_, cap, rfl, k3, ?_, ?_⟩
    · unfold cutV
      by_cases hc : cap = lo
      · rw [if_pos hc]
        refine .ts X t.size lo (hi - lo) b (cap - lo) s hat (by omega) (by omega) hsub ?_ d (fun h => by omega) ?_
        · rw [show lo + (cap - lo) = cap by omega]; exact k5
        · rw [show lo + (cap - lo) = cap by omega, hs]; exact Nat.mul_le_mul_right _ k3
      · rw [if_neg hc, Option.map_some, Addr.add_lit]
        have hd := k2 (by omega)
        refine .ts X t.size lo (hi - lo) b (cap - lo) s hat (by omega) (by omega) hsub ?_ _ (fun _ => by omega) ?_
        · rw [show lo + (cap - lo) = cap by omega]; exact k5
        · rw [show lo + (cap - lo) = cap by omega, hs]; exact Nat.mul_le_mul_right _ k3
    · unfold cutV
      by_cases hc : hi = lo
      · rw [if_pos hc]
        exact .tf X t.size lo (hi - lo) b s hat (by omega) hsub d (fun h => by omega)
      · rw [if_neg hc, Option.map_some, Addr.add_lit]
        have hd := k2 (by omega)
        exact .tf X t.size lo (hi - lo) b s hat (by omega) hsub _ (fun _ => by omega)
theorem V.tsCut {g : G} {S : Hp} {w : World} (hI : Inv g S w) {X : Ref} {t : Ty} {l : List t.T} (h0 : 0 < t.size) (ho : S.ob X.id = some (.cells (l.flatMap (encA t)))) {off n : Nat} {v : Value} (hv : V g (.ts X t.size off n) v) {lo hi : Nat} (h1 : lo ≤ hi) (h2 : off + hi ≤ l.length) :
    ∃ ad cap, v = .slice ad n cap ∧ hi ≤ cap ∧ V g (.ts X t.size (off + lo) (hi - lo)) (cutV ad t.size lo hi cap) ∧ V g (.tf X t.size (off + lo) (hi - lo)) (cutV ad t.size lo hi hi) := by
  have hlen := flatA_len t l
  cases hv with
  | ts0 _ _ _ _ ad hat hn =>
    rcases hI.cells _ _ ho with ⟨_, k2⟩ | ⟨b', tt', k1, _⟩
    · rw [k2] at hlen
      have hl : l.length = 0 := by
        rcases Nat.eq_zero_or_pos l.length with h | h
        · exact h
        · have : 0 < l.length * t.size := Nat.mul_pos h h0
          simp at hlen; omega
      have hh : hi = 0 := by omega
      have hl : lo = 0 := by omega
      have hof : off = 0 := by omega
      have hnn : n = 0 := by omega
      subst hh hl hof hnn
      exact ⟨ad, 0, rfl, Nat.le_refl _, .ts0 X t.size _ _ ad hat rfl, .tf0 X t.size _ _ ad hat rfl⟩
    · rw [k1] at hat; cases hat
  | ts _ _ _ _ b cap s hat hn hx hs hp d hd hq =>
    have hs1 : s.1 = l.length * t.size := by
      rcases hI.cells _ _ ho with ⟨k1, _⟩ | ⟨b', tt', k1, _⟩
      · rw [k1] at hat; cases hat
      rw [k1] at hat
      simp only [Option.some.injEq, Prod.mk.injEq] at hat
      obtain ⟨_, rfl⟩ := hat
      exact hlen
    have hcap : l.length ≤ off + cap := by rw [hs1] at hq; exact Nat.le_of_mul_le_mul_right hq h0
    have hsub : (off + lo + (hi - lo)) * t.size ≤ s.1 := by rw [hs1]; exact Nat.mul_le_mul_right _ (by omega)
    refine ⟨_, cap, rfl, by omega, ?_, ?_⟩
    · unfold cutV
      by_cases hc : cap = lo
      · rw [if_pos hc]
        refine .ts X t.size (off + lo) (hi - lo) b (cap - lo) s hat (by omega) (by omega) hsub ?_ d (fun h => by omega) ?_
        · rw [show off + lo + (cap - lo) = off + cap by omega]; exact hp
        · rw [show off + lo + (cap - lo) = off + cap by omega]; exact hq
      · rw [if_neg hc, Option.map_some, Addr.add_lit]
        have hd := hd (by omega)
        refine .ts X t.size (off + lo) (hi - lo) b (cap - lo) s hat (by omega) (by omega) hsub ?_ _ (fun _ => by rw [hd, Nat.add_mul]) ?_
        · rw [show off + lo + (cap - lo) = off + cap by omega]; exact hp
        · rw [show off + lo + (cap - lo) = off + cap by omega]; exact hq
    · unfold cutV
      by_cases hc : hi = lo
      · rw [if_pos hc]
        exact .tf X t.size (off + lo) (hi - lo) b s hat (by omega) hsub d (fun h => by omega)
      · rw [if_neg hc, Option.map_some, Addr.add_lit]
        have hd := hd (by omega)
        exact .tf X t.size (off + lo) (hi - lo) b s hat (by omega) hsub _ (fun _ => by rw [hd, Nat.add_mul])
def slcK (E : Env) (T : Nat) (px : A) (lo hi mx : Option A) (same : Bool) (h : H) (K : A → H → Fp → Option β) : Option β := match tget E.tab T with
  | some ⟨.slice el, _, _, _, _, _, _⟩ => match tget E.tab el with
    | some e => match px with
      | .e0 => bdK lo 0 (fun l => bdK hi 0 (fun n => gd (nle l n) (gd (nle n 0) (match mx with
        | none => K .e0 h (.rd [])
        | some _ => bif same && hi.isSome then K .e0 h (.rd []) else none))))
      | .tl t f x => bif Nat.beq e.size t.size then bdK lo 0 (fun l => bdK hi (len x) (fun n => gd (nle l n) (gd (nle n (len x)) (match mx with
        | none => K (.tl t (f && hi.isNone) (tk (nsub n l) (dr l x))) h .no
        | some _ => bif same && hi.isSome then K (.tl t true (tk (nsub n l) (dr l x))) h .no else none)))) else none
      | .tw X z => rowK h X (fun t x => bif Nat.beq z e.size && Nat.beq z t.size && Nat.blt 0 z then bdK lo 0 (fun l => bdK hi (len x) (fun n => gd (nle l n) (gd (nle n (len x)) (match mx with
        | none => K (.ts X z l (nsub n l)) h (.rd [rs1 X])
        | some _ => bif same && hi.isSome then K (.tf X z l (nsub n l)) h (.rd [rs1 X]) else none)))) else none)
      | .ts X z off m => rowK h X (fun t x => bif Nat.beq z e.size && Nat.beq z t.size && Nat.blt 0 z then bdK lo 0 (fun l => bdK hi m (fun n => gd (nle l n) (gd (nle (nadd off n) (len x)) (match mx with
        | none => K (.ts X z (nadd off l) (nsub n l)) h (.rd [rs1 X])
        | some _ => bif same && hi.isSome then K (.tf X z (nadd off l) (nsub n l)) h (.rd [rs1 X]) else none)))) else none)
      | _ => none
    | none => none
  | some ⟨.array n el, _, _, _, _, _, _⟩ => match tget E.tab el with
    | some e => bif lo.isNone && hi.isNone && mx.isNone && Nat.ble n 16777216 then (match px with
      | .tp X π => K (.as X π n e.size) h .no
      | .ptr q off => match h.t.get q with
        | some (.cells cs) => bif Nat.blt q 16777216 && Nat.ble (off + n * e.size) cs.length then K (.sl q off e.size n) h (.rd [rlo q]) else none
        | _ => none
      | _ => none) else none
    | none => none
  | _ => none
theorem isNone_map {x : Option Operand} (h : (x.map ρ).isNone = true) : x = none := by cases x with | none => rfl | some y => cases h
theorem isSome_map {x : Option Operand} (h : (x.map ρ).isSome = true) : ∃ y, x = some y := by cases x with | none => cases h | some y => exact ⟨y, rfl⟩
/-- Both kinds of pieces. -/
theorem opS_cut {S : Hp} {T E' : TypeId} {x : Operand} {lo hi mx : Option Operand} {z l n d : Nat} {pv pw : A} (ho : o.op = .slice T x lo hi mx) (hT : P.underlying T = some (.slice E')) (hE : SizeIs P E' z) (hlo : Bd ρ 0 lo l) (hhi : Bd ρ d hi n) (h1 : l ≤ n)
    (hr : ∀ g w v, Inv g S w → V g (ρ x) v → ∃ ad cap, v = .slice ad d cap ∧ n ≤ cap ∧ (mx = none → V g pv (cutV ad z l n cap)) ∧ (mx = hi → V g pw (cutV ad z l n n))) : (mx = none → OpS P o ρ S S pv) ∧ (mx = hi → hi ≠ none → OpS P o ρ S S pw) :=
  ⟨fun hm => by
    subst hm
    exact opS_slice ho hT hE hlo h1 (fun g w v hI hv => let ⟨ad, cap, k1, k2, k3, _⟩ := hr g w v hI hv; ⟨ad, d, cap, k1, hhi, k2, k3 rfl⟩),
  fun hm hn => by
    subst hm
    cases hi' : mx with
    | none => exact absurd hi' hn
    | some y =>
      subst hi'
      exact opS_slice3 (hi := y) (mx := y) ho hT hE hlo hhi hhi h1 (Nat.le_refl _) (fun g w v hI hv => let ⟨ad, cap, k1, k2, _, k4⟩ := hr g w v hI hv; ⟨ad, d, cap, k1, k2, k4 rfl⟩)⟩
theorem slcK_ok (hE : EnvOk P E) {T : Nat} {x : Operand} {lo hi mx : Option Operand} {same : Bool} (ho : o.op = .slice T x lo hi mx) (hs : same = true → mx = hi) (hr : slcK E T (ρ x) (lo.map ρ) (hi.map ρ) (mx.map ρ) same h K = some r) : Out P o ρ h K r := by
  have hd : ∀ c, o.op ≠ .defer c := by rw [ho]; intro c e; cases e
  unfold slcK at hr
  split at hr
  · rename_i el _ _ _ _ _ _ ht
    have hT := (hE.tab _ _ ht).u
    split at hr
    · rename_i e he
      have hz := (hE.tab _ _ he).ti.size
      -- what is told of the third bound
      have fin : ∀ {T' : List Nat} {pv pw : A} {Sx : Hp → Prop}, (∀ S2, Agree (.rd T') (hp h) S2 → (mx = none → OpS P o ρ S2 S2 pv) ∧ (mx = hi → hi ≠ none → OpS P o ρ S2 S2 pw)) → (match mx.map ρ with | none => K pv h (.rd T') | some _ => bif same && (hi.map ρ).isSome then K pw h (.rd T') else none) = some r → Out P o ρ h K r := fun {T' pv pw Sx} k hr => by
        cases hm : mx with
        | none =>
          rw [hm] at hr
          exact .read _ hr (fun S2 hA => (k S2 hA).1 hm) hd
        | some y =>
          rw [hm] at hr
          obtain ⟨h1, hr⟩ := cond_some hr
          simp only [Bool.and_eq_true] at h1
          obtain ⟨y', hy'⟩ := isSome_map h1.2
          exact .read _ hr (fun S2 hA => (k S2 hA).2 (hs h1.1) (by rw [hy']; intro h; cases h)) hd
      split at hr
      · rename_i hx
        obtain ⟨l, hr, hlo⟩ := bdK_ok hr
        obtain ⟨n, hr, hhi⟩ := bdK_ok hr
        obtain ⟨h1, hr⟩ := gd_inv hr
        obtain ⟨h2, hr⟩ := gd_inv hr
        have h1 : l ≤ n := h1
        have h2 : n ≤ 0 := h2
        have hn : n = 0 := by omega
        have hl : l = 0 := by omega
        subst hn hl
        exact fin (T' := []) (Sx := fun _ => True) (fun S2 _ => opS_cut (pw := .e0) ho hT hz hlo hhi h1 (fun g w v hI hv => by
          rw [hx] at hv
          cases hv with
          | e0 ad => exact ⟨ad, 0, rfl, Nat.le_refl _, fun _ => .e0 _, fun _ => .e0 _⟩)) hr
      · rename_i t f x' hx
        obtain ⟨hq, hr⟩ := cond_some hr
        have hq := beq_eq hq
        obtain ⟨l, hr, hlo⟩ := bdK_ok hr
        obtain ⟨n, hr, hhi⟩ := bdK_ok hr
        obtain ⟨h1, hr⟩ := gd_inv hr
        obtain ⟨h2, hr⟩ := gd_inv hr
        have h1 : l ≤ n := h1
        have h2 : n ≤ x'.length := h2
        refine fin (T' := []) (Sx := fun _ => True) (fun S2 _ => opS_cut ho hT hz hlo hhi h1 (fun g w v hI hv => ?_)) hr
        rw [hx] at hv
        obtain ⟨ad, cap, k1, k2, k3, _⟩ := hv.tlPart (f' := f && (hi.map ρ).isNone) h1 h2
        refine ⟨ad, cap, k1, by omega, fun hm => ?_, fun _ => ?_⟩
        · obtain ⟨ad', cap', j1, j2, j3, j4⟩ := hv.tlPart (f' := f && (hi.map ρ).isNone) h1 h2
          rw [k1] at j1; cases j1
          rw [hq]
          refine j4 cap (by omega) (Nat.le_refl _) (fun hf => ?_)
          simp only [Bool.and_eq_true] at hf
          have hh := isNone_map hf.2
          subst hh
          have : n = len x' := hhi
          rw [k3 hf.1, this]; rfl
        · obtain ⟨ad', cap', j1, j2, j3, j4⟩ := hv.tlPart (f' := true) h1 h2
          rw [k1] at j1; cases j1
          rw [hq]
          exact j4 n (Nat.le_refl _) (by omega) (fun _ => rfl)
      · rename_i X z hx
        obtain ⟨t, x', hr, hX, hob⟩ := rowK_ok hr
        obtain ⟨hq, hr⟩ := cond_some hr
        simp only [Bool.and_eq_true] at hq
        have hq1 := beq_eq hq.1.1
        have hq2 := beq_eq hq.1.2
        have h0 := blt_lt hq.2
        obtain ⟨l, hr, hlo⟩ := bdK_ok hr
        obtain ⟨n, hr, hhi⟩ := bdK_ok hr
        obtain ⟨h1, hr⟩ := gd_inv hr
        obtain ⟨h2, hr⟩ := gd_inv hr
        have h1 : l ≤ n := h1
        have h2 : n ≤ x'.length := h2
        refine fin (T' := [rs1 X]) (Sx := fun _ => True) (fun S2 hA => opS_cut ho hT hz hlo hhi h1 (fun g w v hI hv => ?_)) hr
        have hob2 := (hA _ (touch_ref hX (.head _))).1.trans hob
        rw [hx, hq2] at hv
        obtain ⟨ad, cap, k1, k2, k3, k4⟩ := hv.twCut hI (by omega) hob2 h1 h2
        rw [← hq2] at k3 k4
        rw [← hq1]
        exact ⟨ad, cap, k1, by omega, fun _ => k3, fun _ => k4⟩
      · rename_i X z off m hx
        obtain ⟨t, x', hr, hX, hob⟩ := rowK_ok hr
        obtain ⟨hq, hr⟩ := cond_some hr
        simp only [Bool.and_eq_true] at hq
        have hq1 := beq_eq hq.1.1
        have hq2 := beq_eq hq.1.2
        have h0 := blt_lt hq.2
        obtain ⟨l, hr, hlo⟩ := bdK_ok hr
        obtain ⟨n, hr, hhi⟩ := bdK_ok hr
        obtain ⟨h1, hr⟩ := gd_inv hr
        obtain ⟨h2, hr⟩ := gd_inv hr
        have h1 : l ≤ n := h1
        have h2 : off + n ≤ x'.length := h2
        refine fin (T' := [rs1 X]) (Sx := fun _ => True) (fun S2 hA => opS_cut ho hT hz hlo hhi h1 (fun g w v hI hv => ?_)) hr
        have hob2 := (hA _ (touch_ref hX (.head _))).1.trans hob
        rw [hx, hq2] at hv
        obtain ⟨ad, cap, k1, k2, k3, k4⟩ := hv.tsCut hI (by omega) hob2 h1 h2
        rw [← hq2] at k3 k4
        rw [← hq1]
        exact ⟨ad, cap, k1, k2, fun _ => k3, fun _ => k4⟩
      · cases hr
    · cases hr
  · rename_i n el _ _ _ _ _ _ ht
    have hT := (hE.tab _ _ ht).u
    split at hr
    · rename_i e he
      have hz := (hE.tab _ _ he).ti.size
      obtain ⟨h1, hkk⟩ := cond_some hr
      clear hr
      simp only [Bool.and_eq_true] at h1
      have e1 := isNone_map h1.1.1.1
      have e2 := isNone_map h1.1.1.2
      have e3 := isNone_map h1.1.2
      have hn := Nat.le_of_ble_eq_true h1.2
      clear h1
      subst e1 e2 e3
      split at hkk
      · rename_i X π hx
        exact .pure hkk (fun S2 => opS_slice_arr ho hT ⟨_, hz⟩ (fun g w v hI hv => by
          rw [hx] at hv
          cases hv with
          | tp _ _ b s hat hk => exact ⟨b, _, rfl, .as X π n e.size b n s hat hk (Nat.le_refl _) (by unfold maxLen; omega)⟩)) hd
      · rename_i q off hx
        split at hkk
        · rename_i cs hg
          obtain ⟨h2, hkk⟩ := cond_some hkk
          simp only [Bool.and_eq_true] at h2
          have hq := blt_lt h2.1
          have h3 := Nat.le_of_ble_eq_true h2.2
          have hob : (hp h).ob q = some (.cells cs) := by rw [hp_loc hq]; unfold tOb; rw [hg]; rfl
          exact .read _ hkk (fun S2 hA => opS_slice_arr ho hT ⟨_, hz⟩ (fun g w v hI hv => by
            rw [hx] at hv
            cases hv with
            | ptr _ _ b s hat =>
              have hs : s.1 = cs.length := by
                rcases hI.cells _ _ ((hA q (touch_loc hq (.head _))).1.trans hob) with ⟨k1, _⟩ | ⟨b', tt', k1, _⟩
                · rw [k1] at hat; cases hat
                rw [k1] at hat
                simp only [Option.some.injEq, Prod.mk.injEq] at hat
                obtain ⟨_, rfl⟩ := hat
                rfl
              exact ⟨b, off, rfl, .sl q off e.size n b n s hat (Nat.le_refl _) (by unfold maxLen; omega) (by rw [hs]; exact h3)⟩)) hd
        · cases hkk
      · cases hkk
    · cases hr
  · cases hr
end
end
end Go.Bm
