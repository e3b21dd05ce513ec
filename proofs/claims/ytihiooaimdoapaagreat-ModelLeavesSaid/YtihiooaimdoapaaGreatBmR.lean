/- Operations, run: places, memory. -/
import Derived.Test.YtihiooaimdoapaaGreatBmQ
set_option linter.unusedVariables false
set_option linter.unusedSimpArgs false
namespace Go.Bm
noncomputable section
open Go.RowKit
section
variable {P : Program} {E : Env} {o : Oper} {ρ : Operand → A} {h : H} {β : Type} {K : A → H → Fp → Option β} {r : β}
/-- The way to a struct's field. -/
def fldS : Nat → Ty → Nat → Option (List Sp)
  | 1, _, 0 => some []
  | _ + 2, .pair _ _, 0 => some [.fst]
  | n + 2, .pair a b, f + 1 => match fldS (n + 1) b f with
    | some π => some (.snd a.size :: π)
    | none => none
  | _, _, _ => none
theorem fldS_ok {s : Nat} : ∀ (n : Nat) (t : Ty) (f : Nat) (π : List Sp), fldS n t f = some π → Pok s π
  | 0, _, _, _, h => by simp [fldS] at h
  | 1, _, 0, _, h => by simp [fldS] at h; subst h; trivial
  | 1, _, f + 1, _, h => by simp [fldS] at h
  | n + 2, .pair a b, 0, _, h => by simp [fldS] at h; subst h; trivial
  | n + 2, .pair a b, f + 1, _, h => by
    simp only [fldS] at h
    split at h
    · rename_i π' h'
      cases h
      exact fldS_ok (s := s) (n + 1) b f π' h'
    · cases h
  | n + 2, .int _, f, _, h => by cases f <;> simp [fldS] at h
  | n + 2, .bool, f, _, h => by cases f <;> simp [fldS] at h
  | n + 2, .unit, f, _, h => by cases f <;> simp [fldS] at h
  | n + 2, .arr _ _, f, _, h => by cases f <;> simp [fldS] at h
  | n + 2, .slc _, f, _, h => by cases f <;> simp [fldS] at h
  | n + 2, .ptr _, f, _, h => by cases f <;> simp [fldS] at h
  | n + 2, .nptr _, f, _, h => by cases f <;> simp [fldS] at h
  | n + 2, .rsl _ _, f, _, h => by cases f <;> simp [fldS] at h
  | n + 2, .wrg _ _, f, _, h => by cases f <;> simp [fldS] at h
  | n + 2, .mp _, f, _, h => by cases f <;> simp [fldS] at h
def fldK (E : Env) (T f : Nat) (px : A) (h : H) (K : A → H → Fp → Option β) : Option β := match tget E.tab T with
  | some ⟨.struct fs, _, _, _, _, t, _⟩ => match fs[f]? with
    | some fd => match tget E.tab fd.type with
      | some e => bif Nat.blt 0 e.size then (match px with
        | .ptr o off => K (.ptr o (off + fd.offset)) h .no
        | .tp X π => match t with
          | some t => match fldS fs.size t f with
            | some σ => bif Nat.beq (offS σ) fd.offset then K (.tp X (π ++ σ)) h .no else none
            | none => none
          | none => none
        | .dp t x => match fldS fs.size t f with
          | some σ => bif Nat.beq (offS σ) fd.offset then (match getP σ t x with
            | some s => K (.dp s.t s.x) h .no
            | none => none) else none
          | none => none
        | _ => none) else none
      | none => none
    | none => none
  | _ => none
theorem fldK_ok (hE : EnvOk P E) {T f : Nat} {x : Operand} (ho : o.op = .fieldAddr T x f) (hr : fldK E T f (ρ x) h K = some r) : Out P o ρ h K r := by
  have hd : ∀ c, o.op ≠ .defer c := by rw [ho]; intro c e; cases e
  unfold fldK at hr
  split at hr
  · rename_i fs _ _ _ _ t _ ht
    split at hr
    · rename_i fd hf
      split at hr
      · rename_i e he
        obtain ⟨h0, hr⟩ := cond_some hr
        have h0 := blt_lt h0
        have rule : ∀ {v : A}, (∀ g u, V g (ρ x) u → ∃ b off, u = .pointer (some ⟨b, off, none⟩) ∧ V g v (.pointer (some ⟨b, off + fd.offset, none⟩))) → ∀ S2, OpS P o ρ S2 S2 v := fun hv S2 =>
          opS_field ho (hE.tab _ _ ht).u hf (hE.tab _ _ he).ti.size (by omega) hv
        split at hr
        · rename_i q off hx
          refine .pure hr (rule fun g u hu => ?_) hd
          rw [hx] at hu
          cases hu with
          | ptr _ _ b s hb => exact ⟨b, off, rfl, .ptr _ _ b s hb⟩
        · rename_i X π hx
          split at hr
          · rename_i t' 
            split at hr
            · rename_i σ hσ
              obtain ⟨hc, hr⟩ := cond_some hr
              refine .pure hr (rule fun g u hu => ?_) hd
              rw [hx] at hu
              cases hu with
              | tp _ _ b s hb hk =>
                refine ⟨b, offS π, rfl, ?_⟩
                rw [← beq_eq hc, ← offS_app]
                exact .tp X _ b s hb ((Pok_app π σ).2 ⟨hk, fldS_ok _ _ _ _ hσ⟩)
            · cases hr
          · cases hr
        · rename_i t' y hx
          split at hr
          · rename_i σ hσ
            obtain ⟨hc, hr⟩ := cond_some hr
            split at hr
            · rename_i sg hsg
              refine .pure hr (rule fun g u hu => ?_) hd
              rw [hx] at hu
              cases hu with
              | dp _ _ b off f hm =>
                obtain ⟨a, c, q1, q2⟩ := getPD_ok σ t' y 0 sg hsg (fldS_ok _ _ _ _ hσ)
                refine ⟨b, off, rfl, .dp sg.t sg.x b _ (fun j => f (offS σ + j)) (fun j d hj => ?_)⟩
                have := hm (offS σ + j) d (by
                  rw [q1, List.getElem?_append_right (by omega), show offS σ + j - a.length = j by omega, List.getElem?_append_left (List.getElem?_eq_some_iff.1 hj).1]; exact hj)
                rw [← beq_eq hc, Nat.add_assoc]
                exact this
            · cases hr
          · cases hr
        · cases hr
      · cases hr
    · cases hr
  · cases hr
/-- A value's field. -/
def fieldK (E : Env) (T f : Nat) (px : A) (h : H) (K : A → H → Fp → Option β) : Option β := none
/-- One of an own array's elements, whichever it is. -/
def spl : Nat → Nat → Int → (Nat → Option β) → Option β
  | 0, _, _, _ => none
  | n + 1, i, m, k => br (ieql m (zN i)) (k i) (spl n (i + 1) m k)
theorem spl_ok {m : Int} {k : Nat → Option β} : ∀ (n i : Nat), spl n i m k = some r → ∃ j, k j = some r ∧ m = ((j : Nat) : Int) ∧ i ≤ j ∧ j < i + n
  | 0, i, h => by cases h
  | n + 1, i, h => by
    rcases br_inv h with ⟨e, h1⟩ | ⟨e, h1⟩
    · exact ⟨i, h1, of_decide_eq_true e, Nat.le_refl _, by omega⟩
    · obtain ⟨j, k1, k2, k3, k4⟩ := spl_ok n (i + 1) h1
      exact ⟨j, k1, k2, by omega, by omega⟩
/-- The index, if it is told in the text. -/
def litN : Operand → Option Nat
  | .const (.int _ (.ofNat n)) => some n
  | _ => none
theorem nN_eq {n : Int} (h : ige n) : ((nN n : Nat) : Int) = n := Int.toNat_of_nonneg h
def ixK (E : Env) (T : Nat) (px : A) (y : Operand) (py : A) (h : H) (K : A → H → Fp → Option β) : Option β := match py with
  | .v (.int _ n) => match tget E.tab T with
    | some ⟨.array len el, _, _, _, _, _, _⟩ => match tget E.tab el with
      | some e => match px with
        | .ptr q off => match litN y with
          | some i => gd (neq (nN n) i) (bif Nat.blt i len then gd (ige n) (K (.ptr q (off + i * e.size)) h .no) else none)
          | none => spl len 0 n (fun i => K (.ptr q (off + i * e.size)) h .no)
        | .tp X π => gd (ige n) (gd (nlt (nN n) len) (K (.tp X (π ++ [.ai (nN n) len e.size])) h .no))
        | .dp t x => gd (ige n) (gd (nlt (nN n) len) (bif Nat.blt 0 e.size then (match getP [.ai (nN n) len e.size] t x with
          | some s => K (.dp s.t s.x) h .no
          | none => none) else none))
        | _ => none
      | none => none
    | some ⟨.slice el, _, _, _, _, _, _⟩ => match tget E.tab el with
      | some e => bif Nat.blt 0 e.size then (match px with
        | .tl t _ l => bif Nat.beq t.size e.size then gd (ige n) (gd (nlt (nN n) (len l)) (K (.dp t (nth t.dflt l (nN n))) h .no)) else none
        | .tw X z => bif Nat.beq z e.size then rowK h X (fun t l => bif Nat.beq z t.size then gd (ige n) (gd (nlt (nN n) (len l)) (K (.tp X [.ix (nN n) z]) h (.rd [rs1 X]))) else none) else none
        | .ts X z off m => bif Nat.beq z e.size then gd (ige n) (gd (nlt (nN n) m) (K (.tp X [.ix (nadd off (nN n)) z]) h .no)) else none
        | .tf X z off m => bif Nat.beq z e.size then gd (ige n) (gd (nlt (nN n) m) (K (.tp X [.ix (nadd off (nN n)) z]) h .no)) else none
        | .as X π m z => bif Nat.beq z e.size then gd (ige n) (gd (nlt (nN n) m) (K (.tp X (π ++ [.ai (nN n) m z])) h .no)) else none
        | .sl q off z m => bif Nat.beq z e.size then spl m 0 n (fun i => K (.ptr q (off + i * z)) h .no) else none
        | _ => none) else none
      | none => none
    | _ => none
  | _ => none
theorem flat_at {t : Ty} {l : List t.T} {i : Nat} (hi : i < l.length) {j : Nat} {c : D} (hj : (encD t (nth t.dflt l i))[j]? = some c) : (l.map (encD t)).flatten[i * t.size + j]? = some c := by
  have e : l = l.take i ++ nth t.dflt l i :: l.drop (i + 1) := by
    rw [show nth t.dflt l i = l[i] by simp [nth, List.getD_eq_getElem?_getD, List.getElem?_eq_getElem hi], List.getElem_cons_drop, List.take_append_drop]
  have hl : ((l.take i).flatMap (encD t)).length = i * t.size := by
    have : ∀ m : List t.T, (m.flatMap (encD t)).length = m.length * t.size := fun m => by
      induction m with
      | nil => simp
      | cons a m ih => rw [List.flatMap_cons, List.length_append, ih, encD_len, List.length_cons, Nat.succ_mul, Nat.add_comm]
    rw [this, List.length_take, Nat.min_eq_left (Nat.le_of_lt hi)]
  rw [flat_map]
  conv => lhs; rw [e]
  rw [List.flatMap_append, List.flatMap_cons, List.getElem?_append_right (by omega), hl, show i * t.size + j - i * t.size = j by omega, List.getElem?_append_left (List.getElem?_eq_some_iff.1 hj).1]
  exact hj
theorem ixK_ok (hE : EnvOk P E) {T : Nat} {x y : Operand} (ho : o.op = .indexAddr T x y) (hr : ixK E T (ρ x) y (ρ y) h K = some r) : Out P o ρ h K r := by
  have hd : ∀ c, o.op ≠ .defer c := by rw [ho]; intro c e; cases e
  unfold ixK at hr
  split at hr
  · rename_i k n hy
    split at hr
    · rename_i len el _ _ _ _ _ _ ht
      split at hr
      · rename_i e he
        have rule : ∀ {v : A}, 0 ≤ n ∧ n < len → (∀ g u, V g (ρ x) u → ∃ b off, u = .pointer (some ⟨b, off, none⟩) ∧ V g v (.pointer (some ⟨b, off + n.toNat * e.size, none⟩))) → ∀ S2, OpS P o ρ S2 S2 v := fun hn hv S2 =>
          opS_index_arr ho (hE.tab _ _ ht).u (hE.tab _ _ he).ti.size hy hn hv
        split at hr
        · rename_i q off hx
          have ptr : ∀ i : Nat, n.toNat = i → ∀ g u, V g (ρ x) u → ∃ b off', u = .pointer (some ⟨b, off', none⟩) ∧ V g (.ptr q (off + i * e.size)) (.pointer (some ⟨b, off' + n.toNat * e.size, none⟩)) := fun i hi g u hu => by
            rw [hx] at hu
            cases hu with
            | ptr _ _ b s hb => exact ⟨b, off, rfl, by rw [hi]; exact .ptr _ _ b s hb⟩
          split at hr
          · rename_i i _
            obtain ⟨h1, hr⟩ := gd_inv hr
            obtain ⟨h2, hr⟩ := cond_some hr
            obtain ⟨h3, hr⟩ := gd_inv hr
            have h4 := nN_eq h3
            have h1 : nN n = i := h1
            have h5 := blt_lt h2
            exact .pure hr (rule ⟨h3, by omega⟩ (ptr i h1)) hd
          · obtain ⟨i, h1, h2, h3, h4⟩ := spl_ok _ _ hr
            exact .pure h1 (rule ⟨by omega, by omega⟩ (ptr i (by omega))) hd
        · rename_i X π hx
          obtain ⟨h3, hr⟩ := gd_inv hr
          obtain ⟨h4, hr⟩ := gd_inv hr
          have h5 := nN_eq h3
          have h4 : nN n < len := h4
          refine .pure hr (rule ⟨h3, by omega⟩ (fun g u hu => ?_)) hd
          rw [hx] at hu
          cases hu with
          | tp _ _ b s hb hk =>
            refine ⟨b, offS π, rfl, ?_⟩
            have := V.tp (g := g) X (π ++ [.ai (nN n) len e.size]) b s hb ((Pok_app π [.ai (nN n) len e.size]).2 ⟨hk, show nN n < len ∧ True from ⟨h4, trivial⟩⟩)
            rw [offS_app] at this
            exact this
        · rename_i t z hx
          obtain ⟨h3, hr⟩ := gd_inv hr
          obtain ⟨h4, hr⟩ := gd_inv hr
          obtain ⟨_, hr⟩ := cond_some hr
          have h5 := nN_eq h3
          have h4 : nN n < len := h4
          split at hr
          · rename_i sg hsg
            refine .pure hr (rule ⟨h3, by omega⟩ (fun g u hu => ?_)) hd
            rw [hx] at hu
            cases hu with
            | dp _ _ b off f hm =>
              obtain ⟨a, c, q1, q2⟩ := getPD_ok _ t z 0 sg hsg ⟨h4, trivial⟩
              have q2 : a.length = nN n * e.size := q2
              refine ⟨b, off, rfl, .dp sg.t sg.x b _ (fun j => f (nN n * e.size + j)) (fun j d hj => ?_)⟩
              have := hm (nN n * e.size + j) d (by
                rw [q1, List.getElem?_append_right (by omega), show nN n * e.size + j - a.length = j by omega, List.getElem?_append_left (List.getElem?_eq_some_iff.1 hj).1]; exact hj)
              rw [Nat.add_assoc]
              exact this
          · cases hr
        · cases hr
      · cases hr
    · rename_i el _ _ _ _ _ _ ht
      split at hr
      · rename_i e he
        obtain ⟨h0, hr⟩ := cond_some hr
        have h0 := blt_lt h0
        have rule : ∀ {v : A} {S2 : Hp}, (∀ g w u, Inv g S2 w → V g (ρ x) u → ∃ b off m cap, u = .slice (some ⟨b, off, none⟩) m cap ∧ (0 ≤ n ∧ n < m) ∧ V g v (.pointer (some ⟨b, off + n.toNat * e.size, none⟩))) → OpS P o ρ S2 S2 v := fun hv =>
          opS_index_sl ho (hE.tab _ _ ht).u (hE.tab _ _ he).ti.size hy hv
        split at hr
        · rename_i t f l hx
          obtain ⟨h1, hr⟩ := cond_some hr
          obtain ⟨h3, hr⟩ := gd_inv hr
          obtain ⟨h4, hr⟩ := gd_inv hr
          have h5 := nN_eq h3
          have h4 : nN n < l.length := h4
          refine .pure hr (fun S2 => rule (fun g w u hI hu => ?_)) hd
          rw [hx] at hu
          cases hu with
          | tl _ _ _ _ hv =>
            rw [← beq_eq h1] at *
            generalize hes : List.map (encD t) l = es at hv
            have hesl : es.length = l.length := by rw [← hes, List.length_map]
            cases hv with
            | sl0 => simp at hesl; omega
            | sl _ _ _ a cap vs hz hc hf hn hx' hl hm hvv =>
              obtain ⟨p, rfl⟩ : ∃ p, a = some p := by
                cases a with
                | none => have := hn rfl; omega
                | some p => exact ⟨p, rfl⟩
              refine ⟨p.1, p.2, es.length, cap, rfl, ⟨h3, by omega⟩, .dp t _ p.1 _ (fun j => vs.getD (nN n * t.size + j) undef) (fun j c hj => ?_)⟩
              have hfl := flat_at (t := t) (l := l) h4 hj
              rw [hes] at hfl
              have hlt := (List.getElem?_eq_some_iff.1 hfl).1
              have hvs : vs[nN n * t.size + j]? = some (vs.getD (nN n * t.size + j) undef) := by
                rw [List.getD_eq_getElem?_getD, List.getElem?_eq_getElem (by rw [← hl]; exact hlt)]; rfl
              refine ⟨?_, hvv _ c _ hfl hvs⟩
              have := hm p _ _ rfl hvs
              rw [Nat.add_assoc]; exact this
        · rename_i X z hx
          obtain ⟨h1, hr⟩ := cond_some hr
          obtain rfl := beq_eq h1
          obtain ⟨t, l, hr, hX, hob⟩ := rowK_ok hr
          obtain ⟨h2, hr⟩ := cond_some hr
          obtain ⟨h3, hr⟩ := gd_inv hr
          obtain ⟨h4, hr⟩ := gd_inv hr
          have h5 := nN_eq h3
          have h4 : nN n < l.length := h4
          have h2 := beq_eq h2
          refine .read _ hr (fun S2 hA => rule (fun g w u hI hu => ?_)) hd
          have hob2 := (hA _ (touch_ref hX (.head _))).1.trans hob
          rw [hx] at hu
          cases hu with
          | tw0 _ _ ad hat =>
            rcases hI.cells _ _ hob2 with ⟨_, k2⟩ | ⟨b, tt, k1, _⟩
            · have := flatA_len t l
              rw [k2] at this
              have : 0 < l.length * t.size := Nat.mul_pos (by omega) (by omega)
              simp at *; omega
            · rw [k1] at hat; cases hat
          | tw _ _ m b cap tt hat hn hx' hp d hd' =>
            rcases hI.cells _ _ hob2 with ⟨k1, _⟩ | ⟨b', tt', k1, _⟩
            · rw [k1] at hat; cases hat
            have hat0 := hat
            rw [k1] at hat
            simp only [Option.some.injEq, Prod.mk.injEq] at hat
            obtain ⟨rfl, hlen, _⟩ := hat
            rw [flatA_len, h2] at hlen
            have hm : l.length = m := Nat.eq_of_mul_eq_mul_right (by omega) hlen
            refine ⟨b', d, m, cap, rfl, ⟨h3, by omega⟩, ?_⟩
            obtain rfl := hd' (by omega)
            have := V.tp (g := g) X [.ix (nN n) e.size] b' _ hat0 ⟨Nat.mul_le_mul_right _ (by omega), trivial⟩
            rw [show offS [.ix (nN n) e.size] = nN n * e.size from rfl] at this
            rw [Nat.zero_add]; exact this
        · rename_i X z off m hx
          obtain ⟨h1, hr⟩ := cond_some hr
          obtain rfl := beq_eq h1
          obtain ⟨h3, hr⟩ := gd_inv hr
          obtain ⟨h4, hr⟩ := gd_inv hr
          have h5 := nN_eq h3
          have h4 : nN n < m := h4
          refine .pure hr (fun S2 => rule (fun g w u hI hu => ?_)) hd
          rw [hx] at hu
          cases hu with
          | ts0 _ _ _ _ _ _ hn => omega
          | ts _ _ _ _ b cap s hat hn hx' hs hp d hd' =>
            refine ⟨b, d, m, cap, rfl, ⟨h3, by omega⟩, ?_⟩
            obtain rfl := hd' (by omega)
            have := V.tp (g := g) X [.ix (nadd off (nN n)) e.size] b _ hat ⟨Nat.le_trans (Nat.mul_le_mul_right _ (show nadd off (nN n) + 1 ≤ off + m by unfold nadd; omega)) hs, trivial⟩
            rw [show offS [.ix (nadd off (nN n)) e.size] = (off + nN n) * e.size from rfl, Nat.add_mul] at this
            exact this
        · rename_i X z off m hx
          obtain ⟨h1, hr⟩ := cond_some hr
          obtain rfl := beq_eq h1
          obtain ⟨h3, hr⟩ := gd_inv hr
          obtain ⟨h4, hr⟩ := gd_inv hr
          have h5 := nN_eq h3
          have h4 : nN n < m := h4
          refine .pure hr (fun S2 => rule (fun g w u hI hu => ?_)) hd
          rw [hx] at hu
          cases hu with
          | tf0 _ _ _ _ _ _ hn => omega
          | tf _ _ _ _ b s hat hx' hs d hd' =>
            refine ⟨b, d, m, m, rfl, ⟨h3, by omega⟩, ?_⟩
            obtain rfl := hd' (by omega)
            have := V.tp (g := g) X [.ix (nadd off (nN n)) e.size] b _ hat ⟨Nat.le_trans (Nat.mul_le_mul_right _ (show nadd off (nN n) + 1 ≤ off + m by unfold nadd; omega)) hs, trivial⟩
            rw [show offS [.ix (nadd off (nN n)) e.size] = (off + nN n) * e.size from rfl, Nat.add_mul] at this
            exact this
        · rename_i X π m z hx
          obtain ⟨h1, hr⟩ := cond_some hr
          obtain rfl := beq_eq h1
          obtain ⟨h3, hr⟩ := gd_inv hr
          obtain ⟨h4, hr⟩ := gd_inv hr
          have h5 := nN_eq h3
          have h4 : nN n < m := h4
          refine .pure hr (fun S2 => rule (fun g w u hI hu => ?_)) hd
          rw [hx] at hu
          cases hu with
          | as _ _ _ _ b cap s hat hk hn hx' =>
            refine ⟨b, offS π, m, cap, rfl, ⟨h3, by omega⟩, ?_⟩
            have := V.tp (g := g) X (π ++ [.ai (nN n) m e.size]) b s hat ((Pok_app π [.ai (nN n) m e.size]).2 ⟨hk, show nN n < m ∧ True from ⟨h4, trivial⟩⟩)
            rw [offS_app] at this
            exact this
        · rename_i q off z m hx
          obtain ⟨h1, hr⟩ := cond_some hr
          obtain rfl := beq_eq h1
          obtain ⟨i, k1, k2, k3, k4⟩ := spl_ok _ _ hr
          refine .pure k1 (fun S2 => rule (fun g w u hI hu => ?_)) hd
          rw [hx] at hu
          cases hu with
          | sl _ _ _ _ b cap s hat hn hx' hs =>
            refine ⟨b, off, m, cap, rfl, ⟨by omega, by omega⟩, ?_⟩
            rw [show n.toNat = i by omega]
            exact .ptr _ _ b s hat
        · cases hr
      · cases hr
    · cases hr
  · cases hr
end
end
end Go.Bm
