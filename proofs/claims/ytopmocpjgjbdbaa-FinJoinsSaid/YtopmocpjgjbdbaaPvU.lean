/- A reckoner, continued: code, functions. -/
import Derived.Test.YtopmocpjgjbdbaaPvV
import Derived.Test.YtopmocpjgjbdbaaPvFs
namespace Go.Pv
open Go.RowKit

def lenF (n : Nat) : List Nat → Fm → Prop → Prop
  | [], _, q => q
  | i :: l, F, q => bif Nat.blt i n then (match (look i F).els with
    | some (_, es) => es.length ≤ 9223372036854775807 → lenF n l F q
    | none => False) else False
/-- What is told, when a row becomes data. -/
def frzF (b sz : Nat) (es : List (List D)) (F : Fm) : List Nat → List Prop × Fm
  | [] => ([], [])
  | i :: l => ((fzP b sz es (look i F)).1 ++ (frzF b sz es F l).1, (i, (fzP b sz es (look i F)).2) :: (frzF b sz es F l).2)
def frzB (b sz : Nat) (es : List (List D)) (conv : List Nat) : Nat → List (Option (List PV)) → List Prop × List (Option (List PV))
  | _, [] => ([], [])
  | k, none :: r => ((frzB b sz es conv (k + 1) r).1, none :: (frzB b sz es conv (k + 1) r).2)
  | k, some cs :: r => bif Nat.beq k b then ((frzB b sz es conv (k + 1) r).1, none :: (frzB b sz es conv (k + 1) r).2)
    else bif conv.any (Nat.beq k) then ((fzL b sz es cs).1 ++ (frzB b sz es conv (k + 1) r).1, some (fzL b sz es cs).2 :: (frzB b sz es conv (k + 1) r).2)
    else ((PV.nobL b cs = true) :: (frzB b sz es conv (k + 1) r).1, some cs :: (frzB b sz es conv (k + 1) r).2)
def toDB : Option (Option (List PV)) → Option (List D)
  | some (some cs) => toDs cs
  | _ => none
def conj : List Prop → Prop → Prop
  | [], q => q
  | φ :: l, q => φ ∧ conj l q
/-- What is done ahead of a region. -/
def preN (n nb : Nat) : H → Fm → Sx → (H → Fm → Sx → Prop) → Prop
  | .len l r, F, S, k => lenF n l F (preN n nb r F S k)
  | .retag d r, F, S, k => match look d F with
    | .d (.sl sz true es) => bif Nat.blt d n then preN n nb r ((d, .app S.ts.length sz es) :: F) ⟨S.bs, S.ts ++ [es.length]⟩ k else False
    | _ => False
  | .reserve m r, F, S, k => preN n nb r F ⟨S.bs ++ List.replicate m none, S.ts⟩ k
  | .freeze b sz es keep conv r, F, S, k => bif Nat.ble nb b then
      (toDB (S.bs[b]?) = some es.flatten ∧ (∀ e ∈ es, e.length = sz) ∧ conj (frzF b sz es F keep).1 (conj (frzB b sz es conv 0 S.bs).1 (preN n nb r (frzF b sz es F keep).2 ⟨(frzB b sz es conv 0 S.bs).2, S.ts⟩ k))) else False
  | .retagc b off r, F, S, k => match boxAt S b with
    | some cs => match cs[off]? with
      | some (.d (.sl sz true es)) => preN n nb r F ⟨S.bs.set b (some (cs.set off (.app S.ts.length sz es))), S.ts ++ [es.length]⟩ k
      | _ => False
    | none => False
  | .vec d r, F, S, k => match look d F with
    | .d (.sl sz true []) => bif Nat.blt d n && Nat.blt 0 sz then preN n nb r ((d, .vec S.bs.length sz 0) :: F) ⟨S.bs ++ [some []], S.ts⟩ k else False
    | _ => False
  | .vecc b off r, F, S, k => match boxAt S b with
    | some cs => match cs[off]? with
      | some (.d (.sl sz true [])) => bif Nat.blt 0 sz then preN n nb r F ⟨S.bs.set b (some (cs.set off (.vec S.bs.length sz 0))) ++ [some []], S.ts⟩ k else False
      | _ => False
    | none => False
  | .retagr b ez m r, F, S, k => S.bs[b]? = some (some (List.replicate m (.d (.sl ez true [])))) ∧ preN n nb r F ⟨S.bs.set b (some (tagRow S.ts.length ez m)), S.ts ++ List.replicate m 0⟩ k
  | .newfam r, F, S, k => preN n nb r F ⟨S.bs ++ [some [PV.fh]], S.ts⟩ k
  | .vecf d i N cs c' r, F, S, k => match look d F with
    | .d (.sl sz true []) => bif Nat.blt d n && Nat.blt 0 sz then mkP S i N cs [] c' ∧ preN n nb r ((d, .fv i N sz 0) :: F) ⟨S.bs.set i (some c'), S.ts⟩ k else False
    | _ => False
  | .split φ a b, F, S, k => (φ → preN n nb a F S k) ∧ (¬ φ → preN n nb b F S k)
  | .eqS S1 r, F, S, k => S = S1 ∧ preN n nb r F S1 k
  | .wks d q r, F, S, k => bif Nat.blt d n then PVle (look d F) q ∧ preN n nb r ((d, q) :: F) S k else False
  | .letv α ok b, F, S, k => (∃ a : α, ok a) ∧ ∀ a : α, ok a → preN n nb (b a) F S k
  | .still d keep r, F, S, k => match look d F with
    | .vec b sz m => match boxAt S b with
      | some cs => bif Nat.blt d n && Nat.ble nb b && keep.all (fun i => PV.nob b (look i F)) then m ≠ 0 ∧ cs.length = m * sz ∧ conj (stB b S.bs) (preN n nb r ((d, .ms b 0 sz m) :: keep.map (fun i => (i, look i F))) S k) else False
      | none => False
    | _ => False
  | .trunc d c' r, F, S, k => match look d F with
    | .ms b _ _ m => match boxAt S b with
      | some cs => bif Nat.blt d n then m ≠ 0 ∧ c' ≠ [] ∧ (∃ t, cs = c' ++ t) ∧ preN n nb r F ⟨S.bs.set b (some c'), S.ts⟩ k else False
      | none => False
    | _ => False
  | .dead, _, _, _ => False
  | h, F, S, k => k h F S
def preH (n nb : Nat) (h : H) (F : Fm) (S : Sx) (k : H → Fm → Sx → Prop) : Prop :=
  match h with
  | .rg 0 r => preN n nb r F S k
  | .rg (m + 1) r => k (.rg m r) F S
  | h => k h F S
def LeF (F : Fm) : Fm → Prop
  | [] => True
  | (i, p) :: r => PVle (look i F) p ∧ LeF F r
def leAt (nb nt : Nat) (F : Fm) (S : Sx) (I : Fm × Sx) : Prop :=
  match I.2 with
  | ⟨[], []⟩ => bif Nat.beq nb 0 && Nat.beq nt 0 && I.1.all (fun x => PV.ok 0 0 x.2) then LeF F I.1 else False
  | S1 => (Nat.ble nb S1.bs.length && Nat.ble nt S1.ts.length) = true ∧
      S.cut S1.bs.length S1.ts.length = S1 ∧ I.1.all (fun x => PV.ok S1.bs.length S1.ts.length x.2) = true ∧ okB S1.bs.length S1.ts.length S1.bs = true ∧ LeF F I.1
/-- Rounds of a loop, one by one. -/
def peelC (V : H → Fm → Sx → (H → Exit → Fm → Sx → Prop) → Prop) : Nat → H → Fm → Sx → (H → Exit → Fm → Sx → Prop) → Prop
  | 0, _, _, _, _ => False
  | k + 1, h, F, S, K => V h F S (fun h e F S => match e with
    | .normal => peelC V k h F S K
    | e => K h e F S)
def vcC (P : Program) (E : Env) (n nb nt : Nat) : Code → H → Fm → Sx → (H → Exit → Fm → Sx → Prop) → Prop
  | .skip, h, F, S, K => K h .normal F S
  | .exit id, h, F, S, K => K h (.exit id) F S
  | .ret, h, F, S, K => K h .ret F S
  | .region _ ops draw, h, F, S, K =>
    preH n nb h F S (fun h F S => match regE P E n ops ops.toList h F S with
      | some (φs, h', F', S', ks) => bif draw then (bif cmpOk ops ks && chk ops then conj φs (K h' .normal F' S') else False) else conj φs (K h' .normal F' S')
      | none => False)
  | .seq x y, h, F, S, K => match h with
    | .cut α inv ok h1 h2 => vcC P E n nb nt x h1 F S (fun h e F S => match e with
        | .normal => match h with
          | .nx β y => β = α ∧ ∀ e : β = α, ok (cast e y) ∧ leAt nb nt F S (inv (cast e y))
          | _ => False
        | e => K h e F S) ∧ ∀ a : α, ok a → vcC P E n nb nt y (h2 a) (inv a).1 (inv a).2 K
    | h => vcC P E n nb nt x h F S (fun h e F S => match e with
        | .normal => vcC P E n nb nt y h F S K
        | e => K h e F S)
  | .cond c x y, h, F, S, K => match (St.ofL n F S).opz 0 c with
    | .d (.v (.bool b)) => match h with
      | .bt h => b = true ∧ vcC P E n nb nt x h F S K
      | .bf h => b = false ∧ vcC P E n nb nt y h F S K
      | .br h1 h2 => (b = true → vcC P E n nb nt x h1 F S K) ∧ (b = false → vcC P E n nb nt y h2 F S K)
      | _ => False
    | _ => False
  | .block id c, h, F, S, K => vcC P E n nb nt c h F S (fun h e F S => match e with
      | .exit id' => bif Nat.beq id' id then K h .normal F S else K h (.exit id') F S
      | e => K h e F S)
  | .loop c, h, F, S, K => match h with
    | .loop α inv ok μ x0 hb => ok x0 ∧ leAt nb nt F S (inv x0) ∧ ∀ x : α, ok x → vcC P E n nb nt c (hb x) (inv x).1 (inv x).2 (fun h e F S => match e with
        | .normal => match h with
          | .nx β y => β = α ∧ ∀ e : β = α, ok (cast e y) ∧ μ (cast e y) < μ x ∧ leAt nb nt F S (inv (cast e y))
          | _ => False
        | e => K h e F S)
    | .peel k h => peelC (vcC P E n nb nt c) k h F S K
    | _ => False
  | _, _, _, _, _ => False

section
variable {P : Program} {E : Env} {n nb nt : Nat} {g0 : Gh} {w0 : World}

theorem conj_ok : ∀ {l : List Prop} {q : Prop}, conj l q → AllP l ∧ q
  | [], _, h => ⟨trivial, h⟩
  | _ :: _, _, h => let ⟨h1, h2⟩ := conj_ok h.2; ⟨⟨h.1, h1⟩, h2⟩
theorem lenF_ok {c : Code} {Q : Exit → St → Prop} {F : Fm} {S : Sx} : ∀ {l : List Nat} {q : Prop}, lenF n l F q → (q → pw P g0 w0 c Q (St.ofL n F S)) → pw P g0 w0 c Q (St.ofL n F S)
  | [], _, h, k => k h
  | i :: l, q, h, k => by
    unfold lenF at h
    cases hi : Nat.blt i n with
    | false => rw [hi] at h; exact h.elim
    | true =>
      rw [hi] at h; simp only [cond_true] at h
      split at h
      · rename_i sz es he
        exact pw_len (i := i) (show i < n by simpa using hi) he (fun hl => lenF_ok (h hl) k)
      · exact h.elim
theorem allQ_of : ∀ {l : List Prop}, AllP l → AllQ l
  | [], _ => trivial
  | _ :: _, h => ⟨h.1, allQ_of h.2⟩
theorem frzB_len {b sz : Nat} {es : List (List D)} {conv : List Nat} : ∀ (l : List (Option (List PV))) (k : Nat), (frzB b sz es conv k l).2.length = l.length
  | [], k => rfl
  | none :: r, k => by simp [frzB, frzB_len r]
  | some cs :: r, k => by
    unfold frzB
    cases Nat.beq k b with
    | true => simp [frzB_len r]
    | false => cases conv.any (Nat.beq k) <;> simp [frzB_len r]
theorem frzB_get {b sz : Nat} {es : List (List D)} {conv : List Nat} : ∀ (l : List (Option (List PV))) (k : Nat), AllQ (frzB b sz es conv k l).1 → ∀ i,
    (k + i = b → i < l.length → (frzB b sz es conv k l).2[i]? = some none) ∧ (k + i ≠ b → (frzB b sz es conv k l).2[i]? = some none → l[i]? = some none) ∧
    (k + i ≠ b → ∀ cs', (frzB b sz es conv k l).2[i]? = some (some cs') → ∃ cs, l[i]? = some (some cs) ∧ (cs' = cs ∧ PV.nobL b cs = true ∨ cs' = (fzL b sz es cs).2 ∧ AllQ (fzL b sz es cs).1))
  | [], k, _, i => ⟨fun _ h => absurd h (Nat.not_lt_zero i), fun _ h => by simp [frzB] at h, fun _ cs' h => by simp [frzB] at h⟩
  | none :: r, k, ha, i => by
    unfold frzB at ha ⊢
    cases i with
    | zero => exact ⟨fun _ _ => rfl, fun _ _ => rfl, fun _ cs' h => by simp at h⟩
    | succ i =>
      have := frzB_get r (k + 1) ha i
      simp only [List.getElem?_cons_succ, List.length_cons, show k + (i + 1) = k + 1 + i by omega]
      exact ⟨fun h1 h2 => this.1 h1 (by omega), this.2⟩
  | some cs :: r, k, ha, i => by
    unfold frzB at ha ⊢
    cases hk : Nat.beq k b with
    | true =>
      rw [hk] at ha
      simp only [cond_true] at ha ⊢
      obtain rfl := Nat.eq_of_beq_eq_true hk
      cases i with
      | zero => exact ⟨fun _ _ => rfl, fun h => absurd rfl h, fun h => absurd rfl h⟩
      | succ i =>
        have := frzB_get r (k + 1) ha i
        simp only [List.getElem?_cons_succ, List.length_cons, show k + (i + 1) = k + 1 + i by omega]
        exact ⟨fun h1 h2 => this.1 h1 (by omega), this.2⟩
    | false =>
      rw [hk] at ha
      simp only [cond_false] at ha ⊢
      have hne : k ≠ b := by rintro rfl; rw [Nat.beq_refl] at hk; cases hk
      cases hc : conv.any (Nat.beq k) with
      | true =>
        rw [hc] at ha
        simp only [cond_true] at ha ⊢
        obtain ⟨a1, a2⟩ := AllQ_app.1 ha
        cases i with
        | zero => exact ⟨fun h => absurd h (by simpa using hne), fun _ h => by simp at h, fun _ cs' h => ⟨cs, rfl, .inr ⟨by simpa using h.symm, a1⟩⟩⟩
        | succ i =>
          have := frzB_get r (k + 1) a2 i
          simp only [List.getElem?_cons_succ, List.length_cons, show k + (i + 1) = k + 1 + i by omega]
          exact ⟨fun h1 h2 => this.1 h1 (by omega), this.2⟩
      | false =>
        rw [hc] at ha
        simp only [cond_false] at ha ⊢
        cases i with
        | zero => exact ⟨fun h => absurd h (by simpa using hne), fun _ h => by simp at h, fun _ cs' h => ⟨cs, rfl, .inl ⟨by simpa using h.symm, ha.1⟩⟩⟩
        | succ i =>
          have := frzB_get r (k + 1) ha.2 i
          simp only [List.getElem?_cons_succ, List.length_cons, show k + (i + 1) = k + 1 + i by omega]
          exact ⟨fun h1 h2 => this.1 h1 (by omega), this.2⟩
theorem frzF_ok {g g' : Gh} {b sz : Nat} {es : List (List D)} {F : Fm} {a : Act} (hn : ∀ p v, PV.nob b p = true → V g p v → V g' p v) (hr : ∀ v, V g (.ms b 0 sz es.length) v → V g' (.d (.sl sz false es)) v) (hr2 : ∀ v, V g (.vec b sz es.length) v → V g' (.d (.sl sz false es)) v)
    (i : Nat) (hv : V g (look i F) (a.tmps.getD i undef)) : ∀ (l : List Nat), AllQ (frzF b sz es F l).1 → V g' (look i (frzF b sz es F l).2) (a.tmps.getD i undef)
  | [], _ => .junk _
  | j :: l, h => by
    unfold frzF at h ⊢
    obtain ⟨h1, h2⟩ := AllQ_app.1 h
    unfold look
    split
    · rename_i e; subst e; exact fzP_ok hn hr hr2 hv h1
    · exact frzF_ok hn hr hr2 i hv l h2
theorem Wk.freeze2 {b sz : Nat} {es : List (List D)} {F : Fm} {S : Sx} {keep conv : List Nat} (hb : Gl g0 b) (h1 : toDB (S.bs[b]?) = some es.flatten) (hz : ∀ e ∈ es, e.length = sz) (h2 : AllQ (frzF b sz es F keep).1) (h3 : AllQ (frzB b sz es conv 0 S.bs).1) :
    Wk g0 w0 (St.ofL n F S) (St.ofL n (frzF b sz es F keep).2 ⟨(frzB b sz es conv 0 S.bs).2, S.ts⟩) := by
  rintro a w ⟨g, k1, k2, k3, k4, k5⟩
  obtain ⟨cs0, hcs, hds⟩ : ∃ cs0, S.bs[b]? = some (some cs0) ∧ toDs cs0 = some es.flatten := by
    unfold toDB at h1
    split at h1
    · rename_i cs hc; exact ⟨cs, hc, h1⟩
    · cases h1
  have hlt := (List.getElem?_eq_some_iff.1 hcs).1
  have hg := frzB_get S.bs 0 h3
  obtain ⟨g', q1, q2, q3, q4, q5⟩ := Inv.freeze2 (S := S) k1 hcs hds rfl hz (frzB_len S.bs 0) ((hg b).1 (by omega) hlt) (fun i hi h => (hg i).2.1 (by omega) h) (fun i cs' hi h => (hg i).2.2 (by omega) cs' h)
  exact ⟨g', q1, q2 _ _ hb k2, k3, k4, fun i hi => frzF_ok q3 q4 q5 i (k5 i hi) keep h2⟩
theorem conj_ok0 : ∀ {l : List Prop} {q : Prop}, conj l q → AllP l ∧ q
  | [], _, h => ⟨trivial, h⟩
  | _ :: _, _, h => let ⟨h1, h2⟩ := conj_ok0 h.2; ⟨⟨h.1, h1⟩, h2⟩
theorem preN_ok {c : Code} {Q : Exit → St → Prop} (hb : Gl g0 nb) : ∀ {h : H} {F : Fm} {S : Sx} {k : H → Fm → Sx → Prop}, preN n nb h F S k → (∀ h F S, k h F S → pw P g0 w0 c Q (St.ofL n F S)) → pw P g0 w0 c Q (St.ofL n F S) := by
  intro h
  induction h with
  | len l r ih => intro F S k hv hk; exact lenF_ok hv (fun hv => ih hv hk)
  | retag d r ih =>
    intro F S k hv hk
    unfold preN at hv
    split at hv
    · rename_i sz es hd
      cases hn : Nat.blt d n with
      | false => rw [hn] at hv; exact hv.elim
      | true =>
        rw [hn] at hv; simp only [cond_true] at hv
        refine pw_wk (Wk.retag (d := d) (sz := sz) (es := es) hd (show d < n by simpa using hn)) ?_
        have := ih hv hk
        have e := ofL_put (n := n) (F := F) (S := S) (S' := ⟨S.bs, S.ts ++ [es.length]⟩) (some d) (.app S.ts.length sz es)
        simp only [putF] at e
        rw [← e] at this
        exact this
    · exact hv.elim
  | reserve m r ih =>
    intro F S k hv hk
    exact pw_wk (Wk.reserve m) (ih (F := F) (S := ⟨S.bs ++ List.replicate m none, S.ts⟩) hv hk)
  | freeze b sz es keep conv r ih =>
    intro F S k hv hk
    unfold preN at hv
    cases hle : Nat.ble nb b with
    | false => rw [hle] at hv; exact hv.elim
    | true =>
      rw [hle] at hv; simp only [cond_true] at hv
      obtain ⟨h1, h2, h4⟩ := hv
      obtain ⟨h5, h6⟩ := conj_ok h4
      obtain ⟨h7, h8⟩ := conj_ok h6
      have := Nat.le_of_ble_eq_true hle
      exact pw_wk (Wk.freeze2 (hb.mono (by omega)) h1 h2 (allQ_of h5) (allQ_of h7)) (ih h8 hk)
  | retagc b off r ih =>
    intro F S k hv hk
    unfold preN at hv
    split at hv
    · rename_i cs hb
      split at hv
      · rename_i sz es hc
        exact pw_wk (Wk.retagc (st := St.ofL n F S) (boxAt_of hb) hc) (ih (F := F) (S := ⟨S.bs.set b (some (cs.set off (.app S.ts.length sz es))), S.ts ++ [es.length]⟩) hv hk)
      · exact hv.elim
    · exact hv.elim
  | vec d r ih =>
    intro F S k hv hk
    unfold preN at hv
    split at hv
    · rename_i sz hd
      cases hn : (Nat.blt d n && Nat.blt 0 sz) with
      | false => rw [hn] at hv; exact hv.elim
      | true =>
        rw [hn] at hv; simp only [cond_true] at hv
        simp only [Bool.and_eq_true] at hn
        refine pw_wk (Wk.vec (st := St.ofL n F S) (d := d) (sz := sz) hd (show d < n by simpa using hn.1) (by simpa using hn.2)) ?_
        have := ih hv hk
        have e := ofL_put (n := n) (F := F) (S := S) (S' := ⟨S.bs ++ [some []], S.ts⟩) (some d) (.vec S.bs.length sz 0)
        simp only [putF] at e
        rw [← e] at this
        exact this
    · exact hv.elim
  | vecc b off r ih =>
    intro F S k hv hk
    unfold preN at hv
    split at hv
    · rename_i cs hb
      split at hv
      · rename_i sz hc
        cases hn : Nat.blt 0 sz with
        | false => rw [hn] at hv; exact hv.elim
        | true =>
          rw [hn] at hv; simp only [cond_true] at hv
          exact pw_wk (Wk.vecc (st := St.ofL n F S) (boxAt_of hb) hc (by simpa using hn)) (ih (F := F) (S := ⟨S.bs.set b (some (cs.set off (.vec S.bs.length sz 0))) ++ [some []], S.ts⟩) hv hk)
      · exact hv.elim
    · exact hv.elim
  | retagr b ez m r ih =>
    intro F S k hv hk
    unfold preN at hv
    exact pw_wk (Wk.retagr (st := St.ofL n F S) hv.1) (ih (F := F) (S := ⟨S.bs.set b (some (tagRow S.ts.length ez m)), S.ts ++ List.replicate m 0⟩) hv.2 hk)
  | newfam r ih =>
    intro F S k hv hk
    have hv : preN n nb r F ⟨S.bs ++ [some [PV.fh]], S.ts⟩ k := hv
    exact pw_wk Wk.newfam (ih (F := F) (S := ⟨S.bs ++ [some [PV.fh]], S.ts⟩) hv hk)
  | vecf d i N cs c' r ih =>
    intro F S k hv hk
    unfold preN at hv
    split at hv
    · rename_i sz hd
      cases hn : (Nat.blt d n && Nat.blt 0 sz) with
      | false => rw [hn] at hv; exact hv.elim
      | true =>
        rw [hn] at hv; simp only [cond_true] at hv
        simp only [Bool.and_eq_true] at hn
        obtain ⟨⟨⟨h1, h2⟩, h3, rfl⟩, hv⟩ := hv
        refine pw_wk (Wk.vecf (st := St.ofL n F S) (d := d) (sz := sz) hd (show d < n by simpa using hn.1) (by simpa using hn.2) h1 h2 h3) ?_
        have := ih hv hk
        have e := ofL_put (n := n) (F := F) (S := S) (S' := ⟨S.bs.set i (some (cs ++ [.agg []])), S.ts⟩) (some d) (.fv i N sz 0)
        simp only [putF] at e
        rw [← e] at this
        exact this
    · exact hv.elim
  | split φ a b iha ihb =>
    intro F S k hv hk
    by_cases h : φ
    · exact iha (hv.1 h) hk
    · exact ihb (hv.2 h) hk
  | eqS S1 r ih =>
    intro F S k hv hk
    obtain ⟨rfl, hv⟩ := hv
    exact ih hv hk
  | wks d q r ih =>
    intro F S k hv hk
    unfold preN at hv
    cases hn : Nat.blt d n with
    | false => rw [hn] at hv; exact hv.elim
    | true =>
      rw [hn] at hv; simp only [cond_true] at hv
      obtain ⟨h1, hv⟩ := hv
      have this := ih hv hk
      have e := ofL_put (n := n) (F := F) (S := S) (S' := S) (some d) q
      simp only [putF] at e
      rw [← e] at this
      refine pw_wk (st' := ((St.ofL n F S).put (some d) q).to S) (Weak0.wk ⟨rfl, rfl, fun i hi => ?_⟩) this
      show PVle (look i F) (((St.ofL n F S).put (some d) q).t i)
      by_cases hi2 : i = d
      · subst hi2
        simp only [St.put, if_true]; exact h1
      · have : ((St.ofL n F S).put (some d) q).t i = look i F := by simp [St.put, hi2, St.ofL]
        rw [this]; exact .rfl'
  | letv α ok b ih =>
    intro F S k hv hk
    obtain ⟨⟨a, ha⟩, hv⟩ := hv
    exact ih a (hv a ha) hk
  | dead => intro F S k hv hk; exact hv.elim
  | still d keep r ih =>
    intro F S k hv hk
    unfold preN at hv
    split at hv
    · rename_i b sz m hd
      split at hv
      · rename_i cs hcs
        cases hc : (Nat.blt d n && Nat.ble nb b && keep.all (fun i => PV.nob b (look i F))) with
        | false => rw [hc] at hv; exact hv.elim
        | true =>
          rw [hc] at hv; simp only [cond_true] at hv
          simp only [Bool.and_eq_true] at hc
          obtain ⟨⟨c1, c2⟩, c4⟩ := hc
          obtain ⟨hm, v1, v2⟩ := hv
          obtain ⟨v3, v4⟩ := conj_ok0 v2
          have hle := Nat.le_of_ble_eq_true c2
          refine pw_wk (fun a w hr => ?_) (ih v4 hk)
          obtain ⟨g, k1, k2, k3, k4, k5⟩ := hr
          have hno := stB_get (allQ_of v3)
          refine ⟨g.still b, k1.still hno, k2.still (hb.mono hle), k3, k4, fun i hi => ?_⟩
          show V _ (look i ((d, PV.ms b 0 sz m) :: keep.map (fun i => (i, look i F)))) _
          unfold look
          split
          · rename_i e; subst e
            have := k5 i hi
            rw [show (St.ofL n F S).t i = look i F from rfl, hd] at this
            exact V.stilled k1 (boxAt_of hcs) v1 hm this
          · have h1 := k5 i hi
            rw [show (St.ofL n F S).t i = look i F from rfl] at h1
            have : ∀ l : List Nat, l.all (fun i => PV.nob b (look i F)) = true → V (g.still b) (look i (l.map (fun i => (i, look i F)))) (a.tmps.getD i undef) := by
              intro l
              induction l with
              | nil => intro _; exact .junk _
              | cons j l ih =>
                intro hl
                simp only [List.all_cons, Bool.and_eq_true] at hl
                rw [List.map_cons]
                unfold look
                split
                · rename_i e; subst e; exact h1.still b hl.1
                · exact ih hl.2
            exact this keep c4
      · exact hv.elim
    · exact hv.elim
  | trunc d c' r ih =>
    intro F S k hv hk
    unfold preN at hv
    split at hv
    · rename_i b off sz m hd
      split at hv
      · rename_i cs hcs
        cases hc : Nat.blt d n with
        | false => rw [hc] at hv; exact hv.elim
        | true =>
          rw [hc] at hv; simp only [cond_true] at hv
          obtain ⟨hm, hc', ⟨t, rfl⟩, hv⟩ := hv
          refine pw_wk (fun a w hr => ?_) (ih hv hk)
          obtain ⟨g, k1, k2, k3, k4, k5⟩ := hr
          have hv1 := k5 d (show d < n by simpa using hc)
          rw [show (St.ofL n F S).t d = look d F from rfl, hd] at hv1
          have hb0 := boxAt_of hcs
          obtain ⟨blk, e1, e2⟩ : ∃ blk, g.bx[b]? = some (some blk) ∧ g.gx b = none := by
            generalize a.tmps.getD d undef = u at hv1
            cases hv1 with
            | ms _ _ _ _ cap a' hh _ _ _ => obtain ⟨blk, _, q1, q2⟩ := hh hm; exact ⟨blk, q1, q2⟩
          exact ⟨g, k1.trunc hb0 hc' e2 (k1.notFam hb0 e1), k2, k3, k4, k5⟩
      · exact hv.elim
    · exact hv.elim
  | _ => intro F S k hv hk; exact hk _ _ _ hv
theorem preH_ok {c : Code} {Q : Exit → St → Prop} (hb : Gl g0 nb) {h : H} {F : Fm} {S : Sx} {k : H → Fm → Sx → Prop} (hv : preH n nb h F S k) (hk : ∀ h F S, k h F S → pw P g0 w0 c Q (St.ofL n F S)) : pw P g0 w0 c Q (St.ofL n F S) := by
  unfold preH at hv
  split at hv
  · exact preN_ok hb hv hk
  · exact hk _ _ _ hv
  · exact hk _ _ _ hv
theorem LeF_wl : ∀ {F F1 : Fm} {S : Sx}, LeF F F1 → WL (St.ofL n F S) F1
  | _, [], _, _ => .nil
  | _, (_, _) :: _, _, h => .cons h.1 (LeF_wl h.2)
theorem all_upto {F : Fm} {nb nt : Nat} (h : F.all (fun x => PV.ok nb nt x.2) = true) : ∀ n, okUpto (fun i => look i F) nb nt n = true
  | 0 => rfl
  | n + 1 => by
    simp only [okUpto, all_upto h n, Bool.true_and]
    induction F with
    | nil => rfl
    | cons a F ih =>
      obtain ⟨j, p⟩ := a
      simp only [List.all_cons, Bool.and_eq_true] at h
      unfold look
      split
      · exact h.1
      · exact ih h.2
theorem leAt_ok {F : Fm} {S : Sx} {I : Fm × Sx} (hb : Gn g0 nb) (ht : g0.tg.length = nt) (h : leAt nb nt F S I) : Wk g0 w0 (St.ofL n F S) (St.ofL n I.1 I.2) := by
  obtain ⟨F1, S1⟩ := I
  unfold leAt at h
  split at h
  · rename_i hS
    simp only at hS
    subst hS
    cases hc : (Nat.beq nb 0 && Nat.beq nt 0 && F1.all (fun x => PV.ok 0 0 x.2)) with
    | false => rw [hc] at h; exact h.elim
    | true =>
      rw [hc] at h; simp only [cond_true] at h
      simp only [Bool.and_eq_true] at hc
      have e1 := Nat.eq_of_beq_eq_true hc.1.1
      have e2 := Nat.eq_of_beq_eq_true hc.1.2
      exact Wk.ofL_cut (nb := 0) (nt := 0) (hb.gl (by omega)) (by omega) rfl (by simp [Sx.cut]) (LeF_wl h) (all_upto hc.2 n) (by simp [okB])
  · obtain ⟨hc, h⟩ := h
    simp only [Bool.and_eq_true] at hc
    have e1 := Nat.le_of_ble_eq_true hc.1
    have e2 := Nat.le_of_ble_eq_true hc.2
    obtain ⟨h1, h2, h3, h4⟩ := h
    refine Wk.ofL_cut (nb := S1.bs.length) (nt := S1.ts.length) (hb.gl (by omega)) (by omega) rfl h1 (LeF_wl h4) (all_upto h2 n) ?_
    have : S.bs.take S1.bs.length = S1.bs := congrArg Sx.bs h1
    show okB _ _ (S.bs.take S1.bs.length) = true
    rw [this]; exact h3

def Post (g0 : Gh) (w0 : World) (n : Nat) (K : H → Exit → Fm → Sx → Prop) (e : Exit) (st : St) : Prop := ∃ h F S, Wk g0 w0 st (St.ofL n F S) ∧ K h e F S
theorem Post.mono {K K' : H → Exit → Fm → Sx → Prop} {e : Exit} {st : St} (hk : ∀ h F S, K h e F S → K' h e F S) (h : Post g0 w0 n K e st) : Post g0 w0 n K' e st :=
  let ⟨h, F, S, h1, h2⟩ := h; ⟨h, F, S, h1, hk h F S h2⟩
theorem Post.of {K : H → Exit → Fm → Sx → Prop} {h : H} {e : Exit} {F : Fm} {S : Sx} (hk : K h e F S) : Post g0 w0 n K e (St.ofL n F S) := ⟨h, F, S, .refl _, hk⟩

theorem peelC_ok {c : Code} {V : H → Fm → Sx → (H → Exit → Fm → Sx → Prop) → Prop} (hV : ∀ h F S K, V h F S K → pw P g0 w0 c (Post g0 w0 n K) (St.ofL n F S)) (N : Nat) (h : H) (F : Fm) (S : Sx) (K : H → Exit → Fm → Sx → Prop) (hp : peelC V N h F S K) : pw P g0 w0 (.loop c) (Post g0 w0 n K) (St.ofL n F S) := by
  intro a w hr
  refine wp_loop_ghost (fun m a w => ∃ h F S, peelC V m h F S K ∧ R g0 w0 (St.ofL n F S) a w) N ⟨h, F, S, hp, hr⟩ ?_
  rintro m a w ⟨h, F, S, hp, hr⟩
  cases m with
  | zero => exact hp.elim
  | succ m =>
    refine wp_mono (hV _ _ _ _ hp a w hr) (fun e a' w' hl => ?_)
    obtain ⟨st', h1, h', F', S', hw, hk⟩ := hl
    cases e with
    | normal => exact ⟨m, Nat.lt_succ_self m, h', F', S', hk, hw _ _ h1⟩
    | _ => exact ⟨st', h1, h', F', S', hw, hk⟩
theorem vcC_ok (hE : EnvOk P E) (hb : Gn g0 nb) (ht : g0.tg.length = nt) : ∀ (c : Code) (h : H) (F : Fm) (S : Sx) (K : H → Exit → Fm → Sx → Prop), vcC P E n nb nt c h F S K → pw P g0 w0 c (Post g0 w0 n K) (St.ofL n F S) := by
  intro c
  induction c with
  | skip => intro h F S K hv; exact pw_skip (.of hv)
  | exit id => intro h F S K hv; exact pw_exit (.of hv)
  | ret => intro h F S K hv; exact pw_ret (.of hv)
  | region id ops draw =>
    intro h F S K hv
    unfold vcC at hv
    refine preH_ok (hb.gl (Nat.le_refl _)) hv (fun h1 F S hv => ?_)
    split at hv
    · rename_i φs h' F' S' ks hr
      have ho : ops = ops.toList.toArray := by simp
      cases draw with
      | true =>
        simp only [cond_true] at hv
        cases hc : (cmpOk ops ks && chk ops) with
        | false => rw [hc] at hv; exact hv.elim
        | true =>
          rw [hc] at hv; simp only [cond_true] at hv
          simp only [Bool.and_eq_true] at hc
          obtain ⟨h2, h3⟩ := conj_ok hv
          rw [ho] at hr hc ⊢
          exact regE_draw hE hr h2 hc.1 hc.2 (.of h3)
      | false =>
        simp only [cond_false] at hv
        obtain ⟨h2, h3⟩ := conj_ok hv
        rw [ho] at hr ⊢
        exact pw_region (regE_pwl hE _ _ _ _ _ _ _ _ _ hr h2 (.of h3))
    · exact hv.elim
  | seq x y ihx ihy =>
    intro h F S K hv
    unfold vcC at hv
    split at hv
    · rename_i α inv ok h1 h2
      obtain ⟨k1, k2⟩ := hv
      refine pw_seq (pw_mono (ihx _ _ _ _ k1) (fun e st hp => ?_))
      obtain ⟨h', F', S', w1, w2⟩ := hp
      cases e with
      | normal =>
        simp only at w2
        split at w2
        · obtain ⟨e1, e2⟩ := w2
          obtain ⟨h3, h4⟩ := e2 e1
          exact pw_wk (w1.trans (leAt_ok hb ht h4)) (ihy _ _ _ _ (k2 _ h3))
        · exact w2.elim
      | _ => exact ⟨h', F', S', w1, w2⟩
    · refine pw_seq (pw_mono (ihx _ _ _ _ hv) (fun e st hp => ?_))
      obtain ⟨h', F', S', w1, w2⟩ := hp
      cases e with
      | normal => exact pw_wk w1 (ihy _ _ _ _ w2)
      | _ => exact ⟨h', F', S', w1, w2⟩
  | cond c x y ihx ihy =>
    intro h F S K hv
    unfold vcC at hv
    split at hv
    · rename_i b hc
      split at hv
      · exact pw_cond hc (fun _ => ihx _ _ _ _ hv.2) (fun hf => by rw [hv.1] at hf; cases hf)
      · exact pw_cond hc (fun hf => by rw [hv.1] at hf; cases hf) (fun _ => ihy _ _ _ _ hv.2)
      · exact pw_cond hc (fun h => ihx _ _ _ _ (hv.1 h)) (fun h => ihy _ _ _ _ (hv.2 h))
      · exact hv.elim
    · exact hv.elim
  | block id c ih =>
    intro h F S K hv
    unfold vcC at hv
    refine pw_block (pw_mono (ih _ _ _ _ hv) (fun e st hp => ?_))
    obtain ⟨h', F', S', w1, w2⟩ := hp
    cases e with
    | exit id' =>
      simp only [inBlock] at w2 ⊢
      by_cases hid : id' = id
      · rw [if_pos hid]
        rw [show Nat.beq id' id = true by rw [hid]; exact Nat.beq_refl id] at w2
        exact ⟨h', F', S', w1, w2⟩
      · rw [if_neg hid]
        have : Nat.beq id' id = false := by
          cases hx : Nat.beq id' id with
          | false => rfl
          | true => exact absurd (Nat.eq_of_beq_eq_true hx) hid
        rw [this] at w2
        exact ⟨h', F', S', w1, w2⟩
    | _ => exact ⟨h', F', S', w1, w2⟩
  | loop c ih =>
    intro h F S K hv
    unfold vcC at hv
    split at hv
    · rename_i α inv ok μ x0 hbd
      obtain ⟨h0, h1, h2⟩ := hv
      refine pw_loop' (fun x => St.ofL n (inv x).1 (inv x).2) ok μ x0 h0 (leAt_ok hb ht h1) (fun x hx => ?_)
      refine pw_mono (ih _ _ _ _ (h2 x hx)) (fun e st hp => ?_)
      obtain ⟨h', F', S', w1, w2⟩ := hp
      cases e with
      | normal =>
        simp only at w2
        split at w2
        · obtain ⟨e1, e2⟩ := w2
          obtain ⟨k1, k2, k3⟩ := e2 e1
          exact ⟨_, k1, k2, w1.trans (leAt_ok hb ht k3)⟩
        · exact w2.elim
      | _ => exact ⟨h', F', S', w1, w2⟩
    · exact peelC_ok ih _ _ _ _ _ hv
    · exact hv.elim
  | _ => intro h F S K hv; exact hv.elim

def resE (E : Env) (n : Nat) (F : Fm) (S : Sx) : List ResultVar → Option (List PV)
  | [] => some []
  | .tmp t :: r => bif Nat.blt t n then (match resE E n F S r with
    | some ps => some (look t F :: ps)
    | none => none) else none
  | .cell a T :: r => bif Nat.blt a n then (match look a F, tget E.tab T, resE E n F S r with
    | .ptr b off, some e, some ps => match boxAt S b with
      | some cs => bif aggT e.d then (bif Nat.ble (off + e.size) cs.length && Nat.blt 0 cs.length then some (.agg ((cs.drop off).take e.size) :: ps) else none) else (match cs[off]? with
        | some p => some (p :: ps)
        | none => none)
      | none => none
    | _, _, _ => none) else none
def finS (nb nt : Nat) (S1 S' : Sx) (rs : List PV) : Prop :=
  match S' with
  | ⟨[], []⟩ => bif Nat.beq nb 0 && Nat.beq nt 0 && PV.okL 0 0 rs then True else False
  | S' => (Nat.ble nb S'.bs.length && Nat.ble nt S'.ts.length) = true ∧ S1.cut S'.bs.length S'.ts.length = S' ∧ okB S'.bs.length S'.ts.length S'.bs = true ∧ PV.okL S'.bs.length S'.ts.length rs = true
def topK0 (E : Env) (n nb nt : Nat) (rvs : List ResultVar) (S' : Sx) (rs : List PV) : Exit → Fm → Sx → Prop := fun e F S1 =>
  match e with
  | .normal | .ret => match resE E n F S1 rvs with
    | some ps => ALe (ps.map PV.canon) rs ∧ finS nb nt S1 S' rs
    | none => False
  | _ => False
def topK (E : Env) (n nb nt : Nat) (rvs : List ResultVar) (S' : Sx) (rs : List PV) : H → Exit → Fm → Sx → Prop := fun h e F S1 =>
  match h with
  | .dead => False
  | _ => topK0 E n nb nt rvs S' rs e F S1
theorem topK_0 {E : Env} {n nb nt : Nat} {rvs : List ResultVar} {S' : Sx} {rs : List PV} {h : H} {e : Exit} {F : Fm} {S1 : Sx} (k : topK E n nb nt rvs S' rs h e F S1) : topK0 E n nb nt rvs S' rs e F S1 := by
  cases h <;> first | exact k | exact False.elim k
def retP : List PV → PV
  | [p] => p
  | ps => .tup ps
def argsF : Nat → List PV → Fm
  | _, [] => []
  | i, p :: ps => (i, p) :: argsF (i + 1) ps

theorem resE_ok (hE : EnvOk P E) {F : Fm} {S : Sx} : ∀ {rvs : List ResultVar} {ps rs : List PV}, resE E n F S rvs = some ps → ALe (ps.map PV.canon) rs → ResL P (St.ofL n F S) rvs rs
  | [], ps, rs, h, ha => by
    cases h
    cases rs with
    | nil => exact .nil
    | cons r rs => exact ha.elim
  | .tmp t :: rvs, ps, rs, h, ha => by
    unfold resE at h
    cases ht : Nat.blt t n with
    | false => rw [ht] at h; cases h
    | true =>
      rw [ht] at h; simp only [cond_true] at h
      split at h
      · rename_i ps' hps
        cases h
        cases rs with
        | nil => exact ha.elim
        | cons r rs => exact .cons _ _ _ _ (.tmp (show t < n by simpa using ht) ((PVle.canon _).trans ha.1)) (resE_ok hE hps ha.2)
      · cases h
  | .cell a T :: rvs, ps, rs, h, ha => by
    unfold resE at h
    cases ht : Nat.blt a n with
    | false => rw [ht] at h; cases h
    | true =>
      rw [ht] at h; simp only [cond_true] at h
      have hlt : a < n := by simpa using ht
      split at h
      · rename_i b off e ps' h1 h2 h3
        have hk := hE.tab _ _ h2
        split at h
        · rename_i cs hb
          cases hag : aggT e.d with
          | true =>
            rw [hag] at h; simp only [cond_true] at h
            cases hl : (Nat.ble (off + e.size) cs.length && Nat.blt 0 cs.length) with
            | false => rw [hl] at h; cases h
            | true =>
              rw [hl] at h; simp only [cond_true, Option.some.injEq] at h; subst h
              simp only [Bool.and_eq_true] at hl
              cases rs with
              | nil => exact ha.elim
              | cons r rs => exact .cons _ _ _ _ (.cell_agg hlt h1 hk.u hag hk.ti.size (boxAt_of hb) (Nat.le_of_ble_eq_true hl.1) (by rintro rfl; simp at hl) ((PVle.canon _).trans ha.1)) (resE_ok hE h3 ha.2)
          | false =>
            rw [hag] at h; simp only [cond_false] at h
            split at h
            · rename_i p hp
              simp only [Option.some.injEq] at h; subst h
              cases rs with
              | nil => exact ha.elim
              | cons r rs => exact .cons _ _ _ _ (.cell hlt h1 hk.u hag (boxAt_of hb) hp ((PVle.canon _).trans ha.1)) (resE_ok hE h3 ha.2)
            · cases h
        · cases h
      · cases h

theorem argsF_le : ∀ (as : List PV) (k i : Nat), PVle (if k ≤ i then as.getD (i - k) .un else .junk) (look i (argsF k as))
  | [], k, i => .junk
  | p :: ps, k, i => by
    unfold argsF look
    by_cases h : i = k
    · subst h; simp only [if_true, Nat.le_refl, Nat.sub_self, List.getD_cons_zero]; exact .rfl'
    · rw [if_neg h]
      have ih := argsF_le ps (k + 1) i
      by_cases hk : k ≤ i
      · rw [if_pos hk]
        rw [if_pos (by omega)] at ih
        rw [show i - k = (i - (k + 1)) + 1 by omega, List.getD_cons_succ]
        exact ih
      · rw [if_neg hk]
        rw [if_neg (by omega)] at ih
        exact ih

theorem pc_intro' {f : FuncId} {fn : Func} {c : Code} {as : List PV} {S S' : Sx} {r : PV} {nb' nt' : Nat} (hf : P.funcs[f]? = some fn) (hb : fn.body = some c) (hn : as.length ≤ fn.ntmps) (hnb : S.bs.length ≤ nb') (hnt : S.ts.length ≤ nt')
    (h : ∀ g0 w0, Gn g0 S.bs.length → g0.tg.length = S.ts.length → pw P g0 w0 c (fun e st => (e = .normal ∨ e = .ret) ∧ ∃ st', Wk g0 w0 st st' ∧ Fin P fn nb' nt' S' r st') ⟨fun i => as.getD i .un, fn.ntmps, S⟩) : PC P f as S S' r := by
  intro g w vs hI hl hv
  refine calls_of_wp hf hb ?_
  have hsz : (vs.toArray ++ Array.replicate (fn.ntmps - vs.toArray.size) undef).size = fn.ntmps := by simp; omega
  have hr : R g w ⟨fun i => as.getD i .un, fn.ntmps, S⟩ { tmps := vs.toArray ++ Array.replicate (fn.ntmps - vs.toArray.size) undef, defers := [] } w := by
    refine ⟨g, hI, .refl g w, rfl, hsz, fun i hi => ?_⟩
    show V g (as.getD i .un) ((vs.toArray ++ Array.replicate (fn.ntmps - vs.toArray.size) undef).getD i undef)
    rw [Array.getD_eq_getD_getElem?]
    by_cases hia : i < as.length
    · rw [Array.getElem?_append_left (by simp; omega)]
      have h1 : as[i]? = some as[i] := List.getElem?_eq_getElem hia
      have h2 : vs[i]? = some (vs[i]'(by omega)) := List.getElem?_eq_getElem (by omega)
      have := hv i _ _ h1 h2
      simpa [List.getD, h1, h2] using this
    · rw [Array.getElem?_append_right (by simp; omega)]
      have h1 : as[i]? = none := List.getElem?_eq_none (by omega)
      have h2 : (Array.replicate (fn.ntmps - vs.toArray.size) undef)[i - vs.toArray.size]?.getD undef = undef := by
        cases hx : (Array.replicate (fn.ntmps - vs.toArray.size) undef)[i - vs.toArray.size]? with
        | none => rfl
        | some x =>
          obtain ⟨hlt, hx'⟩ := Array.getElem?_eq_some_iff.1 hx
          rw [← hx']; simp
      rw [h2]
      simp only [List.getD, h1, Option.getD_none]
      exact .un
  refine wp_mono (h g w hI.gn hI.htg _ w hr) ?_
  rintro e a w' ⟨st0, hR0, he, st, hW, hfin⟩
  obtain ⟨g1, k1, k2, k3, k4, k5⟩ := hW _ _ hR0
  obtain ⟨ps, hps, hr'⟩ := hfin.res
  obtain ⟨us, u1, u2, u3⟩ := hps.run k1 k4 k5
  have hrun := results_run (P := P) (fn := fn) u1
  have hval : V g1 r (if h : us.toArray.size = 1 then us.toArray[0] else .tuple us.toArray) := by
    rw [hr']
    match ps, us, u2, u3 with
    | [p], [u], _, u3 => exact u3 0 p u rfl rfl
    | [], [], _, _ => exact .tup [] #[] rfl (by simp)
    | p :: q :: ps, u :: v :: us, u2, u3 =>
      rw [dif_neg (by simp)]
      exact .tup _ _ (by simpa using u2) (fun i c x e1 e2 => u3 i c x e1 (by simpa using e2))
  have hbody : bodyPost P fn (fun e w' => ∃ v g', e = .returned v ∧ V g' r v ∧ Inv g' S' w' ∧ Ext g w g' w') .ret a w' :=
    ⟨k3, _, hrun, _, g1.cut nb' nt', rfl, hval.cut _ _ hfin.okr, by rw [← hfin.S]; exact k1.cut _ _ hfin.okb, k2.cut _ _ (hI.gl hnb) (by rw [hI.htg]; exact hnt)⟩
  rcases he with rfl | rfl
  · exact hbody
  · exact hbody

/-- **A function, reckoned.** -/
theorem pc_vc (hE : EnvOk P E) {f : FuncId} {fn : Func} {c : Code} {as : List PV} {S S' : Sx} {rs : List PV} (hf : P.funcs[f]? = some fn) (hb : fn.body = some c) (hn : Nat.ble as.length fn.ntmps = true) (h : H)
    (hv : vcC P E fn.ntmps S.bs.length S.ts.length c h (argsF 0 as) S (topK E fn.ntmps S.bs.length S.ts.length fn.results.toList S' rs)) : PC P f as S S' (retP rs) := by
  have fin : ∀ (g0 : Gh) (w0 : World) (e : Exit) (st : St), S.bs.length ≤ S'.bs.length ∨ S.bs.length = 0 → Post g0 w0 fn.ntmps (topK E fn.ntmps S.bs.length S.ts.length fn.results.toList S' rs) e st →
      (e = .normal ∨ e = .ret) ∧ S.bs.length ≤ S'.bs.length ∧ S.ts.length ≤ S'.ts.length ∧ ∃ st', Wk g0 w0 st st' ∧ Fin P fn S'.bs.length S'.ts.length S' (retP rs) st' := by
    intro g0 w0 e st _ hp
    obtain ⟨h', F, S1, hw, hk⟩ := hp
    have hk := topK_0 hk
    unfold topK0 at hk
    have main : (match resE E fn.ntmps F S1 fn.results.toList with
        | some ps => ALe (ps.map PV.canon) rs ∧ finS S.bs.length S.ts.length S1 S' rs
        | none => False) → S.bs.length ≤ S'.bs.length ∧ S.ts.length ≤ S'.ts.length ∧ ∃ st', Wk g0 w0 st st' ∧ Fin P fn S'.bs.length S'.ts.length S' (retP rs) st' := by
      intro hk
      split at hk
      · rename_i ps hps
        obtain ⟨h1, h2⟩ := hk
        have hres := resE_ok hE hps h1
        have hret : ∃ ps, ResL P (St.ofL fn.ntmps F S1) fn.results.toList ps ∧ retP rs = (match ps with | [p] => p | ps => .tup ps) := ⟨rs, hres, rfl⟩
        have hokr : ∀ nb nt, PV.okL nb nt rs = true → (retP rs).ok nb nt = true := by
          intro nb nt ho
          match rs, ho with
          | [p], ho => simp only [PV.okL, Bool.and_eq_true] at ho; exact ho.1
          | [], _ => simp [retP, PV.ok, PV.okL]
          | p :: q :: r, ho => simpa only [retP, PV.ok] using ho
        unfold finS at h2
        split at h2
        · cases hc : (Nat.beq S.bs.length 0 && Nat.beq S.ts.length 0 && PV.okL 0 0 rs) with
          | false => rw [hc] at h2; exact h2.elim
          | true =>
            simp only [Bool.and_eq_true] at hc
            have e1 := Nat.eq_of_beq_eq_true hc.1.1
            have e2 := Nat.eq_of_beq_eq_true hc.1.2
            refine ⟨by omega, by omega, _, hw, ⟨by simp [Sx.cut], by simp [okB], hokr _ _ hc.2, hret⟩⟩
        · obtain ⟨hc, k1, k2, k3⟩ := h2
          simp only [Bool.and_eq_true] at hc
          refine ⟨Nat.le_of_ble_eq_true hc.1, Nat.le_of_ble_eq_true hc.2, _, hw, ⟨k1, ?_, hokr _ _ k3, hret⟩⟩
          have : S1.bs.take S'.bs.length = S'.bs := congrArg Sx.bs k1
          show okB _ _ (S1.bs.take S'.bs.length) = true
          rw [this]; exact k2
      · exact hk.elim
    cases e with
    | normal => exact ⟨.inl rfl, main hk⟩
    | ret => exact ⟨.inr rfl, main hk⟩
    | _ => exact hk.elim
  by_cases hle : S.bs.length ≤ S'.bs.length ∧ S.ts.length ≤ S'.ts.length
  · refine pc_intro' (nb' := S'.bs.length) (nt' := S'.ts.length) hf hb (Nat.le_of_ble_eq_true hn) hle.1 hle.2 (fun g0 w0 hb0 ht0 => ?_)
    have hw : Wk g0 w0 ⟨fun i => as.getD i .un, fn.ntmps, S⟩ (St.ofL fn.ntmps (argsF 0 as) S) := Weak0.wk ⟨rfl, rfl, fun i hi => by
      have := argsF_le as 0 i
      show PVle (as.getD i .un) (look i (argsF 0 as))
      simpa using this⟩
    refine pw_wk hw (pw_mono (vcC_ok hE hb0 ht0 _ _ _ _ _ hv) (fun e st hp => ?_))
    obtain ⟨h1, _, _, h4⟩ := fin g0 w0 e st (.inl hle.1) hp
    exact ⟨h1, h4⟩
  · -- it does not come to an end: nothing is claimed of such states
    refine pc_intro' (nb' := S.bs.length) (nt' := S.ts.length) hf hb (Nat.le_of_ble_eq_true hn) (Nat.le_refl _) (Nat.le_refl _) (fun g0 w0 hb0 ht0 => ?_)
    have hw : Wk g0 w0 ⟨fun i => as.getD i .un, fn.ntmps, S⟩ (St.ofL fn.ntmps (argsF 0 as) S) := Weak0.wk ⟨rfl, rfl, fun i hi => by
      have := argsF_le as 0 i
      show PVle (as.getD i .un) (look i (argsF 0 as))
      simpa using this⟩
    refine pw_wk hw (pw_mono (vcC_ok hE hb0 ht0 _ _ _ _ _ hv) (fun e st hp => ?_))
    obtain ⟨h1, h2, h3, h4⟩ := fin g0 w0 e st (by
      obtain ⟨h', F, S1, _, hk⟩ := hp
      by_cases h0 : S.bs.length = 0
      · exact .inr h0
      · exact .inl (Nat.le_of_not_lt (fun hlt => by
          have hk := topK_0 hk
          unfold topK0 at hk
          have key : (match resE E fn.ntmps F S1 fn.results.toList with
              | some ps => ALe (ps.map PV.canon) rs ∧ finS S.bs.length S.ts.length S1 S' rs
              | none => False) → False := by
            intro hk
            split at hk
            · obtain ⟨_, h2⟩ := hk
              unfold finS at h2
              split at h2
              · cases hc : (Nat.beq S.bs.length 0 && Nat.beq S.ts.length 0 && PV.okL 0 0 rs) with
                | false => rw [hc] at h2; exact h2
                | true =>
                  simp only [Bool.and_eq_true] at hc
                  exact h0 (Nat.eq_of_beq_eq_true hc.1.1)
              · obtain ⟨hc, _⟩ := h2
                simp only [Bool.and_eq_true] at hc
                have := Nat.le_of_ble_eq_true hc.1
                omega
            · exact hk
          cases e with
          | normal => exact key hk
          | ret => exact key hk
          | _ => exact hk.elim))) hp
    exact absurd ⟨h2, h3⟩ hle
theorem pf_vc (hE : EnvOk P E) {f : FuncId} {fn : Func} {c : Code} {as : List D} {rs : List PV} (hf : P.funcs[f]? = some fn) (hb : fn.body = some c) (hn : Nat.ble (as.map PV.d).length fn.ntmps = true) (h : H)
    (hv : vcC P E fn.ntmps 0 0 c h (argsF 0 (as.map .d)) ⟨[], []⟩ (topK E fn.ntmps 0 0 fn.results.toList ⟨[], []⟩ rs)) : PF P f as (retP rs) := pc_vc hE hf hb hn h hv
theorem of_eq {p q : Prop} (h : p = q) (k : q) : p := h ▸ k
end
end Go.Pv
