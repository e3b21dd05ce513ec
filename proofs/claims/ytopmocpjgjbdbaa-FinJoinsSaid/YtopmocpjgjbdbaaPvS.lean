/- Own rows that grow: begun, appended to, read, written. -/
import Derived.Test.YtopmocpjgjbdbaaPvI
namespace Go.Pv
open Go.RowKit
section
variable {P : Program}

theorem run_append_zeroA (w : World) (T E ty : TypeId) (hT : P.underlying T = some (.slice E)) {sz : Nat} (hE : SizeIs P E sz) (A : Option Addr) (b : Option Addr) (n cap c : Nat) (h : n ≤ cap) :
    (Builtin.append_ #[T, T] ty #[.slice A n cap, .slice b 0 c]).run P w = .ok (.slice A n cap) w := by
  have hf : (Builtin.firstCells sz 0 (.slice b 0 c)).run P w = .ok #[] w := by
    cases b <;> simp [Builtin.firstCells, loadCells, loadCellsFrom]
  cases A <;> simp [Builtin.append_, run_underlying hT, hE.run, Builtin.lenOf, h, hf, storeCells]

/-- A new own row that holds nothing. -/
theorem Inv.newvec {g : Gh} {S : Sx} {w : World} (h : Inv g S w) (sz : Nat) (h0 : 0 < sz) :
    Inv { g with bx := g.bx ++ [none], gx := fun i => if i = S.bs.length then some ⟨0, 0, sz⟩ else g.gx i } ⟨S.bs ++ [some []], S.ts⟩ w ∧ Ext g w { g with bx := g.bx ++ [none], gx := fun i => if i = S.bs.length then some ⟨0, 0, sz⟩ else g.gx i } w := by
  have hbl : ∀ i, i < S.bs.length → (g.bx ++ [none])[i]? = g.bx[i]? := fun i hi => List.getElem?_append_left (by rw [h.hbx]; exact hi)
  have hbx : ∀ (i k : Nat), (g.bx ++ [none])[i]? = some (some k) → g.bx[i]? = some (some k) := by
    intro i k e
    by_cases hi : i < g.bx.length
    · rw [List.getElem?_append_left hi] at e; exact e
    · rw [List.getElem?_append_right (by omega)] at e
      have : i - g.bx.length < 1 := by have := (List.getElem?_eq_some_iff.1 e).1; simpa using this
      rw [show i - g.bx.length = 0 by omega] at e
      simp at e
  have hle : Le g { g with bx := g.bx ++ [none], gx := fun i => if i = S.bs.length then some ⟨0, 0, sz⟩ else g.gx i } := by
    refine ⟨fun _ _ _ e => e, fun i k e e2 => ?_, fun i G e => ⟨G, ?_, .inl ⟨rfl, hbl i (h.gr_lt e)⟩⟩, fun _ T e => ⟨T, e, .inl rfl⟩, fun _ _ F e => ⟨F, e, .inl rfl⟩⟩
    · have hi : i < S.bs.length := by rw [← h.hbx]; exact (List.getElem?_eq_some_iff.1 e).1
      exact ⟨(hbl i hi).trans e, by show (if i = S.bs.length then _ else g.gx i) = none; rw [if_neg (by omega)]; exact e2⟩
    · show (if i = S.bs.length then _ else g.gx i) = _
      rw [if_neg (by have := h.gr_lt e; omega)]; exact e
  have hin : ∀ (i : Nat) (o : Option (List PV)), (S.bs ++ [some []])[i]? = some o → S.bs[i]? = some o ∨ (i = S.bs.length ∧ o = some []) := by
    intro i o e
    by_cases hi : i < S.bs.length
    · rw [List.getElem?_append_left hi] at e; exact .inl e
    · rw [List.getElem?_append_right (by omega)] at e
      have : i - S.bs.length < 1 := by have := (List.getElem?_eq_some_iff.1 e).1; simpa using this
      have hi0 : i = S.bs.length := by omega
      subst hi0
      simp at e; exact .inr ⟨rfl, e.symm⟩
  refine ⟨⟨by simp [h.hbx], h.htg, h.mem, h.one, ?_, ?_, ?_, ?_, ?_, ?_, h.tag, ?_, h.tinj, ?_⟩, hle, rfl, rfl, rfl, Nat.le_refl _, fun _ _ _ => rfl, ?_, fun _ _ _ e => .inl e⟩
  · intro i cs e hne hf
    rcases hin i _ e with e | ⟨_, e⟩
    · obtain ⟨blk, cur, ty, k1, k2, k3, k4⟩ := h.box i cs e hne hf
      exact ⟨blk, cur, ty, (hbl i (List.getElem?_eq_some_iff.1 e).1).trans k1, k2, k3, fun j c x e1 e2 => ⟨(k4 j c x e1 e2).1.mono hle, (k4 j c x e1 e2).2⟩⟩
    · exact absurd (Option.some.inj e) hne
  · intro i e
    rcases hin i _ e with e | ⟨_, e⟩
    · exact (hbl i (List.getElem?_eq_some_iff.1 e).1).trans (h.nob i e)
    · cases e
  · exact fun i k e o => h.bmem i k (hbx i k e) o
  · exact fun i k e => h.blt i k (hbx i k e)
  · exact fun i j k e1 e2 => h.inj i j k (hbx i k e1) (hbx j k e2)
  · intro i G e
    by_cases hi : i = S.bs.length
    · subst hi
      have e : some (⟨0, 0, sz⟩ : Gr) = some G := by simpa using e
      obtain rfl := (Option.some.inj e).symm
      exact ⟨[], by simp, by simp, h0, Nat.le_refl _, by simp [maxLen], fun h => absurd h (Nat.lt_irrefl _)⟩
    · have e : g.gx i = some G := by
        have e' : (if i = S.bs.length then some (⟨0, 0, sz⟩ : Gr) else g.gx i) = some G := e
        rw [if_neg hi] at e'; exact e'
      obtain ⟨cs, k1, k2, k3, k4, k5, k6⟩ := h.gr i G e
      have hl := h.gr_lt e
      refine ⟨cs, (List.getElem?_append_left hl).trans k1, k2, k3, k4, k5, fun hc => ?_⟩
      obtain ⟨blk, cur, ty, j1, j2⟩ := k6 hc
      exact ⟨blk, cur, ty, (hbl i hl).trans j1, j2⟩
  · intro t T k e1 e2 e3
    obtain ⟨hlt, hno⟩ := h.tbx t T k e1 e2 e3
    exact ⟨hlt, fun i e => hno i (hbx i k e)⟩
  · refine h.fam.keep hle rfl (fun i cs hf => fam_push rfl hf) (fun i cs e hf => ?_) (Nat.le_refl _) (fun i j F b e1 e2 => ?_)
    · obtain ⟨q1, q2⟩ := h.fam.bx i cs e hf
      have hi := (List.getElem?_eq_some_iff.1 e).1
      exact ⟨(hbl i hi).trans q1, by show (if i = S.bs.length then _ else g.gx i) = none; rw [if_neg (by omega)]; exact q2⟩
    · obtain ⟨q1, q2, q3, q4⟩ := h.fam.out i j F b e1 e2
      exact ⟨rfl, q2, fun i' e' => q3 i' (hbx i' b e'), q4⟩
  · intro k hk
    rcases hk with ⟨i, e⟩ | hk
    · exact .inl (.inl ⟨i, hbx i k e⟩)
    · exact .inl (.inr hk)
theorem V.newvec {g : Gh} {S : Sx} {w : World} (h : Inv g S w) {sz : Nat} {v : Value} (hv : VD g.mem (.sl sz true []) v) :
    V { g with bx := g.bx ++ [none], gx := fun i => if i = S.bs.length then some ⟨0, 0, sz⟩ else g.gx i } (.vec S.bs.length sz 0) v := by
  obtain ⟨a, cap, vs, rfl, hz, hc, hf, hn, hx, hl, hm, hvv⟩ := hv.unslT
  obtain rfl := hf rfl
  exact .vec _ sz 0 0 (a.map adr) ⟨0, 0, sz⟩ (by simp) rfl (Nat.le_refl _) (fun _ => ⟨rfl, fun h => absurd h (Nat.lt_irrefl _)⟩) (Nat.le_refl _) (by simp [maxLen]) (fun _ => rfl)
/-- A slot's slice that holds nothing, and has no room, becomes an own row that grows. -/
theorem Wk.vec {g0 : Gh} {w0 : World} {st : St} {d sz : Nat} (hd : st.t d = .d (.sl sz true [])) (hn : d < st.n) (h0 : 0 < sz) :
    Wk g0 w0 st ((St.put st (some d) (.vec st.S.bs.length sz 0)).to ⟨st.S.bs ++ [some []], st.S.ts⟩) := by
  rintro a w ⟨g, k1, k2, k3, k4, k5⟩
  obtain ⟨h1, h2⟩ := k1.newvec sz h0
  have hv := k5 d hn
  rw [hd] at hv
  have hv2 := V.newvec k1 (by cases hv with | d _ _ h => exact h)
  refine ⟨_, h1, k2.trans h2, k3, k4, fun i hi => ?_⟩
  by_cases hi2 : i = d
  · subst hi2
    simp only [St.put, St.to, if_true]; exact hv2
  · have : ((St.put st (some d) (.vec st.S.bs.length sz 0)).to ⟨st.S.bs ++ [some []], st.S.ts⟩).t i = st.t i := by simp [St.put, St.to, hi2]
    rw [this]; exact (k5 i hi).mono h2.le

/-- A cell's slice that holds nothing, and has no room, becomes an own row that grows. -/
theorem Wk.vecc {g0 : Gh} {w0 : World} {st : St} {b off sz : Nat} {cs : List PV} (hb : st.S.bs[b]? = some (some cs)) (hc : cs[off]? = some (.d (.sl sz true []))) (h0 : 0 < sz) :
    Wk g0 w0 st (st.to ⟨st.S.bs.set b (some (cs.set off (.vec st.S.bs.length sz 0))) ++ [some []], st.S.ts⟩) := by
  rintro a w ⟨g, k1, k2, k3, k4, k5⟩
  have hne : cs ≠ [] := by rintro rfl; simp at hc
  have hnf : isFam cs = false := k1.notFam_get hb hc (by intro e; cases e) (by intro ds e; cases e)
  obtain ⟨h1, h2⟩ := k1.newvec sz h0
  have hlb := (List.getElem?_eq_some_iff.1 hb).1
  have hb' : (⟨st.S.bs ++ [some []], st.S.ts⟩ : Sx).bs[b]? = some (some cs) := (List.getElem?_append_left hlb).trans hb
  obtain ⟨blk, cur, ty, j1, j2, j3, j4⟩ := k1.box b cs hb hne hnf
  have hlt : off < cs.length := (List.getElem?_eq_some_iff.1 hc).1
  have hx : cur[off]? = some (cur[off]'(by omega)) := Array.getElem?_eq_getElem (by omega)
  have hv := (j4 off _ _ hc hx).1
  have hv2 := V.newvec k1 (by cases hv with | d _ _ h => exact h)
  have h3 := h1.recell (cs' := cs.set off (.vec st.S.bs.length sz 0)) hb' hne hnf (notFam_set hnf (by intro e; cases e)) (by simp) (fun blk2 cur2 ty2 q1 q2 j c' x q3 q4 => by
    have q1' : g.bx[b]? = some (some blk2) := by
      have e : (g.bx ++ [none])[b]? = some (some blk2) := q1
      rw [List.getElem?_append_left (by rw [k1.hbx]; exact hlb)] at e; exact e
    rw [j1] at q1'
    obtain rfl : blk = blk2 := by simpa using q1'
    rw [j2] at q2
    obtain rfl : cur = cur2 := by simpa using congrArg (fun x => match x with | some (Obj.cells c _ _) => c | _ => #[]) q2
    rw [List.getElem?_set] at q3
    by_cases hj : off = j
    · subst hj
      simp only [if_true, hlt] at q3
      obtain rfl : .vec st.S.bs.length sz 0 = c' := by simpa using q3
      rw [hx] at q4
      obtain rfl : cur[off]'(by omega) = x := by simpa using q4
      exact hv2
    · rw [if_neg hj] at q3
      exact ((j4 j c' x q3 q4).1).mono h2.le)
  refine ⟨_, ?_, k2.trans h2, k3, k4, fun i hi => (k5 i hi).mono h2.le⟩
  have e : (st.S.bs ++ [some []]).set b (some (cs.set off (.vec st.S.bs.length sz 0))) = st.S.bs.set b (some (cs.set off (.vec st.S.bs.length sz 0))) ++ [some []] := List.set_append_left _ _ hlb
  show Inv _ ⟨st.S.bs.set b _ ++ [some []], st.S.ts⟩ w
  rw [← e]; exact h3

/-- An own row that grows is another one. -/
theorem Inv.revec {g : Gh} {S : Sx} {w w' : World} (h : Inv g S w) {b blk' : Nat} {cs cs' : List PV} {G G' : Gr} {cur' : Array Value} {ty' : TypeId} (hb : S.bs[b]? = some (some cs)) (hG : g.gx b = some G)
    (hm : G.m < G'.m) (hsz : G'.sz = G.sz) (hcap : G'.m ≤ G'.cap) (hmax : G'.cap ≤ maxLen) (hcur : w'.heap[blk']? = some (.cells cur' ty' (0, 0))) (hsize : cur'.size = G'.cap * G'.sz) (hlen : cs'.length = G'.m * G'.sz)
    (hv : ∀ (j : Nat) (c : PV) (x : Value), cs'[j]? = some c → cur'[j]? = some x → V g c x ∧ x.oneCell' = true)
    (hfr : ∀ k, k < w.heap.size → k ≠ blk' → w'.heap[k]? = w.heap[k]?) (hle0 : w.heap.size ≤ w'.heap.size) (hos : w'.os = w.os) (htape : w'.tape = w.tape) (hout : w'.output = w.output)
    (hnew : g.bx[b]? = some (some blk') ∨ w.heap.size ≤ blk') :
    Inv { g with bx := g.bx.set b (some blk'), gx := fun i => if i = b then some G' else g.gx i } ⟨S.bs.set b (some cs'), S.ts⟩ w' ∧
      Ext g w { g with bx := g.bx.set b (some blk'), gx := fun i => if i = b then some G' else g.gx i } w' := by
  have hlb : b < S.bs.length := (List.getElem?_eq_some_iff.1 hb).1
  have hlg : b < g.bx.length := by rw [h.hbx]; exact hlb
  have hlt' : blk' < w'.heap.size := (Array.getElem?_eq_some_iff.1 hcur).1
  have hbxo : ∀ i, i ≠ b → (g.bx.set b (some blk'))[i]? = g.bx[i]? := fun i hi => List.getElem?_set_ne (by omega)
  have hbxb : (g.bx.set b (some blk'))[b]? = some (some blk') := by simp [hlg]
  have hmne : ∀ b0 o x, g.mem b0 o = some x → b0 ≠ blk' := by
    rintro b0 o x e rfl
    rcases hnew with hn | hn
    · rw [h.bmem b b0 hn o] at e; cases e
    · have := h.mem_lt e; omega
  have hbne : ∀ i k, i ≠ b → g.bx[i]? = some (some k) → k ≠ blk' := by
    rintro i k hi e rfl
    rcases hnew with hn | hn
    · exact hi (h.inj i b k e hn)
    · have := h.blt i k e; omega
  have hle : Le g { g with bx := g.bx.set b (some blk'), gx := fun i => if i = b then some G' else g.gx i } := by
    refine ⟨fun _ _ _ e => e, fun i k e e2 => ?_, fun i Gi e => ?_, fun _ T e => ⟨T, e, .inl rfl⟩, fun _ _ F e => ⟨F, e, .inl rfl⟩⟩
    · have hi : i ≠ b := by rintro rfl; rw [hG] at e2; cases e2
      exact ⟨(hbxo i hi).trans e, by show (if i = b then _ else g.gx i) = none; rw [if_neg hi]; exact e2⟩
    · by_cases hi : i = b
      · subst hi
        rw [hG] at e
        obtain rfl := Option.some.inj e
        exact ⟨G', by show (if i = i then some G' else _) = _; rw [if_pos rfl], .inr ⟨hm, hsz⟩⟩
      · exact ⟨Gi, by show (if i = b then _ else g.gx i) = _; rw [if_neg hi]; exact e, .inl ⟨rfl, hbxo i hi⟩⟩
  refine ⟨⟨by simp [h.hbx], h.htg, ?_, h.one, ?_, ?_, ?_, ?_, ?_, ?_, ?_, ?_, h.tinj, ?_⟩, hle, hos, htape, hout, hle0, ?_, ?_, fun _ _ _ e => .inl e⟩
  · intro b0 o x e
    rw [World.cell?_of_block (w := w) (hfr b0 (h.mem_lt e) (hmne b0 o x e))]
    exact h.mem b0 o x e
  · intro i ds e hne hf
    change (S.bs.set b (some cs'))[i]? = _ at e
    by_cases hi : i = b
    · subst hi
      rw [List.getElem?_set_self hlb] at e
      obtain rfl : cs' = ds := by simpa using e
      refine ⟨blk', cur', ty', hbxb, hcur, ?_, fun j c x e1 e2 => ⟨(hv j c x e1 e2).1.mono hle, (hv j c x e1 e2).2⟩⟩
      rw [hlen, hsize]; exact Nat.mul_le_mul_right _ hcap
    · rw [List.getElem?_set_ne (by omega)] at e
      obtain ⟨blk, cur, ty, k1, k2, k3, k4⟩ := h.box i ds e hne hf
      refine ⟨blk, cur, ty, (hbxo i hi).trans k1, ?_, k3, fun j c x e1 e2 => ⟨(k4 j c x e1 e2).1.mono hle, (k4 j c x e1 e2).2⟩⟩
      rw [hfr blk (h.blt i blk k1) (hbne i blk hi k1)]; exact k2
  · intro i e
    change (S.bs.set b (some cs'))[i]? = _ at e
    by_cases hi : i = b
    · subst hi; rw [List.getElem?_set_self hlb] at e; cases e
    · rw [List.getElem?_set_ne (by omega)] at e
      exact (hbxo i hi).trans (h.nob i e)
  · intro i k e o
    by_cases hi : i = b
    · subst hi
      have e : (g.bx.set i (some blk'))[i]? = some (some k) := e
      rw [hbxb] at e
      obtain rfl : blk' = k := by simpa using e
      cases hq : g.mem blk' o with
      | none => rfl
      | some x => exact absurd rfl (hmne blk' o x hq)
    · exact h.bmem i k ((hbxo i hi).symm.trans e) o
  · intro i k e
    by_cases hi : i = b
    · subst hi
      have e : (g.bx.set i (some blk'))[i]? = some (some k) := e
      rw [hbxb] at e
      obtain rfl : blk' = k := by simpa using e
      exact hlt'
    · exact Nat.lt_of_lt_of_le (h.blt i k ((hbxo i hi).symm.trans e)) hle0
  · intro i j k e1 e2
    have e1 : (g.bx.set b (some blk'))[i]? = some (some k) := e1
    have e2 : (g.bx.set b (some blk'))[j]? = some (some k) := e2
    by_cases hi : i = b
    · by_cases hj : j = b
      · omega
      · rw [hi, hbxb] at e1
        obtain rfl : blk' = k := by simpa using e1
        rw [hbxo j hj] at e2
        exact absurd rfl (hbne j blk' hj e2)
    · by_cases hj : j = b
      · rw [hj, hbxb] at e2
        obtain rfl : blk' = k := by simpa using e2
        rw [hbxo i hi] at e1
        exact absurd rfl (hbne i blk' hi e1)
      · rw [hbxo i hi] at e1
        rw [hbxo j hj] at e2
        exact h.inj i j k e1 e2
  · intro i Gi e
    by_cases hi : i = b
    · subst hi
      have e : some G' = some Gi := by simpa using e
      obtain rfl := Option.some.inj e
      obtain ⟨_, _, _, k3, _⟩ := h.gr i G hG
      exact ⟨cs', List.getElem?_set_self hlb, hlen, by rw [hsz]; exact k3, hcap, hmax, fun _ => ⟨blk', cur', ty', hbxb, hcur, hsize⟩⟩
    · have e : g.gx i = some Gi := by
        have e' : (if i = b then some G' else g.gx i) = some Gi := e
        rw [if_neg hi] at e'; exact e'
      obtain ⟨ds, k1, k2, k3, k4, k5, k6⟩ := h.gr i Gi e
      refine ⟨ds, (List.getElem?_set_ne (by omega)).trans k1, k2, k3, k4, k5, fun hc => ?_⟩
      obtain ⟨blk, cur, ty, j1, j2, j3⟩ := k6 hc
      exact ⟨blk, cur, ty, (hbxo i hi).trans j1, by rw [hfr blk (h.blt i blk j1) (hbne i blk hi j1)]; exact j2, j3⟩
  · intro t m e
    obtain ⟨T, k1, k2, k3, k4, k5⟩ := h.tag t m e
    refine ⟨T, k1, k2, k3, k4, fun hlt => ?_⟩
    obtain ⟨blk, cur, ty, j1, j2, j3⟩ := k5 hlt
    obtain ⟨q1, q2⟩ := h.tbx t T blk k1 j1 hlt
    refine ⟨blk, cur, ty, j1, ?_, j3⟩
    rw [hfr blk q1 (by
      rintro rfl
      rcases hnew with hn | hn
      · exact q2 b hn
      · omega)]; exact j2
  · intro t T k e1 e2 e3
    obtain ⟨q1, q2⟩ := h.tbx t T k e1 e2 e3
    refine ⟨Nat.lt_of_lt_of_le q1 hle0, fun i e => ?_⟩
    have e : (g.bx.set b (some blk'))[i]? = some (some k) := e
    by_cases hi : i = b
    · rw [hi, hbxb] at e
      obtain rfl : blk' = k := by simpa using e
      rcases hnew with hn | hn
      · exact q2 b hn
      · omega
    · rw [hbxo i hi] at e; exact q2 i e
  · have hnf' : isFam cs' = false := notFam_of (g := g) (cur := cur'.toList) (by rw [hlen, Array.length_toList, hsize]; exact Nat.mul_le_mul_right _ hcap) (fun j c x e1 e2 => hv j c x e1 (by simpa using e2))
    refine h.fam.keep hle rfl (fun i ds hf => fam_set (fun cs2 e2 => ?_) (fun cs2 e2 => ?_) hf) (fun i ds e hf => ?_) hle0 (fun i j F b2 e1 e2 => ?_)
    · rw [hb] at e2; obtain rfl : cs = cs2 := by simpa using e2
      exact h.notFam_gx hb hG
    · obtain rfl : cs' = cs2 := by simpa using e2
      exact hnf'
    · obtain ⟨q1, q2⟩ := h.fam.bx i ds e hf
      have hi : i ≠ b := by rintro rfl; rw [hG] at q2; cases q2
      exact ⟨(hbxo i hi).trans q1, by show (if i = b then some G' else g.gx i) = none; rw [if_neg hi]; exact q2⟩
    · obtain ⟨q1, q2, q3, q4⟩ := h.fam.out i j F b2 e1 e2
      have hne2 : b2 ≠ blk' := by
        rintro rfl
        rcases hnew with hn | hn
        · exact q3 b hn
        · omega
      refine ⟨hfr b2 q1 hne2, q2, fun i' e' => ?_, q4⟩
      have e' : (g.bx.set b (some blk'))[i']? = some (some b2) := e'
      by_cases hi : i' = b
      · rw [hi, hbxb] at e'
        obtain rfl : blk' = b2 := by simpa using e'
        exact hne2 rfl
      · rw [hbxo i' hi] at e'; exact q3 i' e'
  · intro k hk hno
    refine hfr k hk ?_
    rintro rfl
    rcases hnew with hn | hn
    · exact hno (.inl ⟨b, hn⟩)
    · omega
  · intro k hk
    rcases hk with ⟨i, e⟩ | hk
    · have e : (g.bx.set b (some blk'))[i]? = some (some k) := e
      by_cases hi : i = b
      · rw [hi, hbxb] at e
        obtain rfl : blk' = k := by simpa using e
        rcases hnew with hn | hn
        · exact .inl (.inl ⟨b, hn⟩)
        · exact .inr hn
      · rw [hbxo i hi] at e; exact .inl (.inl ⟨i, e⟩)
    · exact .inl (.inr hk)

/-- append on an own row that grows: 'us' are the new cells' values, 'ps' what they are. -/
theorem vec_core {g : Gh} {S : Sx} {w : World} (hI : Inv g S w) {T E ty : TypeId} {ie : TypeInfo} {z : Value} {b n m sz cap2 : Nat} {cs ps : List PV} {us : List Value} {sv : Value} {A2 : Option Addr} (hT : P.underlying T = some (.slice E)) (hE : P.info? E = some ie)
    (hz : ie.zero = some z) (hs : ie.size = sz) (h0 : 0 < sz) (hzc : z.cells.size = sz) (hz1 : ∀ v ∈ z.cells.toList, v.oneCell' = true) (hsv : V g (.vec b sz n) sv) (hcur : S.bs[b]? = some (some cs)) (hcl : cs.length = n * sz)
    (hps : Vs g ps us) (hul : us.length = m * sz) (hA2 : 0 < m → ∃ q, A2 = some q ∧ ∀ j v, us[j]? = some v → w.cell? (q.add j) = some v)
    (hb : (n + m) * ie.bytes ≤ 140737488355328) (hmax : n + m ≤ maxLen) :
    ∃ v g' w', (Builtin.append_ #[T, T] ty #[sv, .slice A2 m cap2]).run P w = .ok v w' ∧ V g' (.vec b sz (n + m)) v ∧ Inv g' ⟨S.bs.set b (some (cs ++ ps)), S.ts⟩ w' ∧ Ext g w g' w' := by
  subst hs
  cases hsv with
  | vec _ _ _ cap A G hG hGz hle he hc hx hn =>
  obtain ⟨cs', k1, k2, k3, k4, k5, k6⟩ := hI.gr b G hG
  rw [hcur] at k1
  obtain rfl : cs = cs' := by simpa using k1
  have hnm : n = G.m := by
    rw [k2, hGz] at hcl
    exact (Nat.eq_of_mul_eq_mul_right h0 hcl).symm
  subst hnm
  obtain ⟨rfl, hA⟩ := he rfl
  have hpl : ps.length = m * ie.size := by rw [hps.1]; exact hul
  by_cases hm0 : m = 0
  · subst hm0
    have hps0 : ps = [] := List.eq_nil_of_length_eq_zero (by rw [hpl]; simp)
    subst hps0
    have e0 : S.bs.set b (some (cs ++ [])) = S.bs := by rw [List.append_nil]; exact set_self hcur
    refine ⟨_, g, w, run_append_zeroA w T E ty hT ⟨ie, hE, rfl⟩ A A2 G.m G.cap cap2 hc, ?_, by rw [e0]; exact hI, .refl g w⟩
    exact .vec b ie.size (G.m + 0) G.cap A G hG hGz hle he hc hx hn
  · have hmp : 0 < m := Nat.pos_of_ne_zero hm0
    obtain ⟨q, rfl, hnews⟩ := hA2 hmp
    by_cases hroom : G.m + m ≤ G.cap
    · obtain ⟨blk, j1, rfl⟩ := hA (by omega)
      obtain ⟨blk', cur, ty', i1, i2, i3⟩ := k6 (by omega)
      rw [j1] at i1
      obtain rfl : blk = blk' := by simpa using i1
      have hle2 : G.m * ie.size + us.length ≤ cur.size := by rw [i3, hGz, hul, ← Nat.add_mul]; exact Nat.mul_le_mul_right _ hroom
      have hr := run_append_room' (P := P) w T ty E ty' ie hT hE blk G.m G.cap cur i2 q m cap2 us hul hnews hps.one hroom hle2
      obtain ⟨q1, q2⟩ := hI.revec (w' := w.setRow blk (cur.toList.take (G.m * ie.size) ++ us ++ cur.toList.drop (G.m * ie.size + us.length)).toArray) (G' := ⟨G.m + m, G.cap, G.sz⟩) (cs' := cs ++ ps) (blk' := blk) hcur hG (by simp; omega) rfl hroom k5
        (setRow_heap w blk cur _ ty' _ i2) (by rw [← i3]; simp; omega) (by simp only [List.length_append, k2, hpl, hGz, Nat.add_mul]) (fun j c x e1 e2 => by
          have e2 : (cur.toList.take (G.m * ie.size) ++ us ++ cur.toList.drop (G.m * ie.size + us.length))[j]? = some x := by simpa using e2
          have hlc : cs.length = G.m * ie.size := by rw [k2, hGz]
          by_cases hj : j < cs.length
          · rw [List.getElem?_append_left hj] at e1
            rw [List.append_assoc, List.getElem?_append_left (by simp; omega), List.getElem?_take, if_pos (by omega)] at e2
            by_cases hne : cs = []
            · subst hne; simp at hj
            · obtain ⟨blk2, cur2, ty2, r1, r2, r3, r4⟩ := hI.box b cs hcur hne (hI.notFam hcur j1)
              rw [j1] at r1
              obtain rfl : blk = blk2 := by simpa using r1
              rw [i2] at r2
              obtain rfl : cur = cur2 := by simpa using congrArg (fun x => match x with | some (Obj.cells c _ _) => c | _ => #[]) r2
              exact r4 j c x e1 (by simpa using e2)
          · rw [List.getElem?_append_right (by omega)] at e1
            have hj2 := (List.getElem?_eq_some_iff.1 e1).1
            have hpu := hps.1
            rw [List.append_assoc, List.getElem?_append_right (by simp; omega), List.getElem?_append_left (by simp; omega)] at e2
            refine hps.2 _ c x e1 ?_
            rw [← e2]; congr 1; simp; omega) (fun k _ hne => setRow_other w blk k _ hne) (by rw [size_setRow]; exact Nat.le_refl _) rfl rfl rfl (.inl j1)
      refine ⟨_, _, _, hr, ?_, q1, q2⟩
      exact .vec b ie.size (G.m + m) G.cap _ ⟨G.m + m, G.cap, G.sz⟩ (by simp) hGz (Nat.le_refl _) (fun _ => ⟨rfl, fun _ => ⟨blk, by
        have : b < g.bx.length := (List.getElem?_eq_some_iff.1 j1).1
        simp [this], rfl⟩⟩) hroom hx (fun h => by cases h)
    · have hgrow : ∀ (olds : List Value) (old : Nat), olds.length = G.m * ie.size → (∀ (j : Nat) (c : PV) (x : Value), cs[j]? = some c → olds[j]? = some x → V g c x ∧ x.oneCell' = true) → old < G.m + m →
          ∃ g', V g' (.vec b ie.size (G.m + m)) (.slice (some ⟨w.heap.size, 0, none⟩) (G.m + m) (grownCap w (G.m + m) old E)) ∧
            Inv g' ⟨S.bs.set b (some (cs ++ ps)), S.ts⟩ (w.drew.alloc (.cells (olds.toArray ++ us.toArray ++ Builtin.zeroCells z.cells (grownCap w (G.m + m) old E - (G.m + m))) E)) ∧
            Ext g w g' (w.drew.alloc (.cells (olds.toArray ++ us.toArray ++ Builtin.zeroCells z.cells (grownCap w (G.m + m) old E - (G.m + m))) E)) := by
        intro olds old hol hov ho
        have hge := grownCap_ge w (G.m + m) old E
        have hcm := grownCap_le_maxLen w (G.m + m) old E hmax
        generalize hG' : grownCap w (G.m + m) old E = C at *
        generalize hcur' : olds.toArray ++ us.toArray ++ Builtin.zeroCells z.cells (C - (G.m + m)) = cur at *
        have hcsz : cur.size = C * ie.size := by
          rw [← hcur']
          simp only [Array.size_append, List.size_toArray, size_zeroCells, hzc, hol, hul, ← Nat.add_mul]
          congr 1; omega
        have hnw : (w.drew.alloc (.cells cur E)).heap[w.heap.size]? = some (.cells cur E (0, 0)) := heap_alloc_new w.drew _
        obtain ⟨q1, q2⟩ := hI.revec (w' := w.drew.alloc (.cells cur E)) (G' := ⟨G.m + m, C, G.sz⟩) (cs' := cs ++ ps) (blk' := w.heap.size) hcur hG (by simp; omega) rfl hge hcm hnw
          (by rw [hcsz, hGz]) (by simp only [List.length_append, k2, hpl, hGz, Nat.add_mul]) (fun j c x e1 e2 => by
            have hlc : cs.length = G.m * ie.size := by rw [k2, hGz]
            have e2 : (olds ++ us ++ (Builtin.zeroCells z.cells (C - (G.m + m))).toList)[j]? = some x := by rw [← hcur', ← Array.getElem?_toList] at e2; simpa using e2
            by_cases hj : j < cs.length
            · rw [List.getElem?_append_left hj] at e1
              rw [List.append_assoc, List.getElem?_append_left (by omega)] at e2
              exact hov j c x e1 e2
            · rw [List.getElem?_append_right (by omega)] at e1
              have hj2 := (List.getElem?_eq_some_iff.1 e1).1
              have hpu := hps.1
              rw [List.append_assoc, List.getElem?_append_right (by omega), List.getElem?_append_left (by omega)] at e2
              refine hps.2 _ c x e1 ?_
              rw [← e2]; congr 1; omega) (fun k hk _ => Below.heap_alloc w.drew _ k hk) (by simp) rfl rfl rfl (.inr (Nat.le_refl _))
        refine ⟨_, ?_, q1, q2⟩
        have hlg : b < g.bx.length := by rw [hI.hbx]; exact (List.getElem?_eq_some_iff.1 hcur).1
        exact .vec b ie.size (G.m + m) C _ ⟨G.m + m, C, G.sz⟩ (by simp) hGz (Nat.le_refl _) (fun _ => ⟨rfl, fun _ => ⟨w.heap.size, by simp [hlg], rfl⟩⟩) hge hcm (fun h => by cases h)
      cases hAe : A with
      | none =>
        have hcap0 := hn hAe
        have hn0 : G.m = 0 := by omega
        have hcs0 : cs = [] := List.eq_nil_of_length_eq_zero (by rw [hcl, hn0]; simp)
        obtain ⟨g', b2, b3, b4⟩ := hgrow ([] : List Value) 0 (by rw [hn0]; simp) (fun j c x e1 _ => by rw [hcs0] at e1; simp at e1) (by omega)
        have hr := run_append_nil (P := P) w T ty E ie z hT hE hz q m cap2 us hul hnews hmp (by simp only [maxLen] at hmax; omega) (by rw [hn0, Nat.zero_add] at hb; omega)
        refine ⟨_, g', _, ?_, b2, b3, b4⟩
        rw [hn0, hcap0]
        simp only [Nat.zero_add] at hr ⊢
        simpa using hr
      | some a0 =>
        by_cases hcap0 : 0 < G.cap
        · obtain ⟨blk, j1, hAb⟩ := hA hcap0
          rw [hAe] at hAb
          obtain rfl : a0 = ⟨blk, 0, none⟩ := by simpa using hAb
          obtain ⟨blk', cur, ty', i1, i2, i3⟩ := k6 hcap0
          rw [j1] at i1
          obtain rfl : blk = blk' := by simpa using i1
          have hcz : G.m * ie.size ≤ cur.size := by rw [i3, hGz]; exact Nat.mul_le_mul_right _ k4
          have hol : (cur.toList.take (G.m * ie.size)).length = G.m * ie.size := by simp; omega
          obtain ⟨g', b2, b3, b4⟩ := hgrow (cur.toList.take (G.m * ie.size)) G.cap hol (fun j c x e1 e2 => by
            have hne : cs ≠ [] := by rintro rfl; simp at e1
            obtain ⟨blk2, cur2, ty2, r1, r2, r3, r4⟩ := hI.box b cs hcur hne (hI.notFam hcur j1)
            rw [j1] at r1
            obtain rfl : blk = blk2 := by simpa using r1
            rw [i2] at r2
            obtain rfl : cur = cur2 := by simpa using congrArg (fun x => match x with | some (Obj.cells c _ _) => c | _ => #[]) r2
            have hj := (List.getElem?_eq_some_iff.1 e2).1
            rw [List.getElem?_take, if_pos (by rw [hol] at hj; exact hj)] at e2
            exact r4 j c x e1 (by simpa using e2)) (by omega)
          have hr := run_append_grow (P := P) w T ty E ie z hT hE hz ⟨blk, 0, none⟩ G.m G.cap (cur.toList.take (G.m * ie.size)) hol (fun j v hj => by
            have hj2 := (List.getElem?_eq_some_iff.1 hj).1
            rw [List.getElem?_take, if_pos (by rw [hol] at hj2; exact hj2)] at hj
            rw [Addr.add_lit, Nat.zero_add]
            rw [cell_of_row w blk j cur ty' _ i2]; simpa using hj) q m cap2 us hul hnews (by omega) (by simp only [maxLen] at hmax; omega) (growslice_fits (by omega) hb)
          exact ⟨_, g', _, hr, b2, b3, b4⟩
        · have hcap0' : G.cap = 0 := by omega
          have hn0 : G.m = 0 := by omega
          have hcs0 : cs = [] := List.eq_nil_of_length_eq_zero (by rw [hcl, hn0]; simp)
          obtain ⟨g', b2, b3, b4⟩ := hgrow [] G.cap (by rw [hn0]; simp) (fun j c x e1 _ => by rw [hcs0] at e1; simp at e1) (by omega)
          have hr := run_append_grow (P := P) w T ty E ie z hT hE hz a0 G.m G.cap [] (by rw [hn0]; simp) (fun j v hj => by simp at hj) q m cap2 us hul hnews (by omega) (by simp only [maxLen] at hmax; omega) (growslice_fits (by omega) hb)
          exact ⟨_, g', _, hr, b2, b3, b4⟩
end
end Go.Pv
namespace Go.Pv
open Go.RowKit
section
variable {P : Program} {o : Oper} {ρ : Operand → PV} {S : Sx}
theorem V.vp_blk {g : Gh} {w : World} {b N off : Nat} {cs : List PV} {v : Value} (hI : Inv g S w) (hv : V g (.vp b N off) v) (hb : S.bs[b]? = some (some cs)) (hN : cs.length = N) :
    ∃ blk, v = .pointer (some ⟨blk, off, none⟩) ∧ g.bx[b]? = some (some blk) := by
  cases hv with
  | vp _ _ _ blk G hG h0 hle he =>
    obtain ⟨cs', k1, k2, _⟩ := hI.gr b G hG
    rw [hb] at k1
    obtain rfl : cs = cs' := by simpa using k1
    exact ⟨blk, rfl, he (by omega)⟩
theorem o_load_vp {T : TypeId} {d : TypeDesc} {x : Operand} {b N off : Nat} {cs : List PV} {p : PV} (ho : o.op = .load T x) (hT : P.underlying T = some d) (hd : aggT d = false) (hx : ρ x = .vp b N off)
    (hb : S.bs[b]? = some (some cs)) (hN : cs.length = N) (hp : cs[off]? = some p) : OpS P o ρ S S p :=
  .value fun g w a hI hv => by
    have e1 := hv x (by simp [ho, Op.operands])
    rw [hx] at e1
    obtain ⟨blk, hu, h⟩ := e1.vp_blk hI hb hN
    have hne : cs ≠ [] := by rintro rfl; simp at hp
    obtain ⟨blk', cur, ty, h1, h2, h3, h4⟩ := hI.box b cs hb hne (hI.notFam hb h)
    rw [h] at h1
    obtain rfl : blk = blk' := by simpa using h1
    have hlt : off < cur.size := Nat.lt_of_lt_of_le (List.getElem?_eq_some_iff.1 hp).1 h3
    have hc : w.cell? ⟨blk, off, none⟩ = some cur[off] := by rw [cell_of_row w blk off cur ty _ h2]; simp [hlt]
    exact ⟨cur[off], by simp [execOp, ho, hu, Instr.loadAt, Instr.sureAddr, loadVar, run_isAgg hT, hd, hc], (h4 off p cur[off] hp (by simp [hlt])).1⟩
theorem o_load_vp_agg {T : TypeId} {d : TypeDesc} {x : Operand} {b N off n : Nat} {cs : List PV} (ho : o.op = .load T x) (hT : P.underlying T = some d) (hd : aggT d = true) (hs : SizeIs P T n) (hx : ρ x = .vp b N off)
    (hb : S.bs[b]? = some (some cs)) (hN : cs.length = N) (hn : off + n ≤ cs.length) (hne : cs ≠ []) : OpS P o ρ S S (.agg ((cs.drop off).take n)) :=
  .value fun g w a hI hv => by
    have e1 := hv x (by simp [ho, Op.operands])
    rw [hx] at e1
    obtain ⟨blk, hu, h⟩ := e1.vp_blk hI hb hN
    obtain ⟨blk', cur, ty, h1, h2, h3, h4⟩ := hI.box b cs hb hne (hI.notFam hb h)
    rw [h] at h1
    obtain rfl : blk = blk' := by simpa using h1
    have hl : (loadCells ⟨blk, off, none⟩ n).run P w = .ok ((cur.toList.drop off).take n).toArray w := by
      have := run_loadCells_list (P := P) w ⟨blk, off, none⟩ ((cur.toList.drop off).take n) (fun j v hj => by
        rw [Addr.add_lit, cell_of_row w blk _ cur ty _ h2]
        rw [List.getElem?_take] at hj
        split at hj
        · rw [List.getElem?_drop] at hj; simpa using hj
        · cases hj)
      have hlen : ((cur.toList.drop off).take n).length = n := by simp; omega
      rw [hlen] at this
      exact this
    have key : ∀ (i : Nat) (c : PV) (x : Value), ((cs.drop off).take n)[i]? = some c → ((cur.toList.drop off).take n)[i]? = some x → V g c x ∧ x.oneCell' = true := by
      intro i c x k1 k2
      rw [List.getElem?_take] at k1 k2
      split at k1
      · rename_i hi
        rw [if_pos hi] at k2
        rw [List.getElem?_drop] at k1 k2
        exact h4 _ c x k1 (by simpa using k2)
      · cases k1
    refine ⟨.agg ((cur.toList.drop off).take n).toArray, by simp [execOp, ho, hu, Instr.loadAt, Instr.sureAddr, loadVar, run_isAgg hT, hd, hs.run w, hl], .agg _ _ (by simp; omega) ?_ ?_⟩
    · intro v hm
      obtain ⟨j, hj, rfl⟩ := List.getElem_of_mem hm
      have hj' : j < ((cs.drop off).take n).length := by simp at hj ⊢; omega
      exact (key j _ _ (List.getElem?_eq_getElem hj') (List.getElem?_eq_getElem (by simpa using hj))).2
    · intro i c x k1 k2
      exact (key i c x k1 (by simpa using k2)).1
theorem o_store_vp {T : TypeId} {x y : Operand} {b N off n : Nat} {cs ps : List PV} (ho : o.op = .store T x y) (hs : SizeIs P T n) (hx : ρ x = .vp b N off) (hy : (ρ y).cells = some ps) (hl : ps.length = n)
    (hb : S.bs[b]? = some (some cs)) (hN : cs.length = N) (hn : off + n ≤ cs.length) (hne : cs ≠ []) : OpS P o ρ S ⟨S.bs.set b (some (splice cs off ps)), S.ts⟩ .junk := by
  intro g w a next Q hI hv K
  have e1 := hv x (by simp [ho, Op.operands])
  rw [hx] at e1
  have e2 := (hv y (by simp [ho, Op.operands])).cells hy
  obtain ⟨blk, hu, h⟩ := e1.vp_blk hI hb hN
  obtain ⟨cur, ty, h1, h2, h3, h4⟩ := hI.setbox (off := off) hb h e2 (by omega) hne
  unfold Oper.wp
  have hst := run_storeCells_at P blk off ty (a.eval y).cells.toList 0 cur w h1 (by simpa using h2) e2.one
  have hsz : (a.eval y).cells.size = n := by have := e2.1; simp at this; omega
  simp only [execOp, ho, hu, Instr.storeAt, Instr.sureAddr, pure_bind, storeVar, Sem.run_bind, hs.run w, Result.andThen_ok, hsz, ne_eq, not_true_eq_false, if_false]
  simp only [Nat.add_zero] at hst
  simp only [hst, Result.andThen_ok, Sem.run_pure]
  exact K _ g _ (.junk _) h3 h4
theorem o_field_vp {T : TypeId} {fs : Array Field} {f b N off s : Nat} {fd : Field} {x : Operand} (ho : o.op = .fieldAddr T x f) (hT : P.underlying T = some (.struct fs)) (hf : fs[f]? = some fd) (hs : SizeIs P fd.type s) (h0 : s ≠ 0)
    (hx : ρ x = .vp b N off) : OpS P o ρ S S (.vp b N (off + fd.offset)) :=
  .value fun g w a _ hv => by
    have e1 := hv x (by simp [ho, Op.operands])
    rw [hx] at e1
    generalize hu : a.eval x = u at e1
    cases e1 with
    | vp _ _ _ blk G hG h1 hle he => exact ⟨_, by simp only [execOp, ho, hu, Sem.run_bind, run_fieldAt hT hf hs h0, Result.andThen_ok, Sem.run_pure], .vp _ _ _ blk G hG h1 hle he⟩
theorem o_len_vec {T E : TypeId} {x : Operand} {b sz n : Nat} (ho : o.op = .call { callee := .builtin .len, args := #[x], argTypes := #[T] }) (hT : P.underlying T = some (.slice E)) (hx : ρ x = .vec b sz n) : OpS P o ρ S S (.d (.v (.int .i64 n))) :=
  .value fun g w a _ hv => by
    have e1 := hv x (by simp [ho, Op.operands, Call.operands])
    rw [hx] at e1
    generalize hu : a.eval x = u at e1
    cases e1 with
    | vec _ _ _ cap A G hG hz hle he hc hx' hn => exact ⟨_, by simp [execOp, ho, resolve, invoke, builtin, hu, Builtin.len_, run_underlying hT, goInt], .d _ _ (.v _ rfl)⟩
theorem o_index_vec {T E : TypeId} {x y : Operand} {b sz n : Nat} {cs : List PV} {k : IntKind} {i : Int} (ho : o.op = .indexAddr T x y) (hT : P.underlying T = some (.slice E)) (hE : SizeIs P E sz) (h0 : 0 < sz) (hx : ρ x = .vec b sz n) (hy : ρ y = .d (.v (.int k i)))
    (hb : S.bs[b]? = some (some cs)) (hl : cs.length = n * sz) (hi : 0 ≤ i) (hn : i < n) : OpS P o ρ S S (.vp b (n * sz) (0 + i.toNat * sz)) :=
  .value fun g w a hI hv => by
    have e1 := hv x (by simp [ho, Op.operands])
    rw [hx] at e1
    have e2 := hv y (by simp [ho, Op.operands])
    rw [hy] at e2
    have k2 := e2.d_v.1
    generalize hu : a.eval x = u at e1
    cases e1 with
    | vec _ _ _ cap A G hG hz hle he hc hx' hnn =>
      obtain ⟨cs', j1, j2, j3, _⟩ := hI.gr b G hG
      rw [hb] at j1
      obtain rfl : cs = cs' := by simpa using j1
      have hnm : n = G.m := by
        rw [j2, hz] at hl
        exact (Nat.eq_of_mul_eq_mul_right h0 hl).symm
      obtain ⟨hcap, hA⟩ := he hnm
      obtain ⟨blk, hbx, rfl⟩ := hA (by omega)
      refine ⟨.pointer (some ⟨blk, 0 + i.toNat * sz, none⟩), ?_, .vp _ _ _ blk G hG j3 (by rw [hnm, hz]; exact Nat.le_refl _) (fun _ => hbx)⟩
      simp only [execOp, ho, hu, k2, Sem.run_bind, show (⟨blk, 0, none⟩ : Addr) = adr (blk, 0) from rfl, run_indexAt_slice (P := P) w T (adr (blk, 0)) n cap k i (by simp [Program.elem, hT]), if_pos (show 0 ≤ i ∧ i < (n : Int) from ⟨hi, hn⟩)]
      simp only [Program.elem, hT, hE.run w, Result.andThen_ok, add_adr, Sem.run_pure]
/-- append of data. -/
theorem o_append_vec {T E : TypeId} {sz bt : Nat} {z : Value} {x y : Operand} {b n : Nat} {cs : List PV} {ys : List (List D)} (ho : o.op = .call { callee := .builtin .append, args := #[x, y], argTypes := #[T, T] }) (hT : P.underlying T = some (.slice E)) (hE : TI P E sz bt z) (h0 : 0 < sz)
    (hx : ρ x = .vec b sz n) (hy : (ρ y).els = some (sz, ys)) (hcs : S.bs[b]? = some (some cs)) (hcl : cs.length = n * sz) (hb : (n + ys.length) * bt ≤ 140737488355328) (hmax : n + ys.length ≤ 9223372036854775807) :
    OpS P o ρ S ⟨S.bs.set b (some (cs ++ ys.flatten.map .d)), S.ts⟩ (.vec b sz (n + ys.length)) := by
  intro g w a next Q hI hv K
  have e1 := hv x (by simp [ho, Op.operands, Call.operands])
  rw [hx] at e1
  have e2 := (hv y (by simp [ho, Op.operands, Call.operands])).els hy
  obtain ⟨i, t1, t2, t3, t4, t5, t6⟩ := hE
  subst t3 t4
  have key : ∃ A2 cap2 us, a.eval y = .slice A2 ys.length cap2 ∧ Vs g (ys.flatten.map .d) us ∧ us.length = ys.length * i.size ∧ (0 < ys.length → ∃ q, A2 = some q ∧ ∀ j v, us[j]? = some v → w.cell? (q.add j) = some v) := by
    by_cases hys : ys = []
    · subst hys
      obtain ⟨A2, c2, h2⟩ := e2.unsl0
      exact ⟨A2, c2, [], h2, ⟨rfl, fun j c x h => by simp at h⟩, by simp, fun h => absurd h (Nat.lt_irrefl _)⟩
    · obtain ⟨a2, cap2, us, h2, hz2, hc2, _, hn2, hx2, hl2, hm2, hv2⟩ := e2.unslN hys
      have hyl : 0 < ys.length := List.length_pos_iff.2 hys
      obtain ⟨q, rfl⟩ : ∃ q, a2 = some q := by
        cases a2 with
        | none => have := hn2 rfl; omega
        | some q => exact ⟨q, rfl⟩
      refine ⟨some (adr q), cap2, us, h2, ⟨by rw [List.length_map]; exact hl2, fun j c x h3 h4 => ?_⟩, by rw [← hl2, flat_len hz2], fun _ => ⟨adr q, rfl, fun j v hj => by rw [add_adr]; exact hI.mem _ _ _ (hm2 q j v rfl hj)⟩⟩
      rw [List.getElem?_map, Option.map_eq_some_iff] at h3
      obtain ⟨d, hd, rfl⟩ := h3
      exact ⟨.d _ _ (hv2 j d x hd h4), hI.one _ _ _ (hm2 q j x rfl h4)⟩
  obtain ⟨A2, cap2, us, hev, hvs, hul, hq⟩ := key
  obtain ⟨v, g', w', h1, h2, h3, h4⟩ := vec_core (P := P) hI (ty := o.type) (cap2 := cap2) hT t1 t2 rfl h0 t5 (fun v hv => List.all_eq_true.1 t6 v hv) e1 hcs hcl hvs hul hq hb (by simp only [maxLen]; omega)
  unfold Oper.wp
  simp only [execOp, ho, resolve, invoke, builtin, Sem.run_bind, Sem.run_pure, Result.andThen_ok, List.map_toArray, List.map_cons, List.map_nil, hev, h1]
  exact K v g' w' h2 h3 h4
/-- append of an own row. -/
theorem o_append_vec_ms {T E : TypeId} {sz bt : Nat} {z : Value} {x y : Operand} {b n b2 m : Nat} {cs ps : List PV} (ho : o.op = .call { callee := .builtin .append, args := #[x, y], argTypes := #[T, T] }) (hT : P.underlying T = some (.slice E)) (hE : TI P E sz bt z) (h0 : 0 < sz)
    (hx : ρ x = .vec b sz n) (hy : ρ y = .ms b2 0 sz m) (hcs : S.bs[b]? = some (some cs)) (hcl : cs.length = n * sz) (hps : S.bs[b2]? = some (some ps)) (hpl : ps.length = m * sz) (hb : (n + m) * bt ≤ 140737488355328) (hmax : n + m ≤ 9223372036854775807) :
    OpS P o ρ S ⟨S.bs.set b (some (cs ++ ps)), S.ts⟩ (.vec b sz (n + m)) := by
  intro g w a next Q hI hv K
  have e1 := hv x (by simp [ho, Op.operands, Call.operands])
  rw [hx] at e1
  have e2 := hv y (by simp [ho, Op.operands, Call.operands])
  rw [hy] at e2
  obtain ⟨i, t1, t2, t3, t4, t5, t6⟩ := hE
  subst t3 t4
  have key : ∃ A2 cap2 us, a.eval y = .slice A2 m cap2 ∧ Vs g ps us ∧ us.length = m * i.size ∧ (0 < m → ∃ q, A2 = some q ∧ ∀ j v, us[j]? = some v → w.cell? (q.add j) = some v) := by
    generalize a.eval y = u at e2
    cases e2 with
    | ms _ _ _ _ cap a' h hc hx' hnn =>
      by_cases hm : m = 0
      · subst hm
        have : ps = [] := List.eq_nil_of_length_eq_zero (by rw [hpl]; simp)
        subst this
        exact ⟨a'.map adr, cap, [], rfl, ⟨rfl, fun j c x h => by simp at h⟩, by simp, fun h => absurd h (Nat.lt_irrefl _)⟩
      · obtain ⟨blk, rfl, q1, q2⟩ := h hm
        have hne : ps ≠ [] := by
          rintro rfl
          have : 0 < m * i.size := Nat.mul_pos (Nat.pos_of_ne_zero hm) h0
          simp at hpl; omega
        obtain ⟨blk', cur, ty, r1, r2, r3, r4⟩ := hI.box b2 ps hps hne (hI.notFam hps q1)
        rw [q1] at r1
        obtain rfl : blk = blk' := by simpa using r1
        refine ⟨some ⟨blk, 0, none⟩, cap, cur.toList.take (m * i.size), rfl, ⟨by simp; omega, fun j c x h3 h4 => ?_⟩, by simp; omega, fun _ => ⟨_, rfl, fun j v hj => ?_⟩⟩
        · have hj := (List.getElem?_eq_some_iff.1 h4).1
          rw [List.getElem?_take, if_pos (by simp at hj; omega)] at h4
          exact r4 j c x h3 (by simpa using h4)
        · have hj2 := (List.getElem?_eq_some_iff.1 hj).1
          rw [List.getElem?_take, if_pos (by simp at hj2; omega)] at hj
          rw [Addr.add_lit, Nat.zero_add, cell_of_row w blk j cur ty _ r2]; simpa using hj
  obtain ⟨A2, cap2, us, hev, hvs, hul, hq⟩ := key
  obtain ⟨v, g', w', h1, h2, h3, h4⟩ := vec_core (P := P) hI (ty := o.type) (cap2 := cap2) hT t1 t2 rfl h0 t5 (fun v hv => List.all_eq_true.1 t6 v hv) e1 hcs hcl hvs hul hq hb (by simp only [maxLen]; omega)
  unfold Oper.wp
  simp only [execOp, ho, resolve, invoke, builtin, Sem.run_bind, Sem.run_pure, Result.andThen_ok, List.map_toArray, List.map_cons, List.map_nil, hev, h1]
  exact K v g' w' h2 h3 h4
/-- Tags for slices that hold nothing, and have no room. -/
theorem Inv.tagsN {g : Gh} {w : World} (h : Inv g S w) (ez : Nat) : ∀ (n : Nat) (f : Nat → Value), (∀ i, i < n → VD g.mem (.sl ez true []) (f i)) → ∃ g', g'.bx = g.bx ∧ g'.gx = g.gx ∧ Inv g' ⟨S.bs, S.ts ++ List.replicate n 0⟩ w ∧ Ext g w g' w ∧ ∀ i, i < n → V g' (.app (S.ts.length + i) ez []) (f i)
  | 0, _, _ => ⟨g, rfl, rfl, by simpa using h, .refl g w, fun i hi => absurd hi (Nat.not_lt_zero i)⟩
  | n + 1, f, hf => by
    obtain ⟨g1, b1, b2, h1, h2, h3⟩ := Inv.tagsN h ez n f (fun i hi => hf i (by omega))
    obtain ⟨g2, c1, c2, k1, k2, k3⟩ := h1.retag' (sz := ez) (es := []) (v := f n) ((hf n (by omega)).mono h2.le.mem)
    refine ⟨g2, c1.trans b1, c2.trans b2, ?_, h2.trans k3, fun i hi => ?_⟩
    · have : (S.ts ++ List.replicate n 0) ++ [0] = S.ts ++ List.replicate (n + 1) 0 := by rw [List.append_assoc, ← List.replicate_succ']
      rw [← this]; exact k2
    · by_cases hin : i = n
      · subst hin
        have : (S.ts ++ List.replicate i 0).length = S.ts.length + i := by simp
        simp only [this] at k1; exact k1
      · exact (h3 i (by omega)).mono k3.le
/-- Cells that are slices that hold nothing get tags, one each. -/
theorem Wk.retagr {g0 : Gh} {w0 : World} {st : St} {b ez n : Nat} (hb : st.S.bs[b]? = some (some (List.replicate n (.d (.sl ez true []))))) :
    Wk g0 w0 st (st.to ⟨st.S.bs.set b (some (tagRow st.S.ts.length ez n)), st.S.ts ++ List.replicate n 0⟩) := by
  rintro a w ⟨g, k1, k2, k3, k4, k5⟩
  by_cases hn : n = 0
  · subst hn
    have e : st.S.bs.set b (some (tagRow st.S.ts.length ez 0)) = st.S.bs := set_self hb
    exact ⟨g, by simpa [St.to, e] using k1, k2, k3, k4, k5⟩
  · have hne : (List.replicate n (PV.d (.sl ez true []))) ≠ [] := fun h => hn (by simpa using h)
    have hnf : isFam (List.replicate n (PV.d (.sl ez true []))) = false := by
      cases n with
      | zero => rfl
      | succ n => rfl
    have hnf' : isFam (tagRow st.S.ts.length ez n) = false := by
      cases n with
      | zero => rfl
      | succ n => unfold tagRow; rw [List.range_succ_eq_map]; rfl
    obtain ⟨blk, cur, ty, j1, j2, j3, j4⟩ := k1.box b _ hb hne hnf
    have hln : (List.replicate n (PV.d (.sl ez true []))).length = n := by simp
    rw [hln] at j3
    obtain ⟨g', b1, b2, h2, h3, h4⟩ := Inv.tagsN k1 ez n (fun i => (cur.toList.getD i undef)) (fun i hi => by
      have hx : cur[i]? = some (cur[i]'(by omega)) := Array.getElem?_eq_getElem (by omega)
      have hr : (List.replicate n (PV.d (.sl ez true [])))[i]? = some (PV.d (.sl ez true [])) := by simp [hi]
      have := (j4 i _ _ hr hx).1
      have e : cur.toList.getD i undef = cur[i]'(by omega) := by simp [List.getD, show i < cur.size by omega]
      rw [e]
      cases this with | d _ _ h => exact h)
    refine ⟨g', h2.recell (S := ⟨st.S.bs, st.S.ts ++ List.replicate n 0⟩) hb hne hnf hnf' (by simp [tagRow]) (fun blk2 cur2 ty2 q1 q2 j c' x q3 q4 => ?_), k2.trans h3, k3, k4, fun i hi => (k5 i hi).mono h3.le⟩
    rw [b1, j1] at q1
    obtain rfl : blk = blk2 := by simpa using q1
    rw [j2] at q2
    obtain rfl : cur = cur2 := by simpa using congrArg (fun x => match x with | some (Obj.cells c _ _) => c | _ => #[]) q2
    have hj := (List.getElem?_eq_some_iff.1 q3).1
    have hjn : j < n := by simpa [tagRow] using hj
    have e3 : (tagRow st.S.ts.length ez n)[j]? = some (.app (st.S.ts.length + j) ez []) := by simp [tagRow, hjn]
    rw [e3] at q3
    obtain rfl := Option.some.inj q3
    have e4 : cur.toList.getD j undef = x := by
      have := Array.getElem?_toList (xs := cur) (i := j)
      simp only [List.getD]
      rw [this, q4]; rfl
    rw [← e4]
    exact h4 j hjn
end
end Go.Pv
