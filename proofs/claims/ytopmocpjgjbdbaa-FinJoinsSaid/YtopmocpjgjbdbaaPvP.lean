/- append, in the logic of pure values. -/
import Derived.Test.YtopmocpjgjbdbaaPvA
namespace Go.Pv
open Go.RowKit

def Unsl (M : Mem) (sz : Nat) (full : Bool) (es : List (List D)) (v : Value) : Prop :=
    ∃ (a : Option (Nat × Nat)) (cap : Nat) (vs : List Value), v = .slice (a.map adr) es.length cap ∧ (∀ e, e ∈ es → e.length = sz) ∧ es.length ≤ cap ∧ (full = true → cap = es.length) ∧ (a = none → cap = 0) ∧ cap ≤ maxLen ∧
      es.flatten.length = vs.length ∧ (∀ (p : Nat × Nat) (j : Nat) (x : Value), a = some p → vs[j]? = some x → M p.1 (p.2 + j) = some x) ∧ (∀ (j : Nat) (c : D) (x : Value), es.flatten[j]? = some c → vs[j]? = some x → VD M c x)
theorem VD.unslT {M : Mem} {sz : Nat} {es : List (List D)} {v : Value} (h : VD M (.sl sz true es) v) : Unsl M sz true es v := by
  cases h with
  | sl _ _ _ a cap vs hz hc hf hn hx hl hm hv => exact ⟨a, cap, vs, rfl, hz, hc, hf, hn, hx, hl, hm, hv⟩
theorem VD.unslN {M : Mem} {sz : Nat} {full : Bool} {es : List (List D)} {v : Value} (h : VD M (.sl sz full es) v) (hne : es ≠ []) : Unsl M sz full es v := by
  cases h with
  | sl _ _ _ a cap vs hz hc hf hn hx hl hm hv => exact ⟨a, cap, vs, rfl, hz, hc, hf, hn, hx, hl, hm, hv⟩
  | sl0 _ A => exact absurd rfl hne
theorem VD.unslA {M : Mem} {sz n c : Nat} {full : Bool} {es : List (List D)} {a : Option (Nat × Nat)} (h : VD M (.sl sz full es) (.slice (a.map adr) n c)) : Unsl M sz full es (.slice (a.map adr) n c) := by
  generalize hv : Value.slice (a.map adr) n c = v at h
  cases h with
  | sl _ _ _ a' cap vs hz hc hf hn hx hl hm hvv => exact ⟨a', cap, vs, rfl, hz, hc, hf, hn, hx, hl, hm, hvv⟩
  | sl0 _ A =>
    injection hv with h1 h2 h3
    subst h1
    exact ⟨a, 0, [], rfl, (fun e he => by cases he), Nat.le_refl _, (fun h => by cases h), fun _ => rfl, Nat.zero_le _, rfl, (fun p j x _ h => by simp at h), (fun j c x h => by simp at h)⟩
theorem VD.unsl0 {M : Mem} {sz : Nat} {full : Bool} {v : Value} (h : VD M (.sl sz full []) v) : ∃ A c, v = .slice A 0 c := by
  cases h with
  | sl _ _ _ a cap vs hz hc hf hn hx hl hm hv => exact ⟨_, _, rfl⟩
  | sl0 _ A => exact ⟨_, _, rfl⟩
theorem VD.lens {M : Mem} {sz : Nat} {full : Bool} {es : List (List D)} {v : Value} (h : VD M (.sl sz full es) v) : (∀ e, e ∈ es → e.length = sz) ∧ es.length ≤ maxLen := by
  cases h with
  | sl _ _ _ a cap vs hz hc hf hn hx hl hm hv => exact ⟨hz, by omega⟩
  | sl0 _ A => exact ⟨(fun e he => by cases he), Nat.zero_le _⟩

/-- A row grows into new memory; the tag 't' tells how far. -/
theorem Inv.grow {g : Gh} {S : Sx} {w : World} (h : Inv g S w) (cur : Array Value) (E : TypeId) (sz need cap t : Nat) (ts' : List Nat) (tg' : List Tg)
    (h1 : ∀ v ∈ cur.toList, v.oneCell' = true) (hn : need ≤ cap) (hx : cap ≤ maxLen) (hs : cur.size = cap * sz)
    (hT : tg'[t]? = some ⟨some (w.heap.size, 0), sz, need, cap⟩) (hother : ∀ u, u ≠ t → tg'[u]? = g.tg[u]?) (hts : ts'[t]? = some need) (htso : ∀ u, u ≠ t → ts'[u]? = S.ts[u]?)
    (hlen : tg'.length = ts'.length) (hold : ∀ T0, g.tg[t]? = some T0 → T0.m < need ∧ T0.sz = sz) :
    Inv { g.lay w.heap.size (fun o => if o < need * sz then cur[o]? else none) with tg := tg' } ⟨S.bs, ts'⟩ (w.drew.alloc (.cells cur E)) ∧
      Ext g w { g.lay w.heap.size (fun o => if o < need * sz then cur[o]? else none) with tg := tg' } (w.drew.alloc (.cells cur E)) := by
  obtain ⟨k1, k2⟩ := h.drew.newrow cur E (need * sz) h1
  simp only [World.size_drew] at k1 k2
  generalize hg1 : g.lay w.heap.size (fun o => if o < need * sz then cur[o]? else none) = g1 at *
  have htg : g1.tg = g.tg := by rw [← hg1]; rfl
  have hbx : g1.bx = g.bx := by rw [← hg1]; rfl
  have hle : Le g { g1 with tg := tg' } := by
    have hgx : g1.gx = g.gx := by rw [← hg1]; rfl
    have hfx : g1.fx = g.fx := by rw [← hg1]; rfl
    refine ⟨k2.le.mem, fun i k e e2 => ⟨by show g1.bx[i]? = _; rw [hbx]; exact e, by show g1.gx i = none; rw [hgx]; exact e2⟩, fun i G e => ⟨G, by show g1.gx i = _; rw [hgx]; exact e, .inl ⟨rfl, by show g1.bx[i]? = _; rw [hbx]⟩⟩, fun u U e => ?_, fun i j F e => ⟨F, by show g1.fx i j = _; rw [hfx]; exact e, .inl rfl⟩⟩
    by_cases hu : u = t
    · subst hu
      obtain ⟨e1, e2⟩ := hold U e
      exact ⟨_, hT, .inr ⟨e1, e2.symm⟩⟩
    · exact ⟨U, by show tg'[u]? = _; rw [hother u hu]; exact e, .inl rfl⟩
  have hnone : ∀ o, need * sz ≤ o → g1.mem w.heap.size o = none := fun o ho => by rw [← hg1]; simp only [Gh.lay, if_true]; rw [if_neg (by omega)]
  have hfx : g1.fx = g.fx := by rw [← hg1]; rfl
  refine ⟨⟨k1.hbx, hlen, k1.mem, k1.one, ?_, k1.nob, k1.bmem, k1.blt, k1.inj, k1.gr, ?_, ?_, ?_, ?_⟩, ?_⟩
  · intro i cs e hne hf
    obtain ⟨blk, c', ty', j1, j2, j3⟩ := h.box i cs e hne hf
    refine ⟨blk, c', ty', by show g1.bx[i]? = _; rw [hbx]; exact j1, ?_, j3.1, fun j c x e1 e2 => ⟨(j3.2 j c x e1 e2).1.mono hle, (j3.2 j c x e1 e2).2⟩⟩
    exact heap_alloc_lt w.drew _ j2
  · intro u m e
    by_cases hu : u = t
    · subst hu
      rw [hts] at e
      obtain rfl : need = m := by simpa using e
      refine ⟨_, hT, rfl, hn, hx, fun _ => ⟨w.heap.size, cur, E, rfl, ?_, hs, hnone⟩⟩
      exact heap_alloc_new w.drew _
    · rw [show (⟨S.bs, ts'⟩ : Sx).ts = ts' from rfl, htso u hu] at e
      obtain ⟨T, j1, j2⟩ := k1.tag u m e
      rw [htg] at j1
      exact ⟨T, by show tg'[u]? = _; rw [hother u hu]; exact j1, j2⟩
  · intro u U blk e1 e2 e3
    by_cases hu : u = t
    · subst hu
      rw [show ({ g1 with tg := tg' } : Gh).tg = tg' from rfl, hT] at e1
      cases e1
      cases e2
      refine ⟨by simp, fun i hi => ?_⟩
      rw [show ({ g1 with tg := tg' } : Gh).bx = g1.bx from rfl, hbx] at hi
      have := h.blt i _ hi; omega
    · rw [show ({ g1 with tg := tg' } : Gh).tg = tg' from rfl, hother u hu, ← htg] at e1
      exact k1.tbx u U blk e1 e2 e3
  · intro u v U W blk e1 e2 e3 e4 e5 e6
    rw [show ({ g1 with tg := tg' } : Gh).tg = tg' from rfl] at e1 e2
    have old : ∀ (u : Nat) (U : Tg), u ≠ t → tg'[u]? = some U → U.base = some (blk, 0) → U.m < U.cap → blk < w.heap.size := fun u U hu e e' e'' => by
      rw [hother u hu] at e; exact (h.tbx u U blk e e' e'').1
    by_cases hu : u = t <;> by_cases hv : v = t
    · omega
    · subst hu; rw [hT] at e1; cases e1; cases e3; have := old v W hv e2 e4 e6; omega
    · subst hv; rw [hT] at e2; cases e2; cases e4; have := old u U hu e1 e3 e5; omega
    · rw [hother u hu] at e1; rw [hother v hv] at e2; exact h.tinj u v U W blk e1 e2 e3 e4 e5 e6
  · refine h.fam.keep hle hfx (fun _ _ _ => Iff.rfl) (fun i cs e hf => by have := h.fam.bx i cs e hf; exact ⟨by show g1.bx[i]? = _; rw [hbx]; exact this.1, by show g1.gx i = _; rw [show g1.gx = g.gx by rw [← hg1]; rfl]; exact this.2⟩) (by simp) (fun i j F b e1 e2 => ?_)
    obtain ⟨q1, q2, q3, q4⟩ := h.fam.out i j F b e1 e2
    refine ⟨Below.heap_alloc w.drew _ b (by simpa using q1), fun o => ?_, fun i' hi => q3 i' (by rw [← hbx]; exact hi), fun u U e3 e4 => ?_⟩
    · show g1.mem b o = none
      rw [← hg1]; simp only [Gh.lay]; rw [if_neg (by omega)]; exact q2 o
    · by_cases hu : u = t
      · subst hu
        rw [show ({ g1 with tg := tg' } : Gh).tg = tg' from rfl, hT] at e3
        cases e3; cases e4; omega
      · rw [show ({ g1 with tg := tg' } : Gh).tg = tg' from rfl, hother u hu] at e3
        exact q4 u U e3 e4
  · refine ⟨hle, rfl, rfl, rfl, by simp, fun k hk _ => Below.heap_alloc w.drew _ k (by simpa using hk), fun k hk => ?_, fun b o x e => ?_⟩
    · rcases hk with ⟨i, hi⟩ | ⟨u, U, e1, e2, e3⟩ | ⟨i, j, F, e1, e2⟩
      · exact .inl (.inl ⟨i, by rw [← hbx]; exact hi⟩)
      · by_cases hu : u = t
        · subst hu
          rw [show ({ g1 with tg := tg' } : Gh).tg = tg' from rfl, hT] at e1
          cases e1; cases e2; exact .inr (Nat.le_refl _)
        · rw [show ({ g1 with tg := tg' } : Gh).tg = tg' from rfl, hother u hu] at e1
          exact .inl (.inr (.inl ⟨u, U, e1, e2, e3⟩))
      · exact .inl (.inr (.inr ⟨i, j, F, by rw [← hfx]; exact e1, e2⟩))
    · exact k2.memx b o x e

/-- A row goes on where it is. -/
theorem Inv.room {g : Gh} {S : Sx} {w : World} (h : Inv g S w) {t m : Nat} {T : Tg} {blk : Nat} (news : List Value) (k : Nat) (h1 : ∀ v ∈ news, v.oneCell' = true)
    (hts : S.ts[t]? = some m) (hT : g.tg[t]? = some T) (hb : T.base = some (blk, 0)) (hm : T.m = m) (hk : 0 < k) (hn : news.length = k * T.sz) (hc : m + k ≤ T.cap) :
    ∃ cur E, w.heap[blk]? = some (.cells cur E (0, 0)) ∧ m * T.sz + news.length ≤ cur.size ∧
      Inv { g with mem := fun b o => if b = blk ∧ m * T.sz ≤ o ∧ o < m * T.sz + news.length then news[o - m * T.sz]? else g.mem b o, tg := g.tg.set t { T with m := m + k } } ⟨S.bs, S.ts.set t (m + k)⟩
        (w.setRow blk (cur.toList.take (m * T.sz) ++ news ++ cur.toList.drop (m * T.sz + news.length)).toArray) ∧
      Ext g w { g with mem := fun b o => if b = blk ∧ m * T.sz ≤ o ∧ o < m * T.sz + news.length then news[o - m * T.sz]? else g.mem b o, tg := g.tg.set t { T with m := m + k } }
        (w.setRow blk (cur.toList.take (m * T.sz) ++ news ++ cur.toList.drop (m * T.sz + news.length)).toArray) := by
  obtain ⟨T', j1, j2, j3, j4, j5⟩ := h.tag t m hts
  rw [hT] at j1
  obtain rfl : T = T' := by simpa using j1
  obtain ⟨blk', cur, E, i1, i2, i3, i4⟩ := j5 (by omega)
  rw [hb] at i1
  obtain rfl : blk = blk' := by simpa using i1
  have hact : T.m < T.cap := by omega
  have hbt := h.tbx t T blk hT hb hact
  have hle2 : m * T.sz + news.length ≤ cur.size := by rw [i3, hn, ← Nat.add_mul]; exact Nat.mul_le_mul_right _ hc
  refine ⟨cur, E, i2, hle2, ?_⟩
  generalize hW : w.setRow blk (cur.toList.take (m * T.sz) ++ news ++ cur.toList.drop (m * T.sz + news.length)).toArray = W
  have hoth : ∀ b, b ≠ blk → W.heap[b]? = w.heap[b]? := fun b hne => by rw [← hW]; exact setRow_other w blk b _ hne
  have hnew : W.heap[blk]? = some (.cells (cur.toList.take (m * T.sz) ++ news ++ cur.toList.drop (m * T.sz + news.length)).toArray E (0, 0)) := by rw [← hW]; exact setRow_heap w blk cur _ E _ i2
  have hsize : W.heap.size = w.heap.size := by rw [← hW, size_setRow]
  have hle : Le g { g with mem := fun b o => if b = blk ∧ m * T.sz ≤ o ∧ o < m * T.sz + news.length then news[o - m * T.sz]? else g.mem b o, tg := g.tg.set t { T with m := m + k } } := by
    refine ⟨fun b o x e => ?_, fun _ _ e e2 => ⟨e, e2⟩, fun _ G e => ⟨G, e, .inl ⟨rfl, rfl⟩⟩, fun u U e => ?_, fun _ _ F e => ⟨F, e, .inl rfl⟩⟩
    · show (if b = blk ∧ m * T.sz ≤ o ∧ o < m * T.sz + news.length then news[o - m * T.sz]? else g.mem b o) = some x
      rw [if_neg]
      · exact e
      · rintro ⟨rfl, h2, _⟩
        rw [i4 o (by rw [hm]; exact h2)] at e; cases e
    · show ∃ T', (g.tg.set t { T with m := m + k })[u]? = some T' ∧ _
      rw [List.getElem?_set]
      by_cases hu : t = u
      · subst hu
        have hlt : t < g.tg.length := (List.getElem?_eq_some_iff.1 hT).1
        rw [hT] at e; cases e
        exact ⟨{ T with m := m + k }, by simp [hlt], .inr ⟨by simp only; omega, rfl⟩⟩
      · exact ⟨U, by rw [if_neg hu]; exact e, .inl rfl⟩
  have hgt : ∀ (u : Nat) (U : Tg), (g.tg.set t { T with m := m + k })[u]? = some U → (u = t ∧ U = { T with m := m + k }) ∨ (u ≠ t ∧ g.tg[u]? = some U) := by
    intro u U e
    rw [List.getElem?_set] at e
    by_cases hu : t = u
    · subst hu
      have hlt : t < g.tg.length := (List.getElem?_eq_some_iff.1 hT).1
      simp [hlt] at e
      exact .inl ⟨rfl, e.symm⟩
    · rw [if_neg hu] at e; exact .inr ⟨fun hh => hu hh.symm, e⟩
  constructor
  · refine ⟨h.hbx, by simp [h.htg], ?_, ?_, ?_, h.nob, ?_, ?_, h.inj, ?_, ?_, ?_, ?_, ?_⟩
    · intro b o x e
      change (if b = blk ∧ m * T.sz ≤ o ∧ o < m * T.sz + news.length then news[o - m * T.sz]? else g.mem b o) = some x at e
      split at e
      · rename_i hh
        obtain ⟨rfl, h2, h3⟩ := hh
        rw [cell_of_row W b o _ E _ hnew]
        rw [List.getElem?_toArray, List.append_assoc, List.getElem?_append_right (by simp; omega), List.getElem?_append_left (by simp; omega)]
        simp only [List.length_take, Array.length_toList, Nat.min_eq_left (show m * T.sz ≤ cur.size by omega)]
        exact e
      · rename_i hh
        by_cases hb' : b = blk
        · subst hb'
          have hlt : o < m * T.sz := by
            rcases Nat.lt_or_ge o (m * T.sz) with h2 | h2
            · exact h2
            · rw [i4 o (by rw [hm]; exact h2)] at e; cases e
          have hc := h.mem b o x e
          rw [cell_of_row w b o cur E _ i2] at hc
          rw [cell_of_row W b o _ E _ hnew, List.getElem?_toArray, List.append_assoc, List.getElem?_append_left (by simp; omega), List.getElem?_take, if_pos hlt]
          simpa using hc
        · rw [World.cell?_of_block (w := w) (hoth b hb')]; exact h.mem b o x e
    · intro b o x e
      change (if b = blk ∧ m * T.sz ≤ o ∧ o < m * T.sz + news.length then news[o - m * T.sz]? else g.mem b o) = some x at e
      split at e
      · exact h1 x (List.mem_of_getElem? e)
      · exact h.one b o x e
    · intro i cs e hne hf
      obtain ⟨b, c', ty', p1, p2, p3, p4⟩ := h.box i cs e hne hf
      refine ⟨b, c', ty', p1, ?_, p3, fun j c x e1 e2 => ⟨(p4 j c x e1 e2).1.mono hle, (p4 j c x e1 e2).2⟩⟩
      rw [hoth b (fun hh => hbt.2 i (hh ▸ p1))]; exact p2
    · intro i b e o
      show (if b = blk ∧ m * T.sz ≤ o ∧ o < m * T.sz + news.length then news[o - m * T.sz]? else g.mem b o) = none
      rw [if_neg (by rintro ⟨rfl, _⟩; exact hbt.2 i e)]; exact h.bmem i b e o
    · intro i b e; rw [hsize]; exact h.blt i b e
    · intro i G e
      obtain ⟨cs', p1, p2, p3, p4, p5, p6⟩ := h.gr i G e
      refine ⟨cs', p1, p2, p3, p4, p5, fun hc => ?_⟩
      obtain ⟨b, c', ty', q1, q2, q3⟩ := p6 hc
      exact ⟨b, c', ty', q1, by rw [hoth b (fun hh => hbt.2 i (hh ▸ q1))]; exact q2, q3⟩
    · intro u n e
      show ∃ T', (g.tg.set t { T with m := m + k })[u]? = some T' ∧ _
      change (S.ts.set t (m + k))[u]? = some n at e
      rw [List.getElem?_set] at e
      by_cases hu : t = u
      · subst hu
        have hlt : t < S.ts.length := (List.getElem?_eq_some_iff.1 hts).1
        have hlt' : t < g.tg.length := (List.getElem?_eq_some_iff.1 hT).1
        simp [hlt] at e
        subst e
        refine ⟨{ T with m := m + k }, by simp [hlt'], rfl, hc, j4, fun _ => ⟨blk, _, E, hb, hnew, by simp; omega, fun o ho => ?_⟩⟩
        show (if blk = blk ∧ m * T.sz ≤ o ∧ o < m * T.sz + news.length then news[o - m * T.sz]? else g.mem blk o) = none
        simp only at ho
        rw [Nat.add_mul] at ho
        rw [if_neg (by omega)]
        exact i4 o (by rw [hm]; omega)
      · rw [if_neg hu] at e
        obtain ⟨U, p1, p2, p3, p4, p5⟩ := h.tag u n e
        refine ⟨U, by rw [List.getElem?_set, if_neg hu]; exact p1, p2, p3, p4, fun hlt => ?_⟩
        obtain ⟨b, c', ty', q1, q2, q3, q4⟩ := p5 hlt
        have hne : b ≠ blk := fun hh => hu (h.tinj t u T U blk hT p1 hb (hh ▸ q1) hact hlt)
        refine ⟨b, c', ty', q1, by rw [hoth b hne]; exact q2, q3, fun o ho => ?_⟩
        show (if b = blk ∧ m * T.sz ≤ o ∧ o < m * T.sz + news.length then news[o - m * T.sz]? else g.mem b o) = none
        rw [if_neg (by rintro ⟨hh, _⟩; exact hne hh)]; exact q4 o ho
    · intro u U b e1 e2 e3
      rw [hsize]
      rcases hgt u U e1 with ⟨rfl, rfl⟩ | ⟨_, e⟩
      · rw [show ({ T with m := m + k } : Tg).base = T.base from rfl, hb] at e2; cases e2; exact hbt
      · exact h.tbx u U b e e2 e3
    · intro u v U X b e1 e2 e3 e4 e5 e6
      rcases hgt u U e1 with ⟨rfl, rfl⟩ | ⟨hu, e⟩ <;> rcases hgt v X e2 with ⟨rfl, rfl⟩ | ⟨hv, e'⟩
      · rfl
      · exact h.tinj _ v T X b hT e' e3 e4 hact e6
      · exact h.tinj u _ U T b e hT e3 e4 e5 hact
      · exact h.tinj u v U X b e e' e3 e4 e5 e6
    · refine h.fam.keep hle rfl (fun _ _ _ => Iff.rfl) h.fam.bx (by rw [hsize]; exact Nat.le_refl _) (fun i j F b e1 e2 => ?_)
      obtain ⟨q1, q2, q3, q4⟩ := h.fam.out i j F b e1 e2
      have hne : b ≠ blk := by rintro rfl; exact q4 t T hT hb hact
      refine ⟨hoth b hne, fun o => ?_, q3, fun u U e3 e4 => ?_⟩
      · show (if b = blk ∧ m * T.sz ≤ o ∧ o < m * T.sz + news.length then news[o - m * T.sz]? else g.mem b o) = none
        rw [if_neg (by rintro ⟨hh, _⟩; exact hne hh)]; exact q2 o
      · rcases hgt u U e3 with ⟨rfl, rfl⟩ | ⟨_, e⟩
        · rw [show ({ T with m := m + k } : Tg).base = T.base from rfl, hb] at e4; cases e4; exact absurd rfl hne
        · exact q4 u U e e4
  · have ho : Owned g blk := .inr (.inl ⟨t, T, hT, hb, hact⟩)
    refine ⟨hle, by rw [← hW]; rfl, by rw [← hW]; rfl, by rw [← hW]; rfl, by rw [hsize]; exact Nat.le_refl _, fun b _ hn => hoth b (fun hh => hn (hh ▸ ho)), fun b hb' => ?_, fun b o x e => ?_⟩
    · rcases hb' with ⟨i, e⟩ | ⟨u, U, e1, e2, e3⟩ | ⟨i, j, F, e1, e2⟩
      · exact .inl (.inl ⟨i, e⟩)
      · rcases hgt u U e1 with ⟨rfl, rfl⟩ | ⟨_, e⟩
        · rw [show ({ T with m := m + k } : Tg).base = T.base from rfl, hb] at e2; cases e2; exact .inl ho
        · exact .inl (.inr (.inl ⟨u, U, e, e2, e3⟩))
      · exact .inl (.inr (.inr ⟨i, j, F, e1, e2⟩))
    · change (if b = blk ∧ m * T.sz ≤ o ∧ o < m * T.sz + news.length then news[o - m * T.sz]? else g.mem b o) = some x at e
      split at e
      · rename_i hh; rw [hh.1]; exact .inr (.inl ho)
      · exact .inl e
end Go.Pv
