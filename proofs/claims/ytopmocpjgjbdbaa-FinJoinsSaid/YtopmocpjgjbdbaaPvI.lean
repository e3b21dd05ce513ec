/- More operations: rows made, copied, cut from arrays; text; own cells told anew. -/
import Derived.Test.YtopmocpjgjbdbaaPvL
import Derived.Laws.CopyRow
import Derived.Laws.MakeOwn
import Derived.Laws.BytesString
import Derived.Laws.IdiomCopy
namespace Go.Pv
open Go.RowKit

/-- So many times the same cells. -/
def reps {α : Type} (n : Nat) (zs : List α) : List α := (List.replicate n zs).flatten
theorem reps_len {α : Type} (n : Nat) (zs : List α) : (reps n zs).length = n * zs.length := by
  unfold reps; rw [flat_len (sz := zs.length) (fun e he => by rw [(List.mem_replicate.1 he).2])]; simp
theorem reps_get {α : Type} {n : Nat} {zs : List α} {j : Nat} (h : j < n * zs.length) : (reps n zs)[j]? = zs[j % zs.length]? := by
  have h0 : 0 < zs.length := by
    rcases Nat.eq_zero_or_pos zs.length with h1 | h1
    · rw [h1] at h; omega
    · exact h1
  have hd : j / zs.length < n := Nat.div_lt_of_lt_mul (by rw [Nat.mul_comm]; exact h)
  have hm := Nat.mod_lt j h0
  have := flat_get (sz := zs.length) (es := List.replicate n zs) (i := j / zs.length) (j := j % zs.length) (e := zs) (c := zs[j % zs.length]) (fun e he => by rw [(List.mem_replicate.1 he).2]) (by simp [hd]) (by simp [hm])
  unfold reps
  rw [show j / zs.length * zs.length + j % zs.length = j by rw [Nat.mul_comm]; exact Nat.div_add_mod j zs.length] at this
  rw [this]; simp [hm]

theorem set_self {α : Type} {l : List α} {i : Nat} {x : α} (h : l[i]? = some x) : l.set i x = l := by
  apply List.ext_getElem?
  intro j
  rw [List.getElem?_set]
  by_cases hj : i = j
  · subst hj
    have := (List.getElem?_eq_some_iff.1 h).1
    simp [this, h]
    obtain ⟨h1, h2⟩ := List.getElem?_eq_some_iff.1 h
    exact h2.symm
  · rw [if_neg hj]
theorem flat_take1 {α : Type} : ∀ (l : List (List α)) (k : Nat), (∀ e ∈ l, e.length = 1) → (l.take k).flatten = l.flatten.take k
  | [], k, _ => by simp
  | e :: l, 0, _ => by simp
  | e :: l, k + 1, he => by
    have h1 := he e (List.mem_cons_self ..)
    obtain ⟨x, rfl⟩ : ∃ x, e = [x] := by
      match e, h1 with
      | [x], _ => exact ⟨x, rfl⟩
    rw [List.take_succ_cons, List.flatten_cons, flat_take1 l k (fun e' h' => he e' (List.mem_cons_of_mem _ h')), List.flatten_cons]
    rfl
theorem flat_eByte (l : List Int) : (l.map fun n => [D.v (.int .u8 n)]).flatten = l.map fun n => D.v (.int .u8 n) := by
  induction l with
  | nil => rfl
  | cons x l ih => simp [ih]
/-- The cells of a row that grows, one tag each. -/
def tagRow (t ez n : Nat) : List PV := (List.range n).map fun i => .app (t + i) ez []

/-- What an own variable holds, told in other words. -/
theorem Inv.recell {g : Gh} {S : Sx} {w : World} (h : Inv g S w) {b : Nat} {cs cs' : List PV} (hb : S.bs[b]? = some (some cs)) (hne : cs ≠ []) (hnf : isFam cs = false) (hnf' : isFam cs' = false) (hl : cs'.length = cs.length)
    (k : ∀ (blk : Nat) (cur : Array Value) (ty : TypeId), g.bx[b]? = some (some blk) → w.heap[blk]? = some (.cells cur ty (0, 0)) → ∀ (j : Nat) (c' : PV) (x : Value), cs'[j]? = some c' → cur[j]? = some x → V g c' x) : Inv g ⟨S.bs.set b (some cs'), S.ts⟩ w := by
  have hlt := (List.getElem?_eq_some_iff.1 hb).1
  refine ⟨by simp [h.hbx], h.htg, h.mem, h.one, ?_, ?_, h.bmem, h.blt, h.inj, ?_, h.tag, h.tbx, h.tinj, ?_⟩
  · intro i ds e hne' hf'
    change (S.bs.set b (some cs'))[i]? = _ at e
    rw [List.getElem?_set] at e
    by_cases hi : b = i
    · subst hi
      simp only [if_true, hlt] at e
      obtain rfl : cs' = ds := by simpa using e
      obtain ⟨blk, cur, ty, k1, k2, k3, k4⟩ := h.box b cs hb hne hnf
      refine ⟨blk, cur, ty, k1, k2, by omega, fun j c x e1 e2 => ?_⟩
      have hj := (List.getElem?_eq_some_iff.1 e1).1
      have hj' : cs[j]? = some (cs[j]'(by omega)) := List.getElem?_eq_getElem (by omega)
      exact ⟨k blk cur ty k1 k2 j c x e1 e2, (k4 j _ x hj' e2).2⟩
    · rw [if_neg hi] at e; exact h.box i ds e hne' hf'
  · intro i e
    change (S.bs.set b (some cs'))[i]? = _ at e
    rw [List.getElem?_set] at e
    by_cases hi : b = i
    · subst hi; simp [hlt] at e
    · rw [if_neg hi] at e; exact h.nob i e
  · intro i G e
    obtain ⟨ds, k1, k2, k3⟩ := h.gr i G e
    by_cases hi : b = i
    · subst hi
      rw [hb] at k1
      obtain rfl : cs = ds := by simpa using k1
      exact ⟨cs', by show (S.bs.set b _)[b]? = _; simp [hlt], by rw [hl, k2], k3⟩
    · exact ⟨ds, by show (S.bs.set b _)[i]? = _; rw [List.getElem?_set, if_neg hi]; exact k1, k2, k3⟩
  · refine h.fam.keep (.refl g) rfl (fun i ds hf => fam_set (fun cs2 e2 => ?_) (fun cs2 e2 => ?_) hf) (fun i ds e hf => ?_) (Nat.le_refl _) (fun i j F b e1 e2 => ⟨rfl, (h.fam.out i j F b e1 e2).2⟩)
    · rw [hb] at e2; obtain rfl : cs = cs2 := by simpa using e2
      exact hnf
    · obtain rfl : cs' = cs2 := by simpa using e2
      exact hnf'
    · exact h.fam.bx i ds e hf

/-- Tags for slices that are none. -/
theorem Inv.tags0 {g : Gh} {S : Sx} {w : World} (h : Inv g S w) (ez : Nat) : ∀ n : Nat, ∃ g', g'.bx = g.bx ∧ g'.gx = g.gx ∧ Inv g' ⟨S.bs, S.ts ++ List.replicate n 0⟩ w ∧ Ext g w g' w ∧ ∀ i, i < n → V g' (.app (S.ts.length + i) ez []) (.slice none 0 0)
  | 0 => ⟨g, rfl, rfl, by simpa using h, .refl g w, fun i hi => absurd hi (Nat.not_lt_zero i)⟩
  | n + 1 => by
    obtain ⟨g1, b1, b2, h1, h2, h3⟩ := Inv.tags0 h ez n
    obtain ⟨g2, c1, c2, k1, k2, k3⟩ := h1.retag' (sz := ez) (es := []) (v := .slice none 0 0) (.sl ez true [] none 0 [] (by simp) (Nat.le_refl _) (fun _ => rfl) (fun _ => rfl) (by simp) rfl (by simp) (by simp))
    refine ⟨g2, c1.trans b1, c2.trans b2, ?_, h2.trans k3, fun i hi => ?_⟩
    · have : (S.ts ++ List.replicate n 0) ++ [0] = S.ts ++ List.replicate (n + 1) 0 := by rw [List.append_assoc, ← List.replicate_succ']
      rw [← this]; exact k2
    · by_cases hin : i = n
      · subst hin
        have : (S.ts ++ List.replicate i 0).length = S.ts.length + i := by simp
        simp only [this] at k1; exact k1
      · exact (h3 i (by omega)).mono k3.le

/-- A cell of an own variable gets a tag. -/
theorem Wk.retagc {g0 : Gh} {w0 : World} {st : St} {b off sz : Nat} {cs : List PV} {es : List (List D)} (hb : st.S.bs[b]? = some (some cs)) (hc : cs[off]? = some (.d (.sl sz true es))) :
    Wk g0 w0 st (st.to ⟨st.S.bs.set b (some (cs.set off (.app st.S.ts.length sz es))), st.S.ts ++ [es.length]⟩) := by
  rintro a w ⟨g, k1, k2, k3, k4, k5⟩
  have hne : cs ≠ [] := by rintro rfl; simp at hc
  have hnf : isFam cs = false := k1.notFam_get hb hc (by intro e; cases e) (by intro ds e; cases e)
  obtain ⟨blk, cur, ty, j1, j2, j3, j4⟩ := k1.box b cs hb hne hnf
  have hlt : off < cs.length := (List.getElem?_eq_some_iff.1 hc).1
  have hx : cur[off]? = some (cur[off]'(by omega)) := Array.getElem?_eq_getElem (by omega)
  have hv := (j4 off _ _ hc hx).1
  obtain ⟨g', b1, b2, h1, h2, h3⟩ := k1.retag' (by cases hv with | d _ _ h => exact h)
  refine ⟨g', h2.recell (S := ⟨st.S.bs, st.S.ts ++ [es.length]⟩) hb hne hnf (notFam_set hnf (by intro e; cases e)) (by simp) (fun blk2 cur2 ty2 q1 q2 j c' x q3 q4 => ?_), k2.trans h3, k3, k4, fun i hi => (k5 i hi).mono h3.le⟩
  rw [b1, j1] at q1
  obtain rfl : blk = blk2 := by simpa using q1
  rw [j2] at q2
  obtain rfl : cur = cur2 := by simpa using congrArg (fun x => match x with | some (Obj.cells c _ _) => c | _ => #[]) q2
  rw [List.getElem?_set] at q3
  by_cases hj : off = j
  · subst hj
    simp only [if_true, hlt] at q3
    obtain rfl : .app st.S.ts.length sz es = c' := by simpa using q3
    rw [hx] at q4
    obtain rfl : cur[off]'(by omega) = x := by simpa using q4
    exact h1
  · rw [if_neg hj] at q3
    exact ((j4 j c' x q3 q4).1).mono h3.le

mutual
/-- What is told of the own row 'b', when it becomes data. -/
def fzP (b sz : Nat) (es : List (List D)) : PV → List Prop × PV
  | .ms b' off sz' n' => bif Nat.beq b' b then (bif Nat.beq off 0 && Nat.beq sz' sz then ([n' = es.length], .d (.sl sz false es)) else ([], .junk)) else ([], .ms b' off sz' n')
  | .vec b' sz' n' => bif Nat.beq b' b then (bif Nat.beq sz' sz then ([n' = es.length], .d (.sl sz false es)) else ([], .junk)) else ([], .vec b' sz' n')
  | .ptr b' o => bif Nat.beq b' b then ([], .junk) else ([], .ptr b' o)
  | .vp b' N o => bif Nat.beq b' b then ([], .junk) else ([], .vp b' N o)
  | .agg cs => ((fzL b sz es cs).1, .agg (fzL b sz es cs).2)
  | .tup cs => ((fzL b sz es cs).1, .tup (fzL b sz es cs).2)
  | .fn f fi ca => ((fzL b sz es fi).1 ++ (fzL b sz es ca).1, .fn f (fzL b sz es fi).2 (fzL b sz es ca).2)
  | .opt c p => ((fzP b sz es p).1, .opt c (fzP b sz es p).2)
  | p => ([], p)
def fzL (b sz : Nat) (es : List (List D)) : List PV → List Prop × List PV
  | [] => ([], [])
  | p :: ps => ((fzP b sz es p).1 ++ (fzL b sz es ps).1, (fzP b sz es p).2 :: (fzL b sz es ps).2)
end
def AllQ : List Prop → Prop
  | [] => True
  | φ :: l => φ ∧ AllQ l
theorem AllQ_app : ∀ {l m : List Prop}, AllQ (l ++ m) ↔ AllQ l ∧ AllQ m
  | [], m => by simp [AllQ]
  | φ :: l, m => by simp only [List.cons_append, AllQ, AllQ_app (l := l), and_assoc]
theorem fzL_len {b sz : Nat} {es : List (List D)} : ∀ ps : List PV, (fzL b sz es ps).2.length = ps.length
  | [] => by simp [fzL]
  | p :: ps => by simp [fzL, fzL_len ps]
theorem fzL_get {b sz : Nat} {es : List (List D)} : ∀ (ps : List PV) (i : Nat) (c : PV), (fzL b sz es ps).2[i]? = some c → AllQ (fzL b sz es ps).1 → ∃ p, ps[i]? = some p ∧ c = (fzP b sz es p).2 ∧ AllQ (fzP b sz es p).1
  | [], i, c, h, _ => by simp [fzL] at h
  | p :: ps, i, c, h, ha => by
    simp only [fzL] at h ha
    obtain ⟨a1, a2⟩ := AllQ_app.1 ha
    cases i with
    | zero => simp at h; exact ⟨p, rfl, h.symm, a1⟩
    | succ i => obtain ⟨q, h1, h2⟩ := fzL_get ps i c (by simpa using h) a2; exact ⟨q, by simpa using h1, h2⟩
theorem fzP_ok {g g' : Gh} {b sz : Nat} {es : List (List D)} (hn : ∀ p v, PV.nob b p = true → V g p v → V g' p v) (hr : ∀ v, V g (.ms b 0 sz es.length) v → V g' (.d (.sl sz false es)) v) (hr2 : ∀ v, V g (.vec b sz es.length) v → V g' (.d (.sl sz false es)) v)
    {p : PV} {v : Value} (h : V g p v) : AllQ (fzP b sz es p).1 → V g' (fzP b sz es p).2 v := by
  have nb : ∀ {i : Nat}, Nat.beq i b = false → (i != b) = true := fun {i} h => by
    rw [bne_iff_ne]; rintro rfl; rw [Nat.beq_refl] at h; cases h
  induction h with
  | ms i off sz' n cap a h1 hc hx hnn =>
    intro ha
    unfold fzP at ha ⊢
    cases hi : Nat.beq i b with
    | false => simp only [cond_false]; exact hn _ _ (nb hi) (.ms i off sz' n cap a h1 hc hx hnn)
    | true =>
      obtain rfl := Nat.eq_of_beq_eq_true hi
      rw [hi] at ha
      simp only [cond_true] at ha ⊢
      cases hj : (Nat.beq off 0 && Nat.beq sz' sz) with
      | false => simp only [cond_false]; exact .junk _
      | true =>
        rw [hj] at ha
        simp only [cond_true] at ha ⊢
        simp only [Bool.and_eq_true] at hj
        obtain rfl := Nat.eq_of_beq_eq_true hj.1
        obtain rfl := Nat.eq_of_beq_eq_true hj.2
        obtain rfl := ha.1
        exact hr _ (.ms i 0 sz' _ cap a h1 hc hx hnn)
  | vec i sz' n cap A G hG hz hle he hc hx hnn =>
    intro ha
    unfold fzP at ha ⊢
    cases hi : Nat.beq i b with
    | false => simp only [cond_false]; exact hn _ _ (nb hi) (.vec i sz' n cap A G hG hz hle he hc hx hnn)
    | true =>
      obtain rfl := Nat.eq_of_beq_eq_true hi
      rw [hi] at ha
      simp only [cond_true] at ha ⊢
      cases hj : Nat.beq sz' sz with
      | false => simp only [cond_false]; exact .junk _
      | true =>
        rw [hj] at ha
        simp only [cond_true] at ha ⊢
        obtain rfl := Nat.eq_of_beq_eq_true hj
        obtain rfl := ha.1
        exact hr2 _ (.vec i sz' _ cap A G hG hz hle he hc hx hnn)
  | ptr i off blk h1 hg =>
    intro _
    unfold fzP
    cases hi : Nat.beq i b with
    | false => simp only [cond_false]; exact hn _ _ (nb hi) (.ptr i off blk h1 hg)
    | true => simp only [cond_true]; exact .junk _
  | vp i N off blk G hG h0 hle he =>
    intro _
    unfold fzP
    cases hi : Nat.beq i b with
    | false => simp only [cond_false]; exact hn _ _ (nb hi) (.vp i N off blk G hG h0 hle he)
    | true => simp only [cond_true]; exact .junk _
  | agg cs vs hl h1 h ih =>
    intro ha
    unfold fzP at ha ⊢
    refine .agg _ _ (by rw [fzL_len]; exact hl) h1 (fun i c x e1 e2 => ?_)
    obtain ⟨p, q1, rfl, q3⟩ := fzL_get cs i c e1 ha
    exact ih i p x q1 e2 q3
  | tup cs vs hl h ih =>
    intro ha
    unfold fzP at ha ⊢
    refine .tup _ _ (by rw [fzL_len]; exact hl) (fun i c x e1 e2 => ?_)
    obtain ⟨p, q1, rfl, q3⟩ := fzL_get cs i c e1 ha
    exact ih i p x q1 e2 q3
  | fn f fi ca fv cv hf hc h1 h2 ih1 ih2 =>
    intro ha
    unfold fzP at ha ⊢
    obtain ⟨a1, a2⟩ := AllQ_app.1 ha
    refine .fn f _ _ fv cv (by rw [fzL_len]; exact hf) (by rw [fzL_len]; exact hc) (fun i c x e1 e2 => ?_) (fun i c x e1 e2 => ?_)
    · obtain ⟨p, q1, rfl, q3⟩ := fzL_get fi i c e1 a1
      exact ih1 i p x q1 e2 q3
    · obtain ⟨p, q1, rfl, q3⟩ := fzL_get ca i c e1 a2
      exact ih2 i p x q1 e2 q3
  | opt c p v h1 h2 ih =>
    intro ha
    unfold fzP at ha ⊢
    exact .opt c _ v (fun hc => ih hc ha) h2
  | d x v h => intro _; exact hn _ _ rfl (.d x v h)
  | app t sz es a cap T h hT hz hle he => intro _; exact hn _ _ rfl (.app t sz es a cap T h hT hz hle he)
  | rp cs blk off f hm hv => intro _; exact hn _ _ rfl (.rp cs blk off f hm hv)
  | fp i j off blk h1 => intro _; exact hn _ _ rfl (.fp i j off blk h1)
  | fs i j off sz n cap a h hc hx hnn => intro _; exact hn _ _ rfl (.fs i j off sz n cap a h hc hx hnn)
  | fv i j sz n cap A b G hF hz hle he hc hx hnn => intro _; exact hn _ _ rfl (.fv i j sz n cap A b G hF hz hle he hc hx hnn)
  | fq i j N off blk b G hF h0 hle he => intro _; exact hn _ _ rfl (.fq i j N off blk b G hF h0 hle he)
  | fm i j blk h1 => intro _; exact hn _ _ rfl (.fm i j blk h1)
  | un => intro _; exact .un
  | junk v => intro _; exact .junk v

theorem toDs_notFam {cs : List PV} {ds : List D} (h : toDs cs = some ds) : isFam cs = false := by
  cases cs with
  | nil => rfl
  | cons c r =>
    obtain ⟨h1, h2⟩ := toDs_get h
    obtain ⟨d, hd⟩ : ∃ d, ds[0]? = some d := by
      have : 0 < ds.length := by rw [← h1]; simp
      exact ⟨ds[0], by simp [this]⟩
    obtain ⟨p, hp, hpd⟩ := h2 0 d hd
    obtain rfl : c = p := by simpa using hp
    cases c <;> first | rfl | (simp [PV.toD1] at hpd; done)
theorem fzL_fam {b sz : Nat} {es : List (List D)} {cs : List PV} (h : isFam (fzL b sz es cs).2 = true) : isFam cs = true := by
  cases cs with
  | nil => simp [fzL, isFam] at h
  | cons c r =>
    simp only [fzL] at h
    cases c <;> first | rfl | skip
    all_goals (exfalso; revert h; unfold fzP; simp only [isFam]; first | (intro h; cases h; done) | skip)
    all_goals (cases Nat.beq _ b <;> simp [isFam] <;> (try (cases Nat.beq _ sz <;> simp [isFam])) <;> (try (cases Nat.beq _ 0 <;> simp [isFam])))
theorem fzL_fam' {b sz : Nat} {es : List (List D)} {cs : List PV} (h : isFam cs = true) : isFam (fzL b sz es cs).2 = true := by
  cases cs with
  | nil => cases h
  | cons c r => cases c <;> first | (simp [isFam] at h; done) | (simp [fzL, fzP, isFam]; done)
theorem Member.conv {g g' : Gh} {w : World} {F : Fx} {cs cs' : List PV} (h : Member g w F cs) (hl : cs'.length = cs.length) (hv : ∀ (i : Nat) (c c' : PV) (x : Value), cs[i]? = some c → cs'[i]? = some c' → V g c x → V g' c' x) : Member g' w F cs' := by
  have hg : ∀ (i : Nat) (c' : PV), cs'[i]? = some c' → ∃ c, cs[i]? = some c := fun i c' e => ⟨_, List.getElem?_eq_getElem (by have := (List.getElem?_eq_some_iff.1 e).1; omega)⟩
  have hg' : ∀ (i : Nat) (c : PV), cs[i]? = some c → ∃ c', cs'[i]? = some c' := fun i c' e => ⟨_, List.getElem?_eq_getElem (by have := (List.getElem?_eq_some_iff.1 e).1; omega)⟩
  unfold Member at *
  split at h
  · intro hne
    obtain ⟨b, cur, ty, k1, k2, k3, k4⟩ := h (by rintro rfl; exact hne (List.eq_nil_of_length_eq_zero (by simpa using hl)))
    exact ⟨b, cur, ty, k1, k2, by omega, fun j c x e1 e2 => let ⟨c0, e0⟩ := hg j c e1; ⟨hv j c0 c x e0 e1 (k4 j c0 x e0 e2).1, (k4 j c0 x e0 e2).2⟩⟩
  · obtain ⟨k1, k2, k3, k4, k5⟩ := h
    refine ⟨by omega, k2, k3, k4, fun hc => ?_⟩
    obtain ⟨b, cur, ty, j1, j2, j3, j4⟩ := k5 hc
    exact ⟨b, cur, ty, j1, j2, j3, fun j c x e1 e2 => let ⟨c0, e0⟩ := hg j c e1; ⟨hv j c0 c x e0 e1 (j4 j c0 x e0 e2).1, (j4 j c0 x e0 e2).2⟩⟩
  · obtain ⟨b, es, clock, k1, k2, k3, k4⟩ := h
    refine ⟨b, es, clock, k1, k2, by omega, fun i e he => ?_⟩
    obtain ⟨k, v, j1, j2, j3, j4⟩ := k4 i e he
    obtain ⟨k', q1⟩ := hg' _ _ j1
    obtain ⟨v', q2⟩ := hg' _ _ j2
    exact ⟨k', v', q1, q2, hv _ _ _ _ j1 q1 j3, hv _ _ _ _ j2 q2 j4⟩
/-- An own row becomes data: what is told of it elsewhere is told anew. -/
theorem Inv.freeze2 {g : Gh} {S : Sx} {w : World} (k1 : Inv g S w) {b sz : Nat} {cs0 : List PV} {ds : List D} {es : List (List D)} {bs' : List (Option (List PV))} (hcs : S.bs[b]? = some (some cs0)) (hds : toDs cs0 = some ds) (hes : es.flatten = ds) (hz : ∀ e ∈ es, e.length = sz)
    (hlen : bs'.length = S.bs.length) (hbb : bs'[b]? = some none) (hno : ∀ i, i ≠ b → bs'[i]? = some none → S.bs[i]? = some none)
    (hcv : ∀ i cs', i ≠ b → bs'[i]? = some (some cs') → ∃ cs, S.bs[i]? = some (some cs) ∧ (cs' = cs ∧ PV.nobL b cs = true ∨ cs' = (fzL b sz es cs).2 ∧ AllQ (fzL b sz es cs).1)) :
    ∃ g', Inv g' ⟨bs', S.ts⟩ w ∧ (∀ (g0 : Gh) (w0 : World), Gl g0 b → Ext g0 w0 g w → Ext g0 w0 g' w) ∧ (∀ p v, PV.nob b p = true → V g p v → V g' p v) ∧ (∀ v, V g (.ms b 0 sz es.length) v → V g' (.d (.sl sz false es)) v) ∧ (∀ v, V g (.vec b sz es.length) v → V g' (.d (.sl sz false es)) v) := by
  have hblt : b < S.bs.length := (List.getElem?_eq_some_iff.1 hcs).1
  obtain ⟨hd1, hd2⟩ := toDs_get hds
  have hel : ds.length = es.length * sz := by rw [← hes, flat_len hz]
  obtain ⟨f, hf0, hfx, hfone, hrow, hrow2⟩ : ∃ f : Nat → Nat → Option Value, (∀ k o x, g.mem k o = some x → f k o = none) ∧ (∀ k o x, f k o = some x → w.cell? ⟨k, o, none⟩ = some x ∧ Owned g k ∧ g.bx[b]? = some (some k)) ∧ (∀ k o x, f k o = some x → x.oneCell' = true) ∧
      (∀ v, V g (.ms b 0 sz es.length) v → V (g.fz b f) (.d (.sl sz false es)) v) ∧ (∀ v, V g (.vec b sz es.length) v → V (g.fz b f) (.d (.sl sz false es)) v) := by
    by_cases hne : ds = []
    · subst hne
      refine ⟨fun _ _ => none, fun _ _ _ _ => rfl, fun k o x (h : (none : Option Value) = some x) => (by cases h), fun k o x (h : (none : Option Value) = some x) => (by cases h), fun v hv => ?_, fun v hv => ?_⟩
      · cases hv with
        | ms _ _ _ _ cap a' hh hc hx hnn =>
          exact .d _ _ (.sl sz false es a' cap [] hz hc (fun h => by cases h) hnn hx (by rw [hes]; rfl) (fun p j x _ h => by simp at h) (fun j c x h => by rw [hes] at h; simp at h))
      · cases hv with
        | vec _ _ _ cap A G hG hGz hle he hc hx hnn =>
          obtain ⟨cs1, j1, j2, j3, _⟩ := k1.gr b G hG
          have h0 : es.length = 0 := by
            rcases Nat.eq_zero_or_pos es.length with h | h
            · exact h
            · have := Nat.mul_pos h (by omega : 0 < sz); simp at hel; omega
          have : es = [] := List.eq_nil_of_length_eq_zero h0
          subst this
          have hm : G.m = 0 := by
            rw [hcs] at j1
            obtain rfl : cs0 = cs1 := by simpa using j1
            rw [hd1] at j2
            rcases Nat.eq_zero_or_pos G.m with h | h
            · exact h
            · have := Nat.mul_pos h j3; simp at j2; omega
          have hcap := (he (by simp [hm])).1
          by_cases hc0 : 0 < cap
          · obtain ⟨blk, e1, rfl⟩ := (he (by simp [hm])).2 hc0
            exact .d _ _ (.sl sz false [] (some (blk, 0)) cap [] (by simp) hc (fun h => by cases h) (fun h => by cases h) hx (by simp) (fun p j x _ h => by simp at h) (fun j c x h => by simp at h))
          · obtain rfl : cap = 0 := by omega
            exact .d _ _ (.sl0 sz A)
    · have hne' : cs0 ≠ [] := by rintro rfl; simp at hd1; exact hne (List.eq_nil_of_length_eq_zero hd1.symm)
      have hnf : isFam cs0 = false := toDs_notFam hds
      obtain ⟨blk, cur, ty, j1, j2, j3, j4⟩ := k1.box b _ hcs hne' hnf
      have hnomem := k1.bmem b blk j1
      have hle : ∀ k o x, g.mem k o = some x → (if k = blk ∧ o < ds.length then cur[o]? else none) = none := fun k o x e => by
        rw [if_neg]; rintro ⟨rfl, _⟩; rw [hnomem o] at e; cases e
      have hm : ∀ k o x, g.mem k o = some x → (g.fz b (fun k o => if k = blk ∧ o < ds.length then cur[o]? else none)).mem k o = some x := fun k o x e => by simp only [Gh.fz, hle k o x e]; exact e
      have hes0 : es.length ≠ 0 := by
        intro h
        have : es = [] := List.eq_nil_of_length_eq_zero h
        subst this; simp at hes; first | exact hne hes.symm | exact hne hes
      have main : ∀ cap, es.length ≤ cap → cap ≤ maxLen → VD (g.fz b (fun k o => if k = blk ∧ o < ds.length then cur[o]? else none)).mem (.sl sz false es) (.slice (some ⟨blk, 0, none⟩) es.length cap) := by
        intro cap hc hx
        have hlen : (cur.toList.take ds.length).length = ds.length := by simp; omega
        refine VD.row blk 0 cap hz hc (fun h => by cases h) hx (vs := cur.toList.take ds.length) ⟨by rw [hes, hlen], fun j c x q1 q2 => ?_⟩ (fun j x hj => ?_)
        · rw [hes] at q1
          rw [List.getElem?_take] at q2
          split at q2
          · obtain ⟨p, hp, hpd⟩ := hd2 j c q1
            have := j4 j p x hp (by simpa using q2)
            exact ⟨(this.1.toD1 hpd).mono hm, this.2⟩
          · cases q2
        · rw [List.getElem?_take] at hj
          split at hj
          · rename_i hjl
            simp only [Gh.fz, Nat.zero_add, hjl, and_self, if_true]
            have hj' : cur[j]? = some x := by simpa using hj
            simp [hj']
          · cases hj
      refine ⟨fun k o => if k = blk ∧ o < ds.length then cur[o]? else none, hle, fun k o x h => ?_, fun k o x h => ?_, fun v hv => ?_, fun v hv => ?_⟩
      · change (if k = blk ∧ o < ds.length then cur[o]? else none) = some x at h
        split at h
        · rename_i hk
          obtain ⟨rfl, ho⟩ := hk
          exact ⟨by rw [cell_of_row w k o cur ty _ j2]; exact h, .inl ⟨b, j1⟩, j1⟩
        · cases h
      · change (if k = blk ∧ o < ds.length then cur[o]? else none) = some x at h
        split at h
        · rename_i hk
          have : cs0[o]? = some (cs0[o]'(by omega)) := List.getElem?_eq_getElem (by omega)
          exact (j4 o _ x this h).2
        · cases h
      · cases hv with
        | ms _ _ _ _ cap a' hh hc hx hnn =>
          obtain ⟨blk', e1, e2, _⟩ := hh hes0
          rw [j1] at e2
          obtain rfl : blk = blk' := by simpa using e2
          subst e1
          exact .d _ _ (main cap hc hx)
      · cases hv with
        | vec _ _ _ cap A G hG hGz hle he hc hx hnn =>
          obtain ⟨cs1, i1, i2, i3, _⟩ := k1.gr b G hG
          rw [hcs] at i1
          obtain rfl : cs0 = cs1 := by simpa using i1
          have hmm : es.length = G.m := by
            rw [hd1, hel, hGz] at i2
            exact Nat.eq_of_mul_eq_mul_right (by omega) i2
          obtain ⟨blk', e1, rfl⟩ := (he hmm).2 (by omega)
          rw [j1] at e1
          obtain rfl : blk = blk' := by simpa using e1
          exact .d _ _ (main cap hc hx)
  have hmm : ∀ k o x, g.mem k o = some x → (g.fz b f).mem k o = some x := fun k o x e => by simp only [Gh.fz, hf0 k o x e]; exact e
  have hmc : ∀ k o x, (g.fz b f).mem k o = some x → f k o = some x ∨ g.mem k o = some x := fun k o x e => by
    change (match f k o with | some x => some x | none => g.mem k o) = some x at e
    split at e
    · rename_i y hy; cases e; exact .inl hy
    · exact .inr e
  have hbx : ∀ (i k : Nat), (g.fz b f).bx[i]? = some (some k) → i ≠ b ∧ g.bx[i]? = some (some k) := fun i k e => by
    change (g.bx.set b none)[i]? = _ at e
    rw [List.getElem?_set] at e
    by_cases hi : b = i
    · subst hi; rw [if_pos rfl] at e; split at e <;> cases e
    · rw [if_neg hi] at e; exact ⟨fun hh => hi hh.symm, e⟩
  have hnob : ∀ p v, PV.nob b p = true → V g p v → V (g.fz b f) p v := fun p v hp hv => hv.fz b f hf0 hp
  refine ⟨g.fz b f, ⟨by show (g.bx.set b none).length = bs'.length; simp [k1.hbx, hlen], k1.htg, ?_, ?_, ?_, ?_, ?_, ?_, ?_, ?_, ?_, ?_, k1.tinj, ?_⟩, fun g0 w0 hb k2 => ?_, hnob, hrow, hrow2⟩
  · intro k o x e
    rcases hmc k o x e with e | e
    · exact (hfx k o x e).1
    · exact k1.mem k o x e
  · intro k o x e
    rcases hmc k o x e with e | e
    · exact hfone k o x e
    · exact k1.one k o x e
  · intro i cs' e hne hf
    by_cases hi : i = b
    · subst hi; change bs'[i]? = _ at e; rw [hbb] at e; cases e
    · obtain ⟨cs, e', hc⟩ := hcv i cs' hi e
      have hne' : cs ≠ [] := by
        rintro rfl
        rcases hc with ⟨rfl, _⟩ | ⟨rfl, _⟩
        · exact hne rfl
        · simp [fzL] at hne
      have hl : cs'.length = cs.length := by
        rcases hc with ⟨rfl, _⟩ | ⟨rfl, _⟩
        · rfl
        · exact fzL_len cs
      have hf' : isFam cs = false := by
        rcases hc with ⟨rfl, _⟩ | ⟨rfl, _⟩
        · exact hf
        · cases hx : isFam cs with
          | false => rfl
          | true => rw [fzL_fam' hx] at hf; cases hf
      obtain ⟨blk, cur, ty, j1, j2, j3, j4⟩ := k1.box i cs e' hne' hf'
      refine ⟨blk, cur, ty, by show (g.bx.set b none)[i]? = _; rw [List.getElem?_set, if_neg (fun hh => hi hh.symm)]; exact j1, j2, by omega, fun j c x e1 e2 => ?_⟩
      rcases hc with ⟨rfl, hn⟩ | ⟨rfl, hq⟩
      · exact ⟨hnob _ _ (nobL_get hn j c e1) (j4 j c x e1 e2).1, (j4 j c x e1 e2).2⟩
      · obtain ⟨p, q1, rfl, q3⟩ := fzL_get cs j c e1 hq
        exact ⟨fzP_ok hnob hrow hrow2 (j4 j p x q1 e2).1 q3, (j4 j p x q1 e2).2⟩
  · intro i e
    show (g.bx.set b none)[i]? = _
    rw [List.getElem?_set]
    by_cases hi : b = i
    · subst hi; simp [k1.hbx, hblt]
    · rw [if_neg hi]; exact k1.nob i (hno i (fun hh => hi hh.symm) e)
  · intro i k e o
    obtain ⟨hi, e'⟩ := hbx i k e
    cases hx : (g.fz b f).mem k o with
    | none => rfl
    | some x =>
      rcases hmc k o x hx with h2 | h2
      · exact absurd (k1.inj _ _ _ e' (hfx k o x h2).2.2) hi
      · rw [k1.bmem i k e' o] at h2; cases h2
  · intro i k e; exact k1.blt i k (hbx i k e).2
  · intro i j k e1 e2; exact k1.inj i j k (hbx i k e1).2 (hbx j k e2).2
  · intro i G e
    change (if i = b then none else g.gx i) = some G at e
    split at e
    · cases e
    · rename_i hi
      obtain ⟨cs, j1, j2, j3, j4, j5, j6⟩ := k1.gr i G e
      obtain ⟨cs', hcs'⟩ : ∃ cs', bs'[i]? = some (some cs') := by
        have hlt : i < bs'.length := by have := k1.gr_lt e; omega
        cases hx : bs'[i]? with
        | none => rw [List.getElem?_eq_none_iff] at hx; omega
        | some y => cases y with
          | none => have := hno i hi hx; rw [j1] at this; cases this
          | some z => exact ⟨z, rfl⟩
      obtain ⟨cs2, e2, hc⟩ := hcv i cs' hi hcs'
      rw [j1] at e2
      obtain rfl : cs = cs2 := by simpa using e2
      have hl : cs'.length = cs.length := by
        rcases hc with ⟨rfl, _⟩ | ⟨rfl, _⟩
        · rfl
        · exact fzL_len cs
      refine ⟨cs', hcs', by omega, j3, j4, j5, fun hc => ?_⟩
      obtain ⟨blk, cur, ty, q1, q2⟩ := j6 hc
      exact ⟨blk, cur, ty, by show (g.bx.set b none)[i]? = _; rw [List.getElem?_set, if_neg (fun hh => hi hh.symm)]; exact q1, q2⟩
  · intro t m e
    obtain ⟨T, j1, j2, j3, j4, j5⟩ := k1.tag t m e
    refine ⟨T, j1, j2, j3, j4, fun hlt => ?_⟩
    obtain ⟨blk, cur, ty, i1, i2, i3, i4⟩ := j5 hlt
    refine ⟨blk, cur, ty, i1, i2, i3, fun o ho => ?_⟩
    cases hx : (g.fz b f).mem blk o with
    | none => rfl
    | some x =>
      rcases hmc blk o x hx with h2 | h2
      · exact absurd (hfx blk o x h2).2.2 ((k1.tbx t T blk j1 i1 hlt).2 b)
      · rw [i4 o ho] at h2; cases h2
  · intro t T k e1 e2 e3
    obtain ⟨q1, q2⟩ := k1.tbx t T k e1 e2 e3
    exact ⟨q1, fun i e => q2 i (hbx i k e).2⟩
  · have hfam : ∀ (i : Nat) (cs' : List PV), bs'[i]? = some (some cs') → isFam cs' = true → i ≠ b ∧ ∃ cs, S.bs[i]? = some (some cs) ∧ isFam cs = true ∧ (cs' = cs ∧ PV.nobL b cs = true ∨ cs' = (fzL b sz es cs).2 ∧ AllQ (fzL b sz es cs).1) := by
      intro i cs' e hf
      have hi : i ≠ b := by rintro rfl; rw [hbb] at e; cases e
      obtain ⟨cs, e', hc⟩ := hcv i cs' hi e
      refine ⟨hi, cs, e', ?_, hc⟩
      rcases hc with ⟨rfl, _⟩ | ⟨rfl, _⟩
      · exact hf
      · exact fzL_fam hf
    have hfx' : ∀ i j, (g.fz b f).fx i j = g.fx i j := fun i j => rfl
    refine ⟨fun i cs' e hf => ?_, fun i j cs' m e hf hm => ?_, fun i j F e => ?_, fun i j F b' e hb' => ?_, fun i j i' j' F F' b' e1 e2 => k1.fam.inj i j i' j' F F' b' e1 e2⟩
    · obtain ⟨hi, cs, e', hf', _⟩ := hfam i cs' e hf
      obtain ⟨q1, q2⟩ := k1.fam.bx i cs e' hf'
      exact ⟨by show (g.bx.set b none)[i]? = _; rw [List.getElem?_set, if_neg (fun hh => hi hh.symm)]; exact q1, by show (if i = b then none else g.gx i) = none; rw [if_neg hi]; exact q2⟩
    · obtain ⟨hi, cs, e', hf', hc⟩ := hfam i cs' e hf
      rcases hc with ⟨rfl, hn⟩ | ⟨rfl, hq⟩
      · obtain ⟨F, ds', q1, rfl, q3⟩ := k1.fam.mem i j cs' m e' hf' hm
        have hn' := nobL_get hn (j + 1) _ hm
        refine ⟨F, ds', q1, rfl, q3.conv rfl (fun k c c' x e1 e2 hv => ?_)⟩
        rw [e1] at e2; obtain rfl : c = c' := by simpa using e2
        exact hnob _ _ (nobL_get (by simpa only [PV.nob] using hn') k c e1) hv
      · obtain ⟨p, q1, rfl, q3⟩ := fzL_get cs (j + 1) m hm hq
        obtain ⟨F, ds', q4, rfl, q5⟩ := k1.fam.mem i j cs p e' hf' q1
        refine ⟨F, (fzL b sz es ds').2, q4, by simp only [fzP], q5.conv (fzL_len ds') (fun k c c' x e1 e2 hv => ?_)⟩
        have hq' : AllQ (fzL b sz es ds').1 := by simpa only [fzP] using q3
        obtain ⟨p2, r1, rfl, r3⟩ := fzL_get ds' k c' e2 hq'
        rw [e1] at r1; obtain rfl : c = p2 := by simpa using r1
        exact fzP_ok hnob hrow hrow2 hv r3
    · obtain ⟨cs, q1, q2, q3⟩ := k1.fam.dom i j F e
      have hi : i ≠ b := by rintro rfl; rw [hcs] at q1; obtain rfl : cs0 = cs := (by simpa using q1); rw [toDs_notFam hds] at q2; cases q2
      obtain ⟨cs', hcs'⟩ : ∃ cs', bs'[i]? = some (some cs') := by
        have hlt : i < bs'.length := by have := (List.getElem?_eq_some_iff.1 q1).1; omega
        cases hx : bs'[i]? with
        | none => rw [List.getElem?_eq_none_iff] at hx; omega
        | some y => cases y with
          | none => have := hno i hi hx; rw [q1] at this; cases this
          | some z => exact ⟨z, rfl⟩
      obtain ⟨cs2, e2, hc⟩ := hcv i cs' hi hcs'
      rw [q1] at e2
      obtain rfl : cs = cs2 := by simpa using e2
      refine ⟨cs', hcs', ?_, ?_⟩
      · rcases hc with ⟨rfl, _⟩ | ⟨rfl, _⟩
        · exact q2
        · exact fzL_fam' q2
      · rcases hc with ⟨rfl, _⟩ | ⟨rfl, _⟩
        · exact q3
        · rw [fzL_len]; exact q3
    · obtain ⟨q1, q2, q3, q4⟩ := k1.fam.out i j F b' e hb'
      refine ⟨q1, fun o => ?_, fun i' e' => q3 i' (hbx i' b' e').2, q4⟩
      cases hx : (g.fz b f).mem b' o with
      | none => rfl
      | some x =>
        rcases hmc b' o x hx with h2 | h2
        · exact absurd (hfx b' o x h2).2.2 (q3 b)
        · rw [q2 o] at h2; cases h2
  · refine ⟨⟨fun k o x e => hmm k o x (k2.le.mem k o x e), fun i k e e2 => ?_, fun i G e => ?_, k2.le.tg, k2.le.fx⟩, k2.os, k2.tape, k2.output, k2.size, k2.frame, fun k hk => ?_, fun k o x e => ?_⟩
    · have hi := (List.getElem?_eq_some_iff.1 e).1
      have := hb.le
      obtain ⟨q1, q2⟩ := k2.le.bx i k e e2
      refine ⟨?_, ?_⟩
      · show (g.bx.set b none)[i]? = _
        rw [List.getElem?_set, if_neg (by omega)]; exact q1
      · show (if i = b then none else g.gx i) = none
        rw [if_neg (by omega)]; exact q2
    · have hi := hb.lt e
      obtain ⟨G', q1, q2⟩ := k2.le.gx i G e
      refine ⟨G', by show (if i = b then none else g.gx i) = _; rw [if_neg (by omega)]; exact q1, ?_⟩
      rcases q2 with ⟨q2, q3⟩ | q2
      · exact .inl ⟨q2, by show (g.bx.set b none)[i]? = _; rw [List.getElem?_set, if_neg (by omega)]; exact q3⟩
      · exact .inr q2
    · refine k2.own k ?_
      rcases hk with ⟨i, e⟩ | hk
      · exact .inl ⟨i, (hbx i k e).2⟩
      · exact .inr hk
    · rcases hmc k o x e with e | e
      · rcases k2.own k (hfx k o x e).2.1 with h2 | h2
        · exact .inr (.inl h2)
        · exact .inr (.inr h2)
      · exact k2.memx k o x e

section
variable {P : Program} {o : Oper} {ρ : Operand → PV} {S S' : Sx}

theorem madeCells_get {z : Array Value} {n j : Nat} (h0 : 0 < z.size) (h : j < n * z.size) : (madeCells z (n * z.size))[j]? = z[j % z.size]? := by
  have hm := Nat.mod_lt j h0
  simp [madeCells, h, hm]
theorem o_mk_core {T E : TypeId} {sz b n : Nat} {z : Value} {x y : Operand} {k k' : IntKind} {w : World} {a : Act} {g : Gh} (ho : o.op = .makeSlice T x y) (hT : P.underlying T = some (.slice E)) (hE : TI P E sz b z)
    (hv : ∀ x ∈ o.op.operands, V g (ρ x) (a.eval x))
    (hx : ρ x = .d (.v (.int k ((n : Nat) : Int)))) (hy : ρ y = .d (.v (.int k' ((n : Nat) : Int)))) (hb : n * b ≤ 281474976710656) (hm : n ≤ 9223372036854775807) :
    (execOp a.eval o).run P w = .ok (.value (.slice (some ⟨w.heap.size, 0, none⟩) n n)) (w.alloc (.cells (madeCells z.cells (n * sz)) E)) := by
  obtain ⟨i, t1, t2, t3, t4, t5, t6⟩ := hE
  subst t3 t4
  have e1 := (hx ▸ hv x (by simp [ho, Op.operands])).d_v.1
  have e2 := (hy ▸ hv y (by simp [ho, Op.operands])).d_v.1
  have hr := run_make (P := P) w T E i z hT t1 t2 k k' ((n : Nat) : Int) ((n : Nat) : Int) (by omega) (by omega) (by rw [← Int.natCast_mul, Nat.mul_comm]; omega) (by omega)
  simp only [Int.toNat_natCast] at hr
  simp only [execOp, ho, e1, e2, Sem.run_bind, hr, Result.andThen_ok, Sem.run_pure]
theorem o_mk {T E : TypeId} {sz b n : Nat} {z : Value} {zs : List PV} {x y : Operand} {k k' : IntKind} (ho : o.op = .makeSlice T x y) (hT : P.underlying T = some (.slice E)) (hE : TI P E sz b z) (h0 : 0 < sz) (hz : Zs zs z.cells.toList)
    (hx : ρ x = .d (.v (.int k ((n : Nat) : Int)))) (hy : ρ y = .d (.v (.int k' ((n : Nat) : Int)))) (hb : n * b ≤ 281474976710656) (hm : n ≤ 9223372036854775807) : OpS P o ρ S ⟨S.bs ++ [some (reps n zs)], S.ts⟩ (.ms S.bs.length 0 sz n) := by
  intro g w a next Q hI hv K
  have hr := o_mk_core (w := w) ho hT hE hv hx hy hb hm
  obtain ⟨i, t1, t2, t3, t4, t5, t6⟩ := hE
  subst t3 t4
  have hzl : zs.length = z.cells.size := by have := (hz g).1; simpa using this
  have hbox := hI.newbox (cs := reps n zs) (vs := madeCells z.cells (n * z.cells.size)) E (by
    refine ⟨by rw [reps_len, hzl]; simp [madeCells], fun j c x q1 q2 => ?_⟩
    have hj : j < n * zs.length := by have := (List.getElem?_eq_some_iff.1 q1).1; rwa [reps_len] at this
    rw [reps_get hj] at q1
    rw [Array.getElem?_toList, madeCells_get (by omega) (by rw [← hzl]; exact hj), ← hzl] at q2
    exact (hz g).2 _ c x q1 (by simpa using q2))
  rw [← t5] at hr
  unfold Oper.wp
  rw [hr]
  exact K _ { g with bx := g.bx ++ [some w.heap.size] } _ (.ms S.bs.length 0 _ n n (some (w.heap.size, 0)) (fun _ => ⟨w.heap.size, rfl, by
    show (g.bx ++ [some w.heap.size])[S.bs.length]? = _
    rw [← hI.hbx]; simp, hI.gx_new (Nat.le_refl _)⟩) (Nat.le_refl _) (by simp only [maxLen]; omega) (fun h => by cases h)) hbox.1 hbox.2
/-- A row of slices that are none, each with a tag of its own. -/
theorem o_mkT {T E : TypeId} {b n : Nat} (ez : Nat) {x y : Operand} {k k' : IntKind} (ho : o.op = .makeSlice T x y) (hT : P.underlying T = some (.slice E)) (hE : TI P E 1 b (.slice none 0 0))
    (hx : ρ x = .d (.v (.int k ((n : Nat) : Int)))) (hy : ρ y = .d (.v (.int k' ((n : Nat) : Int)))) (hb : n * b ≤ 281474976710656) (hm : n ≤ 9223372036854775807) : OpS P o ρ S ⟨S.bs ++ [some (tagRow S.ts.length ez n)], S.ts ++ List.replicate n 0⟩ (.ms S.bs.length 0 1 n) := by
  intro g w a next Q hI hv K
  have hr := o_mk_core (w := w) ho hT hE hv hx hy hb hm
  obtain ⟨g1, b1, b2, h1, h2, h3⟩ := hI.tags0 ez n
  have hbox := h1.newbox (cs := tagRow S.ts.length ez n) (vs := madeCells (Value.slice none 0 0).cells (n * 1)) E (by
    refine ⟨by simp [tagRow, madeCells], fun j c x q1 q2 => ?_⟩
    simp only [tagRow, List.getElem?_map, Option.map_eq_some_iff] at q1
    obtain ⟨i, q1, rfl⟩ := q1
    have hi := List.getElem?_eq_some_iff.1 q1
    obtain ⟨hi1, hi2⟩ := hi
    simp at hi1 hi2
    subst hi2
    have : x = .slice none 0 0 := by
      have := madeCells_get (z := (Value.slice none 0 0).cells) (n := n) (j := j) (by decide) (by simpa [Value.cells] using hi1)
      rw [Array.getElem?_toList] at q2
      rw [show n * (Value.slice none 0 0).cells.size = n * 1 from rfl, q2] at this
      simpa [Value.cells, Nat.mod_one] using this
    subst this
    exact ⟨h3 j hi1, rfl⟩)
  unfold Oper.wp
  rw [hr]
  exact K _ { g1 with bx := g1.bx ++ [some w.heap.size] } _ (.ms S.bs.length 0 _ n n (some (w.heap.size, 0)) (fun _ => ⟨w.heap.size, rfl, by
    show (g1.bx ++ [some w.heap.size])[S.bs.length]? = _
    rw [← hI.hbx, b1]; simp, h1.gx_new (Nat.le_refl _)⟩) (Nat.le_refl _) (by simp only [maxLen]; omega) (fun h => by cases h)) hbox.1 (h2.trans hbox.2)

/-- An array's row, whole. -/
theorem o_slice_arr {T E : TypeId} {x : Operand} {n sz b : Nat} (ho : o.op = .slice T x none none none) (hT : P.underlying T = some (.array n E)) (hE : SizeIs P E sz) (hn : n ≤ 9223372036854775807) (hx : ρ x = .ptr b 0) : OpS P o ρ S S (.ms b 0 sz n) :=
  .value fun g w a _ hv => by
    have e1 := hv x (by simp [ho, Op.operands])
    rw [hx] at e1
    generalize hu : a.eval x = u at e1
    cases e1 with
    | ptr _ _ blk h hg =>
      have hp := run_sliceAt_array_all (P := P) w T ⟨blk, 0, none⟩ (by simp [Program.arrayLen, Program.elem, hT])
      have hel : P.elem T = E := by simp [Program.elem, hT]
      have hal : P.arrayLen T = n := by simp [Program.arrayLen, hT]
      rw [hel, hE.run w, hal] at hp
      refine ⟨.slice (some ⟨blk, 0, none⟩) n n, ?_, .ms b 0 sz n n (some (blk, 0)) (fun _ => ⟨blk, rfl, h, hg⟩) (Nat.le_refl _) (by simp only [maxLen]; omega) (fun h => by cases h)⟩
      simp only [execOp, ho, hu, Sem.run_bind, Option.map_none, hp, Result.andThen_ok, slicedAt, Sem.run_pure]
      simp [Addr.add_lit]
/-- Data seen as an array. -/
theorem o_arrayAt {T E : TypeId} {x : Operand} {n sz : Nat} {es : List (List D)} {l : List D} (ho : o.op = .sliceToArrayPointer T x) (hT : P.underlying T = some (.array n E)) (hx : (ρ x).els = some (sz, es)) (hn : n ≤ es.length) (h0 : 0 < n) (hl : es.flatten.take l.length = l) : OpS P o ρ S S (.rp l) := by
  have h : OpS P o ρ S S (.rp es.flatten) :=
    .value fun g w a _ hv => by
      have e1 := (hv x (by simp [ho, Op.operands])).els hx
      generalize hu : a.eval x = u at e1
      obtain ⟨a', cap, vs, rfl, hz, hc, hf, hnn, hx1, hl, hm, hvv⟩ := e1.unslN (by rintro rfl; simp at hn; omega)
      cases a' with
      | none => have := hnn rfl; omega
      | some p =>
        refine ⟨.pointer (some (adr p)), ?_, .rp _ p.1 p.2 (fun j => vs.getD j undef) (fun j c hj => ?_) (fun j c hj => ?_)⟩
        · simp only [execOp, ho, hu, Option.map_some]
          simp [Instr.arrayAt, run_underlying hT, show ¬ es.length < n by omega]
        · have hlt : j < vs.length := by rw [← hl]; exact (List.getElem?_eq_some_iff.1 hj).1
          have h1 : vs[j]? = some vs[j] := List.getElem?_eq_getElem hlt
          rw [hm p j _ rfl h1]; simp [List.getD, h1]
        · have hlt : j < vs.length := by rw [← hl]; exact (List.getElem?_eq_some_iff.1 hj).1
          have h1 : vs[j]? = some vs[j] := List.getElem?_eq_getElem hlt
          have := hvv j c _ hj h1
          simpa [List.getD, h1] using this
  intro g w a next Q hI hv K
  refine h g w a next Q hI hv (fun v g' w' h1 h2 h3 => K v g' w' ?_ h2 h3)
  cases h1 with
  | rp _ blk off f k1 k2 =>
    have key : ∀ (j : Nat) (c : D), l[j]? = some c → es.flatten[j]? = some c := fun j c hj => by
      rw [← hl, List.getElem?_take] at hj
      split at hj
      · exact hj
      · cases hj
    exact .rp _ blk off f (fun j c hj => k1 j c (key j c hj)) (fun j c hj => k2 j c (key j c hj))
/-- Bytes written over the head of an own row. -/
theorem o_copy {T T' E : TypeId} {x y : Operand} {b off n m : Nat} {cs : List PV} {ys : List (List D)} (ho : o.op = .call { callee := .builtin .copy, args := #[x, y], argTypes := #[T, T'] }) (hT : P.underlying T = some (.slice E)) (hE : SizeIs P E 1)
    (hx : ρ x = .ms b off 1 n) (hy : (ρ y).els = some (1, ys)) (hb : S.bs[b]? = some (some cs)) (hn : off + n ≤ cs.length) (hm : m = min ys.length n) :
    OpS P o ρ S ⟨S.bs.set b (some (splice cs off ((ys.take m).flatten.map .d))), S.ts⟩ (.d (.v (.int .i64 ((m : Nat) : Int)))) := by
  intro g w a next Q hI hv K
  have e1 := hv x (by simp [ho, Op.operands, Call.operands])
  rw [hx] at e1
  have e2 := (hv y (by simp [ho, Op.operands, Call.operands])).els hy
  have hsz : (P.info? E).map (·.size) = some 1 := by obtain ⟨i, h1, h2⟩ := hE; simp [h1, h2]
  generalize hu : a.eval x = u at e1
  generalize hw : a.eval y = u2 at e2
  cases e1 with
  | ms _ _ _ _ cap a1 h1 hc hx1 hnn =>
    unfold Oper.wp
    by_cases h0 : m = 0
    · subst h0
      have hz : Nat.min ys.length n = 0 := hm.symm
      have hr : ∃ a2 cap2, u2 = .slice a2 ys.length cap2 := by
        cases e2 with
        | sl _ _ _ a' cap' vs => exact ⟨_, _, rfl⟩
        | sl0 _ A => exact ⟨_, _, rfl⟩
      obtain ⟨a2, cap2, rfl⟩ := hr
      have hrun := run_copy_none (P := P) w T T' o.type E (a1.map adr) a2 n cap ys.length cap2 hT hsz hz
      simp only [execOp, ho, resolve, invoke, builtin, Sem.run_bind, Sem.run_pure, Result.andThen_ok, List.map_toArray, List.map_cons, List.map_nil, hu, hw, hrun]
      have e : (⟨S.bs.set b (some (splice cs off ((ys.take 0).flatten.map .d))), S.ts⟩ : Sx) = S := by
        have : splice cs off ((ys.take 0).flatten.map .d) = cs := by rw [splice_eq _ _ _ (by simp; omega)]; simp
        rw [this, set_self hb]
      rw [e] at K
      exact K _ g w (.d _ _ (.v _ rfl)) hI (.refl g w)
    · have hn0 : n ≠ 0 := by rintro rfl; simp at hm; exact h0 hm
      have hys : ys ≠ [] := by rintro rfl; simp at hm; exact h0 hm
      obtain ⟨blk, rfl, hblk, _⟩ := h1 hn0
      obtain ⟨a2, cap2, us, rfl, hz, hc2, hf2, hn2, hx2, hl2, hm2, hv2⟩ := e2.unslN hys
      cases a2 with
      | none => have := hn2 rfl; have := List.length_pos_iff.2 hys; omega
      | some p =>
        have hul : us.length = ys.length := by rw [← hl2, flat_len hz, Nat.mul_one]
        have hfl : ∀ k, (ys.take k).flatten = ys.flatten.take k := fun k => flat_take1 ys k hz
        have hvs : Vs g ((ys.take m).flatten.map .d) (us.take m) := by
          refine ⟨by rw [hfl, List.length_map, List.length_take, List.length_take, hl2], fun j c x q1 q2 => ?_⟩
          rw [hfl] at q1
          simp only [List.getElem?_map, Option.map_eq_some_iff] at q1
          obtain ⟨d, q1, rfl⟩ := q1
          rw [List.getElem?_take] at q1 q2
          split at q1
          · rename_i hj
            rw [if_pos hj] at q2
            exact ⟨.d _ _ (hv2 j d x q1 q2), hI.one _ _ _ (hm2 p j x rfl q2)⟩
          · cases q1
        have hmn : m ≤ n := by rw [hm]; exact Nat.min_le_right ..
        have hmy : m ≤ ys.length := by rw [hm]; exact Nat.min_le_left ..
        have hpl : ((ys.take m).flatten.map PV.d).length = m := by rw [hvs.1]; simp; omega
        have hcs : cs ≠ [] := by rintro rfl; simp at hn; omega
        obtain ⟨cur, ty, k1, k2, k3, k4⟩ := hI.setbox (off := off) hb hblk hvs (by omega) hcs
        have hutl : (us.take m).length = m := by simp; omega
        have hrun := run_copy_row (P := P) w T T' o.type E blk off n cap (adr p) ys.length cap2 cur ty (us.take m) hT hsz k1 (by rw [hutl, hm]) (fun j v hj => by
          rw [add_adr]
          rw [List.getElem?_take] at hj
          split at hj
          · exact hI.mem _ _ _ (hm2 p j v rfl hj)
          · cases hj) k2 (fun v hv' => hvs.one v hv')
        have hrun' : (Builtin.copy_ #[T, T'] o.type #[.slice (Option.map adr (some (blk, off))) n cap, .slice (Option.map adr (some p)) ys.length cap2]).run P w = _ := hrun
        simp only [execOp, ho, resolve, invoke, builtin, Sem.run_bind, Sem.run_pure, Result.andThen_ok, List.map_toArray, List.map_cons, List.map_nil, hu, hw, hrun']
        rw [hutl]
        exact K _ g _ (.d _ _ (.v _ rfl)) (by rw [hutl] at k3; exact k3) (by rw [hutl] at k4; exact k4)

/-- Bytes as text. -/
def strB (ns : List Int) : ByteArray := ns.foldl (fun r n => r.push (UInt8.ofNat n.toNat)) ByteArray.empty
def eByte (n : Int) : List D := [.v (.int .u8 n)]
theorem o_str {s d E : TypeId} {x : Operand} {es : List (List D)} (ns : List Int) (ho : o.op = .convert s d x) (hs : P.underlying s = some (.slice E)) (hE : P.underlying E = some (.int .u8)) (hd : P.underlying d = some .string)
    (hx : (ρ x).els = some (1, es)) (hes : es = ns.map eByte) : OpS P o ρ S S (.d (.v (.string (strB ns)))) :=
  .value fun g w a hI hv => by
    have e1 := (hv x (by simp [ho, Op.operands])).els hx
    generalize hu : a.eval x = u at e1
    subst hes
    have fin : ∀ (A : Option Addr) (l c : Nat), u = .slice A l c → (Conv.bytesToString (.slice A l c)).run P w = .ok (.string (strB ns)) w → ∃ v, (execOp a.eval o).run P w = .ok (.value v) w ∧ V g (.d (.v (.string (strB ns)))) v := by
      rintro A l c rfl h
      exact ⟨_, by simp only [execOp, ho, hu, Sem.run_bind, run_convert_bytes_string w s d E A l c hs hE hd, h, Result.andThen_ok, Sem.run_pure], .d _ _ (.v _ rfl)⟩
    cases ns with
    | nil =>
      obtain ⟨a', cap, rfl⟩ := e1.unsl0
      refine fin _ _ _ rfl ?_
      cases a' with
      | none => unfold Conv.bytesToString; simp [Sem.run_pure, strB]
      | some p => exact run_bytesToString w p 0 cap [] (by simpa using run_loadCells_list (P := P) w p [] (by simp))
    | cons n ns =>
      obtain ⟨a', cap, vs, rfl, hz, hc, hf, hnn, hx1, hl, hm, hvv⟩ := e1.unslN (by simp)
      cases a' with
      | none => have := hnn rfl; simp at hc; omega
      | some p =>
        refine fin _ _ _ rfl (run_bytesToString w (adr p) _ cap (n :: ns) ?_)
        have hfl : ∀ l : List Int, (l.map eByte).flatten = l.map fun n => D.v (.int .u8 n) := flat_eByte
        have hvs : vs = (n :: ns).map (Value.int .u8) := by
          apply List.ext_getElem?
          intro j
          rw [hfl] at hl hvv
          by_cases hj : j < vs.length
          · have h1 : vs[j]? = some vs[j] := List.getElem?_eq_getElem hj
            have hj' : j < (n :: ns).length := by rw [List.length_map] at hl; omega
            have h2 : ((n :: ns).map fun n => D.v (.int .u8 n))[j]? = some (D.v (.int .u8 (n :: ns)[j])) := by rw [List.getElem?_map, List.getElem?_eq_getElem hj']; rfl
            have h3 := hvv j _ _ h2 h1
            generalize hq : vs[j] = q at h3 h1
            cases h3
            rw [h1, List.getElem?_map, List.getElem?_eq_getElem hj']; rfl
          · rw [List.getElem?_eq_none (by omega), List.getElem?_eq_none (by rw [List.length_map] at hl ⊢; omega)]
        have := run_loadCells_list (P := P) w (adr p) vs (fun j v hj => by rw [add_adr]; exact hI.mem _ _ _ (hm p j v rfl hj))
        rw [hvs] at this
        simpa using this
theorem o_streq {op : BinOp} {T T' : TypeId} {x y : Operand} {m n : ByteArray} (ho : o.op = .binOp op T x y T') (hx : ρ x = .d (.v (.string m))) (hy : ρ y = .d (.v (.string n)))
    (h : op = .eql ∨ op = .neq) : OpS P o ρ S S (.d (.v (.bool (if op = .eql then m.toList == n.toList else !(m.toList == n.toList))))) :=
  .value fun g w a _ hv => by
    have k1 := (hx ▸ hv x (by simp [ho, Op.operands])).d_v.1
    have k2 := (hy ▸ hv y (by simp [ho, Op.operands])).d_v.1
    refine ⟨_, ?_, .d _ _ (.v _ rfl)⟩
    rcases h with rfl | rfl
    · simp only [execOp, ho, k1, k2, eqGuard_at_string, pure_bind, Sem.run_bind, binOp_string_eql, Result.andThen_ok, Sem.run_pure, if_true]
    · simp only [execOp, ho, k1, k2, eqGuard_at_string, pure_bind, Sem.run_bind, binOp_string_neq, Result.andThen_ok, Sem.run_pure]
      simp
/-- An array's element. -/
theorem o_index_val {T E : TypeId} {d : TypeDesc} {x y : Operand} {n sz : Nat} {cs ps : List PV} {k : IntKind} {i : Int} (ho : o.op = .index T x y) (hT : P.underlying T = some (.array n E)) (hE : SizeIs P E sz) (hd : P.underlying E = some d) (hag : aggT d = true)
    (hx : (ρ x).cells = some cs) (hxa : isAggP (ρ x) = true) (hy : ρ y = .d (.v (.int k i))) (hi : 0 ≤ i ∧ i < n) (hp : (cs.drop (i.toNat * sz)).take sz = ps) (hl : ps.length = sz) : OpS P o ρ S S (.agg ps) :=
  .value fun g w a _ hv => by
    have e1 := hv x (by simp [ho, Op.operands])
    have k2 := (hy ▸ hv y (by simp [ho, Op.operands])).d_v.1
    obtain ⟨vs, hvs⟩ : ∃ vs, a.eval x = .agg vs := e1.aggP hxa
    have hc := e1.cells hx
    rw [hvs] at hc
    simp only [Value.cells] at hc
    have key : Vs g ps ((vs.toList.drop (i.toNat * sz)).take sz) := by
      refine ⟨?_, fun j c x q1 q2 => ?_⟩
      · rw [← hp]; simp [hc.1]
      · rw [← hp] at q1
        rw [List.getElem?_take] at q1 q2
        split at q1
        · rename_i hj
          rw [if_pos hj] at q2
          rw [List.getElem?_drop] at q1 q2
          exact hc.2 _ c x q1 q2
        · cases q1
    refine ⟨.agg (vs.extract (i.toNat * sz) (i.toNat * sz + sz)), ?_, .agg _ _ ?_ ?_ ?_⟩
    · simp only [execOp, ho, hvs, k2, Instr.index, asIntOf, pure_bind, Sem.run_bind, run_underlying hT, Result.andThen_ok, if_pos hi, hE.run w, part, run_isAgg hd, hag, if_true, Sem.run_pure]
    · have := key.1; simp at this ⊢; omega
    · intro v hm
      refine key.one v ?_
      have : (vs.extract (i.toNat * sz) (i.toNat * sz + sz)).toList = (vs.toList.drop (i.toNat * sz)).take sz := by simp [List.extract_eq_take_drop]
      rw [← this]; exact hm
    · intro j c x q1 q2
      have : (vs.extract (i.toNat * sz) (i.toNat * sz + sz)).toList = (vs.toList.drop (i.toNat * sz)).take sz := by simp [List.extract_eq_take_drop]
      refine (key.2 j c x q1 ?_).1
      rw [← this, Array.getElem?_toList]; exact q2
end
end Go.Pv
