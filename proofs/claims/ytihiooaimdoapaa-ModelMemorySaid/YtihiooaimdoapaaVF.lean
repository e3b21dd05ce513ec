/- The statement ModelMemory holds: the program's code, told as plain functions, is a pure model's, and of that it is shown. No conditions. -/
import Derived.Deep.Slices
import Derived.WideShapes
import Derived.ChangeArms
import Derived.Deep.OwnRows
import Derived.WideKeyArgs
import Derived.OpenShut
import Derived.Carry
import Derived.ProofKit
import Derived.Test.YtihiooaimdoapaaVE
set_option linter.unusedVariables false
set_option linter.unusedSimpArgs false
namespace Go.Proofs.Ytihiooaimdoapaa
open Go.Bm Go.Pen
def opRight (o : FOp) : Prop := (o.1 = 0 ∧ 0 ≤ o.2.1 ∧ o.2.1 ≤ 99 ∧ o.2.2 = 0) ∨ (o.1 = 1 ∧ 0 ≤ o.2.1 ∧ o.2.1 ≤ 5 ∧ o.2.2 = 0) ∨ (o.1 = 2 ∧ 0 ≤ o.2.1 ∧ o.2.1 ≤ 5 ∧ 0 ≤ o.2.2 ∧ o.2.2 ≤ 5) ∨ (o.1 = 3 ∧ 0 ≤ o.2.1 ∧ o.2.1 ≤ 5 ∧ 0 ≤ o.2.2 ∧ o.2.2 ≤ 8) ∨ (o.1 = 4 ∧ o.2.1 = 0 ∧ o.2.2 = 0)
def finsRight (f : List (List FOp)) : Prop := f.length ≤ 8 ∧ ∀ l ∈ f, l.length ≤ 8 ∧ ∀ o ∈ l, opRight o
theorem finsRight.ok {f : List (List FOp)} (h : finsRight f) : finsOk f := ⟨h.1, fun l hl => ⟨(h.2 l hl).1, fun o ho => by
  have := (h.2 l hl).2 o ho
  unfold opRight at this; unfold opOk; omega⟩⟩
theorem finRight_l0 {f : List (List FOp)} {i : Nat} {l : List FOp} (hl : nth [] f i = l) (h8 : l.length ≤ 8) (ho : ∀ o ∈ l, opRight o) (v1) :
    loop (g.fin_Right_l0 f (((i : Int), ()), ((), ((), ((), ())))) v1) ((0, ()), ((), ((), ((), ())))) = v1 (((iadd IntKind.i64 (i : Int) 1), ()), ((), ((), ((), ())))) := by
  refine (loop_up (fun k => ((((k : Nat) : Int), ()), ((), ((), ((), ()))))) (fun _ => v1 (((iadd IntKind.i64 (i : Int) 1), ()), ((), ((), ((), ()))))) l.length (by unfold big; omega) (fun K => ?_) (fun k hk => .inr ⟨rfl, fun K => ?_⟩))
  · unfold g.fin_Right_l0
    dsimp only
    rw [show nth [] f (nN (i : Int)) = l from hl]
    repeat (refine HS ?_)
    rfl
  · have hp := ho l[k] (List.getElem_mem hk)
    have e : ∀ d, nth d l (nN (k : Int)) = l[k] := fun d => nth_lt hk
    unfold g.fin_Right_l0
    dsimp only
    rw [show nth [] f (nN (i : Int)) = l from hl]
    rw [e]
    generalize l[k] = o at *
    have ei : iadd IntKind.i64 (k : Int) 1 = ((k + 1 : Nat) : Int) := by rw [iadd_s (by omega)]; omega
    have ew : wrp IntKind.i64 o.1 = o.1 := wrp_s (by unfold opRight at hp; omega)
    rw [ei, ew]
    obtain ⟨op, a, b⟩ := o
    unfold opRight at hp
    dsimp only at hp ⊢
    have wT : ∀ x lo hi : Int, lo ≤ x → x ≤ hi → within x lo hi = true := fun x lo hi h1 h2 => wi_iff.2 ⟨h1, h2⟩
    rcases hp with ⟨rfl, h1, h2, rfl⟩ | ⟨rfl, h1, h2, rfl⟩ | ⟨rfl, h1, h2, h3, h4⟩ | ⟨rfl, h1, h2, h3, h4⟩ | ⟨rfl, rfl, rfl⟩
    · have w1 := wT a 0 99 (by omega) (by omega)
      have w2 := wT 0 0 0 (by omega) (by omega)
      repeat (refine HS ?_)
      rfl
    · have w1 := wT a 0 5 (by omega) (by omega)
      have w2 := wT 0 0 0 (by omega) (by omega)
      repeat (refine HS ?_)
      rfl
    · have w1 := wT a 0 5 (by omega) (by omega)
      have w2 := wT b 0 5 (by omega) (by omega)
      repeat (refine HS ?_)
      rfl
    · have w1 := wT a 0 5 (by omega) (by omega)
      have w2 := wT b 0 8 (by omega) (by omega)
      repeat (refine HS ?_)
      rfl
    · have w2 := wT 0 0 0 (by omega) (by omega)
      repeat (refine HS ?_)
      rfl
theorem fin_Right_s {f : List (List FOp)} (h : finsRight f) : g.fin_Right f = some ((true, ()), ()) := by
  have h8 := h.1
  unfold g.fin_Right
  refine (loop_up (fun k => ((((k : Nat) : Int), ()), ((), ((), ((), ()))))) (fun _ => some ((true, ()), ())) f.length (by unfold big; omega) (fun K => ?_) (fun k hk => .inr ⟨rfl, fun K => ?_⟩))
  · unfold g.fin_Right_l1
    dsimp only
    repeat (refine HS ?_)
    have : ileq (zN (len f)) 8 = true := decide_eq_true (by rw [zN_c, len_d]; omega)
    rw [this]
  · have hl := h.2 f[k] (List.getElem_mem hk)
    unfold g.fin_Right_l1
    dsimp only
    repeat (refine HS ?_)
    refine Eq.trans (finRight_l0 (nth_lt hk) hl.1 hl.2 K) ?_
    have ei : iadd IntKind.i64 (k : Int) 1 = ((k + 1 : Nat) : Int) := by rw [iadd_s (by omega)]; omega
    rw [ei]
theorem ground_New_s {r2 : T2} {r4 : T4} {a n : Int} (ha : 0 ≤ a ∧ a ≤ 65536 ∧ a % 8 = 0) (hn : 0 ≤ n ∧ n ≤ 65536 ∧ n % 8 = 0) :
    ∃ r2' r4', g.ground_New a n r2 r4 = some (((some r2.length), (0, ())), (r2', (r4', ()))) ∧ GRel r2' r4' r2.length a (a + n) (if 0 < n then [(a, n)] else []) := by
  have w1 : within a 0 65536 = true := wi_iff.2 ⟨ha.1, ha.2.1⟩
  have w2 : within n 0 65536 = true := wi_iff.2 ⟨hn.1, hn.2.1⟩
  have hb := (or_rem8 (a := a) (b := n) (by omega) (by omega)).2 ⟨ha.2.2, hn.2.2⟩
  have es : iadd IntKind.i64 a n = a + n := iadd_s (by omega)
  by_cases h0 : 0 < n
  · rw [if_pos h0]
    refine ⟨?r2, ?r4, ?eq, ?rel⟩
    case eq =>
      unfold g.ground_New
      repeat (refine HS ?_)
      rfl
    case rel =>
      rw [es]
      refine ⟨some r4.length, ?_, .inr ⟨_, rfl, rwA_last⟩⟩
      unfold updF
      rw [nth_last']
      exact upd_at (by show (r2 ++ [_])[r2.length]? = _; simp; rfl)
  · rw [if_neg h0]
    refine ⟨?s2, ?s4, ?eq2, ?rel2⟩
    case eq2 =>
      unfold g.ground_New
      repeat (refine HS ?_)
      rfl
    case rel2 =>
      rw [es]
      exact ⟨none, by show (r2 ++ [_])[r2.length]? = _; simp, .inl ⟨rfl, rfl⟩⟩
abbrev scpF : Scp := ((0, 0, -1, 0), (0, 0))
abbrev scpZ : Scp := ((0, 0, 0, 0), (0, 0))
theorem rep_step {n k : Nat} (hk : k < n) : (List.replicate k scpF ++ List.replicate (n - k) scpZ).set k scpF = List.replicate (k + 1) scpF ++ List.replicate (n - (k + 1)) scpZ := by
  rw [List.set_append_right _ _ (by simp), List.length_replicate, Nat.sub_self]
  obtain ⟨m, hm⟩ : ∃ m, n - k = m + 1 := ⟨n - k - 1, by omega⟩
  rw [hm, List.replicate_succ, List.set_cons_zero, List.replicate_succ', show n - (k + 1) = m by omega]
  simp
theorem upd_cat {α : Type} {l : List α} {x y : α} : upd (cat l [x]) (len l) y = cat l [y] := by
  show (l ++ [x]).set l.length y = l ++ [y]
  rw [List.set_append_right _ _ (Nat.le_refl _), Nat.sub_self]; rfl
theorem scopes_New_s {p : Pln} (hp : planRight p = true) (r1 : T1) (r2 : T2) (r3 : T3) (r4 : T4) :
    ∃ r1' r2' r3' r4', g.scopes_New p r1 r2 r3 r4 = some (((some r1.length), (0, ())), (r1', (r2', (r3', (r4', ()))))) ∧
      SRel r1' r2' r3' r4' r1.length (p.1 * 64 + p.2.2.1) (p.1 * 64 + p.2.2.1 + p.2.2.2) (((2, 1, -1, 0), (p.1 * 64, p.2.2.1)) :: List.replicate (p.1 - 1).toNat scpF) (if 0 < p.2.2.2 then [(p.1 * 64 + p.2.2.1, p.2.2.2)] else []) := by
  have h := planRight_iff.1 hp
  obtain ⟨r2', r4', g1, g2⟩ := ground_New_s (r2 := r2) (r4 := r4) (a := p.1 * 64 + p.2.2.1) (n := p.2.2.2) (by omega) (by omega)
  obtain ⟨n, hn⟩ : ∃ n : Nat, p.1 = ((n + 1 : Nat) : Int) := ⟨(p.1 - 1).toNat, by omega⟩
  have hn2 : (p.1 - 1).toNat = n := by omega
  have hnn : nN p.1 = n + 1 := by rw [nN_d]; omega
  have hI := plan_Immortal_s hp
  have hH := plan_Heap_s hp
  have hR := plan_Right_s p
  rw [hp] at hR
  have eI : p = (p.1, (p.2.1, (p.2.2.1, p.2.2.2))) := rfl
  have hsc : (nth (none, none) (cat r1 [((some (len r3)), (none : Option Nat))]) (len r1)).1 = some (len r3) := by rw [nth_last']
  have hrow : ∀ X : List Scp, rwA (cat r3 [some X]) (len r3) = some X := fun X => rwA_last
  refine ⟨updF (none, none) (cat r1 [((some (len r3)), none)]) (len r1) (fun r18 => (r18.1, (some r2.length))), r2', cat r3 [some (((2, 1, -1, 0), (p.1 * 64, p.2.2.1)) :: List.replicate n scpF)], r4', ?_, ?_⟩
  · unfold g.scopes_New
    refine bdI' hR ?_
    repeat (refine HS ?_)
    rw [hnn]
    have hgd : ((n + 1 : Nat) : Int) ≤ ((16777216 : Nat) : Int) := by omega
    have hst : rep (α := Scp) (n + 1) ((0, (0, (0, 0))), (0, 0)) = List.replicate 0 scpF ++ List.replicate (n + 1 - 0) scpZ := rfl
    repeat (refine HS ?_)
    have hfin : ∀ (v0 : List Scp), v0.length = n + 1 → loop (g.scopes_New_l0 p r1 r2 r3 r4 v0) ((0, ()), ((), ((), ((), ((cat r3 [(some (List.replicate 0 scpF ++ List.replicate (n + 1 - 0) scpZ))]), ()))))) = some (((some r1.length), (0, ())), (updF (none, none) (cat r1 [((some (len r3)), none)]) (len r1) (fun r18 => (r18.1, (some r2.length))), (r2', (cat r3 [some (((2, 1, -1, 0), (p.1 * 64, p.2.2.1)) :: List.replicate n scpF)], (r4', ()))))) := by
      intro v0 hv0
      refine (loop_up (fun k => ((((k : Nat) : Int), ()), ((), ((), ((), ((cat r3 [(some (List.replicate k scpF ++ List.replicate (n + 1 - k) scpZ))]), ())))))) (fun _ => _) (n + 1) (by unfold big; omega) (fun K => ?_) (fun k hk => .inr ⟨rfl, fun K => ?_⟩))
      · have hrow1 := hrow (List.replicate (n + 1) scpF ++ List.replicate (n + 1 - (n + 1)) scpZ)
        have eX : List.replicate (n + 1) scpF ++ List.replicate (n + 1 - (n + 1)) scpZ = scpF :: List.replicate n scpF := by
          rw [Nat.sub_self]; simp [List.replicate_succ]
        rw [eX] at hrow1 ⊢
        have hl1 : (scpF :: List.replicate n scpF).length = n + 1 := by simp
        have hrow2 := hrow (updF ((0, (0, (0, 0))), (0, 0)) (scpF :: List.replicate n scpF) 0 (fun r10 => ((2, (1, ((-1), 0))), r10.2)))
        have hl2 : (updF ((0, (0, (0, 0))), (0, 0)) (scpF :: List.replicate n scpF) 0 (fun r10 => ((2, (1, ((-1), 0))), r10.2))).length = n + 1 := by
          show (List.set _ _ _).length = _; rw [List.length_set]; exact hl1
        unfold g.scopes_New_l0
        dsimp only
        refine Eq.trans (br_lss_f (by rw [zN_c, len_d, hv0]; omega)) ?_
        repeat (refine HS ?_)
        rw [upd_upd, upd_cat]
        rfl
      · have hrow1 := hrow (List.replicate k scpF ++ List.replicate (n + 1 - k) scpZ)
        have hl1 : (List.replicate k scpF ++ List.replicate (n + 1 - k) scpZ).length = n + 1 := by simp; omega
        have ei : iadd IntKind.i64 (k : Int) 1 = ((k + 1 : Nat) : Int) := by rw [iadd_s (by omega)]; omega
        have eN : nth ((0, (0, (0, 0))), (0, 0)) (List.replicate k scpF ++ List.replicate (n + 1 - k) scpZ) (nN (k : Int)) = scpZ := by
          refine nth_some ?_
          show (List.replicate k scpF ++ List.replicate (n + 1 - k) scpZ)[k]? = _
          rw [List.getElem?_append_right (by simp), List.length_replicate, Nat.sub_self, List.getElem?_replicate, if_pos (by omega)]
        have eU : updF ((0, (0, (0, 0))), (0, 0)) (List.replicate k scpF ++ List.replicate (n + 1 - k) scpZ) (nN (k : Int)) (fun r3 => ((r3.1.1, (r3.1.2.1, ((-1), r3.1.2.2.2))), r3.2)) = List.replicate (k + 1) scpF ++ List.replicate (n + 1 - (k + 1)) scpZ := by
          unfold updF
          rw [eN]
          exact rep_step hk
        unfold g.scopes_New_l0
        dsimp only
        refine Eq.trans (br_lss_t (by rw [zN_c, len_d, hv0]; omega)) ?_
        repeat (refine HS ?_)
        rw [ei, eU, upd_cat]
    rw [hst]
    refine bdI' (hrow _) ?_
    exact hfin _ (by simp)
  · rw [hn2]
    refine ⟨len r3, r2.length, ?_, hrow _, g2⟩
    unfold updF
    rw [nth_last']
    exact upd_at (by show (r1 ++ [_])[r1.length]? = _; simp; rfl)
theorem slices_Clone_s {l : List FOp} (hl : l.length ≤ 1000) : g.slices_Clone l = some ((l, ()), ()) := by
  unfold g.slices_Clone
  repeat (refine HS ?_)
  rfl
theorem take_upd {α : Type} {f : List α} {z : α} {k : Nat} (hk : k < f.length) : (f.take k ++ List.replicate (f.length - k) z).set k f[k] = f.take (k + 1) ++ List.replicate (f.length - (k + 1)) z := by
  have hl : (f.take k).length = k := by rw [List.length_take]; omega
  rw [List.set_append_right _ _ (by omega), hl, Nat.sub_self]
  obtain ⟨m, hm⟩ : ∃ m, f.length - k = m + 1 := ⟨f.length - k - 1, by omega⟩
  rw [hm, List.replicate_succ, List.set_cons_zero, List.take_add_one, List.getElem?_eq_getElem hk, show f.length - (k + 1) = m by omega]
  rw [List.append_assoc]; rfl
theorem model_New_s {p : Pln} (hp : planRight p = true) {f : List (List FOp)} (hf : finsRight f) (c0 : T8) (c1 : T9) (c2 : T10) (d0 : T0) (d1 : T1) (d2 : T2) (d3 : T3) (d4 : T4) (d5 : T5) (d6 : T6) (d7 : T7) :
    ∃ d0' d1' d2' d3' d4' d5' d6' d7', g.model_New p f c0 c1 c2 d0 d1 d2 d3 d4 d5 d6 d7 = some (((some d0.length), (0, ())), (d0', (d1', (d2', (d3', (d4', (d5', (d6', (d7', ())))))))))
      ∧ MRel d0' d1' d2' d3' d4' d5' d6' d7' c0 c1 c2 d0.length (M.new p f) := by
  have h := planRight_iff.1 hp
  have h8 := hf.1
  have hR := plan_Right_s p
  rw [hp] at hR
  have hF := fin_Right_s hf
  obtain ⟨r1, r2, r3, r4, k1, k2⟩ := scopes_New_s hp d1 d2 d3 d4
  refine ⟨cat d0 [(p, (f, ((some d1.length), ((some (len d5)), ((some (len d6)), (some (len d7)))))))], r1, r2, r3, r4, cat d5 [(some (rep (α := (Int × (Int × (Option Nat)))) (nN p.1) (0, (0, none))))], cat d6 [(some (rep (α := ((List Int) × (List (Int × Bool)))) (nN p.2.1) ([0, 0, 0, 0], [])))], cat d7 [[]], ?_, ?_⟩
  · unfold g.model_New
    repeat (refine HS ?_)
    have hst : rep (α := List FOp) (nN (zN (len f))) [] = f.take 0 ++ List.replicate (f.length - 0) [] := rfl
    rw [hst]
    refine (loop_up (fun k => ((((k : Nat) : Int), ()), (((f.take k ++ List.replicate (f.length - k) []), ()), ((), ((), ()))))) (fun _ => _) f.length (by unfold big; omega) (fun K => ?_) (fun k hk => .inr ⟨rfl, fun K => ?_⟩))
    · unfold g.model_New_l0
      dsimp only
      rw [List.take_length, Nat.sub_self]
      repeat (refine HS ?_)
      simp only [List.replicate_zero, List.append_nil]
      rfl
    · have hl := hf.2 f[k] (List.getElem_mem hk)
      have e : nth [] f (nN (k : Int)) = f[k] := nth_lt hk
      have hc := slices_Clone_s (l := f[k]) (by omega)
      have hlen : (f.take k ++ List.replicate (f.length - k) ([] : List FOp)).length = f.length := by simp; omega
      have ei : iadd IntKind.i64 (k : Int) 1 = ((k + 1 : Nat) : Int) := by rw [iadd_s (by omega)]; omega
      unfold g.model_New_l0
      dsimp only
      rw [e]
      repeat (refine HS ?_)
      rw [ei]
      have eu : upd (f.take k ++ List.replicate (f.length - k) ([] : List FOp)) (nN (k : Int)) f[k] = f.take (k + 1) ++ List.replicate (f.length - (k + 1)) [] := take_upd hk
      rw [eu]
  · have hn : nN p.1 = p.1.toNat := rfl
    have hAt : ∀ i q x, ¬ At (List.replicate p.1.toNat (⟨0, 0, none, []⟩ : NA)) i q x := by
      rintro i q x ⟨a, h1, h2⟩
      have := List.eq_of_mem_replicate (List.mem_of_getElem? h1)
      subst this; cases h2
    refine ⟨⟨d1.length, len d5, len d6, len d7⟩, List.replicate p.1.toNat ⟨0, 0, none, []⟩, [], ?_, k2, ?_, ?_, ?_, ?_, ?_, ?_, ?_, ?_, ?_, List.nodup_nil, ?_⟩
    · show (d0 ++ [_])[d0.length]? = _
      rw [List.getElem?_append_right (Nat.le_refl _), Nat.sub_self]; rfl
    · refine Eq.trans rwA_last ?_
      show _ = some ((List.replicate p.2.1.toNat _).map _)
      rw [List.map_replicate]; rfl
    · refine Eq.trans rwA_last ?_
      rw [List.map_replicate]; rfl
    · show List.replicate p.1.toNat ar0 = _
      rw [List.map_replicate]; rfl
    · intro a ha
      have := List.eq_of_mem_replicate ha
      subst this; exact .inl ⟨rfl, rfl⟩
    · intro i q x hx; exact absurd hx (hAt i q x)
    · intro i j q q' x y hx; exact absurd hx (hAt i q x)
    · intro i j q q' x y hx; exact absurd hx (hAt i q x)
    · intro i j a b r ha hb h1
      have := List.eq_of_mem_replicate (List.mem_of_getElem? ha)
      subst this; cases h1
    · show (d7 ++ [_])[d7.length]? = _
      simp
    · intro r v
      constructor
      · intro hv; cases hv
      · rintro ⟨i, q, x, hx, _⟩; exact absurd hx (hAt i q x)
end Go.Proofs.Ytihiooaimdoapaa
set_option linter.unusedVariables false
set_option linter.unusedSimpArgs false
namespace Go.Proofs.Ytihiooaimdoapaa
open Go.Bm Go.Pen
def Yes {β : Type} (x : Option ((Bool × Unit) × β)) : Prop := ∃ d, x = some ((true, ()), d)
theorem Yes.of {β : Type} {x y : Option ((Bool × Unit) × β)} (e : x = y) (h : Yes y) : Yes x := by rw [e]; exact h
theorem YS {β : Type} {x y : Option ((Bool × Unit) × β)} (k : Yes y) (h : x = y := by (first | with_reducible exact (jn_eq _ _) | with_reducible exact bd_some | with_reducible exact opt_some | with_reducible exact opt_none | with_reducible exact (opt_x (by assumption)) | with_reducible exact (opt_y (by assumption)) | with_reducible exact (br_t (by assumption)) | with_reducible exact (br_f (by assumption)) | with_reducible exact br_true | with_reducible exact br_false | with_reducible exact gd_ige | with_reducible exact gd_nlt | with_reducible exact gd_nle | with_reducible exact gd_neq | with_reducible exact gd_ieq | with_reducible exact gd_ine | with_reducible exact br_not | with_reducible exact br_and | (with_reducible apply bd_x; with_reducible (first | exact num_Within_s _ _ _ | assumption | exact rwA_self (by assumption) | exact rwA_self (rwA_self (by assumption)) | exact rwA_self (rwA_self (rwA_self (by assumption))) | exact rwA_self (rwA_self (rwA_self (rwA_self (by assumption)))) | exact rwA_self (rwA_self (rwA_self (rwA_self (rwA_self (by assumption))))))) | (with_reducible refine br_lss_t ?qh; case qh => first | omega | (simp (disch := omega) only [iadd_s, isub_s, imul_s, wrp_s, wrp_u, irem_p, iquo_p, zN_c, len_d, nN_c, nN_d, nadd, nsub, Int.toNat_natCast, List.length_nil, List.length_singleton, List.length_cons, List.length_map, tk_len, dr_len, rep_len, lenc, updF_len, List.length_set] <;> omega)) | (with_reducible refine br_lss_f ?qh; case qh => first | omega | (simp (disch := omega) only [iadd_s, isub_s, imul_s, wrp_s, wrp_u, irem_p, iquo_p, zN_c, len_d, nN_c, nN_d, nadd, nsub, Int.toNat_natCast, List.length_nil, List.length_singleton, List.length_cons, List.length_map, tk_len, dr_len, rep_len, lenc, updF_len, List.length_set] <;> omega)) | (with_reducible refine br_leq_t ?qh; case qh => first | omega | (simp (disch := omega) only [iadd_s, isub_s, imul_s, wrp_s, wrp_u, irem_p, iquo_p, zN_c, len_d, nN_c, nN_d, nadd, nsub, Int.toNat_natCast, List.length_nil, List.length_singleton, List.length_cons, List.length_map, tk_len, dr_len, rep_len, lenc, updF_len, List.length_set] <;> omega)) | (with_reducible refine br_leq_f ?qh; case qh => first | omega | (simp (disch := omega) only [iadd_s, isub_s, imul_s, wrp_s, wrp_u, irem_p, iquo_p, zN_c, len_d, nN_c, nN_d, nadd, nsub, Int.toNat_natCast, List.length_nil, List.length_singleton, List.length_cons, List.length_map, tk_len, dr_len, rep_len, lenc, updF_len, List.length_set] <;> omega)) | (with_reducible refine br_eql_t ?qh; case qh => first | omega | (simp (disch := omega) only [iadd_s, isub_s, imul_s, wrp_s, wrp_u, irem_p, iquo_p, zN_c, len_d, nN_c, nN_d, nadd, nsub, Int.toNat_natCast, List.length_nil, List.length_singleton, List.length_cons, List.length_map, tk_len, dr_len, rep_len, lenc, updF_len, List.length_set] <;> omega)) | (with_reducible refine br_eql_f ?qh; case qh => first | omega | (simp (disch := omega) only [iadd_s, isub_s, imul_s, wrp_s, wrp_u, irem_p, iquo_p, zN_c, len_d, nN_c, nN_d, nadd, nsub, Int.toNat_natCast, List.length_nil, List.length_singleton, List.length_cons, List.length_map, tk_len, dr_len, rep_len, lenc, updF_len, List.length_set] <;> omega)))) : Yes x := by rw [h]; exact k
theorem YbdI' {α β : Type} {x : Option α} {f : α → Option ((Bool × Unit) × β)} {a : α} (h : x = some a) (k : Yes (f a)) : Yes (bd x f) := by rw [h]; exact k
theorem Yes.mk {β : Type} {d : β} : Yes (some ((true, ()), d)) := ⟨d, rfl⟩
theorem Yes.mk' {β : Type} {b : Bool} {d : β} (h : b = true) : Yes (some ((b, ()), d)) := by subst h; exact ⟨d, rfl⟩
structure St (c0 : T0) (c1 : T1) (d0 : T2) (d1 : T3) (d2 : T4) (d3 : T5) (d4 : T6) (d5 : T7) (d6 : T8) (d7 : T9) (d8 : T10) (md : Nat) (k : Nat) (m : M) : Prop where
  rel : MRel c0 c1 d0 d1 d2 d3 d4 d5 d6 d7 d8 md m
  mi : MI k m
  ct : CT m
section
variable {c0 : T0} {c1 : T1} {d0 : T2} {d1 : T3} {d2 : T4} {d3 : T5} {d4 : T6} {d5 : T7} {d6 : T8} {d7 : T9} {d8 : T10} {md : Nat} {m : M} {k : Nat}
theorem St.step (h : St c0 c1 d0 d1 d2 d3 d4 d5 d6 d7 d8 md k m) (hk : k < 9000) (n : Int) {c : Cal} (hc : CalOk c) :
    ∃ d0' d1' d2' d3' d4' d5' d6' d7' d8', g.model_Model_Do md n c c0 c1 d0 d1 d2 d3 d4 d5 d6 d7 d8 = some ((((m.step n c).2.1.1, ((m.step n c).2.1.2.1, (m.step n c).2.1.2.2)), ((m.step n c).2.2, ())), (d0', (d1', (d2', (d3', (d4', (d5', (d6', (d7', (d8', ()))))))))))
      ∧ St c0 c1 d0' d1' d2' d3' d4' d5' d6' d7' d8' md (k + 1) (m.step n c).1 := by
  obtain ⟨e0, e1, e2, e3, e4, e5, e6, e7, e8, k1, k2⟩ := Do_s h.rel h.mi h.ct n hc
  exact ⟨e0, e1, e2, e3, e4, e5, e6, e7, e8, k1, k2, h.mi.step hk h.ct n c, h.ct.step h.mi n c⟩
theorem St.yes {β : Type} (h : St c0 c1 d0 d1 d2 d3 d4 d5 d6 d7 d8 md k m) (hk : k < 9000) (n : Int) {c : Cal} (hc : CalOk c) {f : DoR → Option ((Bool × Unit) × β)}
    (K : ∀ d0' d1' d2' d3' d4' d5' d6' d7' d8', St c0 c1 d0' d1' d2' d3' d4' d5' d6' d7' d8' md (k + 1) (m.step n c).1 → Yes (f ((((m.step n c).2.1.1, ((m.step n c).2.1.2.1, (m.step n c).2.1.2.2)), ((m.step n c).2.2, ())), (d0', (d1', (d2', (d3', (d4', (d5', (d6', (d7', (d8', ())))))))))))) :
    Yes (bd (g.model_Model_Do md n c c0 c1 d0 d1 d2 d3 d4 d5 d6 d7 d8) f) := by
  obtain ⟨e0, e1, e2, e3, e4, e5, e6, e7, e8, k1, k2⟩ := h.step hk n hc
  exact YbdI' k1 (K _ _ _ _ _ _ _ _ _ k2)
end
theorem St.new {p : Pln} (hp : planRight p = true) {f : List (List FOp)} (hf : finsRight f) (c0 : T8) (c1 : T9) (c2 : T10) (d0 : T0) (d1 : T1) (d2 : T2) (d3 : T3) (d4 : T4) (d5 : T5) (d6 : T6) (d7 : T7) :
    ∃ d0' d1' d2' d3' d4' d5' d6' d7', g.model_New p f c0 c1 c2 d0 d1 d2 d3 d4 d5 d6 d7 = some (((some d0.length), (0, ())), (d0', (d1', (d2', (d3', (d4', (d5', (d6', (d7', ())))))))))
      ∧ St d0' d1' d2' d3' d4' d5' d6' d7' c0 c1 c2 d0.length 0 (M.new p f) := by
  obtain ⟨e0, e1, e2, e3, e4, e5, e6, e7, k1, k2⟩ := model_New_s hp hf c0 c1 c2 d0 d1 d2 d3 d4 d5 d6 d7
  obtain ⟨i1, i2⟩ := MI.new hp hf.ok
  exact ⟨e0, e1, e2, e3, e4, e5, e6, e7, k1, k2, i1, i2⟩
abbrev pSome : Pln := (4, (2, (128, 512)))
theorem nil_right : finsRight [] := ⟨by simp, fun l hl => by cases hl⟩
theorem shown_yes (d0 : T0) (d1 : T1) (d2 : T2) (d3 : T3) (d4 : T4) (d5 : T5) (d6 : T6) (d7 : T7) (d8 : T8) (d9 : T9) (d10 : T10) : Yes (g.penfoldlaw12_shown d0 d1 d2 d3 d4 d5 d6 d7 d8 d9 d10) := by
  have hp : planRight pSome = true := by decide
  obtain ⟨e0, e1, e2, e3, e4, e5, e6, e7, k1, h⟩ := St.new hp nil_right d8 d9 d10 d0 d1 d2 d3 d4 d5 d6 d7
  unfold g.penfoldlaw12_shown
  refine YbdI' (rfl : g.penfoldlaw12_some = some ((pSome, ()), ())) ?_
  refine YbdI' k1 ?_
  repeat (refine YS ?_)
  dsimp only
  refine h.yes (by omega) 0 ⟨by decide, by decide, by decide⟩ fun _ _ _ _ _ _ _ _ _ h => ?_
  dsimp only
  refine h.yes (by omega) 0 ⟨by decide, by decide, by decide⟩ fun _ _ _ _ _ _ _ _ _ h => ?_
  dsimp only
  refine h.yes (by omega) 0 ⟨by decide, by decide, by decide⟩ fun _ _ _ _ _ _ _ _ _ h => ?_
  dsimp only
  refine h.yes (by omega) 0 ⟨by decide, by decide, by decide⟩ fun _ _ _ _ _ _ _ _ _ h => ?_
  dsimp only
  refine h.yes (by omega) 0 ⟨by decide, by decide, by decide⟩ fun _ _ _ _ _ _ _ _ _ h => ?_
  dsimp only
  refine Yes.of (br_eql_t (by decide +kernel)) ?_
  refine Yes.of (br_eql_t (by decide +kernel)) ?_
  refine Yes.of (br_eql_t (by decide +kernel)) ?_
  refine Yes.of (br_lss_t (by decide +kernel)) ?_
  refine Yes.of (br_eql_t (by decide +kernel)) ?_
  exact Yes.mk' (decide_eq_true (by decide +kernel))
end Go.Proofs.Ytihiooaimdoapaa
set_option linter.unusedVariables false
set_option linter.unusedSimpArgs false
namespace Go.Bm
noncomputable section
open Go.RowKit Go.ChangeShapes Go.WideShapes Go.Deep
def memOf (W : World) : Mem := fun b o => (W.cell? ⟨b, o, none⟩).filter (·.oneCell')
theorem memOf_of {W : World} {b o : Nat} {x : Value} (h : W.cell? ⟨b, o, none⟩ = some x) (h1 : x.oneCell' = true) : memOf W b o = some x := by simp [memOf, h, h1]
theorem cell_heap {W : World} {b o : Nat} {x : Value} (h : W.cell? ⟨b, o, none⟩ = some x) : ∃ cur ty fz, W.heap[b]? = some (.cells cur ty fz) ∧ cur[o]? = some x := by
  unfold World.cell? at h
  split at h
  · rename_i c ty fz hb
    simp at h
    exact ⟨c, ty, fz, hb, h⟩
  · cases h
def inR (k : IntKind) (a : Int) : Prop := k.min ≤ a ∧ a ≤ k.max
def okT : (t : Ty) → t.T → Prop
  | .int k, a => inR k a
  | .bool, _ => True
  | .unit, _ => True
  | .pair a b, x => okT a x.1 ∧ okT b x.2
  | .arr n t, l => List.length (α := t.T) l = n ∧ ∀ x : t.T, List.Mem (α := t.T) x l → okT t x
  | .slc t, l => List.length (α := t.T) l ≤ maxLen ∧ ∀ x : t.T, List.Mem (α := t.T) x l → okT t x
  | _, _ => False
def RdT (P : Program) (W : World) (t : TypeId) (u : Ty) : Prop :=
  ∀ (H : Type) (enc : TypeId × Value → H) (n : Nat) (cs : List Value) (x : DataW H × List MemPlace), DataW.trod enc P W 0 (fun _ => true) true n t cs = some x → ∃ a : u.T, VDs (memOf W) (encD u a) cs ∧ okT u a
theorem pick_list {α : Type} {Q : Nat → α → Prop} : ∀ n : Nat, (∀ i, i < n → ∃ x, Q i x) → ∃ xs : List α, xs.length = n ∧ ∀ (i : Nat) (x : α), xs[i]? = some x → Q i x
  | 0, _ => ⟨[], rfl, fun i x h => by simp at h⟩
  | n + 1, h => by
    obtain ⟨xs, h1, h2⟩ := pick_list n (fun i hi => h i (by omega))
    obtain ⟨x, hx⟩ := h n (by omega)
    refine ⟨xs ++ [x], by simp [h1], fun i y hy => ?_⟩
    by_cases hi : i < xs.length
    · rw [List.getElem?_append_left hi] at hy; exact h2 i y hy
    · rw [List.getElem?_append_right (by omega)] at hy
      have := (List.getElem?_eq_some_iff.1 hy).1
      have e : i - xs.length = 0 := by simp at this; omega
      rw [e] at hy
      simp at hy
      subst hy
      rw [show i = n by omega]; exact hx
theorem cells_get {W : World} {base n : Nat} {a : Addr} {cs : List Value} (h : W.cells? base a n = some cs) (k : Nat) (x : Value) (hk : cs[k]? = some x) : W.cell? (a.add k) = some x := by
  unfold World.cells? at h
  split at h
  · have hlen := mapM_some_length h
    have hlt := (List.getElem?_eq_some_iff.1 hk).1
    rw [List.length_range] at hlen
    rw [← hk]
    exact mapM_some_get h k k (by rw [List.getElem?_range (by omega)])
  · cases h
theorem rows_VDs {α : Type} {M : Mem} {f : α → List D} : ∀ ps : List (α × List Value), (∀ q ∈ ps, VDs M (f q.1) q.2) → VDs M (ps.map fun q => f q.1).flatten (ps.map (·.2)).flatten
  | [], _ => ⟨rfl, by simp⟩
  | q :: ps, h => by
    rw [List.map_cons, List.map_cons, List.flatten_cons, List.flatten_cons]
    exact (h q (List.mem_cons_self ..)).append (rows_VDs ps (fun r hr => h r (List.mem_cons_of_mem _ hr)))
theorem rows_mem {α : Type} {M : Mem} {b sz : Nat} : ∀ (ps : List (α × List Value)) (off : Nat), (∀ (i : Nat) (q : α × List Value), ps[i]? = some q → q.2.length = sz ∧ ∀ (k : Nat) (x : Value), q.2[k]? = some x → M b (off + i * sz + k) = some x) →
    ∀ (j : Nat) (x : Value), (ps.map (·.2)).flatten[j]? = some x → M b (off + j) = some x
  | [], _, _, j, x, h => by simp at h
  | q :: ps, off, h, j, x, hj => by
    obtain ⟨h1, h2⟩ := h 0 q rfl
    rw [List.map_cons, List.flatten_cons] at hj
    by_cases hlt : j < q.2.length
    · rw [List.getElem?_append_left hlt] at hj
      simpa using h2 j x hj
    · rw [List.getElem?_append_right (by omega)] at hj
      have := rows_mem ps (off + sz) (fun i r hr => by
        obtain ⟨k1, k2⟩ := h (i + 1) r (by simpa using hr)
        refine ⟨k1, fun k x hk => ?_⟩
        have := k2 k x hk
        rwa [show off + sz + i * sz + k = off + (i + 1) * sz + k by rw [Nat.add_mul]; omega]) _ x hj
      rwa [show off + sz + (j - q.2.length) = off + j by omega] at this
theorem VDs.one' {M : Mem} {d : D} {v : Value} (h : VD M d v) : VDs M [d] [v] := ⟨rfl, fun j c x k1 k2 => by
  cases j with
  | zero => simp at k1 k2; subst k1 k2; exact h
  | succ j => simp at k1⟩
theorem VDs.cut {M : Mem} {ds es : List D} {cs : List Value} (n : Nat) (h1 : VDs M ds (cs.take n)) (h2 : VDs M es (cs.drop n)) : VDs M (ds ++ es) cs := by
  have := h1.append h2
  rwa [List.take_append_drop] at this
theorem VDs.ones {M : Mem} {ds : List D} {vs : List Value} (h : VDs M ds vs) : ∀ x ∈ vs, x.oneCell' = true := fun x hx => by
  obtain ⟨j, hj⟩ := List.getElem?_of_mem hx
  have hl := (List.getElem?_eq_some_iff.1 hj).1
  exact (h.2 j _ x (List.getElem?_eq_getElem (by rw [h.1]; exact hl)) hj).one
section
variable {P : Program} {W : World}
theorem rdInt {t : TypeId} {k : IntKind} (ht : P.underlying t = some (.int k)) : RdT P W t (.int k) := by
  intro H enc n cs x h
  obtain ⟨a, rfl, _, hw⟩ := DataW.trod_int ht h
  refine ⟨a, .one' (.v _ rfl), ?_⟩
  have hw : (decide (k.min ≤ a) && decide (a ≤ k.max)) = true := hw
  rw [Bool.and_eq_true] at hw
  exact ⟨of_decide_eq_true hw.1, of_decide_eq_true hw.2⟩
theorem rdBool {t : TypeId} (ht : P.underlying t = some .bool) : RdT P W t .bool := by
  intro H enc n cs x h
  obtain ⟨a, rfl, _⟩ := DataW.trod_bool ht h
  exact ⟨a, .one' (.v _ rfl), trivial⟩
theorem encD_flat {u : Ty} (l : List u.T) (n : Nat) (hn : l.length = n) : encD (.arr n u) l = (l.map (encD u)).flatten := by
  subst hn
  have := range_nth (encD u) u.dflt l
  rw [← List.flatMap_def]
  exact this
theorem rdSlc {t e : TypeId} {u : Ty} (ht : P.underlying t = some (.slice e)) (he : P.cellsOf e = u.size) (h0 : 0 < u.size) (h : RdT P W e u) : RdT P W t (.slc u) := by
  intro H enc n cs x hx
  rcases open_slice ht hx with ⟨rfl, _⟩ | ⟨a, len, cap, m, n', D', Pl, rfl, hb, hl, hm, hmm, _, hel⟩
  · exact ⟨([] : List u.T), .one' (.sl0 u.size false none), Nat.zero_le _, fun x hx => by cases hx⟩
  · have hm' : m = cap := by simpa using hmm
    by_cases hc : cap = 0
    · subst hc
      have : len = 0 := by omega
      subst this
      exact ⟨([] : List u.T), .one' (.sl0 u.size false _), Nat.zero_le _, fun x hx => by cases hx⟩
    · obtain ⟨b, off, sp⟩ := a
      have hsp : sp = none := by
        obtain ⟨cs', k1, _⟩ := hel 0 (by omega)
        obtain ⟨_, hlen, hcell⟩ := World.cells?_some k1
        have g0 := hcell 0 (by omega)
        obtain ⟨c0, hc0⟩ : ∃ c0, cs'[0]? = some c0 := by
          cases cs' with
          | nil => simp at hlen; omega
          | cons c _ => exact ⟨c, rfl⟩
        rw [hc0] at g0
        simpa [Addr.add] using World.cell?_spot g0
      subst hsp
      obtain ⟨ps, h1, h2⟩ := pick_list (Q := fun i (q : u.T × List Value) => W.cells? 0 ((⟨b, off, none⟩ : Addr).add (i * P.cellsOf e)) (P.cellsOf e) = some q.2 ∧ VDs (memOf W) (encD u q.1) q.2 ∧ okT u q.1) len (fun i hi => by
        obtain ⟨cs', k1, k2⟩ := hel i (by omega)
        obtain ⟨x, k3, k4⟩ := h H enc n' cs' _ k2
        exact ⟨(x, cs'), k1, k3, k4⟩)
      have hmem : ∀ q ∈ ps, VDs (memOf W) (encD u q.1) q.2 := fun q hq => by
        obtain ⟨i, hi⟩ := List.getElem?_of_mem hq
        exact (h2 i q hi).2.1
      refine ⟨ps.map (·.1), .one' ?_, ?_, fun x hx' => ?_⟩
      · have hlen : ((ps.map (·.1)).map (encD u)).length = len := by simp [h1]
        have hv := rows_VDs ps hmem
        have hfl : ((ps.map (·.1)).map (encD u)).flatten = (ps.map fun q => encD u q.1).flatten := by rw [List.map_map]; rfl
        have := VD.sl (M := memOf W) u.size false ((ps.map (·.1)).map (encD u)) (some (b, off)) cap (ps.map (·.2)).flatten (by
          intro e' he'
          obtain ⟨x, _, rfl⟩ := List.mem_map.1 he'
          exact encD_len u x) (by rw [hlen]; exact hl) (fun h => by cases h) (fun h => by cases h) hm (by rw [hfl]; exact hv.1) (fun p j x hp hj => by
          cases hp
          refine rows_mem (M := memOf W) (b := b) (sz := u.size) ps off (fun i q hq => ?_) j x hj
          obtain ⟨k1, k2, _⟩ := h2 i q hq
          refine ⟨by rw [← k2.1, encD_len], fun k x hk => ?_⟩
          refine memOf_of ?_ (k2.ones x (List.mem_of_getElem? hk))
          have hcell := cells_get k1 k x hk
          rw [he] at hcell
          simpa [Addr.add_lit] using hcell) (fun j c x e1 e2 => hv.2 j c x (by rw [← hfl]; exact e1) e2)
        rw [hlen] at this
        exact this
      · show (ps.map (·.1)).length ≤ maxLen
        simp [h1]; omega
      · have hx' : x ∈ ps.map (·.1) := hx'
        obtain ⟨q, hq, rfl⟩ := List.mem_map.1 hx'
        obtain ⟨i, hi⟩ := List.getElem?_of_mem hq
        exact (h2 i q hi).2.2
theorem rdArr {t e : TypeId} {n : Nat} {u : Ty} (ht : P.underlying t = some (.array n e)) (he : P.cellsOf e = u.size) (hn : P.cellsOf t = n * u.size) (h : RdT P W e u) : RdT P W t (.arr n u) := by
  intro H enc m cs x hx
  obtain ⟨xs, m', _, _, hl, hxl, hel⟩ := DataW.trod_array ht hx
  rw [he] at hel
  have key : ∀ k, k ≤ n → ∃ aas : List u.T, aas.length = k ∧ VDs (memOf W) (aas.map (encD u)).flatten (cs.drop ((n - k) * u.size)) ∧ ∀ x ∈ aas, okT u x := by
    intro k
    induction k with
    | zero =>
      intro _
      refine ⟨[], rfl, ?_, by simp⟩
      rw [Nat.sub_zero, ← hn, ← hl, List.drop_length]; exact ⟨rfl, by simp⟩
    | succ k ih =>
      intro hk
      obtain ⟨aas, a1, a2, a3⟩ := ih (by omega)
      have h1 := hel (n - (k + 1)) (by omega)
      have hx1 : xs[n - (k + 1)]? = some xs[n - (k + 1)] := List.getElem?_eq_getElem (by omega)
      rw [hx1] at h1
      obtain ⟨a, b1, b2⟩ := h H enc m' _ _ h1
      refine ⟨a :: aas, by simp [a1], ?_, ?_⟩
      · rw [List.map_cons, List.flatten_cons]
        refine .cut u.size b1 ?_
        rw [List.drop_drop]
        have : (n - (k + 1)) * u.size + u.size = (n - k) * u.size := by rw [← Nat.succ_mul]; congr 1; omega
        rw [this]; exact a2
      · intro y hy
        rcases List.mem_cons.1 hy with rfl | hy
        · exact b2
        · exact a3 y hy
  obtain ⟨aas, a1, a2, a3⟩ := key n (Nat.le_refl _)
  rw [Nat.sub_self, Nat.zero_mul, List.drop_zero] at a2
  refine ⟨aas, ?_, a1, a3⟩
  rw [encD_flat aas n a1]; exact a2
inductive RdF (P : Program) (W : World) : List Field → Nat → Ty → Prop
  | one {fd : Field} {off : Nat} {a : Ty} (h : RdT P W fd.type a) (ho : fd.offset = off) (hs : P.cellsOf fd.type = a.size) : RdF P W [fd] off a
  | cons {fd : Field} {fs : List Field} {off : Nat} {a b : Ty} (h : RdT P W fd.type a) (ho : fd.offset = off) (hs : P.cellsOf fd.type = a.size) (k : RdF P W fs (off + a.size) b) : RdF P W (fd :: fs) off (.pair a b)
theorem RdF.read {H : Type} {enc : TypeId × Value → H} {n : Nat} {cs : List Value} {fs : List Field} {off : Nat} {u : Ty} (h : RdF P W fs off u) : cs.length = off + u.size →
    (∀ fd ∈ fs, ∃ x, DataW.trod enc P W 0 (fun _ => true) true n fd.type ((cs.drop fd.offset).take (P.cellsOf fd.type)) = some x) → ∃ a : u.T, VDs (memOf W) (encD u a) (cs.drop off) ∧ okT u a := by
  induction h with
  | one h ho hs =>
    intro hl hx
    obtain ⟨x, hx1⟩ := hx _ (List.mem_cons_self ..)
    obtain ⟨a, a1, a2⟩ := h H enc n _ x hx1
    refine ⟨a, ?_, a2⟩
    rw [ho, hs, List.take_of_length_le (by simp; omega)] at a1
    exact a1
  | cons h ho hs k ih =>
    rename_i fd fs off a b
    intro hl hx
    have hl : cs.length = off + (a.size + b.size) := hl
    obtain ⟨x, hx1⟩ := hx fd (List.mem_cons_self ..)
    obtain ⟨y, a1, a2⟩ := h H enc n _ x hx1
    obtain ⟨z, b1, b2⟩ := ih (by omega) (fun fd' hm => hx fd' (List.mem_cons_of_mem _ hm))
    refine ⟨(y, z), ?_, a2, b2⟩
    rw [ho, hs] at a1
    refine VDs.cut (ds := encD a y) (es := encD b z) a.size a1 ?_
    rw [List.drop_drop]; exact b1
theorem rdStruct {t : TypeId} {fs : Array Field} {u : Ty} (ht : P.underlying t = some (.struct fs)) (hl : P.cellsOf t = u.size) (h : RdF P W fs.toList 0 u) : RdT P W t u := by
  intro H enc n cs x hx
  obtain ⟨xs, m, _, _, hcl, hxl, hf⟩ := DataW.trod_struct ht hx
  obtain ⟨a, d1, d2⟩ := h.read (H := H) (enc := enc) (n := m) (cs := cs) (by rw [hcl, hl, Nat.zero_add]) (fun fd hm => by
    obtain ⟨i, hi⟩ := List.getElem?_of_mem hm
    have hi' : fs[i]? = some fd := by simpa using hi
    have h1 := hf i fd hi'
    have hlt : i < fs.size := (Array.getElem?_eq_some_iff.1 hi').1
    exact ⟨xs[i]'(by omega), by rw [h1]; exact List.getElem?_eq_getElem (by omega)⟩)
  rw [List.drop_zero] at d1
  exact ⟨a, d1, d2⟩
def gst (W : World) : G := ⟨fun _ => none, memOf W, fun _ => none⟩
theorem Inv.start {S : Hp} (hS : ∀ o, S.ob o = none) : Inv (gst W) S W where
  cells := fun o cs h => by rw [hS] at h; cases h
  oth := fun o x h => by rw [hS] at h; cases h
  fresh := fun _ _ => rfl
  lt := fun o b s h => by cases h
  inj := fun o o' x x' b s s' h => by rw [hS] at h; cases h
  mem := fun b i x h => by
    have h : (W.cell? ⟨b, i, none⟩).filter (·.oneCell') = some x := h
    rw [Option.filter_eq_some_iff] at h
    exact cell_heap h.1
  memd := fun o b s i x h => by rw [hS] at h; cases h
  lp := fun b l h => by cases h
theorem rd_top {t : TypeId} {u : Ty} {H : Type} {enc : TypeId × Value → H} {v : Value} {dd : DataW H} {p : List MemPlace} (hr : RdT P W t u) (hd : u.data = true) (hc : v.cells.toList = [v]) (h : DataW.Trod enc P W 0 (fun _ => true) true t v dd p) :
    ∃ a : u.T, V (gst W) (packA false u a) v ∧ okT u a := by
  obtain ⟨fuel, hf⟩ := h
  rw [hc] at hf
  obtain ⟨a, h1, h2⟩ := hr H enc fuel _ _ hf
  have h3 := VDs.cells (g := gst W) u a _ hd h1
  refine ⟨a, ?_, h2⟩
  show V (gst W) (match encA u a with | [c] => c | _ => .junk) v
  obtain ⟨hl, h4⟩ := h3
  match he : encA u a with
  | [c] => exact (h4 0 c v (by rw [he]; rfl) rfl).1
  | [] => exact .junk _
  | _ :: _ :: _ => exact .junk _
theorem rd_topA {t : TypeId} {u : Ty} {H : Type} {enc : TypeId × Value → H} {vs : Array Value} {dd : DataW H} {p : List MemPlace} (hr : RdT P W t u) (hd : u.data = true) (h : DataW.Trod enc P W 0 (fun _ => true) true t (.agg vs) dd p) :
    ∃ a : u.T, V (gst W) (packA true u a) (.agg vs) ∧ okT u a := by
  obtain ⟨fuel, hf⟩ := h
  obtain ⟨a, h1, h2⟩ := hr H enc fuel _ _ hf
  have h3 := VDs.cells (g := gst W) u a _ hd h1
  have h3 : Vs (gst W) (encA u a) vs.toList := by simpa [Value.cells] using h3
  exact ⟨a, by have := h3.agg; simpa [packA] using this, h2⟩
theorem okWide_agg {base : Nat} {t e : TypeId} {n : Nat} {v : Value} (ht : P.underlying t = some (.array n e)) (h : Value.okWide P W .any base t v) : ∃ vs, v = .agg vs := by
  unfold Value.okWide at h
  rw [ht] at h
  obtain ⟨cs, h1, _⟩ := h
  exact ⟨cs, h1⟩
def emK : (k : RK) → k.T
  | .box t => ([] : List t.T)
  | .row t => ([] : List (Option (List t.T)))
  | .map _ tk _ tv => ([] : List (List (tk.T × tv.T)))
def emR : (l : List (Nat × RK)) → Rgs l
  | [] => ()
  | p :: l => (emK p.2, emR l)
theorem regOb_em : ∀ (k : RK) (j : Nat), regOb k (emK k) j = none
  | .box _, _ => rfl
  | .row _, _ => rfl
  | .map _ _ _ _, _ => rfl
theorem rfind_em : ∀ (l : List (Nat × RK)) (r : Nat) (x : Rg), rfind (rgsL l (emR l)) r = some x → ∀ j, regOb x.k x.c j = none
  | [], r, x, h, j => by cases h
  | p :: l, r, x, h, j => by
    have h : (bif Nat.beq p.1 r then some (⟨p.1, p.2, emK p.2⟩ : Rg) else rfind (rgsL l (emR l)) r) = some x := h
    cases hp : Nat.beq p.1 r with
    | true => rw [hp] at h; cases h; exact regOb_em p.2 j
    | false => rw [hp] at h; exact rfind_em l r x h j
theorem h0_none (rl wl : List (Nat × RK)) (o : Nat) : (hp (h0 rl wl (emR rl) (emR wl))).ob o = none := by
  show (if o < lim then tOb .nil o else regAt (rgsL wl (emR wl) ++ rgsL rl (emR rl)) o) = none
  split
  · unfold tOb; rw [Tr.get_nil]
  · unfold regAt
    rw [rfind_app]
    cases h1 : rfind (rgsL wl (emR wl)) (rOf o) with
    | some x => exact rfind_em wl _ x h1 _
    | none =>
      simp only
      cases h2 : rfind (rgsL rl (emR rl)) (rOf o) with
      | some x => exact rfind_em rl _ x h2 _
      | none => rfl
theorem law_true {f : FuncId} {sg : Sig} {F : Plain sg} (h : CtOk P f sg F) (hrs : sg.rs = [(false, .bool)]) (x : Tup sg.ps) {y : Tup sg.rs} {d' : Rgs sg.wg} (hF : F x (emR sg.rg) (emR sg.wg) = some (y, d')) (hy : retA sg.rs y = .v (.bool true)) {vs : List Value}
    (hl : (argsA sg.ps x).length = vs.length) (hv : ∀ (i : Nat) (p : A) (v : Value), (argsA sg.ps x)[i]? = some p → vs[i]? = some v → V (gst W) p v) :
    Calls P f vs.toArray W fun e W' => e = .returned (.bool true) ∧ Go.World.Since W.heap.size W W' := by
  obtain ⟨t, nid, lk, hp⟩ := h.pc x _ _ y d' hF
  refine (hp (gst W) W vs (.start (h0_none _ _)) hl hv).mono ?_
  rintro e W' ⟨v, g', rfl, h1, _, h3⟩
  rw [hy] at h1
  cases h1
  exact ⟨rfl, h3.os, h3.tape, h3.output, h3.size, fun k hk => h3.frame k hk (by rintro ⟨o, s, x, _, e⟩; cases e)⟩
end
end
end Go.Bm
set_option linter.unusedVariables false
set_option linter.unusedSimpArgs false
namespace Go.Proofs.Ytihiooaimdoapaa
open Go.Bm Go.Pen
structure Left (m : M) (s left : Int) : Prop where
  ar : area (m.thAt 0).ents = s
  sz : (scGet m.sc s).2.2 = (m.arAt s).used + left
  rg : 0 ≤ left ∧ left ≤ 16384
theorem arAt_set {m : M} {s : Int} {a : Area} (h0 : 0 ≤ s) (h : s < m.ar.length) : (m.setAr s a).arAt s = a := by
  unfold M.arAt M.setAr
  rw [List.getD_eq_getElem?_getD]
  show ((m.ar.set s.toNat a)[s.toNat]?).getD ar0 = a
  rw [List.getElem?_set, if_pos rfl, if_pos (by omega)]; rfl
theorem thAt_set {m : M} {n : Int} {t : Thr} (h : 0 ≤ n ∧ n < m.th.length) : (m.setTh n t).thAt n = t := by
  unfold M.thAt M.setTh
  rw [List.getD_eq_getElem?_getD]
  show ((m.th.set n.toNat t)[n.toNat]?).getD _ = t
  rw [List.getElem?_set, if_pos rfl, if_pos (by omega)]; rfl
theorem alloc_step {m : M} {k : Nat} (hi : MI k m) (hc : CT m) {s left : Int} (h : Left m s left) {a b : Int} (ha : 0 ≤ a ∧ a ≤ 6) (hb : 0 ≤ b ∧ b ≤ 60) :
    (left < 8 * (2 + a + (b + 7) / 8) ∧ (m.step 0 (7, 0, 0, 0, a, b, 0)).2.1.1 = 17 ∧ (m.step 0 (7, 0, 0, 0, a, b, 0)).1 = m) ∨
    (¬ left < 8 * (2 + a + (b + 7) / 8) ∧ (m.step 0 (7, 0, 0, 0, a, b, 0)).2.1.1 = 0 ∧ Left (m.step 0 (7, 0, 0, 0, a, b, 0)).1 s (left - 8 * (2 + a + (b + 7) / 8))) := by
  have hp := hi.nsc
  have hlt := hi.lt
  have hn : (0 : Int) ≤ 0 ∧ (0 : Int) < m.th.length := by omega
  have ht := hi.thAt hn
  have hlv := hi.live hc (M.thMem hn) (area_in ht.2.2)
  obtain ⟨h1, h2, h3⟩ := h
  rw [h1] at hlv
  have his : scIs m.sc 0 s = true := scIs_iff.2 ⟨hlv.2.2.1, by rw [hi.ls]; exact hlv.2.2.2⟩
  have hw : headWords a b = (2 + a + (b + 7) / 8, 0) := by
    unfold headWords
    rw [if_neg]
    rw [not_or, Bool.not_eq_false, Bool.not_eq_false, wi_iff, wi_iff]
    omega
  have es : m.step 0 (7, 0, 0, 0, a, b, 0) = ((m.alloc 0 0 a b 0).1, (m.alloc 0 0 a b 0).2, 0) := by
    unfold M.step
    rw [if_neg (by rw [Bool.not_eq_false, wi_iff]; omega), show regFit (7, 0, 0, 0, a, b, 0) = true from rfl, if_neg (by simp)]
    rfl
  rw [es]
  unfold M.alloc
  rw [h1]
  unfold scExt
  rw [if_pos his, hw, if_neg (by simp [wi_iff])]
  simp only
  by_cases hlt2 : left < 8 * (2 + a + (b + 7) / 8)
  · rw [if_pos (by omega)]
    exact .inl ⟨hlt2, rfl, rfl⟩
  · rw [if_neg (by omega)]
    refine .inr ⟨hlt2, rfl, ?_, ?_, by omega⟩
    · refine (congrArg (fun t : Thr => area t.ents) (thAt_set (m := m.setAr s _) (n := 0) hn)).trans ?_
      exact h1
    · have hla := hi.la
      have e := arAt_set (m := m) (s := s) (a := ⟨(m.arAt s).used + (2 + a + (b + 7) / 8) * 8, (m.arAt s).gate, (m.arAt s).objs ++ [⟨m.newRef 0, 0, List.replicate a.toNat 0, false⟩]⟩) hlv.2.2.1 (by omega)
      show (scGet m.sc s).2.2 = ((m.setAr s ⟨(m.arAt s).used + (2 + a + (b + 7) / 8) * 8, (m.arAt s).gate, (m.arAt s).objs ++ [⟨m.newRef 0, 0, List.replicate a.toNat 0, false⟩]⟩).arAt s).used + _
      rw [e]
      simp only
      omega
theorem bad_step {m : M} {k : Nat} (hi : MI k m) {a b : Int} (hw : (headWords a b).2 = 1) : (m.step 0 (7, 0, 0, 0, a, b, 0)).2.1.1 = 1 := by
  have hp := hi.nsc
  have hlt := hi.lt
  have es : m.step 0 (7, 0, 0, 0, a, b, 0) = ((m.alloc 0 0 a b 0).1, (m.alloc 0 0 a b 0).2, 0) := by
    unfold M.step
    rw [if_neg (by rw [Bool.not_eq_false, wi_iff]; omega), show regFit (7, 0, 0, 0, a, b, 0) = true from rfl, if_neg (by simp)]
    rfl
  rw [es]
  unfold M.alloc
  rw [hw, if_pos (.inl (by decide))]
  rfl
abbrev MemS : Type := ((Int × (Int × Unit)) × (Unit × (Unit × (Unit × (T2 × (T3 × (T4 × (T5 × (T6 × (T7 × (T8 × (T9 × (T10 × Unit)))))))))))))
def memSt (left i : Int) (d0 : T2) (d1 : T3) (d2 : T4) (d3 : T5) (d4 : T6) (d5 : T7) (d6 : T8) (d7 : T9) (d8 : T10) : MemS := ((left, (i, ())), ((), ((), ((), (d0, (d1, (d2, (d3, (d4, (d5, (d6, (d7, (d8, ())))))))))))))
abbrev MemK : Type := (Unit × (Unit × (Unit × (Unit × (T2 × (T3 × (T4 × (T5 × (T6 × (T7 × (T8 × (T9 × (T10 × Unit)))))))))))))
abbrev MemR : Type := ((Bool × Unit) × (T0 × (T1 × (T2 × (T3 × (T4 × (T5 × (T6 × (T7 × (T8 × (T9 × (T10 × Unit))))))))))))
theorem byteOf {l : List (List Int)} (hl : ∀ x ∈ l, x.length = 2 ∧ ∀ v ∈ x, inR .u8 v) {i : Nat} (hi : i < l.length) (j : Nat) (hj : j < 2) : 0 ≤ nth 0 (nth [0, 0] l i) j ∧ nth 0 (nth [0, 0] l i) j ≤ 255 := by
  rw [nth_lt hi]
  obtain ⟨h1, h2⟩ := hl l[i] (List.getElem_mem hi)
  rw [nth_lt (show j < l[i].length by omega)]
  obtain ⟨h3, h4⟩ := h2 _ (List.getElem_mem (show j < l[i].length by omega))
  exact ⟨h3, h4⟩
theorem mem_loop {l : List (List Int)} (hl : ∀ x ∈ l, x.length = 2 ∧ ∀ v ∈ x, inR .u8 v) (v0 : MemK → Option MemR) (md : Nat) (v2 : (((Option Nat) × (Int × Unit)) × (T0 × (T1 × (T2 × (T3 × (T4 × (T5 × (T6 × (T7 × Unit))))))))))
    (hv : ∀ d0 d1 d2 d3 d4 d5 d6 d7 d8 m k, k ≤ 100 → St v2.2.1 v2.2.2.1 d0 d1 d2 d3 d4 d5 d6 d7 d8 md k m → Yes (v0 ((), ((), ((), ((), (d0, (d1, (d2, (d3, (d4, (d5, (d6, (d7, (d8, ())))))))))))))))
    {s left : Int} {m : M} {d0 d1 d2 d3 d4 d5 d6 d7 d8} (h : St v2.2.1 v2.2.2.1 d0 d1 d2 d3 d4 d5 d6 d7 d8 md 10 m) (hL : Left m s left) :
    Yes (loop (g.penfoldlaw12_ModelMemory_l0 l v0 md v2) (memSt left 0 d0 d1 d2 d3 d4 d5 d6 d7 d8)) := by
  refine loop_inv (fun r (st : MemS) => ∃ (i : Nat) (left : Int) (m : M) (d0 : T2) (d1 : T3) (d2 : T4) (d3 : T5) (d4 : T6) (d5 : T7) (d6 : T8) (d7 : T9) (d8 : T10), r + i = 30 ∧ St v2.2.1 v2.2.2.1 d0 d1 d2 d3 d4 d5 d6 d7 d8 md (10 + i) m ∧ Left m s left ∧ st = memSt left (i : Int) d0 d1 d2 d3 d4 d5 d6 d7 d8) Yes ?_ (m := 30) ⟨0, left, m, d0, d1, d2, d3, d4, d5, d6, d7, d8, rfl, h, hL, rfl⟩ (by unfold big; omega)
  rintro r st ⟨i, left, m, d0, d1, d2, d3, d4, d5, d6, d7, d8, hri, h, hL, rfl⟩
  have hfin := hv d0 d1 d2 d3 d4 d5 d6 d7 d8 m (10 + i) (by omega) h
  by_cases h1 : i < l.length
  · by_cases h2 : i < 30
    · refine .inr ?_
      obtain ⟨q1, q2⟩ := byteOf hl h1 0 (by omega)
      obtain ⟨q3, q4⟩ := byteOf hl h1 1 (by omega)
      have eA : irem (wrp IntKind.i64 (nth 0 (nth [0, 0] l (nN (i : Int))) 0)) 7 = nth 0 (nth [0, 0] l i) 0 % 7 := by
        rw [nN_c, wrp_s (by omega), irem_p q1]
      have eB : irem (wrp IntKind.i64 (nth 0 (nth [0, 0] l (nN (i : Int))) 1)) 61 = nth 0 (nth [0, 0] l i) 1 % 61 := by
        rw [nN_c, wrp_s (by omega), irem_p q3]
      generalize nth 0 (nth [0, 0] l i) 0 = x at *
      generalize nth 0 (nth [0, 0] l i) 1 = y at *
      have hx : 0 ≤ x % 7 ∧ x % 7 ≤ 6 := by omega
      have hy : 0 ≤ y % 61 ∧ y % 61 ≤ 60 := by omega
      generalize x % 7 = a at *
      generalize y % 61 = b at *
      have eN : imul IntKind.i64 8 (iadd IntKind.i64 (iadd IntKind.i64 2 a) (iquo IntKind.i64 (iadd IntKind.i64 b 7) 8)) = 8 * (2 + a + (b + 7) / 8) := by
        rw [iadd_s (a := 2) (by omega), iadd_s (a := b) (by omega), iquo_p (by omega), iadd_s (by omega), imul_s (by omega)]
      have ei : iadd IntKind.i64 (i : Int) 1 = ((i + 1 : Nat) : Int) := by rw [iadd_s (by omega)]; omega
      obtain ⟨e0, e1, e2, e3, e4, e5, e6, e7, e8, k1, k2⟩ := h.step (by omega) 0 (c := (7, 0, 0, 0, a, b, 0)) ⟨Int.le_refl 0, Int.le_refl 0, Int.le_refl 0⟩
      rcases alloc_step h.mi h.ct hL hx hy with ⟨r1, r2, r3⟩ | ⟨r1, r2, r3⟩
      · refine ⟨r - 1, _, by omega, ⟨i + 1, left, _, e0, e1, e2, e3, e4, e5, e6, e7, e8, by omega, k2, by rw [r3]; exact hL, rfl⟩, fun G => ?_⟩
        unfold g.penfoldlaw12_ModelMemory_l0 memSt
        dsimp only
        repeat (refine HS ?_)
        rw [eA, eB]
        refine bdI' k1 ?_
        dsimp only
        rw [eN, ei]
        repeat (refine HS ?_)
        rfl
      · refine ⟨r - 1, _, by omega, ⟨i + 1, _, _, e0, e1, e2, e3, e4, e5, e6, e7, e8, by omega, k2, r3, rfl⟩, fun G => ?_⟩
        have hrg := hL.rg
        have eM : isub IntKind.i64 left (8 * (2 + a + (b + 7) / 8)) = left - 8 * (2 + a + (b + 7) / 8) := isub_s (by omega)
        unfold g.penfoldlaw12_ModelMemory_l0 memSt
        dsimp only
        repeat (refine HS ?_)
        rw [eA, eB]
        refine bdI' k1 ?_
        dsimp only
        rw [eN, ei, eM]
        repeat (refine HS ?_)
        rfl
    · refine .inl ⟨_, hfin, fun G => ?_⟩
      unfold g.penfoldlaw12_ModelMemory_l0 memSt
      dsimp only
      repeat (refine HS ?_)
      rfl
  · refine .inl ⟨_, hfin, fun G => ?_⟩
    unfold g.penfoldlaw12_ModelMemory_l0 memSt
    dsimp only
    repeat (refine HS ?_)
    rfl
theorem mem_made {n : Int} (hn : 1 ≤ n ∧ n ≤ 256) : ((M.new pSome []).step 0 (2, 0, 0, 0, n, 0, 0)).2.1.2.1 = 1 ∧ Left ((M.new pSome []).step 0 (2, 0, 0, 0, n, 0, 0)).1 0 128 ∧
    (((M.new pSome []).step 0 (2, 0, 0, 0, n, 0, 0)).1.step 0 (4, 0, 0, 0, 1, 0, 0)).2.1.1 = 0 ∧ Left (((M.new pSome []).step 0 (2, 0, 0, 0, n, 0, 0)).1.step 0 (4, 0, 0, 0, 1, 0, 0)).1 1 ((n + 7) / 8 * 8) := by
  have key : ∀ x : Fin 256, ((M.new pSome []).step 0 (2, 0, 0, 0, (x.val : Int) + 1, 0, 0)).2.1.2.1 = 1 ∧
      (area (((M.new pSome []).step 0 (2, 0, 0, 0, (x.val : Int) + 1, 0, 0)).1.thAt 0).ents = 0 ∧ (scGet ((M.new pSome []).step 0 (2, 0, 0, 0, (x.val : Int) + 1, 0, 0)).1.sc 0).2.2 = (((M.new pSome []).step 0 (2, 0, 0, 0, (x.val : Int) + 1, 0, 0)).1.arAt 0).used + 128) ∧
      (((M.new pSome []).step 0 (2, 0, 0, 0, (x.val : Int) + 1, 0, 0)).1.step 0 (4, 0, 0, 0, 1, 0, 0)).2.1.1 = 0 ∧
      (area ((((M.new pSome []).step 0 (2, 0, 0, 0, (x.val : Int) + 1, 0, 0)).1.step 0 (4, 0, 0, 0, 1, 0, 0)).1.thAt 0).ents = 1 ∧ (scGet (((M.new pSome []).step 0 (2, 0, 0, 0, (x.val : Int) + 1, 0, 0)).1.step 0 (4, 0, 0, 0, 1, 0, 0)).1.sc 1).2.2 = ((((M.new pSome []).step 0 (2, 0, 0, 0, (x.val : Int) + 1, 0, 0)).1.step 0 (4, 0, 0, 0, 1, 0, 0)).1.arAt 1).used + (((x.val : Int) + 1) + 7) / 8 * 8) := by decide +kernel
  have h := key ⟨(n - 1).toNat, by omega⟩
  have e : (((n - 1).toNat : Nat) : Int) + 1 = n := by omega
  simp only [e] at h
  obtain ⟨h1, ⟨h2, h3⟩, h4, h5, h6⟩ := h
  exact ⟨h1, ⟨h2, h3, by omega⟩, h4, h5, h6, by omega⟩
theorem modelMemory_plain (a : Int) (b : Bool) (l : List (List Int)) (ha : okT (.int .u8) a) (_ : okT .bool b) (hl : okT (.slc (.arr 2 (.int .u8))) l) : ∃ d, F3 (a, b, l, ()) (emR _) (emR _) = some ((true, ()), d) := by
  obtain ⟨ha1, ha2⟩ := ha
  have ha1 : (0 : Int) ≤ a := ha1
  have ha2 : a ≤ 255 := ha2
  have hl2 : ∀ x ∈ l, x.length = 2 ∧ ∀ v ∈ x, inR .u8 v := hl.2
  show Yes (g.penfoldlaw12_ModelMemory a b l [] [] [] [] [] [] [] [] [] [] [])
  unfold g.penfoldlaw12_ModelMemory
  obtain ⟨d, hd⟩ := shown_yes [] [] [] [] [] [] [] [] [] [] []
  refine YbdI' hd ?_
  refine YbdI' (rfl : g.penfoldlaw12_some = some ((pSome, ()), ())) ?_
  obtain ⟨e0, e1, e2, e3, e4, e5, e6, e7, k1, h⟩ := St.new (p := pSome) (by decide) nil_right d.2.2.2.2.2.2.2.2.1 d.2.2.2.2.2.2.2.2.2.1 d.2.2.2.2.2.2.2.2.2.2.1 d.1 d.2.1 d.2.2.1 d.2.2.2.1 d.2.2.2.2.1 d.2.2.2.2.2.1 d.2.2.2.2.2.2.1 d.2.2.2.2.2.2.2.1
  refine YbdI' k1 ?_
  repeat (refine YS ?_)
  have en : iadd IntKind.i64 1 (wrp IntKind.i64 a) = a + 1 := by rw [wrp_s (by omega), iadd_s (by omega)]; omega
  have eq : imul IntKind.i64 (iquo IntKind.i64 (iadd IntKind.i64 (a + 1) 7) 8) 8 = (a + 1 + 7) / 8 * 8 := by rw [iadd_s (by omega), iquo_p (by omega), imul_s (by omega)]
  dsimp only
  rw [en, eq]
  obtain ⟨m1, m2, m3, m4⟩ := mem_made (n := a + 1) (by omega)
  refine h.yes (by omega) 0 ⟨Int.le_refl 0, Int.le_refl 0, Int.le_refl 0⟩ fun r0 r1 r2 r3 r4 r5 r6 r7 r8 h2 => ?_
  cases b with
  | true =>
    repeat (refine YS ?_)
    dsimp only
    rw [m1]
    refine h2.yes (by omega) 0 ⟨Int.le_refl 0, Int.le_refl 0, Int.le_refl 0⟩ fun q0 q1 q2 q3 q4 q5 q6 q7 q8 h3 => ?_
    repeat (refine YS ?_)
    refine mem_loop hl2 _ _ _ ?_ (m := _) ⟨h3.rel, MI.mono h3.mi (by omega) (by omega), h3.ct⟩ m4
    intro d0 d1 d2 d3 d4 d5 d6 d7 d8 m k hk h
    dsimp only at h ⊢
    have w1 := bad_step h.mi (a := 7) (b := 0) (by decide)
    refine h.yes (by omega) 0 ⟨Int.le_refl 0, Int.le_refl 0, Int.le_refl 0⟩ fun _ _ _ _ _ _ _ _ _ h => ?_
    dsimp only
    have w2 := bad_step h.mi (a := 0) (b := 513) (by decide)
    refine h.yes (by omega) 0 ⟨Int.le_refl 0, Int.le_refl 0, Int.le_refl 0⟩ fun _ _ _ _ _ _ _ _ _ h => ?_
    dsimp only
    have w3 := bad_step h.mi (a := 0) (b := 9223372036854775807) (by decide)
    refine h.yes (by omega) 0 ⟨Int.le_refl 0, Int.le_refl 0, Int.le_refl 0⟩ fun _ _ _ _ _ _ _ _ _ h => ?_
    dsimp only
    refine Yes.of (br_eql_t w1) ?_
    refine Yes.of (br_eql_t w2) ?_
    exact Yes.mk' (decide_eq_true w3)
  | false =>
    repeat (refine YS ?_)
    refine mem_loop hl2 _ _ _ ?_ (m := _) ⟨h2.rel, MI.mono h2.mi (by omega) (by omega), h2.ct⟩ m2
    intro d0 d1 d2 d3 d4 d5 d6 d7 d8 m k hk h
    dsimp only at h ⊢
    have w1 := bad_step h.mi (a := 7) (b := 0) (by decide)
    refine h.yes (by omega) 0 ⟨Int.le_refl 0, Int.le_refl 0, Int.le_refl 0⟩ fun _ _ _ _ _ _ _ _ _ h => ?_
    dsimp only
    have w2 := bad_step h.mi (a := 0) (b := 513) (by decide)
    refine h.yes (by omega) 0 ⟨Int.le_refl 0, Int.le_refl 0, Int.le_refl 0⟩ fun _ _ _ _ _ _ _ _ _ h => ?_
    dsimp only
    have w3 := bad_step h.mi (a := 0) (b := 9223372036854775807) (by decide)
    refine h.yes (by omega) 0 ⟨Int.le_refl 0, Int.le_refl 0, Int.le_refl 0⟩ fun _ _ _ _ _ _ _ _ _ h => ?_
    dsimp only
    refine Yes.of (br_eql_t w1) ?_
    refine Yes.of (br_eql_t w2) ?_
    exact Yes.mk' (decide_eq_true w3)
end Go.Proofs.Ytihiooaimdoapaa
set_option linter.unusedVariables false
set_option linter.unusedSimpArgs false
namespace Go.Proofs.Ytihiooaimdoapaa
open Go.Bm
open Go.ChangeShapes Go.WideShapes Go.ChangeAt Go.RowKit
theorem Try.own : ownKnob Try.prog.godebug = none := by kernel_rfl
theorem Try.laidOut : laidOutB Try.prog = true := by kernel_rfl
theorem modelMemory_rd0 (W : World) : RdT Try.prog W 5 (.int .u8) := (rdInt Try.underlying5)
theorem modelMemory_rd1 (W : World) : RdT Try.prog W 4 .bool := (rdBool Try.underlying4)
theorem modelMemory_rd2 (W : World) : RdT Try.prog W 22 (.slc (.arr 2 (.int .u8))) := (rdSlc Try.underlying22 (by kernel_rfl) (by decide) (rdArr Try.underlying38 (by kernel_rfl) (by kernel_rfl) (rdInt Try.underlying5)))
set_option maxRecDepth 100000 in
theorem modelMemory_lifted (os : Os) (started : os.Started) (H : Type) (enc : TypeId × Value → H) :
    ReturnsInHanded {} Try.checked os 3 .any (Rows.modelMemorySpec.pre6 enc Try.prog Try.f3 Rows.modelMemoryRow.domain false) (Rows.modelMemorySpec.post enc Try.prog Try.f3 false true false false) := by
  refine returnsInHanded_of_change (C := Try.checked) Try.own started (by kernel_rfl) Try.func3
    (ChangeSpec.witness6 (enc := enc) (C := Try.checked) false ⟨#[], #[.int .u8 0, .bool false, .slice none 0 0], []⟩ 8 (by kernel_rfl) (by kernel_rfl) (by kernel_rfl) (by kernel_rfl)) ?_
  intro W base args ds gs before hval0 hW hcnd _
  have hval : ∀ (j : Nat) t v, Try.f3.params[j]? = some t → args[j]? = some v → Value.okWide Try.prog W .any base t v := hval0
  have hW' := hW
  obtain ⟨p, q, hA0, hV, rfl, hfz, hnd⟩ := hW
  have hA : DataW.TrodAll enc Try.prog W 0 (fun _ => true) true Try.f3.params.toList args.toList ds p := hA0
  rw [Try.params3] at hA hval
  obtain ⟨v0, v1, v2, d0, d1, d2, p0, p1, p2, rfl, rfl, rfl, h0, h1, h2⟩ := trodAll_three hA
  obtain ⟨rfl, rfl⟩ := trodVars_none hV
  clear hA0 hval0
  simp only [List.append_nil] at hW'
  have c0 : v0.cells.toList = [v0] := by obtain ⟨_, rfl⟩ := okWide_int Try.underlying5 (hval 0 5 v0 rfl rfl); rfl
  obtain ⟨x0, k0, o0⟩ := rd_top (modelMemory_rd0 W) rfl c0 h0
  have c1 : v1.cells.toList = [v1] := by obtain ⟨_, rfl⟩ := okWide_bool Try.underlying4 (hval 1 4 v1 rfl rfl); rfl
  obtain ⟨x1, k1, o1⟩ := rd_top (modelMemory_rd1 W) rfl c1 h1
  have c2 : v2.cells.toList = [v2] := by obtain ⟨_, _, _, rfl⟩ := okWide_slice Try.underlying22 (hval 2 22 v2 rfl rfl); rfl
  obtain ⟨x2, k2, o2⟩ := rd_top (modelMemory_rd2 W) rfl c2 h2
  have hlt : ∀ x ∈ p0 ++ (p1 ++ p2), x.block < W.heap.size := fun x hx => hW'.lt x (by simpa using hx)
  obtain ⟨dd, hF⟩ := modelMemory_plain x0 x1 x2 o0 o1 o2
  refine (law_true ct3 rfl (x0, x1, x2, ()) hF rfl (vs := [v0, v1, v2]) rfl (fun i d v e1 e2 => ?_)).mono fun e W' ⟨he, hs⟩ => ?_
  · match i with
    | 0 => cases e1; cases e2; exact k0
    | 1 => cases e1; cases e2; exact k1
    | 2 => cases e1; cases e2; exact k2
    | i + 3 => cases e1
  subst he
  have r0 : DataW.Trod enc Try.prog W' 0 (fun b => decide (b < W.heap.size)) true 5 (v0) d0 p0 :=
    WideElems.Trod_stays Try.laidOut (by kernel_rfl) (of_decide_eq_true (by kernel_rfl)) h0 (fun x hx => hs.sameAt (hlt x (by simp [hx]))) (fun x hx => by simpa using hlt x (by simp [hx]))
  have r1 : DataW.Trod enc Try.prog W' 0 (fun b => decide (b < W.heap.size)) true 4 (v1) d1 p1 :=
    WideElems.Trod_stays Try.laidOut (by kernel_rfl) (of_decide_eq_true (by kernel_rfl)) h1 (fun x hx => hs.sameAt (hlt x (by simp [hx]))) (fun x hx => by simpa using hlt x (by simp [hx]))
  have r2 : DataW.Trod enc Try.prog W' 0 (fun b => decide (b < W.heap.size)) true 22 (v2) d2 p2 :=
    WideElems.Trod_stays Try.laidOut (by kernel_rfl) (of_decide_eq_true (by kernel_rfl)) h2 (fun x hx => hs.sameAt (hlt x (by simp [hx]))) (fun x hx => by simpa using hlt x (by simp [hx]))
  refine ⟨_, rfl, _, _, _, [], p0 ++ (p1 ++ p2), [], hW', ?_, ?_, ?_, hs.frame _, fun h => by cases h⟩
  · exact trodAll_mk1 (shut_bool Try.underlying4 true)
  · exact trodAll_mk3 r0 r1 r2
  · exact rfl
theorem modelMemory_holds : Rows.ModelMemorySaid :=
  OpenClaim.holds_of_wide 3 Try.f3 rfl rfl rfl rfl rfl rfl rfl ⟨rfl, rfl, rfl, rfl, rfl⟩ rfl rfl rfl rfl rfl (by kernel_rfl) Try.func3 (by kernel_rfl)
    (of_decide_eq_true (by kernel_rfl)) (by unfold Func.isWrapper; first | (rw [if_pos (by decide +kernel)]; kernel_rfl) | (rw [if_neg (by decide +kernel)]; exact ⟨rfl, rfl⟩))
    (fun os started H enc _ => modelMemory_lifted os started H enc)
end Go.Proofs.Ytihiooaimdoapaa
