/- Operations, run: rows. -/
import Derived.Test.YtihiooaimdoapaaGreatBmS
set_option linter.unusedVariables false
set_option linter.unusedSimpArgs false
namespace Go.Bm
noncomputable section
open Go.RowKit
section
variable {P : Program} {E : Env} {o : Oper} {ρ : Operand → A} {h : H} {β : Type} {K : A → H → Fp → Option β} {r : β}
def bldK (E : Env) (T : Nat) (ρ : Operand → A) (ps : List (Nat × Operand)) (h : H) (K : A → H → Fp → Option β) : Option β := match tget E.tab T with
  | some e => match e.d with
    | .struct _ => match fillA ρ (fun i => e.pl.toArray[i]?) (zeros e.zero) ps with
      | some cs => K (.agg cs) h .no
      | none => none
    | .array _ el => match tget E.tab el with
      | some e' => match fillA ρ (fun i => some (i * e'.size, e'.size)) (zeros e.zero) ps with
        | some cs => K (.agg cs) h .no
        | none => none
      | none => none
    | _ => none
  | none => none
theorem bldK_ok (hE : EnvOk P E) {T : Nat} {ps : Array (Nat × Operand)} (ho : o.op = .build T ps) (hr : bldK E T ρ ps.toList h K = some r) : Out P o ρ h K r := by
  have hd : ∀ c, o.op ≠ .defer c := by rw [ho]; intro c e; cases e
  unfold bldK at hr
  split at hr
  · rename_i e ht
    have hk := hE.tab _ _ ht
    split at hr
    · rename_i fs hdd
      split at hr
      · rename_i cs hf
        obtain ⟨i, t1, t2, t3, t4, t5, t6⟩ := hk.ti
        exact .pure hr (fun S2 => opS_build ho (by rw [hk.u, hdd]) t1 t2 t6 (hk.pl fs hdd) hf) hd
      · cases hr
    · rename_i n el hdd
      split at hr
      · rename_i e' he'
        split at hr
        · rename_i cs hf
          exact .pure hr (fun S2 => opS_build_arr ho (by rw [hk.u, hdd]) hk.ti (hE.tab _ _ he').ti.size hf) hd
        · cases hr
      · cases hr
    · cases hr
  · cases hr
/-- Elements, one by one. -/
def fixE (f : List A → H → Option (List A × H × List Nat)) (z : Nat) : Nat → List A → H → Option (List A × H × List Nat)
  | 0, cs, h => some (cs, h, [])
  | n + 1, cs, h => match f (cs.take z) h with
    | some (cs1, h1, T1) => match fixE f z n (cs.drop z) h1 with
      | some (cs2, h2, T2) => some (cs1 ++ cs2, h2, T1 ++ T2)
      | none => none
    | none => none
theorem fixE_ok {f : List A → H → Option (List A × H × List Nat)} (hf : ∀ cs h cs' h' T, f cs h = some (cs', h', T) → Cv h h' T cs cs') {z : Nat} : ∀ (n : Nat) (cs : List A) (h : H) (cs' : List A) (h' : H) (T : List Nat), fixE f z n cs h = some (cs', h', T) → Cv h h' T cs cs'
  | 0, cs, h, cs', h', T, e => by
    simp only [fixE, Option.some.injEq, Prod.mk.injEq] at e
    obtain ⟨rfl, rfl, rfl⟩ := e
    exact Cv.refl h [] _
  | n + 1, cs, h, cs', h', T, e => by
    simp only [fixE] at e
    split at e
    · rename_i cs1 h1 T1 e1
      split at e
      · rename_i cs2 h2 T2 e2
        simp only [Option.some.injEq, Prod.mk.injEq] at e
        obtain ⟨rfl, rfl, rfl⟩ := e
        have := (hf _ _ _ _ _ e1).append (fixE_ok hf n _ _ _ _ _ e2)
        rwa [List.take_append_drop] at this
      · cases e
    · cases e
/-- A literal's row. -/
theorem buildSlice_at {pv : A} {S : Hp} {T El : TypeId} {n z : Nat} {parts : Array (Nat × Operand)} {ie : TypeInfo} {zv : Value} {es cs : List A} {q : Nat} {g g0 : G} {w : World} {a : Act} (ho : o.op = .buildSlice T n parts) (hT : P.underlying T = some (.slice El)) (hE : P.info? El = some ie) (hz : ie.zero = some zv)
    (hs : ie.size = z) (h0 : 0 < z) (hn : n * z ≤ 16777216) (hes : elsA ρ z parts.toList 0 = some es) (hl : parts.toList.length = n) (hI : Inv g S w) (hv : ∀ x ∈ o.op.operands, V g0 (ρ x) (a.eval x)) (hf : S.fr q) (e5 : Vs g cs ((parts.toList.map fun x => a.eval x.2).flatMap (fun v => v.cells.toList)))
    (hval : ∀ g' b, g'.at' q = some (some b, (n * z, n * z)) → n ≤ maxLen → V g' pv (.slice (some ⟨b, 0, none⟩) n n)) : OpAt P o S (S.new q (.cells cs)) pv g w a := by
  intro next Q K
  subst hs
  obtain ⟨e2, e1, e3, e4⟩ := elsA_ok (z := ie.size) (a := a) (g := g0) parts.toList 0 es (fun x hx => hv x.2 (by
    simp only [ho, Op.operands]
    rw [List.mem_toArray]
    exact List.mem_map.2 ⟨x, hx, rfl⟩)) hes
  have hsz0 : ((Array.range (n * ie.size)).map (zv.cells[· % zv.cells.size]!)).size = n * ie.size := by simp
  have hfill := Go.Great.fill_whole h0 (parts.toList.map fun x => a.eval x.2) ((Array.range (n * ie.size)).map (zv.cells[· % zv.cells.size]!)) e3 (by simp only [List.length_map]; rw [hsz0, hl])
  have hparts : (parts.map fun (i, x) => (i, a.eval x)).toList = ((parts.toList.map fun x => a.eval x.2).zipIdx 0).map (fun x => (x.2, x.1)) := by rw [← e2]; simp
  generalize hvs : (parts.toList.map fun x => a.eval x.2).flatMap (fun v => v.cells.toList) = vs at *
  have hvl : vs.length = n * ie.size := by rw [← e4.1, e1, hl]
  obtain ⟨h1, h2⟩ := hI.allocs hf (cs := cs) (vs := vs.toArray) El (by have := e5.1; simp; omega) (Vs.all (vs := vs.toArray) e5)
  have hmx : n ≤ n * ie.size := Nat.le_mul_of_pos_right _ h0
  have h8 : cs.length = n * ie.size := by rw [e5.1, hvl]
  have h9 : vs.toArray.size = n * ie.size := by simp [hvl]
  have hval := hval (gput g q (some w.heap.size, (cs.length, vs.toArray.size))) w.heap.size (by rw [gput_at, h8, h9]) (by simp only [maxLen]; omega)
  unfold Oper.wp
  by_cases hn0 : n = 0
  · subst hn0
    have hpe : parts.toList = [] := List.eq_nil_of_length_eq_zero hl
    have hvs0 : vs = [] := List.eq_nil_of_length_eq_zero (by rw [hvl]; simp)
    have hp3 : parts = #[] := by apply Array.ext'; simp [hpe]
    have hrun : (execOp a.eval o).run P w = .ok (.value (.slice (some ⟨w.heap.size, 0, none⟩) 0 0)) (w.alloc (.cells #[] El)) := by
      simp [execOp, ho, hp3, Instr.buildSlice, run_underlying hT, sizeOf, typeInfo, hE, Instr.fill, newRow, Array.range_zero']
    rw [hrun]
    subst hvs0
    exact K (.slice (some ⟨w.heap.size, 0, none⟩) 0 0) _ _ hval h1 h2
  · have hpos : ¬ n * ie.size = 0 := by
      intro h; rcases Nat.mul_eq_zero.1 h with h | h <;> omega
    have hrun : (execOp a.eval o).run P w = .ok (.value (.slice (some ⟨w.heap.size, 0, none⟩) n n)) (w.alloc (.cells vs.toArray El)) := by
      have := run_buildSlice (P := P) w T El n (parts.map fun (i, x) => (i, a.eval x)) vs.toArray ie zv hT hE hz (by omega) hpos (by rw [hparts]; exact hfill)
      simp only [execOp, ho, Sem.run_bind, this, Result.andThen_ok, Sem.run_pure]
    rw [hrun]
    exact K _ _ _ hval h1 h2
def bslK (E : Env) (T n : Nat) (ρ : Operand → A) (ps : List (Nat × Operand)) (h : H) (K : A → H → Fp → Option β) : Option β := match tget E.tab T with
  | some ⟨.slice el, _, _, _, _, _, _⟩ => match tget E.tab el with
    | some e => bif Nat.blt 0 e.size && Nat.ble (n * e.size) 16777216 && Nat.beq ps.length n then (match elsA ρ e.size ps 0, e.t with
      | some es, some t => match fixE (fixC 64 t) t.size n es h with
        | some (es', h1, T1) => match toArr (toC t) t.size n es' with
          | some l => newK (.row t l) h1 (fun q h2 => K (.tw (.loc q) e.size) h2 (.wr (rlo q :: T1)))
          | none => none
        | none => none
      | some es, none => newK (.cells es) h (fun q h2 => K (.sl q 0 e.size n) h2 (.wr [rlo q]))
      | _, _ => none) else none
    | none => none
  | _ => none
/-- What is new comes behind what was told otherwise. -/
theorem Step.new {T1 : List Nat} {h1 h2 : H} {us : List Up} {x : Ob} {pv : A} (c1 : hp h1 = app us (hp h)) (c2 : ∀ u ∈ us, touch (.wr T1) u.id = true) (hq : h1.nid < 16777216) (hf : (hp h1).fr h1.nid) (hh : hp h2 = app [.new h1.nid x] (hp h1)) (hd : ∀ c, o.op ≠ .defer c)
    (k : ∀ S2 g w a, Agree (.wr T1) (hp h) S2 → (app us S2).fr h1.nid → Inv g S2 w → (∀ x ∈ o.op.operands, V g (ρ x) (a.eval x)) → OpAt P o S2 ((app us S2).new h1.nid x) pv g w a) : Step P o ρ h h2 (.wr (rlo h1.nid :: T1)) pv :=
  .of (us ++ [.new h1.nid x]) (by rw [app_app, ← c1, hh]) rfl (fun u hu => by
    rcases List.mem_append.1 hu with hu | hu
    · exact touch_mono (fun i hi => .tail _ hi) (c2 u hu)
    · rcases List.mem_singleton.1 hu with rfl; exact touch_loc (o := h1.nid) hq (.head _)) (fun S2 hA g w a next Q hI hv K' => by
    have hfr : (app us S2).fr h1.nid := by
      have := Agree.app us hA
      rw [← c1] at this
      exact (this h1.nid (touch_loc hq (.head _))).2.2 hf
    have e := app_app us [.new h1.nid x] S2
    rw [e] at K'
    exact k S2 g w a (hA.mono fun i hi => .tail _ hi) hfr hI hv next Q K') hd
theorem bslK_ok (hE : EnvOk P E) {T n : Nat} {ps : Array (Nat × Operand)} (ho : o.op = .buildSlice T n ps) (hr : bslK E T n ρ ps.toList h K = some r) : Out P o ρ h K r := by
  have hd : ∀ c, o.op ≠ .defer c := by rw [ho]; intro c e; cases e
  unfold bslK at hr
  split at hr
  · rename_i el _ _ _ _ _ _ ht
    split at hr
    · rename_i e he
      obtain ⟨hc, hr⟩ := cond_some hr
      simp only [Bool.and_eq_true] at hc
      have h0 := blt_lt hc.1.1
      have hn := Nat.le_of_ble_eq_true hc.1.2
      have hl := beq_eq hc.2
      obtain ⟨i, t1, t2, t3, t4, t5, t6⟩ := (hE.tab _ _ he).ti
      split at hr
      · rename_i es t hes hty
        split at hr
        · rename_i es' h1 T1 hf
          split at hr
          · rename_i l hy
            obtain ⟨us, c1, c2, c3⟩ := fixE_ok (fun cs h cs' h' T e => fixC_ok _ _ _ _ _ _ _ e) _ _ _ _ _ _ hf
            obtain ⟨h2, k1, hq, hfr, hh⟩ := newK_ok hr
            refine ⟨_, _, _, k1, .new c1 c2 hq hfr hh hd (fun S2 g w a hA hf hI hv => ?_)⟩
            obtain ⟨e2, e1, e3, e4⟩ := elsA_ok (z := e.size) (a := a) (g := g) ps.toList 0 es (fun x hx => hv x.2 (by
              simp only [ho, Op.operands]
              rw [List.mem_toArray]
              exact List.mem_map.2 ⟨x, hx, rfl⟩)) hes
            obtain ⟨g1, q1, q2, q3⟩ := c3 g S2 w _ hI hA e4
            obtain ⟨z1, z2, z3⟩ := toArr_ok (g := g1) (fun cs x h => toC_ok t cs x h) _ _ _ hy
            refine OpAt.pre ?_ q2
            refine buildSlice_at (g0 := g) ho (hE.tab _ _ ht).u t1 t2 t3 h0 hn hes hl q1 hv hf ?_ (fun g' b hb hx => .tw (.loc h1.nid) e.size n b n _ hb (Nat.le_refl _) hx (Nat.le_refl _) 0 (fun _ => rfl))
            exact z3 _ q3
          · cases hr
        · cases hr
      · rename_i es hes hty
        obtain ⟨h2, k1, hq, hfr, hh⟩ := newK_ok hr
        refine ⟨_, _, _, k1, .of _ hh rfl (fun u hu => by rcases List.mem_singleton.1 hu with rfl; exact touch_loc (o := h.nid) hq (.head _)) (fun S2 hA g w a next Q hI hv K' => ?_) hd⟩
        obtain ⟨e2, e1, e3, e4⟩ := elsA_ok (z := e.size) (a := a) (g := g) ps.toList 0 es (fun x hx => hv x.2 (by
              simp only [ho, Op.operands]
              rw [List.mem_toArray]
              exact List.mem_map.2 ⟨x, hx, rfl⟩)) hes
        exact buildSlice_at (g0 := g) ho (hE.tab _ _ ht).u t1 t2 t3 h0 hn hes hl hI hv ((hA _ (touch_loc hq (.head _))).2.2 hfr) e4 (fun g' b hb hx => .sl h.nid 0 e.size n b n _ hb (Nat.le_refl _) hx (by omega)) next Q K'
      · cases hr
    · cases hr
  · cases hr
end
end
end Go.Bm
