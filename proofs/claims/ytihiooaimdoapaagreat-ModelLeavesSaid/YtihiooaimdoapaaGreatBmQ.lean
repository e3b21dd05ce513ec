/- Operations, run: values, places, memory. -/
import Derived.Test.YtihiooaimdoapaaGreatBmO
set_option linter.unusedVariables false
set_option linter.unusedSimpArgs false
namespace Go.Bm
noncomputable section
open Go.RowKit

theorem Pok_app {s : Nat} : ∀ (π σ : List Sp), Pok s (π ++ σ) ↔ Pok s π ∧ Pok s σ
  | [], σ => ⟨fun h => ⟨trivial, h⟩, fun h => h.2⟩
  | .fst :: π, σ => Pok_app π σ
  | .snd _ :: π, σ => Pok_app π σ
  | .ix _ _ :: π, σ => (and_congr_right fun _ => Pok_app π σ).trans and_assoc.symm
  | .ai _ _ _ :: π, σ => (and_congr_right fun _ => Pok_app π σ).trans and_assoc.symm
theorem offS_app : ∀ (π σ : List Sp), offS (π ++ σ) = offS π + offS σ
  | [], σ => (Nat.zero_add _).symm
  | .fst :: π, σ => offS_app π σ
  | .snd c :: π, σ => by show c + offS (π ++ σ) = c + offS π + offS σ; rw [offS_app π σ, Nat.add_assoc]
  | .ix i z :: π, σ => by show i * z + offS (π ++ σ) = i * z + offS π + offS σ; rw [offS_app π σ, Nat.add_assoc]
  | .ai i n z :: π, σ => by show i * z + offS (π ++ σ) = i * z + offS π + offS σ; rw [offS_app π σ, Nat.add_assoc]
section
variable {P : Program} {E : Env} {o : Oper} {ρ : Operand → A} {h : H} {β : Type} {K : A → H → Fp → Option β} {r : β}
theorem Step.weak {h h' : H} {T : Fp} {pv pv' : A} (k : Step P o ρ h h' T pv) (hv : ∀ g v, V g pv v → V g pv' v) : Step P o ρ h h' T pv' where
  out := k.out
  rd := k.rd
  ok := fun S2 hS => fun r g w a next Q hI hx K' => k.ok S2 hS r g w a next Q hI hx (fun v g' w' h1 h2 h3 => K' v g' w' (hv _ _ h1) h2 h3)
/-- A value that may be none is looked at. -/
def spK (v : A) (k : A → Option β) : Option β := match v with
  | .op r o => opt o (k (.v (.pointer none))) (fun j => k (.tp (.reg r j) []))
  | .os r z o => opt o (k .e0) (fun j => k (.tw (.reg r j) z))
  | .om r o => opt o (k (.v (.map none))) (fun j => k (.mp (.reg r j)))
  | v => k v
theorem spK_ok {v : A} {k : A → Option β} (hr : spK v k = some r) : ∃ v', k v' = some r ∧ ∀ g x, V g v x → V g v' x := by
  unfold spK at hr
  split at hr
  · rcases opt_inv hr with ⟨e, h1⟩ | ⟨j, e, h1⟩
    · exact ⟨_, h1, fun g x hv => by cases hv with | op _ _ _ h0 _ => rw [h0 e]; exact .v _⟩
    · exact ⟨_, h1, fun g x hv => by cases hv with | op _ _ _ _ h0 => exact h0 j e⟩
  · rcases opt_inv hr with ⟨e, h1⟩ | ⟨j, e, h1⟩
    · exact ⟨_, h1, fun g x hv => by cases hv with | os _ _ _ _ h0 _ => exact h0 e⟩
    · exact ⟨_, h1, fun g x hv => by cases hv with | os _ _ _ _ _ h0 => exact h0 j e⟩
  · rcases opt_inv hr with ⟨e, h1⟩ | ⟨j, e, h1⟩
    · exact ⟨_, h1, fun g x hv => by cases hv with | om _ _ _ h0 _ => rw [h0 e]; exact .v _⟩
    · exact ⟨_, h1, fun g x hv => by cases hv with | om _ _ _ _ h0 => exact h0 j e⟩
  · exact ⟨_, hr, fun g x hv => hv⟩
/-- What comes of a step. -/
def Out (P : Program) (o : Oper) (ρ : Operand → A) (h : H) (K : A → H → Fp → Option β) (r : β) : Prop := ∃ pv h' T, K pv h' T = some r ∧ Step P o ρ h h' T pv
theorem Out.pure {v : A} (hr : K v h .no = some r) (k : ∀ S2, OpS P o ρ S2 S2 v) (hd : ∀ c, o.op ≠ .defer c) : Out P o ρ h K r := ⟨v, h, .no, hr, .pure k hd⟩
theorem Out.read {v : A} (T : List Nat) (hr : K v h (.rd T) = some r) (k : ∀ S2, Agree (.rd T) (hp h) S2 → OpS P o ρ S2 S2 v) (hd : ∀ c, o.op ≠ .defer c) : Out P o ρ h K r := ⟨v, h, .rd T, hr, .read _ k hd⟩
theorem Out.sp {h' : H} {T : Fp} {v : A} (hr : spK v (fun v => K v h' T) = some r) (k : Step P o ρ h h' T v) : Out P o ρ h K r := by
  obtain ⟨v', h1, h2⟩ := spK_ok hr
  exact ⟨v', h', T, h1, k.weak h2⟩

/-! ### values -/
def mvK (x : A) (h : H) (K : A → H → Fp → Option β) : Option β := K x h .no
def extK (px : A) (ix : Nat) (h : H) (K : A → H → Fp → Option β) : Option β := match px with
  | .tup cs => match cs[ix]? with
    | some p => spK p (fun v => K v h .no)
    | none => none
  | _ => none
theorem extK_ok {x : Operand} {ix : Nat} (ho : o.op = .extract x ix) (hr : extK (ρ x) ix h K = some r) : Out P o ρ h K r := by
  unfold extK at hr
  split at hr
  · rename_i cs hx
    split at hr
    · rename_i p hp
      exact .sp hr (.pure (fun S2 => opS_extract ho hx hp) (by rw [ho]; intro c e; cases e))
    · cases hr
  · cases hr
def pickK (px py pz : A) (h : H) (K : A → H → Fp → Option β) : Option β := match px with
  | .v (.bool b) => br b (K py h .no) (K pz h .no)
  | _ => none
theorem pickK_ok {x y z : Operand} (ho : o.op = .pick x y z) (hr : pickK (ρ x) (ρ y) (ρ z) h K = some r) : Out P o ρ h K r := by
  unfold pickK at hr
  split at hr
  · rename_i b hx
    rcases br_inv hr with ⟨rfl, h1⟩ | ⟨rfl, h1⟩
    · exact .pure h1 (fun S2 => by have := opS_pick (P := P) (S := S2) ho hx; simpa using this) (by rw [ho]; intro c e; cases e)
    · exact .pure h1 (fun S2 => by have := opS_pick (P := P) (S := S2) ho hx; simpa using this) (by rw [ho]; intro c e; cases e)
  · cases hr
/-- Whole numbers. -/
def binI (op : BinOp) (k : IntKind) (m n : Int) (K : Value → Option β) : Option β := match op with
  | .add => K (.int k (iadd k m n))
  | .sub => K (.int k (isub k m n))
  | .mul => K (.int k (imul k m n))
  | .quo => gd (ine n) (K (.int k (iquo k m n)))
  | .rem => gd (ine n) (K (.int k (irem m n)))
  | .and => K (.int k (bits .and k m n))
  | .or => K (.int k (bits .or k m n))
  | .xor => K (.int k (bits .xor k m n))
  | .andNot => K (.int k (bits .andNot k m n))
  | .eql => K (.bool (ieql m n))
  | .neq => K (.bool (bnot (ieql m n)))
  | .lss => K (.bool (ilss m n))
  | .leq => K (.bool (ileq m n))
  | .gtr => K (.bool (ilss n m))
  | .geq => K (.bool (ileq n m))
  | _ => none
theorem binI_ok {op : BinOp} {k : IntKind} {m n : Int} {K : Value → Option β} (hr : binI op k m n K = some r) : ∃ v, K v = some r ∧ ibin op k m n = some v := by
  cases op with
  | quo =>
    obtain ⟨h1, h2⟩ := gd_inv (show gd (ine n) (K (.int k (iquo k m n))) = some r from hr)
    exact ⟨_, h2, if_neg h1⟩
  | rem =>
    obtain ⟨h1, h2⟩ := gd_inv (show gd (ine n) (K (.int k (irem m n))) = some r from hr)
    exact ⟨_, h2, if_neg h1⟩
  | _ => first | exact ⟨_, hr, rfl⟩ | cases hr
def shI (op : BinOp) (k : IntKind) (m n : Int) (K : Value → Option β) : Option β := match op with
  | .shl => gd (ige n) (K (.int k (ishl k m n)))
  | .shr => gd (ige n) (K (.int k (ishr k m n)))
  | _ => none
theorem shI_ok {op : BinOp} {k : IntKind} {m n : Int} {K : Value → Option β} (hr : shI op k m n K = some r) : ∃ v, K v = some r ∧ ishift op k m n = some v := by
  cases op with
  | shl =>
    obtain ⟨h1, h2⟩ := gd_inv (show gd (ige n) (K (.int k (ishl k m n))) = some r from hr)
    exact ⟨_, h2, if_neg (by unfold ige at h1; omega)⟩
  | shr =>
    obtain ⟨h1, h2⟩ := gd_inv (show gd (ige n) (K (.int k (ishr k m n))) = some r from hr)
    exact ⟨_, h2, if_neg (by unfold ige at h1; omega)⟩
  | _ => cases hr
def isShf : BinOp → Bool
  | .shl => true
  | .shr => true
  | _ => false
def isEq : BinOp → Bool
  | .eql => true
  | .neq => true
  | _ => false
theorem isEq_or {op : BinOp} (h : isEq op = true) : op = .eql ∨ op = .neq := by cases op <;> first | exact .inl rfl | exact .inr rfl | cases h
def neg1 (op : BinOp) (b : Bool) : Bool := match op with
  | .eql => b
  | _ => bnot b
theorem neg1_eq {op : BinOp} (b : Bool) (h : isEq op = true) : neg1 op b = if op = .eql then b else !b := by
  rcases isEq_or h with rfl | rfl <;> rfl
/-- A slice is held against nil. -/
def nilS (p q : A) : Option Bool := match q with
  | .v (.slice none 0 0) => match p with
    | .v (.slice none _ _) => some true
    | .nn _ _ => some false
    | .as _ _ _ _ => some false
    | .sl _ _ _ _ => some false
    | _ => none
  | _ => none
theorem nilS_ok {g : G} {p q : A} {u v : Value} {b : Bool} (h : nilS p q = some b) (hp : V g p u) (hq : V g q v) : v = .slice none 0 0 ∧ ∃ A n c, u = .slice A n c ∧ A.isNone = b := by
  unfold nilS at h
  split at h
  · cases hq
    refine ⟨rfl, ?_⟩
    split at h
    · cases h; cases hp; exact ⟨_, _, _, rfl, rfl⟩
    · cases h; cases hp; exact ⟨_, _, _, rfl, rfl⟩
    · cases h; cases hp; exact ⟨_, _, _, rfl, rfl⟩
    · cases h; cases hp; exact ⟨_, _, _, rfl, rfl⟩
    · cases h
  · cases h
theorem run_eqs' (d : Nat) (w : World) {T E : TypeId} (hT : P.underlying T = some (.slice E)) (A : Option Addr) (n c : Nat) : (Op.equalIn (d + 1) T (.slice A n c) (.slice none 0 0)).run P w = .ok A.isNone w := by
  cases A <;> simp [Op.equalIn, run_underlying hT]
theorem run_eqs (w : World) {T E : TypeId} (hT : P.underlying T = some (.slice E)) (A : Option Addr) (n c : Nat) : (Op.equalIn 10000 T (.slice A n c) (.slice none 0 0)).run P w = .ok A.isNone w := run_eqs' 9999 w hT A n c
theorem opS_eqs {S : Hp} {op : BinOp} {T T' E : TypeId} {x y : Operand} {b : Bool} (ho : o.op = .binOp op T x y T') (hT : P.underlying T = some (.slice E)) (hop : op = .eql ∨ op = .neq)
    (hb : nilS (ρ x) (ρ y) = some b) : OpS P o ρ S S (.v (.bool (if op = .eql then b else !b))) :=
  .value fun g w a _ hv => by
    obtain ⟨e2, A, n, c, h1, h2⟩ := nilS_ok hb (hv x (by simp [ho, Op.operands])) (hv y (by simp [ho, Op.operands]))
    have hrun := run_eqs (P := P) w hT A n c
    rw [h2] at hrun
    refine ⟨.bool (if op = .eql then b else !b), ?_, .v _⟩
    have hguard : (eqGuard op T x y (.slice A n c) (.slice none 0 0)).run P w = .ok () w := by
      rcases hop with rfl | rfl <;> rfl
    rcases hop with rfl | rfl
    · have hb : (binOp .eql T (.slice A n c) (.slice none 0 0)).run P w = .ok (.bool b) w := by
        simp only [binOp]; simp [Op.equal, Op.maxDepth, hrun]
      simp only [execOp, ho, h1, e2, Sem.run_bind, hguard, Result.andThen_ok, if_true, hb, Sem.run_pure]
    · have hb : (binOp .neq T (.slice A n c) (.slice none 0 0)).run P w = .ok (.bool (!b)) w := by
        simp only [binOp]; simp [Op.equal, Op.maxDepth, hrun]
      simp only [execOp, ho, h1, e2, Sem.run_bind, hguard, Result.andThen_ok, hb, Sem.run_pure]
      rfl
def binK (E : Env) (op : BinOp) (T : Nat) (px py : A) (h : H) (K : A → H → Fp → Option β) : Option β := match px, py with
  | .v (.int k m), .v (.int k' n) => bif isShf op then shI op k m n (fun v => K (.v v) h .no) else if k = k' then binI op k m n (fun v => K (.v v) h .no) else none
  | .v (.bool p), .v (.bool q) => bif isEq op then (match tget E.tab T with
    | some ⟨.bool, _, _, _, _, _, _⟩ => K (.v (.bool (neg1 op (beql p q)))) h .no
    | _ => none) else none
  | px, py => bif isEq op then (match tget E.tab T with
    | some e => match e.d with
      | .pointer _ => match nilEq px py with
        | some b => K (.v (.bool (neg1 op b))) h .no
        | none => none
      | .slice _ => match nilS px py with
        | some b => K (.v (.bool (neg1 op b))) h .no
        | none => none
      | .struct _ => bif isAggP px && isAggP py && E.eqs.any (Nat.beq T) then (match px.cells, py.cells with
        | some cs, some ds => match eqC E 6 T cs ds with
          | some b => K (.v (.bool (neg1 op b))) h .no
          | none => none
        | _, _ => none) else none
      | _ => none
    | none => none) else none
theorem binK_ok (hE : EnvOk P E) {op : BinOp} {T T' : TypeId} {x y : Operand} (ho : o.op = .binOp op T x y T') (hr : binK E op T (ρ x) (ρ y) h K = some r) : Out P o ρ h K r := by
  have hd : ∀ c, o.op ≠ .defer c := by rw [ho]; intro c e; cases e
  unfold binK at hr
  split at hr
  · rename_i k m k' n hx hy
    cases hs : isShf op with
    | true =>
      rw [hs] at hr
      simp only [cond_true] at hr
      obtain ⟨v, h1, h2⟩ := shI_ok hr
      exact .pure h1 (fun S2 => opS_shift ho hx hy h2) hd
    | false =>
      rw [hs] at hr
      simp only [cond_false] at hr
      split at hr
      · rename_i hk; subst hk
        obtain ⟨v, h1, h2⟩ := binI_ok hr
        exact .pure h1 (fun S2 => opS_bin ho hx hy h2) hd
      · cases hr
  · rename_i p q hx hy
    obtain ⟨hq, hr⟩ := cond_some hr
    split at hr
    · rename_i ht
      refine .pure hr (fun S2 => ?_) hd
      have := opS_eqb (P := P) (S := S2) ho (hE.tab _ _ ht).u hx hy (isEq_or hq)
      rw [neg1_eq _ hq]
      rcases isEq_or hq with rfl | rfl <;> exact this
    · cases hr
  · obtain ⟨hq, hr⟩ := cond_some hr
    split at hr
    · rename_i e ht
      split at hr
      · rename_i el hdd
        split at hr
        · rename_i b hb
          refine .pure hr (fun S2 => ?_) hd
          rw [neg1_eq _ hq]
          exact opS_eqptr ho (by rw [(hE.tab _ _ ht).u, hdd]) hb (isEq_or hq)
        · cases hr
      · rename_i el hdd
        split at hr
        · rename_i b hb
          refine .pure hr (fun S2 => ?_) hd
          rw [neg1_eq _ hq]
          exact opS_eqs ho (by rw [(hE.tab _ _ ht).u, hdd]) (isEq_or hq) hb
        · cases hr
      · rename_i fs hdd
        obtain ⟨hc, hr⟩ := cond_some hr
        simp only [Bool.and_eq_true] at hc
        split at hr
        · rename_i cs ds h1 h2
          split at hr
          · rename_i b hb
            refine .pure hr (fun S2 => ?_) hd
            rw [neg1_eq _ hq]
            exact opS_eqagg hE ho ht (by rw [hdd]; rfl) (hE.eqs _ hc.2) hc.1.1 hc.1.2 h1 h2 hb (by omega) (isEq_or hq)
          · cases hr
        · cases hr
      · cases hr
    · cases hr
def unK (op : UnOp) (px : A) (h : H) (K : A → H → Fp → Option β) : Option β := match op, px with
  | .not, .v (.bool b) => K (.v (.bool (bnot b))) h .no
  | _, _ => none
theorem unK_ok {op : UnOp} {T : TypeId} {x : Operand} (ho : o.op = .unOp op T x) (hr : unK op (ρ x) h K = some r) : Out P o ρ h K r := by
  unfold unK at hr
  split at hr
  · rename_i b hx
    exact .pure hr (fun S2 => opS_not ho hx) (by rw [ho]; intro c e; cases e)
  · cases hr
def convK (E : Env) (s d : Nat) (px : A) (h : H) (K : A → H → Fp → Option β) : Option β := match tget E.tab s, tget E.tab d, px with
  | some _, some ⟨.int k', _, _, _, _, _, _⟩, .v (.int k n) => if k' = k then K (.v (.int k n)) h .no else K (.v (.int k' (wrp k' n))) h .no
  | _, _, _ => none
def cvK (E : Env) (s d : Nat) (px : A) (h : H) (K : A → H → Fp → Option β) : Option β := match tget E.tab s, tget E.tab d, px with
  | some _, some ⟨.int k', _, _, _, _, _, _⟩, .v (.int _ n) => K (.v (.int k' (wrp k' n))) h .no
  | _, _, _ => none
theorem cvK_ok (hE : EnvOk P E) {s d : TypeId} {x : Operand} (ho : o.op = .convert s d x) (hr : cvK E s d (ρ x) h K = some r) : Out P o ρ h K r := by
  unfold cvK at hr
  split at hr
  · rename_i es _ _ _ _ _ _ _ _ _ hs hd' hx
    exact .pure hr (fun S2 => opS_conv ho (by rw [(hE.tab _ _ hs).u]; rfl) (hE.tab _ _ hd').u hx) (by rw [ho]; intro c e; cases e)
  · cases hr
def nilK (px : A) (h : H) (K : A → H → Fp → Option β) : Option β := bif isP px then K px h .no else none
theorem nilK_ok {x : Operand} (ho : o.op = .nilCheck x) (hr : nilK (ρ x) h K = some r) : Out P o ρ h K r := by
  obtain ⟨h1, h2⟩ := cond_some hr
  exact .pure h2 (fun S2 => opS_nilCheck ho h1) (by rw [ho]; intro c e; cases e)
end
end
end Go.Bm
