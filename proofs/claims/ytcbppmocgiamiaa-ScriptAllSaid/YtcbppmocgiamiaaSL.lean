/- Script: plain facts. -/
import Derived.Test.YtcbppmocgiamiaaPvK
namespace Go.Proofs.Ytcbppmocgiamiaa
open Go.Pv
structure FOp where
  op : Int
  a : Int
  b : Int
deriving DecidableEq
instance : Inhabited FOp := ⟨⟨0, 0, 0⟩⟩
structure Call where
  op : Int
  r : Int
  h : Int
  v : Int
  a : Int
  b : Int
  c : Int
deriving DecidableEq
instance : Inhabited Call := ⟨⟨0, 0, 0, 0, 0, 0, 0⟩⟩
def eI (x : Int) : List D := [.v (.int .i64 x)]
def eF (o : FOp) : List D := [.v (.int .u8 o.op), .v (.int .i64 o.a), .v (.int .i64 o.b)]
def eC (c : Call) : List D := [.v (.int .u8 c.op), .v (.int .u8 c.r), .v (.int .u8 c.h), .v (.int .u8 c.v), .v (.int .i64 c.a), .v (.int .i64 c.b), .v (.int .i64 c.c)]
def eFs (l : List FOp) : List D := [.sl 3 false (l.map eF)]
def eCs (l : List Call) : List D := [.sl 7 false (l.map eC)]
def Ent (e0 e1 e2 e3 e4 e5 e6 e7 : Int) : Prop := (0 ≤ e0 ∧ e0 ≤ 255) ∧ (0 ≤ e1 ∧ e1 ≤ 255) ∧ (0 ≤ e2 ∧ e2 ≤ 255) ∧ (0 ≤ e3 ∧ e3 ≤ 255) ∧ (0 ≤ e4 ∧ e4 ≤ 255) ∧ (0 ≤ e5 ∧ e5 ≤ 255) ∧ (0 ≤ e6 ∧ e6 ≤ 255) ∧ (0 ≤ e7 ∧ e7 ≤ 255)
def num (e4 e5 : Int) : Int := e4 + e5 * 256
def sgn (a : Int) : Int := if 32768 ≤ a then a - 65536 else a
def callOf (e2 e3 e4 e5 e6 e7 : Int) : Call := ⟨e2, e3 % 4, e3 / 4 % 4, e3 / 16 % 4, sgn (num e4 e5), e6, e7 % 8⟩
def bA (c : Int) : Int := if c = 0 then 64 else if c = 4 then 1 else 6
def bB (c : Int) : Int := if c = 2 then 6 else if c = 3 then 9 else 1
def opOf (e2 e4 e5 : Int) : FOp := ⟨e2, e4 % bA e2, e5 % bB e2⟩
theorem bA_pos (c : Int) : 0 < bA c ∧ bA c ≤ 64 := by unfold bA; split <;> (try split) <;> omega
theorem bB_pos (c : Int) : 0 < bB c ∧ bB c ≤ 9 := by unfold bB; split <;> (try split) <;> omega
theorem bnd_ix (i : Int) (h : 0 ≤ i ∧ i ≤ 4) : (0 ≤ i ∧ i < ((5 : Nat) : Int)) ∧ (([.d (.v (.int .u8 64)), .d (.v (.int .u8 1)), .d (.v (.int .u8 6)), .d (.v (.int .u8 1)), .d (.v (.int .u8 6)), .d (.v (.int .u8 6)), .d (.v (.int .u8 6)), .d (.v (.int .u8 9)), .d (.v (.int .u8 1)), .d (.v (.int .u8 1))] : List PV).drop (i.toNat * 2)).take 2 = [.d (.v (.int .u8 (bA i))), .d (.v (.int .u8 (bB i)))] := by
  refine ⟨⟨h.1, by omega⟩, ?_⟩
  have : i = 0 ∨ i = 1 ∨ i = 2 ∨ i = 3 ∨ i = 4 := by omega
  rcases this with rfl | rfl | rfl | rfl | rfl <;> rfl
theorem wrap8 (n : Int) : IntKind.u8.wrap n = n % 256 := by
  rw [IntKind.wrap_u8]
structure Scr where
  sc : Int
  th : Int
  im : Int
  hp : Int
  fins : List (List FOp)
  progs : List (List Call)
  picks : List Int
deriving DecidableEq
def tsOf (p : List Int) (F : List (List FOp)) (G : List (List Call)) : List Nat := p.length :: (F.map List.length ++ G.map List.length)
theorem tsOf_len (p : List Int) (F : List (List FOp)) (G : List (List Call)) : (tsOf p F G).length = 1 + F.length + G.length := by simp [tsOf]; omega
theorem tsOf_F {p : List Int} {F : List (List FOp)} {G : List (List Call)} {j : Nat} (hj : j < F.length) : (tsOf p F G)[1 + j]? = some ((F.getD j []).map eF).length := by
  unfold tsOf
  rw [show 1 + j = j + 1 by omega, List.getElem?_cons_succ, List.getElem?_append_left (by simpa using hj)]
  simp [List.getD, hj]
theorem tsOf_G {p : List Int} {F : List (List FOp)} {G : List (List Call)} {j : Nat} (hF : F.length = 8) (hj : j < G.length) : (tsOf p F G)[9 + j]? = some ((G.getD j []).map eC).length := by
  unfold tsOf
  rw [show 9 + j = (8 + j) + 1 by omega, List.getElem?_cons_succ, List.getElem?_append_right (by simp; omega)]
  simp [hF, List.getD, hj]
theorem tsOf_setF {p : List Int} {F : List (List FOp)} {G : List (List Call)} {j n : Nat} (l : List FOp) (hj : j < F.length) (hn : n = l.length) : (tsOf p F G).set (1 + j) n = tsOf p (F.set j l) G := by
  subst hn
  unfold tsOf
  rw [show 1 + j = j + 1 by omega, List.set_cons_succ, List.set_append_left _ _ (by simpa using hj), List.map_set]
theorem tsOf_setG {p : List Int} {F : List (List FOp)} {G : List (List Call)} {j n : Nat} (l : List Call) (hF : F.length = 8) (hn : n = l.length) : (tsOf p F G).set (9 + j) n = tsOf p F (G.set j l) := by
  subst hn
  unfold tsOf
  rw [show 9 + j = (8 + j) + 1 by omega, List.set_cons_succ, List.set_append_right _ _ (by simp; omega), List.map_set]
  simp [hF]
theorem tsOf_setP {p : List Int} {F : List (List FOp)} {G : List (List Call)} {n : Nat} (l : List Int) (hn : n = l.length) : (tsOf p F G).set 0 n = tsOf l F G := by
  subst hn; rfl
def more (s : Scr) (e0 e1 e2 e3 e4 e5 e6 e7 : Int) : Scr :=
  if e0 % 8 < 5 then
    (if e2 ≤ 11 ∧ (s.progs.getD (e1 % (s.progs.length : Int)).toNat []).length < 64 then { s with progs := s.progs.set (e1 % (s.progs.length : Int)).toNat (s.progs.getD (e1 % (s.progs.length : Int)).toNat [] ++ [callOf e2 e3 e4 e5 e6 e7]) } else s)
  else if e0 % 8 = 5 then
    (if e2 ≤ 4 ∧ (s.fins.getD (e1 % 8).toNat []).length < 8 then { s with fins := s.fins.set (e1 % 8).toNat (s.fins.getD (e1 % 8).toNat [] ++ [opOf e2 e4 e5]) } else s)
  else if s.picks.length < 4096 then { s with picks := s.picks ++ [num e4 e5] } else s
def runs : List Int → Scr → Scr
  | e0 :: e1 :: e2 :: e3 :: e4 :: e5 :: e6 :: e7 :: r, s => runs r (more s e0 e1 e2 e3 e4 e5 e6 e7)
  | _, s => s
def s0 (p0 p1 p2 p3 : Int) : Scr := ⟨1 + p0 % 8, 1 + p1 % 4, 8 * (p2 % 64), 8 * (p3 % 128), List.replicate 8 [], List.replicate (1 + p1 % 4).toNat [], []⟩
def ofB (b : List Int) : Scr := runs (b.drop 4) (s0 (b.getD 0 default) (b.getD 1 default) (b.getD 2 default) (b.getD 3 default))
def Bytes (b : List Int) : Prop := ∀ x ∈ b, 0 ≤ x ∧ x ≤ 255
theorem Bytes.get {b : List Int} (h : Bytes b) (i : Nat) : 0 ≤ b.getD i default ∧ b.getD i default ≤ 255 := by
  by_cases hi : i < b.length
  · have := h b[i] (List.getElem_mem hi)
    simpa [List.getD, hi] using this
  · have : b[i]? = none := List.getElem?_eq_none (by omega)
    simp [List.getD, this, default]
theorem Bytes.drop {b : List Int} (h : Bytes b) (n : Nat) : Bytes (b.drop n) := fun x hx => h x (List.mem_of_mem_drop hx)
theorem Bytes.take {b : List Int} (h : Bytes b) (n : Nat) : Bytes (b.take n) := fun x hx => h x (List.mem_of_mem_take hx)
theorem Bytes.ent {b : List Int} (h : Bytes b) : Ent (b.getD 0 default) (b.getD 1 default) (b.getD 2 default) (b.getD 3 default) (b.getD 4 default) (b.getD 5 default) (b.getD 6 default) (b.getD 7 default) :=
  ⟨h.get 0, h.get 1, h.get 2, h.get 3, h.get 4, h.get 5, h.get 6, h.get 7⟩
theorem eight {b : List Int} (h : 8 ≤ b.length) : b = b.getD 0 default :: b.getD 1 default :: b.getD 2 default :: b.getD 3 default :: b.getD 4 default :: b.getD 5 default :: b.getD 6 default :: b.getD 7 default :: b.drop 8 := by
  match b, h with
  | e0 :: e1 :: e2 :: e3 :: e4 :: e5 :: e6 :: e7 :: r, _ => rfl
theorem runs_step {b : List Int} {s : Scr} (h : 8 ≤ b.length) : runs b s = runs (b.drop 8) (more s (b.getD 0 default) (b.getD 1 default) (b.getD 2 default) (b.getD 3 default) (b.getD 4 default) (b.getD 5 default) (b.getD 6 default) (b.getD 7 default)) := by
  conv => lhs; rw [eight h]
  rfl
theorem runs_end {b : List Int} {s : Scr} (h : ¬ 8 ≤ b.length) : runs b s = s := by
  unfold runs
  split
  · simp at h <;> omega
  · rfl
theorem rest_eq (b : List Int) (n : Nat) : (b.drop n).take (b.length - n) = b.drop n := List.take_of_length_le (by rw [List.length_drop]; omega)
theorem rest_min (b : List Int) : b.drop (min b.length 4) = b.drop 4 := by
  by_cases h : b.length ≤ 4
  · rw [Nat.min_eq_left h, List.drop_eq_nil_of_le (Nat.le_refl _), List.drop_eq_nil_of_le h]
  · rw [Nat.min_eq_right (by omega)]
theorem more_len (s : Scr) (e0 e1 e2 e3 e4 e5 e6 e7 : Int) : (more s e0 e1 e2 e3 e4 e5 e6 e7).fins.length = s.fins.length ∧ (more s e0 e1 e2 e3 e4 e5 e6 e7).progs.length = s.progs.length := by
  unfold more
  split
  · split <;> simp
  · split
    · split <;> simp
    · split <;> simp
theorem more_plan (s : Scr) (e0 e1 e2 e3 e4 e5 e6 e7 : Int) : (more s e0 e1 e2 e3 e4 e5 e6 e7).sc = s.sc ∧ (more s e0 e1 e2 e3 e4 e5 e6 e7).th = s.th ∧ (more s e0 e1 e2 e3 e4 e5 e6 e7).im = s.im ∧ (more s e0 e1 e2 e3 e4 e5 e6 e7).hp = s.hp := by
  unfold more
  split
  · split <;> simp
  · split
    · split <;> simp
    · split <;> simp
theorem arr8 {b : List Int} (h : 8 ≤ b.length) : 8 ≤ ((b.take 8).map eByte).length ∧ ((b.take 8).map eByte).flatten.take 8 = [.v (.int .u8 (b.getD 0 default)), .v (.int .u8 (b.getD 1 default)), .v (.int .u8 (b.getD 2 default)), .v (.int .u8 (b.getD 3 default)), .v (.int .u8 (b.getD 4 default)), .v (.int .u8 (b.getD 5 default)), .v (.int .u8 (b.getD 6 default)), .v (.int .u8 (b.getD 7 default))] := by
  match b, h with
  | e0 :: e1 :: e2 :: e3 :: e4 :: e5 :: e6 :: e7 :: r, _ => exact ⟨by simp, rfl⟩
theorem cpy4 (b : List Int) : splice [.d (.v (.int .u8 0)), .d (.v (.int .u8 0)), .d (.v (.int .u8 0)), .d (.v (.int .u8 0))] 0 (((b.map eByte).take (min b.length 4)).flatten.map .d) = [.d (.v (.int .u8 (b.getD 0 default))), .d (.v (.int .u8 (b.getD 1 default))), .d (.v (.int .u8 (b.getD 2 default))), .d (.v (.int .u8 (b.getD 3 default)))] := by
  match b with
  | [] => rfl
  | [_] => rfl
  | [_, _] => rfl
  | [_, _, _] => rfl
  | e0 :: e1 :: e2 :: e3 :: r =>
    rw [show min (e0 :: e1 :: e2 :: e3 :: r).length 4 = 4 by simp <;> omega]
    rfl
theorem cpy4_ok {S : Sx} (b : List Int) (hb : S.bs[1]? = some (some [.d (.v (.int .u8 0)), .d (.v (.int .u8 0)), .d (.v (.int .u8 0)), .d (.v (.int .u8 0))])) :
    ∃ cs, S.bs[1]? = some (some cs) ∧ 0 + 4 ≤ cs.length ∧ min b.length 4 = min (b.map eByte).length 4 ∧ splice cs 0 (((b.map eByte).take (min b.length 4)).flatten.map .d) = [.d (.v (.int .u8 (b.getD 0 default))), .d (.v (.int .u8 (b.getD 1 default))), .d (.v (.int .u8 (b.getD 2 default))), .d (.v (.int .u8 (b.getD 3 default)))] :=
  ⟨_, hb, by simp, by simp, cpy4 b⟩
theorem rowF_ds (t : Nat) (F : List (List FOp)) : toDs (rowT t 3 (F.map (·.map eF))) = some (F.map eFs).flatten := by
  rw [rowT_toDs]
  congr 1
  induction F with
  | nil => rfl
  | cons l F ih => simp [eFs, ih]
theorem rowG_ds (t : Nat) (F : List (List Call)) : toDs (rowT t 7 (F.map (·.map eC))) = some (F.map eCs).flatten := by
  rw [rowT_toDs]
  congr 1
  induction F with
  | nil => rfl
  | cons l F ih => simp [eCs, ih]
theorem tsOf_0 (n : Nat) : [0] ++ List.replicate 8 0 ++ List.replicate n 0 = tsOf [] (List.replicate 8 []) (List.replicate n []) := by simp [tsOf]
theorem take_next {α : Type} [Inhabited α] {xs ys : List α} {k : Nat} (h : xs.take k = ys.take k) (h1 : k < xs.length) (h2 : k < ys.length) (he : xs.getD k default = ys.getD k default) : xs.take (k + 1) = ys.take (k + 1) := by
  rw [List.take_succ_eq_append_getElem h1, List.take_succ_eq_append_getElem h2, h]
  congr 1
  simpa [List.getD, h1, h2] using he
theorem take_all {α : Type} {xs ys : List α} {k : Nat} (h : xs.take k = ys.take k) (h1 : ¬ k < xs.length) (h2 : xs.length = ys.length) : xs = ys := by
  rw [List.take_of_length_le (by omega), List.take_of_length_le (by omega)] at h; exact h
theorem Call.ext' {a b : Call} (h1 : a.op = b.op) (h2 : a.r = b.r) (h3 : a.h = b.h) (h4 : a.v = b.v) (h5 : a.a = b.a) (h6 : a.b = b.b) (h7 : a.c = b.c) : a = b := by cases a; cases b; simp_all
theorem FOp.ext' {a b : FOp} (h1 : a.op = b.op) (h2 : a.a = b.a) (h3 : a.b = b.b) : a = b := by cases a; cases b; simp_all
end Go.Proofs.Ytcbppmocgiamiaa
