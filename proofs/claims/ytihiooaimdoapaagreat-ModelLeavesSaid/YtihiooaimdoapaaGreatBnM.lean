/- A table of contracts: who is in it is called by contract, all others are run in their caller's place. -/
import Derived.Test.YtihiooaimdoapaaGreatBnH
set_option linter.unusedVariables false
set_option linter.unusedSimpArgs false
namespace Go.Bm
noncomputable section
open Go.RowKit
structure CtE where
  sg : Sig
  F : Plain sg
abbrev CtT := Nat → Option CtE
def CtsOk (P : Program) (cts : CtT) : Prop := ∀ f e, cts f = some e → CtOk P f e.sg e.F
def ctxK (cts : CtT) (fall : Cx) : Cx := ⟨fun β f as h K => match cts f with
  | some e => ctK e.sg e.F as h K
  | none => fall.call β f as h K, fall.hm, fall.yld⟩
section
variable {P : Program} {E : Env}
theorem ctxK_ok {cts : CtT} (hc : CtsOk P cts) {fall : Cx} (hf : CxOk P fall) : CxOk P (ctxK cts fall) := ⟨fun β f as h K r hr => by
  have hr : (match cts f with | some e => ctK e.sg e.F as h K | none => fall.call β f as h K) = some r := hr
  split at hr
  · rename_i e he
    exact ctK_ok (hc f e he) hr
  · exact hf.call β f as h K r hr, hf.yld⟩
/-- Calls, so many deep. -/
def cxT (E : Env) (fns : FT) (hm : List (Nat × Nat)) (cts : CtT) : Nat → Cx
  | 0 => ctxK cts (zeroCx hm)
  | k + 1 => ctxK cts (stepCx E fns (fun cx n => drK E cx n) hm (cxT E fns hm cts k))
/-- A function itself, run. -/
def cxF (E : Env) (fns : FT) (hm : List (Nat × Nat)) (cts : CtT) (k : Nat) : Cx := stepCx E fns (fun cx n => drK E cx n) hm (cxT E fns hm cts k)
theorem cxT_ok (hE : EnvOk P E) (hm0 : P.follows .mixedOrders = true) {fns : FT} (hF : FTOk P fns) {hm : List (Nat × Nat)} {cts : CtT} (hc : CtsOk P cts) : ∀ k, CxOk P (cxT E fns hm cts k)
  | 0 => ctxK_ok hc (zeroCx_ok hm)
  | k + 1 => ctxK_ok hc (stepCx_ok hE hF (cxT_ok hE hm0 hF hc k) (fun n β => drK_ok hE (cxT_ok hE hm0 hF hc k) hm0 n β))
theorem cxF_ok (hE : EnvOk P E) (hm0 : P.follows .mixedOrders = true) {fns : FT} (hF : FTOk P fns) {hm : List (Nat × Nat)} {cts : CtT} (hc : CtsOk P cts) (k : Nat) : CxOk P (cxF E fns hm cts k) := stepCx_ok hE hF (cxT_ok hE hm0 hF hc k) (fun n β => drK_ok hE (cxT_ok hE hm0 hF hc k) hm0 n β)
/-- A plain function that is what the run comes to. -/
theorem CtOk.of {f : FuncId} {sg : Sig} {F G : Plain sg} (h : CtOk P f sg G) (e : ∀ x c d, F x c d = G x c d) : CtOk P f sg F := by
  have : F = G := funext fun x => funext fun c => funext fun d => e x c d
  rw [this]; exact h
end
end
end Go.Bm
