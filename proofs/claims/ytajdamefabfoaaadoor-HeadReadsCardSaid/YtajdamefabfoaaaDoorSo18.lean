/- A function is what the evaluator makes of its body: the theorem in the form that is used. -/
import Derived.Test.YtajdamefabfoaaaDoorSo17
namespace Go.Ev
open Go Go.RowKit

theorem evFn_sound {E : Env} (hG : ∀ f D, E.G f = some D → FnOk E.P f D) {f : FuncId} {fn : Func} {c : Code} (hf : E.P.funcs[f]? = some fn) (hb : fn.body = some c)
    (hl : ∀ p ∈ loopsOf c, LoopOk E fn.ntmps p.1 p.2) (hnm : (fn.name == "runtime.NumGoroutine") = false) {D : Den} (h : ∀ args bx, D.pre args bx = true → evFn E f args bx some = some (D.res args bx)) : FnOk E.P f D :=
  evFn_ok hG hf hb (fun keep S K q hh => canon_ok keep S K q hh) hl hnm h
theorem loop_sound {E : Env} {m : Nat} (hG : ∀ f D, E.G f = some D → FnOk E.P f D) {id : Nat} {c : Code} (hl : ∀ p ∈ loopsOf c, LoopOk E m p.1 p.2) (hd : dstsOk m c = true)
    (h : ∀ F, E.L id = some F → ∀ S K q, F S K = some q → ∃ n, iterL E id c n S K = some q) : LoopOk E m id c :=
  iterL_ok hG (fun keep S K q hh => canon_ok keep S K q hh) hl hd h
end Go.Ev
