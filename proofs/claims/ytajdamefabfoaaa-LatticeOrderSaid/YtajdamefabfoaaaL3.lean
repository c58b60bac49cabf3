/- What the statements on labels reckon: lemmas; the function that writes numbers is a premise. -/
import Derived.Test.YtajdamefabfoaaaBL
import Derived.Test.YtajdamefabfoaaaQ3
namespace Go.Ev
open Go Go.Proofs
set_option maxRecDepth 100000

noncomputable def eOrder : Env := env Try.prog [(6, dTrue), (7, dUnder)] [] []
--R q_order (a b c : Label) := evFn eOrder 3 ((aCons (vAgg cLabel) (aCons (vAgg cLabel) (aOne (vAgg cLabel)))).enc (a, b, c)) (bNil.enc ()) some
theorem q_order (a b c : Label) : evFn eOrder 3 ((aCons (vAgg cLabel) (aCons (vAgg cLabel) (aOne (vAgg cLabel)))).enc (a, b, c)) (bNil.enc ()) some =
    cond (!N.under a a)
      (some { v := V.bool false, bx := [] })
      (cond (N.under a b)
        (cond (!N.under b a == (Label.level a == Label.level b && (Label.set a == Label.set b && true)))
          (some { v := V.bool false, bx := [] })
          (cond (!N.under a b)
            (some { v := V.bool true, bx := [] })
            (cond (!N.under b c)
              (some { v := V.bool true, bx := [] })
              (some { v := V.bool (N.under a c), bx := [] }))))
        (cond (!false == (Label.level a == Label.level b && (Label.set a == Label.set b && true)))
          (some { v := V.bool false, bx := [] })
          (cond (!N.under a b)
            (some { v := V.bool true, bx := [] })
            (cond (!N.under b c)
              (some { v := V.bool true, bx := [] })
              (some { v := V.bool (N.under a c), bx := [] }))))) := by kernel_rfl
theorem ok_order (hN : FnOk Try.prog 17 dOutNum) : FnOk Try.prog 3
    (den (aCons (vAgg cLabel) (aCons (vAgg cLabel) (aOne (vAgg cLabel)))) bNil (oV vBool) (fun _ _ => true) fun a _ => (N.orderL a.1 a.2.1 a.2.2, ())) := by
  refine den_okF (env_ok (((TOk.nil _).cons ok_under).cons (ok_aw3 hN))) (E := eOrder) Try.func3 [] (by kernel_rfl) none0 fun a _ _ => ?_
  refine (q_order a.1 a.2.1 a.2.2).trans ?_
  obtain ⟨a, b, c⟩ := a
  show _ = some (⟨.bool (N.orderL a b c), [], []⟩ : DRes)
  unfold N.orderL N.eqL
  cases N.under a a with
  | false => rfl
  | true =>
    cases h1 : N.under a b with
    | true => cases (!N.under b a == (a.level == b.level && (a.set == b.set && true))) <;> cases N.under b c <;> rfl
    | false => cases (!false == (a.level == b.level && (a.set == b.set && true))) <;> rfl

def dHas : Den := den (aCons (vAgg cLabel) (aOne (vInt .i64))) bNil (oV vBool) (fun a _ => ile 0 a.2) fun a _ => (N.refHas a.1 a.2, ())
noncomputable def eHas : Env := env Try.prog [] [] []
--R q_has (a : Label) (i : Int) := evFn eHas 14 ((aCons (vAgg cLabel) (aOne (vInt .i64))).enc (a, i)) (bNil.enc ()) some
theorem q_has (a : Label) (i : Int) : evFn eHas 14 ((aCons (vAgg cLabel) (aOne (vInt .i64))).enc (a, i)) (bNil.enc ()) some =
    cond (decide (i < (0 : Int)))
      (none)
      (some { v := V.bool (Int.tmod (shr IntKind.u32 (Label.set a) i) (2 : Int) == (1 : Int)), bx := [] }) := by kernel_rfl
end Go.Ev
