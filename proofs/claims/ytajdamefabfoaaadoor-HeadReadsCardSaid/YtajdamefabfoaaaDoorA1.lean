/- The example of the chapter on bytes: lemmas; the function that writes numbers is a premise. -/
import Derived.Test.YtajdamefabfoaaaDoorB1
namespace Go.Ev
open Go Go.Proofs
set_option maxRecDepth 100000

noncomputable def eAw1 : Env := env Tryd.prog [(72, dOutNum), (73, dOutText), (74, dOutString), (33, dNew), (64, dNum)] [] []
theorem q_aw1  : evFn eAw1 80 [] [] some =
    some { v := V.bool true, bx := [] } := by kernel_rfl
def dTrue : Den := den aNil bNil (oV vBool) (fun _ _ => true) fun _ _ => (true, ())
theorem ok_aw1 (hN : FnOk Tryd.prog 72 dOutNum) : FnOk Tryd.prog 80 dTrue :=
  den_okF (env_ok ((((((TOk.nil _).cons ok_num).cons ok_new).cons ok_outString).cons (ok_outText hN)).cons hN)) (E := eAw1) Tryd.func80 [] (by kernel_rfl) none0 fun _ _ _ => q_aw1
noncomputable def eAw1' : Env := env Tryd.prog [(80, dTrue)] [] []
theorem q_aw1'  : evFn eAw1' 49 [] [] some =
    some { v := V.bool true, bx := [] } := by kernel_rfl
theorem ok_aw1' (hN : FnOk Tryd.prog 72 dOutNum) : FnOk Tryd.prog 49 dTrue :=
  den_okF (env_ok ((TOk.nil _).cons (ok_aw1 hN))) (E := eAw1') Tryd.func49 [] (by kernel_rfl) none0 fun _ _ _ => q_aw1'
end Go.Ev
