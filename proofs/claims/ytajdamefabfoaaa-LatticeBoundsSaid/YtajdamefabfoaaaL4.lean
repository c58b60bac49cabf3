/- What the statement on lowest and highest labels reckons: lemmas; the function that writes numbers is a premise. -/
import Derived.Test.YtajdamefabfoaaaBL
import Derived.Test.YtajdamefabfoaaaQ4
namespace Go.Ev
open Go Go.Proofs
set_option maxRecDepth 100000

noncomputable def eBounds : Env := env Try.prog [(6, dTrue), (7, dUnder), (10, dJoin), (11, dMeet)] [] []
theorem q_bounds (a b c : Label) : evFn eBounds 5 ((aCons (vAgg cLabel) (aCons (vAgg cLabel) (aOne (vAgg cLabel)))).enc (a, b, c)) (bNil.enc ()) some =
    cond (N.under a c)
      (cond (!N.under (N.join a b) c == N.under b c)
        (some { v := V.bool false, bx := [] })
        (cond (N.under c a)
          (cond (!N.under c (N.meet a b) == N.under c b)
            (some { v := V.bool false, bx := [] })
            (cond (N.under a (N.join a b))
              (cond (N.under (N.meet a b) a)
                (cond (Label.level (N.join a b) == Label.level (N.join b a) && (Label.set (N.join a b) == Label.set (N.join b a) && true))
                  (cond (Label.level (N.meet a b) == Label.level (N.meet b a) && (Label.set (N.meet a b) == Label.set (N.meet b a) && true))
                    (cond (Label.level (N.join a (N.meet a b)) == Label.level a && (Label.set (N.join a (N.meet a b)) == Label.set a && true))
                      (some
      {
        v :=
          V.bool
            (Label.level (N.meet a (N.join a b)) == Label.level a &&
              (Label.set (N.meet a (N.join a b)) == Label.set a && true)),
        bx := [] })
                      (some { v := V.bool false, bx := [] }))
                    (some { v := V.bool false, bx := [] }))
                  (some { v := V.bool false, bx := [] }))
                (some { v := V.bool false, bx := [] }))
              (some { v := V.bool false, bx := [] })))
          (cond (!N.under c (N.meet a b) == false)
            (some { v := V.bool false, bx := [] })
            (cond (N.under a (N.join a b))
              (cond (N.under (N.meet a b) a)
                (cond (Label.level (N.join a b) == Label.level (N.join b a) && (Label.set (N.join a b) == Label.set (N.join b a) && true))
                  (cond (Label.level (N.meet a b) == Label.level (N.meet b a) && (Label.set (N.meet a b) == Label.set (N.meet b a) && true))
                    (cond (Label.level (N.join a (N.meet a b)) == Label.level a && (Label.set (N.join a (N.meet a b)) == Label.set a && true))
                      (some
      {
        v :=
          V.bool
            (Label.level (N.meet a (N.join a b)) == Label.level a &&
              (Label.set (N.meet a (N.join a b)) == Label.set a && true)),
        bx := [] })
                      (some { v := V.bool false, bx := [] }))
                    (some { v := V.bool false, bx := [] }))
                  (some { v := V.bool false, bx := [] }))
                (some { v := V.bool false, bx := [] }))
              (some { v := V.bool false, bx := [] })))))
      (cond (!N.under (N.join a b) c == false)
        (some { v := V.bool false, bx := [] })
        (cond (N.under c a)
          (cond (!N.under c (N.meet a b) == N.under c b)
            (some { v := V.bool false, bx := [] })
            (cond (N.under a (N.join a b))
              (cond (N.under (N.meet a b) a)
                (cond (Label.level (N.join a b) == Label.level (N.join b a) && (Label.set (N.join a b) == Label.set (N.join b a) && true))
                  (cond (Label.level (N.meet a b) == Label.level (N.meet b a) && (Label.set (N.meet a b) == Label.set (N.meet b a) && true))
                    (cond (Label.level (N.join a (N.meet a b)) == Label.level a && (Label.set (N.join a (N.meet a b)) == Label.set a && true))
                      (some
      {
        v :=
          V.bool
            (Label.level (N.meet a (N.join a b)) == Label.level a &&
              (Label.set (N.meet a (N.join a b)) == Label.set a && true)),
        bx := [] })
                      (some { v := V.bool false, bx := [] }))
                    (some { v := V.bool false, bx := [] }))
                  (some { v := V.bool false, bx := [] }))
                (some { v := V.bool false, bx := [] }))
              (some { v := V.bool false, bx := [] })))
          (cond (!N.under c (N.meet a b) == false)
            (some { v := V.bool false, bx := [] })
            (cond (N.under a (N.join a b))
              (cond (N.under (N.meet a b) a)
                (cond (Label.level (N.join a b) == Label.level (N.join b a) && (Label.set (N.join a b) == Label.set (N.join b a) && true))
                  (cond (Label.level (N.meet a b) == Label.level (N.meet b a) && (Label.set (N.meet a b) == Label.set (N.meet b a) && true))
                    (cond (Label.level (N.join a (N.meet a b)) == Label.level a && (Label.set (N.join a (N.meet a b)) == Label.set a && true))
                      (some
      {
        v :=
          V.bool
            (Label.level (N.meet a (N.join a b)) == Label.level a &&
              (Label.set (N.meet a (N.join a b)) == Label.set a && true)),
        bx := [] })
                      (some { v := V.bool false, bx := [] }))
                    (some { v := V.bool false, bx := [] }))
                  (some { v := V.bool false, bx := [] }))
                (some { v := V.bool false, bx := [] }))
              (some { v := V.bool false, bx := [] }))))) := by kernel_rfl
theorem ok_bounds (hN : FnOk Try.prog 17 dOutNum) : FnOk Try.prog 5
    (den (aCons (vAgg cLabel) (aCons (vAgg cLabel) (aOne (vAgg cLabel)))) bNil (oV vBool) (fun _ _ => true) fun a _ => (N.boundsL a.1 a.2.1 a.2.2, ())) := by
  refine den_okF (env_ok (((((TOk.nil _).cons ok_meet).cons ok_join).cons ok_under).cons (ok_aw3 hN))) (E := eBounds) Try.func5 [] (by kernel_rfl) none0 fun a _ _ => ?_
  refine (q_bounds a.1 a.2.1 a.2.2).trans ?_
  obtain ⟨a, b, c⟩ := a
  show _ = some (⟨.bool (N.boundsL a b c), [], []⟩ : DRes)
  unfold N.boundsL
  simp only [show ∀ x y : Label, (x.level == y.level && (x.set == y.set && true)) = N.eqL x y from fun _ _ => rfl]
  generalize N.eqL (N.join a b) (N.join b a) = e1
  generalize N.eqL (N.meet a b) (N.meet b a) = e2
  generalize N.eqL (N.join a (N.meet a b)) a = e3
  generalize N.eqL (N.meet a (N.join a b)) a = e4
  generalize N.under a (N.join a b) = e5
  generalize N.under (N.meet a b) a = e6
  generalize (!N.under c (N.meet a b) == N.under c b) = e7
  generalize (!N.under c (N.meet a b) == false) = e8
  generalize (!N.under (N.join a b) c == N.under b c) = e9
  generalize (!N.under (N.join a b) c == false) = e10
  cases N.under a c
  · cases e10
    · cases N.under c a
      · cases e8 <;> cases e5 <;> cases e6 <;> cases e1 <;> cases e2 <;> cases e3 <;> rfl
      · cases e7 <;> cases e5 <;> cases e6 <;> cases e1 <;> cases e2 <;> cases e3 <;> rfl
    · rfl
  · cases e9
    · cases N.under c a
      · cases e8 <;> cases e5 <;> cases e6 <;> cases e1 <;> cases e2 <;> cases e3 <;> rfl
      · cases e7 <;> cases e5 <;> cases e6 <;> cases e1 <;> cases e2 <;> cases e3 <;> rfl
    · rfl
end Go.Ev
