/- What the statement on same heads reckons: lemmas; the function that writes numbers is a premise. -/
import Derived.Test.YtajdamefabfoaaaDoorBH
namespace Go.Ev
open Go Go.Proofs
set_option maxRecDepth 100000

noncomputable def eAw4' : Env := env Tryd.prog [(11, dTrueW)] [] []
theorem q_aw4'  : evFn eAw4' 62 [] [] some =
    some { v := V.bool true, bx := [] : DRes } := by kernel_rfl
theorem ok_aw4' : FnOk Tryd.prog 62 dTrue := den_okF (env_ok ((TOk.nil _).cons ok_awW)) (E := eAw4') Tryd.func62 [] (by kernel_rfl) none0 fun _ _ _ => q_aw4'
noncomputable def eAw9 : Env := env Tryd.prog [(40, dHeadBytes), (49, dTrue), (62, dTrue)] [] []
theorem q_aw9  : evFn eAw9 29 [] [] some =
    some { v := V.bool true, bx := [] : DRes } := by kernel_rfl
theorem ok_aw9 (hN : FnOk Tryd.prog 72 dOutNum) : FnOk Tryd.prog 29 dTrue :=
  den_okF (env_ok ((((TOk.nil _).cons ok_aw4').cons (ok_aw1' hN)).cons (ok_headBytes hN))) (E := eAw9) Tryd.func29 [] (by kernel_rfl) none0 fun _ _ _ => q_aw9
noncomputable def eHSame : Env := env Tryd.prog [(63, dSameP)] [] []
theorem q_hsame (a b : List HPair) : evFn eHSame 31 ((aCons (vSl cPair) (aOne (vSl cPair))).enc (a, b)) ([]) some =
    cond (Nat.ble
      (List.length
        (List.map
          (fun r =>
            { key := V.toStr (List.getD r (0 : Nat) V.undef), kind := V.toInt (List.getD r (1 : Nat) V.undef),
              num := V.toInt (List.getD r (2 : Nat) V.undef), text := V.toStr (List.getD r (3 : Nat) V.undef) : HPair })
          (List.map
            (fun p =>
              [V.str (HPair.key p), V.int IntKind.u8 (HPair.kind p), V.int IntKind.i64 (HPair.num p), V.str (HPair.text p)])
            a)))
      (1000000 : Nat))
      (some
      {
        v :=
          V.bool
            (N.samePs
              (List.map
                (fun r =>
                  { key := V.toStr (List.getD r (0 : Nat) V.undef), kind := V.toInt (List.getD r (1 : Nat) V.undef),
                    num := V.toInt (List.getD r (2 : Nat) V.undef), text := V.toStr (List.getD r (3 : Nat) V.undef) :
                    HPair })
                (List.map
                  (fun p =>
                    [V.str (HPair.key p), V.int IntKind.u8 (HPair.kind p), V.int IntKind.i64 (HPair.num p),
                      V.str (HPair.text p)])
                  a))
              (List.map
                (fun r =>
                  { key := V.toStr (List.getD r (0 : Nat) V.undef), kind := V.toInt (List.getD r (1 : Nat) V.undef),
                    num := V.toInt (List.getD r (2 : Nat) V.undef), text := V.toStr (List.getD r (3 : Nat) V.undef) :
                    HPair })
                (List.map
                  (fun p =>
                    [V.str (HPair.key p), V.int IntKind.u8 (HPair.kind p), V.int IntKind.i64 (HPair.num p),
                      V.str (HPair.text p)])
                  b))),
        bx := [] : DRes })
      (none) := by kernel_rfl
theorem ok_hsame : FnOk Tryd.prog 31 dSameP := by
  refine den_okF (env_ok ((TOk.nil _).cons ok_eqP)) (E := eHSame) Tryd.func31 [] (by kernel_rfl) none0 fun a _ h => ?_
  obtain ⟨a, b⟩ := a
  have h : a.length ≤ 1000000 := ble_of h
  refine (q_hsame a b).trans ?_
  show _ = some (⟨.bool (N.samePs a b), [], []⟩ : DRes)
  simp (disch := omega) only [evs, pairs_enc]
noncomputable def eLHS : Env := env Tryd.prog [(29, dTrue), (30, dLight), (31, dSameP), (32, dSameP)] [] []
theorem q_lawHS (a b : List HPair) : evFn eLHS 8 ((aCons (vSl cPair) (aOne (vSl cPair))).enc (a, b)) ([]) some =
    cond (!N.light
        (List.map
          (fun r =>
            { key := V.toStr (List.getD r (0 : Nat) V.undef), kind := V.toInt (List.getD r (1 : Nat) V.undef),
              num := V.toInt (List.getD r (2 : Nat) V.undef), text := V.toStr (List.getD r (3 : Nat) V.undef) : HPair })
          (List.map
            (fun p =>
              [V.str (HPair.key p), V.int IntKind.u8 (HPair.kind p), V.int IntKind.i64 (HPair.num p), V.str (HPair.text p)])
            a)))
      (some { v := V.bool true, bx := [] : DRes })
      (cond (!N.light
        (List.map
          (fun r =>
            { key := V.toStr (List.getD r (0 : Nat) V.undef), kind := V.toInt (List.getD r (1 : Nat) V.undef),
              num := V.toInt (List.getD r (2 : Nat) V.undef), text := V.toStr (List.getD r (3 : Nat) V.undef) : HPair })
          (List.map
            (fun p =>
              [V.str (HPair.key p), V.int IntKind.u8 (HPair.kind p), V.int IntKind.i64 (HPair.num p), V.str (HPair.text p)])
            b)))
        (some { v := V.bool true, bx := [] : DRes })
        (cond (Nat.ble
      (List.length
        (List.map
          (fun r =>
            { key := V.toStr (List.getD r (0 : Nat) V.undef), kind := V.toInt (List.getD r (1 : Nat) V.undef),
              num := V.toInt (List.getD r (2 : Nat) V.undef), text := V.toStr (List.getD r (3 : Nat) V.undef) : HPair })
          (List.map
            (fun p =>
              [V.str (HPair.key p), V.int IntKind.u8 (HPair.kind p), V.int IntKind.i64 (HPair.num p), V.str (HPair.text p)])
            a)))
      (1000000 : Nat))
          (cond (Nat.ble
      (List.length
        (List.map
          (fun r =>
            { key := V.toStr (List.getD r (0 : Nat) V.undef), kind := V.toInt (List.getD r (1 : Nat) V.undef),
              num := V.toInt (List.getD r (2 : Nat) V.undef), text := V.toStr (List.getD r (3 : Nat) V.undef) : HPair })
          (List.map
            (fun p =>
              [V.str (HPair.key p), V.int IntKind.u8 (HPair.kind p), V.int IntKind.i64 (HPair.num p), V.str (HPair.text p)])
            a)))
      (1000000 : Nat))
            (cond (N.samePs
        (List.map
          (fun r =>
            { key := V.toStr (List.getD r (0 : Nat) V.undef), kind := V.toInt (List.getD r (1 : Nat) V.undef),
              num := V.toInt (List.getD r (2 : Nat) V.undef), text := V.toStr (List.getD r (3 : Nat) V.undef) : HPair })
          (List.map
            (fun p =>
              [V.str (HPair.key p), V.int IntKind.u8 (HPair.kind p), V.int IntKind.i64 (HPair.num p), V.str (HPair.text p)])
            a))
        (List.map
          (fun r =>
            { key := V.toStr (List.getD r (0 : Nat) V.undef), kind := V.toInt (List.getD r (1 : Nat) V.undef),
              num := V.toInt (List.getD r (2 : Nat) V.undef), text := V.toStr (List.getD r (3 : Nat) V.undef) : HPair })
          (List.map
            (fun p =>
              [V.str (HPair.key p), V.int IntKind.u8 (HPair.kind p), V.int IntKind.i64 (HPair.num p), V.str (HPair.text p)])
            b)) ==
      N.samePs
        (List.map
          (fun r =>
            { key := V.toStr (List.getD r (0 : Nat) V.undef), kind := V.toInt (List.getD r (1 : Nat) V.undef),
              num := V.toInt (List.getD r (2 : Nat) V.undef), text := V.toStr (List.getD r (3 : Nat) V.undef) : HPair })
          (List.map
            (fun p =>
              [V.str (HPair.key p), V.int IntKind.u8 (HPair.kind p), V.int IntKind.i64 (HPair.num p), V.str (HPair.text p)])
            a))
        (List.map
          (fun r =>
            { key := V.toStr (List.getD r (0 : Nat) V.undef), kind := V.toInt (List.getD r (1 : Nat) V.undef),
              num := V.toInt (List.getD r (2 : Nat) V.undef), text := V.toStr (List.getD r (3 : Nat) V.undef) : HPair })
          (List.map
            (fun p =>
              [V.str (HPair.key p), V.int IntKind.u8 (HPair.kind p), V.int IntKind.i64 (HPair.num p), V.str (HPair.text p)])
            b)))
              (cond (Nat.ble
      (List.length
        (List.map
          (fun r =>
            { key := V.toStr (List.getD r (0 : Nat) V.undef), kind := V.toInt (List.getD r (1 : Nat) V.undef),
              num := V.toInt (List.getD r (2 : Nat) V.undef), text := V.toStr (List.getD r (3 : Nat) V.undef) : HPair })
          (List.map
            (fun p =>
              [V.str (HPair.key p), V.int IntKind.u8 (HPair.kind p), V.int IntKind.i64 (HPair.num p), V.str (HPair.text p)])
            a)))
      (1000000 : Nat))
                (some
      {
        v :=
          V.bool
            (N.samePs
              (List.map
                (fun r =>
                  { key := V.toStr (List.getD r (0 : Nat) V.undef), kind := V.toInt (List.getD r (1 : Nat) V.undef),
                    num := V.toInt (List.getD r (2 : Nat) V.undef), text := V.toStr (List.getD r (3 : Nat) V.undef) :
                    HPair })
                (List.map
                  (fun p =>
                    [V.str (HPair.key p), V.int IntKind.u8 (HPair.kind p), V.int IntKind.i64 (HPair.num p),
                      V.str (HPair.text p)])
                  a))
              (List.map
                (fun r =>
                  { key := V.toStr (List.getD r (0 : Nat) V.undef), kind := V.toInt (List.getD r (1 : Nat) V.undef),
                    num := V.toInt (List.getD r (2 : Nat) V.undef), text := V.toStr (List.getD r (3 : Nat) V.undef) :
                    HPair })
                (List.map
                  (fun p =>
                    [V.str (HPair.key p), V.int IntKind.u8 (HPair.kind p), V.int IntKind.i64 (HPair.num p),
                      V.str (HPair.text p)])
                  a))),
        bx := [] : DRes })
                (none))
              (some { v := V.bool false, bx := [] : DRes }))
            (none))
          (none))) := by kernel_rfl
theorem light_small {h : List HPair} (hl : N.light h = true) : h.length ≤ 12 := by
  unfold N.light at hl
  cases e : ilt 12 h.length with
  | true => rw [e] at hl; cases hl
  | false => have := ilt_nof e; omega
theorem ok_lawHS (hN : FnOk Tryd.prog 72 dOutNum) : FnOk Tryd.prog 8 (den (aCons (vSl cPair) (aOne (vSl cPair))) bNil (oV vBool) (fun _ _ => true) fun _ _ => (true, ())) := by
  refine den_okF (env_ok (((((TOk.nil _).cons ok_refSame).cons ok_hsame).cons ok_light).cons (ok_aw9 hN))) (E := eLHS) Tryd.func8 [] (by kernel_rfl) none0 fun a _ _ => ?_
  obtain ⟨a, b⟩ := a
  refine (q_lawHS a b).trans ?_
  show _ = some (⟨.bool true, [], []⟩ : DRes)
  simp (disch := omega) only [evs, pairs_enc, samePs_refl, beq_self_eq_true]
  cases h1 : N.light a with
  | false => rfl
  | true =>
    cases h2 : N.light b with
    | false => rfl
    | true =>
      have := light_small h1
      simp (disch := omega) only [evs, Bool.not_true]
end Go.Ev
