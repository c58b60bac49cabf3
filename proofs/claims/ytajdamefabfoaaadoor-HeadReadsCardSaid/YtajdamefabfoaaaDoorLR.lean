/- What the statement on heads that are read reckons: lemmas; the function that writes numbers is a premise. -/
import Derived.Test.YtajdamefabfoaaaDoorBS
import Derived.Test.YtajdamefabfoaaaDoorL9
namespace Go.Ev
open Go Go.Proofs
set_option maxRecDepth 100000

noncomputable def eLHR : Env := env Tryd.prog [(29, dTrue), (33, dNew), (34, dHeadRead), (35, dRHead), (32, dSameP), (36, dInErr), (37, dInLeft), (38, dRLeft)] [] []
theorem q_lawHR (s : Bytes) : evFn eLHR 9 ((aOne vStr).enc s) ([]) some =
    cond (ilt (300 : Int) (↑(List.length s) : Int))
      (some { v := V.bool true, bx := [] : DRes })
      (cond (N.goodR { s := s, at' := (0 : Int), code := (0 : Int) : RIn })
        (cond (Nat.ble
      (List.length
        (List.map
          (fun r =>
            { key := V.toStr (List.getD r (0 : Nat) V.undef), kind := V.toInt (List.getD r (1 : Nat) V.undef),
              num := V.toInt (List.getD r (2 : Nat) V.undef), text := V.toStr (List.getD r (3 : Nat) V.undef) : HPair })
          (List.map
            (fun p =>
              [V.str (HPair.key p), V.int IntKind.u8 (HPair.kind p), V.int IntKind.i64 (HPair.num p), V.str (HPair.text p)])
            (Prod.fst (N.headRead { s := s, err := (0 : Int) : InS })))))
      (1000000 : Nat))
          (cond (N.samePs
      (List.map
        (fun r =>
          { key := V.toStr (List.getD r (0 : Nat) V.undef), kind := V.toInt (List.getD r (1 : Nat) V.undef),
            num := V.toInt (List.getD r (2 : Nat) V.undef), text := V.toStr (List.getD r (3 : Nat) V.undef) : HPair })
        (List.map
          (fun p =>
            [V.str (HPair.key p), V.int IntKind.u8 (HPair.kind p), V.int IntKind.i64 (HPair.num p), V.str (HPair.text p)])
          (Prod.fst (N.headRead { s := s, err := (0 : Int) : InS }))))
      (List.map
        (fun r =>
          { key := V.toStr (List.getD r (0 : Nat) V.undef), kind := V.toInt (List.getD r (1 : Nat) V.undef),
            num := V.toInt (List.getD r (2 : Nat) V.undef), text := V.toStr (List.getD r (3 : Nat) V.undef) : HPair })
        (List.map
          (fun p =>
            [V.str (HPair.key p), V.int IntKind.u8 (HPair.kind p), V.int IntKind.i64 (HPair.num p), V.str (HPair.text p)])
          (Prod.fst (N.rHead { s := s, at' := (0 : Int), code := (0 : Int) : RIn })))))
            (cond (InS.err (Prod.snd (N.headRead { s := s, err := (0 : Int) : InS })) ==
      RIn.code (Prod.snd (N.rHead { s := s, at' := (0 : Int), code := (0 : Int) : RIn })))
              (cond (N.goodR (Prod.snd (N.rHead { s := s, at' := (0 : Int), code := (0 : Int) : RIn })))
                (some
      {
        v :=
          V.bool
            (N.inLeft (Prod.snd (N.headRead { s := s, err := (0 : Int) : InS })) ==
              N.rLeft (Prod.snd (N.rHead { s := s, at' := (0 : Int), code := (0 : Int) : RIn }))),
        bx := [] : DRes })
                (none))
              (some { v := V.bool false, bx := [] : DRes }))
            (some { v := V.bool false, bx := [] : DRes }))
          (none))
        (none)) := by kernel_rfl
theorem headRead_len (i : InS) : (N.headRead i).1.length ≤ 255 := by
  obtain ⟨b1, b2⟩ := inNum1 i
  have w : IntKind.wrap .i64 (N.inNum i 1).1 = (N.inNum i 1).1 := wrap_i64 (by omega) (by omega)
  unfold N.headRead
  rw [w]
  have := readFrom_len (N.inNum i 1).1.toNat (cond (ilt 8 (N.inNum i 1).1) (N.inFail (N.inNum i 1).2 6) (N.inNum i 1).2) []
  rw [List.length_nil] at this
  omega
theorem ok_lawHR (hN : FnOk Tryd.prog 72 dOutNum) : FnOk Tryd.prog 9 (den (aOne vStr) bNil (oV vBool) (fun _ _ => true) fun _ _ => (true, ())) := by
  refine den_okF (env_ok (((((((((TOk.nil _).cons ok_rLeft).cons ok_inLeft).cons ok_inErr).cons ok_refSame).cons ok_rHead).cons ok_headRead).cons ok_new).cons (ok_aw9 hN))) (E := eLHR) Tryd.func9 [] (by kernel_rfl) none0 fun s _ _ => ?_
  refine (q_lawHR s).trans ?_
  show _ = some (⟨.bool true, [], []⟩ : DRes)
  by_cases hl : 300 < s.length
  · simp (disch := omega) only [evs]
  · obtain ⟨e1, e2⟩ := rl_read (rl_new s)
    have hs : s.length ≤ LIM := by have : LIM = 1000000 := rfl; omega
    have g0 : N.goodR ⟨s, 0, 0⟩ = true := rl_good (rl_new s) hs
    have g1 := rl_good e2 hs
    have hlen := headRead_len ⟨s, 0⟩
    have e3 := e2.2.2.2.1
    have e4 := rl_left e2
    rw [e1] at hlen
    simp (disch := omega) only [evs, pairs_enc, g0, g1, e1, e3, e4, samePs_refl, beq_self_eq_true]
end Go.Ev
