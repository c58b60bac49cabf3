/- The program's functions that read heads answer what the plain ones do: lemmas. -/
import Derived.Test.YtajdamefabfoaaaDoorQR
import Derived.Test.YtajdamefabfoaaaDoorBH
namespace Go.Ev
open Go Go.Proofs
set_option maxRecDepth 100000

noncomputable def eInText : Env := env Tryd.prog [(64, dNum), (65, dFail), (87, dRaw)] [] []
theorem q_inText (i : InS) (n : Int) : evFn eInText 88 ((aCons (vPtr 0) (aOne (vInt .i64))).enc ((), n)) ((bOne cIn).enc i) some =
    cond (ilt n (IntKind.wrap IntKind.i64 (Prod.fst (N.inNum i (2 : Int)))))
      (some
      {
        v :=
          V.str
            (Prod.fst
              (N.inRaw (N.inFail (Prod.snd (N.inNum i (2 : Int))) (5 : Int))
                (IntKind.wrap IntKind.i64 (Prod.fst (N.inNum i (2 : Int)))))),
        bx :=
          [[V.str
                (InS.s
                  (Prod.snd
                    (N.inRaw (N.inFail (Prod.snd (N.inNum i (2 : Int))) (5 : Int))
                      (IntKind.wrap IntKind.i64 (Prod.fst (N.inNum i (2 : Int))))))),
              V.int IntKind.i64
                (InS.err
                  (Prod.snd
                    (N.inRaw (N.inFail (Prod.snd (N.inNum i (2 : Int))) (5 : Int))
                      (IntKind.wrap IntKind.i64 (Prod.fst (N.inNum i (2 : Int)))))))]] :
        DRes })
      (some
      {
        v :=
          V.str
            (Prod.fst
              (N.inRaw (Prod.snd (N.inNum i (2 : Int))) (IntKind.wrap IntKind.i64 (Prod.fst (N.inNum i (2 : Int)))))),
        bx :=
          [[V.str
                (InS.s
                  (Prod.snd
                    (N.inRaw (Prod.snd (N.inNum i (2 : Int)))
                      (IntKind.wrap IntKind.i64 (Prod.fst (N.inNum i (2 : Int))))))),
              V.int IntKind.i64
                (InS.err
                  (Prod.snd
                    (N.inRaw (Prod.snd (N.inNum i (2 : Int)))
                      (IntKind.wrap IntKind.i64 (Prod.fst (N.inNum i (2 : Int)))))))]] :
        DRes }) := by kernel_rfl
theorem ok_inText : FnOk Tryd.prog 88 dInText := by
  refine den_okF (env_ok ((((TOk.nil _).cons ok_raw).cons ok_fail).cons ok_num)) (E := eInText) Tryd.func88 [] (by kernel_rfl) none0 fun a i _ => ?_
  refine (q_inText i a.2).trans ?_
  show _ = some (⟨.str (N.inText i a.2).1, [[.str (N.inText i a.2).2.s, .int .i64 (N.inText i a.2).2.err]], []⟩ : DRes)
  unfold N.inText
  cases ilt a.2 (IntKind.wrap .i64 (N.inNum i 2).1) <;> rfl
noncomputable def eInErr : Env := env Tryd.prog [] [] []
theorem q_inErr (i : InS) : evFn eInErr 36 ((aOne (vPtr 0)).enc ()) ((bOne cIn).enc i) some =
    some { v := V.int IntKind.i64 (InS.err i), bx := [[V.str (InS.s i), V.int IntKind.i64 (InS.err i)]] : DRes } := by kernel_rfl
theorem ok_inErr : FnOk Tryd.prog 36 dInErr := den_okF (env_ok (TOk.nil _)) (E := eInErr) Tryd.func36 [] (by kernel_rfl) none0 fun _ i _ => q_inErr i
theorem q_inLeft (i : InS) : evFn eInErr 37 ((aOne (vPtr 0)).enc ()) ((bOne cIn).enc i) some =
    some
      { v := V.int IntKind.i64 (↑(List.length (InS.s i)) : Int), bx := [[V.str (InS.s i), V.int IntKind.i64 (InS.err i)]] :
        DRes } := by kernel_rfl
theorem ok_inLeft : FnOk Tryd.prog 37 dInLeft := den_okF (env_ok (TOk.nil _)) (E := eInErr) Tryd.func37 [] (by kernel_rfl) none0 fun _ i _ => q_inLeft i
noncomputable def eInEnd : Env := env Tryd.prog [(36, dInErr), (37, dInLeft)] [] []
theorem q_inEnd (i : InS) : evFn eInEnd 44 ((aOne (vPtr 0)).enc ()) ((bOne cIn).enc i) some =
    cond (InS.err i == (0 : Int))
      (cond (ilt (0 : Int) (N.inLeft i))
        (some { v := V.int IntKind.i64 (4 : Int), bx := [[V.str (InS.s i), V.int IntKind.i64 (InS.err i)]] : DRes })
        (some { v := V.int IntKind.i64 (InS.err i), bx := [[V.str (InS.s i), V.int IntKind.i64 (InS.err i)]] : DRes }))
      (some { v := V.int IntKind.i64 (InS.err i), bx := [[V.str (InS.s i), V.int IntKind.i64 (InS.err i)]] : DRes }) := by kernel_rfl
theorem ok_inEnd : FnOk Tryd.prog 44 dInEnd := by
  refine den_okF (env_ok (((TOk.nil _).cons ok_inLeft).cons ok_inErr)) (E := eInEnd) Tryd.func44 [] (by kernel_rfl) none0 fun _ i _ => ?_
  refine (q_inEnd i).trans ?_
  show _ = some (⟨.int .i64 (cond (i.err == 0) (cond (ilt 0 i.s.length) 4 0) i.err), [[.str i.s, .int .i64 i.err]], []⟩ : DRes)
  unfold N.inLeft
  cases h : i.err == 0 with
  | false => rfl
  | true =>
    have : i.err = 0 := by simpa using h
    rw [this]
    cases ilt 0 (i.s.length : Int) <;> rfl
noncomputable def eOne : Env := env Tryd.prog [(88, dInText), (64, dNum), (65, dFail)] [] []
theorem q_one (i : InS) : evFn eOne 66 ((aOne (vPtr 0)).enc ()) ((bOne cIn).enc i) some =
    cond (IntKind.wrap IntKind.u8 (Prod.fst (N.inNum (Prod.snd (N.inText i (16 : Int))) (1 : Int))) == (0 : Int))
      (some
      {
        v :=
          V.agg
            [V.str (Prod.fst (N.inText i (16 : Int))),
              V.int IntKind.u8 (IntKind.wrap IntKind.u8 (Prod.fst (N.inNum (Prod.snd (N.inText i (16 : Int))) (1 : Int)))),
              V.int IntKind.i64
                (IntKind.wrap IntKind.i64
                  (Prod.fst (N.inNum (Prod.snd (N.inNum (Prod.snd (N.inText i (16 : Int))) (1 : Int))) (8 : Int)))),
              V.str []],
        bx :=
          [[V.str (InS.s (Prod.snd (N.inNum (Prod.snd (N.inNum (Prod.snd (N.inText i (16 : Int))) (1 : Int))) (8 : Int)))),
              V.int IntKind.i64
                (InS.err
                  (Prod.snd (N.inNum (Prod.snd (N.inNum (Prod.snd (N.inText i (16 : Int))) (1 : Int))) (8 : Int))))]] :
        DRes })
      (cond (IntKind.wrap IntKind.u8 (Prod.fst (N.inNum (Prod.snd (N.inText i (16 : Int))) (1 : Int))) == (1 : Int))
        (some
      {
        v :=
          V.agg
            [V.str (Prod.fst (N.inText i (16 : Int))),
              V.int IntKind.u8 (IntKind.wrap IntKind.u8 (Prod.fst (N.inNum (Prod.snd (N.inText i (16 : Int))) (1 : Int)))),
              V.int IntKind.i64 (0 : Int),
              V.str (Prod.fst (N.inText (Prod.snd (N.inNum (Prod.snd (N.inText i (16 : Int))) (1 : Int))) (64 : Int)))],
        bx :=
          [[V.str
                (InS.s (Prod.snd (N.inText (Prod.snd (N.inNum (Prod.snd (N.inText i (16 : Int))) (1 : Int))) (64 : Int)))),
              V.int IntKind.i64
                (InS.err
                  (Prod.snd (N.inText (Prod.snd (N.inNum (Prod.snd (N.inText i (16 : Int))) (1 : Int))) (64 : Int))))]] :
        DRes })
        (cond (IntKind.wrap IntKind.u8 (Prod.fst (N.inNum (Prod.snd (N.inText i (16 : Int))) (1 : Int))) == (2 : Int))
          (some
      {
        v :=
          V.agg
            [V.str (Prod.fst (N.inText i (16 : Int))),
              V.int IntKind.u8 (IntKind.wrap IntKind.u8 (Prod.fst (N.inNum (Prod.snd (N.inText i (16 : Int))) (1 : Int)))),
              V.int IntKind.i64
                (IntKind.wrap IntKind.i64
                  (Prod.fst (N.inNum (Prod.snd (N.inNum (Prod.snd (N.inText i (16 : Int))) (1 : Int))) (1 : Int)))),
              V.str []],
        bx :=
          [[V.str (InS.s (Prod.snd (N.inNum (Prod.snd (N.inNum (Prod.snd (N.inText i (16 : Int))) (1 : Int))) (1 : Int)))),
              V.int IntKind.i64
                (InS.err
                  (Prod.snd (N.inNum (Prod.snd (N.inNum (Prod.snd (N.inText i (16 : Int))) (1 : Int))) (1 : Int))))]] :
        DRes })
          (some
      {
        v :=
          V.agg
            [V.str (Prod.fst (N.inText i (16 : Int))),
              V.int IntKind.u8 (IntKind.wrap IntKind.u8 (Prod.fst (N.inNum (Prod.snd (N.inText i (16 : Int))) (1 : Int)))),
              V.int IntKind.i64 (0 : Int), V.str []],
        bx :=
          [[V.str (InS.s (N.inFail (Prod.snd (N.inNum (Prod.snd (N.inText i (16 : Int))) (1 : Int))) (8 : Int))),
              V.int IntKind.i64
                (InS.err (N.inFail (Prod.snd (N.inNum (Prod.snd (N.inText i (16 : Int))) (1 : Int))) (8 : Int)))]] :
        DRes }))) := by kernel_rfl
theorem ok_one : FnOk Tryd.prog 66 dOne := by
  refine den_okF (env_ok ((((TOk.nil _).cons ok_fail).cons ok_num).cons ok_inText)) (E := eOne) Tryd.func66 [] (by kernel_rfl) none0 fun _ i _ => ?_
  refine (q_one i).trans ?_
  show _ = some (⟨.agg [.str (N.one i).1.key, .int .u8 (N.one i).1.kind, .int .i64 (N.one i).1.num, .str (N.one i).1.text], [[.str (N.one i).2.s, .int .i64 (N.one i).2.err]], []⟩ : DRes)
  unfold N.one N.oneOf
  cases IntKind.wrap .u8 (N.inNum (N.inText i 16).2 1).1 == 0 <;> cases IntKind.wrap .u8 (N.inNum (N.inText i 16).2 1).1 == 1 <;> cases IntKind.wrap .u8 (N.inNum (N.inText i 16).2 1).1 == 2 <;> rfl
theorem drop_takeN {α : Type} (l : List α) (i n : Nat) : (l.take (i + n)).drop i = (l.drop i).take n := by rw [List.drop_take, Nat.add_sub_cancel_left]
noncomputable def eRFail : Env := env Tryd.prog [] [] []
theorem q_rFail (q : RIn) (n : Int) : evFn eRFail 69 ((aCons (vPtr 0) (aOne (vInt .i64))).enc ((), n)) ((bOne cRIn).enc q) some =
    cond (RIn.code q == (0 : Int))
      (some { v := V.tup [], bx := [[V.str (RIn.s q), V.int IntKind.i64 (RIn.at' q), V.int IntKind.i64 n]] : DRes })
      (some { v := V.tup [], bx := [[V.str (RIn.s q), V.int IntKind.i64 (RIn.at' q), V.int IntKind.i64 (RIn.code q)]] : DRes }) := by kernel_rfl
theorem ok_rFail : FnOk Tryd.prog 69 dRFail := by
  refine den_okF (env_ok (TOk.nil _)) (E := eRFail) Tryd.func69 [] (by kernel_rfl) none0 fun a q _ => ?_
  refine (q_rFail q a.2).trans ?_
  show _ = some (⟨.tup [], [[.str (N.rFail q a.2).s, .int .i64 (N.rFail q a.2).at', .int .i64 (N.rFail q a.2).code]], []⟩ : DRes)
  unfold N.rFail
  cases q.code == 0 <;> rfl
theorem goodR_of {q : RIn} (h : N.goodR q = true) : 0 ≤ q.at' ∧ q.at' ≤ q.s.length ∧ q.s.length ≤ 1000000 := by
  obtain ⟨h1, h⟩ := bcond h
  obtain ⟨h2, h3⟩ := bcond h
  exact ⟨ile_of h1, ile_of h2, ble_of h3⟩
noncomputable def eRLeft : Env := env Tryd.prog [(69, dRFail)] [] []
theorem q_rLeft (q : RIn) : evFn eRLeft 38 ((aOne (vPtr 0)).enc ()) ((bOne cRIn).enc q) some =
    cond (RIn.code q != (0 : Int))
      (some
      { v := V.int IntKind.i64 (0 : Int),
        bx := [[V.str (RIn.s q), V.int IntKind.i64 (RIn.at' q), V.int IntKind.i64 (RIn.code q)]] : DRes })
      (some
      { v := V.int IntKind.i64 (IntKind.wrap IntKind.i64 ((↑(List.length (RIn.s q)) : Int) - RIn.at' q)),
        bx := [[V.str (RIn.s q), V.int IntKind.i64 (RIn.at' q), V.int IntKind.i64 (RIn.code q)]] : DRes }) := by kernel_rfl
theorem ok_rLeft : FnOk Tryd.prog 38 dRLeft := by
  refine den_okF (env_ok ((TOk.nil _).cons ok_rFail)) (E := eRLeft) Tryd.func38 [] (by kernel_rfl) none0 fun _ q h => ?_
  obtain ⟨h1, h2, h3⟩ := goodR_of h
  refine (q_rLeft q).trans ?_
  show _ = some (⟨.int .i64 (N.rLeft q), [[.str q.s, .int .i64 q.at', .int .i64 q.code]], []⟩ : DRes)
  unfold N.rLeft
  simp (disch := omega) only [evs, bne]
  cases q.code == 0 <;> rfl
theorem q_rRaw (q : RIn) (n : Int) : evFn eRLeft 89 ((aCons (vPtr 0) (aOne (vInt .i64))).enc ((), n)) ((bOne cRIn).enc q) some =
    cond (RIn.code q != (0 : Int))
      (some { v := V.str [], bx := [[V.str (RIn.s q), V.int IntKind.i64 (RIn.at' q), V.int IntKind.i64 (RIn.code q)]] : DRes })
      (cond (ile n (0 : Int))
        (some { v := V.str [], bx := [[V.str (RIn.s q), V.int IntKind.i64 (RIn.at' q), V.int IntKind.i64 (RIn.code q)]] : DRes })
        (cond (ilt (IntKind.wrap IntKind.i64 ((↑(List.length (RIn.s q)) : Int) - RIn.at' q)) n)
          (some
      { v := V.str [],
        bx :=
          [[V.str (RIn.s (N.rFail q (3 : Int))), V.int IntKind.i64 (RIn.at' (N.rFail q (3 : Int))),
              V.int IntKind.i64 (RIn.code (N.rFail q (3 : Int)))]] :
        DRes })
          (cond (decide
      ((0 : Int) ≤ IntKind.wrap IntKind.i64 (RIn.at' q + n) ∧
        IntKind.wrap IntKind.i64 (RIn.at' q + n) ≤ (↑(List.length (RIn.s q)) : Int)))
            (cond (decide
      ((0 : Int) ≤ IntKind.wrap IntKind.i64 (IntKind.wrap IntKind.i64 (RIn.at' q + n) - n) ∧
        IntKind.wrap IntKind.i64 (IntKind.wrap IntKind.i64 (RIn.at' q + n) - n) ≤
          (↑(Int.toNat (IntKind.wrap IntKind.i64 (RIn.at' q + n))) : Int)))
              (some
      {
        v :=
          V.str
            (List.drop (Int.toNat (IntKind.wrap IntKind.i64 (IntKind.wrap IntKind.i64 (RIn.at' q + n) - n)))
              (List.take (Int.toNat (IntKind.wrap IntKind.i64 (RIn.at' q + n))) (RIn.s q))),
        bx :=
          [[V.str (RIn.s q), V.int IntKind.i64 (IntKind.wrap IntKind.i64 (RIn.at' q + n)),
              V.int IntKind.i64 (RIn.code q)]] :
        DRes })
              (none))
            (none)))) := by kernel_rfl
theorem ok_rRaw : FnOk Tryd.prog 89 dRRaw := by
  refine den_okF (env_ok ((TOk.nil _).cons ok_rFail)) (E := eRLeft) Tryd.func89 [] (by kernel_rfl) none0 fun a q h => ?_
  obtain ⟨h1, h2, h3⟩ := goodR_of h
  refine (q_rRaw q a.2).trans ?_
  show _ = some (⟨.str (N.rRaw q a.2).1, [[.str (N.rRaw q a.2).2.s, .int .i64 (N.rRaw q a.2).2.at', .int .i64 (N.rRaw q a.2).2.code]], []⟩ : DRes)
  unfold N.rRaw
  simp (disch := omega) only [evs, bne]
  cases e1 : q.code == 0 with
  | false => rfl
  | true =>
    by_cases e2 : a.2 ≤ 0
    · simp (disch := omega) only [evs]
      rfl
    · by_cases e3 : q.s.length - q.at' < a.2
      · simp (disch := omega) only [evs]
        rfl
      · simp (disch := omega) only [evs]
        rw [show q.at' + a.2 - a.2 = q.at' by omega, show (q.at' + a.2).toNat = q.at'.toNat + a.2.toNat by omega, drop_takeN]
        rfl
end Go.Ev
