/- The document's function that reads heads answers what the plain one does: lemmas. -/
import Derived.Test.YtajdamefabfoaaaDoorBQ
namespace Go.Ev
open Go Go.Proofs
set_option maxRecDepth 100000

def schRHead : SSch := { fr := [(0, .ptr 0 0 0), (3, .int .i64), (4, .own 10000), (5, .int .i64)], tab := [(0, .var [.str, .int .i64, .int .i64]), (10000, .sl [.str, .int .u8, .int .i64, .str])] }
def gRHead : List Leaf → (Ex → St → Option R) → Option R
  | [.i n, .i j, .s s, .i a, .i c, .r rows], K => cond (ile 0 j) (cond (ile n 300) (cond (Nat.ble (rows.length + (n - j).toNat) LIM) (cond (N.goodR ⟨s, a, c⟩)
      (K (.exit 0) { fr := [(0, .ptr 0 0 0 0), (4, .own 10000 0)], tab := [(0, .var [.str (N.rhl (n - j).toNat ⟨s, a, c⟩ rows).2.s, .int .i64 (N.rhl (n - j).toNat ⟨s, a, c⟩ rows).2.at', .int .i64 (N.rhl (n - j).toNat ⟨s, a, c⟩ rows).2.code]), (10000, .sl [.str, .int .u8, .int .i64, .str] (N.rhl (n - j).toNat ⟨s, a, c⟩ rows).1 0)] }) none) none) none) none
  | _, _ => none
noncomputable def eRHead : Env := env Tryd.prog [(68, dRNum), (69, dRFail), (70, dRText), (71, dPairE)] [(6, loopF schRHead gRHead)] [(6, [(0, [0, 3, 4, 5]), (1, [0, 4]), (1000, [2])])]
theorem q_rHead (q : RIn) : evFn eRHead 35 (((aOne (vPtr 0)).enc ())) (((bOne cRIn).enc q)) some =
    cond (N.goodR q)
      (cond (ilt (8 : Int) (IntKind.wrap IntKind.i64 (Prod.fst (N.rNum q (1 : Int)))))
        (cond (ile (IntKind.wrap IntKind.i64 (Prod.fst (N.rNum q (1 : Int)))) (300 : Int))
          (cond (Nat.ble ((0 : Nat) + Int.toNat (IntKind.wrap IntKind.i64 (Prod.fst (N.rNum q (1 : Int))) - (0 : Int))) (1000000 : Nat))
            (cond (N.goodR (N.rFail (Prod.snd (N.rNum q (1 : Int))) (6 : Int)))
              (cond (RIn.code
        (Prod.snd
          (N.rhl (Int.toNat (IntKind.wrap IntKind.i64 (Prod.fst (N.rNum q (1 : Int))) - (0 : Int)))
            (N.rFail (Prod.snd (N.rNum q (1 : Int))) (6 : Int)) [])) !=
      (0 : Int))
                (some
      { v := V.slc [Sh.str, Sh.int IntKind.u8, Sh.int IntKind.i64, Sh.str] [],
        bx :=
          [[V.str
                (RIn.s
                  (Prod.snd
                    (N.rhl (Int.toNat (IntKind.wrap IntKind.i64 (Prod.fst (N.rNum q (1 : Int))) - (0 : Int)))
                      (N.rFail (Prod.snd (N.rNum q (1 : Int))) (6 : Int)) []))),
              V.int IntKind.i64
                (RIn.at'
                  (Prod.snd
                    (N.rhl (Int.toNat (IntKind.wrap IntKind.i64 (Prod.fst (N.rNum q (1 : Int))) - (0 : Int)))
                      (N.rFail (Prod.snd (N.rNum q (1 : Int))) (6 : Int)) []))),
              V.int IntKind.i64
                (RIn.code
                  (Prod.snd
                    (N.rhl (Int.toNat (IntKind.wrap IntKind.i64 (Prod.fst (N.rNum q (1 : Int))) - (0 : Int)))
                      (N.rFail (Prod.snd (N.rNum q (1 : Int))) (6 : Int)) [])))]] :
        DRes })
                (some
      {
        v :=
          V.slc [Sh.str, Sh.int IntKind.u8, Sh.int IntKind.i64, Sh.str]
            (Prod.fst
              (N.rhl (Int.toNat (IntKind.wrap IntKind.i64 (Prod.fst (N.rNum q (1 : Int))) - (0 : Int)))
                (N.rFail (Prod.snd (N.rNum q (1 : Int))) (6 : Int)) [])),
        bx :=
          [[V.str
                (RIn.s
                  (Prod.snd
                    (N.rhl (Int.toNat (IntKind.wrap IntKind.i64 (Prod.fst (N.rNum q (1 : Int))) - (0 : Int)))
                      (N.rFail (Prod.snd (N.rNum q (1 : Int))) (6 : Int)) []))),
              V.int IntKind.i64
                (RIn.at'
                  (Prod.snd
                    (N.rhl (Int.toNat (IntKind.wrap IntKind.i64 (Prod.fst (N.rNum q (1 : Int))) - (0 : Int)))
                      (N.rFail (Prod.snd (N.rNum q (1 : Int))) (6 : Int)) []))),
              V.int IntKind.i64
                (RIn.code
                  (Prod.snd
                    (N.rhl (Int.toNat (IntKind.wrap IntKind.i64 (Prod.fst (N.rNum q (1 : Int))) - (0 : Int)))
                      (N.rFail (Prod.snd (N.rNum q (1 : Int))) (6 : Int)) [])))]] :
        DRes }))
              (none))
            (none))
          (none))
        (cond (ile (IntKind.wrap IntKind.i64 (Prod.fst (N.rNum q (1 : Int)))) (300 : Int))
          (cond (Nat.ble ((0 : Nat) + Int.toNat (IntKind.wrap IntKind.i64 (Prod.fst (N.rNum q (1 : Int))) - (0 : Int))) (1000000 : Nat))
            (cond (N.goodR (Prod.snd (N.rNum q (1 : Int))))
              (cond (RIn.code
        (Prod.snd
          (N.rhl (Int.toNat (IntKind.wrap IntKind.i64 (Prod.fst (N.rNum q (1 : Int))) - (0 : Int)))
            (Prod.snd (N.rNum q (1 : Int))) [])) !=
      (0 : Int))
                (some
      { v := V.slc [Sh.str, Sh.int IntKind.u8, Sh.int IntKind.i64, Sh.str] [],
        bx :=
          [[V.str
                (RIn.s
                  (Prod.snd
                    (N.rhl (Int.toNat (IntKind.wrap IntKind.i64 (Prod.fst (N.rNum q (1 : Int))) - (0 : Int)))
                      (Prod.snd (N.rNum q (1 : Int))) []))),
              V.int IntKind.i64
                (RIn.at'
                  (Prod.snd
                    (N.rhl (Int.toNat (IntKind.wrap IntKind.i64 (Prod.fst (N.rNum q (1 : Int))) - (0 : Int)))
                      (Prod.snd (N.rNum q (1 : Int))) []))),
              V.int IntKind.i64
                (RIn.code
                  (Prod.snd
                    (N.rhl (Int.toNat (IntKind.wrap IntKind.i64 (Prod.fst (N.rNum q (1 : Int))) - (0 : Int)))
                      (Prod.snd (N.rNum q (1 : Int))) [])))]] :
        DRes })
                (some
      {
        v :=
          V.slc [Sh.str, Sh.int IntKind.u8, Sh.int IntKind.i64, Sh.str]
            (Prod.fst
              (N.rhl (Int.toNat (IntKind.wrap IntKind.i64 (Prod.fst (N.rNum q (1 : Int))) - (0 : Int)))
                (Prod.snd (N.rNum q (1 : Int))) [])),
        bx :=
          [[V.str
                (RIn.s
                  (Prod.snd
                    (N.rhl (Int.toNat (IntKind.wrap IntKind.i64 (Prod.fst (N.rNum q (1 : Int))) - (0 : Int)))
                      (Prod.snd (N.rNum q (1 : Int))) []))),
              V.int IntKind.i64
                (RIn.at'
                  (Prod.snd
                    (N.rhl (Int.toNat (IntKind.wrap IntKind.i64 (Prod.fst (N.rNum q (1 : Int))) - (0 : Int)))
                      (Prod.snd (N.rNum q (1 : Int))) []))),
              V.int IntKind.i64
                (RIn.code
                  (Prod.snd
                    (N.rhl (Int.toNat (IntKind.wrap IntKind.i64 (Prod.fst (N.rNum q (1 : Int))) - (0 : Int)))
                      (Prod.snd (N.rNum q (1 : Int))) [])))]] :
        DRes }))
              (none))
            (none))
          (none)))
      (none) := by kernel_rfl
theorem q_rHeadR (i3 : Int) (i5 : Int) (sx0 : Bytes) (ix0 : Int) (ix0_1 : Int) (rx0 : List (List V)) (K : Ex → St → Option R) : evRound eRHead 35 6 { fr := [(0, .ptr 0 0 0 0), (3, .int .i64 i3), (4, .own 10000 0), (5, .int .i64 i5)], tab := [(0, .var [.str sx0, .int .i64 ix0, .int .i64 ix0_1]), (10000, .sl [.str, .int .u8, .int .i64, .str] rx0 0)] } K =
    cond (ilt i5 i3)
      (cond (ix0_1 == (0 : Int))
        (cond (N.goodR { s := sx0, at' := ix0, code := ix0_1 : RIn })
          (cond (N.goodR (Prod.snd (N.rText { s := sx0, at' := ix0, code := ix0_1 : RIn } (16 : Int))))
            (cond (IntKind.wrap IntKind.u8
        (Prod.fst (N.rNum (Prod.snd (N.rText { s := sx0, at' := ix0, code := ix0_1 : RIn } (16 : Int))) (1 : Int))) ==
      (0 : Int))
              (cond (N.goodR (Prod.snd (N.rNum (Prod.snd (N.rText { s := sx0, at' := ix0, code := ix0_1 : RIn } (16 : Int))) (1 : Int))))
                (cond (RIn.code
        (Prod.snd
          (N.rNum
            (Prod.snd (N.rNum (Prod.snd (N.rText { s := sx0, at' := ix0, code := ix0_1 : RIn } (16 : Int))) (1 : Int)))
            (8 : Int))) ==
      (0 : Int))
                  (cond (Nat.ble
      (List.length
        (List.map
          (fun r =>
            { key := V.toStr (List.getD r (0 : Nat) V.undef), kind := V.toInt (List.getD r (1 : Nat) V.undef),
              num := V.toInt (List.getD r (2 : Nat) V.undef), text := V.toStr (List.getD r (3 : Nat) V.undef) : HPair })
          rx0))
      (1000000 : Nat))
                    (cond (decide ((List.length rx0 + (1 : Nat)) * (48 : Nat) ≤ (140737488355328 : Nat)))
                      (K Ex.normal
      {
        fr :=
          [((0 : Nat), V.ptr (0 : Nat) (0 : Nat) (0 : Nat) (0 : Nat)), ((3 : Nat), V.int IntKind.i64 i3),
            ((4 : Nat), V.own (10000 : Nat) (0 : Nat)),
            ((5 : Nat), V.int IntKind.i64 (IntKind.wrap IntKind.i64 (i5 + (1 : Int))))],
        tab :=
          [((0 : Nat),
              Box.var
                [V.str
                    (RIn.s
                      (N.rFail
                        (Prod.snd
                          (N.rNum
                            (Prod.snd
                              (N.rNum (Prod.snd (N.rText { s := sx0, at' := ix0, code := ix0_1 : RIn } (16 : Int)))
                                (1 : Int)))
                            (8 : Int)))
                        (N.pairE
                          { key := Prod.fst (N.rText { s := sx0, at' := ix0, code := ix0_1 : RIn } (16 : Int)),
                            kind :=
                              IntKind.wrap IntKind.u8
                                (Prod.fst
                                  (N.rNum (Prod.snd (N.rText { s := sx0, at' := ix0, code := ix0_1 : RIn } (16 : Int)))
                                    (1 : Int))),
                            num :=
                              IntKind.wrap IntKind.i64
                                (Prod.fst
                                  (N.rNum
                                    (Prod.snd
                                      (N.rNum (Prod.snd (N.rText { s := sx0, at' := ix0, code := ix0_1 : RIn } (16 : Int)))
                                        (1 : Int)))
                                    (8 : Int))),
                            text := [] : HPair }
                          (List.map
                            (fun r =>
                              { key := V.toStr (List.getD r (0 : Nat) V.undef),
                                kind := V.toInt (List.getD r (1 : Nat) V.undef),
                                num := V.toInt (List.getD r (2 : Nat) V.undef),
                                text := V.toStr (List.getD r (3 : Nat) V.undef) : HPair })
                            rx0)))),
                  V.int IntKind.i64
                    (RIn.at'
                      (N.rFail
                        (Prod.snd
                          (N.rNum
                            (Prod.snd
                              (N.rNum (Prod.snd (N.rText { s := sx0, at' := ix0, code := ix0_1 : RIn } (16 : Int)))
                                (1 : Int)))
                            (8 : Int)))
                        (N.pairE
                          { key := Prod.fst (N.rText { s := sx0, at' := ix0, code := ix0_1 : RIn } (16 : Int)),
                            kind :=
                              IntKind.wrap IntKind.u8
                                (Prod.fst
                                  (N.rNum (Prod.snd (N.rText { s := sx0, at' := ix0, code := ix0_1 : RIn } (16 : Int)))
                                    (1 : Int))),
                            num :=
                              IntKind.wrap IntKind.i64
                                (Prod.fst
                                  (N.rNum
                                    (Prod.snd
                                      (N.rNum (Prod.snd (N.rText { s := sx0, at' := ix0, code := ix0_1 : RIn } (16 : Int)))
                                        (1 : Int)))
                                    (8 : Int))),
                            text := [] : HPair }
                          (List.map
                            (fun r =>
                              { key := V.toStr (List.getD r (0 : Nat) V.undef),
                                kind := V.toInt (List.getD r (1 : Nat) V.undef),
                                num := V.toInt (List.getD r (2 : Nat) V.undef),
                                text := V.toStr (List.getD r (3 : Nat) V.undef) : HPair })
                            rx0)))),
                  V.int IntKind.i64
                    (RIn.code
                      (N.rFail
                        (Prod.snd
                          (N.rNum
                            (Prod.snd
                              (N.rNum (Prod.snd (N.rText { s := sx0, at' := ix0, code := ix0_1 : RIn } (16 : Int)))
                                (1 : Int)))
                            (8 : Int)))
                        (N.pairE
                          { key := Prod.fst (N.rText { s := sx0, at' := ix0, code := ix0_1 : RIn } (16 : Int)),
                            kind :=
                              IntKind.wrap IntKind.u8
                                (Prod.fst
                                  (N.rNum (Prod.snd (N.rText { s := sx0, at' := ix0, code := ix0_1 : RIn } (16 : Int)))
                                    (1 : Int))),
                            num :=
                              IntKind.wrap IntKind.i64
                                (Prod.fst
                                  (N.rNum
                                    (Prod.snd
                                      (N.rNum (Prod.snd (N.rText { s := sx0, at' := ix0, code := ix0_1 : RIn } (16 : Int)))
                                        (1 : Int)))
                                    (8 : Int))),
                            text := [] : HPair }
                          (List.map
                            (fun r =>
                              { key := V.toStr (List.getD r (0 : Nat) V.undef),
                                kind := V.toInt (List.getD r (1 : Nat) V.undef),
                                num := V.toInt (List.getD r (2 : Nat) V.undef),
                                text := V.toStr (List.getD r (3 : Nat) V.undef) : HPair })
                            rx0))))]),
            ((10000 : Nat),
              Box.sl [Sh.str, Sh.int IntKind.u8, Sh.int IntKind.i64, Sh.str]
                (rx0 ++
                  [[V.str (Prod.fst (N.rText { s := sx0, at' := ix0, code := ix0_1 : RIn } (16 : Int))),
                      V.int IntKind.u8
                        (IntKind.wrap IntKind.u8
                          (Prod.fst
                            (N.rNum (Prod.snd (N.rText { s := sx0, at' := ix0, code := ix0_1 : RIn } (16 : Int)))
                              (1 : Int)))),
                      V.int IntKind.i64
                        (IntKind.wrap IntKind.i64
                          (Prod.fst
                            (N.rNum
                              (Prod.snd
                                (N.rNum (Prod.snd (N.rText { s := sx0, at' := ix0, code := ix0_1 : RIn } (16 : Int)))
                                  (1 : Int)))
                              (8 : Int)))),
                      V.str []]])
                (0 : Nat))] :
        St })
                      (none))
                    (none))
                  (cond (decide ((List.length rx0 + (1 : Nat)) * (48 : Nat) ≤ (140737488355328 : Nat)))
                    (K Ex.normal
      {
        fr :=
          [((0 : Nat), V.ptr (0 : Nat) (0 : Nat) (0 : Nat) (0 : Nat)), ((3 : Nat), V.int IntKind.i64 i3),
            ((4 : Nat), V.own (10000 : Nat) (0 : Nat)),
            ((5 : Nat), V.int IntKind.i64 (IntKind.wrap IntKind.i64 (i5 + (1 : Int))))],
        tab :=
          [((0 : Nat),
              Box.var
                [V.str
                    (RIn.s
                      (Prod.snd
                        (N.rNum
                          (Prod.snd
                            (N.rNum (Prod.snd (N.rText { s := sx0, at' := ix0, code := ix0_1 : RIn } (16 : Int)))
                              (1 : Int)))
                          (8 : Int)))),
                  V.int IntKind.i64
                    (RIn.at'
                      (Prod.snd
                        (N.rNum
                          (Prod.snd
                            (N.rNum (Prod.snd (N.rText { s := sx0, at' := ix0, code := ix0_1 : RIn } (16 : Int)))
                              (1 : Int)))
                          (8 : Int)))),
                  V.int IntKind.i64
                    (RIn.code
                      (Prod.snd
                        (N.rNum
                          (Prod.snd
                            (N.rNum (Prod.snd (N.rText { s := sx0, at' := ix0, code := ix0_1 : RIn } (16 : Int)))
                              (1 : Int)))
                          (8 : Int))))]),
            ((10000 : Nat),
              Box.sl [Sh.str, Sh.int IntKind.u8, Sh.int IntKind.i64, Sh.str]
                (rx0 ++
                  [[V.str (Prod.fst (N.rText { s := sx0, at' := ix0, code := ix0_1 : RIn } (16 : Int))),
                      V.int IntKind.u8
                        (IntKind.wrap IntKind.u8
                          (Prod.fst
                            (N.rNum (Prod.snd (N.rText { s := sx0, at' := ix0, code := ix0_1 : RIn } (16 : Int)))
                              (1 : Int)))),
                      V.int IntKind.i64
                        (IntKind.wrap IntKind.i64
                          (Prod.fst
                            (N.rNum
                              (Prod.snd
                                (N.rNum (Prod.snd (N.rText { s := sx0, at' := ix0, code := ix0_1 : RIn } (16 : Int)))
                                  (1 : Int)))
                              (8 : Int)))),
                      V.str []]])
                (0 : Nat))] :
        St })
                    (none)))
                (none))
              (cond (IntKind.wrap IntKind.u8
        (Prod.fst (N.rNum (Prod.snd (N.rText { s := sx0, at' := ix0, code := ix0_1 : RIn } (16 : Int))) (1 : Int))) ==
      (1 : Int))
                (cond (N.goodR (Prod.snd (N.rNum (Prod.snd (N.rText { s := sx0, at' := ix0, code := ix0_1 : RIn } (16 : Int))) (1 : Int))))
                  (cond (RIn.code
        (Prod.snd
          (N.rText
            (Prod.snd (N.rNum (Prod.snd (N.rText { s := sx0, at' := ix0, code := ix0_1 : RIn } (16 : Int))) (1 : Int)))
            (64 : Int))) ==
      (0 : Int))
                    (cond (Nat.ble
      (List.length
        (List.map
          (fun r =>
            { key := V.toStr (List.getD r (0 : Nat) V.undef), kind := V.toInt (List.getD r (1 : Nat) V.undef),
              num := V.toInt (List.getD r (2 : Nat) V.undef), text := V.toStr (List.getD r (3 : Nat) V.undef) : HPair })
          rx0))
      (1000000 : Nat))
                      (cond (decide ((List.length rx0 + (1 : Nat)) * (48 : Nat) ≤ (140737488355328 : Nat)))
                        (K Ex.normal
      {
        fr :=
          [((0 : Nat), V.ptr (0 : Nat) (0 : Nat) (0 : Nat) (0 : Nat)), ((3 : Nat), V.int IntKind.i64 i3),
            ((4 : Nat), V.own (10000 : Nat) (0 : Nat)),
            ((5 : Nat), V.int IntKind.i64 (IntKind.wrap IntKind.i64 (i5 + (1 : Int))))],
        tab :=
          [((0 : Nat),
              Box.var
                [V.str
                    (RIn.s
                      (N.rFail
                        (Prod.snd
                          (N.rText
                            (Prod.snd
                              (N.rNum (Prod.snd (N.rText { s := sx0, at' := ix0, code := ix0_1 : RIn } (16 : Int)))
                                (1 : Int)))
                            (64 : Int)))
                        (N.pairE
                          { key := Prod.fst (N.rText { s := sx0, at' := ix0, code := ix0_1 : RIn } (16 : Int)),
                            kind :=
                              IntKind.wrap IntKind.u8
                                (Prod.fst
                                  (N.rNum (Prod.snd (N.rText { s := sx0, at' := ix0, code := ix0_1 : RIn } (16 : Int)))
                                    (1 : Int))),
                            num := (0 : Int),
                            text :=
                              Prod.fst
                                (N.rText
                                  (Prod.snd
                                    (N.rNum (Prod.snd (N.rText { s := sx0, at' := ix0, code := ix0_1 : RIn } (16 : Int)))
                                      (1 : Int)))
                                  (64 : Int)) :
                            HPair }
                          (List.map
                            (fun r =>
                              { key := V.toStr (List.getD r (0 : Nat) V.undef),
                                kind := V.toInt (List.getD r (1 : Nat) V.undef),
                                num := V.toInt (List.getD r (2 : Nat) V.undef),
                                text := V.toStr (List.getD r (3 : Nat) V.undef) : HPair })
                            rx0)))),
                  V.int IntKind.i64
                    (RIn.at'
                      (N.rFail
                        (Prod.snd
                          (N.rText
                            (Prod.snd
                              (N.rNum (Prod.snd (N.rText { s := sx0, at' := ix0, code := ix0_1 : RIn } (16 : Int)))
                                (1 : Int)))
                            (64 : Int)))
                        (N.pairE
                          { key := Prod.fst (N.rText { s := sx0, at' := ix0, code := ix0_1 : RIn } (16 : Int)),
                            kind :=
                              IntKind.wrap IntKind.u8
                                (Prod.fst
                                  (N.rNum (Prod.snd (N.rText { s := sx0, at' := ix0, code := ix0_1 : RIn } (16 : Int)))
                                    (1 : Int))),
                            num := (0 : Int),
                            text :=
                              Prod.fst
                                (N.rText
                                  (Prod.snd
                                    (N.rNum (Prod.snd (N.rText { s := sx0, at' := ix0, code := ix0_1 : RIn } (16 : Int)))
                                      (1 : Int)))
                                  (64 : Int)) :
                            HPair }
                          (List.map
                            (fun r =>
                              { key := V.toStr (List.getD r (0 : Nat) V.undef),
                                kind := V.toInt (List.getD r (1 : Nat) V.undef),
                                num := V.toInt (List.getD r (2 : Nat) V.undef),
                                text := V.toStr (List.getD r (3 : Nat) V.undef) : HPair })
                            rx0)))),
                  V.int IntKind.i64
                    (RIn.code
                      (N.rFail
                        (Prod.snd
                          (N.rText
                            (Prod.snd
                              (N.rNum (Prod.snd (N.rText { s := sx0, at' := ix0, code := ix0_1 : RIn } (16 : Int)))
                                (1 : Int)))
                            (64 : Int)))
                        (N.pairE
                          { key := Prod.fst (N.rText { s := sx0, at' := ix0, code := ix0_1 : RIn } (16 : Int)),
                            kind :=
                              IntKind.wrap IntKind.u8
                                (Prod.fst
                                  (N.rNum (Prod.snd (N.rText { s := sx0, at' := ix0, code := ix0_1 : RIn } (16 : Int)))
                                    (1 : Int))),
                            num := (0 : Int),
                            text :=
                              Prod.fst
                                (N.rText
                                  (Prod.snd
                                    (N.rNum (Prod.snd (N.rText { s := sx0, at' := ix0, code := ix0_1 : RIn } (16 : Int)))
                                      (1 : Int)))
                                  (64 : Int)) :
                            HPair }
                          (List.map
                            (fun r =>
                              { key := V.toStr (List.getD r (0 : Nat) V.undef),
                                kind := V.toInt (List.getD r (1 : Nat) V.undef),
                                num := V.toInt (List.getD r (2 : Nat) V.undef),
                                text := V.toStr (List.getD r (3 : Nat) V.undef) : HPair })
                            rx0))))]),
            ((10000 : Nat),
              Box.sl [Sh.str, Sh.int IntKind.u8, Sh.int IntKind.i64, Sh.str]
                (rx0 ++
                  [[V.str (Prod.fst (N.rText { s := sx0, at' := ix0, code := ix0_1 : RIn } (16 : Int))),
                      V.int IntKind.u8
                        (IntKind.wrap IntKind.u8
                          (Prod.fst
                            (N.rNum (Prod.snd (N.rText { s := sx0, at' := ix0, code := ix0_1 : RIn } (16 : Int)))
                              (1 : Int)))),
                      V.int IntKind.i64 (0 : Int),
                      V.str
                        (Prod.fst
                          (N.rText
                            (Prod.snd
                              (N.rNum (Prod.snd (N.rText { s := sx0, at' := ix0, code := ix0_1 : RIn } (16 : Int)))
                                (1 : Int)))
                            (64 : Int)))]])
                (0 : Nat))] :
        St })
                        (none))
                      (none))
                    (cond (decide ((List.length rx0 + (1 : Nat)) * (48 : Nat) ≤ (140737488355328 : Nat)))
                      (K Ex.normal
      {
        fr :=
          [((0 : Nat), V.ptr (0 : Nat) (0 : Nat) (0 : Nat) (0 : Nat)), ((3 : Nat), V.int IntKind.i64 i3),
            ((4 : Nat), V.own (10000 : Nat) (0 : Nat)),
            ((5 : Nat), V.int IntKind.i64 (IntKind.wrap IntKind.i64 (i5 + (1 : Int))))],
        tab :=
          [((0 : Nat),
              Box.var
                [V.str
                    (RIn.s
                      (Prod.snd
                        (N.rText
                          (Prod.snd
                            (N.rNum (Prod.snd (N.rText { s := sx0, at' := ix0, code := ix0_1 : RIn } (16 : Int)))
                              (1 : Int)))
                          (64 : Int)))),
                  V.int IntKind.i64
                    (RIn.at'
                      (Prod.snd
                        (N.rText
                          (Prod.snd
                            (N.rNum (Prod.snd (N.rText { s := sx0, at' := ix0, code := ix0_1 : RIn } (16 : Int)))
                              (1 : Int)))
                          (64 : Int)))),
                  V.int IntKind.i64
                    (RIn.code
                      (Prod.snd
                        (N.rText
                          (Prod.snd
                            (N.rNum (Prod.snd (N.rText { s := sx0, at' := ix0, code := ix0_1 : RIn } (16 : Int)))
                              (1 : Int)))
                          (64 : Int))))]),
            ((10000 : Nat),
              Box.sl [Sh.str, Sh.int IntKind.u8, Sh.int IntKind.i64, Sh.str]
                (rx0 ++
                  [[V.str (Prod.fst (N.rText { s := sx0, at' := ix0, code := ix0_1 : RIn } (16 : Int))),
                      V.int IntKind.u8
                        (IntKind.wrap IntKind.u8
                          (Prod.fst
                            (N.rNum (Prod.snd (N.rText { s := sx0, at' := ix0, code := ix0_1 : RIn } (16 : Int)))
                              (1 : Int)))),
                      V.int IntKind.i64 (0 : Int),
                      V.str
                        (Prod.fst
                          (N.rText
                            (Prod.snd
                              (N.rNum (Prod.snd (N.rText { s := sx0, at' := ix0, code := ix0_1 : RIn } (16 : Int)))
                                (1 : Int)))
                            (64 : Int)))]])
                (0 : Nat))] :
        St })
                      (none)))
                  (none))
                (cond (IntKind.wrap IntKind.u8
        (Prod.fst (N.rNum (Prod.snd (N.rText { s := sx0, at' := ix0, code := ix0_1 : RIn } (16 : Int))) (1 : Int))) ==
      (2 : Int))
                  (cond (N.goodR (Prod.snd (N.rNum (Prod.snd (N.rText { s := sx0, at' := ix0, code := ix0_1 : RIn } (16 : Int))) (1 : Int))))
                    (cond (RIn.code
        (Prod.snd
          (N.rNum
            (Prod.snd (N.rNum (Prod.snd (N.rText { s := sx0, at' := ix0, code := ix0_1 : RIn } (16 : Int))) (1 : Int)))
            (1 : Int))) ==
      (0 : Int))
                      (cond (Nat.ble
      (List.length
        (List.map
          (fun r =>
            { key := V.toStr (List.getD r (0 : Nat) V.undef), kind := V.toInt (List.getD r (1 : Nat) V.undef),
              num := V.toInt (List.getD r (2 : Nat) V.undef), text := V.toStr (List.getD r (3 : Nat) V.undef) : HPair })
          rx0))
      (1000000 : Nat))
                        (cond (decide ((List.length rx0 + (1 : Nat)) * (48 : Nat) ≤ (140737488355328 : Nat)))
                          (K Ex.normal
      {
        fr :=
          [((0 : Nat), V.ptr (0 : Nat) (0 : Nat) (0 : Nat) (0 : Nat)), ((3 : Nat), V.int IntKind.i64 i3),
            ((4 : Nat), V.own (10000 : Nat) (0 : Nat)),
            ((5 : Nat), V.int IntKind.i64 (IntKind.wrap IntKind.i64 (i5 + (1 : Int))))],
        tab :=
          [((0 : Nat),
              Box.var
                [V.str
                    (RIn.s
                      (N.rFail
                        (Prod.snd
                          (N.rNum
                            (Prod.snd
                              (N.rNum (Prod.snd (N.rText { s := sx0, at' := ix0, code := ix0_1 : RIn } (16 : Int)))
                                (1 : Int)))
                            (1 : Int)))
                        (N.pairE
                          { key := Prod.fst (N.rText { s := sx0, at' := ix0, code := ix0_1 : RIn } (16 : Int)),
                            kind :=
                              IntKind.wrap IntKind.u8
                                (Prod.fst
                                  (N.rNum (Prod.snd (N.rText { s := sx0, at' := ix0, code := ix0_1 : RIn } (16 : Int)))
                                    (1 : Int))),
                            num :=
                              IntKind.wrap IntKind.i64
                                (Prod.fst
                                  (N.rNum
                                    (Prod.snd
                                      (N.rNum (Prod.snd (N.rText { s := sx0, at' := ix0, code := ix0_1 : RIn } (16 : Int)))
                                        (1 : Int)))
                                    (1 : Int))),
                            text := [] : HPair }
                          (List.map
                            (fun r =>
                              { key := V.toStr (List.getD r (0 : Nat) V.undef),
                                kind := V.toInt (List.getD r (1 : Nat) V.undef),
                                num := V.toInt (List.getD r (2 : Nat) V.undef),
                                text := V.toStr (List.getD r (3 : Nat) V.undef) : HPair })
                            rx0)))),
                  V.int IntKind.i64
                    (RIn.at'
                      (N.rFail
                        (Prod.snd
                          (N.rNum
                            (Prod.snd
                              (N.rNum (Prod.snd (N.rText { s := sx0, at' := ix0, code := ix0_1 : RIn } (16 : Int)))
                                (1 : Int)))
                            (1 : Int)))
                        (N.pairE
                          { key := Prod.fst (N.rText { s := sx0, at' := ix0, code := ix0_1 : RIn } (16 : Int)),
                            kind :=
                              IntKind.wrap IntKind.u8
                                (Prod.fst
                                  (N.rNum (Prod.snd (N.rText { s := sx0, at' := ix0, code := ix0_1 : RIn } (16 : Int)))
                                    (1 : Int))),
                            num :=
                              IntKind.wrap IntKind.i64
                                (Prod.fst
                                  (N.rNum
                                    (Prod.snd
                                      (N.rNum (Prod.snd (N.rText { s := sx0, at' := ix0, code := ix0_1 : RIn } (16 : Int)))
                                        (1 : Int)))
                                    (1 : Int))),
                            text := [] : HPair }
                          (List.map
                            (fun r =>
                              { key := V.toStr (List.getD r (0 : Nat) V.undef),
                                kind := V.toInt (List.getD r (1 : Nat) V.undef),
                                num := V.toInt (List.getD r (2 : Nat) V.undef),
                                text := V.toStr (List.getD r (3 : Nat) V.undef) : HPair })
                            rx0)))),
                  V.int IntKind.i64
                    (RIn.code
                      (N.rFail
                        (Prod.snd
                          (N.rNum
                            (Prod.snd
                              (N.rNum (Prod.snd (N.rText { s := sx0, at' := ix0, code := ix0_1 : RIn } (16 : Int)))
                                (1 : Int)))
                            (1 : Int)))
                        (N.pairE
                          { key := Prod.fst (N.rText { s := sx0, at' := ix0, code := ix0_1 : RIn } (16 : Int)),
                            kind :=
                              IntKind.wrap IntKind.u8
                                (Prod.fst
                                  (N.rNum (Prod.snd (N.rText { s := sx0, at' := ix0, code := ix0_1 : RIn } (16 : Int)))
                                    (1 : Int))),
                            num :=
                              IntKind.wrap IntKind.i64
                                (Prod.fst
                                  (N.rNum
                                    (Prod.snd
                                      (N.rNum (Prod.snd (N.rText { s := sx0, at' := ix0, code := ix0_1 : RIn } (16 : Int)))
                                        (1 : Int)))
                                    (1 : Int))),
                            text := [] : HPair }
                          (List.map
                            (fun r =>
                              { key := V.toStr (List.getD r (0 : Nat) V.undef),
                                kind := V.toInt (List.getD r (1 : Nat) V.undef),
                                num := V.toInt (List.getD r (2 : Nat) V.undef),
                                text := V.toStr (List.getD r (3 : Nat) V.undef) : HPair })
                            rx0))))]),
            ((10000 : Nat),
              Box.sl [Sh.str, Sh.int IntKind.u8, Sh.int IntKind.i64, Sh.str]
                (rx0 ++
                  [[V.str (Prod.fst (N.rText { s := sx0, at' := ix0, code := ix0_1 : RIn } (16 : Int))),
                      V.int IntKind.u8
                        (IntKind.wrap IntKind.u8
                          (Prod.fst
                            (N.rNum (Prod.snd (N.rText { s := sx0, at' := ix0, code := ix0_1 : RIn } (16 : Int)))
                              (1 : Int)))),
                      V.int IntKind.i64
                        (IntKind.wrap IntKind.i64
                          (Prod.fst
                            (N.rNum
                              (Prod.snd
                                (N.rNum (Prod.snd (N.rText { s := sx0, at' := ix0, code := ix0_1 : RIn } (16 : Int)))
                                  (1 : Int)))
                              (1 : Int)))),
                      V.str []]])
                (0 : Nat))] :
        St })
                          (none))
                        (none))
                      (cond (decide ((List.length rx0 + (1 : Nat)) * (48 : Nat) ≤ (140737488355328 : Nat)))
                        (K Ex.normal
      {
        fr :=
          [((0 : Nat), V.ptr (0 : Nat) (0 : Nat) (0 : Nat) (0 : Nat)), ((3 : Nat), V.int IntKind.i64 i3),
            ((4 : Nat), V.own (10000 : Nat) (0 : Nat)),
            ((5 : Nat), V.int IntKind.i64 (IntKind.wrap IntKind.i64 (i5 + (1 : Int))))],
        tab :=
          [((0 : Nat),
              Box.var
                [V.str
                    (RIn.s
                      (Prod.snd
                        (N.rNum
                          (Prod.snd
                            (N.rNum (Prod.snd (N.rText { s := sx0, at' := ix0, code := ix0_1 : RIn } (16 : Int)))
                              (1 : Int)))
                          (1 : Int)))),
                  V.int IntKind.i64
                    (RIn.at'
                      (Prod.snd
                        (N.rNum
                          (Prod.snd
                            (N.rNum (Prod.snd (N.rText { s := sx0, at' := ix0, code := ix0_1 : RIn } (16 : Int)))
                              (1 : Int)))
                          (1 : Int)))),
                  V.int IntKind.i64
                    (RIn.code
                      (Prod.snd
                        (N.rNum
                          (Prod.snd
                            (N.rNum (Prod.snd (N.rText { s := sx0, at' := ix0, code := ix0_1 : RIn } (16 : Int)))
                              (1 : Int)))
                          (1 : Int))))]),
            ((10000 : Nat),
              Box.sl [Sh.str, Sh.int IntKind.u8, Sh.int IntKind.i64, Sh.str]
                (rx0 ++
                  [[V.str (Prod.fst (N.rText { s := sx0, at' := ix0, code := ix0_1 : RIn } (16 : Int))),
                      V.int IntKind.u8
                        (IntKind.wrap IntKind.u8
                          (Prod.fst
                            (N.rNum (Prod.snd (N.rText { s := sx0, at' := ix0, code := ix0_1 : RIn } (16 : Int)))
                              (1 : Int)))),
                      V.int IntKind.i64
                        (IntKind.wrap IntKind.i64
                          (Prod.fst
                            (N.rNum
                              (Prod.snd
                                (N.rNum (Prod.snd (N.rText { s := sx0, at' := ix0, code := ix0_1 : RIn } (16 : Int)))
                                  (1 : Int)))
                              (1 : Int)))),
                      V.str []]])
                (0 : Nat))] :
        St })
                        (none)))
                    (none))
                  (cond (RIn.code
        (N.rFail (Prod.snd (N.rNum (Prod.snd (N.rText { s := sx0, at' := ix0, code := ix0_1 : RIn } (16 : Int))) (1 : Int)))
          (8 : Int)) ==
      (0 : Int))
                    (cond (Nat.ble
      (List.length
        (List.map
          (fun r =>
            { key := V.toStr (List.getD r (0 : Nat) V.undef), kind := V.toInt (List.getD r (1 : Nat) V.undef),
              num := V.toInt (List.getD r (2 : Nat) V.undef), text := V.toStr (List.getD r (3 : Nat) V.undef) : HPair })
          rx0))
      (1000000 : Nat))
                      (cond (decide ((List.length rx0 + (1 : Nat)) * (48 : Nat) ≤ (140737488355328 : Nat)))
                        (K Ex.normal
      {
        fr :=
          [((0 : Nat), V.ptr (0 : Nat) (0 : Nat) (0 : Nat) (0 : Nat)), ((3 : Nat), V.int IntKind.i64 i3),
            ((4 : Nat), V.own (10000 : Nat) (0 : Nat)),
            ((5 : Nat), V.int IntKind.i64 (IntKind.wrap IntKind.i64 (i5 + (1 : Int))))],
        tab :=
          [((0 : Nat),
              Box.var
                [V.str
                    (RIn.s
                      (N.rFail
                        (N.rFail
                          (Prod.snd
                            (N.rNum (Prod.snd (N.rText { s := sx0, at' := ix0, code := ix0_1 : RIn } (16 : Int)))
                              (1 : Int)))
                          (8 : Int))
                        (N.pairE
                          { key := Prod.fst (N.rText { s := sx0, at' := ix0, code := ix0_1 : RIn } (16 : Int)),
                            kind :=
                              IntKind.wrap IntKind.u8
                                (Prod.fst
                                  (N.rNum (Prod.snd (N.rText { s := sx0, at' := ix0, code := ix0_1 : RIn } (16 : Int)))
                                    (1 : Int))),
                            num := (0 : Int), text := [] : HPair }
                          (List.map
                            (fun r =>
                              { key := V.toStr (List.getD r (0 : Nat) V.undef),
                                kind := V.toInt (List.getD r (1 : Nat) V.undef),
                                num := V.toInt (List.getD r (2 : Nat) V.undef),
                                text := V.toStr (List.getD r (3 : Nat) V.undef) : HPair })
                            rx0)))),
                  V.int IntKind.i64
                    (RIn.at'
                      (N.rFail
                        (N.rFail
                          (Prod.snd
                            (N.rNum (Prod.snd (N.rText { s := sx0, at' := ix0, code := ix0_1 : RIn } (16 : Int)))
                              (1 : Int)))
                          (8 : Int))
                        (N.pairE
                          { key := Prod.fst (N.rText { s := sx0, at' := ix0, code := ix0_1 : RIn } (16 : Int)),
                            kind :=
                              IntKind.wrap IntKind.u8
                                (Prod.fst
                                  (N.rNum (Prod.snd (N.rText { s := sx0, at' := ix0, code := ix0_1 : RIn } (16 : Int)))
                                    (1 : Int))),
                            num := (0 : Int), text := [] : HPair }
                          (List.map
                            (fun r =>
                              { key := V.toStr (List.getD r (0 : Nat) V.undef),
                                kind := V.toInt (List.getD r (1 : Nat) V.undef),
                                num := V.toInt (List.getD r (2 : Nat) V.undef),
                                text := V.toStr (List.getD r (3 : Nat) V.undef) : HPair })
                            rx0)))),
                  V.int IntKind.i64
                    (RIn.code
                      (N.rFail
                        (N.rFail
                          (Prod.snd
                            (N.rNum (Prod.snd (N.rText { s := sx0, at' := ix0, code := ix0_1 : RIn } (16 : Int)))
                              (1 : Int)))
                          (8 : Int))
                        (N.pairE
                          { key := Prod.fst (N.rText { s := sx0, at' := ix0, code := ix0_1 : RIn } (16 : Int)),
                            kind :=
                              IntKind.wrap IntKind.u8
                                (Prod.fst
                                  (N.rNum (Prod.snd (N.rText { s := sx0, at' := ix0, code := ix0_1 : RIn } (16 : Int)))
                                    (1 : Int))),
                            num := (0 : Int), text := [] : HPair }
                          (List.map
                            (fun r =>
                              { key := V.toStr (List.getD r (0 : Nat) V.undef),
                                kind := V.toInt (List.getD r (1 : Nat) V.undef),
                                num := V.toInt (List.getD r (2 : Nat) V.undef),
                                text := V.toStr (List.getD r (3 : Nat) V.undef) : HPair })
                            rx0))))]),
            ((10000 : Nat),
              Box.sl [Sh.str, Sh.int IntKind.u8, Sh.int IntKind.i64, Sh.str]
                (rx0 ++
                  [[V.str (Prod.fst (N.rText { s := sx0, at' := ix0, code := ix0_1 : RIn } (16 : Int))),
                      V.int IntKind.u8
                        (IntKind.wrap IntKind.u8
                          (Prod.fst
                            (N.rNum (Prod.snd (N.rText { s := sx0, at' := ix0, code := ix0_1 : RIn } (16 : Int)))
                              (1 : Int)))),
                      V.int IntKind.i64 (0 : Int), V.str []]])
                (0 : Nat))] :
        St })
                        (none))
                      (none))
                    (cond (decide ((List.length rx0 + (1 : Nat)) * (48 : Nat) ≤ (140737488355328 : Nat)))
                      (K Ex.normal
      {
        fr :=
          [((0 : Nat), V.ptr (0 : Nat) (0 : Nat) (0 : Nat) (0 : Nat)), ((3 : Nat), V.int IntKind.i64 i3),
            ((4 : Nat), V.own (10000 : Nat) (0 : Nat)),
            ((5 : Nat), V.int IntKind.i64 (IntKind.wrap IntKind.i64 (i5 + (1 : Int))))],
        tab :=
          [((0 : Nat),
              Box.var
                [V.str
                    (RIn.s
                      (N.rFail
                        (Prod.snd
                          (N.rNum (Prod.snd (N.rText { s := sx0, at' := ix0, code := ix0_1 : RIn } (16 : Int))) (1 : Int)))
                        (8 : Int))),
                  V.int IntKind.i64
                    (RIn.at'
                      (N.rFail
                        (Prod.snd
                          (N.rNum (Prod.snd (N.rText { s := sx0, at' := ix0, code := ix0_1 : RIn } (16 : Int))) (1 : Int)))
                        (8 : Int))),
                  V.int IntKind.i64
                    (RIn.code
                      (N.rFail
                        (Prod.snd
                          (N.rNum (Prod.snd (N.rText { s := sx0, at' := ix0, code := ix0_1 : RIn } (16 : Int))) (1 : Int)))
                        (8 : Int)))]),
            ((10000 : Nat),
              Box.sl [Sh.str, Sh.int IntKind.u8, Sh.int IntKind.i64, Sh.str]
                (rx0 ++
                  [[V.str (Prod.fst (N.rText { s := sx0, at' := ix0, code := ix0_1 : RIn } (16 : Int))),
                      V.int IntKind.u8
                        (IntKind.wrap IntKind.u8
                          (Prod.fst
                            (N.rNum (Prod.snd (N.rText { s := sx0, at' := ix0, code := ix0_1 : RIn } (16 : Int)))
                              (1 : Int)))),
                      V.int IntKind.i64 (0 : Int), V.str []]])
                (0 : Nat))] :
        St })
                      (none))))))
            (none))
          (none))
        (K (Ex.exit (0 : Nat))
      { fr := [((0 : Nat), V.ptr (0 : Nat) (0 : Nat) (0 : Nat) (0 : Nat)), ((4 : Nat), V.own (10000 : Nat) (0 : Nat))],
        tab :=
          [((0 : Nat), Box.var [V.str sx0, V.int IntKind.i64 ix0, V.int IntKind.i64 ix0_1]),
            ((10000 : Nat), Box.sl [Sh.str, Sh.int IntKind.u8, Sh.int IntKind.i64, Sh.str] rx0 (0 : Nat))] :
        St }))
      (K (Ex.exit (0 : Nat))
      { fr := [((0 : Nat), V.ptr (0 : Nat) (0 : Nat) (0 : Nat) (0 : Nat)), ((4 : Nat), V.own (10000 : Nat) (0 : Nat))],
        tab :=
          [((0 : Nat), Box.var [V.str sx0, V.int IntKind.i64 ix0, V.int IntKind.i64 ix0_1]),
            ((10000 : Nat), Box.sl [Sh.str, Sh.int IntKind.u8, Sh.int IntKind.i64, Sh.str] rx0 (0 : Nat))] :
        St }) := by kernel_rfl
theorem rhl_enc : ∀ (k : Nat) (q : RIn) (l : List HPair), N.rhl k q (l.map cPair.enc) = ((N.rReadFrom k q l).1.map cPair.enc, (N.rReadFrom k q l).2)
  | 0, _, _ => rfl
  | k + 1, q, l => by
    unfold N.rhl N.rReadFrom
    rw [rowsP_enc]
    cases q.code == 0 with
    | false => rfl
    | true =>
      have := rhl_enc k (N.rBad (N.rOne q).1 l (N.rOne q).2) (l ++ [(N.rOne q).1])
      rw [List.map_append] at this
      exact this
theorem rNum1 {q : RIn} (h : N.goodR q = true) : 0 ≤ (N.rNum q 1).1 ∧ (N.rNum q 1).1 < 256 := by
  rw [← (rl_num (good_rl h).1 1).1]; exact inNum1 _
theorem ok_rHead : FnOk Tryd.prog 35 dRHead := by
  refine den_okF (env_ok (((((TOk.nil _).cons ok_refPair).cons ok_rText).cons ok_rFail).cons ok_rNum)) (E := eRHead) Tryd.func35 [6] (by kernel_rfl) (one1 (rounds_of rfl fun l K q h => ?_)) fun _ q h => ?_
  · unfold gRHead at h
    split at h
    · rename_i n j s a c rows
      have h1 := (cond_none h).1; replace h := (cond_none h).2; have h2 := (cond_none h).1; replace h := (cond_none h).2; have h3 := (cond_none h).1; replace h := (cond_none h).2; have h4 := (cond_none h).1; replace h := (cond_none h).2
      have h2 := ile_of h2
      have h3 : rows.length + (n - j).toNat ≤ 1000000 := ble_of h3
      refine loop_ind (E := eRHead) (f := 35) (id := 6) (σ := Int × RIn × List (List V)) (fun x => { fr := [(0, .ptr 0 0 0 0), (3, .int .i64 n), (4, .own 10000 0), (5, .int .i64 x.1)], tab := [(0, .var [.str x.2.1.s, .int .i64 x.2.1.at', .int .i64 x.2.1.code]), (10000, .sl [.str, .int .u8, .int .i64, .str] x.2.2 0)] })
        (fun x => 0 ≤ x.1 ∧ x.2.2.length + (n - x.1).toNat ≤ 1000000 ∧ N.goodR x.2.1 = true) (fun x => (n - x.1).toNat)
        (fun x K => K (.exit 0) { fr := [(0, .ptr 0 0 0 0), (4, .own 10000 0)], tab := [(0, .var [.str (N.rhl (n - x.1).toNat x.2.1 x.2.2).2.s, .int .i64 (N.rhl (n - x.1).toNat x.2.1 x.2.2).2.at', .int .i64 (N.rhl (n - x.1).toNat x.2.1 x.2.2).2.code]), (10000, .sl [.str, .int .u8, .int .i64, .str] (N.rhl (n - x.1).toNat x.2.1 x.2.2).1 0)] }) ?_ (j, ⟨s, a, c⟩, rows) ⟨ile_of h1, h3, h4⟩ K q (by assumption)
      rintro ⟨j, ⟨s, a, c⟩, rows⟩ ⟨hj, hr, h0⟩
      simp only at hj hr h0 ⊢
      by_cases hl : j < n
      · rw [show (n - j).toNat = (n - (j + 1)).toNat + 1 by omega]
        have h1 := good_text h0 16
        have h2 := good_num h1 1
        cases hz : c == 0 with
        | true =>
          refine .inl ⟨(j + 1, N.rBad (N.rOne ⟨s, a, c⟩).1 (rowsP rows) (N.rOne ⟨s, a, c⟩).2, rows ++ [cPair.enc (N.rOne ⟨s, a, c⟩).1]), ⟨by simp only; omega, by simp only [List.length_append, List.length_cons, List.length_nil]; omega, good_bad (good_one h0) _ _⟩, by simp only; omega, fun K => ?_, fun K => ?_⟩
          · rw [q_rHeadR]
            unfold N.rBad N.rOne N.rOneOf rowsP rowP
            simp (disch := omega) only [evs, h0, h1, h2, hz]
            generalize (N.rText ⟨s, a, c⟩ 16).1 = key
            generalize hq : (N.rNum (N.rText ⟨s, a, c⟩ 16).2 1) = kq at *
            obtain ⟨x, q⟩ := kq
            simp only
            generalize IntKind.wrap .u8 x = kind
            cases kind == 0 with
            | true => cases hc : (N.rNum q 8).2.code == 0 <;> simp only [cond_true, cond_false, hc] <;> rfl
            | false =>
              cases kind == 1 with
              | true => cases hc : (N.rText q 64).2.code == 0 <;> simp only [cond_true, cond_false, hc] <;> rfl
              | false =>
                cases kind == 2 with
                | true => cases hc : (N.rNum q 1).2.code == 0 <;> simp only [cond_true, cond_false, hc] <;> rfl
                | false => cases hc : (N.rFail q 8).code == 0 <;> simp only [cond_true, cond_false, hc] <;> rfl
          · simp only [N.rhl, hz, cond_true]
        | false =>
          refine .inr ⟨.exit 0, { fr := [(0, .ptr 0 0 0 0), (4, .own 10000 0)], tab := [(0, .var [.str s, .int .i64 a, .int .i64 c]), (10000, .sl [.str, .int .u8, .int .i64, .str] rows 0)] }, by simp, fun K => ?_, fun K => ?_⟩
          · rw [q_rHeadR]
            simp (disch := omega) only [evs, hz]
          · simp only [N.rhl, hz, cond_false]
      · refine .inr ⟨.exit 0, { fr := [(0, .ptr 0 0 0 0), (4, .own 10000 0)], tab := [(0, .var [.str s, .int .i64 a, .int .i64 c]), (10000, .sl [.str, .int .u8, .int .i64, .str] rows 0)] }, by simp, fun K => ?_, fun K => ?_⟩
        · rw [q_rHeadR]
          simp (disch := omega) only [evs]
        · rw [show (n - j).toNat = 0 by omega]; rfl
    · cases h
  · refine (q_rHead q).trans ?_
    have h : N.goodR q = true := h
    obtain ⟨b1, b2⟩ := rNum1 h
    have g1 := good_num h 1
    have g2 := good_fail g1 6
    have w : IntKind.wrap .i64 (N.rNum q 1).1 = (N.rNum q 1).1 := wrap_i64 (by omega) (by omega)
    show _ = some (⟨.slc [.str, .int .u8, .int .i64, .str] ((N.rHead q).1.map cPair.enc), [[.str (N.rHead q).2.s, .int .i64 (N.rHead q).2.at', .int .i64 (N.rHead q).2.code]], []⟩ : DRes)
    unfold N.rHead N.rRead
    rw [w]
    simp (disch := omega) only [evs, Int.sub_zero, Nat.zero_add, List.length_nil, h, g1, g2]
    cases ilt 8 (N.rNum q 1).1 with
    | true =>
      have e1 := rhl_enc (N.rNum q 1).1.toNat (N.rFail (N.rNum q 1).2 6) []
      rw [List.map_nil] at e1
      rw [e1]
      simp only [cond_true]
      cases (N.rReadFrom (N.rNum q 1).1.toNat (N.rFail (N.rNum q 1).2 6) []).2.code != 0 <;> rfl
    | false =>
      have e1 := rhl_enc (N.rNum q 1).1.toNat (N.rNum q 1).2 []
      rw [List.map_nil] at e1
      rw [e1]
      simp only [cond_false]
      cases (N.rReadFrom (N.rNum q 1).1.toNat (N.rNum q 1).2 []).2.code != 0 <;> rfl
end Go.Ev
