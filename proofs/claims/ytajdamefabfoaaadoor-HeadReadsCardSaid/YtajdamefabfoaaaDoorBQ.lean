/- The program's functions that read heads, those with loops, answer what the plain ones do: lemmas. -/
import Derived.Test.YtajdamefabfoaaaDoorBR
import Derived.Test.YtajdamefabfoaaaDoorBF
namespace Go.Ev
open Go Go.Proofs
set_option maxRecDepth 100000

namespace N
/-- The loop over a head's pairs: went through, what was read, the reader. -/
def hl : Nat → InS → List (List V) → Bool × List (List V) × InS
  | 0, i, rows => (true, rows, i)
  | k + 1, i, rows => cond ((bad (one i).1 (rowsP rows) (one i).2).err != 0) (false, [], bad (one i).1 (rowsP rows) (one i).2) (hl k (bad (one i).1 (rowsP rows) (one i).2) (rows ++ [cPair.enc (one i).1]))
def rhl : Nat → RIn → List (List V) → List (List V) × RIn
  | 0, q, rows => (rows, q)
  | k + 1, q, rows => cond (q.code == 0) (rhl k (rBad (rOne q).1 (rowsP rows) (rOne q).2) (rows ++ [cPair.enc (rOne q).1])) (rows, q)
end N
def schHeadRead : SSch := { fr := [(0, .ptr 0 0 0), (4, .own 10000), (13, .int .i64), (14, .int .i64)], tab := [(0, .var [.str, .int .i64]), (10000, .sl [.str, .int .u8, .int .i64, .str])] }
def gHeadRead : List Leaf → (Ex → St → Option R) → Option R
  | [.i n, .i j, .s s, .i e, .r rows], K => cond (ile 0 j) (cond (ile n 300) (cond (Nat.ble (rows.length + (n - j).toNat) LIM) (cond (N.hl (n - j).toNat ⟨s, e⟩ rows).1
      (K (.exit 0) { fr := [(4, .own 10000 0)], tab := [(0, .var [.str (N.hl (n - j).toNat ⟨s, e⟩ rows).2.2.s, .int .i64 (N.hl (n - j).toNat ⟨s, e⟩ rows).2.2.err]), (10000, .sl [.str, .int .u8, .int .i64, .str] (N.hl (n - j).toNat ⟨s, e⟩ rows).2.1 0)] })
      (K .ret { fr := [(2, .own 10000 0)], tab := [(0, .var [.str (N.hl (n - j).toNat ⟨s, e⟩ rows).2.2.s, .int .i64 (N.hl (n - j).toNat ⟨s, e⟩ rows).2.2.err]), (10000, .sl [.str, .int .u8, .int .i64, .str] [] 0)] })) none) none) none
  | _, _ => none
noncomputable def eHeadRead : Env := env Tryd.prog [(64, dNum), (65, dFail), (36, dInErr), (66, dOne), (67, dPairE)] [(6, loopF schHeadRead gHeadRead)] [(6, [(0, [0, 4, 13, 14]), (1, [4]), (1000, [2])])]
theorem q_headRead (i : InS) : evFn eHeadRead 34 (((aOne (vPtr 0)).enc ())) (((bOne cIn).enc i)) some =
    cond (ilt (8 : Int) (IntKind.wrap IntKind.i64 (Prod.fst (N.inNum i (1 : Int)))))
      (cond (ile (IntKind.wrap IntKind.i64 (Prod.fst (N.inNum i (1 : Int)))) (300 : Int))
        (cond (Nat.ble ((0 : Nat) + Int.toNat (IntKind.wrap IntKind.i64 (Prod.fst (N.inNum i (1 : Int))) - (0 : Int))) (1000000 : Nat))
          (cond (Prod.fst
      (N.hl (Int.toNat (IntKind.wrap IntKind.i64 (Prod.fst (N.inNum i (1 : Int))) - (0 : Int)))
        (N.inFail (Prod.snd (N.inNum i (1 : Int))) (6 : Int)) []))
            (some
      {
        v :=
          V.slc [Sh.str, Sh.int IntKind.u8, Sh.int IntKind.i64, Sh.str]
            (Prod.fst
              (Prod.snd
                (N.hl (Int.toNat (IntKind.wrap IntKind.i64 (Prod.fst (N.inNum i (1 : Int))) - (0 : Int)))
                  (N.inFail (Prod.snd (N.inNum i (1 : Int))) (6 : Int)) []))),
        bx :=
          [[V.str
                (InS.s
                  (Prod.snd
                    (Prod.snd
                      (N.hl (Int.toNat (IntKind.wrap IntKind.i64 (Prod.fst (N.inNum i (1 : Int))) - (0 : Int)))
                        (N.inFail (Prod.snd (N.inNum i (1 : Int))) (6 : Int)) [])))),
              V.int IntKind.i64
                (InS.err
                  (Prod.snd
                    (Prod.snd
                      (N.hl (Int.toNat (IntKind.wrap IntKind.i64 (Prod.fst (N.inNum i (1 : Int))) - (0 : Int)))
                        (N.inFail (Prod.snd (N.inNum i (1 : Int))) (6 : Int)) []))))]] :
        DRes })
            (some
      { v := V.slc [Sh.str, Sh.int IntKind.u8, Sh.int IntKind.i64, Sh.str] [],
        bx :=
          [[V.str
                (InS.s
                  (Prod.snd
                    (Prod.snd
                      (N.hl (Int.toNat (IntKind.wrap IntKind.i64 (Prod.fst (N.inNum i (1 : Int))) - (0 : Int)))
                        (N.inFail (Prod.snd (N.inNum i (1 : Int))) (6 : Int)) [])))),
              V.int IntKind.i64
                (InS.err
                  (Prod.snd
                    (Prod.snd
                      (N.hl (Int.toNat (IntKind.wrap IntKind.i64 (Prod.fst (N.inNum i (1 : Int))) - (0 : Int)))
                        (N.inFail (Prod.snd (N.inNum i (1 : Int))) (6 : Int)) []))))]] :
        DRes }))
          (none))
        (none))
      (cond (ile (IntKind.wrap IntKind.i64 (Prod.fst (N.inNum i (1 : Int)))) (300 : Int))
        (cond (Nat.ble ((0 : Nat) + Int.toNat (IntKind.wrap IntKind.i64 (Prod.fst (N.inNum i (1 : Int))) - (0 : Int))) (1000000 : Nat))
          (cond (Prod.fst
      (N.hl (Int.toNat (IntKind.wrap IntKind.i64 (Prod.fst (N.inNum i (1 : Int))) - (0 : Int)))
        (Prod.snd (N.inNum i (1 : Int))) []))
            (some
      {
        v :=
          V.slc [Sh.str, Sh.int IntKind.u8, Sh.int IntKind.i64, Sh.str]
            (Prod.fst
              (Prod.snd
                (N.hl (Int.toNat (IntKind.wrap IntKind.i64 (Prod.fst (N.inNum i (1 : Int))) - (0 : Int)))
                  (Prod.snd (N.inNum i (1 : Int))) []))),
        bx :=
          [[V.str
                (InS.s
                  (Prod.snd
                    (Prod.snd
                      (N.hl (Int.toNat (IntKind.wrap IntKind.i64 (Prod.fst (N.inNum i (1 : Int))) - (0 : Int)))
                        (Prod.snd (N.inNum i (1 : Int))) [])))),
              V.int IntKind.i64
                (InS.err
                  (Prod.snd
                    (Prod.snd
                      (N.hl (Int.toNat (IntKind.wrap IntKind.i64 (Prod.fst (N.inNum i (1 : Int))) - (0 : Int)))
                        (Prod.snd (N.inNum i (1 : Int))) []))))]] :
        DRes })
            (some
      { v := V.slc [Sh.str, Sh.int IntKind.u8, Sh.int IntKind.i64, Sh.str] [],
        bx :=
          [[V.str
                (InS.s
                  (Prod.snd
                    (Prod.snd
                      (N.hl (Int.toNat (IntKind.wrap IntKind.i64 (Prod.fst (N.inNum i (1 : Int))) - (0 : Int)))
                        (Prod.snd (N.inNum i (1 : Int))) [])))),
              V.int IntKind.i64
                (InS.err
                  (Prod.snd
                    (Prod.snd
                      (N.hl (Int.toNat (IntKind.wrap IntKind.i64 (Prod.fst (N.inNum i (1 : Int))) - (0 : Int)))
                        (Prod.snd (N.inNum i (1 : Int))) []))))]] :
        DRes }))
          (none))
        (none)) := by kernel_rfl
theorem q_headReadR (i13 : Int) (i14 : Int) (sx0 : Bytes) (ix0 : Int) (rx0 : List (List V)) (K : Ex → St → Option R) : evRound eHeadRead 34 6 { fr := [(0, .ptr 0 0 0 0), (4, .own 10000 0), (13, .int .i64 i13), (14, .int .i64 i14)], tab := [(0, .var [.str sx0, .int .i64 ix0]), (10000, .sl [.str, .int .u8, .int .i64, .str] rx0 0)] } K =
    cond (ilt i14 i13)
      (cond (InS.err (Prod.snd (N.one { s := sx0, err := ix0 : InS })) == (0 : Int))
        (cond (Nat.ble
      (List.length
        (List.map
          (fun r =>
            { key := V.toStr (List.getD r (0 : Nat) V.undef), kind := V.toInt (List.getD r (1 : Nat) V.undef),
              num := V.toInt (List.getD r (2 : Nat) V.undef), text := V.toStr (List.getD r (3 : Nat) V.undef) : HPair })
          rx0))
      (1000000 : Nat))
          (cond (InS.err
        (N.inFail (Prod.snd (N.one { s := sx0, err := ix0 : InS }))
          (N.pairE (Prod.fst (N.one { s := sx0, err := ix0 : InS }))
            (List.map
              (fun r =>
                { key := V.toStr (List.getD r (0 : Nat) V.undef), kind := V.toInt (List.getD r (1 : Nat) V.undef),
                  num := V.toInt (List.getD r (2 : Nat) V.undef), text := V.toStr (List.getD r (3 : Nat) V.undef) : HPair })
              rx0))) !=
      (0 : Int))
            (K Ex.ret
      { fr := [((2 : Nat), V.own (10000 : Nat) (0 : Nat))],
        tab :=
          [((0 : Nat),
              Box.var
                [V.str
                    (InS.s
                      (N.inFail (Prod.snd (N.one { s := sx0, err := ix0 : InS }))
                        (N.pairE (Prod.fst (N.one { s := sx0, err := ix0 : InS }))
                          (List.map
                            (fun r =>
                              { key := V.toStr (List.getD r (0 : Nat) V.undef),
                                kind := V.toInt (List.getD r (1 : Nat) V.undef),
                                num := V.toInt (List.getD r (2 : Nat) V.undef),
                                text := V.toStr (List.getD r (3 : Nat) V.undef) : HPair })
                            rx0)))),
                  V.int IntKind.i64
                    (InS.err
                      (N.inFail (Prod.snd (N.one { s := sx0, err := ix0 : InS }))
                        (N.pairE (Prod.fst (N.one { s := sx0, err := ix0 : InS }))
                          (List.map
                            (fun r =>
                              { key := V.toStr (List.getD r (0 : Nat) V.undef),
                                kind := V.toInt (List.getD r (1 : Nat) V.undef),
                                num := V.toInt (List.getD r (2 : Nat) V.undef),
                                text := V.toStr (List.getD r (3 : Nat) V.undef) : HPair })
                            rx0))))]),
            ((10000 : Nat), Box.sl [Sh.str, Sh.int IntKind.u8, Sh.int IntKind.i64, Sh.str] [] (0 : Nat))] :
        St })
            (cond (decide ((List.length rx0 + (1 : Nat)) * (48 : Nat) ≤ (140737488355328 : Nat)))
              (K Ex.normal
      {
        fr :=
          [((0 : Nat), V.ptr (0 : Nat) (0 : Nat) (0 : Nat) (0 : Nat)), ((4 : Nat), V.own (10000 : Nat) (0 : Nat)),
            ((13 : Nat), V.int IntKind.i64 i13),
            ((14 : Nat), V.int IntKind.i64 (IntKind.wrap IntKind.i64 (i14 + (1 : Int))))],
        tab :=
          [((0 : Nat),
              Box.var
                [V.str
                    (InS.s
                      (N.inFail (Prod.snd (N.one { s := sx0, err := ix0 : InS }))
                        (N.pairE (Prod.fst (N.one { s := sx0, err := ix0 : InS }))
                          (List.map
                            (fun r =>
                              { key := V.toStr (List.getD r (0 : Nat) V.undef),
                                kind := V.toInt (List.getD r (1 : Nat) V.undef),
                                num := V.toInt (List.getD r (2 : Nat) V.undef),
                                text := V.toStr (List.getD r (3 : Nat) V.undef) : HPair })
                            rx0)))),
                  V.int IntKind.i64
                    (InS.err
                      (N.inFail (Prod.snd (N.one { s := sx0, err := ix0 : InS }))
                        (N.pairE (Prod.fst (N.one { s := sx0, err := ix0 : InS }))
                          (List.map
                            (fun r =>
                              { key := V.toStr (List.getD r (0 : Nat) V.undef),
                                kind := V.toInt (List.getD r (1 : Nat) V.undef),
                                num := V.toInt (List.getD r (2 : Nat) V.undef),
                                text := V.toStr (List.getD r (3 : Nat) V.undef) : HPair })
                            rx0))))]),
            ((10000 : Nat),
              Box.sl [Sh.str, Sh.int IntKind.u8, Sh.int IntKind.i64, Sh.str]
                (rx0 ++
                  [[V.str (HPair.key (Prod.fst (N.one { s := sx0, err := ix0 : InS }))),
                      V.int IntKind.u8 (HPair.kind (Prod.fst (N.one { s := sx0, err := ix0 : InS }))),
                      V.int IntKind.i64 (HPair.num (Prod.fst (N.one { s := sx0, err := ix0 : InS }))),
                      V.str (HPair.text (Prod.fst (N.one { s := sx0, err := ix0 : InS })))]])
                (0 : Nat))] :
        St })
              (none)))
          (none))
        (cond (InS.err (Prod.snd (N.one { s := sx0, err := ix0 : InS })) != (0 : Int))
          (K Ex.ret
      { fr := [((2 : Nat), V.own (10000 : Nat) (0 : Nat))],
        tab :=
          [((0 : Nat),
              Box.var
                [V.str (InS.s (Prod.snd (N.one { s := sx0, err := ix0 : InS }))),
                  V.int IntKind.i64 (InS.err (Prod.snd (N.one { s := sx0, err := ix0 : InS })))]),
            ((10000 : Nat), Box.sl [Sh.str, Sh.int IntKind.u8, Sh.int IntKind.i64, Sh.str] [] (0 : Nat))] :
        St })
          (cond (decide ((List.length rx0 + (1 : Nat)) * (48 : Nat) ≤ (140737488355328 : Nat)))
            (K Ex.normal
      {
        fr :=
          [((0 : Nat), V.ptr (0 : Nat) (0 : Nat) (0 : Nat) (0 : Nat)), ((4 : Nat), V.own (10000 : Nat) (0 : Nat)),
            ((13 : Nat), V.int IntKind.i64 i13),
            ((14 : Nat), V.int IntKind.i64 (IntKind.wrap IntKind.i64 (i14 + (1 : Int))))],
        tab :=
          [((0 : Nat),
              Box.var
                [V.str (InS.s (Prod.snd (N.one { s := sx0, err := ix0 : InS }))),
                  V.int IntKind.i64 (InS.err (Prod.snd (N.one { s := sx0, err := ix0 : InS })))]),
            ((10000 : Nat),
              Box.sl [Sh.str, Sh.int IntKind.u8, Sh.int IntKind.i64, Sh.str]
                (rx0 ++
                  [[V.str (HPair.key (Prod.fst (N.one { s := sx0, err := ix0 : InS }))),
                      V.int IntKind.u8 (HPair.kind (Prod.fst (N.one { s := sx0, err := ix0 : InS }))),
                      V.int IntKind.i64 (HPair.num (Prod.fst (N.one { s := sx0, err := ix0 : InS }))),
                      V.str (HPair.text (Prod.fst (N.one { s := sx0, err := ix0 : InS })))]])
                (0 : Nat))] :
        St })
            (none))))
      (K (Ex.exit (0 : Nat))
      { fr := [((4 : Nat), V.own (10000 : Nat) (0 : Nat))],
        tab :=
          [((0 : Nat), Box.var [V.str sx0, V.int IntKind.i64 ix0]),
            ((10000 : Nat), Box.sl [Sh.str, Sh.int IntKind.u8, Sh.int IntKind.i64, Sh.str] rx0 (0 : Nat))] :
        St }) := by kernel_rfl
theorem rowsP_append (rows : List (List V)) (p : HPair) : rowsP (rows ++ [cPair.enc p]) = rowsP rows ++ [p] := by unfold rowsP; rw [List.map_append]; rfl
theorem hl_enc : ∀ (k : Nat) (i : InS) (l : List HPair), (N.hl k i (l.map cPair.enc)).2 = ((N.readFrom k i l).1.map cPair.enc, (N.readFrom k i l).2)
  | 0, _, _ => rfl
  | k + 1, i, l => by
    unfold N.hl N.readFrom
    rw [rowsP_enc]
    cases (N.bad (N.one i).1 l (N.one i).2).err != 0 with
    | true => rfl
    | false =>
      have := hl_enc k (N.bad (N.one i).1 l (N.one i).2) (l ++ [(N.one i).1])
      rw [List.map_append] at this
      exact this
theorem hl_none : ∀ (k : Nat) (i : InS) (rows : List (List V)), (N.hl k i rows).1 = false → (N.hl k i rows).2.1 = []
  | 0, _, _, h => by cases h
  | k + 1, i, rows, h => by
    unfold N.hl at h ⊢
    cases hc : (N.bad (N.one i).1 (rowsP rows) (N.one i).2).err != 0 with
    | true => rfl
    | false => rw [hc] at h; exact hl_none k _ _ h
theorem inNum1 (i : InS) : 0 ≤ (N.inNum i 1).1 ∧ (N.inNum i 1).1 < 256 := by
  have h := N.inRaw_len i (bif ilt 8 1 then (8 : Int) else 1) 1 (Int.le_refl 1)
  unfold N.inNum
  revert h
  cases (N.inRaw i (bif ilt 8 1 then (8 : Int) else 1)).1 with
  | nil => intro _; exact ⟨Int.le_refl 0, (by decide : (0 : Int) < 256)⟩
  | cons c r =>
    intro h
    cases r with
    | nil =>
      have := c.toNat_lt
      show 0 ≤ (0 * 256 + (c.toNat : Int)) ∧ (0 * 256 + (c.toNat : Int)) < 256
      omega
    | cons _ _ => simp at h
theorem ok_headRead : FnOk Tryd.prog 34 dHeadRead := by
  refine den_okF (env_ok ((((((TOk.nil _).cons ok_pairE).cons ok_one).cons ok_inErr).cons ok_fail).cons ok_num)) (E := eHeadRead) Tryd.func34 [6] (by kernel_rfl) (one1 (rounds_of rfl fun l K q h => ?_)) fun _ i _ => ?_
  · unfold gHeadRead at h
    split at h
    · rename_i n j s e rows
      have h1 := (cond_none h).1; replace h := (cond_none h).2; have h2 := (cond_none h).1; replace h := (cond_none h).2; have h3 := (cond_none h).1; replace h := (cond_none h).2
      have h2 := ile_of h2
      have h3 : rows.length + (n - j).toNat ≤ 1000000 := ble_of h3
      refine loop_ind (E := eHeadRead) (f := 34) (id := 6) (σ := Int × InS × List (List V)) (fun x => { fr := [(0, .ptr 0 0 0 0), (4, .own 10000 0), (13, .int .i64 n), (14, .int .i64 x.1)], tab := [(0, .var [.str x.2.1.s, .int .i64 x.2.1.err]), (10000, .sl [.str, .int .u8, .int .i64, .str] x.2.2 0)] })
        (fun x => 0 ≤ x.1 ∧ x.2.2.length + (n - x.1).toNat ≤ 1000000) (fun x => (n - x.1).toNat)
        (fun x K => cond (N.hl (n - x.1).toNat x.2.1 x.2.2).1
          (K (.exit 0) { fr := [(4, .own 10000 0)], tab := [(0, .var [.str (N.hl (n - x.1).toNat x.2.1 x.2.2).2.2.s, .int .i64 (N.hl (n - x.1).toNat x.2.1 x.2.2).2.2.err]), (10000, .sl [.str, .int .u8, .int .i64, .str] (N.hl (n - x.1).toNat x.2.1 x.2.2).2.1 0)] })
          (K .ret { fr := [(2, .own 10000 0)], tab := [(0, .var [.str (N.hl (n - x.1).toNat x.2.1 x.2.2).2.2.s, .int .i64 (N.hl (n - x.1).toNat x.2.1 x.2.2).2.2.err]), (10000, .sl [.str, .int .u8, .int .i64, .str] [] 0)] })) ?_ (j, ⟨s, e⟩, rows) ⟨ile_of h1, h3⟩ K q (by assumption)
      rintro ⟨j, ⟨s, e⟩, rows⟩ ⟨hj, hr⟩
      simp only at hj hr ⊢
      by_cases hl : j < n
      · rw [show (n - j).toNat = (n - (j + 1)).toNat + 1 by omega]
        simp only [N.hl]
        cases hc : ((N.bad (N.one ⟨s, e⟩).1 (rowsP rows) (N.one ⟨s, e⟩).2).err != 0) with
        | true =>
          refine .inr ⟨.ret, { fr := [(2, .own 10000 0)], tab := [(0, .var [.str (N.bad (N.one ⟨s, e⟩).1 (rowsP rows) (N.one ⟨s, e⟩).2).s, .int .i64 (N.bad (N.one ⟨s, e⟩).1 (rowsP rows) (N.one ⟨s, e⟩).2).err]), (10000, .sl [.str, .int .u8, .int .i64, .str] [] 0)] }, by simp, fun K => ?_, fun K => rfl⟩
          rw [q_headReadR]
          unfold N.bad rowsP rowP at hc ⊢
          cases hz : (N.one ⟨s, e⟩).2.err == 0 with
          | true => rw [hz, cond_true] at hc; simp (disch := omega) only [evs, hc]
          | false => rw [hz, cond_false] at hc; simp (disch := omega) only [evs, hc]
        | false =>
          refine .inl ⟨(j + 1, N.bad (N.one ⟨s, e⟩).1 (rowsP rows) (N.one ⟨s, e⟩).2, rows ++ [cPair.enc (N.one ⟨s, e⟩).1]), ⟨by simp only; omega, by simp only [List.length_append, List.length_cons, List.length_nil]; omega⟩, by simp only; omega, fun K => ?_, fun K => rfl⟩
          rw [q_headReadR]
          unfold N.bad rowsP rowP at hc ⊢
          cases hz : (N.one ⟨s, e⟩).2.err == 0 with
          | true => rw [hz, cond_true] at hc; simp (disch := omega) only [evs, hc]; rfl
          | false => rw [hz, cond_false] at hc; simp (disch := omega) only [evs, hc]; rfl
      · refine .inr ⟨.exit 0, { fr := [(4, .own 10000 0)], tab := [(0, .var [.str s, .int .i64 e]), (10000, .sl [.str, .int .u8, .int .i64, .str] rows 0)] }, by simp, fun K => ?_, fun K => ?_⟩
        · rw [q_headReadR]
          simp (disch := omega) only [evs]
        · rw [show (n - j).toNat = 0 by omega]; rfl
    · cases h
  · refine (q_headRead i).trans ?_
    obtain ⟨b1, b2⟩ := inNum1 i
    have w : IntKind.wrap .i64 (N.inNum i 1).1 = (N.inNum i 1).1 := wrap_i64 (by omega) (by omega)
    show _ = some (⟨.slc [.str, .int .u8, .int .i64, .str] ((N.headRead i).1.map cPair.enc), [[.str (N.headRead i).2.s, .int .i64 (N.headRead i).2.err]], []⟩ : DRes)
    unfold N.headRead
    rw [w]
    simp (disch := omega) only [evs, Int.sub_zero, Nat.zero_add, List.length_nil]
    cases ilt 8 (N.inNum i 1).1 with
    | true =>
      have e1 := hl_enc (N.inNum i 1).1.toNat (N.inFail (N.inNum i 1).2 6) []
      have e2 := hl_none (N.inNum i 1).1.toNat (N.inFail (N.inNum i 1).2 6) []
      rw [List.map_nil] at e1
      cases hc : (N.hl (N.inNum i 1).1.toNat (N.inFail (N.inNum i 1).2 6) []).1 with
      | true => simp only [cond_true, e1]
      | false =>
        rw [e1] at e2
        have e3 : (N.readFrom (N.inNum i 1).1.toNat (N.inFail (N.inNum i 1).2 6) []).1.map cPair.enc = [] := e2 hc
        simp only [cond_true, cond_false, e1, e3]
    | false =>
      have e1 := hl_enc (N.inNum i 1).1.toNat (N.inNum i 1).2 []
      have e2 := hl_none (N.inNum i 1).1.toNat (N.inNum i 1).2 []
      rw [List.map_nil] at e1
      cases hc : (N.hl (N.inNum i 1).1.toNat (N.inNum i 1).2 []).1 with
      | true => simp only [cond_true, cond_false, e1]
      | false =>
        rw [e1] at e2
        have e3 : (N.readFrom (N.inNum i 1).1.toNat (N.inNum i 1).2 []).1.map cPair.enc = [] := e2 hc
        simp only [cond_false, e1, e3]
def schRNum : SSch := { fr := [(5, .str), (6, .int .u64), (7, .int .i64)], tab := [(0, .var [.str, .int .i64, .int .i64])] }
namespace N
def beW : Bytes → Int → Int
  | [], n => n
  | c :: r, n => beW r (IntKind.wrap .u64 (IntKind.wrap .u64 (n * 256) + IntKind.wrap .u64 c.toNat))
end N
def gRNum : List Leaf → (Ex → St → Option R) → Option R
  | [.s s5, .i i6, .i i7, .s sx0, .i ix0, .i ix0_1], K => cond (ile 0 i7) (cond (Nat.ble s5.length LIM) (K (.exit 0) { fr := [(6, .int .u64 (N.beW (s5.drop i7.toNat) i6))], tab := [(0, .var [.str sx0, .int .i64 ix0, .int .i64 ix0_1])] }) none) none
  | _, _ => none
noncomputable def eRNum : Env := env Tryd.prog [(89, dRRaw)] [(6, loopF schRNum gRNum)] [(6, [(0, [5, 6, 7]), (1, [6]), (1000, [4])])]
theorem q_rNum (q : RIn) (n : Int) : evFn eRNum 68 (((aCons (vPtr 0) (aOne (vInt .i64))).enc ((), n))) (((bOne cRIn).enc q)) some =
    cond (ilt (8 : Int) n)
      (cond (N.goodR q)
        (cond (Nat.ble (List.length (Prod.fst (N.rRaw q (8 : Int)))) (1000000 : Nat))
          (some
      { v := V.int IntKind.u64 (N.beW (List.drop (0 : Nat) (Prod.fst (N.rRaw q (8 : Int)))) (0 : Int)),
        bx :=
          [[V.str (RIn.s (Prod.snd (N.rRaw q (8 : Int)))), V.int IntKind.i64 (RIn.at' (Prod.snd (N.rRaw q (8 : Int)))),
              V.int IntKind.i64 (RIn.code (Prod.snd (N.rRaw q (8 : Int))))]] :
        DRes })
          (none))
        (none))
      (cond (N.goodR q)
        (cond (Nat.ble (List.length (Prod.fst (N.rRaw q n))) (1000000 : Nat))
          (some
      { v := V.int IntKind.u64 (N.beW (List.drop (0 : Nat) (Prod.fst (N.rRaw q n))) (0 : Int)),
        bx :=
          [[V.str (RIn.s (Prod.snd (N.rRaw q n))), V.int IntKind.i64 (RIn.at' (Prod.snd (N.rRaw q n))),
              V.int IntKind.i64 (RIn.code (Prod.snd (N.rRaw q n)))]] :
        DRes })
          (none))
        (none)) := by kernel_rfl
theorem q_rNumR (s5 : Bytes) (i6 : Int) (i7 : Int) (sx0 : Bytes) (ix0 : Int) (ix0_1 : Int) (K : Ex → St → Option R) : evRound eRNum 68 6 { fr := [(5, .str s5), (6, .int .u64 i6), (7, .int .i64 i7)], tab := [(0, .var [.str sx0, .int .i64 ix0, .int .i64 ix0_1])] } K =
    cond (ilt i7 (↑(List.length s5) : Int))
      (cond (decide ((0 : Int) ≤ i7 ∧ i7 < (↑(List.length s5) : Int)))
        (K Ex.normal
      {
        fr :=
          [((5 : Nat), V.str s5),
            ((6 : Nat),
              V.int IntKind.u64
                (IntKind.wrap IntKind.u64
                  (IntKind.wrap IntKind.u64 (i6 * (256 : Int)) +
                    IntKind.wrap IntKind.u64 (↑(UInt8.toNat (List.getD s5 (Int.toNat i7) (0 : UInt8))) : Int)))),
            ((7 : Nat), V.int IntKind.i64 (IntKind.wrap IntKind.i64 (i7 + (1 : Int))))],
        tab := [((0 : Nat), Box.var [V.str sx0, V.int IntKind.i64 ix0, V.int IntKind.i64 ix0_1])] : St })
        (none))
      (K (Ex.exit (0 : Nat))
      { fr := [((6 : Nat), V.int IntKind.u64 i6)],
        tab := [((0 : Nat), Box.var [V.str sx0, V.int IntKind.i64 ix0, V.int IntKind.i64 ix0_1])] : St }) := by kernel_rfl
theorem beW_eq : ∀ (l : Bytes) (n : Int) (k : Nat), 0 ≤ n → l.length ≤ k → k ≤ 8 → n < ((256 ^ (8 - k) : Nat) : Int) → N.beW l n = N.be l n
  | [], n, k, _, _, _, _ => rfl
  | c :: r, n, k, hn, hl, hk, h => by
    have hc : c.toNat < 256 := c.toNat_lt
    have hl' : r.length + 1 ≤ k := hl
    have h7 : n < 72057594037927936 := by
      have h1 : 256 ^ (8 - k) ≤ 256 ^ 7 := Nat.pow_le_pow_right (by decide) (by omega)
      have e : (256 : Nat) ^ 7 = 72057594037927936 := by decide
      rw [e] at h1
      omega
    show N.beW r (IntKind.wrap .u64 (IntKind.wrap .u64 (n * 256) + IntKind.wrap .u64 ((c.toNat : Nat) : Int))) = N.be r (n * 256 + c.toNat)
    rw [wrap_u64 (n := n * 256) (by omega) (by omega), wrap_u64 (n := (c.toNat : Int)) (by omega) (by omega), wrap_u64 (by omega) (by omega)]
    refine beW_eq r _ (k - 1) (by omega) (by omega) (by omega) ?_
    have : (256 : Nat) ^ (8 - (k - 1)) = 256 ^ (8 - k) * 256 := by
      rw [show 8 - (k - 1) = (8 - k) + 1 by omega, Nat.pow_succ]
    rw [this]; omega
theorem rRaw_len {q : RIn} (h : N.goodR q = true) (n : Int) (m : Nat) (hm : n ≤ m) : (N.rRaw q n).1.length ≤ m := by
  rw [← (rl_raw (good_rl h).1 n).1]; exact N.inRaw_len _ n m hm
theorem ok_rNum : FnOk Tryd.prog 68 dRNum := by
  refine den_okF (env_ok ((TOk.nil _).cons ok_rRaw)) (E := eRNum) Tryd.func68 [6] (by kernel_rfl) (one1 (rounds_of rfl fun l K q h => ?_)) fun a q h => ?_
  · unfold gRNum at h
    split at h
    · rename_i s n k x1 x2 x3
      have h1 := (cond_none h).1; replace h := (cond_none h).2; have h2 := (cond_none h).1; replace h := (cond_none h).2
      have h2 : s.length ≤ 1000000 := ble_of h2
      refine loop_ind (E := eRNum) (f := 68) (id := 6) (σ := Int × Int) (fun x => { fr := [(5, .str s), (6, .int .u64 x.1), (7, .int .i64 x.2)], tab := [(0, .var [.str x1, .int .i64 x2, .int .i64 x3])] })
        (fun x => 0 ≤ x.2) (fun x => s.length - x.2.toNat)
        (fun x K => K (.exit 0) { fr := [(6, .int .u64 (N.beW (s.drop x.2.toNat) x.1))], tab := [(0, .var [.str x1, .int .i64 x2, .int .i64 x3])] }) ?_ (n, k) (ile_of h1) K q (by assumption)
      rintro ⟨n, k⟩ hk
      simp only at hk ⊢
      by_cases hl : k < s.length
      · rw [drop_byte (show k.toNat < s.length by omega)]
        refine .inl ⟨(IntKind.wrap .u64 (IntKind.wrap .u64 (n * 256) + IntKind.wrap .u64 (s.getD k.toNat 0).toNat), k + 1), by simp only; omega, by simp only; omega, fun K => ?_, fun K => ?_⟩
        · rw [q_rNumR]
          simp (disch := omega) only [evs]
        · rw [show (k + 1).toNat = k.toNat + 1 by omega]; rfl
      · refine .inr ⟨.exit 0, { fr := [(6, .int .u64 n)], tab := [(0, .var [.str x1, .int .i64 x2, .int .i64 x3])] }, by simp, fun K => ?_, fun K => ?_⟩
        · rw [q_rNumR]
          simp (disch := omega) only [evs]
        · rw [List.drop_eq_nil_of_le (by omega)]; rfl
    · cases h
  · refine (q_rNum q a.2).trans ?_
    show _ = some (⟨.int .u64 (N.rNum q a.2).1, [[.str (N.rNum q a.2).2.s, .int .i64 (N.rNum q a.2).2.at', .int .i64 (N.rNum q a.2).2.code]], []⟩ : DRes)
    unfold N.rNum
    have h : N.goodR q = true := h
    by_cases e : 8 < a.2
    · have l := rRaw_len h 8 8 (Int.le_refl 8)
      have b := beW_eq (N.rRaw q 8).1 0 8 (by decide) l (by decide) (by decide)
      simp (disch := omega) only [evs, h, List.drop_zero, b]
    · have l := rRaw_len h a.2 8 (by omega)
      have b := beW_eq (N.rRaw q a.2).1 0 8 (by decide) l (by decide) (by decide)
      simp (disch := omega) only [evs, h, List.drop_zero, b]
noncomputable def eRText : Env := env Tryd.prog [(68, dRNum), (69, dRFail), (89, dRRaw)] [] []
theorem q_rText (q : RIn) (n : Int) : evFn eRText 70 ((aCons (vPtr 0) (aOne (vInt .i64))).enc ((), n)) ((bOne cRIn).enc q) some =
    cond (N.goodR q)
      (cond (ilt n (IntKind.wrap IntKind.i64 (Prod.fst (N.rNum q (2 : Int)))))
        (cond (N.goodR (N.rFail (Prod.snd (N.rNum q (2 : Int))) (5 : Int)))
          (some
      {
        v :=
          V.str
            (Prod.fst
              (N.rRaw (N.rFail (Prod.snd (N.rNum q (2 : Int))) (5 : Int))
                (IntKind.wrap IntKind.i64 (Prod.fst (N.rNum q (2 : Int)))))),
        bx :=
          [[V.str
                (RIn.s
                  (Prod.snd
                    (N.rRaw (N.rFail (Prod.snd (N.rNum q (2 : Int))) (5 : Int))
                      (IntKind.wrap IntKind.i64 (Prod.fst (N.rNum q (2 : Int))))))),
              V.int IntKind.i64
                (RIn.at'
                  (Prod.snd
                    (N.rRaw (N.rFail (Prod.snd (N.rNum q (2 : Int))) (5 : Int))
                      (IntKind.wrap IntKind.i64 (Prod.fst (N.rNum q (2 : Int))))))),
              V.int IntKind.i64
                (RIn.code
                  (Prod.snd
                    (N.rRaw (N.rFail (Prod.snd (N.rNum q (2 : Int))) (5 : Int))
                      (IntKind.wrap IntKind.i64 (Prod.fst (N.rNum q (2 : Int)))))))]] :
        DRes })
          (none))
        (cond (N.goodR (Prod.snd (N.rNum q (2 : Int))))
          (some
      {
        v :=
          V.str
            (Prod.fst (N.rRaw (Prod.snd (N.rNum q (2 : Int))) (IntKind.wrap IntKind.i64 (Prod.fst (N.rNum q (2 : Int)))))),
        bx :=
          [[V.str
                (RIn.s
                  (Prod.snd
                    (N.rRaw (Prod.snd (N.rNum q (2 : Int))) (IntKind.wrap IntKind.i64 (Prod.fst (N.rNum q (2 : Int))))))),
              V.int IntKind.i64
                (RIn.at'
                  (Prod.snd
                    (N.rRaw (Prod.snd (N.rNum q (2 : Int))) (IntKind.wrap IntKind.i64 (Prod.fst (N.rNum q (2 : Int))))))),
              V.int IntKind.i64
                (RIn.code
                  (Prod.snd
                    (N.rRaw (Prod.snd (N.rNum q (2 : Int)))
                      (IntKind.wrap IntKind.i64 (Prod.fst (N.rNum q (2 : Int)))))))]] :
        DRes })
          (none)))
      (none) := by kernel_rfl
theorem ok_rText : FnOk Tryd.prog 70 dRText := by
  refine den_okF (env_ok ((((TOk.nil _).cons ok_rRaw).cons ok_rFail).cons ok_rNum)) (E := eRText) Tryd.func70 [] (by kernel_rfl) none0 fun a q h => ?_
  refine (q_rText q a.2).trans ?_
  show _ = some (⟨.str (N.rText q a.2).1, [[.str (N.rText q a.2).2.s, .int .i64 (N.rText q a.2).2.at', .int .i64 (N.rText q a.2).2.code]], []⟩ : DRes)
  unfold N.rText
  have h : N.goodR q = true := h
  have h1 := good_num h 2
  have h2 := good_fail h1 5
  simp (disch := omega) only [evs, h, h1, h2]
  cases ilt a.2 (IntKind.wrap .i64 (N.rNum q 2).1) <;> rfl
def schRefPair : SSch := { fr := [(2, .ptr 10000 0 0), (57, .slc [.str, .int .u8, .int .i64, .str]), (58, .int .i64), (59, .int .i64)], tab := [(10000, .var [.str, .int .u8, .int .i64, .str])] }
def gRefPair : List Leaf → (Ex → St → Option R) → Option R
  | [.r r57, .i i58, .i i59, .s sx0, .i _, .i _, .s _], K => cond (i58 == r57.length) (cond (ile 0 i59) (cond (Nat.ble r57.length LIM)
      (cond (ile 0 (N.findIx sx0 ((rowsP r57).drop i59.toNat) i59)) (K .ret { fr := [(4, .int .i64 9)], tab := [] }) (K (.exit 0) { fr := [], tab := [] })) none) none) none
  | _, _ => none
noncomputable def eRefPair : Env := env Tryd.prog [(17, dName)] [(13, loopF schRefPair gRefPair)] [(13, [(0, [2, 57, 58, 59]), (1, []), (1000, [4])])]
theorem q_refPair (p : HPair) (l : List HPair) : evFn eRefPair 71 (((aCons (vAgg cPair) (aOne (vSl cPair))).enc (p, l))) ([]) some =
    cond (N.name (HPair.key p) != (0 : Int))
      (some { v := V.int IntKind.i64 (N.name (HPair.key p)), bx := [] : DRes })
      (cond (ilt (2 : Int) (HPair.kind p))
        (some { v := V.int IntKind.i64 (8 : Int), bx := [] : DRes })
        (cond (HPair.kind p == (1 : Int))
          (cond (ilt (64 : Int) (↑(List.length (HPair.text p)) : Int))
            (some { v := V.int IntKind.i64 (5 : Int), bx := [] : DRes })
            (cond (HPair.kind p == (2 : Int))
              (cond (ilt (HPair.num p) (0 : Int))
                (some { v := V.int IntKind.i64 (7 : Int), bx := [] : DRes })
                (cond (ilt (1 : Int) (HPair.num p))
                  (some { v := V.int IntKind.i64 (7 : Int), bx := [] : DRes })
                  (cond (HPair.kind p == (1 : Int))
                    (cond (HPair.num p != (0 : Int))
                      (some { v := V.int IntKind.i64 (4 : Int), bx := [] : DRes })
                      (cond (HPair.kind p != (1 : Int))
                        (cond (!HPair.text p == [])
                          (some { v := V.int IntKind.i64 (4 : Int), bx := [] : DRes })
                          (cond ((↑(List.length
            (List.map
              (fun p =>
                [V.str (HPair.key p), V.int IntKind.u8 (HPair.kind p), V.int IntKind.i64 (HPair.num p),
                  V.str (HPair.text p)])
              l)) :
        Int) ==
      (↑(List.length
            (List.map
              (fun p =>
                [V.str (HPair.key p), V.int IntKind.u8 (HPair.kind p), V.int IntKind.i64 (HPair.num p),
                  V.str (HPair.text p)])
              l)) :
        Int))
                            (cond (Nat.ble
      (List.length
        (List.map
          (fun p =>
            [V.str (HPair.key p), V.int IntKind.u8 (HPair.kind p), V.int IntKind.i64 (HPair.num p), V.str (HPair.text p)])
          l))
      (1000000 : Nat))
                              (cond (ile (0 : Int)
      (N.findIx (HPair.key p)
        (List.drop (0 : Nat)
          (List.map
            (fun r =>
              { key := V.toStr (List.getD r (0 : Nat) V.undef), kind := V.toInt (List.getD r (1 : Nat) V.undef),
                num := V.toInt (List.getD r (2 : Nat) V.undef), text := V.toStr (List.getD r (3 : Nat) V.undef) : HPair })
            (List.map
              (fun p =>
                [V.str (HPair.key p), V.int IntKind.u8 (HPair.kind p), V.int IntKind.i64 (HPair.num p),
                  V.str (HPair.text p)])
              l)))
        (0 : Int)))
                                (some { v := V.int IntKind.i64 (9 : Int), bx := [] : DRes })
                                (some { v := V.int IntKind.i64 (0 : Int), bx := [] : DRes }))
                              (none))
                            (none)))
                        (cond ((↑(List.length
            (List.map
              (fun p =>
                [V.str (HPair.key p), V.int IntKind.u8 (HPair.kind p), V.int IntKind.i64 (HPair.num p),
                  V.str (HPair.text p)])
              l)) :
        Int) ==
      (↑(List.length
            (List.map
              (fun p =>
                [V.str (HPair.key p), V.int IntKind.u8 (HPair.kind p), V.int IntKind.i64 (HPair.num p),
                  V.str (HPair.text p)])
              l)) :
        Int))
                          (cond (Nat.ble
      (List.length
        (List.map
          (fun p =>
            [V.str (HPair.key p), V.int IntKind.u8 (HPair.kind p), V.int IntKind.i64 (HPair.num p), V.str (HPair.text p)])
          l))
      (1000000 : Nat))
                            (cond (ile (0 : Int)
      (N.findIx (HPair.key p)
        (List.drop (0 : Nat)
          (List.map
            (fun r =>
              { key := V.toStr (List.getD r (0 : Nat) V.undef), kind := V.toInt (List.getD r (1 : Nat) V.undef),
                num := V.toInt (List.getD r (2 : Nat) V.undef), text := V.toStr (List.getD r (3 : Nat) V.undef) : HPair })
            (List.map
              (fun p =>
                [V.str (HPair.key p), V.int IntKind.u8 (HPair.kind p), V.int IntKind.i64 (HPair.num p),
                  V.str (HPair.text p)])
              l)))
        (0 : Int)))
                              (some { v := V.int IntKind.i64 (9 : Int), bx := [] : DRes })
                              (some { v := V.int IntKind.i64 (0 : Int), bx := [] : DRes }))
                            (none))
                          (none))))
                    (cond (HPair.kind p != (1 : Int))
                      (cond (!HPair.text p == [])
                        (some { v := V.int IntKind.i64 (4 : Int), bx := [] : DRes })
                        (cond ((↑(List.length
            (List.map
              (fun p =>
                [V.str (HPair.key p), V.int IntKind.u8 (HPair.kind p), V.int IntKind.i64 (HPair.num p),
                  V.str (HPair.text p)])
              l)) :
        Int) ==
      (↑(List.length
            (List.map
              (fun p =>
                [V.str (HPair.key p), V.int IntKind.u8 (HPair.kind p), V.int IntKind.i64 (HPair.num p),
                  V.str (HPair.text p)])
              l)) :
        Int))
                          (cond (Nat.ble
      (List.length
        (List.map
          (fun p =>
            [V.str (HPair.key p), V.int IntKind.u8 (HPair.kind p), V.int IntKind.i64 (HPair.num p), V.str (HPair.text p)])
          l))
      (1000000 : Nat))
                            (cond (ile (0 : Int)
      (N.findIx (HPair.key p)
        (List.drop (0 : Nat)
          (List.map
            (fun r =>
              { key := V.toStr (List.getD r (0 : Nat) V.undef), kind := V.toInt (List.getD r (1 : Nat) V.undef),
                num := V.toInt (List.getD r (2 : Nat) V.undef), text := V.toStr (List.getD r (3 : Nat) V.undef) : HPair })
            (List.map
              (fun p =>
                [V.str (HPair.key p), V.int IntKind.u8 (HPair.kind p), V.int IntKind.i64 (HPair.num p),
                  V.str (HPair.text p)])
              l)))
        (0 : Int)))
                              (some { v := V.int IntKind.i64 (9 : Int), bx := [] : DRes })
                              (some { v := V.int IntKind.i64 (0 : Int), bx := [] : DRes }))
                            (none))
                          (none)))
                      (cond ((↑(List.length
            (List.map
              (fun p =>
                [V.str (HPair.key p), V.int IntKind.u8 (HPair.kind p), V.int IntKind.i64 (HPair.num p),
                  V.str (HPair.text p)])
              l)) :
        Int) ==
      (↑(List.length
            (List.map
              (fun p =>
                [V.str (HPair.key p), V.int IntKind.u8 (HPair.kind p), V.int IntKind.i64 (HPair.num p),
                  V.str (HPair.text p)])
              l)) :
        Int))
                        (cond (Nat.ble
      (List.length
        (List.map
          (fun p =>
            [V.str (HPair.key p), V.int IntKind.u8 (HPair.kind p), V.int IntKind.i64 (HPair.num p), V.str (HPair.text p)])
          l))
      (1000000 : Nat))
                          (cond (ile (0 : Int)
      (N.findIx (HPair.key p)
        (List.drop (0 : Nat)
          (List.map
            (fun r =>
              { key := V.toStr (List.getD r (0 : Nat) V.undef), kind := V.toInt (List.getD r (1 : Nat) V.undef),
                num := V.toInt (List.getD r (2 : Nat) V.undef), text := V.toStr (List.getD r (3 : Nat) V.undef) : HPair })
            (List.map
              (fun p =>
                [V.str (HPair.key p), V.int IntKind.u8 (HPair.kind p), V.int IntKind.i64 (HPair.num p),
                  V.str (HPair.text p)])
              l)))
        (0 : Int)))
                            (some { v := V.int IntKind.i64 (9 : Int), bx := [] : DRes })
                            (some { v := V.int IntKind.i64 (0 : Int), bx := [] : DRes }))
                          (none))
                        (none))))))
              (cond (HPair.kind p == (1 : Int))
                (cond (HPair.num p != (0 : Int))
                  (some { v := V.int IntKind.i64 (4 : Int), bx := [] : DRes })
                  (cond (HPair.kind p != (1 : Int))
                    (cond (!HPair.text p == [])
                      (some { v := V.int IntKind.i64 (4 : Int), bx := [] : DRes })
                      (cond ((↑(List.length
            (List.map
              (fun p =>
                [V.str (HPair.key p), V.int IntKind.u8 (HPair.kind p), V.int IntKind.i64 (HPair.num p),
                  V.str (HPair.text p)])
              l)) :
        Int) ==
      (↑(List.length
            (List.map
              (fun p =>
                [V.str (HPair.key p), V.int IntKind.u8 (HPair.kind p), V.int IntKind.i64 (HPair.num p),
                  V.str (HPair.text p)])
              l)) :
        Int))
                        (cond (Nat.ble
      (List.length
        (List.map
          (fun p =>
            [V.str (HPair.key p), V.int IntKind.u8 (HPair.kind p), V.int IntKind.i64 (HPair.num p), V.str (HPair.text p)])
          l))
      (1000000 : Nat))
                          (cond (ile (0 : Int)
      (N.findIx (HPair.key p)
        (List.drop (0 : Nat)
          (List.map
            (fun r =>
              { key := V.toStr (List.getD r (0 : Nat) V.undef), kind := V.toInt (List.getD r (1 : Nat) V.undef),
                num := V.toInt (List.getD r (2 : Nat) V.undef), text := V.toStr (List.getD r (3 : Nat) V.undef) : HPair })
            (List.map
              (fun p =>
                [V.str (HPair.key p), V.int IntKind.u8 (HPair.kind p), V.int IntKind.i64 (HPair.num p),
                  V.str (HPair.text p)])
              l)))
        (0 : Int)))
                            (some { v := V.int IntKind.i64 (9 : Int), bx := [] : DRes })
                            (some { v := V.int IntKind.i64 (0 : Int), bx := [] : DRes }))
                          (none))
                        (none)))
                    (cond ((↑(List.length
            (List.map
              (fun p =>
                [V.str (HPair.key p), V.int IntKind.u8 (HPair.kind p), V.int IntKind.i64 (HPair.num p),
                  V.str (HPair.text p)])
              l)) :
        Int) ==
      (↑(List.length
            (List.map
              (fun p =>
                [V.str (HPair.key p), V.int IntKind.u8 (HPair.kind p), V.int IntKind.i64 (HPair.num p),
                  V.str (HPair.text p)])
              l)) :
        Int))
                      (cond (Nat.ble
      (List.length
        (List.map
          (fun p =>
            [V.str (HPair.key p), V.int IntKind.u8 (HPair.kind p), V.int IntKind.i64 (HPair.num p), V.str (HPair.text p)])
          l))
      (1000000 : Nat))
                        (cond (ile (0 : Int)
      (N.findIx (HPair.key p)
        (List.drop (0 : Nat)
          (List.map
            (fun r =>
              { key := V.toStr (List.getD r (0 : Nat) V.undef), kind := V.toInt (List.getD r (1 : Nat) V.undef),
                num := V.toInt (List.getD r (2 : Nat) V.undef), text := V.toStr (List.getD r (3 : Nat) V.undef) : HPair })
            (List.map
              (fun p =>
                [V.str (HPair.key p), V.int IntKind.u8 (HPair.kind p), V.int IntKind.i64 (HPair.num p),
                  V.str (HPair.text p)])
              l)))
        (0 : Int)))
                          (some { v := V.int IntKind.i64 (9 : Int), bx := [] : DRes })
                          (some { v := V.int IntKind.i64 (0 : Int), bx := [] : DRes }))
                        (none))
                      (none))))
                (cond (HPair.kind p != (1 : Int))
                  (cond (!HPair.text p == [])
                    (some { v := V.int IntKind.i64 (4 : Int), bx := [] : DRes })
                    (cond ((↑(List.length
            (List.map
              (fun p =>
                [V.str (HPair.key p), V.int IntKind.u8 (HPair.kind p), V.int IntKind.i64 (HPair.num p),
                  V.str (HPair.text p)])
              l)) :
        Int) ==
      (↑(List.length
            (List.map
              (fun p =>
                [V.str (HPair.key p), V.int IntKind.u8 (HPair.kind p), V.int IntKind.i64 (HPair.num p),
                  V.str (HPair.text p)])
              l)) :
        Int))
                      (cond (Nat.ble
      (List.length
        (List.map
          (fun p =>
            [V.str (HPair.key p), V.int IntKind.u8 (HPair.kind p), V.int IntKind.i64 (HPair.num p), V.str (HPair.text p)])
          l))
      (1000000 : Nat))
                        (cond (ile (0 : Int)
      (N.findIx (HPair.key p)
        (List.drop (0 : Nat)
          (List.map
            (fun r =>
              { key := V.toStr (List.getD r (0 : Nat) V.undef), kind := V.toInt (List.getD r (1 : Nat) V.undef),
                num := V.toInt (List.getD r (2 : Nat) V.undef), text := V.toStr (List.getD r (3 : Nat) V.undef) : HPair })
            (List.map
              (fun p =>
                [V.str (HPair.key p), V.int IntKind.u8 (HPair.kind p), V.int IntKind.i64 (HPair.num p),
                  V.str (HPair.text p)])
              l)))
        (0 : Int)))
                          (some { v := V.int IntKind.i64 (9 : Int), bx := [] : DRes })
                          (some { v := V.int IntKind.i64 (0 : Int), bx := [] : DRes }))
                        (none))
                      (none)))
                  (cond ((↑(List.length
            (List.map
              (fun p =>
                [V.str (HPair.key p), V.int IntKind.u8 (HPair.kind p), V.int IntKind.i64 (HPair.num p),
                  V.str (HPair.text p)])
              l)) :
        Int) ==
      (↑(List.length
            (List.map
              (fun p =>
                [V.str (HPair.key p), V.int IntKind.u8 (HPair.kind p), V.int IntKind.i64 (HPair.num p),
                  V.str (HPair.text p)])
              l)) :
        Int))
                    (cond (Nat.ble
      (List.length
        (List.map
          (fun p =>
            [V.str (HPair.key p), V.int IntKind.u8 (HPair.kind p), V.int IntKind.i64 (HPair.num p), V.str (HPair.text p)])
          l))
      (1000000 : Nat))
                      (cond (ile (0 : Int)
      (N.findIx (HPair.key p)
        (List.drop (0 : Nat)
          (List.map
            (fun r =>
              { key := V.toStr (List.getD r (0 : Nat) V.undef), kind := V.toInt (List.getD r (1 : Nat) V.undef),
                num := V.toInt (List.getD r (2 : Nat) V.undef), text := V.toStr (List.getD r (3 : Nat) V.undef) : HPair })
            (List.map
              (fun p =>
                [V.str (HPair.key p), V.int IntKind.u8 (HPair.kind p), V.int IntKind.i64 (HPair.num p),
                  V.str (HPair.text p)])
              l)))
        (0 : Int)))
                        (some { v := V.int IntKind.i64 (9 : Int), bx := [] : DRes })
                        (some { v := V.int IntKind.i64 (0 : Int), bx := [] : DRes }))
                      (none))
                    (none))))))
          (cond (HPair.kind p == (2 : Int))
            (cond (ilt (HPair.num p) (0 : Int))
              (some { v := V.int IntKind.i64 (7 : Int), bx := [] : DRes })
              (cond (ilt (1 : Int) (HPair.num p))
                (some { v := V.int IntKind.i64 (7 : Int), bx := [] : DRes })
                (cond (HPair.kind p == (1 : Int))
                  (cond (HPair.num p != (0 : Int))
                    (some { v := V.int IntKind.i64 (4 : Int), bx := [] : DRes })
                    (cond (HPair.kind p != (1 : Int))
                      (cond (!HPair.text p == [])
                        (some { v := V.int IntKind.i64 (4 : Int), bx := [] : DRes })
                        (cond ((↑(List.length
            (List.map
              (fun p =>
                [V.str (HPair.key p), V.int IntKind.u8 (HPair.kind p), V.int IntKind.i64 (HPair.num p),
                  V.str (HPair.text p)])
              l)) :
        Int) ==
      (↑(List.length
            (List.map
              (fun p =>
                [V.str (HPair.key p), V.int IntKind.u8 (HPair.kind p), V.int IntKind.i64 (HPair.num p),
                  V.str (HPair.text p)])
              l)) :
        Int))
                          (cond (Nat.ble
      (List.length
        (List.map
          (fun p =>
            [V.str (HPair.key p), V.int IntKind.u8 (HPair.kind p), V.int IntKind.i64 (HPair.num p), V.str (HPair.text p)])
          l))
      (1000000 : Nat))
                            (cond (ile (0 : Int)
      (N.findIx (HPair.key p)
        (List.drop (0 : Nat)
          (List.map
            (fun r =>
              { key := V.toStr (List.getD r (0 : Nat) V.undef), kind := V.toInt (List.getD r (1 : Nat) V.undef),
                num := V.toInt (List.getD r (2 : Nat) V.undef), text := V.toStr (List.getD r (3 : Nat) V.undef) : HPair })
            (List.map
              (fun p =>
                [V.str (HPair.key p), V.int IntKind.u8 (HPair.kind p), V.int IntKind.i64 (HPair.num p),
                  V.str (HPair.text p)])
              l)))
        (0 : Int)))
                              (some { v := V.int IntKind.i64 (9 : Int), bx := [] : DRes })
                              (some { v := V.int IntKind.i64 (0 : Int), bx := [] : DRes }))
                            (none))
                          (none)))
                      (cond ((↑(List.length
            (List.map
              (fun p =>
                [V.str (HPair.key p), V.int IntKind.u8 (HPair.kind p), V.int IntKind.i64 (HPair.num p),
                  V.str (HPair.text p)])
              l)) :
        Int) ==
      (↑(List.length
            (List.map
              (fun p =>
                [V.str (HPair.key p), V.int IntKind.u8 (HPair.kind p), V.int IntKind.i64 (HPair.num p),
                  V.str (HPair.text p)])
              l)) :
        Int))
                        (cond (Nat.ble
      (List.length
        (List.map
          (fun p =>
            [V.str (HPair.key p), V.int IntKind.u8 (HPair.kind p), V.int IntKind.i64 (HPair.num p), V.str (HPair.text p)])
          l))
      (1000000 : Nat))
                          (cond (ile (0 : Int)
      (N.findIx (HPair.key p)
        (List.drop (0 : Nat)
          (List.map
            (fun r =>
              { key := V.toStr (List.getD r (0 : Nat) V.undef), kind := V.toInt (List.getD r (1 : Nat) V.undef),
                num := V.toInt (List.getD r (2 : Nat) V.undef), text := V.toStr (List.getD r (3 : Nat) V.undef) : HPair })
            (List.map
              (fun p =>
                [V.str (HPair.key p), V.int IntKind.u8 (HPair.kind p), V.int IntKind.i64 (HPair.num p),
                  V.str (HPair.text p)])
              l)))
        (0 : Int)))
                            (some { v := V.int IntKind.i64 (9 : Int), bx := [] : DRes })
                            (some { v := V.int IntKind.i64 (0 : Int), bx := [] : DRes }))
                          (none))
                        (none))))
                  (cond (HPair.kind p != (1 : Int))
                    (cond (!HPair.text p == [])
                      (some { v := V.int IntKind.i64 (4 : Int), bx := [] : DRes })
                      (cond ((↑(List.length
            (List.map
              (fun p =>
                [V.str (HPair.key p), V.int IntKind.u8 (HPair.kind p), V.int IntKind.i64 (HPair.num p),
                  V.str (HPair.text p)])
              l)) :
        Int) ==
      (↑(List.length
            (List.map
              (fun p =>
                [V.str (HPair.key p), V.int IntKind.u8 (HPair.kind p), V.int IntKind.i64 (HPair.num p),
                  V.str (HPair.text p)])
              l)) :
        Int))
                        (cond (Nat.ble
      (List.length
        (List.map
          (fun p =>
            [V.str (HPair.key p), V.int IntKind.u8 (HPair.kind p), V.int IntKind.i64 (HPair.num p), V.str (HPair.text p)])
          l))
      (1000000 : Nat))
                          (cond (ile (0 : Int)
      (N.findIx (HPair.key p)
        (List.drop (0 : Nat)
          (List.map
            (fun r =>
              { key := V.toStr (List.getD r (0 : Nat) V.undef), kind := V.toInt (List.getD r (1 : Nat) V.undef),
                num := V.toInt (List.getD r (2 : Nat) V.undef), text := V.toStr (List.getD r (3 : Nat) V.undef) : HPair })
            (List.map
              (fun p =>
                [V.str (HPair.key p), V.int IntKind.u8 (HPair.kind p), V.int IntKind.i64 (HPair.num p),
                  V.str (HPair.text p)])
              l)))
        (0 : Int)))
                            (some { v := V.int IntKind.i64 (9 : Int), bx := [] : DRes })
                            (some { v := V.int IntKind.i64 (0 : Int), bx := [] : DRes }))
                          (none))
                        (none)))
                    (cond ((↑(List.length
            (List.map
              (fun p =>
                [V.str (HPair.key p), V.int IntKind.u8 (HPair.kind p), V.int IntKind.i64 (HPair.num p),
                  V.str (HPair.text p)])
              l)) :
        Int) ==
      (↑(List.length
            (List.map
              (fun p =>
                [V.str (HPair.key p), V.int IntKind.u8 (HPair.kind p), V.int IntKind.i64 (HPair.num p),
                  V.str (HPair.text p)])
              l)) :
        Int))
                      (cond (Nat.ble
      (List.length
        (List.map
          (fun p =>
            [V.str (HPair.key p), V.int IntKind.u8 (HPair.kind p), V.int IntKind.i64 (HPair.num p), V.str (HPair.text p)])
          l))
      (1000000 : Nat))
                        (cond (ile (0 : Int)
      (N.findIx (HPair.key p)
        (List.drop (0 : Nat)
          (List.map
            (fun r =>
              { key := V.toStr (List.getD r (0 : Nat) V.undef), kind := V.toInt (List.getD r (1 : Nat) V.undef),
                num := V.toInt (List.getD r (2 : Nat) V.undef), text := V.toStr (List.getD r (3 : Nat) V.undef) : HPair })
            (List.map
              (fun p =>
                [V.str (HPair.key p), V.int IntKind.u8 (HPair.kind p), V.int IntKind.i64 (HPair.num p),
                  V.str (HPair.text p)])
              l)))
        (0 : Int)))
                          (some { v := V.int IntKind.i64 (9 : Int), bx := [] : DRes })
                          (some { v := V.int IntKind.i64 (0 : Int), bx := [] : DRes }))
                        (none))
                      (none))))))
            (cond (HPair.kind p == (1 : Int))
              (cond (HPair.num p != (0 : Int))
                (some { v := V.int IntKind.i64 (4 : Int), bx := [] : DRes })
                (cond (HPair.kind p != (1 : Int))
                  (cond (!HPair.text p == [])
                    (some { v := V.int IntKind.i64 (4 : Int), bx := [] : DRes })
                    (cond ((↑(List.length
            (List.map
              (fun p =>
                [V.str (HPair.key p), V.int IntKind.u8 (HPair.kind p), V.int IntKind.i64 (HPair.num p),
                  V.str (HPair.text p)])
              l)) :
        Int) ==
      (↑(List.length
            (List.map
              (fun p =>
                [V.str (HPair.key p), V.int IntKind.u8 (HPair.kind p), V.int IntKind.i64 (HPair.num p),
                  V.str (HPair.text p)])
              l)) :
        Int))
                      (cond (Nat.ble
      (List.length
        (List.map
          (fun p =>
            [V.str (HPair.key p), V.int IntKind.u8 (HPair.kind p), V.int IntKind.i64 (HPair.num p), V.str (HPair.text p)])
          l))
      (1000000 : Nat))
                        (cond (ile (0 : Int)
      (N.findIx (HPair.key p)
        (List.drop (0 : Nat)
          (List.map
            (fun r =>
              { key := V.toStr (List.getD r (0 : Nat) V.undef), kind := V.toInt (List.getD r (1 : Nat) V.undef),
                num := V.toInt (List.getD r (2 : Nat) V.undef), text := V.toStr (List.getD r (3 : Nat) V.undef) : HPair })
            (List.map
              (fun p =>
                [V.str (HPair.key p), V.int IntKind.u8 (HPair.kind p), V.int IntKind.i64 (HPair.num p),
                  V.str (HPair.text p)])
              l)))
        (0 : Int)))
                          (some { v := V.int IntKind.i64 (9 : Int), bx := [] : DRes })
                          (some { v := V.int IntKind.i64 (0 : Int), bx := [] : DRes }))
                        (none))
                      (none)))
                  (cond ((↑(List.length
            (List.map
              (fun p =>
                [V.str (HPair.key p), V.int IntKind.u8 (HPair.kind p), V.int IntKind.i64 (HPair.num p),
                  V.str (HPair.text p)])
              l)) :
        Int) ==
      (↑(List.length
            (List.map
              (fun p =>
                [V.str (HPair.key p), V.int IntKind.u8 (HPair.kind p), V.int IntKind.i64 (HPair.num p),
                  V.str (HPair.text p)])
              l)) :
        Int))
                    (cond (Nat.ble
      (List.length
        (List.map
          (fun p =>
            [V.str (HPair.key p), V.int IntKind.u8 (HPair.kind p), V.int IntKind.i64 (HPair.num p), V.str (HPair.text p)])
          l))
      (1000000 : Nat))
                      (cond (ile (0 : Int)
      (N.findIx (HPair.key p)
        (List.drop (0 : Nat)
          (List.map
            (fun r =>
              { key := V.toStr (List.getD r (0 : Nat) V.undef), kind := V.toInt (List.getD r (1 : Nat) V.undef),
                num := V.toInt (List.getD r (2 : Nat) V.undef), text := V.toStr (List.getD r (3 : Nat) V.undef) : HPair })
            (List.map
              (fun p =>
                [V.str (HPair.key p), V.int IntKind.u8 (HPair.kind p), V.int IntKind.i64 (HPair.num p),
                  V.str (HPair.text p)])
              l)))
        (0 : Int)))
                        (some { v := V.int IntKind.i64 (9 : Int), bx := [] : DRes })
                        (some { v := V.int IntKind.i64 (0 : Int), bx := [] : DRes }))
                      (none))
                    (none))))
              (cond (HPair.kind p != (1 : Int))
                (cond (!HPair.text p == [])
                  (some { v := V.int IntKind.i64 (4 : Int), bx := [] : DRes })
                  (cond ((↑(List.length
            (List.map
              (fun p =>
                [V.str (HPair.key p), V.int IntKind.u8 (HPair.kind p), V.int IntKind.i64 (HPair.num p),
                  V.str (HPair.text p)])
              l)) :
        Int) ==
      (↑(List.length
            (List.map
              (fun p =>
                [V.str (HPair.key p), V.int IntKind.u8 (HPair.kind p), V.int IntKind.i64 (HPair.num p),
                  V.str (HPair.text p)])
              l)) :
        Int))
                    (cond (Nat.ble
      (List.length
        (List.map
          (fun p =>
            [V.str (HPair.key p), V.int IntKind.u8 (HPair.kind p), V.int IntKind.i64 (HPair.num p), V.str (HPair.text p)])
          l))
      (1000000 : Nat))
                      (cond (ile (0 : Int)
      (N.findIx (HPair.key p)
        (List.drop (0 : Nat)
          (List.map
            (fun r =>
              { key := V.toStr (List.getD r (0 : Nat) V.undef), kind := V.toInt (List.getD r (1 : Nat) V.undef),
                num := V.toInt (List.getD r (2 : Nat) V.undef), text := V.toStr (List.getD r (3 : Nat) V.undef) : HPair })
            (List.map
              (fun p =>
                [V.str (HPair.key p), V.int IntKind.u8 (HPair.kind p), V.int IntKind.i64 (HPair.num p),
                  V.str (HPair.text p)])
              l)))
        (0 : Int)))
                        (some { v := V.int IntKind.i64 (9 : Int), bx := [] : DRes })
                        (some { v := V.int IntKind.i64 (0 : Int), bx := [] : DRes }))
                      (none))
                    (none)))
                (cond ((↑(List.length
            (List.map
              (fun p =>
                [V.str (HPair.key p), V.int IntKind.u8 (HPair.kind p), V.int IntKind.i64 (HPair.num p),
                  V.str (HPair.text p)])
              l)) :
        Int) ==
      (↑(List.length
            (List.map
              (fun p =>
                [V.str (HPair.key p), V.int IntKind.u8 (HPair.kind p), V.int IntKind.i64 (HPair.num p),
                  V.str (HPair.text p)])
              l)) :
        Int))
                  (cond (Nat.ble
      (List.length
        (List.map
          (fun p =>
            [V.str (HPair.key p), V.int IntKind.u8 (HPair.kind p), V.int IntKind.i64 (HPair.num p), V.str (HPair.text p)])
          l))
      (1000000 : Nat))
                    (cond (ile (0 : Int)
      (N.findIx (HPair.key p)
        (List.drop (0 : Nat)
          (List.map
            (fun r =>
              { key := V.toStr (List.getD r (0 : Nat) V.undef), kind := V.toInt (List.getD r (1 : Nat) V.undef),
                num := V.toInt (List.getD r (2 : Nat) V.undef), text := V.toStr (List.getD r (3 : Nat) V.undef) : HPair })
            (List.map
              (fun p =>
                [V.str (HPair.key p), V.int IntKind.u8 (HPair.kind p), V.int IntKind.i64 (HPair.num p),
                  V.str (HPair.text p)])
              l)))
        (0 : Int)))
                      (some { v := V.int IntKind.i64 (9 : Int), bx := [] : DRes })
                      (some { v := V.int IntKind.i64 (0 : Int), bx := [] : DRes }))
                    (none))
                  (none))))))) := by kernel_rfl
theorem q_refPairR (r57 : List (List V)) (i58 : Int) (i59 : Int) (sx0 : Bytes) (ix0 : Int) (ix0_1 : Int) (sx0_1 : Bytes) (K : Ex → St → Option R) : evRound eRefPair 71 13 { fr := [(2, .ptr 10000 0 0 0), (57, .slc [.str, .int .u8, .int .i64, .str] r57), (58, .int .i64 i58), (59, .int .i64 i59)], tab := [(10000, .var [.str sx0, .int .u8 ix0, .int .i64 ix0_1, .str sx0_1])] } K =
    cond (ilt i59 i58)
      (cond (decide ((0 : Int) ≤ i59 ∧ i59 < (↑(List.length r57) : Int)))
        (cond (V.toStr (List.getD (List.getD r57 (Int.toNat i59) []) (0 : Nat) V.undef) == sx0)
          (K Ex.ret { fr := [((4 : Nat), V.int IntKind.i64 (9 : Int))], tab := [] : St })
          (K Ex.normal
      {
        fr :=
          [((2 : Nat), V.ptr (10000 : Nat) (0 : Nat) (0 : Nat) (0 : Nat)),
            ((57 : Nat), V.slc [Sh.str, Sh.int IntKind.u8, Sh.int IntKind.i64, Sh.str] r57),
            ((58 : Nat), V.int IntKind.i64 i58),
            ((59 : Nat), V.int IntKind.i64 (IntKind.wrap IntKind.i64 (i59 + (1 : Int))))],
        tab := [((10000 : Nat), Box.var [V.str sx0, V.int IntKind.u8 ix0, V.int IntKind.i64 ix0_1, V.str sx0_1])] : St }))
        (none))
      (K (Ex.exit (0 : Nat)) { fr := [], tab := [] : St }) := by kernel_rfl
theorem ok_refPair : FnOk Tryd.prog 71 dPairE := by
  refine den_okF (env_ok ((TOk.nil _).cons ok_refName)) (E := eRefPair) Tryd.func71 [13] (by kernel_rfl) (one1 (rounds_of rfl fun l K q h => ?_)) fun a _ h => ?_
  · unfold gRefPair at h
    split at h
    · rename_i r n i key x1 x2 x3
      have h1 := (cond_none h).1; replace h := (cond_none h).2; have h2 := (cond_none h).1; replace h := (cond_none h).2; have h3 := (cond_none h).1; replace h := (cond_none h).2
      have e1 := ieq_of h1
      subst e1
      have h3 : r.length ≤ 1000000 := ble_of h3
      refine loop_ind (E := eRefPair) (f := 71) (id := 13) (fun i : Int => { fr := [(2, .ptr 10000 0 0 0), (57, .slc [.str, .int .u8, .int .i64, .str] r), (58, .int .i64 r.length), (59, .int .i64 i)], tab := [(10000, .var [.str key, .int .u8 x1, .int .i64 x2, .str x3])] }) (fun i => 0 ≤ i) (fun i => r.length - i.toNat)
        (fun i K => cond (ile 0 (N.findIx key ((rowsP r).drop i.toNat) i)) (K .ret { fr := [(4, .int .i64 9)], tab := [] }) (K (.exit 0) { fr := [], tab := [] })) (fun i hi => ?_) i (ile_of h2) K q (by assumption)
      by_cases hl : i < r.length
      · rw [drop_pair (show i.toNat < r.length by omega)]
        have e : N.findIx key (rowP (r.getD i.toNat []) :: (rowsP r).drop (i.toNat + 1)) i = cond ((rowP (r.getD i.toNat [])).key == key) i (N.findIx key ((rowsP r).drop (i.toNat + 1)) (i + 1)) := rfl
        rw [e]
        cases hc : (rowP (r.getD i.toNat [])).key == key with
        | true =>
          rw [cond_true, ile_t hi]
          refine .inr ⟨.ret, { fr := [(4, .int .i64 9)], tab := [] }, by simp, fun K => ?_, fun K => rfl⟩
          rw [q_refPairR]
          unfold rowP at hc
          simp (disch := omega) only [evs, hc]
        | false =>
          refine .inl ⟨i + 1, by omega, by omega, fun K => ?_, fun K => ?_⟩
          · rw [q_refPairR]
            unfold rowP at hc
            simp (disch := omega) only [evs, hc]
          · rw [cond_false, show (i + 1).toNat = i.toNat + 1 by omega]
      · refine .inr ⟨.exit 0, { fr := [], tab := [] }, by simp, fun K => ?_, fun K => ?_⟩
        · rw [q_refPairR]
          simp (disch := omega) only [evs]
        · rw [List.drop_eq_nil_of_le (by rw [rowsP_length]; omega)]; rfl
    · cases h
  · obtain ⟨p, l⟩ := a
    have h : l.length ≤ 1000000 := ble_of h
    refine (q_refPair p l).trans ?_
    show _ = some (⟨.int .i64 (N.pairE p l), [], []⟩ : DRes)
    unfold N.pairE N.find
    have en : (cond (p.num != 0) (p.num != 1) false) = cond (ilt p.num 0) true (ilt 1 p.num) := by
      rcases (by omega : p.num < 0 ∨ p.num = 0 ∨ p.num = 1 ∨ 1 < p.num) with h | h | h | h
      · simp (disch := omega) only [evs]
      · rw [h]; rfl
      · rw [h]; rfl
      · simp (disch := omega) only [evs]
    have en' : cond (cond (p.kind == 2) (p.num != 0) false) (p.num != 1) false = cond (p.kind == 2) (cond (ilt p.num 0) true (ilt 1 p.num)) false := by
      rw [← en]; cases p.kind == 2 <;> rfl
    rw [en']
    have ef : (cond (ilt (N.findIx p.key l 0) 0) (pair0, false) (l.getD (N.findIx p.key l 0).toNat pair0, true)).2 = ile 0 (N.findIx p.key l 0) := by
      by_cases h : N.findIx p.key l 0 < 0
      · simp (disch := omega) only [evs]
      · simp (disch := omega) only [evs]
    rw [ef]
    simp (disch := omega) only [evs, pairs_enc, List.drop_zero, bne]
    cases hn : N.name p.key == 0 with
    | false => rfl
    | true =>
      cases ilt 2 p.kind with
      | true => rfl
      | false =>
        cases p.kind == 1 <;> cases ilt 64 p.text.length <;> cases p.kind == 2 <;> cases ilt p.num 0 <;> cases ilt 1 p.num <;> cases p.num == 0 <;> cases p.text == [] <;> cases ile 0 (N.findIx p.key l 0) <;> rfl
end Go.Ev
