/- What the statements on a pattern's words and stars reckon: lemmas, no condition. -/
import Derived.Test.YtajdamefabfoaaaDoorBF
import Derived.Test.YtajdamefabfoaaaDoorSF
namespace Go.Ev
open Go Go.Proofs
set_option maxRecDepth 100000

def dWordsO : Den := den (aOne vStr) bNil (oOwn rStr) (fun s _ => Nat.ble s.length LIM) fun s _ => (N.words s, ())
noncomputable def eRefSplitO : Env := env Tryd.prog [] [(6, loopF schRefSplit gRefSplit)] [(6, [(0, [0, 3, 4, 5]), (1, [0, 3, 4]), (1000, [2])])] [15]
theorem q_refSplitO (s : Bytes) : evFn eRefSplitO 15 ((aOne vStr).enc s) ([]) some =
    cond ((↑(List.length s) : Int) == (0 : Int))
      (some { v := V.own (1000 : Nat) (0 : Nat), bx := [], nb := [Box.sl [Sh.str] [] (0 : Nat)] })
      (cond (Nat.ble (List.length s) (1000000 : Nat))
        (cond (Nat.ble ((0 : Nat) + (List.length s - (0 : Nat))) (1000001 : Nat))
          (cond (decide
      ((0 : Int) ≤ Prod.fst (N.spl s (List.length s - (0 : Nat)) (0 : Int) (0 : Int) []) ∧
        Prod.fst (N.spl s (List.length s - (0 : Nat)) (0 : Int) (0 : Int) []) ≤ (↑(List.length s) : Int)))
            (cond (decide
      ((List.length (Prod.snd (N.spl s (List.length s - (0 : Nat)) (0 : Int) (0 : Int) [])) + (1 : Nat)) * (16 : Nat) ≤
        (140737488355328 : Nat)))
              (some
      { v := V.own (1000 : Nat) (0 : Nat), bx := [],
        nb :=
          [Box.sl [Sh.str]
              (Prod.snd (N.spl s (List.length s - (0 : Nat)) (0 : Int) (0 : Int) []) ++
                [[V.str
                      (List.drop (Int.toNat (Prod.fst (N.spl s (List.length s - (0 : Nat)) (0 : Int) (0 : Int) [])))
                        (List.take (List.length s) s))]])
              (0 : Nat)] })
              (none))
            (none))
          (none))
        (none)) := by kernel_rfl
theorem q_refSplitOR (s0 : Bytes) (i4 : Int) (i5 : Int) (rx0 : List (List V)) (K : Ex → St → Option R) : evRound eRefSplitO 15 6 { fr := [(0, .str s0), (3, .own 10000 0), (4, .int .i64 i4), (5, .int .i64 i5)], tab := [(10000, .sl [.str] rx0 0)] } K =
    cond (ilt i5 (↑(List.length s0) : Int))
      (cond (decide ((0 : Int) ≤ i5 ∧ i5 < (↑(List.length s0) : Int)))
        (cond ((↑(UInt8.toNat (List.getD s0 (Int.toNat i5) (0 : UInt8))) : Int) == (46 : Int))
          (cond (decide ((0 : Int) ≤ i5 ∧ i5 ≤ (↑(List.length s0) : Int)))
            (cond (decide ((0 : Int) ≤ i4 ∧ i4 ≤ (↑(Int.toNat i5) : Int)))
              (cond (decide ((List.length rx0 + (1 : Nat)) * (16 : Nat) ≤ (140737488355328 : Nat)))
                (K Ex.normal
      {
        fr :=
          [((0 : Nat), V.str s0), ((3 : Nat), V.own (10000 : Nat) (0 : Nat)),
            ((4 : Nat), V.int IntKind.i64 (IntKind.wrap IntKind.i64 (i5 + (1 : Int)))),
            ((5 : Nat), V.int IntKind.i64 (IntKind.wrap IntKind.i64 (i5 + (1 : Int))))],
        tab :=
          [((10000 : Nat),
              Box.sl [Sh.str] (rx0 ++ [[V.str (List.drop (Int.toNat i4) (List.take (Int.toNat i5) s0))]]) (0 : Nat))] })
                (none))
              (none))
            (none))
          (K Ex.normal
      {
        fr :=
          [((0 : Nat), V.str s0), ((3 : Nat), V.own (10000 : Nat) (0 : Nat)), ((4 : Nat), V.int IntKind.i64 i4),
            ((5 : Nat), V.int IntKind.i64 (IntKind.wrap IntKind.i64 (i5 + (1 : Int))))],
        tab := [((10000 : Nat), Box.sl [Sh.str] rx0 (0 : Nat))] }))
        (none))
      (K (Ex.exit (0 : Nat))
      { fr := [((0 : Nat), V.str s0), ((3 : Nat), V.own (10000 : Nat) (0 : Nat)), ((4 : Nat), V.int IntKind.i64 i4)],
        tab := [((10000 : Nat), Box.sl [Sh.str] rx0 (0 : Nat))] }) := by kernel_rfl
theorem ok_refSplitO : FnOk Tryd.prog 15 dWordsO := by
  refine den_okF (env_ok (TOk.nil _)) (E := eRefSplitO) Tryd.func15 [6] (by kernel_rfl) (one1 (rounds_of rfl fun l K q h => ?_)) fun s _ h => ?_
  · unfold gRefSplit at h
    split at h
    · rename_i s fr i rows
      have h1 := (cond_none h).1; replace h := (cond_none h).2; have h2 := (cond_none h).1; replace h := (cond_none h).2; have h3 := (cond_none h).1; replace h := (cond_none h).2; have h4 := (cond_none h).1; replace h := (cond_none h).2; have h5 := (cond_none h).1; replace h := (cond_none h).2
      have h1 : s.length ≤ 1000000 := ble_of h1
      have h5 : rows.length + (s.length - i.toNat) ≤ 1000001 := ble_of h5
      refine loop_ind (E := eRefSplitO) (f := 15) (id := 6) (σ := Int × Int × List (List V)) (fun x => { fr := [(0, .str s), (3, .own 10000 0), (4, .int .i64 x.1), (5, .int .i64 x.2.1)], tab := [(10000, .sl [.str] x.2.2 0)] })
        (fun x => 0 ≤ x.1 ∧ x.1 ≤ x.2.1 ∧ x.2.1 ≤ s.length ∧ x.2.2.length + (s.length - x.2.1.toNat) ≤ 1000001) (fun x => s.length - x.2.1.toNat)
        (fun x K => K (.exit 0) { fr := [(0, .str s), (3, .own 10000 0), (4, .int .i64 (N.spl s (s.length - x.2.1.toNat) x.2.1 x.1 x.2.2).1)], tab := [(10000, .sl [.str] (N.spl s (s.length - x.2.1.toNat) x.2.1 x.1 x.2.2).2 0)] }) ?_ (fr, i, rows)
        ⟨ile_of h2, ile_of h3, ile_of h4, h5⟩ K q h
      rintro ⟨fr, i, rows⟩ ⟨h2, h3, h4, h5⟩
      simp only at h2 h3 h4 h5 ⊢
      by_cases hl : i < s.length
      · have e : s.length - i.toNat = (s.length - (i + 1).toNat) + 1 := by omega
        rw [e]
        simp only [N.spl]
        cases hc : (((s.getD i.toNat 0).toNat : Int) == 46) with
        | true =>
          refine .inl ⟨(i + 1, i + 1, rows ++ [[.str ((s.take i.toNat).drop fr.toNat)]]), ⟨by simp only; omega, by simp only; omega, by simp only; omega, by simp only [List.length_append, List.length_cons, List.length_nil]; omega⟩, by simp only; omega, fun K => ?_, fun K => rfl⟩
          rw [q_refSplitOR]
          simp (disch := omega) only [evs, hc]
        | false =>
          refine .inl ⟨(fr, i + 1, rows), ⟨by simp only; omega, by simp only; omega, by simp only; omega, by simp only; omega⟩, by simp only; omega, fun K => ?_, fun K => rfl⟩
          rw [q_refSplitOR]
          simp (disch := omega) only [evs, hc]
      · refine .inr ⟨.exit 0, _, by simp, fun K => ?_, fun K => rfl⟩
        rw [q_refSplitOR, show s.length - i.toNat = 0 by omega]
        simp (disch := omega) only [evs, N.spl]
    · cases h
  · refine (q_refSplitO s).trans ?_
    have h : s.length ≤ 1000000 := ble_of h
    show _ = some (⟨.own 1000 0, [], [.sl [.str] ((N.words s).map rStr.enc) 0]⟩ : DRes)
    cases s with
    | nil => rfl
    | cons c r =>
      generalize hs : c :: r = s at *
      have hpos : 0 < s.length := by rw [← hs]; simp
      have hw : N.words s = N.splitDot s := by rw [← hs]; rfl
      obtain ⟨g1, g2, g3⟩ := spl_ok s s.length 0 0 [] (by omega) (by omega) (by omega)
      have g4 := spl_len s s.length 0 0 []
      simp only [List.length_nil, Nat.zero_add] at g4
      simp (disch := omega) only [evs, Nat.sub_zero, Nat.zero_add]
      rw [List.take_length, g3, hw]
      simp only [Int.toNat_zero, List.drop_zero, List.take_zero, List.nil_append]
      cases h : N.splitDot s with
      | nil => exact absurd h (splitDot_ne _)
      | cons w ws => rfl
noncomputable def eWS : Env := env Tryd.prog [(11, dTrueW), (12, dRefKey), (13, dMatches), (15, dWordsO), (27, dJoin)] [] []
theorem q_lawWS (p k o : Bytes) (at' : Int) : evFn eWS 6 ((aCons vStr (aCons vStr (aCons vStr (aOne (vInt .u8))))).enc (p, k, o, at')) ([]) some =
    cond (N.refKey p true != (0 : Int))
      (some { v := V.bool true, bx := [] })
      (cond (N.refKey k false != (0 : Int))
        (some { v := V.bool true, bx := [] })
        (cond (N.refKey o false != (0 : Int))
          (some { v := V.bool true, bx := [] })
          (cond (bif Nat.ble (List.length k) (1000000 : Nat) then Nat.ble (List.length o) (1000000 : Nat) else false)
            (cond (!N.matchW (N.words k) (N.words o) == (k == o))
              (some { v := V.bool false, bx := [] })
              (cond (Nat.ble (List.length k) (1000000 : Nat))
                (cond (!N.matchW (N.words [(35 : UInt8)]) (N.words k))
                  (some { v := V.bool false, bx := [] })
                  (cond (Nat.ble (List.length p) (1000000 : Nat))
                    (cond ((↑(List.length (List.map (fun n => [V.str n]) (N.words p))) : Int) == (0 : Int))
                      (some { v := V.bool true, bx := [] })
                      (cond (bif Nat.ble (List.length p) (1000000 : Nat) then Nat.ble (List.length k) (1000000 : Nat) else false)
                        (cond (!N.matchW (N.words p) (N.words k))
                          (some { v := V.bool true, bx := [] })
                          (cond (decide ((↑(List.length (List.map (fun n => [V.str n]) (N.words p))) : Int) = (0 : Int)))
                            (none)
                            (cond (decide
      ((0 : Int) ≤
          Int.tmod (IntKind.wrap IntKind.i64 at') (↑(List.length (List.map (fun n => [V.str n]) (N.words p))) : Int) ∧
        Int.tmod (IntKind.wrap IntKind.i64 at') (↑(List.length (List.map (fun n => [V.str n]) (N.words p))) : Int) <
          (↑(List.length (List.map (fun n => [V.str n]) (N.words p))) : Int)))
                              (cond (bif
        Nat.ble
          (List.length
            (List.map (fun r => V.toStr (List.getD r (0 : Nat) V.undef))
              (List.set (List.map (fun n => [V.str n]) (N.words p))
                (Int.toNat
                  (Int.tmod (IntKind.wrap IntKind.i64 at')
                    (↑(List.length (List.map (fun n => [V.str n]) (N.words p))) : Int)))
                [V.str [(35 : UInt8)]])))
          (1000000 : Nat) then
      Nat.ble
        (List.length
          (N.joinS [(46 : UInt8)]
            (List.map (fun r => V.toStr (List.getD r (0 : Nat) V.undef))
              (List.set (List.map (fun n => [V.str n]) (N.words p))
                (Int.toNat
                  (Int.tmod (IntKind.wrap IntKind.i64 at')
                    (↑(List.length (List.map (fun n => [V.str n]) (N.words p))) : Int)))
                [V.str [(35 : UInt8)]]))))
        (1000000 : Nat)
    else false)
                                (cond (bif
        Nat.ble
          (List.length
            (N.joinS [(46 : UInt8)]
              (List.map (fun r => V.toStr (List.getD r (0 : Nat) V.undef))
                (List.set (List.map (fun n => [V.str n]) (N.words p))
                  (Int.toNat
                    (Int.tmod (IntKind.wrap IntKind.i64 at')
                      (↑(List.length (List.map (fun n => [V.str n]) (N.words p))) : Int)))
                  [V.str [(35 : UInt8)]]))))
          (1000000 : Nat) then
      Nat.ble (List.length k) (1000000 : Nat)
    else false)
                                  (some
      {
        v :=
          V.bool
            (N.matchW
              (N.words
                (N.joinS [(46 : UInt8)]
                  (List.map (fun r => V.toStr (List.getD r (0 : Nat) V.undef))
                    (List.set (List.map (fun n => [V.str n]) (N.words p))
                      (Int.toNat
                        (Int.tmod (IntKind.wrap IntKind.i64 at')
                          (↑(List.length (List.map (fun n => [V.str n]) (N.words p))) : Int)))
                      [V.str [(35 : UInt8)]]))))
              (N.words k)),
        bx := [] })
                                  (none))
                                (none))
                              (none))))
                        (none)))
                    (none)))
                (none)))
            (none)))) := by kernel_rfl
theorem words_hash : N.words [35] = [[35]] := rfl
theorem M_bool (p k : List Bytes) : N.matchW p k = @decide (M p k) (Classical.propDecidable _) := by
  rw [Bool.eq_iff_iff, matchW_iff]; simp
theorem self_one {k o : Bytes} (hk : KeyOk (N.words k)) : N.matchW (N.words k) (N.words o) = (k == o) := by
  rw [Bool.eq_iff_iff, matchW_iff, M_key hk, beq_iff_eq]
  exact ⟨words_inj, fun h => by rw [h]⟩
theorem self_wide {p k : List Bytes} {i : Nat} (hi : i < p.length) (hf : Free p) (h : N.matchW p k = true) : N.matchW (N.words (N.joinS [46] (p.set i [35]))) k = true := by
  obtain ⟨e1, e2⟩ := set_split hi [35]
  have hfree : Free (p.set i [35]) := fun w hw c hc => by
    rcases List.mem_or_eq_of_mem_set hw with h | h
    · exact hf w h c hc
    · subst h
      have := List.mem_singleton.1 hc
      subst this; decide
  have hne : p.set i [35] ≠ [] := fun e => by
    have := congrArg List.length e
    rw [List.length_set, List.length_nil] at this; omega
  have hj : N.joinS [46] (p.set i [35]) ≠ [] := fun e => by
    have h1 := splitDot_join (p.set i [35]) hne hfree
    rw [e] at h1
    have h2 : p.set i [35] = [[]] := h1.symm
    have h3 : [35] ∈ p.set i [35] := List.mem_set hi _
    rw [h2] at h3
    have := List.mem_singleton.1 h3
    cases this
  rw [words_join hne hfree hj, matchW_iff, e2]
  rw [matchW_iff] at h
  rw [e1] at h
  exact M_wide h
theorem join_small {p : Bytes} (hp : p.length ≤ 64) (i : Nat) : (N.joinS [46] ((N.words p).set i [35])).length ≤ 1000000 := by
  have w1 := (words_small p).1
  have w2 := (words_small p).2
  have := joinS_length [46] 65 ((N.words p).set i [35]) fun w hw => by
    rcases List.mem_or_eq_of_mem_set hw with h | h
    · have := w2 w h; omega
    · subst h; simp
  rw [List.length_set] at this
  have h2 : (N.words p).length * (65 + [(46 : UInt8)].length) ≤ 65 * 66 := Nat.mul_le_mul (by omega) (by simp)
  omega
theorem ok_lawWS : FnOk Tryd.prog 6 (den (aCons vStr (aCons vStr (aCons vStr (aOne (vInt .u8))))) bNil (oV vBool) (fun a _ => cond (ile 0 a.2.2.2) (ile a.2.2.2 255) false) fun _ _ => (true, ())) := by
  refine den_okF (env_ok ((((((TOk.nil _).cons ok_join).cons ok_refSplitO).cons ok_matches).cons ok_refKey).cons ok_awW)) (E := eWS) Tryd.func6 [] (by kernel_rfl) none0 fun a _ h => ?_
  obtain ⟨p, k, o, n⟩ := a
  have g1 := (bcond h).1; replace h := (bcond h).2
  have g1 : 0 ≤ n := ile_of g1
  have g2 : n ≤ 255 := ile_of h
  refine (q_lawWS p k o n).trans ?_
  show _ = some (⟨.bool true, [], []⟩ : DRes)
  cases h1 : N.refKey p true != 0 with
  | true => rfl
  | false =>
  cases h2 : N.refKey k false != 0 with
  | true => rfl
  | false =>
  cases h3 : N.refKey o false != 0 with
  | true => rfl
  | false =>
    have l1 := refKey_len h1
    have l2 := refKey_len h2
    have l3 := refKey_len h3
    have k2 := refKey_key h2
    have w1 := (words_small p).1
    have w2 := (words_small k).1
    have e : ∀ l : List Bytes, (l.map (fun n => [V.str n])).map (fun r => V.toStr (List.getD r 0 V.undef)) = l := fun l => rowsS_enc l
    have e' : ∀ (l : List Bytes) (i : Nat), ((l.map (fun n => [V.str n])).set i [V.str [35]]).map (fun r => V.toStr (List.getD r 0 V.undef)) = l.set i [35] := fun l i => by rw [List.map_set, e]; rfl
    have m1 := self_one (o := o) k2
    have m2 : N.matchW (N.words [35]) (N.words k) = true := by rw [words_hash, matchW_iff]; exact M_all _
    have hf := words_free p
    simp (disch := omega) only [evs, m1, m2, bne, beq_self_eq_true, Bool.not_true]
    cases hl : (((N.words p).length : Int) == 0) with
    | true => rfl
    | false =>
      have hpos : 0 < (N.words p).length := by
        rcases Nat.eq_zero_or_pos (N.words p).length with e | e
        · rw [e] at hl; cases hl
        · exact e
      cases hm : N.matchW (N.words p) (N.words k) with
      | false => simp (disch := omega) only [evs, Bool.not_false]
      | true =>
        have ht : Int.tmod n (N.words p).length = n % (N.words p).length := Int.tmod_eq_emod_of_nonneg g1
        have t1 : 0 ≤ n % (N.words p).length := Int.emod_nonneg _ (by omega)
        have t2 : n % (N.words p).length < (N.words p).length := Int.emod_lt_of_pos _ (by omega)
        have js := join_small (p := p) l1 (n % (N.words p).length).toNat
        have main := self_wide (i := (n % (N.words p).length).toNat) (by omega) hf hm
        simp (disch := omega) only [evs, Bool.not_true, ht, e', main, decide_eq_false]
noncomputable def eWT : Env := env Tryd.prog [(11, dTrueW), (12, dRefKey), (13, dMatches), (21, dWords), (28, dRepeat)] [] []
theorem q_lawWT (n : Int) (k : Bytes) : evFn eWT 7 ((aCons (vInt .u8) (aOne vStr)).enc (n, k)) ([]) some =
    cond (ilt n (1 : Int))
      (some { v := V.bool true, bx := [] })
      (cond (ilt (30 : Int) n)
        (some { v := V.bool true, bx := [] })
        (cond (N.refKey k false != (0 : Int))
          (some { v := V.bool true, bx := [] })
          (cond (bif ile (0 : Int) (IntKind.wrap IntKind.i64 n) then
      bif ile (IntKind.wrap IntKind.i64 n) (1000000 : Int) then true else false
    else false)
            (cond (decide
      ((0 : Int) ≤ (1 : Int) ∧
        (1 : Int) ≤ (↑(List.length (N.rep [(46 : UInt8), (42 : UInt8)] (Int.toNat (IntKind.wrap IntKind.i64 n)))) : Int)))
              (cond (Nat.ble (List.length k) (1000000 : Nat))
                (cond (bif
        Nat.ble
          (List.length
            (List.drop (1 : Nat)
              (List.take (List.length (N.rep [(46 : UInt8), (42 : UInt8)] (Int.toNat (IntKind.wrap IntKind.i64 n))))
                (N.rep [(46 : UInt8), (42 : UInt8)] (Int.toNat (IntKind.wrap IntKind.i64 n))))))
          (1000000 : Nat) then
      Nat.ble (List.length k) (1000000 : Nat)
    else false)
                  (cond (N.matchW
        (N.words
          (List.drop (1 : Nat)
            (List.take (List.length (N.rep [(46 : UInt8), (42 : UInt8)] (Int.toNat (IntKind.wrap IntKind.i64 n))))
              (N.rep [(46 : UInt8), (42 : UInt8)] (Int.toNat (IntKind.wrap IntKind.i64 n))))))
        (N.words k) ==
      ((↑(List.length (List.map (fun n => [V.str n]) (N.words k))) : Int) == IntKind.wrap IntKind.i64 n))
                    (cond (Nat.ble
      (List.length
          (List.drop (1 : Nat)
            (List.take (List.length (N.rep [(46 : UInt8), (42 : UInt8)] (Int.toNat (IntKind.wrap IntKind.i64 n))))
              (N.rep [(46 : UInt8), (42 : UInt8)] (Int.toNat (IntKind.wrap IntKind.i64 n))))) +
        (2 : Nat))
      (9223372036854775807 : Nat))
                      (cond (bif
        Nat.ble
          (List.length
            (List.drop (1 : Nat)
                (List.take (List.length (N.rep [(46 : UInt8), (42 : UInt8)] (Int.toNat (IntKind.wrap IntKind.i64 n))))
                  (N.rep [(46 : UInt8), (42 : UInt8)] (Int.toNat (IntKind.wrap IntKind.i64 n)))) ++
              [(46 : UInt8), (35 : UInt8)]))
          (1000000 : Nat) then
      Nat.ble (List.length k) (1000000 : Nat)
    else false)
                        (some
      {
        v :=
          V.bool
            (N.matchW
                (N.words
                  (List.drop (1 : Nat)
                      (List.take (List.length (N.rep [(46 : UInt8), (42 : UInt8)] (Int.toNat (IntKind.wrap IntKind.i64 n))))
                        (N.rep [(46 : UInt8), (42 : UInt8)] (Int.toNat (IntKind.wrap IntKind.i64 n)))) ++
                    [(46 : UInt8), (35 : UInt8)]))
                (N.words k) ==
              ile (IntKind.wrap IntKind.i64 n) (↑(List.length (List.map (fun n => [V.str n]) (N.words k))) : Int)),
        bx := [] })
                        (none))
                      (none))
                    (some { v := V.bool false, bx := [] }))
                  (none))
                (none))
              (none))
            (none)))) := by kernel_rfl
theorem ok_lawWT : FnOk Tryd.prog 7 (den (aCons (vInt .u8) (aOne vStr)) bNil (oV vBool) (fun _ _ => true) fun _ _ => (true, ())) := by
  refine den_okF (env_ok ((((((TOk.nil _).cons ok_repeat).cons ok_words).cons ok_matches).cons ok_refKey).cons ok_awW)) (E := eWT) Tryd.func7 [] (by kernel_rfl) none0 fun a _ _ => ?_
  obtain ⟨n, k⟩ := a
  refine (q_lawWT n k).trans ?_
  show _ = some (⟨.bool true, [], []⟩ : DRes)
  cases h1 : ilt n 1 with
  | true => rfl
  | false =>
  cases h2 : ilt 30 n with
  | true => rfl
  | false =>
  cases h3 : N.refKey k false != 0 with
  | true => rfl
  | false =>
    have h1 := ilt_nof h1
    have h2 := ilt_nof h2
    have l1 := refKey_len h3
    have w1 := (words_small k).1
    obtain ⟨m, rfl⟩ := Int.eq_ofNat_of_zero_le (show 0 ≤ n by omega)
    have hm : 1 ≤ m := by omega
    have hl : (N.rep [46, 42] m).length = m * 2 := rep_length _ _
    have hd := rep_drop hm
    have hne : List.replicate m star ≠ [] := fun e => by
      have := congrArg List.length e
      rw [List.length_replicate, List.length_nil] at this; omega
    have hj : N.joinS [46] (List.replicate m star) ≠ [] := fun e => by
      rw [← hd] at e
      have := congrArg List.length e
      rw [List.length_drop, hl, List.length_nil] at this; omega
    have hj2 : N.joinS [46] (List.replicate m star) ++ [46, 35] = N.joinS [46] (List.replicate m star ++ [hash]) := by
      cases m with
      | zero => omega
      | succ m =>
        rw [List.replicate_succ]
        show star ++ N.joinTail [46] (List.replicate m star) ++ [46, 35] = star ++ N.joinTail [46] (List.replicate m star ++ [hash])
        rw [joinTail_append, List.append_assoc]; rfl
    have f2 : Free (List.replicate m star ++ [hash]) := fun w hw c hc => by
      rcases List.mem_append.1 hw with h | h
      · exact stars_free m w h c hc
      · have := List.mem_singleton.1 h
        subst this
        have := List.mem_singleton.1 hc
        subst this; decide
    have m1 : N.matchW (N.words (N.joinS [46] (List.replicate m star))) (N.words k) = (((N.words k).length : Int) == m) := by
      rw [words_join hne (stars_free m) hj, Bool.eq_iff_iff, matchW_iff, M_stars, beq_iff_eq]; omega
    have m2 : N.matchW (N.words (N.joinS [46] (List.replicate m star ++ [hash]))) (N.words k) = ile m (N.words k).length := by
      rw [words_join (by simp) f2 (by rw [← hj2]; simp), Bool.eq_iff_iff, matchW_iff, M_stars_hash, ile_eq, decide_eq_true_iff]; omega
    have hl2 : (N.joinS [46] (List.replicate m star)).length = m * 2 - 1 := by rw [← hd, List.length_drop, hl]
    have tk : List.take (m * 2) (N.rep [46, 42] m) = N.rep [46, 42] m := by rw [← hl, List.take_length]
    simp (disch := omega) only [evs, Int.toNat_natCast, tk, hd, hl, hl2, m1, beq_self_eq_true, List.length_cons, List.length_nil]
    rw [hj2, m2]
    simp (disch := omega) only [evs, beq_self_eq_true]
theorem u8_wf {n : Int} (h : wfL ((rInt .u8).enc n) = true) : cond (ile 0 n) (ile n 255) false = true := by
  have h : cond ((Lit.int .u8 n).wf) true false = true := h
  obtain ⟨h1, _⟩ := bcond h
  simp only [Lit.wf, IntKind.min, IntKind.max, IntKind.signed, IntKind.bits, Bool.and_eq_true] at h1
  simp at h1
  rw [ile_t h1.1, ile_t (by omega)]; rfl
end Go.Ev
