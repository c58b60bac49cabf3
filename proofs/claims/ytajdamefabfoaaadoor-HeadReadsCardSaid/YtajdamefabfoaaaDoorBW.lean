/- The program's functions on words answer what the plain ones do: lemmas, no condition. -/
import Derived.Test.YtajdamefabfoaaaDoorRW
import Derived.Test.YtajdamefabfoaaaDoorProg
import Derived.KernelRfl
import Derived.Lib.Bytealg
namespace Go.Ev
open Go Go.Proofs
set_option maxRecDepth 100000

noncomputable def eLetter : Env := env Tryd.prog [] [] []
theorem q_letter (c : Int) : evFn eLetter 45 ((aOne (vInt .u8)).enc c) ([]) some =
    cond (ile (97 : Int) c)
      (cond (ile c (122 : Int))
        (some { v := V.bool true, bx := [] })
        (cond (ile (48 : Int) c)
          (cond (ile c (57 : Int))
            (some { v := V.bool true, bx := [] })
            (cond (c == (45 : Int))
              (some { v := V.bool true, bx := [] })
              (some { v := V.bool (c == (95 : Int)), bx := [] })))
          (cond (c == (45 : Int))
            (some { v := V.bool true, bx := [] })
            (some { v := V.bool (c == (95 : Int)), bx := [] }))))
      (cond (ile (48 : Int) c)
        (cond (ile c (57 : Int))
          (some { v := V.bool true, bx := [] })
          (cond (c == (45 : Int))
            (some { v := V.bool true, bx := [] })
            (some { v := V.bool (c == (95 : Int)), bx := [] })))
        (cond (c == (45 : Int))
          (some { v := V.bool true, bx := [] })
          (some { v := V.bool (c == (95 : Int)), bx := [] }))) := by kernel_rfl
theorem ok_letter : FnOk Tryd.prog 45 dLetter := by
  refine den_okF (env_ok (TOk.nil _)) (E := eLetter) Tryd.func45 [] (by kernel_rfl) none0 fun c _ _ => ?_
  refine (q_letter c).trans ?_
  show _ = some (⟨.bool (N.letterI c), [], []⟩ : DRes)
  unfold N.letterI
  cases ile 97 c <;> cases ile c 122 <;> cases ile 48 c <;> cases ile c 57 <;> cases c == 45 <;> rfl
theorem plain_cons (c : UInt8) (r : Bytes) : N.plain (c :: r) = cond (N.letterI c.toNat) (N.plain r) false := by
  show (N.letter c && N.plain r) = _
  unfold N.letter
  cases N.letterI c.toNat <;> rfl
def schPlain : SSch := { fr := [(0, .str), (6, .int .i64), (7, .int .i64)], tab := [] }
def gPlain : List Leaf → (Ex → St → Option R) → Option R
  | [.s s0, .i i6, .i i7], K => cond (i6 == s0.length) (cond (ile 0 i7) (cond (Nat.ble s0.length LIM) (cond (N.plain (s0.drop i7.toNat)) (K (.exit 0) { fr := [], tab := [] }) (K .ret { fr := [(2, .bool false)], tab := [] })) none) none) none
  | _, _ => none
noncomputable def ePlain : Env := env Tryd.prog [] [(2, loopF schPlain gPlain)] [(2, [(0, [0, 6, 7]), (1, []), (1000, [2])])]
theorem q_plain (s : Bytes) : evFn ePlain 46 ((aOne vStr).enc s) ([]) some =
    cond ((↑(List.length s) : Int) == (↑(List.length s) : Int))
      (cond (Nat.ble (List.length s) (1000000 : Nat))
        (cond (N.plain (List.drop (0 : Nat) s))
          (some { v := V.bool true, bx := [] })
          (some { v := V.bool false, bx := [] }))
        (none))
      (none) := by kernel_rfl
theorem q_plainR (s0 : Bytes) (i6 : Int) (i7 : Int) (K : Ex → St → Option R) : evRound ePlain 46 2 { fr := [(0, .str s0), (6, .int .i64 i6), (7, .int .i64 i7)], tab := [] } K =
    cond (ilt i7 i6)
      (cond (decide ((0 : Int) ≤ i7 ∧ i7 < (↑(List.length s0) : Int)))
        (cond (ile (97 : Int) (↑(UInt8.toNat (List.getD s0 (Int.toNat i7) (0 : UInt8))) : Int))
          (cond (ile (↑(UInt8.toNat (List.getD s0 (Int.toNat i7) (0 : UInt8))) : Int) (122 : Int))
            (cond (ile (↑(UInt8.toNat (List.getD s0 (Int.toNat i7) (0 : UInt8))) : Int) (122 : Int))
              (K Ex.normal
      {
        fr :=
          [((0 : Nat), V.str s0), ((6 : Nat), V.int IntKind.i64 i6),
            ((7 : Nat), V.int IntKind.i64 (IntKind.wrap IntKind.i64 (i7 + (1 : Int))))],
        tab := [] })
              (K Ex.ret { fr := [((2 : Nat), V.bool false)], tab := [] }))
            (cond (ile (48 : Int) (↑(UInt8.toNat (List.getD s0 (Int.toNat i7) (0 : UInt8))) : Int))
              (cond (ile (↑(UInt8.toNat (List.getD s0 (Int.toNat i7) (0 : UInt8))) : Int) (57 : Int))
                (cond (ile (↑(UInt8.toNat (List.getD s0 (Int.toNat i7) (0 : UInt8))) : Int) (57 : Int))
                  (K Ex.normal
      {
        fr :=
          [((0 : Nat), V.str s0), ((6 : Nat), V.int IntKind.i64 i6),
            ((7 : Nat), V.int IntKind.i64 (IntKind.wrap IntKind.i64 (i7 + (1 : Int))))],
        tab := [] })
                  (K Ex.ret { fr := [((2 : Nat), V.bool false)], tab := [] }))
                (cond ((↑(UInt8.toNat (List.getD s0 (Int.toNat i7) (0 : UInt8))) : Int) == (45 : Int))
                  (cond ((↑(UInt8.toNat (List.getD s0 (Int.toNat i7) (0 : UInt8))) : Int) == (45 : Int))
                    (K Ex.normal
      {
        fr :=
          [((0 : Nat), V.str s0), ((6 : Nat), V.int IntKind.i64 i6),
            ((7 : Nat), V.int IntKind.i64 (IntKind.wrap IntKind.i64 (i7 + (1 : Int))))],
        tab := [] })
                    (K Ex.ret { fr := [((2 : Nat), V.bool false)], tab := [] }))
                  (cond ((↑(UInt8.toNat (List.getD s0 (Int.toNat i7) (0 : UInt8))) : Int) == (95 : Int))
                    (K Ex.normal
      {
        fr :=
          [((0 : Nat), V.str s0), ((6 : Nat), V.int IntKind.i64 i6),
            ((7 : Nat), V.int IntKind.i64 (IntKind.wrap IntKind.i64 (i7 + (1 : Int))))],
        tab := [] })
                    (K Ex.ret { fr := [((2 : Nat), V.bool false)], tab := [] }))))
              (cond ((↑(UInt8.toNat (List.getD s0 (Int.toNat i7) (0 : UInt8))) : Int) == (45 : Int))
                (cond ((↑(UInt8.toNat (List.getD s0 (Int.toNat i7) (0 : UInt8))) : Int) == (45 : Int))
                  (K Ex.normal
      {
        fr :=
          [((0 : Nat), V.str s0), ((6 : Nat), V.int IntKind.i64 i6),
            ((7 : Nat), V.int IntKind.i64 (IntKind.wrap IntKind.i64 (i7 + (1 : Int))))],
        tab := [] })
                  (K Ex.ret { fr := [((2 : Nat), V.bool false)], tab := [] }))
                (cond ((↑(UInt8.toNat (List.getD s0 (Int.toNat i7) (0 : UInt8))) : Int) == (95 : Int))
                  (K Ex.normal
      {
        fr :=
          [((0 : Nat), V.str s0), ((6 : Nat), V.int IntKind.i64 i6),
            ((7 : Nat), V.int IntKind.i64 (IntKind.wrap IntKind.i64 (i7 + (1 : Int))))],
        tab := [] })
                  (K Ex.ret { fr := [((2 : Nat), V.bool false)], tab := [] })))))
          (cond (ile (48 : Int) (↑(UInt8.toNat (List.getD s0 (Int.toNat i7) (0 : UInt8))) : Int))
            (cond (ile (↑(UInt8.toNat (List.getD s0 (Int.toNat i7) (0 : UInt8))) : Int) (57 : Int))
              (cond (ile (↑(UInt8.toNat (List.getD s0 (Int.toNat i7) (0 : UInt8))) : Int) (57 : Int))
                (K Ex.normal
      {
        fr :=
          [((0 : Nat), V.str s0), ((6 : Nat), V.int IntKind.i64 i6),
            ((7 : Nat), V.int IntKind.i64 (IntKind.wrap IntKind.i64 (i7 + (1 : Int))))],
        tab := [] })
                (K Ex.ret { fr := [((2 : Nat), V.bool false)], tab := [] }))
              (cond ((↑(UInt8.toNat (List.getD s0 (Int.toNat i7) (0 : UInt8))) : Int) == (45 : Int))
                (cond ((↑(UInt8.toNat (List.getD s0 (Int.toNat i7) (0 : UInt8))) : Int) == (45 : Int))
                  (K Ex.normal
      {
        fr :=
          [((0 : Nat), V.str s0), ((6 : Nat), V.int IntKind.i64 i6),
            ((7 : Nat), V.int IntKind.i64 (IntKind.wrap IntKind.i64 (i7 + (1 : Int))))],
        tab := [] })
                  (K Ex.ret { fr := [((2 : Nat), V.bool false)], tab := [] }))
                (cond ((↑(UInt8.toNat (List.getD s0 (Int.toNat i7) (0 : UInt8))) : Int) == (95 : Int))
                  (K Ex.normal
      {
        fr :=
          [((0 : Nat), V.str s0), ((6 : Nat), V.int IntKind.i64 i6),
            ((7 : Nat), V.int IntKind.i64 (IntKind.wrap IntKind.i64 (i7 + (1 : Int))))],
        tab := [] })
                  (K Ex.ret { fr := [((2 : Nat), V.bool false)], tab := [] }))))
            (cond ((↑(UInt8.toNat (List.getD s0 (Int.toNat i7) (0 : UInt8))) : Int) == (45 : Int))
              (cond ((↑(UInt8.toNat (List.getD s0 (Int.toNat i7) (0 : UInt8))) : Int) == (45 : Int))
                (K Ex.normal
      {
        fr :=
          [((0 : Nat), V.str s0), ((6 : Nat), V.int IntKind.i64 i6),
            ((7 : Nat), V.int IntKind.i64 (IntKind.wrap IntKind.i64 (i7 + (1 : Int))))],
        tab := [] })
                (K Ex.ret { fr := [((2 : Nat), V.bool false)], tab := [] }))
              (cond ((↑(UInt8.toNat (List.getD s0 (Int.toNat i7) (0 : UInt8))) : Int) == (95 : Int))
                (K Ex.normal
      {
        fr :=
          [((0 : Nat), V.str s0), ((6 : Nat), V.int IntKind.i64 i6),
            ((7 : Nat), V.int IntKind.i64 (IntKind.wrap IntKind.i64 (i7 + (1 : Int))))],
        tab := [] })
                (K Ex.ret { fr := [((2 : Nat), V.bool false)], tab := [] })))))
        (none))
      (K (Ex.exit (0 : Nat)) { fr := [], tab := [] }) := by kernel_rfl
theorem ok_plain : FnOk Tryd.prog 46 dPlain := by
  refine den_okF (env_ok (TOk.nil _)) (E := ePlain) Tryd.func46 [2] (by kernel_rfl) (one1 (rounds_of rfl fun l K q h => ?_)) fun s _ h => ?_
  · unfold gPlain at h
    split at h
    · rename_i s n i
      have h1 := (cond_none h).1; replace h := (cond_none h).2; have h2 := (cond_none h).1; replace h := (cond_none h).2; have h3 := (cond_none h).1; replace h := (cond_none h).2
      have h1 := ieq_of h1
      subst h1
      have h3 : s.length ≤ 1000000 := ble_of h3
      refine loop_ind (E := ePlain) (f := 46) (id := 2) (fun i : Int => { fr := [(0, .str s), (6, .int .i64 s.length), (7, .int .i64 i)], tab := [] }) (fun i => 0 ≤ i) (fun i => s.length - i.toNat)
        (fun i K => cond (N.plain (s.drop i.toNat)) (K (.exit 0) { fr := [], tab := [] }) (K .ret { fr := [(2, .bool false)], tab := [] })) (fun i hi => ?_) i (ile_of h2) K q h
      by_cases hl : i < s.length
      · rw [drop_byte (show i.toNat < s.length by omega), plain_cons]
        cases hc : N.letterI (s.getD i.toNat 0).toNat with
        | true =>
          refine .inl ⟨i + 1, by omega, by omega, fun K => ?_, fun K => ?_⟩
          · rw [q_plainR]
            simp (disch := omega) only [evs]
            revert hc
            unfold N.letterI
            cases ile 97 (s.getD i.toNat 0).toNat <;> cases ile (s.getD i.toNat 0).toNat 122 <;> cases ile 48 (s.getD i.toNat 0).toNat <;> cases ile (s.getD i.toNat 0).toNat 57 <;> cases ((s.getD i.toNat 0).toNat : Int) == 45 <;> cases ((s.getD i.toNat 0).toNat : Int) == 95 <;> intro hc <;> first | rfl | cases hc
          · rw [cond_true, show (i + 1).toNat = i.toNat + 1 by omega]
        | false =>
          refine .inr ⟨.ret, _, by simp, fun K => ?_, fun K => rfl⟩
          rw [q_plainR]
          simp (disch := omega) only [evs]
          revert hc
          unfold N.letterI
          cases ile 97 (s.getD i.toNat 0).toNat <;> cases ile (s.getD i.toNat 0).toNat 122 <;> cases ile 48 (s.getD i.toNat 0).toNat <;> cases ile (s.getD i.toNat 0).toNat 57 <;> cases ((s.getD i.toNat 0).toNat : Int) == 45 <;> cases ((s.getD i.toNat 0).toNat : Int) == 95 <;> intro hc <;> first | rfl | cases hc
      · refine .inr ⟨.exit 0, { fr := [], tab := [] }, by simp, fun K => ?_, fun K => ?_⟩
        · rw [q_plainR]
          simp (disch := omega) only [evs]
        · rw [List.drop_eq_nil_of_le (by omega)]; rfl
    · cases h
  · refine (q_plain s).trans ?_
    have h : s.length ≤ 1000000 := ble_of h
    show _ = some (⟨.bool (N.plain s), [], []⟩ : DRes)
    simp (disch := omega) only [evs, List.drop_zero]
    cases N.plain s <;> rfl
def schRefSplit : SSch := { fr := [(0, .str), (3, .own 10000), (4, .int .i64), (5, .int .i64)], tab := [(10000, .sl [.str])] }
def gRefSplit : List Leaf → (Ex → St → Option R) → Option R
  | [.s s0, .i i4, .i i5, .r rx0], K => cond (Nat.ble s0.length LIM) (cond (ile 0 i4) (cond (ile i4 i5) (cond (ile i5 s0.length) (cond (Nat.ble (rx0.length + (s0.length - i5.toNat)) (LIM + 1))
      (K (.exit 0) { fr := [(0, .str s0), (3, .own 10000 0), (4, .int .i64 (N.spl s0 (s0.length - i5.toNat) i5 i4 rx0).1)], tab := [(10000, .sl [.str] (N.spl s0 (s0.length - i5.toNat) i5 i4 rx0).2 0)] }) none) none) none) none) none
  | _, _ => none
noncomputable def eRefSplit : Env := env Tryd.prog [] [(6, loopF schRefSplit gRefSplit)] [(6, [(0, [0, 3, 4, 5]), (1, [0, 3, 4]), (1000, [2])])]
theorem q_refSplit (s : Bytes) : evFn eRefSplit 15 ((aOne vStr).enc s) ([]) some =
    cond ((↑(List.length s) : Int) == (0 : Int))
      (some { v := V.slc [Sh.str] [], bx := [] })
      (cond (Nat.ble (List.length s) (1000000 : Nat))
        (cond (Nat.ble ((0 : Nat) + (List.length s - (0 : Nat))) (1000001 : Nat))
          (cond (decide
      ((0 : Int) ≤ Prod.fst (N.spl s (List.length s - (0 : Nat)) (0 : Int) (0 : Int) []) ∧
        Prod.fst (N.spl s (List.length s - (0 : Nat)) (0 : Int) (0 : Int) []) ≤ (↑(List.length s) : Int)))
            (cond (decide
      ((List.length (Prod.snd (N.spl s (List.length s - (0 : Nat)) (0 : Int) (0 : Int) [])) + (1 : Nat)) * (16 : Nat) ≤
        (140737488355328 : Nat)))
              (some
      {
        v :=
          V.slc [Sh.str]
            (Prod.snd (N.spl s (List.length s - (0 : Nat)) (0 : Int) (0 : Int) []) ++
              [[V.str
                    (List.drop (Int.toNat (Prod.fst (N.spl s (List.length s - (0 : Nat)) (0 : Int) (0 : Int) [])))
                      (List.take (List.length s) s))]]),
        bx := [] })
              (none))
            (none))
          (none))
        (none)) := by kernel_rfl
theorem q_refSplitR (s0 : Bytes) (i4 : Int) (i5 : Int) (rx0 : List (List V)) (K : Ex → St → Option R) : evRound eRefSplit 15 6 { fr := [(0, .str s0), (3, .own 10000 0), (4, .int .i64 i4), (5, .int .i64 i5)], tab := [(10000, .sl [.str] rx0 0)] } K =
    cond (ilt i5 (↑(List.length s0) : Int))
      (cond (decide ((0 : Int) ≤ i5 ∧ i5 < (↑(List.length s0) : Int)))
        (cond ((↑(UInt8.toNat (List.getD s0 (Int.toNat i5) (0 : UInt8))) : Int) == (46 : Int))
          (cond (decide ((0 : Int) ≤ i5 ∧ i5 ≤ (↑(List.length s0) : Int)))
            (cond (decide ((0 : Int) ≤ i4 ∧ i4 ≤ (↑(Int.toNat i5) : Int)))
              (cond (decide ((List.length rx0 + (1 : Nat)) * (16 : Nat) ≤ (140737488355328 : Nat)))
                (K Ex.normal
      {
        fr :=
          [((0 : Nat), V.str s0), ((3 : Nat), V.own (10000 : Nat) (0 : Nat)),
            ((4 : Nat), V.int IntKind.i64 (IntKind.wrap IntKind.i64 (i5 + (1 : Int)))),
            ((5 : Nat), V.int IntKind.i64 (IntKind.wrap IntKind.i64 (i5 + (1 : Int))))],
        tab :=
          [((10000 : Nat),
              Box.sl [Sh.str] (rx0 ++ [[V.str (List.drop (Int.toNat i4) (List.take (Int.toNat i5) s0))]]) (0 : Nat))] })
                (none))
              (none))
            (none))
          (K Ex.normal
      {
        fr :=
          [((0 : Nat), V.str s0), ((3 : Nat), V.own (10000 : Nat) (0 : Nat)), ((4 : Nat), V.int IntKind.i64 i4),
            ((5 : Nat), V.int IntKind.i64 (IntKind.wrap IntKind.i64 (i5 + (1 : Int))))],
        tab := [((10000 : Nat), Box.sl [Sh.str] rx0 (0 : Nat))] }))
        (none))
      (K (Ex.exit (0 : Nat))
      { fr := [((0 : Nat), V.str s0), ((3 : Nat), V.own (10000 : Nat) (0 : Nat)), ((4 : Nat), V.int IntKind.i64 i4)],
        tab := [((10000 : Nat), Box.sl [Sh.str] rx0 (0 : Nat))] }) := by kernel_rfl
theorem ok_refSplit : FnOk Tryd.prog 15 dWords := by
  refine den_okF (env_ok (TOk.nil _)) (E := eRefSplit) Tryd.func15 [6] (by kernel_rfl) (one1 (rounds_of rfl fun l K q h => ?_)) fun s _ h => ?_
  · unfold gRefSplit at h
    split at h
    · rename_i s fr i rows
      have h1 := (cond_none h).1; replace h := (cond_none h).2; have h2 := (cond_none h).1; replace h := (cond_none h).2; have h3 := (cond_none h).1; replace h := (cond_none h).2; have h4 := (cond_none h).1; replace h := (cond_none h).2; have h5 := (cond_none h).1; replace h := (cond_none h).2
      have h1 : s.length ≤ 1000000 := ble_of h1
      have h5 : rows.length + (s.length - i.toNat) ≤ 1000001 := ble_of h5
      refine loop_ind (E := eRefSplit) (f := 15) (id := 6) (σ := Int × Int × List (List V)) (fun x => { fr := [(0, .str s), (3, .own 10000 0), (4, .int .i64 x.1), (5, .int .i64 x.2.1)], tab := [(10000, .sl [.str] x.2.2 0)] })
        (fun x => 0 ≤ x.1 ∧ x.1 ≤ x.2.1 ∧ x.2.1 ≤ s.length ∧ x.2.2.length + (s.length - x.2.1.toNat) ≤ 1000001) (fun x => s.length - x.2.1.toNat)
        (fun x K => K (.exit 0) { fr := [(0, .str s), (3, .own 10000 0), (4, .int .i64 (N.spl s (s.length - x.2.1.toNat) x.2.1 x.1 x.2.2).1)], tab := [(10000, .sl [.str] (N.spl s (s.length - x.2.1.toNat) x.2.1 x.1 x.2.2).2 0)] }) ?_ (fr, i, rows)
        ⟨ile_of h2, ile_of h3, ile_of h4, h5⟩ K q h
      rintro ⟨fr, i, rows⟩ ⟨h2, h3, h4, h5⟩
      simp only at h2 h3 h4 h5 ⊢
      by_cases hl : i < s.length
      · have e : s.length - i.toNat = (s.length - (i + 1).toNat) + 1 := by omega
        rw [e]
        simp only [N.spl]
        cases hc : (((s.getD i.toNat 0).toNat : Int) == 46) with
        | true =>
          refine .inl ⟨(i + 1, i + 1, rows ++ [[.str ((s.take i.toNat).drop fr.toNat)]]), ⟨by simp only; omega, by simp only; omega, by simp only; omega, by simp only [List.length_append, List.length_cons, List.length_nil]; omega⟩, by simp only; omega, fun K => ?_, fun K => rfl⟩
          rw [q_refSplitR]
          simp (disch := omega) only [evs, hc]
        | false =>
          refine .inl ⟨(fr, i + 1, rows), ⟨by simp only; omega, by simp only; omega, by simp only; omega, by simp only; omega⟩, by simp only; omega, fun K => ?_, fun K => rfl⟩
          rw [q_refSplitR]
          simp (disch := omega) only [evs, hc]
      · refine .inr ⟨.exit 0, _, by simp, fun K => ?_, fun K => rfl⟩
        rw [q_refSplitR, show s.length - i.toNat = 0 by omega]
        simp (disch := omega) only [evs, N.spl]
    · cases h
  · refine (q_refSplit s).trans ?_
    have h : s.length ≤ 1000000 := ble_of h
    show _ = some (⟨.slc [.str] ((N.words s).map rStr.enc), [], []⟩ : DRes)
    cases s with
    | nil => rfl
    | cons c r =>
      generalize hs : c :: r = s at *
      have hpos : 0 < s.length := by rw [← hs]; simp
      have hw : N.words s = N.splitDot s := by rw [← hs]; rfl
      obtain ⟨g1, g2, g3⟩ := spl_ok s s.length 0 0 [] (by omega) (by omega) (by omega)
      have g4 := spl_len s s.length 0 0 []
      simp only [List.length_nil, Nat.zero_add] at g4
      simp (disch := omega) only [evs, Nat.sub_zero, Nat.zero_add]
      rw [List.take_length, g3, hw]
      simp only [Int.toNat_zero, List.drop_zero, List.take_zero, List.nil_append]
      cases h : N.splitDot s with
      | nil => exact absurd h (splitDot_ne _)
      | cons w ws => rfl
noncomputable def eDot1 : Env := env Tryd.prog [(116, dDot1)] [] []
theorem q_dot1 (s : Bytes) : evFn eDot1 107 ((aCons vStr (aOne (vInt .u8))).enc (s, 46)) ([]) some =
    some { v := V.int IntKind.i64 (N.dot s), bx := [] } := by kernel_rfl
theorem dot_eq (s : Bytes) : Lib.indexByte s 46 = N.dot s := by
  induction s with
  | nil => rfl
  | cons c r ih =>
    unfold Lib.indexByte N.dot
    rw [ih]
    cases c == 46 <;> cases N.dot r == -1 <;> rfl
/-- An entry of the model's that looks at its arguments alone. -/
theorem entry_ok {P : Program} {f : FuncId} {vs : List V} {D : Den} (v : V) (x : Value) (hv : ∀ w I ρ, Rv w I ρ v x) (xs : List Value) (hx : ∀ w I ρ ys, AllRv w I ρ vs ys → ys = xs) (hD : ∀ a b, D.pre a b = true → a = vs ∧ b = [] ∧ D.res a b = ⟨v, [], []⟩)
    (h : ∀ w, (callFunc f xs.toArray).run P w = .ok (.value x) w) : FnOk P f D := fun a b hp w J locs ys hl hJ hr _ _ _ => by
  obtain ⟨rfl, rfl, e⟩ := hD a b hp
  obtain rfl := hx _ _ _ _ hr
  refine .inr ⟨x, w, h w, J, ?_⟩
  rw [e]
  exact ⟨Keeps.refl _ _, fun _ _ h => h, hJ, fun _ _ h _ => h, rfl, fun j cs cs' p h1 => by simp at h1, .inl ⟨rfl, hv _ _ _⟩⟩
theorem two_args {s : Bytes} {w : World} {I : Nat → Nat → Prop} {ρ : Nat → Option Real} {ys : List Value} (h : AllRv w I ρ [.str s, .int .u8 46] ys) : ys = [.string ⟨s.toArray⟩, .int .u8 46] := by
  obtain ⟨x, xs, rfl, h1, h2⟩ := h.uncons
  obtain ⟨y, rfl, h3⟩ := h2.one
  rw [h1.str_inv, h3.int_inv]
theorem ok_dotE : FnOk Tryd.prog 116 dDot1 := by
  refine den_of fun a u h => ?_
  obtain ⟨s, c⟩ := a
  have h : c = 46 := ieq_of h
  subst h
  refine entry_ok (vs := [.str s, .int .u8 46]) (.int .i64 (N.dot s)) (.int .i64 (N.dot s)) (fun _ _ _ => .dat (.int _ _)) [.string ⟨s.toArray⟩, .int .u8 46] (fun _ _ _ _ h => two_args h) (fun a b h => ?_) fun w => ?_
  · have h : a = (aCons vStr (aOne (vInt .u8))).enc (s, 46) ∧ b = bNil.enc u := by simpa using h
    exact ⟨h.1, h.2, rfl⟩
  · rw [run_callFunc_extern Tryd.func116 (by kernel_rfl) (by kernel_rfl) (by kernel_rfl) (e := Extern.BytealgIndexByte.indexByte) (by kernel_rfl), Lib.run_indexByteString]
    simp only [Result.andThen]
    have : Lib.indexByte (ByteArray.mk s.toArray).data.toList (Int.toNat 46).toUInt8 = N.dot s := dot_eq s
    rw [this]
theorem ok_dotsE : FnOk Tryd.prog 100 dDots1 := by
  refine den_of fun a u h => ?_
  obtain ⟨s, c⟩ := a
  have h : c = 46 := ieq_of h
  subst h
  refine entry_ok (vs := [.str s, .int .u8 46]) (.int .i64 (N.dots s)) (.int .i64 (N.dots s)) (fun _ _ _ => .dat (.int _ _)) [.string ⟨s.toArray⟩, .int .u8 46] (fun _ _ _ _ h => two_args h) (fun a b h => ?_) fun w => ?_
  · have h : a = (aCons vStr (aOne (vInt .u8))).enc (s, 46) ∧ b = bNil.enc u := by simpa using h
    exact ⟨h.1, h.2, rfl⟩
  · rw [run_callFunc_extern Tryd.func100 (by kernel_rfl) (by kernel_rfl) (by kernel_rfl) (e := Extern.BytealgCount.count) (by kernel_rfl), Lib.run_countString]
    rfl
theorem ok_dot1 : FnOk Tryd.prog 107 dDot1 := by
  refine den_okF (env_ok ((TOk.nil _).cons ok_dotE)) (E := eDot1) Tryd.func107 [] (by kernel_rfl) none0 fun a _ h => ?_
  obtain ⟨s, c⟩ := a
  have h : c = 46 := ieq_of h
  subst h
  exact q_dot1 s
noncomputable def eDotL : Env := env Tryd.prog [(107, dDot1)] [(15, fun _ _ => none)] []
theorem q_dotL (s : Bytes) : evFn eDotL 101 ((aCons vStr (aOne vStr)).enc (s, [46])) ([]) some =
    cond ([(46 : UInt8)] == s)
      (some { v := V.int IntKind.i64 (0 : Int), bx := [] })
      (some { v := V.int IntKind.i64 (N.dot s), bx := [] }) := by kernel_rfl
theorem ok_dotL : FnOk Tryd.prog 101 dDot := by
  refine den_okF (env_ok ((TOk.nil _).cons ok_dot1)) (E := eDotL) Tryd.func101 [15] (by kernel_rfl) (one1 (rounds_none rfl)) fun a _ h => ?_
  obtain ⟨s, c⟩ := a
  have h : c = [46] := by simpa using h
  subst h
  refine (q_dotL s).trans ?_
  cases e : ([46] == s) with
  | true =>
    have e : [46] = s := by simpa using e
    subst e; rfl
  | false => rfl
noncomputable def eDot : Env := env Tryd.prog [(101, dDot)] [] []
theorem q_dot (s : Bytes) : evFn eDot 94 ((aCons vStr (aOne vStr)).enc (s, [46])) ([]) some =
    some { v := V.int IntKind.i64 (N.dot s), bx := [] } := by kernel_rfl
theorem ok_dot : FnOk Tryd.prog 94 dDot := by
  refine den_okF (env_ok ((TOk.nil _).cons ok_dotL)) (E := eDot) Tryd.func94 [] (by kernel_rfl) none0 fun a _ h => ?_
  obtain ⟨s, c⟩ := a
  have h : c = [46] := by simpa using h
  subst h
  exact q_dot s
noncomputable def eDots : Env := env Tryd.prog [(100, dDots1)] [(6, fun _ _ => none)] []
theorem q_dots (s : Bytes) : evFn eDots 93 ((aCons vStr (aOne vStr)).enc (s, [46])) ([]) some =
    some { v := V.int IntKind.i64 (N.dots s), bx := [] } := by kernel_rfl
theorem ok_dots : FnOk Tryd.prog 93 dDots := by
  refine den_okF (env_ok ((TOk.nil _).cons ok_dotsE)) (E := eDots) Tryd.func93 [6] (by kernel_rfl) (one1 (rounds_none rfl)) fun a _ h => ?_
  obtain ⟨s, c⟩ := a
  have h : c = [46] := by simpa using h
  subst h
  exact q_dots s
def schGen : SSch := { fr := [(0, .str), (1, .str), (2, .int .i64), (3, .int .i64), (9, .own 10000), (10, .int .i64)], tab := [(10000, .sl [.str])] }
def gGen : List Leaf → (Ex → St → Option R) → Option R
  | [.s s0, .s s1, .i i2, .i i3, .i i10, .r rx0], K => cond (s1 == [46]) (cond (i2 == 0) (cond (ile 0 i10) (cond (ile i10 i3) (cond (i3 + 1 == rx0.length) (cond (Nat.ble s0.length LIM) (cond (Nat.ble rx0.length (LIM + 1))
      (K (.exit 0) { fr := [(0, .str (N.gen (i3 - i10).toNat s0 i10 rx0).1), (9, .own 10000 0), (10, .int .i64 (N.gen (i3 - i10).toNat s0 i10 rx0).2.1)], tab := [(10000, .sl [.str] (N.gen (i3 - i10).toNat s0 i10 rx0).2.2 0)] }) none) none) none) none) none) none) none
  | _, _ => none
noncomputable def eGen : Env := env Tryd.prog [(93, dDots), (94, dDot)] [(11, loopF schGen gGen)] [(11, [(0, [0, 1, 2, 3, 9, 10]), (1, [0, 9, 10]), (1000, [8])])]
theorem q_gen (s : Bytes) : evFn eGen 79 ((aCons vStr (aCons vStr (aCons (vInt .i64) (aOne (vInt .i64))))).enc (s, [46], 0, -1)) ([]) some =
    cond (decide
      (((0 : Int) ≤
          bif
              ilt (IntKind.wrap IntKind.i64 ((↑(List.length s) : Int) + (1 : Int)))
                (IntKind.wrap IntKind.i64 (N.dots s + (1 : Int))) then
            IntKind.wrap IntKind.i64 ((↑(List.length s) : Int) + (1 : Int))
          else IntKind.wrap IntKind.i64 (N.dots s + (1 : Int))) ∧
        ((bif
                ilt (IntKind.wrap IntKind.i64 ((↑(List.length s) : Int) + (1 : Int)))
                  (IntKind.wrap IntKind.i64 (N.dots s + (1 : Int))) then
              IntKind.wrap IntKind.i64 ((↑(List.length s) : Int) + (1 : Int))
            else IntKind.wrap IntKind.i64 (N.dots s + (1 : Int))) =
            bif
                ilt (IntKind.wrap IntKind.i64 ((↑(List.length s) : Int) + (1 : Int)))
                  (IntKind.wrap IntKind.i64 (N.dots s + (1 : Int))) then
              IntKind.wrap IntKind.i64 ((↑(List.length s) : Int) + (1 : Int))
            else IntKind.wrap IntKind.i64 (N.dots s + (1 : Int))) ∧
          (bif
                    ilt (IntKind.wrap IntKind.i64 ((↑(List.length s) : Int) + (1 : Int)))
                      (IntKind.wrap IntKind.i64 (N.dots s + (1 : Int))) then
                  IntKind.wrap IntKind.i64 ((↑(List.length s) : Int) + (1 : Int))
                else IntKind.wrap IntKind.i64 (N.dots s + (1 : Int))) *
                (↑(16 : Nat) : Int) ≤
              (140737488355328 : Int) ∧
            (bif
                  ilt (IntKind.wrap IntKind.i64 ((↑(List.length s) : Int) + (1 : Int)))
                    (IntKind.wrap IntKind.i64 (N.dots s + (1 : Int))) then
                IntKind.wrap IntKind.i64 ((↑(List.length s) : Int) + (1 : Int))
              else IntKind.wrap IntKind.i64 (N.dots s + (1 : Int))) ≤
              (140737488355328 : Int)))
      (cond (ile (0 : Int)
      (IntKind.wrap IntKind.i64
        ((bif
              ilt (IntKind.wrap IntKind.i64 ((↑(List.length s) : Int) + (1 : Int)))
                (IntKind.wrap IntKind.i64 (N.dots s + (1 : Int))) then
            IntKind.wrap IntKind.i64 ((↑(List.length s) : Int) + (1 : Int))
          else IntKind.wrap IntKind.i64 (N.dots s + (1 : Int))) -
          (1 : Int))))
        (cond (IntKind.wrap IntKind.i64
          ((bif
                ilt (IntKind.wrap IntKind.i64 ((↑(List.length s) : Int) + (1 : Int)))
                  (IntKind.wrap IntKind.i64 (N.dots s + (1 : Int))) then
              IntKind.wrap IntKind.i64 ((↑(List.length s) : Int) + (1 : Int))
            else IntKind.wrap IntKind.i64 (N.dots s + (1 : Int))) -
            (1 : Int)) +
        (1 : Int) ==
      (↑(List.length
            (List.replicate
              (Int.toNat
                (bif
                    ilt (IntKind.wrap IntKind.i64 ((↑(List.length s) : Int) + (1 : Int)))
                      (IntKind.wrap IntKind.i64 (N.dots s + (1 : Int))) then
                  IntKind.wrap IntKind.i64 ((↑(List.length s) : Int) + (1 : Int))
                else IntKind.wrap IntKind.i64 (N.dots s + (1 : Int))))
              [V.str []])) :
        Int))
          (cond (Nat.ble (List.length s) (1000000 : Nat))
            (cond (Nat.ble
      (List.length
        (List.replicate
          (Int.toNat
            (bif
                ilt (IntKind.wrap IntKind.i64 ((↑(List.length s) : Int) + (1 : Int)))
                  (IntKind.wrap IntKind.i64 (N.dots s + (1 : Int))) then
              IntKind.wrap IntKind.i64 ((↑(List.length s) : Int) + (1 : Int))
            else IntKind.wrap IntKind.i64 (N.dots s + (1 : Int))))
          [V.str []]))
      (1000001 : Nat))
              (cond (decide
      ((0 : Int) ≤
          Prod.fst
            (Prod.snd
              (N.gen
                (Int.toNat
                  (IntKind.wrap IntKind.i64
                      ((bif
                            ilt (IntKind.wrap IntKind.i64 ((↑(List.length s) : Int) + (1 : Int)))
                              (IntKind.wrap IntKind.i64 (N.dots s + (1 : Int))) then
                          IntKind.wrap IntKind.i64 ((↑(List.length s) : Int) + (1 : Int))
                        else IntKind.wrap IntKind.i64 (N.dots s + (1 : Int))) -
                        (1 : Int)) -
                    (0 : Int)))
                s (0 : Int)
                (List.replicate
                  (Int.toNat
                    (bif
                        ilt (IntKind.wrap IntKind.i64 ((↑(List.length s) : Int) + (1 : Int)))
                          (IntKind.wrap IntKind.i64 (N.dots s + (1 : Int))) then
                      IntKind.wrap IntKind.i64 ((↑(List.length s) : Int) + (1 : Int))
                    else IntKind.wrap IntKind.i64 (N.dots s + (1 : Int))))
                  [V.str []]))) ∧
        Prod.fst
            (Prod.snd
              (N.gen
                (Int.toNat
                  (IntKind.wrap IntKind.i64
                      ((bif
                            ilt (IntKind.wrap IntKind.i64 ((↑(List.length s) : Int) + (1 : Int)))
                              (IntKind.wrap IntKind.i64 (N.dots s + (1 : Int))) then
                          IntKind.wrap IntKind.i64 ((↑(List.length s) : Int) + (1 : Int))
                        else IntKind.wrap IntKind.i64 (N.dots s + (1 : Int))) -
                        (1 : Int)) -
                    (0 : Int)))
                s (0 : Int)
                (List.replicate
                  (Int.toNat
                    (bif
                        ilt (IntKind.wrap IntKind.i64 ((↑(List.length s) : Int) + (1 : Int)))
                          (IntKind.wrap IntKind.i64 (N.dots s + (1 : Int))) then
                      IntKind.wrap IntKind.i64 ((↑(List.length s) : Int) + (1 : Int))
                    else IntKind.wrap IntKind.i64 (N.dots s + (1 : Int))))
                  [V.str []]))) <
          (↑(List.length
                (Prod.snd
                  (Prod.snd
                    (N.gen
                      (Int.toNat
                        (IntKind.wrap IntKind.i64
                            ((bif
                                  ilt (IntKind.wrap IntKind.i64 ((↑(List.length s) : Int) + (1 : Int)))
                                    (IntKind.wrap IntKind.i64 (N.dots s + (1 : Int))) then
                                IntKind.wrap IntKind.i64 ((↑(List.length s) : Int) + (1 : Int))
                              else IntKind.wrap IntKind.i64 (N.dots s + (1 : Int))) -
                              (1 : Int)) -
                          (0 : Int)))
                      s (0 : Int)
                      (List.replicate
                        (Int.toNat
                          (bif
                              ilt (IntKind.wrap IntKind.i64 ((↑(List.length s) : Int) + (1 : Int)))
                                (IntKind.wrap IntKind.i64 (N.dots s + (1 : Int))) then
                            IntKind.wrap IntKind.i64 ((↑(List.length s) : Int) + (1 : Int))
                          else IntKind.wrap IntKind.i64 (N.dots s + (1 : Int))))
                        [V.str []]))))) :
            Int)))
                (cond (decide
      ((0 : Int) ≤
          IntKind.wrap IntKind.i64
            (Prod.fst
                (Prod.snd
                  (N.gen
                    (Int.toNat
                      (IntKind.wrap IntKind.i64
                          ((bif
                                ilt (IntKind.wrap IntKind.i64 ((↑(List.length s) : Int) + (1 : Int)))
                                  (IntKind.wrap IntKind.i64 (N.dots s + (1 : Int))) then
                              IntKind.wrap IntKind.i64 ((↑(List.length s) : Int) + (1 : Int))
                            else IntKind.wrap IntKind.i64 (N.dots s + (1 : Int))) -
                            (1 : Int)) -
                        (0 : Int)))
                    s (0 : Int)
                    (List.replicate
                      (Int.toNat
                        (bif
                            ilt (IntKind.wrap IntKind.i64 ((↑(List.length s) : Int) + (1 : Int)))
                              (IntKind.wrap IntKind.i64 (N.dots s + (1 : Int))) then
                          IntKind.wrap IntKind.i64 ((↑(List.length s) : Int) + (1 : Int))
                        else IntKind.wrap IntKind.i64 (N.dots s + (1 : Int))))
                      [V.str []]))) +
              (1 : Int)) ∧
        IntKind.wrap IntKind.i64
            (Prod.fst
                (Prod.snd
                  (N.gen
                    (Int.toNat
                      (IntKind.wrap IntKind.i64
                          ((bif
                                ilt (IntKind.wrap IntKind.i64 ((↑(List.length s) : Int) + (1 : Int)))
                                  (IntKind.wrap IntKind.i64 (N.dots s + (1 : Int))) then
                              IntKind.wrap IntKind.i64 ((↑(List.length s) : Int) + (1 : Int))
                            else IntKind.wrap IntKind.i64 (N.dots s + (1 : Int))) -
                            (1 : Int)) -
                        (0 : Int)))
                    s (0 : Int)
                    (List.replicate
                      (Int.toNat
                        (bif
                            ilt (IntKind.wrap IntKind.i64 ((↑(List.length s) : Int) + (1 : Int)))
                              (IntKind.wrap IntKind.i64 (N.dots s + (1 : Int))) then
                          IntKind.wrap IntKind.i64 ((↑(List.length s) : Int) + (1 : Int))
                        else IntKind.wrap IntKind.i64 (N.dots s + (1 : Int))))
                      [V.str []]))) +
              (1 : Int)) ≤
          (↑(List.length
                (List.set
                  (Prod.snd
                    (Prod.snd
                      (N.gen
                        (Int.toNat
                          (IntKind.wrap IntKind.i64
                              ((bif
                                    ilt (IntKind.wrap IntKind.i64 ((↑(List.length s) : Int) + (1 : Int)))
                                      (IntKind.wrap IntKind.i64 (N.dots s + (1 : Int))) then
                                  IntKind.wrap IntKind.i64 ((↑(List.length s) : Int) + (1 : Int))
                                else IntKind.wrap IntKind.i64 (N.dots s + (1 : Int))) -
                                (1 : Int)) -
                            (0 : Int)))
                        s (0 : Int)
                        (List.replicate
                          (Int.toNat
                            (bif
                                ilt (IntKind.wrap IntKind.i64 ((↑(List.length s) : Int) + (1 : Int)))
                                  (IntKind.wrap IntKind.i64 (N.dots s + (1 : Int))) then
                              IntKind.wrap IntKind.i64 ((↑(List.length s) : Int) + (1 : Int))
                            else IntKind.wrap IntKind.i64 (N.dots s + (1 : Int))))
                          [V.str []]))))
                  (Int.toNat
                    (Prod.fst
                      (Prod.snd
                        (N.gen
                          (Int.toNat
                            (IntKind.wrap IntKind.i64
                                ((bif
                                      ilt (IntKind.wrap IntKind.i64 ((↑(List.length s) : Int) + (1 : Int)))
                                        (IntKind.wrap IntKind.i64 (N.dots s + (1 : Int))) then
                                    IntKind.wrap IntKind.i64 ((↑(List.length s) : Int) + (1 : Int))
                                  else IntKind.wrap IntKind.i64 (N.dots s + (1 : Int))) -
                                  (1 : Int)) -
                              (0 : Int)))
                          s (0 : Int)
                          (List.replicate
                            (Int.toNat
                              (bif
                                  ilt (IntKind.wrap IntKind.i64 ((↑(List.length s) : Int) + (1 : Int)))
                                    (IntKind.wrap IntKind.i64 (N.dots s + (1 : Int))) then
                                IntKind.wrap IntKind.i64 ((↑(List.length s) : Int) + (1 : Int))
                              else IntKind.wrap IntKind.i64 (N.dots s + (1 : Int))))
                            [V.str []])))))
                  [V.str
                      (Prod.fst
                        (N.gen
                          (Int.toNat
                            (IntKind.wrap IntKind.i64
                                ((bif
                                      ilt (IntKind.wrap IntKind.i64 ((↑(List.length s) : Int) + (1 : Int)))
                                        (IntKind.wrap IntKind.i64 (N.dots s + (1 : Int))) then
                                    IntKind.wrap IntKind.i64 ((↑(List.length s) : Int) + (1 : Int))
                                  else IntKind.wrap IntKind.i64 (N.dots s + (1 : Int))) -
                                  (1 : Int)) -
                              (0 : Int)))
                          s (0 : Int)
                          (List.replicate
                            (Int.toNat
                              (bif
                                  ilt (IntKind.wrap IntKind.i64 ((↑(List.length s) : Int) + (1 : Int)))
                                    (IntKind.wrap IntKind.i64 (N.dots s + (1 : Int))) then
                                IntKind.wrap IntKind.i64 ((↑(List.length s) : Int) + (1 : Int))
                              else IntKind.wrap IntKind.i64 (N.dots s + (1 : Int))))
                            [V.str []])))])) :
            Int)))
                  (some
      {
        v :=
          V.slc [Sh.str]
            (List.drop (0 : Nat)
              (List.take
                (Int.toNat
                  (IntKind.wrap IntKind.i64
                    (Prod.fst
                        (Prod.snd
                          (N.gen
                            (Int.toNat
                              (IntKind.wrap IntKind.i64
                                  ((bif
                                        ilt (IntKind.wrap IntKind.i64 ((↑(List.length s) : Int) + (1 : Int)))
                                          (IntKind.wrap IntKind.i64 (N.dots s + (1 : Int))) then
                                      IntKind.wrap IntKind.i64 ((↑(List.length s) : Int) + (1 : Int))
                                    else IntKind.wrap IntKind.i64 (N.dots s + (1 : Int))) -
                                    (1 : Int)) -
                                (0 : Int)))
                            s (0 : Int)
                            (List.replicate
                              (Int.toNat
                                (bif
                                    ilt (IntKind.wrap IntKind.i64 ((↑(List.length s) : Int) + (1 : Int)))
                                      (IntKind.wrap IntKind.i64 (N.dots s + (1 : Int))) then
                                  IntKind.wrap IntKind.i64 ((↑(List.length s) : Int) + (1 : Int))
                                else IntKind.wrap IntKind.i64 (N.dots s + (1 : Int))))
                              [V.str []]))) +
                      (1 : Int))))
                (List.set
                  (Prod.snd
                    (Prod.snd
                      (N.gen
                        (Int.toNat
                          (IntKind.wrap IntKind.i64
                              ((bif
                                    ilt (IntKind.wrap IntKind.i64 ((↑(List.length s) : Int) + (1 : Int)))
                                      (IntKind.wrap IntKind.i64 (N.dots s + (1 : Int))) then
                                  IntKind.wrap IntKind.i64 ((↑(List.length s) : Int) + (1 : Int))
                                else IntKind.wrap IntKind.i64 (N.dots s + (1 : Int))) -
                                (1 : Int)) -
                            (0 : Int)))
                        s (0 : Int)
                        (List.replicate
                          (Int.toNat
                            (bif
                                ilt (IntKind.wrap IntKind.i64 ((↑(List.length s) : Int) + (1 : Int)))
                                  (IntKind.wrap IntKind.i64 (N.dots s + (1 : Int))) then
                              IntKind.wrap IntKind.i64 ((↑(List.length s) : Int) + (1 : Int))
                            else IntKind.wrap IntKind.i64 (N.dots s + (1 : Int))))
                          [V.str []]))))
                  (Int.toNat
                    (Prod.fst
                      (Prod.snd
                        (N.gen
                          (Int.toNat
                            (IntKind.wrap IntKind.i64
                                ((bif
                                      ilt (IntKind.wrap IntKind.i64 ((↑(List.length s) : Int) + (1 : Int)))
                                        (IntKind.wrap IntKind.i64 (N.dots s + (1 : Int))) then
                                    IntKind.wrap IntKind.i64 ((↑(List.length s) : Int) + (1 : Int))
                                  else IntKind.wrap IntKind.i64 (N.dots s + (1 : Int))) -
                                  (1 : Int)) -
                              (0 : Int)))
                          s (0 : Int)
                          (List.replicate
                            (Int.toNat
                              (bif
                                  ilt (IntKind.wrap IntKind.i64 ((↑(List.length s) : Int) + (1 : Int)))
                                    (IntKind.wrap IntKind.i64 (N.dots s + (1 : Int))) then
                                IntKind.wrap IntKind.i64 ((↑(List.length s) : Int) + (1 : Int))
                              else IntKind.wrap IntKind.i64 (N.dots s + (1 : Int))))
                            [V.str []])))))
                  [V.str
                      (Prod.fst
                        (N.gen
                          (Int.toNat
                            (IntKind.wrap IntKind.i64
                                ((bif
                                      ilt (IntKind.wrap IntKind.i64 ((↑(List.length s) : Int) + (1 : Int)))
                                        (IntKind.wrap IntKind.i64 (N.dots s + (1 : Int))) then
                                    IntKind.wrap IntKind.i64 ((↑(List.length s) : Int) + (1 : Int))
                                  else IntKind.wrap IntKind.i64 (N.dots s + (1 : Int))) -
                                  (1 : Int)) -
                              (0 : Int)))
                          s (0 : Int)
                          (List.replicate
                            (Int.toNat
                              (bif
                                  ilt (IntKind.wrap IntKind.i64 ((↑(List.length s) : Int) + (1 : Int)))
                                    (IntKind.wrap IntKind.i64 (N.dots s + (1 : Int))) then
                                IntKind.wrap IntKind.i64 ((↑(List.length s) : Int) + (1 : Int))
                              else IntKind.wrap IntKind.i64 (N.dots s + (1 : Int))))
                            [V.str []])))]))),
        bx := [] })
                  (none))
                (none))
              (none))
            (none))
          (none))
        (none))
      (none) := by kernel_rfl
theorem q_genR (s0 : Bytes) (i3 : Int) (i10 : Int) (rx0 : List (List V)) (K : Ex → St → Option R) : evRound eGen 79 11 { fr := [(0, .str s0), (1, .str [46]), (2, .int .i64 0), (3, .int .i64 i3), (9, .own 10000 0), (10, .int .i64 i10)], tab := [(10000, .sl [.str] rx0 0)] } K =
    cond (ilt i10 i3)
      (cond (ilt (N.dot s0) (0 : Int))
        (K (Ex.exit (0 : Nat))
      { fr := [((0 : Nat), V.str s0), ((9 : Nat), V.own (10000 : Nat) (0 : Nat)), ((10 : Nat), V.int IntKind.i64 i10)],
        tab := [((10000 : Nat), Box.sl [Sh.str] rx0 (0 : Nat))] })
        (cond (decide
      ((0 : Int) ≤ IntKind.wrap IntKind.i64 (N.dot s0 + (0 : Int)) ∧
        IntKind.wrap IntKind.i64 (N.dot s0 + (0 : Int)) ≤ (↑(List.length s0) : Int)))
          (cond (decide ((0 : Int) ≤ i10 ∧ i10 < (↑(List.length rx0) : Int)))
            (cond (decide
      ((0 : Int) ≤ IntKind.wrap IntKind.i64 (N.dot s0 + (↑(1 : Nat) : Int)) ∧
        IntKind.wrap IntKind.i64 (N.dot s0 + (↑(1 : Nat) : Int)) ≤ (↑(List.length s0) : Int)))
              (K Ex.normal
      {
        fr :=
          [((0 : Nat),
              V.str
                (List.drop (Int.toNat (IntKind.wrap IntKind.i64 (N.dot s0 + (↑(1 : Nat) : Int))))
                  (List.take (List.length s0) s0))),
            ((1 : Nat), V.str [(46 : UInt8)]), ((2 : Nat), V.int IntKind.i64 (0 : Int)), ((3 : Nat), V.int IntKind.i64 i3),
            ((9 : Nat), V.own (10000 : Nat) (0 : Nat)),
            ((10 : Nat), V.int IntKind.i64 (IntKind.wrap IntKind.i64 (i10 + (1 : Int))))],
        tab :=
          [((10000 : Nat),
              Box.sl [Sh.str]
                (List.set rx0 (Int.toNat i10)
                  [V.str
                      (List.drop (0 : Nat) (List.take (Int.toNat (IntKind.wrap IntKind.i64 (N.dot s0 + (0 : Int)))) s0))])
                (0 : Nat))] })
              (none))
            (none))
          (none)))
      (K (Ex.exit (0 : Nat))
      { fr := [((0 : Nat), V.str s0), ((9 : Nat), V.own (10000 : Nat) (0 : Nat)), ((10 : Nat), V.int IntKind.i64 i10)],
        tab := [((10000 : Nat), Box.sl [Sh.str] rx0 (0 : Nat))] }) := by kernel_rfl
theorem dots_le (s : Bytes) : N.dots s ≤ s.length := by unfold N.dots; have := List.count_le_length (a := (46 : UInt8)) (l := s); omega
theorem gen_bytes : ∀ (f : Nat) (s : Bytes) (i : Int) (rows : List (List V)), (N.gen f s i rows).1.length ≤ s.length
  | 0, s, i, rows => Nat.le_refl _
  | f + 1, s, i, rows => by
    unfold N.gen
    cases ilt (N.dot s) 0 with
    | true => exact Nat.le_refl _
    | false =>
      have := gen_bytes f (s.drop (N.dot s + 1).toNat) (i + 1) (rows.set i.toNat [.str (s.take (N.dot s).toNat)])
      simp only [cond_false]
      rw [List.length_drop] at this; omega
theorem ok_gen : FnOk Tryd.prog 79 dGenSplit := by
  refine den_okF (env_ok (((TOk.nil _).cons ok_dot).cons ok_dots)) (E := eGen) Tryd.func79 [11] (by kernel_rfl) (one1 (rounds_of rfl fun l K q h => ?_)) fun a _ h => ?_
  · unfold gGen at h
    split at h
    · rename_i s c z n i rows
      have h1 := (cond_none h).1; replace h := (cond_none h).2; have h2 := (cond_none h).1; replace h := (cond_none h).2; have h3 := (cond_none h).1; replace h := (cond_none h).2; have h4 := (cond_none h).1; replace h := (cond_none h).2; have h5 := (cond_none h).1; replace h := (cond_none h).2; have h6 := (cond_none h).1; replace h := (cond_none h).2; have h7 := (cond_none h).1; replace h := (cond_none h).2
      have h7 : rows.length ≤ 1000001 := ble_of h7
      have h1 : c = [46] := by simpa using h1
      have h2 := ieq_of h2
      subst h1 h2
      have h5 := ieq_of h5
      have h6 : s.length ≤ 1000000 := ble_of h6
      have h3 := ile_of h3
      have h4 := ile_of h4
      refine loop_ind (E := eGen) (f := 79) (id := 11) (σ := Bytes × Int × List (List V)) (fun x => { fr := [(0, .str x.1), (1, .str [46]), (2, .int .i64 0), (3, .int .i64 n), (9, .own 10000 0), (10, .int .i64 x.2.1)], tab := [(10000, .sl [.str] x.2.2 0)] })
        (fun x => x.1.length ≤ 1000000 ∧ 0 ≤ x.2.1 ∧ x.2.1 ≤ n ∧ n + 1 = x.2.2.length ∧ x.2.2.length ≤ 1000001) (fun x => (n - x.2.1).toNat)
        (fun x K => K (.exit 0) { fr := [(0, .str (N.gen (n - x.2.1).toNat x.1 x.2.1 x.2.2).1), (9, .own 10000 0), (10, .int .i64 (N.gen (n - x.2.1).toNat x.1 x.2.1 x.2.2).2.1)], tab := [(10000, .sl [.str] (N.gen (n - x.2.1).toNat x.1 x.2.1 x.2.2).2.2 0)] }) ?_ (s, i, rows)
        ⟨h6, h3, h4, h5, h7⟩ K q h
      rintro ⟨s, i, rows⟩ ⟨h6, h3, h4, h5, h7⟩
      simp only at h6 h3 h4 h5 h7 ⊢
      by_cases hl : i < n
      · have e : (n - i).toNat = (n - (i + 1)).toNat + 1 := by omega
        rw [e]
        simp only [N.gen]
        rcases splitDot_dot s with ⟨g1, _, _⟩ | ⟨g1, g2, _, _⟩
        · have hd : ilt (N.dot s) 0 = true := by rw [g1]; rfl
          rw [hd]
          refine .inr ⟨.exit 0, _, by simp, fun K => ?_, fun K => rfl⟩
          rw [q_genR]
          simp (disch := omega) only [evs, hd]
        · have hd : ilt (N.dot s) 0 = false := ilt_f (by omega)
          rw [hd]
          refine .inl ⟨(s.drop (N.dot s + 1).toNat, i + 1, rows.set i.toNat [.str (s.take (N.dot s).toNat)]), ⟨by simp only [List.length_drop]; omega, by simp only; omega, by simp only; omega, by simp only [List.length_set]; omega, by simp only [List.length_set]; omega⟩, by simp only; omega, fun K => ?_, fun K => rfl⟩
          rw [q_genR]
          simp (disch := omega) only [evs, hd, List.take_length, Int.add_zero, List.drop_zero]
          rfl
      · refine .inr ⟨.exit 0, _, by simp, fun K => ?_, fun K => rfl⟩
        rw [q_genR, show (n - i).toNat = 0 by omega]
        simp (disch := omega) only [evs, N.gen]
    · cases h
  · obtain ⟨s, c, z, n⟩ := a
    have h1 := (bcond h).1; replace h := (bcond h).2; have h2 := (bcond h).1; replace h := (bcond h).2; have h3 := (bcond h).1; replace h := (bcond h).2
    have e1 : c = [46] := by simpa using h1
    have e2 : z = 0 := ieq_of h2
    have e3 : n = -1 := ieq_of h3
    subst e1 e2 e3
    have h : s.length ≤ 1000000 := ble_of h
    refine (q_gen s).trans ?_
    show _ = some (⟨.slc [.str] ((N.splitDot s).map rStr.enc), [], []⟩ : DRes)
    have hd := dots_le s
    have hd0 : 0 ≤ N.dots s := Int.natCast_nonneg _
    obtain ⟨g1, g2, g3, g4⟩ := gen_ok (N.dots s).toNat s 0 (List.replicate (N.dots s + 1).toNat [V.str []]) (by omega) (by omega) (by rw [List.length_replicate]; omega)
    rw [List.length_replicate] at g2 g3
    simp (disch := omega) only [evs, show N.dots s + 1 - 1 - 0 = N.dots s by omega, g3]
    rw [g4]
    rfl
noncomputable def eSplit : Env := env Tryd.prog [(79, dGenSplit)] [] []
theorem q_split (s : Bytes) : evFn eSplit 48 ((aCons vStr (aOne vStr)).enc (s, [46])) ([]) some =
    cond (Nat.ble (List.length s) (1000000 : Nat))
      (some { v := V.slc [Sh.str] (List.map (fun n => [V.str n]) (N.splitDot s)), bx := [] })
      (none) := by kernel_rfl
theorem ok_split : FnOk Tryd.prog 48 dSplit := by
  refine den_okF (env_ok ((TOk.nil _).cons ok_gen)) (E := eSplit) Tryd.func48 [] (by kernel_rfl) none0 fun a _ h => ?_
  obtain ⟨s, c⟩ := a
  obtain ⟨h1, h⟩ := bcond h
  have h1 : c = [46] := by simpa using h1
  subst h1
  have h : s.length ≤ 1000000 := ble_of h
  refine (q_split s).trans ?_
  simp (disch := omega) only [evs]
  rfl
noncomputable def eWords : Env := env Tryd.prog [(48, dSplit)] [] []
theorem q_words (s : Bytes) : evFn eWords 21 ((aOne vStr).enc s) ([]) some =
    cond (s == [])
      (some { v := V.slc [Sh.str] [], bx := [] })
      (cond (Nat.ble (List.length s) (1000000 : Nat))
        (some { v := V.slc [Sh.str] (List.map (fun n => [V.str n]) (N.splitDot s)), bx := [] })
        (none)) := by kernel_rfl
theorem ok_words : FnOk Tryd.prog 21 dWords := by
  refine den_okF (env_ok ((TOk.nil _).cons ok_split)) (E := eWords) Tryd.func21 [] (by kernel_rfl) none0 fun s _ h => ?_
  have h : s.length ≤ 1000000 := ble_of h
  refine (q_words s).trans ?_
  show _ = some (⟨.slc [.str] ((N.words s).map rStr.enc), [], []⟩ : DRes)
  simp (disch := omega) only [evs]
  cases s with
  | nil => rfl
  | cons c r => rfl
def schRefKey4 : SSch := { fr := [(1, .bool), (13, .slc [.str]), (14, .int .i64), (15, .int .i64)], tab := [] }
def gRefKey4 : List Leaf → (Ex → St → Option R) → Option R
  | [.b b1, .r r13, .i i14, .i i15], K => cond (i14 == r13.length) (cond (ile 0 i15) (cond (Nat.ble r13.length BIG) (cond (r13.all fun r => Nat.ble (rowS r).length LIM)
      (cond (N.refKeyL b1 ((rowsS r13).drop i15.toNat) == 0) (K (.exit 0) { fr := [], tab := [] }) (K .ret { fr := [(4, .int .i64 4)], tab := [] })) none) none) none) none
  | _, _ => none
def schRefKey8 : SSch := { fr := [(1, .bool), (6, .str), (7, .bool), (8, .int .i64), (13, .slc [.str]), (14, .int .i64), (15, .int .i64)], tab := [] }
def gRefKey8 : List Leaf → (Ex → St → Option R) → Option R
  | [.b b1, .s s6, .b b7, .i i8, .r r13, .i i14, .i i15], K => cond (ile 0 i8) (cond (Nat.ble s6.length LIM)
      (K (.exit 2) { fr := [(1, .bool b1), (6, .str s6), (7, .bool (cond b7 true (!N.plain (s6.drop i8.toNat)))), (13, .slc [.str] r13), (14, .int .i64 i14), (15, .int .i64 i15)], tab := [] }) none) none
  | _, _ => none
noncomputable def eRefKey : Env := env Tryd.prog [(15, dWords), (45, dLetter)] [(8, loopF schRefKey8 gRefKey8), (4, loopF schRefKey4 gRefKey4)] [(4, [(0, [1, 13, 14, 15]), (1, []), (1000, [4])]), (8, [(0, [1, 6, 7, 8, 13, 14, 15]), (3, [1, 6, 7, 13, 14, 15]), (1000, [4])])]
theorem q_refKey (s : Bytes) (pt : Bool) : evFn eRefKey 12 ((aCons vStr (aOne vBool)).enc (s, pt)) ([]) some =
    cond (ilt (64 : Int) (↑(List.length s) : Int))
      (some { v := V.int IntKind.i64 (5 : Int), bx := [] })
      (cond (Nat.ble (List.length s) (1000000 : Nat))
        (cond ((↑(List.length (List.map (fun n => [V.str n]) (N.words s))) : Int) ==
      (↑(List.length (List.map (fun n => [V.str n]) (N.words s))) : Int))
          (cond (Nat.ble (List.length (List.map (fun n => [V.str n]) (N.words s))) (1000000000000 : Nat))
            (cond (List.all (List.map (fun n => [V.str n]) (N.words s)) fun r =>
      Nat.ble (List.length (V.toStr (List.getD r (0 : Nat) V.undef))) (1000000 : Nat))
              (cond (N.refKeyL pt
        (List.drop (0 : Nat)
          (List.map (fun r => V.toStr (List.getD r (0 : Nat) V.undef)) (List.map (fun n => [V.str n]) (N.words s)))) ==
      (0 : Int))
                (some { v := V.int IntKind.i64 (0 : Int), bx := [] })
                (some { v := V.int IntKind.i64 (4 : Int), bx := [] }))
              (none))
            (none))
          (none))
        (none)) := by kernel_rfl
theorem q_refKeyR4 (b1 : Bool) (r13 : List (List V)) (i14 : Int) (i15 : Int) (K : Ex → St → Option R) : evRound eRefKey 12 4 { fr := [(1, .bool b1), (13, .slc [.str] r13), (14, .int .i64 i14), (15, .int .i64 i15)], tab := [] } K =
    cond (ilt i15 i14)
      (cond (decide ((0 : Int) ≤ i15 ∧ i15 < (↑(List.length r13) : Int)))
        (cond (Nat.ble (List.length (V.toStr (List.getD (List.getD r13 (Int.toNat i15) []) (0 : Nat) V.undef))) (1000000 : Nat))
          (cond (bif (↑(List.length (V.toStr (List.getD (List.getD r13 (Int.toNat i15) []) (0 : Nat) V.undef))) : Int) == (0 : Int) then
      true
    else !N.plain (List.drop (0 : Nat) (V.toStr (List.getD (List.getD r13 (Int.toNat i15) []) (0 : Nat) V.undef))))
            (cond (b1)
              (cond (V.toStr (List.getD (List.getD r13 (Int.toNat i15) []) (0 : Nat) V.undef) == [(42 : UInt8)])
                (K Ex.normal
      {
        fr :=
          [((1 : Nat), V.bool b1), ((13 : Nat), V.slc [Sh.str] r13), ((14 : Nat), V.int IntKind.i64 i14),
            ((15 : Nat), V.int IntKind.i64 (IntKind.wrap IntKind.i64 (i15 + (1 : Int))))],
        tab := [] })
                (cond (!V.toStr (List.getD (List.getD r13 (Int.toNat i15) []) (0 : Nat) V.undef) == [(35 : UInt8)])
                  (K Ex.ret { fr := [((4 : Nat), V.int IntKind.i64 (4 : Int))], tab := [] })
                  (K Ex.normal
      {
        fr :=
          [((1 : Nat), V.bool b1), ((13 : Nat), V.slc [Sh.str] r13), ((14 : Nat), V.int IntKind.i64 i14),
            ((15 : Nat), V.int IntKind.i64 (IntKind.wrap IntKind.i64 (i15 + (1 : Int))))],
        tab := [] })))
              (K Ex.ret { fr := [((4 : Nat), V.int IntKind.i64 (4 : Int))], tab := [] }))
            (K Ex.normal
      {
        fr :=
          [((1 : Nat), V.bool b1), ((13 : Nat), V.slc [Sh.str] r13), ((14 : Nat), V.int IntKind.i64 i14),
            ((15 : Nat), V.int IntKind.i64 (IntKind.wrap IntKind.i64 (i15 + (1 : Int))))],
        tab := [] }))
          (none))
        (none))
      (K (Ex.exit (0 : Nat)) { fr := [], tab := [] }) := by kernel_rfl
theorem q_refKeyR8 (b1 : Bool) (s6 : Bytes) (b7 : Bool) (i8 : Int) (r13 : List (List V)) (i14 : Int) (i15 : Int) (K : Ex → St → Option R) : evRound eRefKey 12 8 { fr := [(1, .bool b1), (6, .str s6), (7, .bool b7), (8, .int .i64 i8), (13, .slc [.str] r13), (14, .int .i64 i14), (15, .int .i64 i15)], tab := [] } K =
    cond (ilt i8 (↑(List.length s6) : Int))
      (cond (b7)
        (K Ex.normal
      {
        fr :=
          [((1 : Nat), V.bool b1), ((6 : Nat), V.str s6), ((7 : Nat), V.bool true),
            ((8 : Nat), V.int IntKind.i64 (IntKind.wrap IntKind.i64 (i8 + (1 : Int)))), ((13 : Nat), V.slc [Sh.str] r13),
            ((14 : Nat), V.int IntKind.i64 i14), ((15 : Nat), V.int IntKind.i64 i15)],
        tab := [] })
        (cond (decide ((0 : Int) ≤ i8 ∧ i8 < (↑(List.length s6) : Int)))
          (K Ex.normal
      {
        fr :=
          [((1 : Nat), V.bool b1), ((6 : Nat), V.str s6),
            ((7 : Nat), V.bool !N.letterI (↑(UInt8.toNat (List.getD s6 (Int.toNat i8) (0 : UInt8))) : Int)),
            ((8 : Nat), V.int IntKind.i64 (IntKind.wrap IntKind.i64 (i8 + (1 : Int)))), ((13 : Nat), V.slc [Sh.str] r13),
            ((14 : Nat), V.int IntKind.i64 i14), ((15 : Nat), V.int IntKind.i64 i15)],
        tab := [] })
          (none)))
      (K (Ex.exit (2 : Nat))
      {
        fr :=
          [((1 : Nat), V.bool b1), ((6 : Nat), V.str s6), ((7 : Nat), V.bool b7), ((13 : Nat), V.slc [Sh.str] r13),
            ((14 : Nat), V.int IntKind.i64 i14), ((15 : Nat), V.int IntKind.i64 i15)],
        tab := [] }) := by kernel_rfl
theorem refKey8 (b1 : Bool) (s : Bytes) (r13 : List (List V)) (i14 i15 : Int) (hs : s.length ≤ 1000000) (K : Ex → St → Option R) (q : R) (b : Bool) (i : Int) (hi : 0 ≤ i)
    (h : K (.exit 2) { fr := [(1, .bool b1), (6, .str s), (7, .bool (cond b true (!N.plain (s.drop i.toNat)))), (13, .slc [.str] r13), (14, .int .i64 i14), (15, .int .i64 i15)], tab := [] } = some q) :
    ∃ n, iterR eRefKey 12 8 n { fr := [(1, .bool b1), (6, .str s), (7, .bool b), (8, .int .i64 i), (13, .slc [.str] r13), (14, .int .i64 i14), (15, .int .i64 i15)], tab := [] } K = some q := by
  refine loop_ind (E := eRefKey) (f := 12) (id := 8) (σ := Bool × Int) (fun x => { fr := [(1, .bool b1), (6, .str s), (7, .bool x.1), (8, .int .i64 x.2), (13, .slc [.str] r13), (14, .int .i64 i14), (15, .int .i64 i15)], tab := [] })
    (fun x => 0 ≤ x.2) (fun x => s.length - x.2.toNat) (fun x K => K (.exit 2) { fr := [(1, .bool b1), (6, .str s), (7, .bool (cond x.1 true (!N.plain (s.drop x.2.toNat)))), (13, .slc [.str] r13), (14, .int .i64 i14), (15, .int .i64 i15)], tab := [] }) ?_ (b, i) hi K q h
  rintro ⟨b, i⟩ hi
  simp only at hi ⊢
  by_cases hl : i < s.length
  · refine .inl ⟨(cond b true (!N.letterI (s.getD i.toNat 0).toNat), i + 1), by simp only; omega, by simp only; omega, fun K => ?_, fun K => ?_⟩
    · rw [q_refKeyR8]
      simp (disch := omega) only [evs]
      cases b <;> rfl
    · rw [drop_byte (show i.toNat < s.length by omega), plain_cons, show (i + 1).toNat = i.toNat + 1 by omega]
      cases b <;> cases N.letterI (s.getD i.toNat 0).toNat <;> rfl
  · refine .inr ⟨.exit 2, _, by simp, fun K => ?_, fun K => rfl⟩
    rw [q_refKeyR8, List.drop_eq_nil_of_le (show s.length ≤ i.toNat by omega)]
    simp (disch := omega) only [evs]
    cases b <;> rfl
theorem refKey4 (b1 : Bool) (r13 : List (List V)) (hr : r13.length ≤ 1000000000000) (ha : ∀ r ∈ r13, (rowS r).length ≤ 1000000) (K : Ex → St → Option R) (q : R) (i : Int) (hi : 0 ≤ i)
    (h : cond (N.refKeyL b1 ((rowsS r13).drop i.toNat) == 0) (K (.exit 0) { fr := [], tab := [] }) (K .ret { fr := [(4, .int .i64 4)], tab := [] }) = some q) :
    ∃ n, iterR eRefKey 12 4 n { fr := [(1, .bool b1), (13, .slc [.str] r13), (14, .int .i64 r13.length), (15, .int .i64 i)], tab := [] } K = some q := by
  refine loop_ind (E := eRefKey) (f := 12) (id := 4) (σ := Int) (fun i => { fr := [(1, .bool b1), (13, .slc [.str] r13), (14, .int .i64 r13.length), (15, .int .i64 i)], tab := [] })
    (fun i => 0 ≤ i) (fun i => r13.length - i.toNat) (fun i K => cond (N.refKeyL b1 ((rowsS r13).drop i.toNat) == 0) (K (.exit 0) { fr := [], tab := [] }) (K .ret { fr := [(4, .int .i64 4)], tab := [] })) ?_ i hi K q h
  intro i hi
  by_cases hl : i < r13.length
  · have hlt : i.toNat < r13.length := by omega
    have hw : (rowS (r13.getD i.toNat [])).length ≤ 1000000 := ha _ (by rw [List.getD_eq_getElem?_getD, List.getElem?_eq_getElem hlt]; exact List.getElem_mem _)
    have hw' : (V.toStr (List.getD (List.getD r13 i.toNat []) 0 V.undef)).length ≤ 1000000 := hw
    rw [drop_get hlt]
    have e : N.refKeyL b1 (rowS (r13.getD i.toNat []) :: (rowsS r13).drop (i.toNat + 1)) = cond (cond (cond (((rowS (r13.getD i.toNat [])).length : Int) == 0) true (!N.plain (rowS (r13.getD i.toNat [])))) (!cond b1 (cond (rowS (r13.getD i.toNat []) == [42]) true (rowS (r13.getD i.toNat []) == [35])) false) false) 4 (N.refKeyL b1 ((rowsS r13).drop (i.toNat + 1))) := rfl
    rw [e]
    cases hc : cond (cond (((rowS (r13.getD i.toNat [])).length : Int) == 0) true (!N.plain (rowS (r13.getD i.toNat [])))) (!cond b1 (cond (rowS (r13.getD i.toNat []) == [42]) true (rowS (r13.getD i.toNat []) == [35])) false) false with
    | true =>
      refine .inr ⟨.ret, _, by simp, fun K => ?_, fun K => rfl⟩
      rw [q_refKeyR4]
      simp (disch := omega) only [evs, List.drop_zero]
      revert hc
      unfold rowS
      cases (((V.toStr (List.getD (List.getD r13 i.toNat []) 0 V.undef)).length : Int) == 0) <;> cases N.plain (V.toStr (List.getD (List.getD r13 i.toNat []) 0 V.undef)) <;> cases b1 <;> cases V.toStr (List.getD (List.getD r13 i.toNat []) 0 V.undef) == [42] <;> cases V.toStr (List.getD (List.getD r13 i.toNat []) 0 V.undef) == [35] <;> intro hc <;> first | rfl | cases hc
    | false =>
      refine .inl ⟨i + 1, by omega, by omega, fun K => ?_, fun K => ?_⟩
      · rw [q_refKeyR4]
        simp (disch := omega) only [evs, List.drop_zero]
        revert hc
        unfold rowS
        cases (((V.toStr (List.getD (List.getD r13 i.toNat []) 0 V.undef)).length : Int) == 0) <;> cases N.plain (V.toStr (List.getD (List.getD r13 i.toNat []) 0 V.undef)) <;> cases b1 <;> cases V.toStr (List.getD (List.getD r13 i.toNat []) 0 V.undef) == [42] <;> cases V.toStr (List.getD (List.getD r13 i.toNat []) 0 V.undef) == [35] <;> intro hc <;> first | rfl | cases hc
      · rw [cond_false, show (i + 1).toNat = i.toNat + 1 by omega]
  · refine .inr ⟨.exit 0, { fr := [], tab := [] }, by simp, fun K => ?_, fun K => ?_⟩
    · rw [q_refKeyR4]
      simp (disch := omega) only [evs]
    · rw [List.drop_eq_nil_of_le (by rw [rowsS_length]; omega)]; rfl
theorem splitDot_small : ∀ (s : Bytes), (N.splitDot s).length ≤ s.length + 1 ∧ ∀ w ∈ N.splitDot s, w.length ≤ s.length
  | [] => ⟨Nat.le_refl _, fun w h => by
    have h : w ∈ [[]] := h
    rw [List.mem_singleton] at h; subst h; exact Nat.le_refl _⟩
  | c :: r => by
    obtain ⟨h1, h2⟩ := splitDot_small r
    unfold N.splitDot
    cases c == 46 with
    | true =>
      refine ⟨by simpa using h1, fun w h => ?_⟩
      rcases List.mem_cons.1 h with rfl | h
      · exact Nat.zero_le _
      · have := h2 w h; simp only [List.length_cons]; omega
    | false =>
      simp only [cond_false]
      cases hs : N.splitDot r with
      | nil => exact absurd hs (splitDot_ne _)
      | cons w ws =>
        rw [hs] at h1 h2
        refine ⟨by simp only [List.length_cons] at h1 ⊢; omega, fun v h => ?_⟩
        rcases List.mem_cons.1 h with rfl | h
        · have := h2 w List.mem_cons_self; simp only [List.length_cons]; omega
        · have := h2 v (List.mem_cons_of_mem _ h); simp only [List.length_cons]; omega
theorem words_small (s : Bytes) : (N.words s).length ≤ s.length + 1 ∧ ∀ w ∈ N.words s, w.length ≤ s.length := by
  unfold N.words
  cases s.isEmpty with
  | true => exact ⟨Nat.zero_le _, fun w h => by cases h⟩
  | false => exact splitDot_small s
theorem refKeyL_or (b : Bool) : ∀ l, N.refKeyL b l = 0 ∨ N.refKeyL b l = 4
  | [] => .inl rfl
  | w :: r => by
    unfold N.refKeyL
    cases (cond (cond ((w.length : Int) == 0) true (!N.plain w)) (!cond b (cond (w == [42]) true (w == [35])) false) false)
    · exact refKeyL_or b r
    · exact .inr rfl
theorem ok_refKey : FnOk Tryd.prog 12 dRefKey := by
  refine den_okF (env_ok (((TOk.nil _).cons ok_letter).cons ok_refSplit)) (E := eRefKey) Tryd.func12 [4, 8] (by kernel_rfl) (two2 (rounds_of rfl fun l K q h => ?_) (rounds_of rfl fun l K q h => ?_)) fun a _ h => ?_
  · unfold gRefKey4 at h
    split at h
    · rename_i b1 r13 i14 i15
      have h1 := (cond_none h).1; replace h := (cond_none h).2; have h2 := (cond_none h).1; replace h := (cond_none h).2; have h3 := (cond_none h).1; replace h := (cond_none h).2; have h4 := (cond_none h).1; replace h := (cond_none h).2
      have h1 := ieq_of h1
      subst h1
      exact refKey4 b1 r13 (ble_of h3) (fun r hr => ble_of (List.all_eq_true.1 h4 r hr)) K q i15 (ile_of h2) (by assumption)
    · cases h
  · unfold gRefKey8 at h
    split at h
    · rename_i b1 s6 b7 i8 r13 i14 i15
      have h1 := (cond_none h).1; replace h := (cond_none h).2; have h2 := (cond_none h).1; replace h := (cond_none h).2
      exact refKey8 b1 s6 r13 i14 i15 (ble_of h2) K q b7 i8 (ile_of h1) h
    · cases h
  · obtain ⟨s, b⟩ := a
    refine (q_refKey s b).trans ?_
    show _ = some (⟨.int .i64 (N.refKey s b), [], []⟩ : DRes)
    unfold N.refKey
    cases hl : ilt 64 s.length with
    | true => rfl
    | false =>
      have hl := ilt_nof hl
      have h : s.length ≤ 64 := by omega
      obtain ⟨w1, w2⟩ := words_small s
      have hall : ((N.words s).map (fun n => [V.str n])).all (fun r => Nat.ble (V.toStr (List.getD r 0 V.undef)).length 1000000) = true := List.all_eq_true.2 fun r hr => by
        obtain ⟨w, hw, rfl⟩ := List.mem_map.1 hr
        exact ble_t (show w.length ≤ 1000000 from by have := w2 w hw; omega)
      have e : ((N.words s).map (fun n => [V.str n])).map (fun r => V.toStr (List.getD r 0 V.undef)) = N.words s := rowsS_enc _
      simp (disch := omega) only [evs, hall, e, List.drop_zero]
      rcases refKeyL_or b (N.words s) with e | e <;> rw [e] <;> rfl
def schMatches4 : SSch := { fr := [(5, .slc [.str]), (6, .slc [.str]), (7, .int .i64), (8, .int .i64), (9, .int .i64), (10, .int .i64)], tab := [] }
def gMatches4 : List Leaf → (Ex → St → Option R) → Option R
  | [.r r5, .r r6, .i i7, .i i8, .i i9, .i i10], K => cond (i7 == 0) (cond (i8 == 0) (cond (i9 == -1) (cond (i10 == 0) (cond (Nat.ble r5.length (LIM + 1)) (cond (Nat.ble r6.length (LIM + 1))
      (cond (ile 0 (N.goOnI (rowsS r5) (rowsS r6) 0 0 (-1) 0 (N.goFuel (rowsS r5) (rowsS r6))))
        (K (.exit 0) { fr := [(5, .slc [.str] r5), (7, .int .i64 (N.goOnI (rowsS r5) (rowsS r6) 0 0 (-1) 0 (N.goFuel (rowsS r5) (rowsS r6))))], tab := [] }) (K .ret { fr := [(4, .bool false)], tab := [] })) none) none) none) none) none) none
  | _, _ => none
def schMatches14 : SSch := { fr := [(5, .slc [.str]), (7, .int .i64)], tab := [] }
def gMatches14 : List Leaf → (Ex → St → Option R) → Option R
  | [.r r5, .i i7], K => cond (ile 0 i7) (cond (Nat.ble r5.length (LIM + 1)) (K (.exit 3) { fr := [(5, .slc [.str] r5), (7, .int .i64 (N.hashes (rowsS r5) (r5.length + 1 - i7.toNat) i7))], tab := [] }) none) none
  | _, _ => none
noncomputable def eMatches : Env := env Tryd.prog [(21, dWords)] [(14, loopF schMatches14 gMatches14), (4, loopF schMatches4 gMatches4)] [(4, [(0, [5, 6, 7, 8, 9, 10]), (1, [5, 7]), (1000, [4])]), (14, [(0, [5, 7]), (4, [5, 7]), (1000, [4])])]
theorem q_matches (p k : Bytes) : evFn eMatches 13 ((aCons vStr (aOne vStr)).enc (p, k)) ([]) some =
    cond (Nat.ble (List.length p) (1000000 : Nat))
      (cond (Nat.ble (List.length k) (1000000 : Nat))
        (cond (Nat.ble (List.length (List.map (fun n => [V.str n]) (N.words p))) (1000001 : Nat))
          (cond (Nat.ble (List.length (List.map (fun n => [V.str n]) (N.words k))) (1000001 : Nat))
            (cond (ile (0 : Int)
      (N.goOnI (List.map (fun r => V.toStr (List.getD r (0 : Nat) V.undef)) (List.map (fun n => [V.str n]) (N.words p)))
        (List.map (fun r => V.toStr (List.getD r (0 : Nat) V.undef)) (List.map (fun n => [V.str n]) (N.words k))) (0 : Int)
        (0 : Int) (-1 : Int) (0 : Int)
        (N.goFuel (List.map (fun r => V.toStr (List.getD r (0 : Nat) V.undef)) (List.map (fun n => [V.str n]) (N.words p)))
          (List.map (fun r => V.toStr (List.getD r (0 : Nat) V.undef)) (List.map (fun n => [V.str n]) (N.words k))))))
              (cond (ile (0 : Int)
      (N.goOnI (List.map (fun r => V.toStr (List.getD r (0 : Nat) V.undef)) (List.map (fun n => [V.str n]) (N.words p)))
        (List.map (fun r => V.toStr (List.getD r (0 : Nat) V.undef)) (List.map (fun n => [V.str n]) (N.words k))) (0 : Int)
        (0 : Int) (-1 : Int) (0 : Int)
        (N.goFuel (List.map (fun r => V.toStr (List.getD r (0 : Nat) V.undef)) (List.map (fun n => [V.str n]) (N.words p)))
          (List.map (fun r => V.toStr (List.getD r (0 : Nat) V.undef)) (List.map (fun n => [V.str n]) (N.words k))))))
                (cond (Nat.ble (List.length (List.map (fun n => [V.str n]) (N.words p))) (1000001 : Nat))
                  (some
      {
        v :=
          V.bool
            (N.hashes
                (List.map (fun r => V.toStr (List.getD r (0 : Nat) V.undef)) (List.map (fun n => [V.str n]) (N.words p)))
                (List.length (List.map (fun n => [V.str n]) (N.words p)) + (1 : Nat) -
                  Int.toNat
                    (N.goOnI
                      (List.map (fun r => V.toStr (List.getD r (0 : Nat) V.undef))
                        (List.map (fun n => [V.str n]) (N.words p)))
                      (List.map (fun r => V.toStr (List.getD r (0 : Nat) V.undef))
                        (List.map (fun n => [V.str n]) (N.words k)))
                      (0 : Int) (0 : Int) (-1 : Int) (0 : Int)
                      (N.goFuel
                        (List.map (fun r => V.toStr (List.getD r (0 : Nat) V.undef))
                          (List.map (fun n => [V.str n]) (N.words p)))
                        (List.map (fun r => V.toStr (List.getD r (0 : Nat) V.undef))
                          (List.map (fun n => [V.str n]) (N.words k))))))
                (N.goOnI
                  (List.map (fun r => V.toStr (List.getD r (0 : Nat) V.undef)) (List.map (fun n => [V.str n]) (N.words p)))
                  (List.map (fun r => V.toStr (List.getD r (0 : Nat) V.undef)) (List.map (fun n => [V.str n]) (N.words k)))
                  (0 : Int) (0 : Int) (-1 : Int) (0 : Int)
                  (N.goFuel
                    (List.map (fun r => V.toStr (List.getD r (0 : Nat) V.undef))
                      (List.map (fun n => [V.str n]) (N.words p)))
                    (List.map (fun r => V.toStr (List.getD r (0 : Nat) V.undef))
                      (List.map (fun n => [V.str n]) (N.words k))))) ==
              (↑(List.length (List.map (fun n => [V.str n]) (N.words p))) : Int)),
        bx := [] })
                  (none))
                (none))
              (some { v := V.bool false, bx := [] }))
            (none))
          (none))
        (none))
      (none) := by kernel_rfl
theorem q_matchesR4 (r5 : List (List V)) (r6 : List (List V)) (i7 : Int) (i8 : Int) (i9 : Int) (i10 : Int) (K : Ex → St → Option R) : evRound eMatches 13 4 { fr := [(5, .slc [.str] r5), (6, .slc [.str] r6), (7, .int .i64 i7), (8, .int .i64 i8), (9, .int .i64 i9), (10, .int .i64 i10)], tab := [] } K =
    cond (ilt i8 (↑(List.length r6) : Int))
      (cond (ilt i7 (↑(List.length r5) : Int))
        (cond (decide ((0 : Int) ≤ i7 ∧ i7 < (↑(List.length r5) : Int)))
          (cond (V.toStr (List.getD (List.getD r5 (Int.toNat i7) []) (0 : Nat) V.undef) == [(35 : UInt8)])
            (K Ex.normal
      {
        fr :=
          [((5 : Nat), V.slc [Sh.str] r5), ((6 : Nat), V.slc [Sh.str] r6),
            ((7 : Nat), V.int IntKind.i64 (IntKind.wrap IntKind.i64 (i7 + (1 : Int)))), ((8 : Nat), V.int IntKind.i64 i8),
            ((9 : Nat), V.int IntKind.i64 (IntKind.wrap IntKind.i64 (i7 + (1 : Int)))), ((10 : Nat), V.int IntKind.i64 i8)],
        tab := [] })
            (cond (ilt i7 (↑(List.length r5) : Int))
              (cond (decide ((0 : Int) ≤ i7 ∧ i7 < (↑(List.length r5) : Int)))
                (cond (V.toStr (List.getD (List.getD r5 (Int.toNat i7) []) (0 : Nat) V.undef) == [(42 : UInt8)])
                  (K Ex.normal
      {
        fr :=
          [((5 : Nat), V.slc [Sh.str] r5), ((6 : Nat), V.slc [Sh.str] r6),
            ((7 : Nat), V.int IntKind.i64 (IntKind.wrap IntKind.i64 (i7 + (1 : Int)))),
            ((8 : Nat), V.int IntKind.i64 (IntKind.wrap IntKind.i64 (i8 + (1 : Int)))), ((9 : Nat), V.int IntKind.i64 i9),
            ((10 : Nat), V.int IntKind.i64 i10)],
        tab := [] })
                  (cond (decide ((0 : Int) ≤ i7 ∧ i7 < (↑(List.length r5) : Int)))
                    (cond (decide ((0 : Int) ≤ i8 ∧ i8 < (↑(List.length r6) : Int)))
                      (cond (V.toStr (List.getD (List.getD r5 (Int.toNat i7) []) (0 : Nat) V.undef) ==
      V.toStr (List.getD (List.getD r6 (Int.toNat i8) []) (0 : Nat) V.undef))
                        (K Ex.normal
      {
        fr :=
          [((5 : Nat), V.slc [Sh.str] r5), ((6 : Nat), V.slc [Sh.str] r6),
            ((7 : Nat), V.int IntKind.i64 (IntKind.wrap IntKind.i64 (i7 + (1 : Int)))),
            ((8 : Nat), V.int IntKind.i64 (IntKind.wrap IntKind.i64 (i8 + (1 : Int)))), ((9 : Nat), V.int IntKind.i64 i9),
            ((10 : Nat), V.int IntKind.i64 i10)],
        tab := [] })
                        (cond (ile (0 : Int) i9)
                          (K Ex.normal
      {
        fr :=
          [((5 : Nat), V.slc [Sh.str] r5), ((6 : Nat), V.slc [Sh.str] r6), ((7 : Nat), V.int IntKind.i64 i9),
            ((8 : Nat), V.int IntKind.i64 (IntKind.wrap IntKind.i64 (i10 + (1 : Int)))), ((9 : Nat), V.int IntKind.i64 i9),
            ((10 : Nat), V.int IntKind.i64 (IntKind.wrap IntKind.i64 (i10 + (1 : Int))))],
        tab := [] })
                          (K Ex.ret { fr := [((4 : Nat), V.bool false)], tab := [] })))
                      (none))
                    (none)))
                (none))
              (cond (ile (0 : Int) i9)
                (K Ex.normal
      {
        fr :=
          [((5 : Nat), V.slc [Sh.str] r5), ((6 : Nat), V.slc [Sh.str] r6), ((7 : Nat), V.int IntKind.i64 i9),
            ((8 : Nat), V.int IntKind.i64 (IntKind.wrap IntKind.i64 (i10 + (1 : Int)))), ((9 : Nat), V.int IntKind.i64 i9),
            ((10 : Nat), V.int IntKind.i64 (IntKind.wrap IntKind.i64 (i10 + (1 : Int))))],
        tab := [] })
                (K Ex.ret { fr := [((4 : Nat), V.bool false)], tab := [] }))))
          (none))
        (cond (ilt i7 (↑(List.length r5) : Int))
          (cond (decide ((0 : Int) ≤ i7 ∧ i7 < (↑(List.length r5) : Int)))
            (cond (V.toStr (List.getD (List.getD r5 (Int.toNat i7) []) (0 : Nat) V.undef) == [(42 : UInt8)])
              (K Ex.normal
      {
        fr :=
          [((5 : Nat), V.slc [Sh.str] r5), ((6 : Nat), V.slc [Sh.str] r6),
            ((7 : Nat), V.int IntKind.i64 (IntKind.wrap IntKind.i64 (i7 + (1 : Int)))),
            ((8 : Nat), V.int IntKind.i64 (IntKind.wrap IntKind.i64 (i8 + (1 : Int)))), ((9 : Nat), V.int IntKind.i64 i9),
            ((10 : Nat), V.int IntKind.i64 i10)],
        tab := [] })
              (cond (decide ((0 : Int) ≤ i7 ∧ i7 < (↑(List.length r5) : Int)))
                (cond (decide ((0 : Int) ≤ i8 ∧ i8 < (↑(List.length r6) : Int)))
                  (cond (V.toStr (List.getD (List.getD r5 (Int.toNat i7) []) (0 : Nat) V.undef) ==
      V.toStr (List.getD (List.getD r6 (Int.toNat i8) []) (0 : Nat) V.undef))
                    (K Ex.normal
      {
        fr :=
          [((5 : Nat), V.slc [Sh.str] r5), ((6 : Nat), V.slc [Sh.str] r6),
            ((7 : Nat), V.int IntKind.i64 (IntKind.wrap IntKind.i64 (i7 + (1 : Int)))),
            ((8 : Nat), V.int IntKind.i64 (IntKind.wrap IntKind.i64 (i8 + (1 : Int)))), ((9 : Nat), V.int IntKind.i64 i9),
            ((10 : Nat), V.int IntKind.i64 i10)],
        tab := [] })
                    (cond (ile (0 : Int) i9)
                      (K Ex.normal
      {
        fr :=
          [((5 : Nat), V.slc [Sh.str] r5), ((6 : Nat), V.slc [Sh.str] r6), ((7 : Nat), V.int IntKind.i64 i9),
            ((8 : Nat), V.int IntKind.i64 (IntKind.wrap IntKind.i64 (i10 + (1 : Int)))), ((9 : Nat), V.int IntKind.i64 i9),
            ((10 : Nat), V.int IntKind.i64 (IntKind.wrap IntKind.i64 (i10 + (1 : Int))))],
        tab := [] })
                      (K Ex.ret { fr := [((4 : Nat), V.bool false)], tab := [] })))
                  (none))
                (none)))
            (none))
          (cond (ile (0 : Int) i9)
            (K Ex.normal
      {
        fr :=
          [((5 : Nat), V.slc [Sh.str] r5), ((6 : Nat), V.slc [Sh.str] r6), ((7 : Nat), V.int IntKind.i64 i9),
            ((8 : Nat), V.int IntKind.i64 (IntKind.wrap IntKind.i64 (i10 + (1 : Int)))), ((9 : Nat), V.int IntKind.i64 i9),
            ((10 : Nat), V.int IntKind.i64 (IntKind.wrap IntKind.i64 (i10 + (1 : Int))))],
        tab := [] })
            (K Ex.ret { fr := [((4 : Nat), V.bool false)], tab := [] }))))
      (K (Ex.exit (0 : Nat)) { fr := [((5 : Nat), V.slc [Sh.str] r5), ((7 : Nat), V.int IntKind.i64 i7)], tab := [] }) := by kernel_rfl
theorem q_matchesR14 (r5 : List (List V)) (i7 : Int) (K : Ex → St → Option R) : evRound eMatches 13 14 { fr := [(5, .slc [.str] r5), (7, .int .i64 i7)], tab := [] } K =
    cond (ilt i7 (↑(List.length r5) : Int))
      (cond (decide ((0 : Int) ≤ i7 ∧ i7 < (↑(List.length r5) : Int)))
        (cond (V.toStr (List.getD (List.getD r5 (Int.toNat i7) []) (0 : Nat) V.undef) == [(35 : UInt8)])
          (K Ex.normal
      { fr := [((5 : Nat), V.slc [Sh.str] r5), ((7 : Nat), V.int IntKind.i64 (IntKind.wrap IntKind.i64 (i7 + (1 : Int))))],
        tab := [] })
          (K (Ex.exit (3 : Nat)) { fr := [((5 : Nat), V.slc [Sh.str] r5), ((7 : Nat), V.int IntKind.i64 i7)], tab := [] }))
        (none))
      (K (Ex.exit (3 : Nat)) { fr := [((5 : Nat), V.slc [Sh.str] r5), ((7 : Nat), V.int IntKind.i64 i7)], tab := [] }) := by kernel_rfl
theorem matches14 (r5 : List (List V)) (hr : r5.length ≤ 1000001) (K : Ex → St → Option R) (q : R) (i : Int) (hi : 0 ≤ i) (h : K (.exit 3) { fr := [(5, .slc [.str] r5), (7, .int .i64 (N.hashes (rowsS r5) (r5.length + 1 - i.toNat) i))], tab := [] } = some q) :
    ∃ n, iterR eMatches 13 14 n { fr := [(5, .slc [.str] r5), (7, .int .i64 i)], tab := [] } K = some q := by
  refine loop_ind (E := eMatches) (f := 13) (id := 14) (σ := Int) (fun i => { fr := [(5, .slc [.str] r5), (7, .int .i64 i)], tab := [] })
    (fun i => 0 ≤ i) (fun i => r5.length - i.toNat) (fun i K => K (.exit 3) { fr := [(5, .slc [.str] r5), (7, .int .i64 (N.hashes (rowsS r5) (r5.length + 1 - i.toNat) i))], tab := [] }) ?_ i hi K q h
  intro i hi
  have fz : ∀ i : Int, (r5.length : Int) ≤ i → ∀ f, N.hashes (rowsS r5) f i = i := fun i hi f => by
    cases f with
    | zero => rfl
    | succ f => unfold N.hashes; rw [rowsS_length, ilt_f hi]; rfl
  by_cases hl : i < r5.length
  · have e : r5.length + 1 - i.toNat = (r5.length + 1 - (i + 1).toNat) + 1 := by omega
    have e2 : N.hashes (rowsS r5) (r5.length + 1 - i.toNat) i = cond (rowS (r5.getD i.toNat []) == [35]) (N.hashes (rowsS r5) (r5.length + 1 - (i + 1).toNat) (i + 1)) i := by
      rw [e]
      show cond (cond (ilt i (rowsS r5).length) ((rowsS r5).getD i.toNat [] == [35]) false) _ _ = _
      rw [rowsS_length, ilt_t hl, rowsS_getD]; rfl
    rw [e2]
    cases hc : rowS (r5.getD i.toNat []) == [35] with
    | true =>
      refine .inl ⟨i + 1, by omega, by omega, fun K => ?_, fun K => rfl⟩
      rw [q_matchesR14]
      unfold rowS at hc
      simp (disch := omega) only [evs, hc]
    | false =>
      refine .inr ⟨.exit 3, _, by simp, fun K => ?_, fun K => rfl⟩
      rw [q_matchesR14]
      unfold rowS at hc
      simp (disch := omega) only [evs, hc]
  · refine .inr ⟨.exit 3, _, by simp, fun K => ?_, fun K => rfl⟩
    rw [q_matchesR14, fz i (by omega)]
    simp (disch := omega) only [evs]
theorem matches4 (r5 r6 : List (List V)) (h5 : r5.length ≤ 1000001) (h6 : r6.length ≤ 1000001) (K : Ex → St → Option R) (q : R)
    (h : cond (ile 0 (N.goOnI (rowsS r5) (rowsS r6) 0 0 (-1) 0 (N.goFuel (rowsS r5) (rowsS r6))))
        (K (.exit 0) { fr := [(5, .slc [.str] r5), (7, .int .i64 (N.goOnI (rowsS r5) (rowsS r6) 0 0 (-1) 0 (N.goFuel (rowsS r5) (rowsS r6))))], tab := [] }) (K .ret { fr := [(4, .bool false)], tab := [] }) = some q) :
    ∃ n, iterR eMatches 13 4 n { fr := [(5, .slc [.str] r5), (6, .slc [.str] r6), (7, .int .i64 0), (8, .int .i64 0), (9, .int .i64 (-1)), (10, .int .i64 0)], tab := [] } K = some q := by
  have hv : GoInv (rowsS r5) (rowsS r6) 0 0 (-1) 0 := ⟨by omega, by omega, by omega, by omega, .inl ⟨rfl, rfl⟩⟩
  refine loop_ind (E := eMatches) (f := 13) (id := 4) (σ := Nat × Int × Int × Int × Int)
    (fun x => { fr := [(5, .slc [.str] r5), (6, .slc [.str] r6), (7, .int .i64 x.2.1), (8, .int .i64 x.2.2.1), (9, .int .i64 x.2.2.2.1), (10, .int .i64 x.2.2.2.2)], tab := [] })
    (fun x => GoInv (rowsS r5) (rowsS r6) x.2.1 x.2.2.1 x.2.2.2.1 x.2.2.2.2 ∧ goMeas (rowsS r5) (rowsS r6) x.2.1 x.2.2.2.2 < x.1) (fun x => x.1)
    (fun x K => cond (ile 0 (N.goOnI (rowsS r5) (rowsS r6) x.2.1 x.2.2.1 x.2.2.2.1 x.2.2.2.2 x.1))
        (K (.exit 0) { fr := [(5, .slc [.str] r5), (7, .int .i64 (N.goOnI (rowsS r5) (rowsS r6) x.2.1 x.2.2.1 x.2.2.2.1 x.2.2.2.2 x.1))], tab := [] }) (K .ret { fr := [(4, .bool false)], tab := [] }))
    ?_ (N.goFuel (rowsS r5) (rowsS r6), 0, 0, -1, 0) ⟨hv, by unfold goMeas N.goFuel; simp only [Int.toNat_zero, Nat.sub_zero]; omega⟩ K q h
  rintro ⟨f, i, j, b, fr⟩ ⟨hi, hm⟩
  simp only at hi hm ⊢
  cases f with
  | zero => omega
  | succ f =>
  obtain ⟨s1, s2, s3⟩ : (ilt j (rowsS r6).length = true → _) ∧ (ilt j (rowsS r6).length = true → _) ∧ (ilt j (rowsS r6).length = true → _) := ⟨fun hj => (goOn_step f hi hj).1, fun hj => (goOn_step f hi hj).2.1, fun hj => (goOn_step f hi hj).2.2⟩
  have b0 := hi.i0
  have b1 := hi.i1
  have b2 := hi.j0
  have b3 := hi.j1
  have b4 := hi.bk
  have b5 : -1 ≤ b ∧ b ≤ i ∧ 0 ≤ fr ∧ fr ≤ j := by rcases b4 with ⟨_, _⟩ | ⟨_, _, _, _, _⟩ <;> omega
  rw [rowsS_length] at b1 b3
  have eq : N.goOnI (rowsS r5) (rowsS r6) i j b fr (f + 1) = cond (ilt j r6.length)
      (cond (cond (ilt i r5.length) (rowS (r5.getD i.toNat []) == [35]) false) (N.goOnI (rowsS r5) (rowsS r6) (i + 1) j (i + 1) j f)
        (cond (cond (ilt i r5.length) (cond (rowS (r5.getD i.toNat []) == [42]) true (rowS (r5.getD i.toNat []) == rowS (r6.getD j.toNat []))) false) (N.goOnI (rowsS r5) (rowsS r6) (i + 1) (j + 1) b fr f)
          (cond (ile 0 b) (N.goOnI (rowsS r5) (rowsS r6) b (fr + 1) b (fr + 1) f) (-1)))) i := by
    unfold N.goOnI
    rw [N.goOn, rowsS_length, rowsS_length, rowsS_getD, rowsS_getD]
    cases ilt j r6.length
    · rfl
    · cases cond (ilt i r5.length) (rowS (r5.getD i.toNat []) == [35]) false
      · cases cond (ilt i r5.length) (cond (rowS (r5.getD i.toNat []) == [42]) true (rowS (r5.getD i.toNat []) == rowS (r6.getD j.toNat []))) false
        · cases ile 0 b <;> rfl
        · rfl
      · rfl
  rw [eq]
  simp only [rowsS_length, rowsS_getD] at s1 s2 s3
  cases hj : ilt j r6.length with
  | false =>
    rw [cond_false, ile_t b0]
    refine .inr ⟨.exit 0, _, by simp, fun K => ?_, fun K => rfl⟩
    rw [q_matchesR4, hj]; rfl
  | true =>
    have s1 := s1 hj
    have s2 := s2 hj
    have s3 := s3 hj
    have hj' := ilt_of hj
    simp only [cond_true]
    cases hc : cond (ilt i r5.length) (rowS (r5.getD i.toNat []) == [35]) false with
    | true =>
      obtain ⟨g1, g2, _⟩ := s1 hc
      have hi' : i < r5.length := by
        cases e : ilt i r5.length with
        | true => exact ilt_of e
        | false => rw [e] at hc; cases hc
      refine .inl ⟨(f, i + 1, j, i + 1, j), ⟨g1, by simp only; omega⟩, by simp only; omega, fun K => ?_, fun K => rfl⟩
      rw [q_matchesR4]
      rw [ilt_t hi', cond_true] at hc
      unfold rowS at hc
      simp (disch := omega) only [evs, hc]
    | false =>
      simp only [cond_false]
      cases hd : cond (ilt i r5.length) (cond (rowS (r5.getD i.toNat []) == [42]) true (rowS (r5.getD i.toNat []) == rowS (r6.getD j.toNat []))) false with
      | true =>
        obtain ⟨g1, g2, _⟩ := s2 hc hd
        have hi' : i < r5.length := by
          cases e : ilt i r5.length with
          | true => exact ilt_of e
          | false => rw [e] at hd; cases hd
        refine .inl ⟨(f, i + 1, j + 1, b, fr), ⟨g1, by simp only; omega⟩, by simp only; omega, fun K => ?_, fun K => rfl⟩
        rw [q_matchesR4]
        rw [ilt_t hi', cond_true] at hc hd
        unfold rowS at hc hd
        cases e42 : V.toStr (List.getD (List.getD r5 i.toNat []) 0 V.undef) == [42] with
        | true => simp (disch := omega) only [evs, hc, e42]
        | false => rw [e42, cond_false] at hd; simp (disch := omega) only [evs, hc, e42, hd]
      | false =>
        simp only [cond_false]
        obtain ⟨t1, t2⟩ := s3 hc hd
        cases hb : ile 0 b with
        | true =>
          obtain ⟨g1, g2, _⟩ := t1 hb
          refine .inl ⟨(f, b, fr + 1, b, fr + 1), ⟨g1, by simp only; omega⟩, by simp only; omega, fun K => ?_, fun K => rfl⟩
          rw [q_matchesR4]
          by_cases hi' : i < r5.length
          · rw [ilt_t hi', cond_true] at hc hd
            unfold rowS at hc hd
            cases e42 : V.toStr (List.getD (List.getD r5 i.toNat []) 0 V.undef) == [42] with
            | true => rw [e42] at hd; cases hd
            | false => rw [e42, cond_false] at hd; simp (disch := omega) only [evs, hc, e42, hd, hb]
          · simp (disch := omega) only [evs, hb]
        | false =>
          refine .inr ⟨.ret, { fr := [(4, .bool false)], tab := [] }, by simp, fun K => ?_, fun K => rfl⟩
          rw [q_matchesR4]
          by_cases hi' : i < r5.length
          · rw [ilt_t hi', cond_true] at hc hd
            unfold rowS at hc hd
            cases e42 : V.toStr (List.getD (List.getD r5 i.toNat []) 0 V.undef) == [42] with
            | true => rw [e42] at hd; cases hd
            | false => rw [e42, cond_false] at hd; simp (disch := omega) only [evs, hc, e42, hd, hb]
          · simp (disch := omega) only [evs, hb]
theorem goOn_some {p k : List Bytes} {i : Int} (h : N.goOn p k (N.goFuel p k) 0 0 (-1) 0 = some i) : 0 ≤ i ∧ i ≤ p.length :=
  goOn_bd _ ⟨by omega, by omega, by omega, by omega, .inl ⟨rfl, rfl⟩⟩ h
theorem hashes_fuel {p : List Bytes} : ∀ (f g : Nat) (i : Int), 0 ≤ i → p.length < f + i.toNat → p.length < g + i.toNat → N.hashes p f i = N.hashes p g i
  | 0, 0, i, _, _, _ => rfl
  | 0, g + 1, i, h0, h1, _ => by unfold N.hashes; rw [ilt_f (by omega)]; rfl
  | f + 1, 0, i, h0, _, h1 => by unfold N.hashes; rw [ilt_f (by omega)]; rfl
  | f + 1, g + 1, i, h0, h1, h2 => by
    unfold N.hashes
    rw [hashes_fuel f g (i + 1) (by omega) (by omega) (by omega)]
theorem ok_matches : FnOk Tryd.prog 13 dMatches := by
  refine den_okF (env_ok ((TOk.nil _).cons ok_words)) (E := eMatches) Tryd.func13 [4, 14] (by kernel_rfl) (two2 (rounds_of rfl fun l K q h => ?_) (rounds_of rfl fun l K q h => ?_)) fun a _ h => ?_
  · unfold gMatches4 at h
    split at h
    · rename_i r5 r6 i7 i8 i9 i10
      have h1 := (cond_none h).1; replace h := (cond_none h).2; have h2 := (cond_none h).1; replace h := (cond_none h).2; have h3 := (cond_none h).1; replace h := (cond_none h).2; have h4 := (cond_none h).1; replace h := (cond_none h).2; have h5 := (cond_none h).1; replace h := (cond_none h).2; have h6 := (cond_none h).1; replace h := (cond_none h).2
      have e1 := ieq_of h1
      have e2 := ieq_of h2
      have e3 := ieq_of h3
      have e4 := ieq_of h4
      subst e1 e2 e3 e4
      exact matches4 r5 r6 (ble_of h5) (ble_of h6) K q h
    · cases h
  · unfold gMatches14 at h
    split at h
    · rename_i r5 i7
      have h1 := (cond_none h).1; replace h := (cond_none h).2; have h2 := (cond_none h).1; replace h := (cond_none h).2
      exact matches14 r5 (ble_of h2) K q i7 (ile_of h1) h
    · cases h
  · obtain ⟨p, k⟩ := a
    have h1 := (bcond h).1; replace h := (bcond h).2
    have h1 : p.length ≤ 1000000 := ble_of h1
    have h : k.length ≤ 1000000 := ble_of h
    refine (q_matches p k).trans ?_
    show _ = some (⟨.bool (N.matchW (N.words p) (N.words k)), [], []⟩ : DRes)
    have e : ∀ l : List Bytes, (l.map (fun n => [V.str n])).map (fun r => V.toStr (List.getD r 0 V.undef)) = l := fun l => rowsS_enc l
    have w1 := (words_small p).1
    have w2 := (words_small k).1
    generalize N.words p = p at *
    generalize N.words k = k at *
    simp (disch := omega) only [evs, e]
    unfold N.goOnI N.matchW
    cases hg : N.goOn p k (N.goFuel p k) 0 0 (-1) 0 with
    | none => rfl
    | some i =>
      obtain ⟨g1, g2⟩ := goOn_some hg
      simp only [Option.getD_some]
      simp (disch := omega) only [evs, hashes_fuel (p := p) (p.length + 1 - i.toNat) (p.length + 1) i g1 (by omega) (by omega)]
def schRefMatches4 : SSch := { fr := [(1, .slc [.str]), (5, .own 10000), (16, .slc [.str]), (17, .int .i64), (18, .int .i64)], tab := [(10000, .sl [.bool])] }
def gRefMatches4 : List Leaf → (Ex → St → Option R) → Option R
  | [.r r1, .r r16, .i i17, .i i18, .r rx0], K => cond (i17 == r16.length) (cond (ile 0 i18) (cond (Nat.ble r16.length (LIM + 1)) (cond (Nat.ble r1.length (LIM + 1)) (cond (Nat.beq rx0.length (r1.length + 1))
      (K (.exit 0) { fr := [(1, .slc [.str] r1), (5, .own 10000 0)], tab := [(10000, .sl [.bool] (N.refRowsV r1 ((rowsS r16).drop i18.toNat) rx0) 0)] }) none) none) none) none) none
  | _, _ => none
def schRefMatches8 : SSch := { fr := [(1, .slc [.str]), (5, .own 10000), (7, .str), (8, .own 10001), (9, .int .i64), (16, .slc [.str]), (17, .int .i64), (18, .int .i64)], tab := [(10000, .sl [.bool]), (10001, .sl [.bool])] }
def gRefMatches8 : List Leaf → (Ex → St → Option R) → Option R
  | [.r r1, .s s7, .i i9, .r r16, .i i17, .i i18, .r rx0, .r rx1], K => cond (ile 0 i9) (cond (Nat.ble r1.length (LIM + 1)) (cond (Nat.beq rx0.length (r1.length + 1)) (cond (Nat.beq rx1.length (r1.length + 1))
      (K (.exit 2) { fr := [(1, .slc [.str] r1), (8, .own 10000 0), (16, .slc [.str] r16), (17, .int .i64 i17), (18, .int .i64 i18)], tab := [(10000, .sl [.bool] (N.refRowV s7 r1 rx0 (r1.length + 1 - i9.toNat) i9 rx1) 0)] }) none) none) none) none
  | _, _ => none
noncomputable def eRefMatches : Env := env Tryd.prog [] [(8, loopF schRefMatches8 gRefMatches8), (4, loopF schRefMatches4 gRefMatches4)] [(4, [(0, [1, 5, 16, 17, 18]), (1, [1, 5]), (1000, [4])]), (8, [(0, [1, 5, 7, 8, 9, 16, 17, 18]), (3, [1, 8, 16, 17, 18]), (1000, [4])])]
theorem q_refMatches (p k : List Bytes) : evFn eRefMatches 14 ((aCons (vSl rStr) (aOne (vSl rStr))).enc (p, k)) ([]) some =
    cond (decide
      ((0 : Int) ≤ IntKind.wrap IntKind.i64 ((↑(List.length (List.map (fun n => [V.str n]) k)) : Int) + (1 : Int)) ∧
        IntKind.wrap IntKind.i64 ((↑(List.length (List.map (fun n => [V.str n]) k)) : Int) + (1 : Int)) =
            IntKind.wrap IntKind.i64 ((↑(List.length (List.map (fun n => [V.str n]) k)) : Int) + (1 : Int)) ∧
          IntKind.wrap IntKind.i64 ((↑(List.length (List.map (fun n => [V.str n]) k)) : Int) + (1 : Int)) *
                (↑(1 : Nat) : Int) ≤
              (140737488355328 : Int) ∧
            IntKind.wrap IntKind.i64 ((↑(List.length (List.map (fun n => [V.str n]) k)) : Int) + (1 : Int)) ≤
              (140737488355328 : Int)))
      (cond (decide
      ((0 : Int) ≤ (0 : Int) ∧
        (0 : Int) <
          (↑(List.length
                (List.replicate
                  (Int.toNat
                    (IntKind.wrap IntKind.i64 ((↑(List.length (List.map (fun n => [V.str n]) k)) : Int) + (1 : Int))))
                  [V.bool false])) :
            Int)))
        (cond ((↑(List.length (List.map (fun n => [V.str n]) p)) : Int) == (↑(List.length (List.map (fun n => [V.str n]) p)) : Int))
          (cond (Nat.ble (List.length (List.map (fun n => [V.str n]) p)) (1000001 : Nat))
            (cond (Nat.ble (List.length (List.map (fun n => [V.str n]) k)) (1000001 : Nat))
              (cond (Nat.beq
      (List.length
        (List.set
          (List.replicate
            (Int.toNat (IntKind.wrap IntKind.i64 ((↑(List.length (List.map (fun n => [V.str n]) k)) : Int) + (1 : Int))))
            [V.bool false])
          (0 : Nat) [V.bool true]))
      (List.length (List.map (fun n => [V.str n]) k) + (1 : Nat)))
                (cond (decide
      ((0 : Int) ≤ (↑(List.length (List.map (fun n => [V.str n]) k)) : Int) ∧
        (↑(List.length (List.map (fun n => [V.str n]) k)) : Int) <
          (↑(List.length
                (N.refRowsV (List.map (fun n => [V.str n]) k)
                  (List.drop (0 : Nat)
                    (List.map (fun r => V.toStr (List.getD r (0 : Nat) V.undef)) (List.map (fun n => [V.str n]) p)))
                  (List.set
                    (List.replicate
                      (Int.toNat
                        (IntKind.wrap IntKind.i64 ((↑(List.length (List.map (fun n => [V.str n]) k)) : Int) + (1 : Int))))
                      [V.bool false])
                    (0 : Nat) [V.bool true]))) :
            Int)))
                  (some
      {
        v :=
          V.bool
            (V.toBool
              (List.getD
                (List.getD
                  (N.refRowsV (List.map (fun n => [V.str n]) k)
                    (List.drop (0 : Nat)
                      (List.map (fun r => V.toStr (List.getD r (0 : Nat) V.undef)) (List.map (fun n => [V.str n]) p)))
                    (List.set
                      (List.replicate
                        (Int.toNat
                          (IntKind.wrap IntKind.i64 ((↑(List.length (List.map (fun n => [V.str n]) k)) : Int) + (1 : Int))))
                        [V.bool false])
                      (0 : Nat) [V.bool true]))
                  (Int.toNat (↑(List.length (List.map (fun n => [V.str n]) k)) : Int)) [])
                (0 : Nat) V.undef)),
        bx := [] })
                  (none))
                (none))
              (none))
            (none))
          (none))
        (none))
      (none) := by kernel_rfl
theorem q_refMatchesR4 (r1 : List (List V)) (r16 : List (List V)) (i17 : Int) (i18 : Int) (rx0 : List (List V)) (K : Ex → St → Option R) : evRound eRefMatches 14 4 { fr := [(1, .slc [.str] r1), (5, .own 10000 0), (16, .slc [.str] r16), (17, .int .i64 i17), (18, .int .i64 i18)], tab := [(10000, .sl [.bool] rx0 0)] } K =
    cond (ilt i18 i17)
      (cond (decide ((0 : Int) ≤ i18 ∧ i18 < (↑(List.length r16) : Int)))
        (cond (decide
      ((0 : Int) ≤ IntKind.wrap IntKind.i64 ((↑(List.length r1) : Int) + (1 : Int)) ∧
        IntKind.wrap IntKind.i64 ((↑(List.length r1) : Int) + (1 : Int)) =
            IntKind.wrap IntKind.i64 ((↑(List.length r1) : Int) + (1 : Int)) ∧
          IntKind.wrap IntKind.i64 ((↑(List.length r1) : Int) + (1 : Int)) * (↑(1 : Nat) : Int) ≤ (140737488355328 : Int) ∧
            IntKind.wrap IntKind.i64 ((↑(List.length r1) : Int) + (1 : Int)) ≤ (140737488355328 : Int)))
          (cond (Nat.ble (List.length r1) (1000001 : Nat))
            (cond (Nat.beq (List.length rx0) (List.length r1 + (1 : Nat)))
              (cond (Nat.beq
      (List.length
        (List.replicate (Int.toNat (IntKind.wrap IntKind.i64 ((↑(List.length r1) : Int) + (1 : Int)))) [V.bool false]))
      (List.length r1 + (1 : Nat)))
                (K Ex.normal
      {
        fr :=
          [((1 : Nat), V.slc [Sh.str] r1), ((5 : Nat), V.own (10000 : Nat) (0 : Nat)), ((16 : Nat), V.slc [Sh.str] r16),
            ((17 : Nat), V.int IntKind.i64 i17),
            ((18 : Nat), V.int IntKind.i64 (IntKind.wrap IntKind.i64 (i18 + (1 : Int))))],
        tab :=
          [((10000 : Nat),
              Box.sl [Sh.bool]
                (N.refRowV (V.toStr (List.getD (List.getD r16 (Int.toNat i18) []) (0 : Nat) V.undef)) r1 rx0
                  (List.length r1 + (1 : Nat) - (0 : Nat)) (0 : Int)
                  (List.replicate (Int.toNat (IntKind.wrap IntKind.i64 ((↑(List.length r1) : Int) + (1 : Int))))
                    [V.bool false]))
                (0 : Nat))] })
                (none))
              (none))
            (none))
          (none))
        (none))
      (K (Ex.exit (0 : Nat))
      { fr := [((1 : Nat), V.slc [Sh.str] r1), ((5 : Nat), V.own (10000 : Nat) (0 : Nat))],
        tab := [((10000 : Nat), Box.sl [Sh.bool] rx0 (0 : Nat))] }) := by kernel_rfl
theorem q_refMatchesR8 (r1 : List (List V)) (s7 : Bytes) (i9 : Int) (r16 : List (List V)) (i17 : Int) (i18 : Int) (rx0 : List (List V)) (rx1 : List (List V)) (K : Ex → St → Option R) : evRound eRefMatches 14 8 { fr := [(1, .slc [.str] r1), (5, .own 10000 0), (7, .str s7), (8, .own 10001 0), (9, .int .i64 i9), (16, .slc [.str] r16), (17, .int .i64 i17), (18, .int .i64 i18)], tab := [(10000, .sl [.bool] rx0 0), (10001, .sl [.bool] rx1 0)] } K =
    cond (ile i9 (↑(List.length r1) : Int))
      (cond (s7 == [(35 : UInt8)])
        (cond (decide ((0 : Int) ≤ i9 ∧ i9 < (↑(List.length rx0) : Int)))
          (cond (V.toBool (List.getD (List.getD rx0 (Int.toNat i9) []) (0 : Nat) V.undef))
            (cond (decide ((0 : Int) ≤ i9 ∧ i9 < (↑(List.length rx1) : Int)))
              (K Ex.normal
      {
        fr :=
          [((1 : Nat), V.slc [Sh.str] r1), ((5 : Nat), V.own (10000 : Nat) (0 : Nat)), ((7 : Nat), V.str s7),
            ((8 : Nat), V.own (10001 : Nat) (0 : Nat)),
            ((9 : Nat), V.int IntKind.i64 (IntKind.wrap IntKind.i64 (i9 + (1 : Int)))), ((16 : Nat), V.slc [Sh.str] r16),
            ((17 : Nat), V.int IntKind.i64 i17), ((18 : Nat), V.int IntKind.i64 i18)],
        tab :=
          [((10000 : Nat), Box.sl [Sh.bool] rx0 (0 : Nat)),
            ((10001 : Nat), Box.sl [Sh.bool] (List.set rx1 (Int.toNat i9) [V.bool true]) (0 : Nat))] })
              (none))
            (cond (ilt (0 : Int) i9)
              (cond (decide
      ((0 : Int) ≤ IntKind.wrap IntKind.i64 (i9 - (1 : Int)) ∧
        IntKind.wrap IntKind.i64 (i9 - (1 : Int)) < (↑(List.length rx1) : Int)))
                (cond (decide ((0 : Int) ≤ i9 ∧ i9 < (↑(List.length rx1) : Int)))
                  (K Ex.normal
      {
        fr :=
          [((1 : Nat), V.slc [Sh.str] r1), ((5 : Nat), V.own (10000 : Nat) (0 : Nat)), ((7 : Nat), V.str s7),
            ((8 : Nat), V.own (10001 : Nat) (0 : Nat)),
            ((9 : Nat), V.int IntKind.i64 (IntKind.wrap IntKind.i64 (i9 + (1 : Int)))), ((16 : Nat), V.slc [Sh.str] r16),
            ((17 : Nat), V.int IntKind.i64 i17), ((18 : Nat), V.int IntKind.i64 i18)],
        tab :=
          [((10000 : Nat), Box.sl [Sh.bool] rx0 (0 : Nat)),
            ((10001 : Nat),
              Box.sl [Sh.bool]
                (List.set rx1 (Int.toNat i9)
                  [V.bool
                      (V.toBool
                        (List.getD (List.getD rx1 (Int.toNat (IntKind.wrap IntKind.i64 (i9 - (1 : Int)))) []) (0 : Nat)
                          V.undef))])
                (0 : Nat))] })
                  (none))
                (none))
              (cond (decide ((0 : Int) ≤ i9 ∧ i9 < (↑(List.length rx1) : Int)))
                (K Ex.normal
      {
        fr :=
          [((1 : Nat), V.slc [Sh.str] r1), ((5 : Nat), V.own (10000 : Nat) (0 : Nat)), ((7 : Nat), V.str s7),
            ((8 : Nat), V.own (10001 : Nat) (0 : Nat)),
            ((9 : Nat), V.int IntKind.i64 (IntKind.wrap IntKind.i64 (i9 + (1 : Int)))), ((16 : Nat), V.slc [Sh.str] r16),
            ((17 : Nat), V.int IntKind.i64 i17), ((18 : Nat), V.int IntKind.i64 i18)],
        tab :=
          [((10000 : Nat), Box.sl [Sh.bool] rx0 (0 : Nat)),
            ((10001 : Nat), Box.sl [Sh.bool] (List.set rx1 (Int.toNat i9) [V.bool false]) (0 : Nat))] })
                (none))))
          (none))
        (cond (ilt (0 : Int) i9)
          (cond (decide
      ((0 : Int) ≤ IntKind.wrap IntKind.i64 (i9 - (1 : Int)) ∧
        IntKind.wrap IntKind.i64 (i9 - (1 : Int)) < (↑(List.length rx0) : Int)))
            (cond (V.toBool (List.getD (List.getD rx0 (Int.toNat (IntKind.wrap IntKind.i64 (i9 - (1 : Int)))) []) (0 : Nat) V.undef))
              (cond (s7 == [(42 : UInt8)])
                (cond (decide ((0 : Int) ≤ i9 ∧ i9 < (↑(List.length rx1) : Int)))
                  (K Ex.normal
      {
        fr :=
          [((1 : Nat), V.slc [Sh.str] r1), ((5 : Nat), V.own (10000 : Nat) (0 : Nat)), ((7 : Nat), V.str s7),
            ((8 : Nat), V.own (10001 : Nat) (0 : Nat)),
            ((9 : Nat), V.int IntKind.i64 (IntKind.wrap IntKind.i64 (i9 + (1 : Int)))), ((16 : Nat), V.slc [Sh.str] r16),
            ((17 : Nat), V.int IntKind.i64 i17), ((18 : Nat), V.int IntKind.i64 i18)],
        tab :=
          [((10000 : Nat), Box.sl [Sh.bool] rx0 (0 : Nat)),
            ((10001 : Nat), Box.sl [Sh.bool] (List.set rx1 (Int.toNat i9) [V.bool true]) (0 : Nat))] })
                  (none))
                (cond (decide
      ((0 : Int) ≤ IntKind.wrap IntKind.i64 (i9 - (1 : Int)) ∧
        IntKind.wrap IntKind.i64 (i9 - (1 : Int)) < (↑(List.length r1) : Int)))
                  (cond (decide ((0 : Int) ≤ i9 ∧ i9 < (↑(List.length rx1) : Int)))
                    (K Ex.normal
      {
        fr :=
          [((1 : Nat), V.slc [Sh.str] r1), ((5 : Nat), V.own (10000 : Nat) (0 : Nat)), ((7 : Nat), V.str s7),
            ((8 : Nat), V.own (10001 : Nat) (0 : Nat)),
            ((9 : Nat), V.int IntKind.i64 (IntKind.wrap IntKind.i64 (i9 + (1 : Int)))), ((16 : Nat), V.slc [Sh.str] r16),
            ((17 : Nat), V.int IntKind.i64 i17), ((18 : Nat), V.int IntKind.i64 i18)],
        tab :=
          [((10000 : Nat), Box.sl [Sh.bool] rx0 (0 : Nat)),
            ((10001 : Nat),
              Box.sl [Sh.bool]
                (List.set rx1 (Int.toNat i9)
                  [V.bool
                      (s7 ==
                        V.toStr
                          (List.getD (List.getD r1 (Int.toNat (IntKind.wrap IntKind.i64 (i9 - (1 : Int)))) []) (0 : Nat)
                            V.undef))])
                (0 : Nat))] })
                    (none))
                  (none)))
              (cond (decide ((0 : Int) ≤ i9 ∧ i9 < (↑(List.length rx1) : Int)))
                (K Ex.normal
      {
        fr :=
          [((1 : Nat), V.slc [Sh.str] r1), ((5 : Nat), V.own (10000 : Nat) (0 : Nat)), ((7 : Nat), V.str s7),
            ((8 : Nat), V.own (10001 : Nat) (0 : Nat)),
            ((9 : Nat), V.int IntKind.i64 (IntKind.wrap IntKind.i64 (i9 + (1 : Int)))), ((16 : Nat), V.slc [Sh.str] r16),
            ((17 : Nat), V.int IntKind.i64 i17), ((18 : Nat), V.int IntKind.i64 i18)],
        tab :=
          [((10000 : Nat), Box.sl [Sh.bool] rx0 (0 : Nat)),
            ((10001 : Nat), Box.sl [Sh.bool] (List.set rx1 (Int.toNat i9) [V.bool false]) (0 : Nat))] })
                (none)))
            (none))
          (K Ex.normal
      {
        fr :=
          [((1 : Nat), V.slc [Sh.str] r1), ((5 : Nat), V.own (10000 : Nat) (0 : Nat)), ((7 : Nat), V.str s7),
            ((8 : Nat), V.own (10001 : Nat) (0 : Nat)),
            ((9 : Nat), V.int IntKind.i64 (IntKind.wrap IntKind.i64 (i9 + (1 : Int)))), ((16 : Nat), V.slc [Sh.str] r16),
            ((17 : Nat), V.int IntKind.i64 i17), ((18 : Nat), V.int IntKind.i64 i18)],
        tab := [((10000 : Nat), Box.sl [Sh.bool] rx0 (0 : Nat)), ((10001 : Nat), Box.sl [Sh.bool] rx1 (0 : Nat))] })))
      (K (Ex.exit (2 : Nat))
      {
        fr :=
          [((1 : Nat), V.slc [Sh.str] r1), ((8 : Nat), V.own (10000 : Nat) (0 : Nat)), ((16 : Nat), V.slc [Sh.str] r16),
            ((17 : Nat), V.int IntKind.i64 i17), ((18 : Nat), V.int IntKind.i64 i18)],
        tab := [((10000 : Nat), Box.sl [Sh.bool] rx1 (0 : Nat))] }) := by kernel_rfl
theorem refMatches8 (r1 rx0 r16 : List (List V)) (s : Bytes) (i17 i18 : Int) (h1 : r1.length ≤ 1000001) (h0 : rx0.length = r1.length + 1) (K : Ex → St → Option R) (q : R) (j : Int) (rx1 : List (List V)) (hj : 0 ≤ j) (hx : rx1.length = r1.length + 1)
    (h : K (.exit 2) { fr := [(1, .slc [.str] r1), (8, .own 10000 0), (16, .slc [.str] r16), (17, .int .i64 i17), (18, .int .i64 i18)], tab := [(10000, .sl [.bool] (N.refRowV s r1 rx0 (r1.length + 1 - j.toNat) j rx1) 0)] } = some q) :
    ∃ n, iterR eRefMatches 14 8 n { fr := [(1, .slc [.str] r1), (5, .own 10000 0), (7, .str s), (8, .own 10001 0), (9, .int .i64 j), (16, .slc [.str] r16), (17, .int .i64 i17), (18, .int .i64 i18)], tab := [(10000, .sl [.bool] rx0 0), (10001, .sl [.bool] rx1 0)] } K = some q := by
  refine loop_ind (E := eRefMatches) (f := 14) (id := 8) (σ := Int × List (List V))
    (fun x => { fr := [(1, .slc [.str] r1), (5, .own 10000 0), (7, .str s), (8, .own 10001 0), (9, .int .i64 x.1), (16, .slc [.str] r16), (17, .int .i64 i17), (18, .int .i64 i18)], tab := [(10000, .sl [.bool] rx0 0), (10001, .sl [.bool] x.2 0)] })
    (fun x => 0 ≤ x.1 ∧ x.2.length = r1.length + 1) (fun x => r1.length + 1 - x.1.toNat)
    (fun x K => K (.exit 2) { fr := [(1, .slc [.str] r1), (8, .own 10000 0), (16, .slc [.str] r16), (17, .int .i64 i17), (18, .int .i64 i18)], tab := [(10000, .sl [.bool] (N.refRowV s r1 rx0 (r1.length + 1 - x.1.toNat) x.1 x.2) 0)] }) ?_ (j, rx1) ⟨hj, hx⟩ K q h
  rintro ⟨j, nxt⟩ ⟨hj, hx⟩
  simp only at hj hx ⊢
  by_cases hl : j ≤ r1.length
  · have e : r1.length + 1 - j.toNat = (r1.length + 1 - (j + 1).toNat) + 1 := by omega
    rw [e]
    simp only [N.refRowV]
    cases hh : s == [35] with
    | true =>
      simp only [cond_true]
      refine .inl ⟨(j + 1, nxt.set j.toNat [.bool (cond (rowB (rx0.getD j.toNat [])) true (cond (ilt 0 j) (rowB (nxt.getD (j - 1).toNat [])) false))]), ⟨by simp only; omega, by simp only [List.length_set]; omega⟩, by simp only; omega, fun K => ?_, fun K => rfl⟩
      rw [q_refMatchesR8]
      unfold rowB
      cases hm : V.toBool (List.getD (List.getD rx0 j.toNat []) 0 V.undef) with
      | true => simp (disch := omega) only [evs, hh, hm]
      | false =>
        by_cases h0 : 0 < j
        · simp (disch := omega) only [evs, hh, hm]
        · simp (disch := omega) only [evs, hh, hm]
    | false =>
      simp only [cond_false]
      by_cases h0 : 0 < j
      · rw [ilt_t h0]
        simp only [cond_true]
        refine .inl ⟨(j + 1, nxt.set j.toNat [.bool (cond (rowB (rx0.getD (j - 1).toNat [])) (cond (s == [42]) true (s == rowS (r1.getD (j - 1).toNat []))) false)]), ⟨by simp only; omega, by simp only [List.length_set]; omega⟩, by simp only; omega, fun K => ?_, fun K => rfl⟩
        rw [q_refMatchesR8]
        unfold rowB rowS
        cases hm : V.toBool (List.getD (List.getD rx0 (j - 1).toNat []) 0 V.undef) with
        | true =>
          cases hs : s == [42] with
          | true => simp (disch := omega) only [evs, hh, hm, hs]
          | false => simp (disch := omega) only [evs, hh, hm, hs]
        | false => simp (disch := omega) only [evs, hh, hm]
      · rw [ilt_f (by omega)]
        simp only [cond_false]
        refine .inl ⟨(j + 1, nxt), ⟨by simp only; omega, hx⟩, by simp only; omega, fun K => ?_, fun K => rfl⟩
        rw [q_refMatchesR8]
        simp (disch := omega) only [evs, hh]
  · refine .inr ⟨.exit 2, _, by simp, fun K => ?_, fun K => rfl⟩
    rw [q_refMatchesR8, show r1.length + 1 - j.toNat = 0 by omega]
    simp (disch := omega) only [evs, N.refRowV]
theorem refMatches4 (r1 r16 : List (List V)) (h1 : r1.length ≤ 1000001) (h2 : r16.length ≤ 1000001) (K : Ex → St → Option R) (q : R) (i : Int) (rx0 : List (List V)) (hi : 0 ≤ i) (hx : rx0.length = r1.length + 1)
    (h : K (.exit 0) { fr := [(1, .slc [.str] r1), (5, .own 10000 0)], tab := [(10000, .sl [.bool] (N.refRowsV r1 ((rowsS r16).drop i.toNat) rx0) 0)] } = some q) :
    ∃ n, iterR eRefMatches 14 4 n { fr := [(1, .slc [.str] r1), (5, .own 10000 0), (16, .slc [.str] r16), (17, .int .i64 r16.length), (18, .int .i64 i)], tab := [(10000, .sl [.bool] rx0 0)] } K = some q := by
  refine loop_ind (E := eRefMatches) (f := 14) (id := 4) (σ := Int × List (List V))
    (fun x => { fr := [(1, .slc [.str] r1), (5, .own 10000 0), (16, .slc [.str] r16), (17, .int .i64 r16.length), (18, .int .i64 x.1)], tab := [(10000, .sl [.bool] x.2 0)] })
    (fun x => 0 ≤ x.1 ∧ x.2.length = r1.length + 1) (fun x => r16.length - x.1.toNat)
    (fun x K => K (.exit 0) { fr := [(1, .slc [.str] r1), (5, .own 10000 0)], tab := [(10000, .sl [.bool] (N.refRowsV r1 ((rowsS r16).drop x.1.toNat) x.2) 0)] }) ?_ (i, rx0) ⟨hi, hx⟩ K q h
  rintro ⟨i, may⟩ ⟨hi, hx⟩
  simp only at hi hx ⊢
  by_cases hl : i < r16.length
  · rw [drop_get (show i.toNat < r16.length by omega)]
    refine .inl ⟨(i + 1, N.refRowV (rowS (r16.getD i.toNat [])) r1 may (r1.length + 1) 0 (List.replicate (r1.length + 1) [.bool false])), ⟨by simp only; omega, by simp only [refRowV_length, List.length_replicate]⟩, by simp only; omega, fun K => ?_, fun K => ?_⟩
    · rw [q_refMatchesR4]
      simp (disch := omega) only [evs]
      rfl
    · rw [show (i + 1).toNat = i.toNat + 1 by omega]; rfl
  · refine .inr ⟨.exit 0, { fr := [(1, .slc [.str] r1), (5, .own 10000 0)], tab := [(10000, .sl [.bool] may 0)] }, by simp, fun K => ?_, fun K => ?_⟩
    · rw [q_refMatchesR4]
      simp (disch := omega) only [evs]
    · rw [List.drop_eq_nil_of_le (by rw [rowsS_length]; omega)]; rfl
theorem ok_refMatches : FnOk Tryd.prog 14 dRefMatches := by
  refine den_okF (env_ok (TOk.nil _)) (E := eRefMatches) Tryd.func14 [4, 8] (by kernel_rfl) (two2 (rounds_of rfl fun l K q h => ?_) (rounds_of rfl fun l K q h => ?_)) fun a _ h => ?_
  · unfold gRefMatches4 at h
    split at h
    · rename_i r1 r16 i17 i18 rx0
      have h1 := (cond_none h).1; replace h := (cond_none h).2; have h2 := (cond_none h).1; replace h := (cond_none h).2; have h3 := (cond_none h).1; replace h := (cond_none h).2; have h4 := (cond_none h).1; replace h := (cond_none h).2; have h5 := (cond_none h).1; replace h := (cond_none h).2
      have e1 := ieq_of h1
      subst e1
      exact refMatches4 r1 r16 (ble_of h4) (ble_of h3) K q i18 rx0 (ile_of h2) (Nat.eq_of_beq_eq_true h5) h
    · cases h
  · unfold gRefMatches8 at h
    split at h
    · rename_i r1 s7 i9 r16 i17 i18 rx0 rx1
      have h1 := (cond_none h).1; replace h := (cond_none h).2; have h2 := (cond_none h).1; replace h := (cond_none h).2; have h3 := (cond_none h).1; replace h := (cond_none h).2; have h4 := (cond_none h).1; replace h := (cond_none h).2
      exact refMatches8 r1 rx0 r16 s7 i17 i18 (ble_of h2) (Nat.eq_of_beq_eq_true h3) K q i9 rx1 (ile_of h1) (Nat.eq_of_beq_eq_true h4) h
    · cases h
  · obtain ⟨p, k⟩ := a
    have h1 := (bcond h).1; replace h := (bcond h).2
    have h1 : p.length ≤ 1000000 := ble_of h1
    have h : k.length ≤ 1000000 := ble_of h
    refine (q_refMatches p k).trans ?_
    show _ = some (⟨.bool (N.refMatches p k), [], []⟩ : DRes)
    have e : ∀ l : List Bytes, (l.map (fun n => [V.str n])).map (fun r => V.toStr (List.getD r 0 V.undef)) = l := fun l => rowsS_enc l
    have hlen := refRowsV_length (k.map (fun n => [V.str n])) p ((List.replicate (k.length + 1) [.bool false]).set 0 [.bool true]) (by simp)
    rw [List.length_map] at hlen
    simp (disch := omega) only [evs, e, List.drop_zero, show ((k.length : Int) + 1).toNat = k.length + 1 by omega, hlen, Int.toNat_natCast]
    have main := refRowsV_eq (k.map (fun n => [V.str n])) p ((List.replicate (k.length + 1) [.bool false]).set 0 [.bool true])
    rw [rowsB_set, show rowsS (k.map (fun n => [V.str n])) = k from rowsS_enc k, show rowsB (List.replicate (k.length + 1) [.bool false]) = List.replicate (k.length + 1) false from by unfold rowsB; rw [List.map_replicate]; rfl] at main
    have g := rowsB_getD (N.refRowsV (k.map (fun n => [V.str n])) p ((List.replicate (k.length + 1) [.bool false]).set 0 [.bool true])) k.length
    rw [main] at g
    unfold N.refMatches
    rw [g]; rfl
end Go.Ev
