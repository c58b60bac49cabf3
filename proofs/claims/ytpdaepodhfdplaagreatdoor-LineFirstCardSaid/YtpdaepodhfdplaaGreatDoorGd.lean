/- The program's functions on words answer what the plain ones do: lemmas, no condition. -/
import Derived.Test.YtpdaepodhfdplaaGreatDoorGc
import Derived.Test.YtpdaepodhfdplaaGreatDoorProg
import Derived.KernelRfl
import Derived.Lib.Bytealg
namespace Go.Ev
open Go Go.Proofs
set_option maxRecDepth 100000

noncomputable def eLetter : Env := env Tryz.prog [] [] []
theorem q_letter (c : Int) : evFn eLetter 78 ((aOne (vInt .u8)).enc c) ([]) some =
 cond (ile (97 : Int) c) (cond (ile c (122 : Int)) (some { v := V.bool true, bx := [] }) (cond (ile (48 : Int) c) (cond (ile c (57 : Int)) (some { v := V.bool true, bx := [] }) (cond (c == (45 : Int)) (some { v := V.bool true, bx := [] }) (some { v := V.bool (c == (95 : Int)), bx := [] }))) (cond (c == (45 : Int)) (some { v := V.bool true, bx := [] }) (some { v := V.bool (c == (95 : Int)), bx := [] })))) (cond (ile (48 : Int) c) (cond (ile c (57 : Int)) (some { v := V.bool true, bx := [] }) (cond (c == (45 : Int)) (some { v := V.bool true, bx := [] }) (some { v := V.bool (c == (95 : Int)), bx := [] }))) (cond (c == (45 : Int)) (some { v := V.bool true, bx := [] }) (some { v := V.bool (c == (95 : Int)), bx := [] }))) := by kernel_rfl
theorem ok_letter : FnOk Tryz.prog 78 dLetter := by
  refine den_okF (env_ok (TOk.nil _)) (E := eLetter) Tryz.func78 [] (by kernel_rfl) none0 fun c _ _ => ?_
  refine (q_letter c).trans ?_
  show _ = some (⟨.bool (N.letterI c), [], []⟩ : DRes)
  unfold N.letterI
  cases ile 97 c <;> cases ile c 122 <;> cases ile 48 c <;> cases ile c 57 <;> cases c == 45 <;> rfl
theorem plain_cons (c : UInt8) (r : Bytes) : N.plain (c :: r) = cond (N.letterI c.toNat) (N.plain r) false := by
  show (N.letter c && N.plain r) = _
  unfold N.letter
  cases N.letterI c.toNat <;> rfl
def schPlain : SSch := { fr := [(0, .str), (6, .int .i64), (7, .int .i64)], tab := [] }
def gPlain : List Leaf → (Ex → St → Option R) → Option R
  | [.s s0, .i i6, .i i7], K => cond (i6 == s0.length) (cond (ile 0 i7) (cond (Nat.ble s0.length LIM) (cond (N.plain (s0.drop i7.toNat)) (K (.exit 0) { fr := [], tab := [] }) (K .ret { fr := [(2, .bool false)], tab := [] })) none) none) none
  | _, _ => none
noncomputable def ePlain : Env := env Tryz.prog [] [(2, loopF schPlain gPlain)] [(2, [(0, [0, 6, 7]), (1, []), (1000, [2])])]
theorem q_plain (s : Bytes) : evFn ePlain 148 ((aOne vStr).enc s) ([]) some =
 cond ((↑(List.length s) : Int) == (↑(List.length s) : Int)) (cond (Nat.ble (List.length s) (1000000 : Nat)) (cond (N.plain (List.drop (0 : Nat) s)) (some { v := V.bool true, bx := [] }) (some { v := V.bool false, bx := [] })) (none)) (none) := by kernel_rfl
theorem q_plainR (s0 : Bytes) (i6 : Int) (i7 : Int) (K : Ex → St → Option R) : evRound ePlain 148 2 { fr := [(0, .str s0), (6, .int .i64 i6), (7, .int .i64 i7)], tab := [] } K =
 cond (ilt i7 i6) (cond (decide ((0 : Int) ≤ i7 ∧ i7 < (↑(List.length s0) : Int))) (cond (ile (97 : Int) (↑(UInt8.toNat (List.getD s0 (Int.toNat i7) (0 : UInt8))) : Int)) (cond (ile (↑(UInt8.toNat (List.getD s0 (Int.toNat i7) (0 : UInt8))) : Int) (122 : Int)) (cond (ile (↑(UInt8.toNat (List.getD s0 (Int.toNat i7) (0 : UInt8))) : Int) (122 : Int)) (K Ex.normal { fr := [((0 : Nat), V.str s0), ((6 : Nat), V.int IntKind.i64 i6), ((7 : Nat), V.int IntKind.i64 (IntKind.wrap IntKind.i64 (i7 + (1 : Int))))], tab := [] }) (K Ex.ret { fr := [((2 : Nat), V.bool false)], tab := [] })) (cond (ile (48 : Int) (↑(UInt8.toNat (List.getD s0 (Int.toNat i7) (0 : UInt8))) : Int)) (cond (ile (↑(UInt8.toNat (List.getD s0 (Int.toNat i7) (0 : UInt8))) : Int) (57 : Int)) (cond (ile (↑(UInt8.toNat (List.getD s0 (Int.toNat i7) (0 : UInt8))) : Int) (57 : Int)) (K Ex.normal { fr := [((0 : Nat), V.str s0), ((6 : Nat), V.int IntKind.i64 i6), ((7 : Nat), V.int IntKind.i64 (IntKind.wrap IntKind.i64 (i7 + (1 : Int))))], tab := [] }) (K Ex.ret { fr := [((2 : Nat), V.bool false)], tab := [] })) (cond ((↑(UInt8.toNat (List.getD s0 (Int.toNat i7) (0 : UInt8))) : Int) == (45 : Int)) (cond ((↑(UInt8.toNat (List.getD s0 (Int.toNat i7) (0 : UInt8))) : Int) == (45 : Int)) (K Ex.normal { fr := [((0 : Nat), V.str s0), ((6 : Nat), V.int IntKind.i64 i6), ((7 : Nat), V.int IntKind.i64 (IntKind.wrap IntKind.i64 (i7 + (1 : Int))))], tab := [] }) (K Ex.ret { fr := [((2 : Nat), V.bool false)], tab := [] })) (cond ((↑(UInt8.toNat (List.getD s0 (Int.toNat i7) (0 : UInt8))) : Int) == (95 : Int)) (K Ex.normal { fr := [((0 : Nat), V.str s0), ((6 : Nat), V.int IntKind.i64 i6), ((7 : Nat), V.int IntKind.i64 (IntKind.wrap IntKind.i64 (i7 + (1 : Int))))], tab := [] }) (K Ex.ret { fr := [((2 : Nat), V.bool false)], tab := [] })))) (cond ((↑(UInt8.toNat (List.getD s0 (Int.toNat i7) (0 : UInt8))) : Int) == (45 : Int)) (cond ((↑(UInt8.toNat (List.getD s0 (Int.toNat i7) (0 : UInt8))) : Int) == (45 : Int)) (K Ex.normal { fr := [((0 : Nat), V.str s0), ((6 : Nat), V.int IntKind.i64 i6), ((7 : Nat), V.int IntKind.i64 (IntKind.wrap IntKind.i64 (i7 + (1 : Int))))], tab := [] }) (K Ex.ret { fr := [((2 : Nat), V.bool false)], tab := [] })) (cond ((↑(UInt8.toNat (List.getD s0 (Int.toNat i7) (0 : UInt8))) : Int) == (95 : Int)) (K Ex.normal { fr := [((0 : Nat), V.str s0), ((6 : Nat), V.int IntKind.i64 i6), ((7 : Nat), V.int IntKind.i64 (IntKind.wrap IntKind.i64 (i7 + (1 : Int))))], tab := [] }) (K Ex.ret { fr := [((2 : Nat), V.bool false)], tab := [] }))))) (cond (ile (48 : Int) (↑(UInt8.toNat (List.getD s0 (Int.toNat i7) (0 : UInt8))) : Int)) (cond (ile (↑(UInt8.toNat (List.getD s0 (Int.toNat i7) (0 : UInt8))) : Int) (57 : Int)) (cond (ile (↑(UInt8.toNat (List.getD s0 (Int.toNat i7) (0 : UInt8))) : Int) (57 : Int)) (K Ex.normal { fr := [((0 : Nat), V.str s0), ((6 : Nat), V.int IntKind.i64 i6), ((7 : Nat), V.int IntKind.i64 (IntKind.wrap IntKind.i64 (i7 + (1 : Int))))], tab := [] }) (K Ex.ret { fr := [((2 : Nat), V.bool false)], tab := [] })) (cond ((↑(UInt8.toNat (List.getD s0 (Int.toNat i7) (0 : UInt8))) : Int) == (45 : Int)) (cond ((↑(UInt8.toNat (List.getD s0 (Int.toNat i7) (0 : UInt8))) : Int) == (45 : Int)) (K Ex.normal { fr := [((0 : Nat), V.str s0), ((6 : Nat), V.int IntKind.i64 i6), ((7 : Nat), V.int IntKind.i64 (IntKind.wrap IntKind.i64 (i7 + (1 : Int))))], tab := [] }) (K Ex.ret { fr := [((2 : Nat), V.bool false)], tab := [] })) (cond ((↑(UInt8.toNat (List.getD s0 (Int.toNat i7) (0 : UInt8))) : Int) == (95 : Int)) (K Ex.normal { fr := [((0 : Nat), V.str s0), ((6 : Nat), V.int IntKind.i64 i6), ((7 : Nat), V.int IntKind.i64 (IntKind.wrap IntKind.i64 (i7 + (1 : Int))))], tab := [] }) (K Ex.ret { fr := [((2 : Nat), V.bool false)], tab := [] })))) (cond ((↑(UInt8.toNat (List.getD s0 (Int.toNat i7) (0 : UInt8))) : Int) == (45 : Int)) (cond ((↑(UInt8.toNat (List.getD s0 (Int.toNat i7) (0 : UInt8))) : Int) == (45 : Int)) (K Ex.normal { fr := [((0 : Nat), V.str s0), ((6 : Nat), V.int IntKind.i64 i6), ((7 : Nat), V.int IntKind.i64 (IntKind.wrap IntKind.i64 (i7 + (1 : Int))))], tab := [] }) (K Ex.ret { fr := [((2 : Nat), V.bool false)], tab := [] })) (cond ((↑(UInt8.toNat (List.getD s0 (Int.toNat i7) (0 : UInt8))) : Int) == (95 : Int)) (K Ex.normal { fr := [((0 : Nat), V.str s0), ((6 : Nat), V.int IntKind.i64 i6), ((7 : Nat), V.int IntKind.i64 (IntKind.wrap IntKind.i64 (i7 + (1 : Int))))], tab := [] }) (K Ex.ret { fr := [((2 : Nat), V.bool false)], tab := [] }))))) (none)) (K (Ex.exit (0 : Nat)) { fr := [], tab := [] }) := by kernel_rfl
theorem ok_plain : FnOk Tryz.prog 148 dPlain := by
  refine den_okF (env_ok (TOk.nil _)) (E := ePlain) Tryz.func148 [2] (by kernel_rfl) (one1 (rounds_of rfl fun l K q h => ?_)) fun s _ h => ?_
  · unfold gPlain at h
    split at h
    · rename_i s n i
      have h1 := (cond_none h).1; replace h := (cond_none h).2; have h2 := (cond_none h).1; replace h := (cond_none h).2; have h3 := (cond_none h).1; replace h := (cond_none h).2
      have h1 := ieq_of h1
      subst h1
      have h3 : s.length ≤ 1000000 := ble_of h3
      refine loop_ind (E := ePlain) (f := 148) (id := 2) (fun i : Int => { fr := [(0, .str s), (6, .int .i64 s.length), (7, .int .i64 i)], tab := [] }) (fun i => 0 ≤ i) (fun i => s.length - i.toNat)
        (fun i K => cond (N.plain (s.drop i.toNat)) (K (.exit 0) { fr := [], tab := [] }) (K .ret { fr := [(2, .bool false)], tab := [] })) (fun i hi => ?_) i (ile_of h2) K q h
      by_cases hl : i < s.length
      · rw [drop_byte (show i.toNat < s.length by omega), plain_cons]
        cases hc : N.letterI (s.getD i.toNat 0).toNat with
        | true =>
          refine .inl ⟨i + 1, by omega, by omega, fun K => ?_, fun K => ?_⟩
          · rw [q_plainR]
            simp (disch := omega) only [evs]
            revert hc
            unfold N.letterI
            cases ile 97 (s.getD i.toNat 0).toNat <;> cases ile (s.getD i.toNat 0).toNat 122 <;> cases ile 48 (s.getD i.toNat 0).toNat <;> cases ile (s.getD i.toNat 0).toNat 57 <;> cases ((s.getD i.toNat 0).toNat : Int) == 45 <;> cases ((s.getD i.toNat 0).toNat : Int) == 95 <;> intro hc <;> first | rfl | cases hc
          · rw [cond_true, show (i + 1).toNat = i.toNat + 1 by omega]
        | false =>
          refine .inr ⟨.ret, _, by simp, fun K => ?_, fun K => rfl⟩
          rw [q_plainR]
          simp (disch := omega) only [evs]
          revert hc
          unfold N.letterI
          cases ile 97 (s.getD i.toNat 0).toNat <;> cases ile (s.getD i.toNat 0).toNat 122 <;> cases ile 48 (s.getD i.toNat 0).toNat <;> cases ile (s.getD i.toNat 0).toNat 57 <;> cases ((s.getD i.toNat 0).toNat : Int) == 45 <;> cases ((s.getD i.toNat 0).toNat : Int) == 95 <;> intro hc <;> first | rfl | cases hc
      · refine .inr ⟨.exit 0, { fr := [], tab := [] }, by simp, fun K => ?_, fun K => ?_⟩
        · rw [q_plainR]
          simp (disch := omega) only [evs]
        · rw [List.drop_eq_nil_of_le (by omega)]; rfl
    · cases h
  · refine (q_plain s).trans ?_
    have h : s.length ≤ 1000000 := ble_of h
    show _ = some (⟨.bool (N.plain s), [], []⟩ : DRes)
    simp (disch := omega) only [evs, List.drop_zero]
    cases N.plain s <;> rfl
def schRefSplit : SSch := { fr := [(0, .str), (3, .own 10000), (4, .int .i64), (5, .int .i64)], tab := [(10000, .sl [.str])] }
def gRefSplit : List Leaf → (Ex → St → Option R) → Option R
  | [.s s0, .i i4, .i i5, .r rx0], K => cond (Nat.ble s0.length LIM) (cond (ile 0 i4) (cond (ile i4 i5) (cond (ile i5 s0.length) (cond (Nat.ble (rx0.length + (s0.length - i5.toNat)) (LIM + 1))
      (K (.exit 0) { fr := [(0, .str s0), (3, .own 10000 0), (4, .int .i64 (N.spl s0 (s0.length - i5.toNat) i5 i4 rx0).1)], tab := [(10000, .sl [.str] (N.spl s0 (s0.length - i5.toNat) i5 i4 rx0).2 0)] }) none) none) none) none) none
  | _, _ => none
noncomputable def eRefSplit : Env := env Tryz.prog [] [(6, loopF schRefSplit gRefSplit)] [(6, [(0, [0, 3, 4, 5]), (1, [0, 3, 4]), (1000, [2])])]
theorem q_refSplit (s : Bytes) : evFn eRefSplit 77 ((aOne vStr).enc s) ([]) some =
 cond ((↑(List.length s) : Int) == (0 : Int)) (some { v := V.slc [Sh.str] [], bx := [] }) (cond (Nat.ble (List.length s) (1000000 : Nat)) (cond (Nat.ble ((0 : Nat) + (List.length s - (0 : Nat))) (1000001 : Nat)) (cond (decide ((0 : Int) ≤ Prod.fst (N.spl s (List.length s - (0 : Nat)) (0 : Int) (0 : Int) []) ∧ Prod.fst (N.spl s (List.length s - (0 : Nat)) (0 : Int) (0 : Int) []) ≤ (↑(List.length s) : Int))) (cond (decide ((List.length (Prod.snd (N.spl s (List.length s - (0 : Nat)) (0 : Int) (0 : Int) [])) + (1 : Nat)) * (16 : Nat) ≤ (140737488355328 : Nat))) (some { v := V.slc [Sh.str] (Prod.snd (N.spl s (List.length s - (0 : Nat)) (0 : Int) (0 : Int) []) ++ [[V.str (List.drop (Int.toNat (Prod.fst (N.spl s (List.length s - (0 : Nat)) (0 : Int) (0 : Int) []))) (List.take (List.length s) s))]]), bx := [] }) (none)) (none)) (none)) (none)) := by kernel_rfl
theorem q_refSplitR (s0 : Bytes) (i4 : Int) (i5 : Int) (rx0 : List (List V)) (K : Ex → St → Option R) : evRound eRefSplit 77 6 { fr := [(0, .str s0), (3, .own 10000 0), (4, .int .i64 i4), (5, .int .i64 i5)], tab := [(10000, .sl [.str] rx0 0)] } K =
 cond (ilt i5 (↑(List.length s0) : Int)) (cond (decide ((0 : Int) ≤ i5 ∧ i5 < (↑(List.length s0) : Int))) (cond ((↑(UInt8.toNat (List.getD s0 (Int.toNat i5) (0 : UInt8))) : Int) == (46 : Int)) (cond (decide ((0 : Int) ≤ i5 ∧ i5 ≤ (↑(List.length s0) : Int))) (cond (decide ((0 : Int) ≤ i4 ∧ i4 ≤ (↑(Int.toNat i5) : Int))) (cond (decide ((List.length rx0 + (1 : Nat)) * (16 : Nat) ≤ (140737488355328 : Nat))) (K Ex.normal { fr := [((0 : Nat), V.str s0), ((3 : Nat), V.own (10000 : Nat) (0 : Nat)), ((4 : Nat), V.int IntKind.i64 (IntKind.wrap IntKind.i64 (i5 + (1 : Int)))), ((5 : Nat), V.int IntKind.i64 (IntKind.wrap IntKind.i64 (i5 + (1 : Int))))], tab := [((10000 : Nat), Box.sl [Sh.str] (rx0 ++ [[V.str (List.drop (Int.toNat i4) (List.take (Int.toNat i5) s0))]]) (0 : Nat))] }) (none)) (none)) (none)) (K Ex.normal { fr := [((0 : Nat), V.str s0), ((3 : Nat), V.own (10000 : Nat) (0 : Nat)), ((4 : Nat), V.int IntKind.i64 i4), ((5 : Nat), V.int IntKind.i64 (IntKind.wrap IntKind.i64 (i5 + (1 : Int))))], tab := [((10000 : Nat), Box.sl [Sh.str] rx0 (0 : Nat))] })) (none)) (K (Ex.exit (0 : Nat)) { fr := [((0 : Nat), V.str s0), ((3 : Nat), V.own (10000 : Nat) (0 : Nat)), ((4 : Nat), V.int IntKind.i64 i4)], tab := [((10000 : Nat), Box.sl [Sh.str] rx0 (0 : Nat))] }) := by kernel_rfl
theorem ok_refSplit : FnOk Tryz.prog 77 dWords := by
  refine den_okF (env_ok (TOk.nil _)) (E := eRefSplit) Tryz.func77 [6] (by kernel_rfl) (one1 (rounds_of rfl fun l K q h => ?_)) fun s _ h => ?_
  · unfold gRefSplit at h
    split at h
    · rename_i s fr i rows
      have h1 := (cond_none h).1; replace h := (cond_none h).2; have h2 := (cond_none h).1; replace h := (cond_none h).2; have h3 := (cond_none h).1; replace h := (cond_none h).2; have h4 := (cond_none h).1; replace h := (cond_none h).2; have h5 := (cond_none h).1; replace h := (cond_none h).2
      have h1 : s.length ≤ 1000000 := ble_of h1
      have h5 : rows.length + (s.length - i.toNat) ≤ 1000001 := ble_of h5
      refine loop_ind (E := eRefSplit) (f := 77) (id := 6) (σ := Int × Int × List (List V)) (fun x => { fr := [(0, .str s), (3, .own 10000 0), (4, .int .i64 x.1), (5, .int .i64 x.2.1)], tab := [(10000, .sl [.str] x.2.2 0)] })
        (fun x => 0 ≤ x.1 ∧ x.1 ≤ x.2.1 ∧ x.2.1 ≤ s.length ∧ x.2.2.length + (s.length - x.2.1.toNat) ≤ 1000001) (fun x => s.length - x.2.1.toNat)
        (fun x K => K (.exit 0) { fr := [(0, .str s), (3, .own 10000 0), (4, .int .i64 (N.spl s (s.length - x.2.1.toNat) x.2.1 x.1 x.2.2).1)], tab := [(10000, .sl [.str] (N.spl s (s.length - x.2.1.toNat) x.2.1 x.1 x.2.2).2 0)] }) ?_ (fr, i, rows)
        ⟨ile_of h2, ile_of h3, ile_of h4, h5⟩ K q h
      rintro ⟨fr, i, rows⟩ ⟨h2, h3, h4, h5⟩
      simp only at h2 h3 h4 h5 ⊢
      by_cases hl : i < s.length
      · have e : s.length - i.toNat = (s.length - (i + 1).toNat) + 1 := by omega
        rw [e]
        simp only [N.spl]
        cases hc : (((s.getD i.toNat 0).toNat : Int) == 46) with
        | true =>
          refine .inl ⟨(i + 1, i + 1, rows ++ [[.str ((s.take i.toNat).drop fr.toNat)]]), ⟨by simp only; omega, by simp only; omega, by simp only; omega, by simp only [List.length_append, List.length_cons, List.length_nil]; omega⟩, by simp only; omega, fun K => ?_, fun K => rfl⟩
          rw [q_refSplitR]
          simp (disch := omega) only [evs, hc]
        | false =>
          refine .inl ⟨(fr, i + 1, rows), ⟨by simp only; omega, by simp only; omega, by simp only; omega, by simp only; omega⟩, by simp only; omega, fun K => ?_, fun K => rfl⟩
          rw [q_refSplitR]
          simp (disch := omega) only [evs, hc]
      · refine .inr ⟨.exit 0, _, by simp, fun K => ?_, fun K => rfl⟩
        rw [q_refSplitR, show s.length - i.toNat = 0 by omega]
        simp (disch := omega) only [evs, N.spl]
    · cases h
  · refine (q_refSplit s).trans ?_
    have h : s.length ≤ 1000000 := ble_of h
    show _ = some (⟨.slc [.str] ((N.words s).map rStr.enc), [], []⟩ : DRes)
    cases s with
    | nil => rfl
    | cons c r =>
      generalize hs : c :: r = s at *
      have hpos : 0 < s.length := by rw [← hs]; simp
      have hw : N.words s = N.splitDot s := by rw [← hs]; rfl
      obtain ⟨g1, g2, g3⟩ := spl_ok s s.length 0 0 [] (by omega) (by omega) (by omega)
      have g4 := spl_len s s.length 0 0 []
      simp only [List.length_nil, Nat.zero_add] at g4
      simp (disch := omega) only [evs, Nat.sub_zero, Nat.zero_add]
      rw [List.take_length, g3, hw]
      simp only [Int.toNat_zero, List.drop_zero, List.take_zero, List.nil_append]
      cases h : N.splitDot s with
      | nil => exact absurd h (splitDot_ne _)
      | cons w ws => rfl
noncomputable def eDot1 : Env := env Tryz.prog [(194, dDot1)] [] []
theorem q_dot1 (s : Bytes) : evFn eDot1 189 ((aCons vStr (aOne (vInt .u8))).enc (s, 46)) ([]) some =
 some { v := V.int IntKind.i64 (N.dot s), bx := [] } := by kernel_rfl
theorem dot_eq (s : Bytes) : Lib.indexByte s 46 = N.dot s := by
  induction s with
  | nil => rfl
  | cons c r ih =>
    unfold Lib.indexByte N.dot
    rw [ih]
    cases c == 46 <;> cases N.dot r == -1 <;> rfl
/-- An entry of the model's that looks at its arguments alone. -/
theorem entry_ok {P : Program} {f : FuncId} {vs : List V} {D : Den} (v : V) (x : Value) (hv : ∀ w I ρ, Rv w I ρ v x) (xs : List Value) (hx : ∀ w I ρ ys, AllRv w I ρ vs ys → ys = xs) (hD : ∀ a b, D.pre a b = true → a = vs ∧ b = [] ∧ D.res a b = ⟨v, [], []⟩)
    (h : ∀ w, (callFunc f xs.toArray).run P w = .ok (.value x) w) : FnOk P f D := fun a b hp w J locs ys hl hJ hr _ _ _ => by
  obtain ⟨rfl, rfl, e⟩ := hD a b hp
  obtain rfl := hx _ _ _ _ hr
  refine .inr ⟨x, w, h w, J, ?_⟩
  rw [e]
  exact ⟨Keeps.refl _ _, fun _ _ h => h, hJ, fun _ _ h _ => h, rfl, fun j cs cs' p h1 => by simp at h1, .inl ⟨rfl, hv _ _ _⟩⟩
theorem two_args {s : Bytes} {w : World} {I : Nat → Nat → Prop} {ρ : Nat → Option Real} {ys : List Value} (h : AllRv w I ρ [.str s, .int .u8 46] ys) : ys = [.string ⟨s.toArray⟩, .int .u8 46] := by
  obtain ⟨x, xs, rfl, h1, h2⟩ := h.uncons
  obtain ⟨y, rfl, h3⟩ := h2.one
  rw [h1.str_inv, h3.int_inv]
theorem ok_dotE : FnOk Tryz.prog 194 dDot1 := by
  refine den_of fun a u h => ?_
  obtain ⟨s, c⟩ := a
  have h : c = 46 := ieq_of h
  subst h
  refine entry_ok (vs := [.str s, .int .u8 46]) (.int .i64 (N.dot s)) (.int .i64 (N.dot s)) (fun _ _ _ => .dat (.int _ _)) [.string ⟨s.toArray⟩, .int .u8 46] (fun _ _ _ _ h => two_args h) (fun a b h => ?_) fun w => ?_
  · have h : a = (aCons vStr (aOne (vInt .u8))).enc (s, 46) ∧ b = bNil.enc u := by simpa using h
    exact ⟨h.1, h.2, rfl⟩
  · rw [run_callFunc_extern Tryz.func194 (by kernel_rfl) (by kernel_rfl) (by kernel_rfl) (e := Extern.BytealgIndexByte.indexByte) (by kernel_rfl), Lib.run_indexByteString]
    simp only [Result.andThen]
    have : Lib.indexByte (ByteArray.mk s.toArray).data.toList (Int.toNat 46).toUInt8 = N.dot s := dot_eq s
    rw [this]
theorem ok_dotsE : FnOk Tryz.prog 185 dDots1 := by
  refine den_of fun a u h => ?_
  obtain ⟨s, c⟩ := a
  have h : c = 46 := ieq_of h
  subst h
  refine entry_ok (vs := [.str s, .int .u8 46]) (.int .i64 (N.dots s)) (.int .i64 (N.dots s)) (fun _ _ _ => .dat (.int _ _)) [.string ⟨s.toArray⟩, .int .u8 46] (fun _ _ _ _ h => two_args h) (fun a b h => ?_) fun w => ?_
  · have h : a = (aCons vStr (aOne (vInt .u8))).enc (s, 46) ∧ b = bNil.enc u := by simpa using h
    exact ⟨h.1, h.2, rfl⟩
  · rw [run_callFunc_extern Tryz.func185 (by kernel_rfl) (by kernel_rfl) (by kernel_rfl) (e := Extern.BytealgCount.count) (by kernel_rfl), Lib.run_countString]
    rfl
theorem ok_dot1 : FnOk Tryz.prog 189 dDot1 := by
  refine den_okF (env_ok ((TOk.nil _).cons ok_dotE)) (E := eDot1) Tryz.func189 [] (by kernel_rfl) none0 fun a _ h => ?_
  obtain ⟨s, c⟩ := a
  have h : c = 46 := ieq_of h
  subst h
  exact q_dot1 s
noncomputable def eDotL : Env := env Tryz.prog [(189, dDot1)] [(15, fun _ _ => none)] []
theorem q_dotL (s : Bytes) : evFn eDotL 186 ((aCons vStr (aOne vStr)).enc (s, [46])) ([]) some =
 cond ([(46 : UInt8)] == s) (some { v := V.int IntKind.i64 (0 : Int), bx := [] }) (some { v := V.int IntKind.i64 (N.dot s), bx := [] }) := by kernel_rfl
theorem ok_dotL : FnOk Tryz.prog 186 dDot := by
  refine den_okF (env_ok ((TOk.nil _).cons ok_dot1)) (E := eDotL) Tryz.func186 [15] (by kernel_rfl) (one1 (rounds_none rfl)) fun a _ h => ?_
  obtain ⟨s, c⟩ := a
  have h : c = [46] := by simpa using h
  subst h
  refine (q_dotL s).trans ?_
  cases e : ([46] == s) with
  | true =>
    have e : [46] = s := by simpa using e
    subst e; rfl
  | false => rfl
noncomputable def eDot : Env := env Tryz.prog [(186, dDot)] [] []
theorem q_dot (s : Bytes) : evFn eDot 179 ((aCons vStr (aOne vStr)).enc (s, [46])) ([]) some =
 some { v := V.int IntKind.i64 (N.dot s), bx := [] } := by kernel_rfl
theorem ok_dot : FnOk Tryz.prog 179 dDot := by
  refine den_okF (env_ok ((TOk.nil _).cons ok_dotL)) (E := eDot) Tryz.func179 [] (by kernel_rfl) none0 fun a _ h => ?_
  obtain ⟨s, c⟩ := a
  have h : c = [46] := by simpa using h
  subst h
  exact q_dot s
noncomputable def eDots : Env := env Tryz.prog [(185, dDots1)] [(6, fun _ _ => none)] []
theorem q_dots (s : Bytes) : evFn eDots 178 ((aCons vStr (aOne vStr)).enc (s, [46])) ([]) some =
 some { v := V.int IntKind.i64 (N.dots s), bx := [] } := by kernel_rfl
theorem ok_dots : FnOk Tryz.prog 178 dDots := by
  refine den_okF (env_ok ((TOk.nil _).cons ok_dotsE)) (E := eDots) Tryz.func178 [6] (by kernel_rfl) (one1 (rounds_none rfl)) fun a _ h => ?_
  obtain ⟨s, c⟩ := a
  have h : c = [46] := by simpa using h
  subst h
  exact q_dots s
def schGen : SSch := { fr := [(0, .str), (1, .str), (2, .int .i64), (3, .int .i64), (9, .own 10000), (10, .int .i64)], tab := [(10000, .sl [.str])] }
def gGen : List Leaf → (Ex → St → Option R) → Option R
  | [.s s0, .s s1, .i i2, .i i3, .i i10, .r rx0], K => cond (s1 == [46]) (cond (i2 == 0) (cond (ile 0 i10) (cond (ile i10 i3) (cond (i3 + 1 == rx0.length) (cond (Nat.ble s0.length LIM) (cond (Nat.ble rx0.length (LIM + 1))
      (K (.exit 0) { fr := [(0, .str (N.gen (i3 - i10).toNat s0 i10 rx0).1), (9, .own 10000 0), (10, .int .i64 (N.gen (i3 - i10).toNat s0 i10 rx0).2.1)], tab := [(10000, .sl [.str] (N.gen (i3 - i10).toNat s0 i10 rx0).2.2 0)] }) none) none) none) none) none) none) none
  | _, _ => none
noncomputable def eGen : Env := env Tryz.prog [(178, dDots), (179, dDot)] [(11, loopF schGen gGen)] [(11, [(0, [0, 1, 2, 3, 9, 10]), (1, [0, 9, 10]), (1000, [8])])]
theorem q_gen (s : Bytes) : evFn eGen 174 ((aCons vStr (aCons vStr (aCons (vInt .i64) (aOne (vInt .i64))))).enc (s, [46], 0, -1)) ([]) some =
 cond (decide (((0 : Int) ≤ bif ilt (IntKind.wrap IntKind.i64 ((↑(List.length s) : Int) + (1 : Int))) (IntKind.wrap IntKind.i64 (N.dots s + (1 : Int))) then IntKind.wrap IntKind.i64 ((↑(List.length s) : Int) + (1 : Int)) else IntKind.wrap IntKind.i64 (N.dots s + (1 : Int))) ∧ ((bif ilt (IntKind.wrap IntKind.i64 ((↑(List.length s) : Int) + (1 : Int))) (IntKind.wrap IntKind.i64 (N.dots s + (1 : Int))) then IntKind.wrap IntKind.i64 ((↑(List.length s) : Int) + (1 : Int)) else IntKind.wrap IntKind.i64 (N.dots s + (1 : Int))) = bif ilt (IntKind.wrap IntKind.i64 ((↑(List.length s) : Int) + (1 : Int))) (IntKind.wrap IntKind.i64 (N.dots s + (1 : Int))) then IntKind.wrap IntKind.i64 ((↑(List.length s) : Int) + (1 : Int)) else IntKind.wrap IntKind.i64 (N.dots s + (1 : Int))) ∧ (bif ilt (IntKind.wrap IntKind.i64 ((↑(List.length s) : Int) + (1 : Int))) (IntKind.wrap IntKind.i64 (N.dots s + (1 : Int))) then IntKind.wrap IntKind.i64 ((↑(List.length s) : Int) + (1 : Int)) else IntKind.wrap IntKind.i64 (N.dots s + (1 : Int))) * (↑(16 : Nat) : Int) ≤ (140737488355328 : Int) ∧ (bif ilt (IntKind.wrap IntKind.i64 ((↑(List.length s) : Int) + (1 : Int))) (IntKind.wrap IntKind.i64 (N.dots s + (1 : Int))) then IntKind.wrap IntKind.i64 ((↑(List.length s) : Int) + (1 : Int)) else IntKind.wrap IntKind.i64 (N.dots s + (1 : Int))) ≤ (140737488355328 : Int))) (cond (ile (0 : Int) (IntKind.wrap IntKind.i64 ((bif ilt (IntKind.wrap IntKind.i64 ((↑(List.length s) : Int) + (1 : Int))) (IntKind.wrap IntKind.i64 (N.dots s + (1 : Int))) then IntKind.wrap IntKind.i64 ((↑(List.length s) : Int) + (1 : Int)) else IntKind.wrap IntKind.i64 (N.dots s + (1 : Int))) - (1 : Int)))) (cond (IntKind.wrap IntKind.i64 ((bif ilt (IntKind.wrap IntKind.i64 ((↑(List.length s) : Int) + (1 : Int))) (IntKind.wrap IntKind.i64 (N.dots s + (1 : Int))) then IntKind.wrap IntKind.i64 ((↑(List.length s) : Int) + (1 : Int)) else IntKind.wrap IntKind.i64 (N.dots s + (1 : Int))) - (1 : Int)) + (1 : Int) == (↑(List.length (List.replicate (Int.toNat (bif ilt (IntKind.wrap IntKind.i64 ((↑(List.length s) : Int) + (1 : Int))) (IntKind.wrap IntKind.i64 (N.dots s + (1 : Int))) then IntKind.wrap IntKind.i64 ((↑(List.length s) : Int) + (1 : Int)) else IntKind.wrap IntKind.i64 (N.dots s + (1 : Int)))) [V.str []])) : Int)) (cond (Nat.ble (List.length s) (1000000 : Nat)) (cond (Nat.ble (List.length (List.replicate (Int.toNat (bif ilt (IntKind.wrap IntKind.i64 ((↑(List.length s) : Int) + (1 : Int))) (IntKind.wrap IntKind.i64 (N.dots s + (1 : Int))) then IntKind.wrap IntKind.i64 ((↑(List.length s) : Int) + (1 : Int)) else IntKind.wrap IntKind.i64 (N.dots s + (1 : Int)))) [V.str []])) (1000001 : Nat)) (cond (decide ((0 : Int) ≤ Prod.fst (Prod.snd (N.gen (Int.toNat (IntKind.wrap IntKind.i64 ((bif ilt (IntKind.wrap IntKind.i64 ((↑(List.length s) : Int) + (1 : Int))) (IntKind.wrap IntKind.i64 (N.dots s + (1 : Int))) then IntKind.wrap IntKind.i64 ((↑(List.length s) : Int) + (1 : Int)) else IntKind.wrap IntKind.i64 (N.dots s + (1 : Int))) - (1 : Int)) - (0 : Int))) s (0 : Int) (List.replicate (Int.toNat (bif ilt (IntKind.wrap IntKind.i64 ((↑(List.length s) : Int) + (1 : Int))) (IntKind.wrap IntKind.i64 (N.dots s + (1 : Int))) then IntKind.wrap IntKind.i64 ((↑(List.length s) : Int) + (1 : Int)) else IntKind.wrap IntKind.i64 (N.dots s + (1 : Int)))) [V.str []]))) ∧ Prod.fst (Prod.snd (N.gen (Int.toNat (IntKind.wrap IntKind.i64 ((bif ilt (IntKind.wrap IntKind.i64 ((↑(List.length s) : Int) + (1 : Int))) (IntKind.wrap IntKind.i64 (N.dots s + (1 : Int))) then IntKind.wrap IntKind.i64 ((↑(List.length s) : Int) + (1 : Int)) else IntKind.wrap IntKind.i64 (N.dots s + (1 : Int))) - (1 : Int)) - (0 : Int))) s (0 : Int) (List.replicate (Int.toNat (bif ilt (IntKind.wrap IntKind.i64 ((↑(List.length s) : Int) + (1 : Int))) (IntKind.wrap IntKind.i64 (N.dots s + (1 : Int))) then IntKind.wrap IntKind.i64 ((↑(List.length s) : Int) + (1 : Int)) else IntKind.wrap IntKind.i64 (N.dots s + (1 : Int)))) [V.str []]))) < (↑(List.length (Prod.snd (Prod.snd (N.gen (Int.toNat (IntKind.wrap IntKind.i64 ((bif ilt (IntKind.wrap IntKind.i64 ((↑(List.length s) : Int) + (1 : Int))) (IntKind.wrap IntKind.i64 (N.dots s + (1 : Int))) then IntKind.wrap IntKind.i64 ((↑(List.length s) : Int) + (1 : Int)) else IntKind.wrap IntKind.i64 (N.dots s + (1 : Int))) - (1 : Int)) - (0 : Int))) s (0 : Int) (List.replicate (Int.toNat (bif ilt (IntKind.wrap IntKind.i64 ((↑(List.length s) : Int) + (1 : Int))) (IntKind.wrap IntKind.i64 (N.dots s + (1 : Int))) then IntKind.wrap IntKind.i64 ((↑(List.length s) : Int) + (1 : Int)) else IntKind.wrap IntKind.i64 (N.dots s + (1 : Int)))) [V.str []]))))) : Int))) (cond (decide ((0 : Int) ≤ IntKind.wrap IntKind.i64 (Prod.fst (Prod.snd (N.gen (Int.toNat (IntKind.wrap IntKind.i64 ((bif ilt (IntKind.wrap IntKind.i64 ((↑(List.length s) : Int) + (1 : Int))) (IntKind.wrap IntKind.i64 (N.dots s + (1 : Int))) then IntKind.wrap IntKind.i64 ((↑(List.length s) : Int) + (1 : Int)) else IntKind.wrap IntKind.i64 (N.dots s + (1 : Int))) - (1 : Int)) - (0 : Int))) s (0 : Int) (List.replicate (Int.toNat (bif ilt (IntKind.wrap IntKind.i64 ((↑(List.length s) : Int) + (1 : Int))) (IntKind.wrap IntKind.i64 (N.dots s + (1 : Int))) then IntKind.wrap IntKind.i64 ((↑(List.length s) : Int) + (1 : Int)) else IntKind.wrap IntKind.i64 (N.dots s + (1 : Int)))) [V.str []]))) + (1 : Int)) ∧ IntKind.wrap IntKind.i64 (Prod.fst (Prod.snd (N.gen (Int.toNat (IntKind.wrap IntKind.i64 ((bif ilt (IntKind.wrap IntKind.i64 ((↑(List.length s) : Int) + (1 : Int))) (IntKind.wrap IntKind.i64 (N.dots s + (1 : Int))) then IntKind.wrap IntKind.i64 ((↑(List.length s) : Int) + (1 : Int)) else IntKind.wrap IntKind.i64 (N.dots s + (1 : Int))) - (1 : Int)) - (0 : Int))) s (0 : Int) (List.replicate (Int.toNat (bif ilt (IntKind.wrap IntKind.i64 ((↑(List.length s) : Int) + (1 : Int))) (IntKind.wrap IntKind.i64 (N.dots s + (1 : Int))) then IntKind.wrap IntKind.i64 ((↑(List.length s) : Int) + (1 : Int)) else IntKind.wrap IntKind.i64 (N.dots s + (1 : Int)))) [V.str []]))) + (1 : Int)) ≤ (↑(List.length (List.set (Prod.snd (Prod.snd (N.gen (Int.toNat (IntKind.wrap IntKind.i64 ((bif ilt (IntKind.wrap IntKind.i64 ((↑(List.length s) : Int) + (1 : Int))) (IntKind.wrap IntKind.i64 (N.dots s + (1 : Int))) then IntKind.wrap IntKind.i64 ((↑(List.length s) : Int) + (1 : Int)) else IntKind.wrap IntKind.i64 (N.dots s + (1 : Int))) - (1 : Int)) - (0 : Int))) s (0 : Int) (List.replicate (Int.toNat (bif ilt (IntKind.wrap IntKind.i64 ((↑(List.length s) : Int) + (1 : Int))) (IntKind.wrap IntKind.i64 (N.dots s + (1 : Int))) then IntKind.wrap IntKind.i64 ((↑(List.length s) : Int) + (1 : Int)) else IntKind.wrap IntKind.i64 (N.dots s + (1 : Int)))) [V.str []])))) (Int.toNat (Prod.fst (Prod.snd (N.gen (Int.toNat (IntKind.wrap IntKind.i64 ((bif ilt (IntKind.wrap IntKind.i64 ((↑(List.length s) : Int) + (1 : Int))) (IntKind.wrap IntKind.i64 (N.dots s + (1 : Int))) then IntKind.wrap IntKind.i64 ((↑(List.length s) : Int) + (1 : Int)) else IntKind.wrap IntKind.i64 (N.dots s + (1 : Int))) - (1 : Int)) - (0 : Int))) s (0 : Int) (List.replicate (Int.toNat (bif ilt (IntKind.wrap IntKind.i64 ((↑(List.length s) : Int) + (1 : Int))) (IntKind.wrap IntKind.i64 (N.dots s + (1 : Int))) then IntKind.wrap IntKind.i64 ((↑(List.length s) : Int) + (1 : Int)) else IntKind.wrap IntKind.i64 (N.dots s + (1 : Int)))) [V.str []]))))) [V.str (Prod.fst (N.gen (Int.toNat (IntKind.wrap IntKind.i64 ((bif ilt (IntKind.wrap IntKind.i64 ((↑(List.length s) : Int) + (1 : Int))) (IntKind.wrap IntKind.i64 (N.dots s + (1 : Int))) then IntKind.wrap IntKind.i64 ((↑(List.length s) : Int) + (1 : Int)) else IntKind.wrap IntKind.i64 (N.dots s + (1 : Int))) - (1 : Int)) - (0 : Int))) s (0 : Int) (List.replicate (Int.toNat (bif ilt (IntKind.wrap IntKind.i64 ((↑(List.length s) : Int) + (1 : Int))) (IntKind.wrap IntKind.i64 (N.dots s + (1 : Int))) then IntKind.wrap IntKind.i64 ((↑(List.length s) : Int) + (1 : Int)) else IntKind.wrap IntKind.i64 (N.dots s + (1 : Int)))) [V.str []])))])) : Int))) (some { v := V.slc [Sh.str] (List.drop (0 : Nat) (List.take (Int.toNat (IntKind.wrap IntKind.i64 (Prod.fst (Prod.snd (N.gen (Int.toNat (IntKind.wrap IntKind.i64 ((bif ilt (IntKind.wrap IntKind.i64 ((↑(List.length s) : Int) + (1 : Int))) (IntKind.wrap IntKind.i64 (N.dots s + (1 : Int))) then IntKind.wrap IntKind.i64 ((↑(List.length s) : Int) + (1 : Int)) else IntKind.wrap IntKind.i64 (N.dots s + (1 : Int))) - (1 : Int)) - (0 : Int))) s (0 : Int) (List.replicate (Int.toNat (bif ilt (IntKind.wrap IntKind.i64 ((↑(List.length s) : Int) + (1 : Int))) (IntKind.wrap IntKind.i64 (N.dots s + (1 : Int))) then IntKind.wrap IntKind.i64 ((↑(List.length s) : Int) + (1 : Int)) else IntKind.wrap IntKind.i64 (N.dots s + (1 : Int)))) [V.str []]))) + (1 : Int)))) (List.set (Prod.snd (Prod.snd (N.gen (Int.toNat (IntKind.wrap IntKind.i64 ((bif ilt (IntKind.wrap IntKind.i64 ((↑(List.length s) : Int) + (1 : Int))) (IntKind.wrap IntKind.i64 (N.dots s + (1 : Int))) then IntKind.wrap IntKind.i64 ((↑(List.length s) : Int) + (1 : Int)) else IntKind.wrap IntKind.i64 (N.dots s + (1 : Int))) - (1 : Int)) - (0 : Int))) s (0 : Int) (List.replicate (Int.toNat (bif ilt (IntKind.wrap IntKind.i64 ((↑(List.length s) : Int) + (1 : Int))) (IntKind.wrap IntKind.i64 (N.dots s + (1 : Int))) then IntKind.wrap IntKind.i64 ((↑(List.length s) : Int) + (1 : Int)) else IntKind.wrap IntKind.i64 (N.dots s + (1 : Int)))) [V.str []])))) (Int.toNat (Prod.fst (Prod.snd (N.gen (Int.toNat (IntKind.wrap IntKind.i64 ((bif ilt (IntKind.wrap IntKind.i64 ((↑(List.length s) : Int) + (1 : Int))) (IntKind.wrap IntKind.i64 (N.dots s + (1 : Int))) then IntKind.wrap IntKind.i64 ((↑(List.length s) : Int) + (1 : Int)) else IntKind.wrap IntKind.i64 (N.dots s + (1 : Int))) - (1 : Int)) - (0 : Int))) s (0 : Int) (List.replicate (Int.toNat (bif ilt (IntKind.wrap IntKind.i64 ((↑(List.length s) : Int) + (1 : Int))) (IntKind.wrap IntKind.i64 (N.dots s + (1 : Int))) then IntKind.wrap IntKind.i64 ((↑(List.length s) : Int) + (1 : Int)) else IntKind.wrap IntKind.i64 (N.dots s + (1 : Int)))) [V.str []]))))) [V.str (Prod.fst (N.gen (Int.toNat (IntKind.wrap IntKind.i64 ((bif ilt (IntKind.wrap IntKind.i64 ((↑(List.length s) : Int) + (1 : Int))) (IntKind.wrap IntKind.i64 (N.dots s + (1 : Int))) then IntKind.wrap IntKind.i64 ((↑(List.length s) : Int) + (1 : Int)) else IntKind.wrap IntKind.i64 (N.dots s + (1 : Int))) - (1 : Int)) - (0 : Int))) s (0 : Int) (List.replicate (Int.toNat (bif ilt (IntKind.wrap IntKind.i64 ((↑(List.length s) : Int) + (1 : Int))) (IntKind.wrap IntKind.i64 (N.dots s + (1 : Int))) then IntKind.wrap IntKind.i64 ((↑(List.length s) : Int) + (1 : Int)) else IntKind.wrap IntKind.i64 (N.dots s + (1 : Int)))) [V.str []])))]))), bx := [] }) (none)) (none)) (none)) (none)) (none)) (none)) (none) := by kernel_rfl
theorem q_genR (s0 : Bytes) (i3 : Int) (i10 : Int) (rx0 : List (List V)) (K : Ex → St → Option R) : evRound eGen 174 11 { fr := [(0, .str s0), (1, .str [46]), (2, .int .i64 0), (3, .int .i64 i3), (9, .own 10000 0), (10, .int .i64 i10)], tab := [(10000, .sl [.str] rx0 0)] } K =
 cond (ilt i10 i3) (cond (ilt (N.dot s0) (0 : Int)) (K (Ex.exit (0 : Nat)) { fr := [((0 : Nat), V.str s0), ((9 : Nat), V.own (10000 : Nat) (0 : Nat)), ((10 : Nat), V.int IntKind.i64 i10)], tab := [((10000 : Nat), Box.sl [Sh.str] rx0 (0 : Nat))] }) (cond (decide ((0 : Int) ≤ IntKind.wrap IntKind.i64 (N.dot s0 + (0 : Int)) ∧ IntKind.wrap IntKind.i64 (N.dot s0 + (0 : Int)) ≤ (↑(List.length s0) : Int))) (cond (decide ((0 : Int) ≤ i10 ∧ i10 < (↑(List.length rx0) : Int))) (cond (decide ((0 : Int) ≤ IntKind.wrap IntKind.i64 (N.dot s0 + (↑(1 : Nat) : Int)) ∧ IntKind.wrap IntKind.i64 (N.dot s0 + (↑(1 : Nat) : Int)) ≤ (↑(List.length s0) : Int))) (K Ex.normal { fr := [((0 : Nat), V.str (List.drop (Int.toNat (IntKind.wrap IntKind.i64 (N.dot s0 + (↑(1 : Nat) : Int)))) (List.take (List.length s0) s0))), ((1 : Nat), V.str [(46 : UInt8)]), ((2 : Nat), V.int IntKind.i64 (0 : Int)), ((3 : Nat), V.int IntKind.i64 i3), ((9 : Nat), V.own (10000 : Nat) (0 : Nat)), ((10 : Nat), V.int IntKind.i64 (IntKind.wrap IntKind.i64 (i10 + (1 : Int))))], tab := [((10000 : Nat), Box.sl [Sh.str] (List.set rx0 (Int.toNat i10) [V.str (List.drop (0 : Nat) (List.take (Int.toNat (IntKind.wrap IntKind.i64 (N.dot s0 + (0 : Int)))) s0))]) (0 : Nat))] }) (none)) (none)) (none))) (K (Ex.exit (0 : Nat)) { fr := [((0 : Nat), V.str s0), ((9 : Nat), V.own (10000 : Nat) (0 : Nat)), ((10 : Nat), V.int IntKind.i64 i10)], tab := [((10000 : Nat), Box.sl [Sh.str] rx0 (0 : Nat))] }) := by kernel_rfl
theorem dots_le (s : Bytes) : N.dots s ≤ s.length := by unfold N.dots; have := List.count_le_length (a := (46 : UInt8)) (l := s); omega
theorem ok_gen : FnOk Tryz.prog 174 dGenSplit := by
  refine den_okF (env_ok (((TOk.nil _).cons ok_dot).cons ok_dots)) (E := eGen) Tryz.func174 [11] (by kernel_rfl) (one1 (rounds_of rfl fun l K q h => ?_)) fun a _ h => ?_
  · unfold gGen at h
    split at h
    · rename_i s c z n i rows
      have h1 := (cond_none h).1; replace h := (cond_none h).2; have h2 := (cond_none h).1; replace h := (cond_none h).2; have h3 := (cond_none h).1; replace h := (cond_none h).2; have h4 := (cond_none h).1; replace h := (cond_none h).2; have h5 := (cond_none h).1; replace h := (cond_none h).2; have h6 := (cond_none h).1; replace h := (cond_none h).2; have h7 := (cond_none h).1; replace h := (cond_none h).2
      have h7 : rows.length ≤ 1000001 := ble_of h7
      have h1 : c = [46] := by simpa using h1
      have h2 := ieq_of h2
      subst h1 h2
      have h5 := ieq_of h5
      have h6 : s.length ≤ 1000000 := ble_of h6
      have h3 := ile_of h3
      have h4 := ile_of h4
      refine loop_ind (E := eGen) (f := 174) (id := 11) (σ := Bytes × Int × List (List V)) (fun x => { fr := [(0, .str x.1), (1, .str [46]), (2, .int .i64 0), (3, .int .i64 n), (9, .own 10000 0), (10, .int .i64 x.2.1)], tab := [(10000, .sl [.str] x.2.2 0)] })
        (fun x => x.1.length ≤ 1000000 ∧ 0 ≤ x.2.1 ∧ x.2.1 ≤ n ∧ n + 1 = x.2.2.length ∧ x.2.2.length ≤ 1000001) (fun x => (n - x.2.1).toNat)
        (fun x K => K (.exit 0) { fr := [(0, .str (N.gen (n - x.2.1).toNat x.1 x.2.1 x.2.2).1), (9, .own 10000 0), (10, .int .i64 (N.gen (n - x.2.1).toNat x.1 x.2.1 x.2.2).2.1)], tab := [(10000, .sl [.str] (N.gen (n - x.2.1).toNat x.1 x.2.1 x.2.2).2.2 0)] }) ?_ (s, i, rows)
        ⟨h6, h3, h4, h5, h7⟩ K q h
      rintro ⟨s, i, rows⟩ ⟨h6, h3, h4, h5, h7⟩
      simp only at h6 h3 h4 h5 h7 ⊢
      by_cases hl : i < n
      · have e : (n - i).toNat = (n - (i + 1)).toNat + 1 := by omega
        rw [e]
        simp only [N.gen]
        rcases splitDot_dot s with ⟨g1, _, _⟩ | ⟨g1, g2, _, _⟩
        · have hd : ilt (N.dot s) 0 = true := by rw [g1]; rfl
          rw [hd]
          refine .inr ⟨.exit 0, _, by simp, fun K => ?_, fun K => rfl⟩
          rw [q_genR]
          simp (disch := omega) only [evs]
        · have hd : ilt (N.dot s) 0 = false := ilt_f (by omega)
          rw [hd]
          refine .inl ⟨(s.drop (N.dot s + 1).toNat, i + 1, rows.set i.toNat [.str (s.take (N.dot s).toNat)]), ⟨by simp only [List.length_drop]; omega, by simp only; omega, by simp only; omega, by simp only [List.length_set]; omega, by simp only [List.length_set]; omega⟩, by simp only; omega, fun K => ?_, fun K => rfl⟩
          rw [q_genR]
          simp (disch := omega) only [evs, List.take_length, Int.add_zero, List.drop_zero]
          rfl
      · refine .inr ⟨.exit 0, _, by simp, fun K => ?_, fun K => rfl⟩
        rw [q_genR, show (n - i).toNat = 0 by omega]
        simp (disch := omega) only [evs, N.gen]
    · cases h
  · obtain ⟨s, c, z, n⟩ := a
    have h1 := (bcond h).1; replace h := (bcond h).2; have h2 := (bcond h).1; replace h := (bcond h).2; have h3 := (bcond h).1; replace h := (bcond h).2
    have e1 : c = [46] := by simpa using h1
    have e2 : z = 0 := ieq_of h2
    have e3 : n = -1 := ieq_of h3
    subst e1 e2 e3
    have h : s.length ≤ 1000000 := ble_of h
    refine (q_gen s).trans ?_
    show _ = some (⟨.slc [.str] ((N.splitDot s).map rStr.enc), [], []⟩ : DRes)
    have hd := dots_le s
    have hd0 : 0 ≤ N.dots s := Int.natCast_nonneg _
    obtain ⟨g1, g2, g3, g4⟩ := gen_ok (N.dots s).toNat s 0 (List.replicate (N.dots s + 1).toNat [V.str []]) (by omega) (by omega) (by rw [List.length_replicate]; omega)
    rw [List.length_replicate] at g2 g3
    simp (disch := omega) only [evs, show N.dots s + 1 - 1 - 0 = N.dots s by omega, g3]
    rw [g4]
    rfl
noncomputable def eSplit : Env := env Tryz.prog [(174, dGenSplit)] [] []
theorem q_split (s : Bytes) : evFn eSplit 168 ((aCons vStr (aOne vStr)).enc (s, [46])) ([]) some =
 cond (Nat.ble (List.length s) (1000000 : Nat)) (some { v := V.slc [Sh.str] (List.map (fun n => [V.str n]) (N.splitDot s)), bx := [] }) (none) := by kernel_rfl
theorem ok_split : FnOk Tryz.prog 168 dSplit := by
  refine den_okF (env_ok ((TOk.nil _).cons ok_gen)) (E := eSplit) Tryz.func168 [] (by kernel_rfl) none0 fun a _ h => ?_
  obtain ⟨s, c⟩ := a
  obtain ⟨h1, h⟩ := bcond h
  have h1 : c = [46] := by simpa using h1
  subst h1
  have h : s.length ≤ 1000000 := ble_of h
  refine (q_split s).trans ?_
  simp (disch := omega) only [evs]
  rfl
noncomputable def eWords : Env := env Tryz.prog [(168, dSplit)] [] []
theorem q_words (s : Bytes) : evFn eWords 154 ((aOne vStr).enc s) ([]) some =
 cond (s == []) (some { v := V.slc [Sh.str] [], bx := [] }) (cond (Nat.ble (List.length s) (1000000 : Nat)) (some { v := V.slc [Sh.str] (List.map (fun n => [V.str n]) (N.splitDot s)), bx := [] }) (none)) := by kernel_rfl
theorem ok_words : FnOk Tryz.prog 154 dWords := by
  refine den_okF (env_ok ((TOk.nil _).cons ok_split)) (E := eWords) Tryz.func154 [] (by kernel_rfl) none0 fun s _ h => ?_
  have h : s.length ≤ 1000000 := ble_of h
  refine (q_words s).trans ?_
  show _ = some (⟨.slc [.str] ((N.words s).map rStr.enc), [], []⟩ : DRes)
  simp (disch := omega) only [evs]
  cases s with
  | nil => rfl
  | cons c r => rfl
def schRefKey4 : SSch := { fr := [(1, .bool), (13, .slc [.str]), (14, .int .i64), (15, .int .i64)], tab := [] }
def gRefKey4 : List Leaf → (Ex → St → Option R) → Option R
  | [.b b1, .r r13, .i i14, .i i15], K => cond (i14 == r13.length) (cond (ile 0 i15) (cond (Nat.ble r13.length BIG) (cond (r13.all fun r => Nat.ble (rowS r).length LIM)
      (cond (N.refKeyL b1 ((rowsS r13).drop i15.toNat) == 0) (K (.exit 0) { fr := [], tab := [] }) (K .ret { fr := [(4, .int .i64 4)], tab := [] })) none) none) none) none
  | _, _ => none
def schRefKey8 : SSch := { fr := [(1, .bool), (6, .str), (7, .bool), (8, .int .i64), (13, .slc [.str]), (14, .int .i64), (15, .int .i64)], tab := [] }
def gRefKey8 : List Leaf → (Ex → St → Option R) → Option R
  | [.b b1, .s s6, .b b7, .i i8, .r r13, .i i14, .i i15], K => cond (ile 0 i8) (cond (Nat.ble s6.length LIM)
      (K (.exit 2) { fr := [(1, .bool b1), (6, .str s6), (7, .bool (cond b7 true (!N.plain (s6.drop i8.toNat)))), (13, .slc [.str] r13), (14, .int .i64 i14), (15, .int .i64 i15)], tab := [] }) none) none
  | _, _ => none
noncomputable def eRefKey : Env := env Tryz.prog [(77, dWords), (78, dLetter)] [(8, loopF schRefKey8 gRefKey8), (4, loopF schRefKey4 gRefKey4)] [(4, [(0, [1, 13, 14, 15]), (1, []), (1000, [4])]), (8, [(0, [1, 6, 7, 8, 13, 14, 15]), (3, [1, 6, 7, 13, 14, 15]), (1000, [4])])]
theorem q_refKey (s : Bytes) (pt : Bool) : evFn eRefKey 32 ((aCons vStr (aOne vBool)).enc (s, pt)) ([]) some =
 cond (ilt (64 : Int) (↑(List.length s) : Int)) (some { v := V.int IntKind.i64 (5 : Int), bx := [] }) (cond (Nat.ble (List.length s) (1000000 : Nat)) (cond ((↑(List.length (List.map (fun n => [V.str n]) (N.words s))) : Int) == (↑(List.length (List.map (fun n => [V.str n]) (N.words s))) : Int)) (cond (Nat.ble (List.length (List.map (fun n => [V.str n]) (N.words s))) (1000000000000 : Nat)) (cond (List.all (List.map (fun n => [V.str n]) (N.words s)) fun r => Nat.ble (List.length (V.toStr (List.getD r (0 : Nat) V.undef))) (1000000 : Nat)) (cond (N.refKeyL pt (List.drop (0 : Nat) (List.map (fun r => V.toStr (List.getD r (0 : Nat) V.undef)) (List.map (fun n => [V.str n]) (N.words s)))) == (0 : Int)) (some { v := V.int IntKind.i64 (0 : Int), bx := [] }) (some { v := V.int IntKind.i64 (4 : Int), bx := [] })) (none)) (none)) (none)) (none)) := by kernel_rfl
theorem q_refKeyR4 (b1 : Bool) (r13 : List (List V)) (i14 : Int) (i15 : Int) (K : Ex → St → Option R) : evRound eRefKey 32 4 { fr := [(1, .bool b1), (13, .slc [.str] r13), (14, .int .i64 i14), (15, .int .i64 i15)], tab := [] } K =
 cond (ilt i15 i14) (cond (decide ((0 : Int) ≤ i15 ∧ i15 < (↑(List.length r13) : Int))) (cond (Nat.ble (List.length (V.toStr (List.getD (List.getD r13 (Int.toNat i15) []) (0 : Nat) V.undef))) (1000000 : Nat)) (cond (bif (↑(List.length (V.toStr (List.getD (List.getD r13 (Int.toNat i15) []) (0 : Nat) V.undef))) : Int) == (0 : Int) then true else !N.plain (List.drop (0 : Nat) (V.toStr (List.getD (List.getD r13 (Int.toNat i15) []) (0 : Nat) V.undef)))) (cond (b1) (cond (V.toStr (List.getD (List.getD r13 (Int.toNat i15) []) (0 : Nat) V.undef) == [(42 : UInt8)]) (K Ex.normal { fr := [((1 : Nat), V.bool b1), ((13 : Nat), V.slc [Sh.str] r13), ((14 : Nat), V.int IntKind.i64 i14), ((15 : Nat), V.int IntKind.i64 (IntKind.wrap IntKind.i64 (i15 + (1 : Int))))], tab := [] }) (cond (!V.toStr (List.getD (List.getD r13 (Int.toNat i15) []) (0 : Nat) V.undef) == [(35 : UInt8)]) (K Ex.ret { fr := [((4 : Nat), V.int IntKind.i64 (4 : Int))], tab := [] }) (K Ex.normal { fr := [((1 : Nat), V.bool b1), ((13 : Nat), V.slc [Sh.str] r13), ((14 : Nat), V.int IntKind.i64 i14), ((15 : Nat), V.int IntKind.i64 (IntKind.wrap IntKind.i64 (i15 + (1 : Int))))], tab := [] }))) (K Ex.ret { fr := [((4 : Nat), V.int IntKind.i64 (4 : Int))], tab := [] })) (K Ex.normal { fr := [((1 : Nat), V.bool b1), ((13 : Nat), V.slc [Sh.str] r13), ((14 : Nat), V.int IntKind.i64 i14), ((15 : Nat), V.int IntKind.i64 (IntKind.wrap IntKind.i64 (i15 + (1 : Int))))], tab := [] })) (none)) (none)) (K (Ex.exit (0 : Nat)) { fr := [], tab := [] }) := by kernel_rfl
theorem q_refKeyR8 (b1 : Bool) (s6 : Bytes) (b7 : Bool) (i8 : Int) (r13 : List (List V)) (i14 : Int) (i15 : Int) (K : Ex → St → Option R) : evRound eRefKey 32 8 { fr := [(1, .bool b1), (6, .str s6), (7, .bool b7), (8, .int .i64 i8), (13, .slc [.str] r13), (14, .int .i64 i14), (15, .int .i64 i15)], tab := [] } K =
 cond (ilt i8 (↑(List.length s6) : Int)) (cond (b7) (K Ex.normal { fr := [((1 : Nat), V.bool b1), ((6 : Nat), V.str s6), ((7 : Nat), V.bool true), ((8 : Nat), V.int IntKind.i64 (IntKind.wrap IntKind.i64 (i8 + (1 : Int)))), ((13 : Nat), V.slc [Sh.str] r13), ((14 : Nat), V.int IntKind.i64 i14), ((15 : Nat), V.int IntKind.i64 i15)], tab := [] }) (cond (decide ((0 : Int) ≤ i8 ∧ i8 < (↑(List.length s6) : Int))) (K Ex.normal { fr := [((1 : Nat), V.bool b1), ((6 : Nat), V.str s6), ((7 : Nat), V.bool !N.letterI (↑(UInt8.toNat (List.getD s6 (Int.toNat i8) (0 : UInt8))) : Int)), ((8 : Nat), V.int IntKind.i64 (IntKind.wrap IntKind.i64 (i8 + (1 : Int)))), ((13 : Nat), V.slc [Sh.str] r13), ((14 : Nat), V.int IntKind.i64 i14), ((15 : Nat), V.int IntKind.i64 i15)], tab := [] }) (none))) (K (Ex.exit (2 : Nat)) { fr := [((1 : Nat), V.bool b1), ((6 : Nat), V.str s6), ((7 : Nat), V.bool b7), ((13 : Nat), V.slc [Sh.str] r13), ((14 : Nat), V.int IntKind.i64 i14), ((15 : Nat), V.int IntKind.i64 i15)], tab := [] }) := by kernel_rfl
theorem refKey8 (b1 : Bool) (s : Bytes) (r13 : List (List V)) (i14 i15 : Int) (hs : s.length ≤ 1000000) (K : Ex → St → Option R) (q : R) (b : Bool) (i : Int) (hi : 0 ≤ i)
    (h : K (.exit 2) { fr := [(1, .bool b1), (6, .str s), (7, .bool (cond b true (!N.plain (s.drop i.toNat)))), (13, .slc [.str] r13), (14, .int .i64 i14), (15, .int .i64 i15)], tab := [] } = some q) :
    ∃ n, iterR eRefKey 32 8 n { fr := [(1, .bool b1), (6, .str s), (7, .bool b), (8, .int .i64 i), (13, .slc [.str] r13), (14, .int .i64 i14), (15, .int .i64 i15)], tab := [] } K = some q := by
  refine loop_ind (E := eRefKey) (f := 32) (id := 8) (σ := Bool × Int) (fun x => { fr := [(1, .bool b1), (6, .str s), (7, .bool x.1), (8, .int .i64 x.2), (13, .slc [.str] r13), (14, .int .i64 i14), (15, .int .i64 i15)], tab := [] })
    (fun x => 0 ≤ x.2) (fun x => s.length - x.2.toNat) (fun x K => K (.exit 2) { fr := [(1, .bool b1), (6, .str s), (7, .bool (cond x.1 true (!N.plain (s.drop x.2.toNat)))), (13, .slc [.str] r13), (14, .int .i64 i14), (15, .int .i64 i15)], tab := [] }) ?_ (b, i) hi K q h
  rintro ⟨b, i⟩ hi
  simp only at hi ⊢
  by_cases hl : i < s.length
  · refine .inl ⟨(cond b true (!N.letterI (s.getD i.toNat 0).toNat), i + 1), by simp only; omega, by simp only; omega, fun K => ?_, fun K => ?_⟩
    · rw [q_refKeyR8]
      simp (disch := omega) only [evs]
      cases b <;> rfl
    · rw [drop_byte (show i.toNat < s.length by omega), plain_cons, show (i + 1).toNat = i.toNat + 1 by omega]
      cases b <;> cases N.letterI (s.getD i.toNat 0).toNat <;> rfl
  · refine .inr ⟨.exit 2, _, by simp, fun K => ?_, fun K => rfl⟩
    rw [q_refKeyR8, List.drop_eq_nil_of_le (show s.length ≤ i.toNat by omega)]
    simp (disch := omega) only [evs]
    cases b <;> rfl
theorem refKey4 (b1 : Bool) (r13 : List (List V)) (hr : r13.length ≤ 1000000000000) (ha : ∀ r ∈ r13, (rowS r).length ≤ 1000000) (K : Ex → St → Option R) (q : R) (i : Int) (hi : 0 ≤ i)
    (h : cond (N.refKeyL b1 ((rowsS r13).drop i.toNat) == 0) (K (.exit 0) { fr := [], tab := [] }) (K .ret { fr := [(4, .int .i64 4)], tab := [] }) = some q) :
    ∃ n, iterR eRefKey 32 4 n { fr := [(1, .bool b1), (13, .slc [.str] r13), (14, .int .i64 r13.length), (15, .int .i64 i)], tab := [] } K = some q := by
  refine loop_ind (E := eRefKey) (f := 32) (id := 4) (σ := Int) (fun i => { fr := [(1, .bool b1), (13, .slc [.str] r13), (14, .int .i64 r13.length), (15, .int .i64 i)], tab := [] })
    (fun i => 0 ≤ i) (fun i => r13.length - i.toNat) (fun i K => cond (N.refKeyL b1 ((rowsS r13).drop i.toNat) == 0) (K (.exit 0) { fr := [], tab := [] }) (K .ret { fr := [(4, .int .i64 4)], tab := [] })) ?_ i hi K q h
  intro i hi
  by_cases hl : i < r13.length
  · have hlt : i.toNat < r13.length := by omega
    have hw : (rowS (r13.getD i.toNat [])).length ≤ 1000000 := ha _ (by rw [List.getD_eq_getElem?_getD, List.getElem?_eq_getElem hlt]; exact List.getElem_mem _)
    have hw' : (V.toStr (List.getD (List.getD r13 i.toNat []) 0 V.undef)).length ≤ 1000000 := hw
    rw [drop_get hlt]
    have e : N.refKeyL b1 (rowS (r13.getD i.toNat []) :: (rowsS r13).drop (i.toNat + 1)) = cond (cond (cond (((rowS (r13.getD i.toNat [])).length : Int) == 0) true (!N.plain (rowS (r13.getD i.toNat [])))) (!cond b1 (cond (rowS (r13.getD i.toNat []) == [42]) true (rowS (r13.getD i.toNat []) == [35])) false) false) 4 (N.refKeyL b1 ((rowsS r13).drop (i.toNat + 1))) := rfl
    rw [e]
    cases hc : cond (cond (((rowS (r13.getD i.toNat [])).length : Int) == 0) true (!N.plain (rowS (r13.getD i.toNat [])))) (!cond b1 (cond (rowS (r13.getD i.toNat []) == [42]) true (rowS (r13.getD i.toNat []) == [35])) false) false with
    | true =>
      refine .inr ⟨.ret, _, by simp, fun K => ?_, fun K => rfl⟩
      rw [q_refKeyR4]
      simp (disch := omega) only [evs, List.drop_zero]
      revert hc
      unfold rowS
      cases (((V.toStr (List.getD (List.getD r13 i.toNat []) 0 V.undef)).length : Int) == 0) <;> cases N.plain (V.toStr (List.getD (List.getD r13 i.toNat []) 0 V.undef)) <;> cases b1 <;> cases V.toStr (List.getD (List.getD r13 i.toNat []) 0 V.undef) == [42] <;> cases V.toStr (List.getD (List.getD r13 i.toNat []) 0 V.undef) == [35] <;> intro hc <;> first | rfl | cases hc
    | false =>
      refine .inl ⟨i + 1, by omega, by omega, fun K => ?_, fun K => ?_⟩
      · rw [q_refKeyR4]
        simp (disch := omega) only [evs, List.drop_zero]
        revert hc
        unfold rowS
        cases (((V.toStr (List.getD (List.getD r13 i.toNat []) 0 V.undef)).length : Int) == 0) <;> cases N.plain (V.toStr (List.getD (List.getD r13 i.toNat []) 0 V.undef)) <;> cases b1 <;> cases V.toStr (List.getD (List.getD r13 i.toNat []) 0 V.undef) == [42] <;> cases V.toStr (List.getD (List.getD r13 i.toNat []) 0 V.undef) == [35] <;> intro hc <;> first | rfl | cases hc
      · rw [cond_false, show (i + 1).toNat = i.toNat + 1 by omega]
  · refine .inr ⟨.exit 0, { fr := [], tab := [] }, by simp, fun K => ?_, fun K => ?_⟩
    · rw [q_refKeyR4]
      simp (disch := omega) only [evs]
    · rw [List.drop_eq_nil_of_le (by rw [rowsS_length]; omega)]; rfl
theorem splitDot_small : ∀ (s : Bytes), (N.splitDot s).length ≤ s.length + 1 ∧ ∀ w ∈ N.splitDot s, w.length ≤ s.length
  | [] => ⟨Nat.le_refl _, fun w h => by
    have h : w ∈ [[]] := h
    rw [List.mem_singleton] at h; subst h; exact Nat.le_refl _⟩
  | c :: r => by
    obtain ⟨h1, h2⟩ := splitDot_small r
    unfold N.splitDot
    cases c == 46 with
    | true =>
      refine ⟨by simpa using h1, fun w h => ?_⟩
      rcases List.mem_cons.1 h with rfl | h
      · exact Nat.zero_le _
      · have := h2 w h; simp only [List.length_cons]; omega
    | false =>
      simp only [cond_false]
      cases hs : N.splitDot r with
      | nil => exact absurd hs (splitDot_ne _)
      | cons w ws =>
        rw [hs] at h1 h2
        refine ⟨by simp only [List.length_cons] at h1 ⊢; omega, fun v h => ?_⟩
        rcases List.mem_cons.1 h with rfl | h
        · have := h2 w List.mem_cons_self; simp only [List.length_cons]; omega
        · have := h2 v (List.mem_cons_of_mem _ h); simp only [List.length_cons]; omega
theorem words_small (s : Bytes) : (N.words s).length ≤ s.length + 1 ∧ ∀ w ∈ N.words s, w.length ≤ s.length := by
  unfold N.words
  cases s.isEmpty with
  | true => exact ⟨Nat.zero_le _, fun w h => by cases h⟩
  | false => exact splitDot_small s
theorem refKeyL_or (b : Bool) : ∀ l, N.refKeyL b l = 0 ∨ N.refKeyL b l = 4
  | [] => .inl rfl
  | w :: r => by
    unfold N.refKeyL
    cases (cond (cond ((w.length : Int) == 0) true (!N.plain w)) (!cond b (cond (w == [42]) true (w == [35])) false) false)
    · exact refKeyL_or b r
    · exact .inr rfl
theorem ok_refKey : FnOk Tryz.prog 32 dRefKey := by
  refine den_okF (env_ok (((TOk.nil _).cons ok_letter).cons ok_refSplit)) (E := eRefKey) Tryz.func32 [4, 8] (by kernel_rfl) (two2 (rounds_of rfl fun l K q h => ?_) (rounds_of rfl fun l K q h => ?_)) fun a _ h => ?_
  · unfold gRefKey4 at h
    split at h
    · rename_i b1 r13 i14 i15
      have h1 := (cond_none h).1; replace h := (cond_none h).2; have h2 := (cond_none h).1; replace h := (cond_none h).2; have h3 := (cond_none h).1; replace h := (cond_none h).2; have h4 := (cond_none h).1; replace h := (cond_none h).2
      have h1 := ieq_of h1
      subst h1
      exact refKey4 b1 r13 (ble_of h3) (fun r hr => ble_of (List.all_eq_true.1 h4 r hr)) K q i15 (ile_of h2) (by assumption)
    · cases h
  · unfold gRefKey8 at h
    split at h
    · rename_i b1 s6 b7 i8 r13 i14 i15
      have h1 := (cond_none h).1; replace h := (cond_none h).2; have h2 := (cond_none h).1; replace h := (cond_none h).2
      exact refKey8 b1 s6 r13 i14 i15 (ble_of h2) K q b7 i8 (ile_of h1) h
    · cases h
  · obtain ⟨s, b⟩ := a
    refine (q_refKey s b).trans ?_
    show _ = some (⟨.int .i64 (N.refKey s b), [], []⟩ : DRes)
    unfold N.refKey
    cases hl : ilt 64 s.length with
    | true => rfl
    | false =>
      have hl := ilt_nof hl
      have h : s.length ≤ 64 := by omega
      obtain ⟨w1, w2⟩ := words_small s
      have hall : ((N.words s).map (fun n => [V.str n])).all (fun r => Nat.ble (V.toStr (List.getD r 0 V.undef)).length 1000000) = true := List.all_eq_true.2 fun r hr => by
        obtain ⟨w, hw, rfl⟩ := List.mem_map.1 hr
        exact ble_t (show w.length ≤ 1000000 from by have := w2 w hw; omega)
      have e : ((N.words s).map (fun n => [V.str n])).map (fun r => V.toStr (List.getD r 0 V.undef)) = N.words s := rowsS_enc _
      simp (disch := omega) only [evs, hall, e, List.drop_zero]
      rcases refKeyL_or b (N.words s) with e | e <;> rw [e] <;> rfl
def schMatches4 : SSch := { fr := [(5, .slc [.str]), (6, .slc [.str]), (7, .int .i64), (8, .int .i64), (9, .int .i64), (10, .int .i64)], tab := [] }
def gMatches4 : List Leaf → (Ex → St → Option R) → Option R
  | [.r r5, .r r6, .i i7, .i i8, .i i9, .i i10], K => cond (i7 == 0) (cond (i8 == 0) (cond (i9 == -1) (cond (i10 == 0) (cond (Nat.ble r5.length (LIM + 1)) (cond (Nat.ble r6.length (LIM + 1))
      (cond (ile 0 (N.goOnI (rowsS r5) (rowsS r6) 0 0 (-1) 0 (N.goFuel (rowsS r5) (rowsS r6))))
        (K (.exit 0) { fr := [(5, .slc [.str] r5), (7, .int .i64 (N.goOnI (rowsS r5) (rowsS r6) 0 0 (-1) 0 (N.goFuel (rowsS r5) (rowsS r6))))], tab := [] }) (K .ret { fr := [(4, .bool false)], tab := [] })) none) none) none) none) none) none
  | _, _ => none
def schMatches14 : SSch := { fr := [(5, .slc [.str]), (7, .int .i64)], tab := [] }
def gMatches14 : List Leaf → (Ex → St → Option R) → Option R
  | [.r r5, .i i7], K => cond (ile 0 i7) (cond (Nat.ble r5.length (LIM + 1)) (K (.exit 3) { fr := [(5, .slc [.str] r5), (7, .int .i64 (N.hashes (rowsS r5) (r5.length + 1 - i7.toNat) i7))], tab := [] }) none) none
  | _, _ => none
noncomputable def eMatches : Env := env Tryz.prog [(154, dWords)] [(14, loopF schMatches14 gMatches14), (4, loopF schMatches4 gMatches4)] [(4, [(0, [5, 6, 7, 8, 9, 10]), (1, [5, 7]), (1000, [4])]), (14, [(0, [5, 7]), (4, [5, 7]), (1000, [4])])]
theorem q_matches (p k : Bytes) : evFn eMatches 132 ((aCons vStr (aOne vStr)).enc (p, k)) ([]) some =
 cond (Nat.ble (List.length p) (1000000 : Nat)) (cond (Nat.ble (List.length k) (1000000 : Nat)) (cond (Nat.ble (List.length (List.map (fun n => [V.str n]) (N.words p))) (1000001 : Nat)) (cond (Nat.ble (List.length (List.map (fun n => [V.str n]) (N.words k))) (1000001 : Nat)) (cond (ile (0 : Int) (N.goOnI (List.map (fun r => V.toStr (List.getD r (0 : Nat) V.undef)) (List.map (fun n => [V.str n]) (N.words p))) (List.map (fun r => V.toStr (List.getD r (0 : Nat) V.undef)) (List.map (fun n => [V.str n]) (N.words k))) (0 : Int) (0 : Int) (-1 : Int) (0 : Int) (N.goFuel (List.map (fun r => V.toStr (List.getD r (0 : Nat) V.undef)) (List.map (fun n => [V.str n]) (N.words p))) (List.map (fun r => V.toStr (List.getD r (0 : Nat) V.undef)) (List.map (fun n => [V.str n]) (N.words k)))))) (cond (ile (0 : Int) (N.goOnI (List.map (fun r => V.toStr (List.getD r (0 : Nat) V.undef)) (List.map (fun n => [V.str n]) (N.words p))) (List.map (fun r => V.toStr (List.getD r (0 : Nat) V.undef)) (List.map (fun n => [V.str n]) (N.words k))) (0 : Int) (0 : Int) (-1 : Int) (0 : Int) (N.goFuel (List.map (fun r => V.toStr (List.getD r (0 : Nat) V.undef)) (List.map (fun n => [V.str n]) (N.words p))) (List.map (fun r => V.toStr (List.getD r (0 : Nat) V.undef)) (List.map (fun n => [V.str n]) (N.words k)))))) (cond (Nat.ble (List.length (List.map (fun n => [V.str n]) (N.words p))) (1000001 : Nat)) (some { v := V.bool (N.hashes (List.map (fun r => V.toStr (List.getD r (0 : Nat) V.undef)) (List.map (fun n => [V.str n]) (N.words p))) (List.length (List.map (fun n => [V.str n]) (N.words p)) + (1 : Nat) - Int.toNat (N.goOnI (List.map (fun r => V.toStr (List.getD r (0 : Nat) V.undef)) (List.map (fun n => [V.str n]) (N.words p))) (List.map (fun r => V.toStr (List.getD r (0 : Nat) V.undef)) (List.map (fun n => [V.str n]) (N.words k))) (0 : Int) (0 : Int) (-1 : Int) (0 : Int) (N.goFuel (List.map (fun r => V.toStr (List.getD r (0 : Nat) V.undef)) (List.map (fun n => [V.str n]) (N.words p))) (List.map (fun r => V.toStr (List.getD r (0 : Nat) V.undef)) (List.map (fun n => [V.str n]) (N.words k)))))) (N.goOnI (List.map (fun r => V.toStr (List.getD r (0 : Nat) V.undef)) (List.map (fun n => [V.str n]) (N.words p))) (List.map (fun r => V.toStr (List.getD r (0 : Nat) V.undef)) (List.map (fun n => [V.str n]) (N.words k))) (0 : Int) (0 : Int) (-1 : Int) (0 : Int) (N.goFuel (List.map (fun r => V.toStr (List.getD r (0 : Nat) V.undef)) (List.map (fun n => [V.str n]) (N.words p))) (List.map (fun r => V.toStr (List.getD r (0 : Nat) V.undef)) (List.map (fun n => [V.str n]) (N.words k))))) == (↑(List.length (List.map (fun n => [V.str n]) (N.words p))) : Int)), bx := [] }) (none)) (none)) (some { v := V.bool false, bx := [] })) (none)) (none)) (none)) (none) := by kernel_rfl
theorem q_matchesR4 (r5 : List (List V)) (r6 : List (List V)) (i7 : Int) (i8 : Int) (i9 : Int) (i10 : Int) (K : Ex → St → Option R) : evRound eMatches 132 4 { fr := [(5, .slc [.str] r5), (6, .slc [.str] r6), (7, .int .i64 i7), (8, .int .i64 i8), (9, .int .i64 i9), (10, .int .i64 i10)], tab := [] } K =
 cond (ilt i8 (↑(List.length r6) : Int)) (cond (ilt i7 (↑(List.length r5) : Int)) (cond (decide ((0 : Int) ≤ i7 ∧ i7 < (↑(List.length r5) : Int))) (cond (V.toStr (List.getD (List.getD r5 (Int.toNat i7) []) (0 : Nat) V.undef) == [(35 : UInt8)]) (K Ex.normal { fr := [((5 : Nat), V.slc [Sh.str] r5), ((6 : Nat), V.slc [Sh.str] r6), ((7 : Nat), V.int IntKind.i64 (IntKind.wrap IntKind.i64 (i7 + (1 : Int)))), ((8 : Nat), V.int IntKind.i64 i8), ((9 : Nat), V.int IntKind.i64 (IntKind.wrap IntKind.i64 (i7 + (1 : Int)))), ((10 : Nat), V.int IntKind.i64 i8)], tab := [] }) (cond (ilt i7 (↑(List.length r5) : Int)) (cond (decide ((0 : Int) ≤ i7 ∧ i7 < (↑(List.length r5) : Int))) (cond (V.toStr (List.getD (List.getD r5 (Int.toNat i7) []) (0 : Nat) V.undef) == [(42 : UInt8)]) (K Ex.normal { fr := [((5 : Nat), V.slc [Sh.str] r5), ((6 : Nat), V.slc [Sh.str] r6), ((7 : Nat), V.int IntKind.i64 (IntKind.wrap IntKind.i64 (i7 + (1 : Int)))), ((8 : Nat), V.int IntKind.i64 (IntKind.wrap IntKind.i64 (i8 + (1 : Int)))), ((9 : Nat), V.int IntKind.i64 i9), ((10 : Nat), V.int IntKind.i64 i10)], tab := [] }) (cond (decide ((0 : Int) ≤ i7 ∧ i7 < (↑(List.length r5) : Int))) (cond (decide ((0 : Int) ≤ i8 ∧ i8 < (↑(List.length r6) : Int))) (cond (V.toStr (List.getD (List.getD r5 (Int.toNat i7) []) (0 : Nat) V.undef) == V.toStr (List.getD (List.getD r6 (Int.toNat i8) []) (0 : Nat) V.undef)) (K Ex.normal { fr := [((5 : Nat), V.slc [Sh.str] r5), ((6 : Nat), V.slc [Sh.str] r6), ((7 : Nat), V.int IntKind.i64 (IntKind.wrap IntKind.i64 (i7 + (1 : Int)))), ((8 : Nat), V.int IntKind.i64 (IntKind.wrap IntKind.i64 (i8 + (1 : Int)))), ((9 : Nat), V.int IntKind.i64 i9), ((10 : Nat), V.int IntKind.i64 i10)], tab := [] }) (cond (ile (0 : Int) i9) (K Ex.normal { fr := [((5 : Nat), V.slc [Sh.str] r5), ((6 : Nat), V.slc [Sh.str] r6), ((7 : Nat), V.int IntKind.i64 i9), ((8 : Nat), V.int IntKind.i64 (IntKind.wrap IntKind.i64 (i10 + (1 : Int)))), ((9 : Nat), V.int IntKind.i64 i9), ((10 : Nat), V.int IntKind.i64 (IntKind.wrap IntKind.i64 (i10 + (1 : Int))))], tab := [] }) (K Ex.ret { fr := [((4 : Nat), V.bool false)], tab := [] }))) (none)) (none))) (none)) (cond (ile (0 : Int) i9) (K Ex.normal { fr := [((5 : Nat), V.slc [Sh.str] r5), ((6 : Nat), V.slc [Sh.str] r6), ((7 : Nat), V.int IntKind.i64 i9), ((8 : Nat), V.int IntKind.i64 (IntKind.wrap IntKind.i64 (i10 + (1 : Int)))), ((9 : Nat), V.int IntKind.i64 i9), ((10 : Nat), V.int IntKind.i64 (IntKind.wrap IntKind.i64 (i10 + (1 : Int))))], tab := [] }) (K Ex.ret { fr := [((4 : Nat), V.bool false)], tab := [] })))) (none)) (cond (ilt i7 (↑(List.length r5) : Int)) (cond (decide ((0 : Int) ≤ i7 ∧ i7 < (↑(List.length r5) : Int))) (cond (V.toStr (List.getD (List.getD r5 (Int.toNat i7) []) (0 : Nat) V.undef) == [(42 : UInt8)]) (K Ex.normal { fr := [((5 : Nat), V.slc [Sh.str] r5), ((6 : Nat), V.slc [Sh.str] r6), ((7 : Nat), V.int IntKind.i64 (IntKind.wrap IntKind.i64 (i7 + (1 : Int)))), ((8 : Nat), V.int IntKind.i64 (IntKind.wrap IntKind.i64 (i8 + (1 : Int)))), ((9 : Nat), V.int IntKind.i64 i9), ((10 : Nat), V.int IntKind.i64 i10)], tab := [] }) (cond (decide ((0 : Int) ≤ i7 ∧ i7 < (↑(List.length r5) : Int))) (cond (decide ((0 : Int) ≤ i8 ∧ i8 < (↑(List.length r6) : Int))) (cond (V.toStr (List.getD (List.getD r5 (Int.toNat i7) []) (0 : Nat) V.undef) == V.toStr (List.getD (List.getD r6 (Int.toNat i8) []) (0 : Nat) V.undef)) (K Ex.normal { fr := [((5 : Nat), V.slc [Sh.str] r5), ((6 : Nat), V.slc [Sh.str] r6), ((7 : Nat), V.int IntKind.i64 (IntKind.wrap IntKind.i64 (i7 + (1 : Int)))), ((8 : Nat), V.int IntKind.i64 (IntKind.wrap IntKind.i64 (i8 + (1 : Int)))), ((9 : Nat), V.int IntKind.i64 i9), ((10 : Nat), V.int IntKind.i64 i10)], tab := [] }) (cond (ile (0 : Int) i9) (K Ex.normal { fr := [((5 : Nat), V.slc [Sh.str] r5), ((6 : Nat), V.slc [Sh.str] r6), ((7 : Nat), V.int IntKind.i64 i9), ((8 : Nat), V.int IntKind.i64 (IntKind.wrap IntKind.i64 (i10 + (1 : Int)))), ((9 : Nat), V.int IntKind.i64 i9), ((10 : Nat), V.int IntKind.i64 (IntKind.wrap IntKind.i64 (i10 + (1 : Int))))], tab := [] }) (K Ex.ret { fr := [((4 : Nat), V.bool false)], tab := [] }))) (none)) (none))) (none)) (cond (ile (0 : Int) i9) (K Ex.normal { fr := [((5 : Nat), V.slc [Sh.str] r5), ((6 : Nat), V.slc [Sh.str] r6), ((7 : Nat), V.int IntKind.i64 i9), ((8 : Nat), V.int IntKind.i64 (IntKind.wrap IntKind.i64 (i10 + (1 : Int)))), ((9 : Nat), V.int IntKind.i64 i9), ((10 : Nat), V.int IntKind.i64 (IntKind.wrap IntKind.i64 (i10 + (1 : Int))))], tab := [] }) (K Ex.ret { fr := [((4 : Nat), V.bool false)], tab := [] })))) (K (Ex.exit (0 : Nat)) { fr := [((5 : Nat), V.slc [Sh.str] r5), ((7 : Nat), V.int IntKind.i64 i7)], tab := [] }) := by kernel_rfl
theorem q_matchesR14 (r5 : List (List V)) (i7 : Int) (K : Ex → St → Option R) : evRound eMatches 132 14 { fr := [(5, .slc [.str] r5), (7, .int .i64 i7)], tab := [] } K =
 cond (ilt i7 (↑(List.length r5) : Int)) (cond (decide ((0 : Int) ≤ i7 ∧ i7 < (↑(List.length r5) : Int))) (cond (V.toStr (List.getD (List.getD r5 (Int.toNat i7) []) (0 : Nat) V.undef) == [(35 : UInt8)]) (K Ex.normal { fr := [((5 : Nat), V.slc [Sh.str] r5), ((7 : Nat), V.int IntKind.i64 (IntKind.wrap IntKind.i64 (i7 + (1 : Int))))], tab := [] }) (K (Ex.exit (3 : Nat)) { fr := [((5 : Nat), V.slc [Sh.str] r5), ((7 : Nat), V.int IntKind.i64 i7)], tab := [] })) (none)) (K (Ex.exit (3 : Nat)) { fr := [((5 : Nat), V.slc [Sh.str] r5), ((7 : Nat), V.int IntKind.i64 i7)], tab := [] }) := by kernel_rfl
theorem matches14 (r5 : List (List V)) (hr : r5.length ≤ 1000001) (K : Ex → St → Option R) (q : R) (i : Int) (hi : 0 ≤ i) (h : K (.exit 3) { fr := [(5, .slc [.str] r5), (7, .int .i64 (N.hashes (rowsS r5) (r5.length + 1 - i.toNat) i))], tab := [] } = some q) :
    ∃ n, iterR eMatches 132 14 n { fr := [(5, .slc [.str] r5), (7, .int .i64 i)], tab := [] } K = some q := by
  refine loop_ind (E := eMatches) (f := 132) (id := 14) (σ := Int) (fun i => { fr := [(5, .slc [.str] r5), (7, .int .i64 i)], tab := [] })
    (fun i => 0 ≤ i) (fun i => r5.length - i.toNat) (fun i K => K (.exit 3) { fr := [(5, .slc [.str] r5), (7, .int .i64 (N.hashes (rowsS r5) (r5.length + 1 - i.toNat) i))], tab := [] }) ?_ i hi K q h
  intro i hi
  have fz : ∀ i : Int, (r5.length : Int) ≤ i → ∀ f, N.hashes (rowsS r5) f i = i := fun i hi f => by
    cases f with
    | zero => rfl
    | succ f => unfold N.hashes; rw [rowsS_length, ilt_f hi]; rfl
  by_cases hl : i < r5.length
  · have e : r5.length + 1 - i.toNat = (r5.length + 1 - (i + 1).toNat) + 1 := by omega
    have e2 : N.hashes (rowsS r5) (r5.length + 1 - i.toNat) i = cond (rowS (r5.getD i.toNat []) == [35]) (N.hashes (rowsS r5) (r5.length + 1 - (i + 1).toNat) (i + 1)) i := by
      rw [e]
      show cond (cond (ilt i (rowsS r5).length) ((rowsS r5).getD i.toNat [] == [35]) false) _ _ = _
      rw [rowsS_length, ilt_t hl, rowsS_getD]; rfl
    rw [e2]
    cases hc : rowS (r5.getD i.toNat []) == [35] with
    | true =>
      refine .inl ⟨i + 1, by omega, by omega, fun K => ?_, fun K => rfl⟩
      rw [q_matchesR14]
      unfold rowS at hc
      simp (disch := omega) only [evs, hc]
    | false =>
      refine .inr ⟨.exit 3, _, by simp, fun K => ?_, fun K => rfl⟩
      rw [q_matchesR14]
      unfold rowS at hc
      simp (disch := omega) only [evs, hc]
  · refine .inr ⟨.exit 3, _, by simp, fun K => ?_, fun K => rfl⟩
    rw [q_matchesR14, fz i (by omega)]
    simp (disch := omega) only [evs]
theorem matches4 (r5 r6 : List (List V)) (h5 : r5.length ≤ 1000001) (h6 : r6.length ≤ 1000001) (K : Ex → St → Option R) (q : R)
    (h : cond (ile 0 (N.goOnI (rowsS r5) (rowsS r6) 0 0 (-1) 0 (N.goFuel (rowsS r5) (rowsS r6))))
        (K (.exit 0) { fr := [(5, .slc [.str] r5), (7, .int .i64 (N.goOnI (rowsS r5) (rowsS r6) 0 0 (-1) 0 (N.goFuel (rowsS r5) (rowsS r6))))], tab := [] }) (K .ret { fr := [(4, .bool false)], tab := [] }) = some q) :
    ∃ n, iterR eMatches 132 4 n { fr := [(5, .slc [.str] r5), (6, .slc [.str] r6), (7, .int .i64 0), (8, .int .i64 0), (9, .int .i64 (-1)), (10, .int .i64 0)], tab := [] } K = some q := by
  have hv : GoInv (rowsS r5) (rowsS r6) 0 0 (-1) 0 := ⟨by omega, by omega, by omega, by omega, .inl ⟨rfl, rfl⟩⟩
  refine loop_ind (E := eMatches) (f := 132) (id := 4) (σ := Nat × Int × Int × Int × Int)
    (fun x => { fr := [(5, .slc [.str] r5), (6, .slc [.str] r6), (7, .int .i64 x.2.1), (8, .int .i64 x.2.2.1), (9, .int .i64 x.2.2.2.1), (10, .int .i64 x.2.2.2.2)], tab := [] })
    (fun x => GoInv (rowsS r5) (rowsS r6) x.2.1 x.2.2.1 x.2.2.2.1 x.2.2.2.2 ∧ goMeas (rowsS r5) (rowsS r6) x.2.1 x.2.2.2.2 < x.1) (fun x => x.1)
    (fun x K => cond (ile 0 (N.goOnI (rowsS r5) (rowsS r6) x.2.1 x.2.2.1 x.2.2.2.1 x.2.2.2.2 x.1))
        (K (.exit 0) { fr := [(5, .slc [.str] r5), (7, .int .i64 (N.goOnI (rowsS r5) (rowsS r6) x.2.1 x.2.2.1 x.2.2.2.1 x.2.2.2.2 x.1))], tab := [] }) (K .ret { fr := [(4, .bool false)], tab := [] }))
    ?_ (N.goFuel (rowsS r5) (rowsS r6), 0, 0, -1, 0) ⟨hv, by unfold goMeas N.goFuel; simp only [Int.toNat_zero, Nat.sub_zero]; omega⟩ K q h
  rintro ⟨f, i, j, b, fr⟩ ⟨hi, hm⟩
  simp only at hi hm ⊢
  cases f with
  | zero => omega
  | succ f =>
  obtain ⟨s1, s2, s3⟩ : (ilt j (rowsS r6).length = true → _) ∧ (ilt j (rowsS r6).length = true → _) ∧ (ilt j (rowsS r6).length = true → _) := ⟨fun hj => (goOn_step f hi hj).1, fun hj => (goOn_step f hi hj).2.1, fun hj => (goOn_step f hi hj).2.2⟩
  have b0 := hi.i0
  have b1 := hi.i1
  have b2 := hi.j0
  have b3 := hi.j1
  have b4 := hi.bk
  have b5 : -1 ≤ b ∧ b ≤ i ∧ 0 ≤ fr ∧ fr ≤ j := by rcases b4 with ⟨_, _⟩ | ⟨_, _, _, _, _⟩ <;> omega
  rw [rowsS_length] at b1 b3
  have eq : N.goOnI (rowsS r5) (rowsS r6) i j b fr (f + 1) = cond (ilt j r6.length)
      (cond (cond (ilt i r5.length) (rowS (r5.getD i.toNat []) == [35]) false) (N.goOnI (rowsS r5) (rowsS r6) (i + 1) j (i + 1) j f)
        (cond (cond (ilt i r5.length) (cond (rowS (r5.getD i.toNat []) == [42]) true (rowS (r5.getD i.toNat []) == rowS (r6.getD j.toNat []))) false) (N.goOnI (rowsS r5) (rowsS r6) (i + 1) (j + 1) b fr f)
          (cond (ile 0 b) (N.goOnI (rowsS r5) (rowsS r6) b (fr + 1) b (fr + 1) f) (-1)))) i := by
    unfold N.goOnI
    rw [N.goOn, rowsS_length, rowsS_length, rowsS_getD, rowsS_getD]
    cases ilt j r6.length
    · rfl
    · cases cond (ilt i r5.length) (rowS (r5.getD i.toNat []) == [35]) false
      · cases cond (ilt i r5.length) (cond (rowS (r5.getD i.toNat []) == [42]) true (rowS (r5.getD i.toNat []) == rowS (r6.getD j.toNat []))) false
        · cases ile 0 b <;> rfl
        · rfl
      · rfl
  rw [eq]
  simp only [rowsS_length, rowsS_getD] at s1 s2 s3
  cases hj : ilt j r6.length with
  | false =>
    rw [cond_false, ile_t b0]
    refine .inr ⟨.exit 0, _, by simp, fun K => ?_, fun K => rfl⟩
    rw [q_matchesR4, hj]; rfl
  | true =>
    have s1 := s1 hj
    have s2 := s2 hj
    have s3 := s3 hj
    have hj' := ilt_of hj
    simp only [cond_true]
    cases hc : cond (ilt i r5.length) (rowS (r5.getD i.toNat []) == [35]) false with
    | true =>
      obtain ⟨g1, g2, _⟩ := s1 hc
      have hi' : i < r5.length := by
        cases e : ilt i r5.length with
        | true => exact ilt_of e
        | false => rw [e] at hc; cases hc
      refine .inl ⟨(f, i + 1, j, i + 1, j), ⟨g1, by simp only; omega⟩, by simp only; omega, fun K => ?_, fun K => rfl⟩
      rw [q_matchesR4]
      rw [ilt_t hi', cond_true] at hc
      unfold rowS at hc
      simp (disch := omega) only [evs, hc]
    | false =>
      simp only [cond_false]
      cases hd : cond (ilt i r5.length) (cond (rowS (r5.getD i.toNat []) == [42]) true (rowS (r5.getD i.toNat []) == rowS (r6.getD j.toNat []))) false with
      | true =>
        obtain ⟨g1, g2, _⟩ := s2 hc hd
        have hi' : i < r5.length := by
          cases e : ilt i r5.length with
          | true => exact ilt_of e
          | false => rw [e] at hd; cases hd
        refine .inl ⟨(f, i + 1, j + 1, b, fr), ⟨g1, by simp only; omega⟩, by simp only; omega, fun K => ?_, fun K => rfl⟩
        rw [q_matchesR4]
        rw [ilt_t hi', cond_true] at hc hd
        unfold rowS at hc hd
        cases e42 : V.toStr (List.getD (List.getD r5 i.toNat []) 0 V.undef) == [42] with
        | true => simp (disch := omega) only [evs, hc]
        | false => rw [e42, cond_false] at hd; simp (disch := omega) only [evs, hc, hd]
      | false =>
        simp only [cond_false]
        obtain ⟨t1, t2⟩ := s3 hc hd
        cases hb : ile 0 b with
        | true =>
          obtain ⟨g1, g2, _⟩ := t1 hb
          refine .inl ⟨(f, b, fr + 1, b, fr + 1), ⟨g1, by simp only; omega⟩, by simp only; omega, fun K => ?_, fun K => rfl⟩
          rw [q_matchesR4]
          by_cases hi' : i < r5.length
          · rw [ilt_t hi', cond_true] at hc hd
            unfold rowS at hc hd
            cases e42 : V.toStr (List.getD (List.getD r5 i.toNat []) 0 V.undef) == [42] with
            | true => rw [e42] at hd; cases hd
            | false => rw [e42, cond_false] at hd; simp (disch := omega) only [evs, hc, hd, hb]
          · simp (disch := omega) only [evs, hb]
        | false =>
          refine .inr ⟨.ret, { fr := [(4, .bool false)], tab := [] }, by simp, fun K => ?_, fun K => rfl⟩
          rw [q_matchesR4]
          by_cases hi' : i < r5.length
          · rw [ilt_t hi', cond_true] at hc hd
            unfold rowS at hc hd
            cases e42 : V.toStr (List.getD (List.getD r5 i.toNat []) 0 V.undef) == [42] with
            | true => rw [e42] at hd; cases hd
            | false => rw [e42, cond_false] at hd; simp (disch := omega) only [evs, hc, hd, hb]
          · simp (disch := omega) only [evs, hb]
theorem goOn_some {p k : List Bytes} {i : Int} (h : N.goOn p k (N.goFuel p k) 0 0 (-1) 0 = some i) : 0 ≤ i ∧ i ≤ p.length :=
  goOn_bd _ ⟨by omega, by omega, by omega, by omega, .inl ⟨rfl, rfl⟩⟩ h
theorem hashes_fuel {p : List Bytes} : ∀ (f g : Nat) (i : Int), 0 ≤ i → p.length < f + i.toNat → p.length < g + i.toNat → N.hashes p f i = N.hashes p g i
  | 0, 0, i, _, _, _ => rfl
  | 0, g + 1, i, h0, h1, _ => by unfold N.hashes; rw [ilt_f (by omega)]; rfl
  | f + 1, 0, i, h0, _, h1 => by unfold N.hashes; rw [ilt_f (by omega)]; rfl
  | f + 1, g + 1, i, h0, h1, h2 => by
    unfold N.hashes
    rw [hashes_fuel f g (i + 1) (by omega) (by omega) (by omega)]
theorem ok_matches : FnOk Tryz.prog 132 dMatches := by
  refine den_okF (env_ok ((TOk.nil _).cons ok_words)) (E := eMatches) Tryz.func132 [4, 14] (by kernel_rfl) (two2 (rounds_of rfl fun l K q h => ?_) (rounds_of rfl fun l K q h => ?_)) fun a _ h => ?_
  · unfold gMatches4 at h
    split at h
    · rename_i r5 r6 i7 i8 i9 i10
      have h1 := (cond_none h).1; replace h := (cond_none h).2; have h2 := (cond_none h).1; replace h := (cond_none h).2; have h3 := (cond_none h).1; replace h := (cond_none h).2; have h4 := (cond_none h).1; replace h := (cond_none h).2; have h5 := (cond_none h).1; replace h := (cond_none h).2; have h6 := (cond_none h).1; replace h := (cond_none h).2
      have e1 := ieq_of h1
      have e2 := ieq_of h2
      have e3 := ieq_of h3
      have e4 := ieq_of h4
      subst e1 e2 e3 e4
      exact matches4 r5 r6 (ble_of h5) (ble_of h6) K q h
    · cases h
  · unfold gMatches14 at h
    split at h
    · rename_i r5 i7
      have h1 := (cond_none h).1; replace h := (cond_none h).2; have h2 := (cond_none h).1; replace h := (cond_none h).2
      exact matches14 r5 (ble_of h2) K q i7 (ile_of h1) h
    · cases h
  · obtain ⟨p, k⟩ := a
    have h1 := (bcond h).1; replace h := (bcond h).2
    have h1 : p.length ≤ 1000000 := ble_of h1
    have h : k.length ≤ 1000000 := ble_of h
    refine (q_matches p k).trans ?_
    show _ = some (⟨.bool (N.matchW (N.words p) (N.words k)), [], []⟩ : DRes)
    have e : ∀ l : List Bytes, (l.map (fun n => [V.str n])).map (fun r => V.toStr (List.getD r 0 V.undef)) = l := fun l => rowsS_enc l
    have w1 := (words_small p).1
    have w2 := (words_small k).1
    generalize N.words p = p at *
    generalize N.words k = k at *
    simp (disch := omega) only [evs, e]
    unfold N.goOnI N.matchW
    cases hg : N.goOn p k (N.goFuel p k) 0 0 (-1) 0 with
    | none => rfl
    | some i =>
      obtain ⟨g1, g2⟩ := goOn_some hg
      simp only [Option.getD_some]
      simp (disch := omega) only [evs, hashes_fuel (p := p) (p.length + 1 - i.toNat) (p.length + 1) i g1 (by omega) (by omega)]
end Go.Ev

/- What the statements on words reckon: lemmas, no condition. -/
namespace Go.Ev
open Go Go.Proofs
set_option maxRecDepth 100000

def dTrueW : Den := den aNil bNil (oV vBool) (fun _ _ => true) fun _ _ => (true, ())
noncomputable def eName : Env := env Tryz.prog [(148, dPlain)] [] []
theorem q_name (s : Bytes) : evFn eName 118 ((aOne vStr).enc s) ([]) some =
 cond (s == []) (some { v := V.int IntKind.i64 (15 : Int), bx := [] }) (cond (ilt (16 : Int) (↑(List.length s) : Int)) (some { v := V.int IntKind.i64 (5 : Int), bx := [] }) (cond (Nat.ble (List.length s) (1000000 : Nat)) (cond (!N.plain s) (some { v := V.int IntKind.i64 (4 : Int), bx := [] }) (some { v := V.int IntKind.i64 (0 : Int), bx := [] })) (none))) := by kernel_rfl
theorem ok_name : FnOk Tryz.prog 118 dName := by
  refine den_okF (env_ok ((TOk.nil _).cons ok_plain)) (E := eName) Tryz.func118 [] (by kernel_rfl) none0 fun s _ h => ?_
  refine (q_name s).trans ?_
  show _ = some (⟨.int .i64 (N.name s), [], []⟩ : DRes)
  unfold N.name
  cases s == [] with
  | true => rfl
  | false =>
    cases h : ilt 16 s.length with
    | true => rfl
    | false =>
      have h := ilt_nof h
      simp (disch := omega) only [evs]
      cases N.plain s <;> rfl
noncomputable def eAwW : Env := env Tryz.prog [(132, dMatches), (118, dName)] [] []
theorem q_awW  : evFn eAwW 123 [] [] some =
 some { v := V.bool true, bx := [] } := by kernel_rfl
theorem ok_awW : FnOk Tryz.prog 123 dTrueW :=
  den_okF (env_ok (((TOk.nil _).cons ok_name).cons ok_matches)) (E := eAwW) Tryz.func123 [] (by kernel_rfl) none0 fun _ _ _ => q_awW
theorem refKey_len {s : Bytes} {b : Bool} (h : (N.refKey s b != 0) = false) : s.length ≤ 64 := by
  unfold N.refKey at h
  cases e : ilt 64 s.length with
  | true => rw [e] at h; cases h
  | false => have := ilt_nof e; omega
end Go.Ev

/- The program's forms of words answer what the plain ones do: lemmas, no condition. -/
namespace Go.Ev
open Go Go.Proofs
set_option maxRecDepth 100000

def schKeyB4 : SSch := { fr := [(1, .slc [.str]), (13, .slc [.str]), (14, .int .i64), (15, .int .i64)], tab := [] }
def gKeyB4 : List Leaf → (Ex → St → Option R) → Option R
  | [.r r1, .r r13, .i i14, .i i15], K => cond (i14 == r13.length) (cond (ile 0 i15) (cond (Nat.ble r13.length (LIM + 1)) (cond (Nat.ble r1.length (LIM + 1)) (cond (r13.all fun r => Nat.ble (rowS r).length LIM)
      (cond (N.keyL (rowsS r1) ((rowsS r13).drop i15.toNat) == 0) (K (.exit 0) { fr := [], tab := [] }) (K .ret { fr := [(4, .int .i64 4)], tab := [] })) none) none) none) none) none
  | _, _ => none
def schKeyB7 : SSch := { fr := [(1, .slc [.str]), (6, .str), (13, .slc [.str]), (14, .int .i64), (15, .int .i64), (19, .slc [.str]), (20, .int .i64), (21, .int .i64)], tab := [] }
def gKeyB7 : List Leaf → (Ex → St → Option R) → Option R
  | [.r r1, .s s6, .r r13, .i i14, .i i15, .r r19, .i i20, .i i21], K => cond (i20 == r19.length) (cond (ile 0 i21) (cond (Nat.ble r19.length (LIM + 1))
      (cond (((rowsS r19).drop i21.toNat).any (s6 == ·)) (K (.exit 1) { fr := [(1, .slc [.str] r1), (13, .slc [.str] r13), (14, .int .i64 i14), (15, .int .i64 i15)], tab := [] })
        (K (.exit 2) { fr := [(1, .slc [.str] r1), (6, .str s6), (13, .slc [.str] r13), (14, .int .i64 i14), (15, .int .i64 i15)], tab := [] })) none) none) none
  | _, _ => none
noncomputable def eKeyB : Env := env Tryz.prog [(154, dWords), (148, dPlain)] [(7, loopF schKeyB7 gKeyB7), (4, loopF schKeyB4 gKeyB4)] [(4, [(0, [1, 13, 14, 15]), (1, []), (1000, [4])]), (7, [(0, [1, 6, 13, 14, 15, 19, 20, 21]), (2, [1, 13, 14, 15]), (3, [1, 6, 13, 14, 15]), (1000, [4])])]
theorem q_keyB (s : Bytes) (l : List Bytes) : evFn eKeyB 166 ((aCons vStr (aOne (vSl rStr))).enc (s, l)) ([]) some =
 cond (ilt (64 : Int) (↑(List.length s) : Int)) (some { v := V.int IntKind.i64 (5 : Int), bx := [] }) (cond (Nat.ble (List.length s) (1000000 : Nat)) (cond ((↑(List.length (List.map (fun n => [V.str n]) (N.words s))) : Int) == (↑(List.length (List.map (fun n => [V.str n]) (N.words s))) : Int)) (cond (Nat.ble (List.length (List.map (fun n => [V.str n]) (N.words s))) (1000001 : Nat)) (cond (Nat.ble (List.length (List.map (fun n => [V.str n]) l)) (1000001 : Nat)) (cond (List.all (List.map (fun n => [V.str n]) (N.words s)) fun r => Nat.ble (List.length (V.toStr (List.getD r (0 : Nat) V.undef))) (1000000 : Nat)) (cond (N.keyL (List.map (fun r => V.toStr (List.getD r (0 : Nat) V.undef)) (List.map (fun n => [V.str n]) l)) (List.drop (0 : Nat) (List.map (fun r => V.toStr (List.getD r (0 : Nat) V.undef)) (List.map (fun n => [V.str n]) (N.words s)))) == (0 : Int)) (some { v := V.int IntKind.i64 (0 : Int), bx := [] }) (some { v := V.int IntKind.i64 (4 : Int), bx := [] })) (none)) (none)) (none)) (none)) (none)) := by kernel_rfl
theorem q_keyBR4 (r1 : List (List V)) (r13 : List (List V)) (i14 : Int) (i15 : Int) (K : Ex → St → Option R) : evRound eKeyB 166 4 { fr := [(1, .slc [.str] r1), (13, .slc [.str] r13), (14, .int .i64 i14), (15, .int .i64 i15)], tab := [] } K =
 cond (ilt i15 i14) (cond (decide ((0 : Int) ≤ i15 ∧ i15 < (↑(List.length r13) : Int))) (cond ((↑(List.length r1) : Int) == (↑(List.length r1) : Int)) (cond (Nat.ble (List.length r1) (1000001 : Nat)) (cond (List.any (List.drop (0 : Nat) (List.map (fun r => V.toStr (List.getD r (0 : Nat) V.undef)) r1)) fun x => V.toStr (List.getD (List.getD r13 (Int.toNat i15) []) (0 : Nat) V.undef) == x) (K Ex.normal { fr := [((1 : Nat), V.slc [Sh.str] r1), ((13 : Nat), V.slc [Sh.str] r13), ((14 : Nat), V.int IntKind.i64 i14), ((15 : Nat), V.int IntKind.i64 (IntKind.wrap IntKind.i64 (i15 + (1 : Int))))], tab := [] }) (cond (V.toStr (List.getD (List.getD r13 (Int.toNat i15) []) (0 : Nat) V.undef) == []) (K Ex.ret { fr := [((4 : Nat), V.int IntKind.i64 (4 : Int))], tab := [] }) (cond (Nat.ble (List.length (V.toStr (List.getD (List.getD r13 (Int.toNat i15) []) (0 : Nat) V.undef))) (1000000 : Nat)) (cond (!N.plain (V.toStr (List.getD (List.getD r13 (Int.toNat i15) []) (0 : Nat) V.undef))) (K Ex.ret { fr := [((4 : Nat), V.int IntKind.i64 (4 : Int))], tab := [] }) (K Ex.normal { fr := [((1 : Nat), V.slc [Sh.str] r1), ((13 : Nat), V.slc [Sh.str] r13), ((14 : Nat), V.int IntKind.i64 i14), ((15 : Nat), V.int IntKind.i64 (IntKind.wrap IntKind.i64 (i15 + (1 : Int))))], tab := [] })) (none)))) (none)) (none)) (none)) (K (Ex.exit (0 : Nat)) { fr := [], tab := [] }) := by kernel_rfl
theorem q_keyBR7 (r1 : List (List V)) (s6 : Bytes) (r13 : List (List V)) (i14 : Int) (i15 : Int) (r19 : List (List V)) (i20 : Int) (i21 : Int) (K : Ex → St → Option R) : evRound eKeyB 166 7 { fr := [(1, .slc [.str] r1), (6, .str s6), (13, .slc [.str] r13), (14, .int .i64 i14), (15, .int .i64 i15), (19, .slc [.str] r19), (20, .int .i64 i20), (21, .int .i64 i21)], tab := [] } K =
 cond (ilt i21 i20) (cond (decide ((0 : Int) ≤ i21 ∧ i21 < (↑(List.length r19) : Int))) (cond (s6 == V.toStr (List.getD (List.getD r19 (Int.toNat i21) []) (0 : Nat) V.undef)) (K (Ex.exit (1 : Nat)) { fr := [((1 : Nat), V.slc [Sh.str] r1), ((13 : Nat), V.slc [Sh.str] r13), ((14 : Nat), V.int IntKind.i64 i14), ((15 : Nat), V.int IntKind.i64 i15)], tab := [] }) (K Ex.normal { fr := [((1 : Nat), V.slc [Sh.str] r1), ((6 : Nat), V.str s6), ((13 : Nat), V.slc [Sh.str] r13), ((14 : Nat), V.int IntKind.i64 i14), ((15 : Nat), V.int IntKind.i64 i15), ((19 : Nat), V.slc [Sh.str] r19), ((20 : Nat), V.int IntKind.i64 i20), ((21 : Nat), V.int IntKind.i64 (IntKind.wrap IntKind.i64 (i21 + (1 : Int))))], tab := [] })) (none)) (K (Ex.exit (2 : Nat)) { fr := [((1 : Nat), V.slc [Sh.str] r1), ((6 : Nat), V.str s6), ((13 : Nat), V.slc [Sh.str] r13), ((14 : Nat), V.int IntKind.i64 i14), ((15 : Nat), V.int IntKind.i64 i15)], tab := [] }) := by kernel_rfl
theorem keyL_or (b : List Bytes) : ∀ l, N.keyL b l = 0 ∨ N.keyL b l = 4
  | [] => .inl rfl
  | w :: r => by
    unfold N.keyL
    cases b.any (w == ·)
    · cases (cond (w == []) true (!N.plain w))
      · exact keyL_or b r
      · exact .inr rfl
    · exact keyL_or b r
theorem ok_keyB : FnOk Tryz.prog 166 dKeyB := by
  refine den_okF (env_ok (((TOk.nil _).cons ok_plain).cons ok_words)) (E := eKeyB) Tryz.func166 [4, 7] (by kernel_rfl) (two2 (rounds_of rfl fun l K q h => ?_) (rounds_of rfl fun l K q h => ?_)) fun a _ h => ?_
  · unfold gKeyB4 at h
    split at h
    · rename_i r1 r13 n i
      have h1 := (cond_none h).1; replace h := (cond_none h).2; have h2 := (cond_none h).1; replace h := (cond_none h).2; have h3 := (cond_none h).1; replace h := (cond_none h).2; have h4 := (cond_none h).1; replace h := (cond_none h).2; have h5 := (cond_none h).1; replace h := (cond_none h).2
      have e1 := ieq_of h1
      subst e1
      have h3 : r13.length ≤ 1000001 := ble_of h3
      have h4 : r1.length ≤ 1000001 := ble_of h4
      refine loop_ind (E := eKeyB) (f := 166) (id := 4) (σ := Int) (fun i => { fr := [(1, .slc [.str] r1), (13, .slc [.str] r13), (14, .int .i64 r13.length), (15, .int .i64 i)], tab := [] })
        (fun i => 0 ≤ i) (fun i => r13.length - i.toNat) (fun i K => cond (N.keyL (rowsS r1) ((rowsS r13).drop i.toNat) == 0) (K (.exit 0) { fr := [], tab := [] }) (K .ret { fr := [(4, .int .i64 4)], tab := [] })) (fun i hi => ?_) i (ile_of h2) K q (by assumption)
      by_cases hl : i < r13.length
      · have hlt : i.toNat < r13.length := by omega
        have hw' : (V.toStr (List.getD (List.getD r13 i.toNat []) 0 V.undef)).length ≤ 1000000 := ble_of (List.all_eq_true.1 h5 _ (by rw [List.getD_eq_getElem?_getD, List.getElem?_eq_getElem hlt]; exact List.getElem_mem _))
        rw [drop_get hlt]
        have e : N.keyL (rowsS r1) (rowS (r13.getD i.toNat []) :: (rowsS r13).drop (i.toNat + 1)) = cond ((rowsS r1).any (rowS (r13.getD i.toNat []) == ·)) (N.keyL (rowsS r1) ((rowsS r13).drop (i.toNat + 1))) (cond (cond (rowS (r13.getD i.toNat []) == []) true (!N.plain (rowS (r13.getD i.toNat [])))) 4 (N.keyL (rowsS r1) ((rowsS r13).drop (i.toNat + 1)))) := rfl
        rw [e]
        have stepOk : ∀ K : Ex → St → Option R, (cond ((rowsS r1).any (rowS (r13.getD i.toNat []) == ·)) true (!cond (rowS (r13.getD i.toNat []) == []) true (!N.plain (rowS (r13.getD i.toNat []))))) = true →
            evRound eKeyB 166 4 { fr := [(1, .slc [.str] r1), (13, .slc [.str] r13), (14, .int .i64 r13.length), (15, .int .i64 i)], tab := [] } K = K .normal { fr := [(1, .slc [.str] r1), (13, .slc [.str] r13), (14, .int .i64 r13.length), (15, .int .i64 (i + 1))], tab := [] } := fun K hc => by
          rw [q_keyBR4]
          unfold rowsS rowS at hc
          simp (disch := omega) only [evs, List.drop_zero]
          revert hc
          cases List.any (List.map (fun r => V.toStr (List.getD r 0 V.undef)) r1) (fun x => V.toStr (List.getD (List.getD r13 i.toNat []) 0 V.undef) == x) <;> cases V.toStr (List.getD (List.getD r13 i.toNat []) 0 V.undef) == [] <;> cases N.plain (V.toStr (List.getD (List.getD r13 i.toNat []) 0 V.undef)) <;> intro hc <;> first | rfl | cases hc
        cases h1 : (rowsS r1).any (rowS (r13.getD i.toNat []) == ·) with
        | true =>
          refine .inl ⟨i + 1, by omega, by omega, fun K => stepOk K (by rw [h1]; rfl), fun K => ?_⟩
          rw [cond_true, show (i + 1).toNat = i.toNat + 1 by omega]
        | false =>
          cases h2 : cond (rowS (r13.getD i.toNat []) == []) true (!N.plain (rowS (r13.getD i.toNat []))) with
          | false =>
            refine .inl ⟨i + 1, by omega, by omega, fun K => stepOk K (by rw [h1, h2]; rfl), fun K => ?_⟩
            rw [cond_false, cond_false, show (i + 1).toNat = i.toNat + 1 by omega]
          | true =>
            refine .inr ⟨.ret, { fr := [(4, .int .i64 4)], tab := [] }, by simp, fun K => ?_, fun K => rfl⟩
            rw [q_keyBR4]
            unfold rowsS rowS at h1
            simp (disch := omega) only [evs, List.drop_zero]
            revert h1 h2
            unfold rowS
            cases List.any (List.map (fun r => V.toStr (List.getD r 0 V.undef)) r1) (fun x => V.toStr (List.getD (List.getD r13 i.toNat []) 0 V.undef) == x) <;> cases V.toStr (List.getD (List.getD r13 i.toNat []) 0 V.undef) == [] <;> cases N.plain (V.toStr (List.getD (List.getD r13 i.toNat []) 0 V.undef)) <;> intro h1 h2 <;> first | rfl | (cases h1; done) | cases h2
      · refine .inr ⟨.exit 0, { fr := [], tab := [] }, by simp, fun K => ?_, fun K => ?_⟩
        · rw [q_keyBR4]
          simp (disch := omega) only [evs]
        · rw [List.drop_eq_nil_of_le (by rw [rowsS_length]; omega)]; rfl
    · cases h
  · unfold gKeyB7 at h
    split at h
    · rename_i r1 s r13 i14 i15 r19 n i
      have h1 := (cond_none h).1; replace h := (cond_none h).2; have h2 := (cond_none h).1; replace h := (cond_none h).2; have h3 := (cond_none h).1; replace h := (cond_none h).2
      have e1 := ieq_of h1
      subst e1
      have h3 : r19.length ≤ 1000001 := ble_of h3
      refine loop_ind (E := eKeyB) (f := 166) (id := 7) (σ := Int) (fun i => { fr := [(1, .slc [.str] r1), (6, .str s), (13, .slc [.str] r13), (14, .int .i64 i14), (15, .int .i64 i15), (19, .slc [.str] r19), (20, .int .i64 r19.length), (21, .int .i64 i)], tab := [] })
        (fun i => 0 ≤ i) (fun i => r19.length - i.toNat) (fun i K => cond (((rowsS r19).drop i.toNat).any (s == ·)) (K (.exit 1) { fr := [(1, .slc [.str] r1), (13, .slc [.str] r13), (14, .int .i64 i14), (15, .int .i64 i15)], tab := [] })
        (K (.exit 2) { fr := [(1, .slc [.str] r1), (6, .str s), (13, .slc [.str] r13), (14, .int .i64 i14), (15, .int .i64 i15)], tab := [] })) (fun i hi => ?_) i (ile_of h2) K q (by assumption)
      by_cases hl : i < r19.length
      · rw [drop_get (show i.toNat < r19.length by omega), List.any_cons]
        cases hc : s == rowS (r19.getD i.toNat []) with
        | true =>
          refine .inr ⟨.exit 1, _, by simp, fun K => ?_, fun K => rfl⟩
          rw [q_keyBR7]
          unfold rowS at hc
          simp (disch := omega) only [evs, hc]
        | false =>
          refine .inl ⟨i + 1, by omega, by omega, fun K => ?_, fun K => ?_⟩
          · rw [q_keyBR7]
            unfold rowS at hc
            simp (disch := omega) only [evs, hc]
          · rw [Bool.false_or, show (i + 1).toNat = i.toNat + 1 by omega]
      · refine .inr ⟨.exit 2, { fr := [(1, .slc [.str] r1), (6, .str s), (13, .slc [.str] r13), (14, .int .i64 i14), (15, .int .i64 i15)], tab := [] }, by simp, fun K => ?_, fun K => ?_⟩
        · rw [q_keyBR7]
          simp (disch := omega) only [evs]
        · rw [List.drop_eq_nil_of_le (by rw [rowsS_length]; omega)]; rfl
    · cases h
  · obtain ⟨s, l⟩ := a
    have h : l.length ≤ 1000000 := ble_of h
    refine (q_keyB s l).trans ?_
    show _ = some (⟨.int .i64 (N.key s l), [], []⟩ : DRes)
    unfold N.key
    cases hl : ilt 64 s.length with
    | true => rfl
    | false =>
      have hl := ilt_nof hl
      obtain ⟨w1, w2⟩ := words_small s
      have hall : ((N.words s).map (fun n => [V.str n])).all (fun r => Nat.ble (V.toStr (List.getD r 0 V.undef)).length 1000000) = true := List.all_eq_true.2 fun r hr => by
        obtain ⟨w, hw, rfl⟩ := List.mem_map.1 hr
        exact ble_t (show w.length ≤ 1000000 from by have := w2 w hw; omega)
      have e : ∀ l : List Bytes, (l.map (fun n => [V.str n])).map (fun r => V.toStr (List.getD r 0 V.undef)) = l := fun l => rowsS_enc l
      simp (disch := omega) only [evs, hall, e, List.drop_zero]
      rcases keyL_or l (N.words s) with e | e <;> rw [e] <;> rfl
noncomputable def eKey : Env := env Tryz.prog [(166, dKeyB)] [] []
theorem q_key (s : Bytes) : evFn eKey 149 ((aOne vStr).enc s) ([]) some =
 some { v := V.int IntKind.i64 (N.key s []), bx := [] } := by kernel_rfl
theorem ok_key : FnOk Tryz.prog 149 dKey := den_okF (env_ok ((TOk.nil _).cons ok_keyB)) (E := eKey) Tryz.func149 [] (by kernel_rfl) none0 fun s _ _ => q_key s
def schRefName : SSch := { fr := [(0, .str), (3, .int .i64)], tab := [] }
def gRefName : List Leaf → (Ex → St → Option R) → Option R
  | [.s s0, .i i3], K => cond (ile 0 i3) (cond (Nat.ble s0.length LIM) (cond (N.plain (s0.drop i3.toNat)) (K (.exit 0) { fr := [], tab := [] }) (K .ret { fr := [(2, .int .i64 4)], tab := [] })) none) none
  | _, _ => none
noncomputable def eRefName : Env := env Tryz.prog [(78, dLetter)] [(6, loopF schRefName gRefName)] [(6, [(0, [0, 3]), (1, []), (1000, [2])])]
theorem q_refName (s : Bytes) : evFn eRefName 125 ((aOne vStr).enc s) ([]) some =
 cond ((↑(List.length s) : Int) == (0 : Int)) (some { v := V.int IntKind.i64 (15 : Int), bx := [] }) (cond (ilt (16 : Int) (↑(List.length s) : Int)) (some { v := V.int IntKind.i64 (5 : Int), bx := [] }) (cond (Nat.ble (List.length s) (1000000 : Nat)) (cond (N.plain (List.drop (0 : Nat) s)) (some { v := V.int IntKind.i64 (0 : Int), bx := [] }) (some { v := V.int IntKind.i64 (4 : Int), bx := [] })) (none))) := by kernel_rfl
theorem q_refNameR (s0 : Bytes) (i3 : Int) (K : Ex → St → Option R) : evRound eRefName 125 6 { fr := [(0, .str s0), (3, .int .i64 i3)], tab := [] } K =
 cond (ilt i3 (↑(List.length s0) : Int)) (cond (decide ((0 : Int) ≤ i3 ∧ i3 < (↑(List.length s0) : Int))) (cond (!N.letterI (↑(UInt8.toNat (List.getD s0 (Int.toNat i3) (0 : UInt8))) : Int)) (K Ex.ret { fr := [((2 : Nat), V.int IntKind.i64 (4 : Int))], tab := [] }) (K Ex.normal { fr := [((0 : Nat), V.str s0), ((3 : Nat), V.int IntKind.i64 (IntKind.wrap IntKind.i64 (i3 + (1 : Int))))], tab := [] })) (none)) (K (Ex.exit (0 : Nat)) { fr := [], tab := [] }) := by kernel_rfl
theorem ok_refName : FnOk Tryz.prog 125 dName := by
  refine den_okF (env_ok ((TOk.nil _).cons ok_letter)) (E := eRefName) Tryz.func125 [6] (by kernel_rfl) (one1 (rounds_of rfl fun l K q h => ?_)) fun s _ h => ?_
  · unfold gRefName at h
    split at h
    · rename_i s i
      have h1 := (cond_none h).1; replace h := (cond_none h).2; have h2 := (cond_none h).1; replace h := (cond_none h).2
      have h2 : s.length ≤ 1000000 := ble_of h2
      refine loop_ind (E := eRefName) (f := 125) (id := 6) (fun i : Int => { fr := [(0, .str s), (3, .int .i64 i)], tab := [] }) (fun i => 0 ≤ i) (fun i => s.length - i.toNat)
        (fun i K => cond (N.plain (s.drop i.toNat)) (K (.exit 0) { fr := [], tab := [] }) (K .ret { fr := [(2, .int .i64 4)], tab := [] })) (fun i hi => ?_) i (ile_of h1) K q h
      by_cases hl : i < s.length
      · rw [drop_byte (show i.toNat < s.length by omega), plain_cons]
        cases hc : N.letterI (s.getD i.toNat 0).toNat with
        | true =>
          refine .inl ⟨i + 1, by omega, by omega, fun K => ?_, fun K => ?_⟩
          · rw [q_refNameR]
            simp (disch := omega) only [evs, hc, Bool.not_true]
          · rw [cond_true, show (i + 1).toNat = i.toNat + 1 by omega]
        | false =>
          refine .inr ⟨.ret, { fr := [(2, .int .i64 4)], tab := [] }, by simp, fun K => ?_, fun K => rfl⟩
          rw [q_refNameR]
          simp (disch := omega) only [evs, hc, Bool.not_false]
      · refine .inr ⟨.exit 0, { fr := [], tab := [] }, by simp, fun K => ?_, fun K => ?_⟩
        · rw [q_refNameR]
          simp (disch := omega) only [evs]
        · rw [List.drop_eq_nil_of_le (by omega)]; rfl
    · cases h
  · refine (q_refName s).trans ?_
    show _ = some (⟨.int .i64 (N.name s), [], []⟩ : DRes)
    unfold N.name
    cases s with
    | nil => rfl
    | cons c r =>
      generalize hs : c :: r = s at *
      have h0 : (s == []) = false := by rw [← hs]; rfl
      have h1 : 0 < s.length := by rw [← hs]; simp
      rw [h0]
      cases h : ilt 16 s.length with
      | true => simp (disch := omega) only [evs]
      | false =>
        have h := ilt_nof h
        simp (disch := omega) only [evs, List.drop_zero]
        cases N.plain s <;> rfl
/-! ### The statement on forms -/
theorem key_eq (s : Bytes) : N.key s [] = N.refKey s false := by
  have e : ∀ l, N.keyL [] l = N.refKeyL false l := fun l => by
    induction l with
    | nil => rfl
    | cons w r ih =>
      unfold N.keyL N.refKeyL
      rw [ih, List.any_nil]
      cases w with
      | nil => rfl
      | cons c w => simp only [cond_false, List.length_cons]; simp (disch := omega) only [evs]; rw [show ((c :: w) == []) = false from rfl]; cases N.plain (c :: w) <;> rfl
  unfold N.key N.refKey
  rw [e]
end Go.Ev

/- The two readers of heads agree: lemmas on the plain functions. -/
namespace Go.Ev
open Go

/-! ### A reader that has failed stays as it is -/
/-! ### What keeps a reader within its bytes -/
end Go.Ev

/- The program's functions on bytes answer what the plain ones do: lemmas; that of the function that writes numbers is a premise. -/
namespace Go.Ev
open Go Go.Proofs
set_option maxRecDepth 100000

noncomputable def eFail : Env := env Tryz.prog [] [] []
theorem q_fail (i : InS) (n : Int) : evFn eFail 193 ((aCons (vPtr 0) (aOne (vInt .i64))).enc ((), n)) ((bOne cIn).enc i) some =
 cond (InS.err i == (0 : Int)) (cond (n != (0 : Int)) (some { v := V.tup [], bx := [[V.str [], V.int IntKind.i64 n]] }) (some { v := V.tup [], bx := [[V.str (InS.s i), V.int IntKind.i64 (InS.err i)]] })) (some { v := V.tup [], bx := [[V.str (InS.s i), V.int IntKind.i64 (InS.err i)]] }) := by kernel_rfl
theorem ok_fail : FnOk Tryz.prog 193 dFail := by
  refine den_okF (env_ok (TOk.nil _)) (E := eFail) Tryz.func193 [] (by kernel_rfl) none0 fun a i _ => ?_
  refine (q_fail i a.2).trans ?_
  show _ = some (⟨.tup [], [[.str (N.inFail i a.2).s, .int .i64 (N.inFail i a.2).err]], []⟩ : DRes)
  unfold N.inFail
  cases i.err == 0 <;> cases a.2 != 0 <;> rfl

noncomputable def eRaw : Env := env Tryz.prog [(193, dFail)] [] []
theorem q_raw (i : InS) (n : Int) : evFn eRaw 187 ((aCons (vPtr 0) (aOne (vInt .i64))).enc ((), n)) ((bOne cIn).enc i) some =
 cond (InS.err i != (0 : Int)) (cond (InS.err i != (0 : Int)) (some { v := V.str [], bx := [[V.str (InS.s i), V.int IntKind.i64 (InS.err i)]] }) (cond (ilt (↑(List.length (InS.s i)) : Int) n) (some { v := V.str [], bx := [[V.str (InS.s (N.inFail i (3 : Int))), V.int IntKind.i64 (InS.err (N.inFail i (3 : Int)))]] }) (cond (decide ((0 : Int) ≤ n ∧ n ≤ (↑(List.length (InS.s i)) : Int))) (cond (decide ((0 : Int) ≤ n ∧ n ≤ (↑(List.length (InS.s i)) : Int))) (some { v := V.str (List.drop (0 : Nat) (List.take (Int.toNat n) (InS.s i))), bx := [[V.str (List.drop (Int.toNat n) (List.take (List.length (InS.s i)) (InS.s i))), V.int IntKind.i64 (InS.err i)]] }) (none)) (none)))) (cond (ile n (0 : Int)) (some { v := V.str [], bx := [[V.str (InS.s i), V.int IntKind.i64 (InS.err i)]] }) (cond (ilt (↑(List.length (InS.s i)) : Int) n) (some { v := V.str [], bx := [[V.str (InS.s (N.inFail i (3 : Int))), V.int IntKind.i64 (InS.err (N.inFail i (3 : Int)))]] }) (cond (decide ((0 : Int) ≤ n ∧ n ≤ (↑(List.length (InS.s i)) : Int))) (cond (decide ((0 : Int) ≤ n ∧ n ≤ (↑(List.length (InS.s i)) : Int))) (some { v := V.str (List.drop (0 : Nat) (List.take (Int.toNat n) (InS.s i))), bx := [[V.str (List.drop (Int.toNat n) (List.take (List.length (InS.s i)) (InS.s i))), V.int IntKind.i64 (InS.err i)]] }) (none)) (none)))) := by kernel_rfl
theorem inBounds {n : Int} {l : Nat} (h1 : ile n 0 = false) (h2 : ilt (l : Int) n = false) : decide ((0 : Int) ≤ n ∧ n ≤ (l : Int)) = true := by
  rw [ile_eq] at h1; rw [ilt_eq] at h2
  have h1 := of_decide_eq_false h1
  have h2 := of_decide_eq_false h2
  rw [decide_eq_true_iff]; omega
theorem ok_raw : FnOk Tryz.prog 187 dRaw := by
  refine den_okF (env_ok ((TOk.nil _).cons ok_fail)) (E := eRaw) Tryz.func187 [] (by kernel_rfl) none0 fun a i _ => ?_
  refine (q_raw i a.2).trans ?_
  show _ = some (⟨.str (N.inRaw i a.2).1, [[.str (N.inRaw i a.2).2.s, .int .i64 (N.inRaw i a.2).2.err]], []⟩ : DRes)
  unfold N.inRaw
  cases h1 : (i.err != 0) with
  | true => rfl
  | false =>
    cases h2 : ile a.2 0 with
    | true => rfl
    | false =>
      cases h3 : ilt (i.s.length : Int) a.2 with
      | true => rfl
      | false =>
        simp only [cond_true, cond_false, inBounds h2 h3, List.drop_zero, List.take_length]

def schNum : SSch := { fr := [(5, .int .u64), (12, .slc [.int .u8]), (13, .int .i64), (14, .int .i64)], tab := [(0, .var [.str, .int .i64])] }
def gNum : List Leaf → (Ex → St → Option R) → Option R
  | [.i n, .r rows, .i len, .i k, .s s, .i e], K => cond (decide (len = (rows.length : Int))) (cond (ile 0 k) (cond (Nat.ble rows.length 9223372036854775806)
      (K (.exit 0) { fr := [(5, .int .u64 (N.beR (rows.drop k.toNat) n))], tab := [(0, .var [.str s, .int .i64 e])] }) none) none) none
  | _, _ => none
noncomputable def eNum : Env := env Tryz.prog [(187, dRaw)] [(3, loopF schNum gNum)] [(3, [(0, [5, 12, 13, 14]), (1, [5]), (1000, [4])])]
theorem q_num (i : InS) (n : Int) : evFn eNum 182 ((aCons (vPtr 0) (aOne (vInt .i64))).enc ((), n)) ((bOne cIn).enc i) some =
 cond (decide ((↑(List.length (bytesOfStr (Prod.fst (N.inRaw i (bif ilt (8 : Int) n then (8 : Int) else n))))) : Int) = (↑(List.length (bytesOfStr (Prod.fst (N.inRaw i (bif ilt (8 : Int) n then (8 : Int) else n))))) : Int))) (cond (Nat.ble (List.length (bytesOfStr (Prod.fst (N.inRaw i (bif ilt (8 : Int) n then (8 : Int) else n))))) (9223372036854775806 : Nat)) (some { v := V.int IntKind.u64 (N.beR (List.drop (0 : Nat) (bytesOfStr (Prod.fst (N.inRaw i (bif ilt (8 : Int) n then (8 : Int) else n))))) (0 : Int)), bx := [[V.str (InS.s (Prod.snd (N.inRaw i (bif ilt (8 : Int) n then (8 : Int) else n)))), V.int IntKind.i64 (InS.err (Prod.snd (N.inRaw i (bif ilt (8 : Int) n then (8 : Int) else n))))]] }) (none)) (none) := by kernel_rfl
theorem q_numR (rows : List (List V)) (n len k e : Int) (s : Bytes) (K : Ex → St → Option R) : evRound eNum 182 3 { fr := [(5, .int .u64 n), (12, .slc [.int .u8] rows), (13, .int .i64 len), (14, .int .i64 k)], tab := [(0, .var [.str s, .int .i64 e])] } K =
 cond (ilt k len) (cond (decide ((0 : Int) ≤ k ∧ k < (↑(List.length rows) : Int))) (K Ex.normal { fr := [((5 : Nat), V.int IntKind.u64 (ibits BinOp.or IntKind.u64 (shl IntKind.u64 n (8 : Int)) (IntKind.wrap IntKind.u64 (V.toInt (List.getD (List.getD rows (Int.toNat k) []) (0 : Nat) V.undef))))), ((12 : Nat), V.slc [Sh.int IntKind.u8] rows), ((13 : Nat), V.int IntKind.i64 len), ((14 : Nat), V.int IntKind.i64 (IntKind.wrap IntKind.i64 (k + (1 : Int))))], tab := [((0 : Nat), Box.var [V.str s, V.int IntKind.i64 e])] }) (none)) (K (Ex.exit (0 : Nat)) { fr := [((5 : Nat), V.int IntKind.u64 n)], tab := [((0 : Nat), Box.var [V.str s, V.int IntKind.i64 e])] }) := by kernel_rfl
theorem wrap_i64 {n : Int} (h1 : -9223372036854775808 ≤ n) (h2 : n ≤ 9223372036854775807) : IntKind.wrap .i64 n = n := by
  simp only [IntKind.wrap, IntKind.signed, IntKind.bits]
  simp
  omega
theorem wrap_u64 {n : Int} (h1 : 0 ≤ n) (h2 : n < 18446744073709551616) : IntKind.wrap .u64 n = n := by
  simp only [IntKind.wrap, IntKind.signed, IntKind.bits]
  simp
  omega
theorem numR_ok (rows : List (List V)) (len e : Int) (s : Bytes) (hlen : len = rows.length) (hb : rows.length ≤ 9223372036854775806) (K : Ex → St → Option R) (q : R) : ∀ (d : Nat) (k n : Int), d = rows.length - k.toNat → 0 ≤ k →
    K (.exit 0) { fr := [(5, .int .u64 (N.beR (rows.drop k.toNat) n))], tab := [(0, .var [.str s, .int .i64 e])] } = some q →
    ∃ m, iterR eNum 182 3 m { fr := [(5, .int .u64 n), (12, .slc [.int .u8] rows), (13, .int .i64 len), (14, .int .i64 k)], tab := [(0, .var [.str s, .int .i64 e])] } K = some q
  | 0, k, n, hd, hk, h => by
    refine ⟨1, ?_⟩
    show evRound eNum _ 3 _ _ = some q
    rw [q_numR]
    have h1 : ilt k len = false := by rw [ilt_eq, decide_eq_false_iff_not]; omega
    rw [h1, cond_false]
    rw [List.drop_eq_nil_of_le (by omega)] at h
    exact h
  | d + 1, k, n, hd, hk, h => by
    have hlt : k.toNat < rows.length := by omega
    have hdrop : rows.drop k.toNat = rows.getD k.toNat [] :: rows.drop (k + 1).toNat := by
      rw [List.drop_eq_getElem_cons hlt, show (k + 1).toNat = k.toNat + 1 by omega, List.getD_eq_getElem?_getD, List.getElem?_eq_getElem hlt]; rfl
    rw [hdrop] at h
    obtain ⟨m, hm⟩ := numR_ok rows len e s hlen hb K q d (k + 1) _ (by omega) (by omega) h
    refine ⟨m + 1, ?_⟩
    show evRound eNum _ 3 _ _ = some q
    rw [q_numR]
    have h1 : ilt k len = true := by rw [ilt_eq, decide_eq_true_iff]; omega
    have h2 : decide ((0 : Int) ≤ k ∧ k < (rows.length : Int)) = true := by rw [decide_eq_true_iff]; omega
    rw [h1, h2, cond_true, cond_true, wrap_i64 (by omega) (by omega)]
    exact hm
theorem ok_num : FnOk Tryz.prog 182 dNum := by
  refine den_okF (env_ok ((TOk.nil _).cons ok_raw)) (E := eNum) Tryz.func182 [3] (by kernel_rfl) (one1 (rounds_of rfl fun l K q h => ?_)) fun a i _ => ?_
  · unfold gNum at h
    split at h
    · rename_i n rows len k s e
      obtain ⟨h1, h⟩ := cond_none h
      obtain ⟨h2, h⟩ := cond_none h
      obtain ⟨h3, h⟩ := cond_none h
      rw [ile_eq] at h2
      exact numR_ok rows len e s (of_decide_eq_true h1) (Nat.le_of_ble_eq_true h3) K q _ k n rfl (of_decide_eq_true h2) h
    · cases h
  · refine (q_num i a.2).trans ?_
    have h8 : (N.inRaw i (bif ilt 8 a.2 then 8 else a.2)).1.length ≤ 8 := N.inRaw_len i _ 8 (by
      rw [ilt_eq]
      by_cases h : 8 < a.2
      · rw [decide_eq_true h]; exact Int.le_refl _
      · rw [decide_eq_false h]; simp only [cond_false]; omega)
    rw [decide_eq_true (rfl : (_ : Int) = _), show Nat.ble (List.length (bytesOfStr (N.inRaw i (bif ilt 8 a.2 then 8 else a.2)).1)) 9223372036854775806 = true from
      Nat.ble_eq_true_of_le (by rw [show (bytesOfStr (N.inRaw i (bif ilt 8 a.2 then 8 else a.2)).1).length = (N.inRaw i (bif ilt 8 a.2 then 8 else a.2)).1.length by simp [bytesOfStr]]; omega), cond_true, cond_true]
    rw [List.drop_zero, beR_bytes _ 0 8 (by decide) h8 (by decide) (by decide)]
    rfl

noncomputable def eNew : Env := env Tryz.prog [] [] []
theorem q_new (s : Bytes) : evFn eNew 181 ((aOne vStr).enc s) (bNil.enc ()) some =
 some { v := V.ptr (1000 : Nat) (0 : Nat) (0 : Nat) (0 : Nat), bx := [], nb := [Box.var [V.str s, V.int IntKind.i64 (0 : Int)]] } := by kernel_rfl
theorem ok_new : FnOk Tryz.prog 181 dNew := den_okF (env_ok (TOk.nil _)) (E := eNew) Tryz.func181 [] (by kernel_rfl) none0 fun s _ _ => q_new s
theorem q_outRaw (o : OutS) (s : Bytes) : evFn eNew 160 ((aCons (vAgg cOut) (aOne vStr)).enc (o, s)) (bNil.enc ()) some =
 cond (Nat.ble (List.length (OutS.s o) + List.length s) (9223372036854775807 : Nat)) (some { v := V.agg [V.str (OutS.s o ++ s), V.int IntKind.i64 (OutS.err o)], bx := [] }) (none) := by kernel_rfl
theorem ok_outRaw : FnOk Tryz.prog 160 dOutRaw := by
  refine den_okF (env_ok (TOk.nil _)) (E := eNew) Tryz.func160 [] (by kernel_rfl) none0 fun a _ h => ?_
  refine (q_outRaw a.1 a.2).trans ?_
  rw [show Nat.ble (a.1.s.length + a.2.length) 9223372036854775807 = true from h]
  rfl
theorem q_outString (o : OutS) : evFn eNew 161 ((aOne (vAgg cOut)).enc o) (bNil.enc ()) some =
 some { v := V.str (OutS.s o), bx := [] } := by kernel_rfl
theorem ok_outString : FnOk Tryz.prog 161 dOutString := den_okF (env_ok (TOk.nil _)) (E := eNew) Tryz.func161 [] (by kernel_rfl) none0 fun s _ _ => q_outString s
noncomputable def eText : Env := env Tryz.prog [(160, dOutRaw), (158, dOutNum)] [] []
theorem q_outText (o : OutS) (s : Bytes) : evFn eText 159 ((aCons (vAgg cOut) (aOne vStr)).enc (o, s)) (bNil.enc ()) some =
 cond (ilt (65535 : Int) (↑(List.length s) : Int)) (cond (OutS.err o == (0 : Int)) (some { v := V.agg [V.str (OutS.s o), V.int IntKind.i64 (5 : Int)], bx := [] }) (some { v := V.agg [V.str (OutS.s o), V.int IntKind.i64 (OutS.err o)], bx := [] })) (cond (bif ilt (IntKind.wrap IntKind.u64 (↑(List.length s) : Int)) (18446744073709551616 : Int) then Nat.ble (List.length (OutS.s o)) (9223372036854775799 : Nat) else false) (cond (Nat.ble (List.length (OutS.s (N.outNum o (IntKind.wrap IntKind.u64 (↑(List.length s) : Int)) (2 : Int))) + List.length s) (9223372036854775807 : Nat)) (some { v := V.agg [V.str (OutS.s (N.outRaw (N.outNum o (IntKind.wrap IntKind.u64 (↑(List.length s) : Int)) (2 : Int)) s)), V.int IntKind.i64 (OutS.err (N.outRaw (N.outNum o (IntKind.wrap IntKind.u64 (↑(List.length s) : Int)) (2 : Int)) s))], bx := [] }) (none)) (none)) := by kernel_rfl
theorem ok_outText (hN : FnOk Tryz.prog 158 dOutNum) : FnOk Tryz.prog 159 dOutText := by
  refine den_okF (env_ok (((TOk.nil _).cons hN).cons ok_outRaw)) (E := eText) Tryz.func159 [] (by kernel_rfl) none0 fun a _ h => ?_
  refine (q_outText a.1 a.2).trans ?_
  have h : a.1.s.length + a.2.length ≤ 9223372036854775790 := Nat.le_of_ble_eq_true h
  show _ = some (⟨.agg [.str (N.outText a.1 a.2).s, .int .i64 (N.outText a.1 a.2).err], [], []⟩ : DRes)
  unfold N.outText
  cases h1 : ilt 65535 (a.2.length : Int) with
  | true => cases a.1.err == 0 <;> rfl
  | false =>
    rw [ilt_eq] at h1
    have h1 := of_decide_eq_false h1
    have hw : IntKind.wrap .u64 (a.2.length : Int) = a.2.length := wrap_u64 (by omega) (by omega)
    rw [hw]
    have e1 : ilt (a.2.length : Int) 18446744073709551616 = true := by rw [ilt_eq, decide_eq_true_iff]; omega
    have e2 : Nat.ble a.1.s.length 9223372036854775799 = true := Nat.ble_eq_true_of_le (by omega)
    have e3 : Nat.ble ((N.outNum a.1 (a.2.length : Int) 2).s.length + a.2.length) 9223372036854775807 = true := Nat.ble_eq_true_of_le (by
      have : (N.outNum a.1 (a.2.length : Int) 2).s.length = a.1.s.length + 2 := by
        show (a.1.s ++ N.numB _ (N.clamp 2)).length = _
        rw [List.length_append, N.numB_length]; rfl
      omega)
    simp only [e1, e2, e3, cond_true, cond_false]
end Go.Ev

/- The example of the chapter on bytes: lemmas; the function that writes numbers is a premise. -/
namespace Go.Ev
open Go Go.Proofs
set_option maxRecDepth 100000

noncomputable def eAw1 : Env := env Tryz.prog [(158, dOutNum), (159, dOutText), (161, dOutString), (181, dNew), (182, dNum)] [] []
theorem q_aw1  : evFn eAw1 176 [] [] some =
 some { v := V.bool true, bx := [] } := by kernel_rfl
def dTrue : Den := den aNil bNil (oV vBool) (fun _ _ => true) fun _ _ => (true, ())
theorem ok_aw1 (hN : FnOk Tryz.prog 158 dOutNum) : FnOk Tryz.prog 176 dTrue :=
  den_okF (env_ok ((((((TOk.nil _).cons ok_num).cons ok_new).cons ok_outString).cons (ok_outText hN)).cons hN)) (E := eAw1) Tryz.func176 [] (by kernel_rfl) none0 fun _ _ _ => q_aw1
noncomputable def eAw1' : Env := env Tryz.prog [(176, dTrue)] [] []
theorem q_aw1'  : evFn eAw1' 173 [] [] some =
 some { v := V.bool true, bx := [] } := by kernel_rfl
theorem ok_aw1' (hN : FnOk Tryz.prog 158 dOutNum) : FnOk Tryz.prog 173 dTrue :=
  den_okF (env_ok ((TOk.nil _).cons (ok_aw1 hN))) (E := eAw1') Tryz.func173 [] (by kernel_rfl) none0 fun _ _ _ => q_aw1'
end Go.Ev

/- The program's functions on heads answer what the plain ones do: lemmas; the function that writes numbers is a premise. -/
namespace Go.Ev
open Go Go.Proofs
set_option maxRecDepth 100000

def schEqP : SSch := { fr := [(0, .slc [.str, .int .u8, .int .i64, .str]), (1, .slc [.str, .int .u8, .int .i64, .str]), (12, .int .i64), (13, .int .i64)], tab := [] }
def gEqP : List Leaf → (Ex → St → Option R) → Option R
  | [.r r0, .r r1, .i i12, .i i13], K => cond (i12 == r0.length) (cond (Nat.beq r0.length r1.length) (cond (ile 0 i13) (cond (Nat.ble r0.length (LIM + 1)) (cond (N.samePs ((rowsP r0).drop i13.toNat) ((rowsP r1).drop i13.toNat)) (K (.exit 0) { fr := [], tab := [] }) (K .ret { fr := [(4, .bool false)], tab := [] })) none) none) none) none
  | _, _ => none
theorem samePs_len : ∀ a b : List HPair, a.length ≠ b.length → N.samePs a b = false
  | [], [], h => absurd rfl h
  | [], _ :: _, _ => rfl
  | _ :: _, [], _ => rfl
  | p :: a, q :: b, h => by
    unfold N.samePs
    rw [samePs_len a b (by simpa using h)]
    cases N.eqP p q <;> rfl
theorem samePs_cons (p q : HPair) (a b : List HPair) : N.samePs (p :: a) (q :: b) = cond (N.eqP p q) (N.samePs a b) false := rfl
def schRefSame : SSch := schEqP
noncomputable def eRefSame : Env := env Tryz.prog [] [(4, loopF schRefSame gEqP)] [(4, [(0, [0, 1, 12, 13]), (1, []), (1000, [4])])]
theorem q_refSame (a b : List HPair) : evFn eRefSame 59 ((aCons (vSl cPair) (aOne (vSl cPair))).enc (a, b)) ([]) some =
 cond ((↑(List.length (List.map (fun p => [V.str (HPair.key p), V.int IntKind.u8 (HPair.kind p), V.int IntKind.i64 (HPair.num p), V.str (HPair.text p)]) a)) : Int) != (↑(List.length (List.map (fun p => [V.str (HPair.key p), V.int IntKind.u8 (HPair.kind p), V.int IntKind.i64 (HPair.num p), V.str (HPair.text p)]) b)) : Int)) (some { v := V.bool false, bx := [] : DRes }) (cond ((↑(List.length (List.map (fun p => [V.str (HPair.key p), V.int IntKind.u8 (HPair.kind p), V.int IntKind.i64 (HPair.num p), V.str (HPair.text p)]) a)) : Int) == (↑(List.length (List.map (fun p => [V.str (HPair.key p), V.int IntKind.u8 (HPair.kind p), V.int IntKind.i64 (HPair.num p), V.str (HPair.text p)]) a)) : Int)) (cond (Nat.beq (List.length (List.map (fun p => [V.str (HPair.key p), V.int IntKind.u8 (HPair.kind p), V.int IntKind.i64 (HPair.num p), V.str (HPair.text p)]) a)) (List.length (List.map (fun p => [V.str (HPair.key p), V.int IntKind.u8 (HPair.kind p), V.int IntKind.i64 (HPair.num p), V.str (HPair.text p)]) b))) (cond (Nat.ble (List.length (List.map (fun p => [V.str (HPair.key p), V.int IntKind.u8 (HPair.kind p), V.int IntKind.i64 (HPair.num p), V.str (HPair.text p)]) a)) (1000001 : Nat)) (cond (N.samePs (List.drop (0 : Nat) (List.map (fun r => { key := V.toStr (List.getD r (0 : Nat) V.undef), kind := V.toInt (List.getD r (1 : Nat) V.undef), num := V.toInt (List.getD r (2 : Nat) V.undef), text := V.toStr (List.getD r (3 : Nat) V.undef) : HPair }) (List.map (fun p => [V.str (HPair.key p), V.int IntKind.u8 (HPair.kind p), V.int IntKind.i64 (HPair.num p), V.str (HPair.text p)]) a))) (List.drop (0 : Nat) (List.map (fun r => { key := V.toStr (List.getD r (0 : Nat) V.undef), kind := V.toInt (List.getD r (1 : Nat) V.undef), num := V.toInt (List.getD r (2 : Nat) V.undef), text := V.toStr (List.getD r (3 : Nat) V.undef) : HPair }) (List.map (fun p => [V.str (HPair.key p), V.int IntKind.u8 (HPair.kind p), V.int IntKind.i64 (HPair.num p), V.str (HPair.text p)]) b)))) (some { v := V.bool true, bx := [] : DRes }) (some { v := V.bool false, bx := [] : DRes })) (none)) (none)) (none)) := by kernel_rfl
theorem q_refSameR (r0 : List (List V)) (r1 : List (List V)) (i12 : Int) (i13 : Int) (K : Ex → St → Option R) : evRound eRefSame 59 4 { fr := [(0, .slc [.str, .int .u8, .int .i64, .str] r0), (1, .slc [.str, .int .u8, .int .i64, .str] r1), (12, .int .i64 i12), (13, .int .i64 i13)], tab := [] } K =
 cond (ilt i13 i12) (cond (decide ((0 : Int) ≤ i13 ∧ i13 < (↑(List.length r0) : Int))) (cond (decide ((0 : Int) ≤ i13 ∧ i13 < (↑(List.length r1) : Int))) (cond (!(V.toStr (List.getD (List.getD r0 (Int.toNat i13) []) (0 : Nat) V.undef) == V.toStr (List.getD (List.getD r1 (Int.toNat i13) []) (0 : Nat) V.undef) && (V.toInt (List.getD (List.getD r0 (Int.toNat i13) []) (1 : Nat) V.undef) == V.toInt (List.getD (List.getD r1 (Int.toNat i13) []) (1 : Nat) V.undef) && (V.toInt (List.getD (List.getD r0 (Int.toNat i13) []) (2 : Nat) V.undef) == V.toInt (List.getD (List.getD r1 (Int.toNat i13) []) (2 : Nat) V.undef) && (V.toStr (List.getD (List.getD r0 (Int.toNat i13) []) (3 : Nat) V.undef) == V.toStr (List.getD (List.getD r1 (Int.toNat i13) []) (3 : Nat) V.undef) && true))))) (K Ex.ret { fr := [((4 : Nat), V.bool false)], tab := [] : St }) (K Ex.normal { fr := [((0 : Nat), V.slc [Sh.str, Sh.int IntKind.u8, Sh.int IntKind.i64, Sh.str] r0), ((1 : Nat), V.slc [Sh.str, Sh.int IntKind.u8, Sh.int IntKind.i64, Sh.str] r1), ((12 : Nat), V.int IntKind.i64 i12), ((13 : Nat), V.int IntKind.i64 (IntKind.wrap IntKind.i64 (i13 + (1 : Int))))], tab := [] : St })) (none)) (none)) (K (Ex.exit (0 : Nat)) { fr := [], tab := [] : St }) := by kernel_rfl
theorem ok_refSame : FnOk Tryz.prog 59 dSameP := by
  refine den_okF (env_ok (TOk.nil _)) (E := eRefSame) Tryz.func59 [4] (by kernel_rfl) (one1 (rounds_of rfl fun l K q h => ?_)) fun a _ h => ?_
  · unfold gEqP at h
    split at h
    · rename_i r0 r1 n i
      have h1 := (cond_none h).1; replace h := (cond_none h).2; have h2 := (cond_none h).1; replace h := (cond_none h).2; have h3 := (cond_none h).1; replace h := (cond_none h).2; have h4 := (cond_none h).1; replace h := (cond_none h).2
      have e1 := ieq_of h1
      have h2 := Nat.eq_of_beq_eq_true h2
      subst e1
      have h4 : r0.length ≤ 1000001 := ble_of h4
      refine loop_ind (E := eRefSame) (f := 59) (id := 4) (fun i : Int => { fr := [(0, .slc [.str, .int .u8, .int .i64, .str] r0), (1, .slc [.str, .int .u8, .int .i64, .str] r1), (12, .int .i64 r0.length), (13, .int .i64 i)], tab := [] }) (fun i => 0 ≤ i) (fun i => r0.length - i.toNat)
        (fun i K => cond (N.samePs ((rowsP r0).drop i.toNat) ((rowsP r1).drop i.toNat)) (K (.exit 0) { fr := [], tab := [] }) (K .ret { fr := [(4, .bool false)], tab := [] })) (fun i hi => ?_) i (ile_of h3) K q (by assumption)
      by_cases hl : i < r0.length
      · rw [drop_pair (show i.toNat < r0.length by omega), drop_pair (show i.toNat < r1.length by omega), samePs_cons]
        cases hc : N.eqP (rowP (r0.getD i.toNat [])) (rowP (r1.getD i.toNat [])) with
        | true =>
          refine .inl ⟨i + 1, by omega, by omega, fun K => ?_, fun K => ?_⟩
          · rw [q_refSameR]
            unfold N.eqP rowP at hc
            simp (disch := omega) only [evs, hc, Bool.not_true]
          · rw [cond_true, show (i + 1).toNat = i.toNat + 1 by omega]
        | false =>
          refine .inr ⟨.ret, { fr := [(4, .bool false)], tab := [] }, by simp, fun K => ?_, fun K => rfl⟩
          rw [q_refSameR]
          unfold N.eqP rowP at hc
          simp (disch := omega) only [evs, hc, Bool.not_false]
      · refine .inr ⟨.exit 0, { fr := [], tab := [] }, by simp, fun K => ?_, fun K => ?_⟩
        · rw [q_refSameR]
          simp (disch := omega) only [evs]
        · rw [List.drop_eq_nil_of_le (by rw [rowsP_length]; omega), List.drop_eq_nil_of_le (by rw [rowsP_length]; omega)]; rfl
    · cases h
  · obtain ⟨a, b⟩ := a
    have h : a.length ≤ 1000000 := ble_of h
    refine (q_refSame a b).trans ?_
    show _ = some (⟨.bool (N.samePs a b), [], []⟩ : DRes)
    by_cases hl : a.length = b.length
    · simp (disch := omega) only [evs, pairs_enc, hl, List.drop_zero]
      cases N.samePs a b <;> rfl
    · rw [samePs_len a b hl]
      simp (disch := omega) only [evs]
def schLight : SSch := { fr := [(8, .slc [.str, .int .u8, .int .i64, .str]), (9, .int .i64), (10, .int .i64)], tab := [] }
def gLight : List Leaf → (Ex → St → Option R) → Option R
  | [.r r8, .i i9, .i i10], K => cond (i9 == r8.length) (cond (ile 0 i10) (cond (Nat.ble r8.length LIM) (cond (((rowsP r8).drop i10.toNat).all N.lightP) (K (.exit 0) { fr := [], tab := [] }) (K .ret { fr := [(2, .bool false)], tab := [] })) none) none) none
  | _, _ => none
noncomputable def eLight : Env := env Tryz.prog [] [(4, loopF schLight gLight)] [(4, [(0, [8, 9, 10]), (1, []), (1000, [2])])]
theorem q_light (h : List HPair) : evFn eLight 33 ((aOne (vSl cPair)).enc h) ([]) some =
 cond (ilt (12 : Int) (↑(List.length (List.map (fun p => [V.str (HPair.key p), V.int IntKind.u8 (HPair.kind p), V.int IntKind.i64 (HPair.num p), V.str (HPair.text p)]) h)) : Int)) (some { v := V.bool false, bx := [] : DRes }) (cond ((↑(List.length (List.map (fun p => [V.str (HPair.key p), V.int IntKind.u8 (HPair.kind p), V.int IntKind.i64 (HPair.num p), V.str (HPair.text p)]) h)) : Int) == (↑(List.length (List.map (fun p => [V.str (HPair.key p), V.int IntKind.u8 (HPair.kind p), V.int IntKind.i64 (HPair.num p), V.str (HPair.text p)]) h)) : Int)) (cond (Nat.ble (List.length (List.map (fun p => [V.str (HPair.key p), V.int IntKind.u8 (HPair.kind p), V.int IntKind.i64 (HPair.num p), V.str (HPair.text p)]) h)) (1000000 : Nat)) (cond (List.all (List.drop (0 : Nat) (List.map (fun r => { key := V.toStr (List.getD r (0 : Nat) V.undef), kind := V.toInt (List.getD r (1 : Nat) V.undef), num := V.toInt (List.getD r (2 : Nat) V.undef), text := V.toStr (List.getD r (3 : Nat) V.undef) : HPair }) (List.map (fun p => [V.str (HPair.key p), V.int IntKind.u8 (HPair.kind p), V.int IntKind.i64 (HPair.num p), V.str (HPair.text p)]) h))) N.lightP) (some { v := V.bool true, bx := [] : DRes }) (some { v := V.bool false, bx := [] : DRes })) (none)) (none)) := by kernel_rfl
theorem q_lightR (r8 : List (List V)) (i9 : Int) (i10 : Int) (K : Ex → St → Option R) : evRound eLight 33 4 { fr := [(8, .slc [.str, .int .u8, .int .i64, .str] r8), (9, .int .i64 i9), (10, .int .i64 i10)], tab := [] } K =
 cond (ilt i10 i9) (cond (decide ((0 : Int) ≤ i10 ∧ i10 < (↑(List.length r8) : Int))) (cond (ilt (40 : Int) (↑(List.length (V.toStr (List.getD (List.getD r8 (Int.toNat i10) []) (0 : Nat) V.undef))) : Int)) (K Ex.ret { fr := [((2 : Nat), V.bool false)], tab := [] : St }) (cond (ilt (100 : Int) (↑(List.length (V.toStr (List.getD (List.getD r8 (Int.toNat i10) []) (3 : Nat) V.undef))) : Int)) (K Ex.ret { fr := [((2 : Nat), V.bool false)], tab := [] : St }) (K Ex.normal { fr := [((8 : Nat), V.slc [Sh.str, Sh.int IntKind.u8, Sh.int IntKind.i64, Sh.str] r8), ((9 : Nat), V.int IntKind.i64 i9), ((10 : Nat), V.int IntKind.i64 (IntKind.wrap IntKind.i64 (i10 + (1 : Int))))], tab := [] : St }))) (none)) (K (Ex.exit (0 : Nat)) { fr := [], tab := [] : St }) := by kernel_rfl
theorem ok_light : FnOk Tryz.prog 33 dLight := by
  refine den_okF (env_ok (TOk.nil _)) (E := eLight) Tryz.func33 [4] (by kernel_rfl) (one1 (rounds_of rfl fun l K q h => ?_)) fun h _ _ => ?_
  · unfold gLight at h
    split at h
    · rename_i r n i
      have h1 := (cond_none h).1; replace h := (cond_none h).2; have h2 := (cond_none h).1; replace h := (cond_none h).2; have h3 := (cond_none h).1; replace h := (cond_none h).2
      have e1 := ieq_of h1
      subst e1
      have h3 : r.length ≤ 1000000 := ble_of h3
      refine loop_ind (E := eLight) (f := 33) (id := 4) (fun i : Int => { fr := [(8, .slc [.str, .int .u8, .int .i64, .str] r), (9, .int .i64 r.length), (10, .int .i64 i)], tab := [] }) (fun i => 0 ≤ i) (fun i => r.length - i.toNat)
        (fun i K => cond (((rowsP r).drop i.toNat).all N.lightP) (K (.exit 0) { fr := [], tab := [] }) (K .ret { fr := [(2, .bool false)], tab := [] })) (fun i hi => ?_) i (ile_of h2) K q (by assumption)
      by_cases hl : i < r.length
      · rw [drop_pair (show i.toNat < r.length by omega), List.all_cons]
        cases hc : N.lightP (rowP (r.getD i.toNat [])) with
        | true =>
          refine .inl ⟨i + 1, by omega, by omega, fun K => ?_, fun K => ?_⟩
          · rw [q_lightR]
            simp (disch := omega) only [evs]
            revert hc
            unfold N.lightP rowP
            cases ilt 40 (V.toStr (List.getD (List.getD r i.toNat []) 0 V.undef)).length <;> cases ilt 100 (V.toStr (List.getD (List.getD r i.toNat []) 3 V.undef)).length <;> intro hc <;> first | rfl | cases hc
          · rw [Bool.true_and, show (i + 1).toNat = i.toNat + 1 by omega]
        | false =>
          refine .inr ⟨.ret, { fr := [(2, .bool false)], tab := [] }, by simp, fun K => ?_, fun K => rfl⟩
          rw [q_lightR]
          simp (disch := omega) only [evs]
          revert hc
          unfold N.lightP rowP
          cases ilt 40 (V.toStr (List.getD (List.getD r i.toNat []) 0 V.undef)).length <;> cases ilt 100 (V.toStr (List.getD (List.getD r i.toNat []) 3 V.undef)).length <;> intro hc <;> first | rfl | cases hc
      · refine .inr ⟨.exit 0, { fr := [], tab := [] }, by simp, fun K => ?_, fun K => ?_⟩
        · rw [q_lightR]
          simp (disch := omega) only [evs]
        · rw [List.drop_eq_nil_of_le (by rw [rowsP_length]; omega)]; rfl
    · cases h
  · refine (q_light h).trans ?_
    show _ = some (⟨.bool (N.light h), [], []⟩ : DRes)
    unfold N.light
    by_cases hl : 12 < h.length
    · simp (disch := omega) only [evs]
    · simp (disch := omega) only [evs, pairs_enc, List.drop_zero]
      cases h.all N.lightP <;> rfl
noncomputable def eFindFn : Env := env Tryz.prog [] [] []
theorem q_findFn (p : HPair) (key : Bytes) : evFn eFindFn 170 ((aCons (vAgg cPair) (aOne (vPtr 0))).enc (p, ())) ((bOne rStr).enc key) some =
 some { v := V.bool (HPair.key p == key), bx := [[V.str key]] : DRes } := by kernel_rfl
theorem ok_findFn : FnOk Tryz.prog 170 dFindFn := den_okF (env_ok (TOk.nil _)) (E := eFindFn) Tryz.func170 [] (by kernel_rfl) none0 fun a key _ => q_findFn a.1 key
def schIxf : SSch := { fr := [(0, .slc [.str, .int .u8, .int .i64, .str]), (1, .fn 170 [] [.ptr 0 0 0]), (7, .int .i64), (8, .int .i64)], tab := [(0, .var [.str])] }
def gIxf : List Leaf → (Ex → St → Option R) → Option R
  | [.r r0, .i i7, .i i8, .s key], K => cond (i7 == r0.length) (cond (ile 0 i8) (cond (Nat.ble r0.length LIM)
      (cond (ile 0 (N.findIx key ((rowsP r0).drop i8.toNat) i8)) (K .ret { fr := [(4, .int .i64 (N.findIx key ((rowsP r0).drop i8.toNat) i8))], tab := [(0, .var [.str key])] }) (K (.exit 0) { fr := [], tab := [(0, .var [.str key])] })) none) none) none
  | _, _ => none
noncomputable def eIxf : Env := env Tryz.prog [(170, dFindFn)] [(2, loopF schIxf gIxf)] [(2, [(0, [0, 1, 7, 8]), (1, []), (1000, [4])])]
theorem q_ixf (h : List HPair) (key : Bytes) : evFn eIxf 169 ((aCons (vSl cPair) (aOne (vFn 170 0))).enc (h, ())) ((bOne rStr).enc key) some =
 cond ((↑(List.length (List.map (fun p => [V.str (HPair.key p), V.int IntKind.u8 (HPair.kind p), V.int IntKind.i64 (HPair.num p), V.str (HPair.text p)]) h)) : Int) == (↑(List.length (List.map (fun p => [V.str (HPair.key p), V.int IntKind.u8 (HPair.kind p), V.int IntKind.i64 (HPair.num p), V.str (HPair.text p)]) h)) : Int)) (cond (Nat.ble (List.length (List.map (fun p => [V.str (HPair.key p), V.int IntKind.u8 (HPair.kind p), V.int IntKind.i64 (HPair.num p), V.str (HPair.text p)]) h)) (1000000 : Nat)) (cond (ile (0 : Int) (N.findIx key (List.drop (0 : Nat) (List.map (fun r => { key := V.toStr (List.getD r (0 : Nat) V.undef), kind := V.toInt (List.getD r (1 : Nat) V.undef), num := V.toInt (List.getD r (2 : Nat) V.undef), text := V.toStr (List.getD r (3 : Nat) V.undef) : HPair }) (List.map (fun p => [V.str (HPair.key p), V.int IntKind.u8 (HPair.kind p), V.int IntKind.i64 (HPair.num p), V.str (HPair.text p)]) h))) (0 : Int))) (some { v := V.int IntKind.i64 (N.findIx key (List.drop (0 : Nat) (List.map (fun r => { key := V.toStr (List.getD r (0 : Nat) V.undef), kind := V.toInt (List.getD r (1 : Nat) V.undef), num := V.toInt (List.getD r (2 : Nat) V.undef), text := V.toStr (List.getD r (3 : Nat) V.undef) : HPair }) (List.map (fun p => [V.str (HPair.key p), V.int IntKind.u8 (HPair.kind p), V.int IntKind.i64 (HPair.num p), V.str (HPair.text p)]) h))) (0 : Int)), bx := [[V.str key]] : DRes }) (some { v := V.int IntKind.i64 (-1 : Int), bx := [[V.str key]] : DRes })) (none)) (none) := by kernel_rfl
theorem q_ixfR (r0 : List (List V)) (i7 : Int) (i8 : Int) (sx0 : Bytes) (K : Ex → St → Option R) : evRound eIxf 169 2 { fr := [(0, .slc [.str, .int .u8, .int .i64, .str] r0), (1, .fn 170 [] [.ptr 0 0 0 0]), (7, .int .i64 i7), (8, .int .i64 i8)], tab := [(0, .var [.str sx0])] } K =
 cond (ilt i8 i7) (cond (decide ((0 : Int) ≤ i8 ∧ i8 < (↑(List.length r0) : Int))) (cond (V.toStr (List.getD (List.getD r0 (Int.toNat i8) []) (0 : Nat) V.undef) == sx0) (K Ex.ret { fr := [((4 : Nat), V.int IntKind.i64 i8)], tab := [((0 : Nat), Box.var [V.str sx0])] : St }) (K Ex.normal { fr := [((0 : Nat), V.slc [Sh.str, Sh.int IntKind.u8, Sh.int IntKind.i64, Sh.str] r0), ((1 : Nat), V.fn 170 [] [V.ptr (0 : Nat) (0 : Nat) (0 : Nat) (0 : Nat)]), ((7 : Nat), V.int IntKind.i64 i7), ((8 : Nat), V.int IntKind.i64 (IntKind.wrap IntKind.i64 (i8 + (1 : Int))))], tab := [((0 : Nat), Box.var [V.str sx0])] : St })) (none)) (K (Ex.exit (0 : Nat)) { fr := [], tab := [((0 : Nat), Box.var [V.str sx0])] : St }) := by kernel_rfl
theorem ok_ixf : FnOk Tryz.prog 169 (dIndexFn 170) := by
  refine den_okF (env_ok ((TOk.nil _).cons ok_findFn)) (E := eIxf) Tryz.func169 [2] (by kernel_rfl) (one1 (rounds_of rfl fun l K q h => ?_)) fun a key h => ?_
  · unfold gIxf at h
    split at h
    · rename_i r n i key
      have h1 := (cond_none h).1; replace h := (cond_none h).2; have h2 := (cond_none h).1; replace h := (cond_none h).2; have h3 := (cond_none h).1; replace h := (cond_none h).2
      have e1 := ieq_of h1
      subst e1
      have h3 : r.length ≤ 1000000 := ble_of h3
      refine loop_ind (E := eIxf) (f := 169) (id := 2) (fun i : Int => { fr := [(0, .slc [.str, .int .u8, .int .i64, .str] r), (1, .fn 170 [] [.ptr 0 0 0 0]), (7, .int .i64 r.length), (8, .int .i64 i)], tab := [(0, .var [.str key])] }) (fun i => 0 ≤ i) (fun i => r.length - i.toNat)
        (fun i8 K => cond (ile 0 (N.findIx key ((rowsP r).drop i8.toNat) i8)) (K .ret { fr := [(4, .int .i64 (N.findIx key ((rowsP r).drop i8.toNat) i8))], tab := [(0, .var [.str key])] }) (K (.exit 0) { fr := [], tab := [(0, .var [.str key])] })) (fun i hi => ?_) i (ile_of h2) K q (by assumption)
      by_cases hl : i < r.length
      · rw [drop_pair (show i.toNat < r.length by omega)]
        have e : N.findIx key (rowP (r.getD i.toNat []) :: (rowsP r).drop (i.toNat + 1)) i = cond ((rowP (r.getD i.toNat [])).key == key) i (N.findIx key ((rowsP r).drop (i.toNat + 1)) (i + 1)) := rfl
        rw [e]
        cases hc : (rowP (r.getD i.toNat [])).key == key with
        | true =>
          rw [cond_true, ile_t hi]
          refine .inr ⟨.ret, _, by simp, fun K => ?_, fun K => rfl⟩
          rw [q_ixfR]
          unfold rowP at hc
          simp (disch := omega) only [evs, hc]
        | false =>
          refine .inl ⟨i + 1, by omega, by omega, fun K => ?_, fun K => ?_⟩
          · rw [q_ixfR]
            unfold rowP at hc
            simp (disch := omega) only [evs, hc]
          · rw [cond_false, show (i + 1).toNat = i.toNat + 1 by omega]
      · refine .inr ⟨.exit 0, { fr := [], tab := [(0, .var [.str key])] }, by simp, fun K => ?_, fun K => ?_⟩
        · rw [q_ixfR]
          simp (disch := omega) only [evs]
        · rw [List.drop_eq_nil_of_le (by rw [rowsP_length]; omega)]; rfl
    · cases h
  · obtain ⟨l, u⟩ := a
    have h : l.length ≤ 1000000 := ble_of h
    refine (q_ixf l key).trans ?_
    show _ = some (⟨.int .i64 (N.findIx key l 0), [[.str key]], []⟩ : DRes)
    simp (disch := omega) only [evs, pairs_enc, List.drop_zero]
    rcases findIx_lt key l 0 (Int.le_refl _) with e | ⟨e, _⟩
    · rw [e]; rfl
    · rw [ile_t e]; rfl
noncomputable def eFind : Env := env Tryz.prog [(169, dIndexFn 170)] [] []
theorem q_find (h : List HPair) (key : Bytes) : evFn eFind 155 ((aCons (vSl cPair) (aOne vStr)).enc (h, key)) ([]) some =
 cond (Nat.ble (List.length (List.map (fun r => { key := V.toStr (List.getD r (0 : Nat) V.undef), kind := V.toInt (List.getD r (1 : Nat) V.undef), num := V.toInt (List.getD r (2 : Nat) V.undef), text := V.toStr (List.getD r (3 : Nat) V.undef) : HPair }) (List.map (fun p => [V.str (HPair.key p), V.int IntKind.u8 (HPair.kind p), V.int IntKind.i64 (HPair.num p), V.str (HPair.text p)]) h))) (1000000 : Nat)) (cond (ilt (N.findIx key (List.map (fun r => { key := V.toStr (List.getD r (0 : Nat) V.undef), kind := V.toInt (List.getD r (1 : Nat) V.undef), num := V.toInt (List.getD r (2 : Nat) V.undef), text := V.toStr (List.getD r (3 : Nat) V.undef) : HPair }) (List.map (fun p => [V.str (HPair.key p), V.int IntKind.u8 (HPair.kind p), V.int IntKind.i64 (HPair.num p), V.str (HPair.text p)]) h)) (0 : Int)) (0 : Int)) (some { v := V.tup [V.agg [V.str [], V.int IntKind.u8 (0 : Int), V.int IntKind.i64 (0 : Int), V.str []], V.bool false], bx := [] : DRes }) (cond (decide ((0 : Int) ≤ N.findIx key (List.map (fun r => { key := V.toStr (List.getD r (0 : Nat) V.undef), kind := V.toInt (List.getD r (1 : Nat) V.undef), num := V.toInt (List.getD r (2 : Nat) V.undef), text := V.toStr (List.getD r (3 : Nat) V.undef) : HPair }) (List.map (fun p => [V.str (HPair.key p), V.int IntKind.u8 (HPair.kind p), V.int IntKind.i64 (HPair.num p), V.str (HPair.text p)]) h)) (0 : Int) ∧ N.findIx key (List.map (fun r => { key := V.toStr (List.getD r (0 : Nat) V.undef), kind := V.toInt (List.getD r (1 : Nat) V.undef), num := V.toInt (List.getD r (2 : Nat) V.undef), text := V.toStr (List.getD r (3 : Nat) V.undef) : HPair }) (List.map (fun p => [V.str (HPair.key p), V.int IntKind.u8 (HPair.kind p), V.int IntKind.i64 (HPair.num p), V.str (HPair.text p)]) h)) (0 : Int) < (↑(List.length (List.map (fun p => [V.str (HPair.key p), V.int IntKind.u8 (HPair.kind p), V.int IntKind.i64 (HPair.num p), V.str (HPair.text p)]) h)) : Int))) (some { v := V.tup [V.agg [V.str (V.toStr (List.getD (List.getD (List.map (fun p => [V.str (HPair.key p), V.int IntKind.u8 (HPair.kind p), V.int IntKind.i64 (HPair.num p), V.str (HPair.text p)]) h) (Int.toNat (N.findIx key (List.map (fun r => { key := V.toStr (List.getD r (0 : Nat) V.undef), kind := V.toInt (List.getD r (1 : Nat) V.undef), num := V.toInt (List.getD r (2 : Nat) V.undef), text := V.toStr (List.getD r (3 : Nat) V.undef) : HPair }) (List.map (fun p => [V.str (HPair.key p), V.int IntKind.u8 (HPair.kind p), V.int IntKind.i64 (HPair.num p), V.str (HPair.text p)]) h)) (0 : Int))) []) (0 : Nat) V.undef)), V.int IntKind.u8 (V.toInt (List.getD (List.getD (List.map (fun p => [V.str (HPair.key p), V.int IntKind.u8 (HPair.kind p), V.int IntKind.i64 (HPair.num p), V.str (HPair.text p)]) h) (Int.toNat (N.findIx key (List.map (fun r => { key := V.toStr (List.getD r (0 : Nat) V.undef), kind := V.toInt (List.getD r (1 : Nat) V.undef), num := V.toInt (List.getD r (2 : Nat) V.undef), text := V.toStr (List.getD r (3 : Nat) V.undef) : HPair }) (List.map (fun p => [V.str (HPair.key p), V.int IntKind.u8 (HPair.kind p), V.int IntKind.i64 (HPair.num p), V.str (HPair.text p)]) h)) (0 : Int))) []) (1 : Nat) V.undef)), V.int IntKind.i64 (V.toInt (List.getD (List.getD (List.map (fun p => [V.str (HPair.key p), V.int IntKind.u8 (HPair.kind p), V.int IntKind.i64 (HPair.num p), V.str (HPair.text p)]) h) (Int.toNat (N.findIx key (List.map (fun r => { key := V.toStr (List.getD r (0 : Nat) V.undef), kind := V.toInt (List.getD r (1 : Nat) V.undef), num := V.toInt (List.getD r (2 : Nat) V.undef), text := V.toStr (List.getD r (3 : Nat) V.undef) : HPair }) (List.map (fun p => [V.str (HPair.key p), V.int IntKind.u8 (HPair.kind p), V.int IntKind.i64 (HPair.num p), V.str (HPair.text p)]) h)) (0 : Int))) []) (2 : Nat) V.undef)), V.str (V.toStr (List.getD (List.getD (List.map (fun p => [V.str (HPair.key p), V.int IntKind.u8 (HPair.kind p), V.int IntKind.i64 (HPair.num p), V.str (HPair.text p)]) h) (Int.toNat (N.findIx key (List.map (fun r => { key := V.toStr (List.getD r (0 : Nat) V.undef), kind := V.toInt (List.getD r (1 : Nat) V.undef), num := V.toInt (List.getD r (2 : Nat) V.undef), text := V.toStr (List.getD r (3 : Nat) V.undef) : HPair }) (List.map (fun p => [V.str (HPair.key p), V.int IntKind.u8 (HPair.kind p), V.int IntKind.i64 (HPair.num p), V.str (HPair.text p)]) h)) (0 : Int))) []) (3 : Nat) V.undef))], V.bool true], bx := [] : DRes }) (none))) (none) := by kernel_rfl
theorem ok_find : FnOk Tryz.prog 155 dFind := by
  refine den_okF (env_ok ((TOk.nil _).cons ok_ixf)) (E := eFind) Tryz.func155 [] (by kernel_rfl) none0 fun a _ h => ?_
  obtain ⟨l, key⟩ := a
  have h : l.length ≤ 1000000 := ble_of h
  refine (q_find l key).trans ?_
  show _ = some (⟨.tup [.agg [.str (N.find l key).1.key, .int .u8 (N.find l key).1.kind, .int .i64 (N.find l key).1.num, .str (N.find l key).1.text], .bool (N.find l key).2], [], []⟩ : DRes)
  unfold N.find
  simp (disch := omega) only [evs, pairs_enc, pairs_get]
  rcases findIx_lt key l 0 (Int.le_refl _) with e | ⟨e1, e2⟩
  · rw [e]; rfl
  · simp (disch := omega) only [evs]
noncomputable def ePairE : Env := env Tryz.prog [(118, dName), (155, dFind)] [] []
theorem q_pairE (p : HPair) (l : List HPair) : evFn ePairE 167 ((aCons (vAgg cPair) (aOne (vSl cPair))).enc (p, l)) ([]) some =
 cond (N.name (HPair.key p) != (0 : Int)) (some { v := V.int IntKind.i64 (N.name (HPair.key p)), bx := [] : DRes }) (cond (Nat.ble (List.length (List.map (fun r => { key := V.toStr (List.getD r (0 : Nat) V.undef), kind := V.toInt (List.getD r (1 : Nat) V.undef), num := V.toInt (List.getD r (2 : Nat) V.undef), text := V.toStr (List.getD r (3 : Nat) V.undef) : HPair }) (List.map (fun p => [V.str (HPair.key p), V.int IntKind.u8 (HPair.kind p), V.int IntKind.i64 (HPair.num p), V.str (HPair.text p)]) l))) (1000000 : Nat)) (cond (ilt (2 : Int) (HPair.kind p)) (some { v := V.int IntKind.i64 (8 : Int), bx := [] : DRes }) (cond (HPair.kind p == (1 : Int)) (cond (ilt (64 : Int) (↑(List.length (HPair.text p)) : Int)) (some { v := V.int IntKind.i64 (5 : Int), bx := [] : DRes }) (cond (HPair.kind p == (2 : Int)) (cond (HPair.num p != (0 : Int)) (cond (HPair.num p != (1 : Int)) (some { v := V.int IntKind.i64 (7 : Int), bx := [] : DRes }) (cond (HPair.kind p == (1 : Int)) (cond (HPair.num p != (0 : Int)) (cond (HPair.num p != (0 : Int)) (some { v := V.int IntKind.i64 (4 : Int), bx := [] : DRes }) (cond (Prod.snd (N.find (List.map (fun r => { key := V.toStr (List.getD r (0 : Nat) V.undef), kind := V.toInt (List.getD r (1 : Nat) V.undef), num := V.toInt (List.getD r (2 : Nat) V.undef), text := V.toStr (List.getD r (3 : Nat) V.undef) : HPair }) (List.map (fun p => [V.str (HPair.key p), V.int IntKind.u8 (HPair.kind p), V.int IntKind.i64 (HPair.num p), V.str (HPair.text p)]) l)) (HPair.key p))) (some { v := V.int IntKind.i64 (9 : Int), bx := [] : DRes }) (some { v := V.int IntKind.i64 (0 : Int), bx := [] : DRes }))) (cond (HPair.kind p != (1 : Int)) (cond (!HPair.text p == []) (some { v := V.int IntKind.i64 (4 : Int), bx := [] : DRes }) (cond (Prod.snd (N.find (List.map (fun r => { key := V.toStr (List.getD r (0 : Nat) V.undef), kind := V.toInt (List.getD r (1 : Nat) V.undef), num := V.toInt (List.getD r (2 : Nat) V.undef), text := V.toStr (List.getD r (3 : Nat) V.undef) : HPair }) (List.map (fun p => [V.str (HPair.key p), V.int IntKind.u8 (HPair.kind p), V.int IntKind.i64 (HPair.num p), V.str (HPair.text p)]) l)) (HPair.key p))) (some { v := V.int IntKind.i64 (9 : Int), bx := [] : DRes }) (some { v := V.int IntKind.i64 (0 : Int), bx := [] : DRes }))) (cond (Prod.snd (N.find (List.map (fun r => { key := V.toStr (List.getD r (0 : Nat) V.undef), kind := V.toInt (List.getD r (1 : Nat) V.undef), num := V.toInt (List.getD r (2 : Nat) V.undef), text := V.toStr (List.getD r (3 : Nat) V.undef) : HPair }) (List.map (fun p => [V.str (HPair.key p), V.int IntKind.u8 (HPair.kind p), V.int IntKind.i64 (HPair.num p), V.str (HPair.text p)]) l)) (HPair.key p))) (some { v := V.int IntKind.i64 (9 : Int), bx := [] : DRes }) (some { v := V.int IntKind.i64 (0 : Int), bx := [] : DRes })))) (cond (HPair.kind p != (1 : Int)) (cond (!HPair.text p == []) (some { v := V.int IntKind.i64 (4 : Int), bx := [] : DRes }) (cond (Prod.snd (N.find (List.map (fun r => { key := V.toStr (List.getD r (0 : Nat) V.undef), kind := V.toInt (List.getD r (1 : Nat) V.undef), num := V.toInt (List.getD r (2 : Nat) V.undef), text := V.toStr (List.getD r (3 : Nat) V.undef) : HPair }) (List.map (fun p => [V.str (HPair.key p), V.int IntKind.u8 (HPair.kind p), V.int IntKind.i64 (HPair.num p), V.str (HPair.text p)]) l)) (HPair.key p))) (some { v := V.int IntKind.i64 (9 : Int), bx := [] : DRes }) (some { v := V.int IntKind.i64 (0 : Int), bx := [] : DRes }))) (cond (Prod.snd (N.find (List.map (fun r => { key := V.toStr (List.getD r (0 : Nat) V.undef), kind := V.toInt (List.getD r (1 : Nat) V.undef), num := V.toInt (List.getD r (2 : Nat) V.undef), text := V.toStr (List.getD r (3 : Nat) V.undef) : HPair }) (List.map (fun p => [V.str (HPair.key p), V.int IntKind.u8 (HPair.kind p), V.int IntKind.i64 (HPair.num p), V.str (HPair.text p)]) l)) (HPair.key p))) (some { v := V.int IntKind.i64 (9 : Int), bx := [] : DRes }) (some { v := V.int IntKind.i64 (0 : Int), bx := [] : DRes }))))) (cond (HPair.kind p == (1 : Int)) (cond (HPair.num p != (0 : Int)) (cond (HPair.num p != (0 : Int)) (some { v := V.int IntKind.i64 (4 : Int), bx := [] : DRes }) (cond (Prod.snd (N.find (List.map (fun r => { key := V.toStr (List.getD r (0 : Nat) V.undef), kind := V.toInt (List.getD r (1 : Nat) V.undef), num := V.toInt (List.getD r (2 : Nat) V.undef), text := V.toStr (List.getD r (3 : Nat) V.undef) : HPair }) (List.map (fun p => [V.str (HPair.key p), V.int IntKind.u8 (HPair.kind p), V.int IntKind.i64 (HPair.num p), V.str (HPair.text p)]) l)) (HPair.key p))) (some { v := V.int IntKind.i64 (9 : Int), bx := [] : DRes }) (some { v := V.int IntKind.i64 (0 : Int), bx := [] : DRes }))) (cond (HPair.kind p != (1 : Int)) (cond (!HPair.text p == []) (some { v := V.int IntKind.i64 (4 : Int), bx := [] : DRes }) (cond (Prod.snd (N.find (List.map (fun r => { key := V.toStr (List.getD r (0 : Nat) V.undef), kind := V.toInt (List.getD r (1 : Nat) V.undef), num := V.toInt (List.getD r (2 : Nat) V.undef), text := V.toStr (List.getD r (3 : Nat) V.undef) : HPair }) (List.map (fun p => [V.str (HPair.key p), V.int IntKind.u8 (HPair.kind p), V.int IntKind.i64 (HPair.num p), V.str (HPair.text p)]) l)) (HPair.key p))) (some { v := V.int IntKind.i64 (9 : Int), bx := [] : DRes }) (some { v := V.int IntKind.i64 (0 : Int), bx := [] : DRes }))) (cond (Prod.snd (N.find (List.map (fun r => { key := V.toStr (List.getD r (0 : Nat) V.undef), kind := V.toInt (List.getD r (1 : Nat) V.undef), num := V.toInt (List.getD r (2 : Nat) V.undef), text := V.toStr (List.getD r (3 : Nat) V.undef) : HPair }) (List.map (fun p => [V.str (HPair.key p), V.int IntKind.u8 (HPair.kind p), V.int IntKind.i64 (HPair.num p), V.str (HPair.text p)]) l)) (HPair.key p))) (some { v := V.int IntKind.i64 (9 : Int), bx := [] : DRes }) (some { v := V.int IntKind.i64 (0 : Int), bx := [] : DRes })))) (cond (HPair.kind p != (1 : Int)) (cond (!HPair.text p == []) (some { v := V.int IntKind.i64 (4 : Int), bx := [] : DRes }) (cond (Prod.snd (N.find (List.map (fun r => { key := V.toStr (List.getD r (0 : Nat) V.undef), kind := V.toInt (List.getD r (1 : Nat) V.undef), num := V.toInt (List.getD r (2 : Nat) V.undef), text := V.toStr (List.getD r (3 : Nat) V.undef) : HPair }) (List.map (fun p => [V.str (HPair.key p), V.int IntKind.u8 (HPair.kind p), V.int IntKind.i64 (HPair.num p), V.str (HPair.text p)]) l)) (HPair.key p))) (some { v := V.int IntKind.i64 (9 : Int), bx := [] : DRes }) (some { v := V.int IntKind.i64 (0 : Int), bx := [] : DRes }))) (cond (Prod.snd (N.find (List.map (fun r => { key := V.toStr (List.getD r (0 : Nat) V.undef), kind := V.toInt (List.getD r (1 : Nat) V.undef), num := V.toInt (List.getD r (2 : Nat) V.undef), text := V.toStr (List.getD r (3 : Nat) V.undef) : HPair }) (List.map (fun p => [V.str (HPair.key p), V.int IntKind.u8 (HPair.kind p), V.int IntKind.i64 (HPair.num p), V.str (HPair.text p)]) l)) (HPair.key p))) (some { v := V.int IntKind.i64 (9 : Int), bx := [] : DRes }) (some { v := V.int IntKind.i64 (0 : Int), bx := [] : DRes }))))) (cond (HPair.kind p == (1 : Int)) (cond (HPair.num p != (0 : Int)) (cond (HPair.num p != (0 : Int)) (some { v := V.int IntKind.i64 (4 : Int), bx := [] : DRes }) (cond (Prod.snd (N.find (List.map (fun r => { key := V.toStr (List.getD r (0 : Nat) V.undef), kind := V.toInt (List.getD r (1 : Nat) V.undef), num := V.toInt (List.getD r (2 : Nat) V.undef), text := V.toStr (List.getD r (3 : Nat) V.undef) : HPair }) (List.map (fun p => [V.str (HPair.key p), V.int IntKind.u8 (HPair.kind p), V.int IntKind.i64 (HPair.num p), V.str (HPair.text p)]) l)) (HPair.key p))) (some { v := V.int IntKind.i64 (9 : Int), bx := [] : DRes }) (some { v := V.int IntKind.i64 (0 : Int), bx := [] : DRes }))) (cond (HPair.kind p != (1 : Int)) (cond (!HPair.text p == []) (some { v := V.int IntKind.i64 (4 : Int), bx := [] : DRes }) (cond (Prod.snd (N.find (List.map (fun r => { key := V.toStr (List.getD r (0 : Nat) V.undef), kind := V.toInt (List.getD r (1 : Nat) V.undef), num := V.toInt (List.getD r (2 : Nat) V.undef), text := V.toStr (List.getD r (3 : Nat) V.undef) : HPair }) (List.map (fun p => [V.str (HPair.key p), V.int IntKind.u8 (HPair.kind p), V.int IntKind.i64 (HPair.num p), V.str (HPair.text p)]) l)) (HPair.key p))) (some { v := V.int IntKind.i64 (9 : Int), bx := [] : DRes }) (some { v := V.int IntKind.i64 (0 : Int), bx := [] : DRes }))) (cond (Prod.snd (N.find (List.map (fun r => { key := V.toStr (List.getD r (0 : Nat) V.undef), kind := V.toInt (List.getD r (1 : Nat) V.undef), num := V.toInt (List.getD r (2 : Nat) V.undef), text := V.toStr (List.getD r (3 : Nat) V.undef) : HPair }) (List.map (fun p => [V.str (HPair.key p), V.int IntKind.u8 (HPair.kind p), V.int IntKind.i64 (HPair.num p), V.str (HPair.text p)]) l)) (HPair.key p))) (some { v := V.int IntKind.i64 (9 : Int), bx := [] : DRes }) (some { v := V.int IntKind.i64 (0 : Int), bx := [] : DRes })))) (cond (HPair.kind p != (1 : Int)) (cond (!HPair.text p == []) (some { v := V.int IntKind.i64 (4 : Int), bx := [] : DRes }) (cond (Prod.snd (N.find (List.map (fun r => { key := V.toStr (List.getD r (0 : Nat) V.undef), kind := V.toInt (List.getD r (1 : Nat) V.undef), num := V.toInt (List.getD r (2 : Nat) V.undef), text := V.toStr (List.getD r (3 : Nat) V.undef) : HPair }) (List.map (fun p => [V.str (HPair.key p), V.int IntKind.u8 (HPair.kind p), V.int IntKind.i64 (HPair.num p), V.str (HPair.text p)]) l)) (HPair.key p))) (some { v := V.int IntKind.i64 (9 : Int), bx := [] : DRes }) (some { v := V.int IntKind.i64 (0 : Int), bx := [] : DRes }))) (cond (Prod.snd (N.find (List.map (fun r => { key := V.toStr (List.getD r (0 : Nat) V.undef), kind := V.toInt (List.getD r (1 : Nat) V.undef), num := V.toInt (List.getD r (2 : Nat) V.undef), text := V.toStr (List.getD r (3 : Nat) V.undef) : HPair }) (List.map (fun p => [V.str (HPair.key p), V.int IntKind.u8 (HPair.kind p), V.int IntKind.i64 (HPair.num p), V.str (HPair.text p)]) l)) (HPair.key p))) (some { v := V.int IntKind.i64 (9 : Int), bx := [] : DRes }) (some { v := V.int IntKind.i64 (0 : Int), bx := [] : DRes })))))) (cond (HPair.kind p == (2 : Int)) (cond (HPair.num p != (0 : Int)) (cond (HPair.num p != (1 : Int)) (some { v := V.int IntKind.i64 (7 : Int), bx := [] : DRes }) (cond (HPair.kind p == (1 : Int)) (cond (HPair.num p != (0 : Int)) (cond (HPair.num p != (0 : Int)) (some { v := V.int IntKind.i64 (4 : Int), bx := [] : DRes }) (cond (Prod.snd (N.find (List.map (fun r => { key := V.toStr (List.getD r (0 : Nat) V.undef), kind := V.toInt (List.getD r (1 : Nat) V.undef), num := V.toInt (List.getD r (2 : Nat) V.undef), text := V.toStr (List.getD r (3 : Nat) V.undef) : HPair }) (List.map (fun p => [V.str (HPair.key p), V.int IntKind.u8 (HPair.kind p), V.int IntKind.i64 (HPair.num p), V.str (HPair.text p)]) l)) (HPair.key p))) (some { v := V.int IntKind.i64 (9 : Int), bx := [] : DRes }) (some { v := V.int IntKind.i64 (0 : Int), bx := [] : DRes }))) (cond (HPair.kind p != (1 : Int)) (cond (!HPair.text p == []) (some { v := V.int IntKind.i64 (4 : Int), bx := [] : DRes }) (cond (Prod.snd (N.find (List.map (fun r => { key := V.toStr (List.getD r (0 : Nat) V.undef), kind := V.toInt (List.getD r (1 : Nat) V.undef), num := V.toInt (List.getD r (2 : Nat) V.undef), text := V.toStr (List.getD r (3 : Nat) V.undef) : HPair }) (List.map (fun p => [V.str (HPair.key p), V.int IntKind.u8 (HPair.kind p), V.int IntKind.i64 (HPair.num p), V.str (HPair.text p)]) l)) (HPair.key p))) (some { v := V.int IntKind.i64 (9 : Int), bx := [] : DRes }) (some { v := V.int IntKind.i64 (0 : Int), bx := [] : DRes }))) (cond (Prod.snd (N.find (List.map (fun r => { key := V.toStr (List.getD r (0 : Nat) V.undef), kind := V.toInt (List.getD r (1 : Nat) V.undef), num := V.toInt (List.getD r (2 : Nat) V.undef), text := V.toStr (List.getD r (3 : Nat) V.undef) : HPair }) (List.map (fun p => [V.str (HPair.key p), V.int IntKind.u8 (HPair.kind p), V.int IntKind.i64 (HPair.num p), V.str (HPair.text p)]) l)) (HPair.key p))) (some { v := V.int IntKind.i64 (9 : Int), bx := [] : DRes }) (some { v := V.int IntKind.i64 (0 : Int), bx := [] : DRes })))) (cond (HPair.kind p != (1 : Int)) (cond (!HPair.text p == []) (some { v := V.int IntKind.i64 (4 : Int), bx := [] : DRes }) (cond (Prod.snd (N.find (List.map (fun r => { key := V.toStr (List.getD r (0 : Nat) V.undef), kind := V.toInt (List.getD r (1 : Nat) V.undef), num := V.toInt (List.getD r (2 : Nat) V.undef), text := V.toStr (List.getD r (3 : Nat) V.undef) : HPair }) (List.map (fun p => [V.str (HPair.key p), V.int IntKind.u8 (HPair.kind p), V.int IntKind.i64 (HPair.num p), V.str (HPair.text p)]) l)) (HPair.key p))) (some { v := V.int IntKind.i64 (9 : Int), bx := [] : DRes }) (some { v := V.int IntKind.i64 (0 : Int), bx := [] : DRes }))) (cond (Prod.snd (N.find (List.map (fun r => { key := V.toStr (List.getD r (0 : Nat) V.undef), kind := V.toInt (List.getD r (1 : Nat) V.undef), num := V.toInt (List.getD r (2 : Nat) V.undef), text := V.toStr (List.getD r (3 : Nat) V.undef) : HPair }) (List.map (fun p => [V.str (HPair.key p), V.int IntKind.u8 (HPair.kind p), V.int IntKind.i64 (HPair.num p), V.str (HPair.text p)]) l)) (HPair.key p))) (some { v := V.int IntKind.i64 (9 : Int), bx := [] : DRes }) (some { v := V.int IntKind.i64 (0 : Int), bx := [] : DRes }))))) (cond (HPair.kind p == (1 : Int)) (cond (HPair.num p != (0 : Int)) (cond (HPair.num p != (0 : Int)) (some { v := V.int IntKind.i64 (4 : Int), bx := [] : DRes }) (cond (Prod.snd (N.find (List.map (fun r => { key := V.toStr (List.getD r (0 : Nat) V.undef), kind := V.toInt (List.getD r (1 : Nat) V.undef), num := V.toInt (List.getD r (2 : Nat) V.undef), text := V.toStr (List.getD r (3 : Nat) V.undef) : HPair }) (List.map (fun p => [V.str (HPair.key p), V.int IntKind.u8 (HPair.kind p), V.int IntKind.i64 (HPair.num p), V.str (HPair.text p)]) l)) (HPair.key p))) (some { v := V.int IntKind.i64 (9 : Int), bx := [] : DRes }) (some { v := V.int IntKind.i64 (0 : Int), bx := [] : DRes }))) (cond (HPair.kind p != (1 : Int)) (cond (!HPair.text p == []) (some { v := V.int IntKind.i64 (4 : Int), bx := [] : DRes }) (cond (Prod.snd (N.find (List.map (fun r => { key := V.toStr (List.getD r (0 : Nat) V.undef), kind := V.toInt (List.getD r (1 : Nat) V.undef), num := V.toInt (List.getD r (2 : Nat) V.undef), text := V.toStr (List.getD r (3 : Nat) V.undef) : HPair }) (List.map (fun p => [V.str (HPair.key p), V.int IntKind.u8 (HPair.kind p), V.int IntKind.i64 (HPair.num p), V.str (HPair.text p)]) l)) (HPair.key p))) (some { v := V.int IntKind.i64 (9 : Int), bx := [] : DRes }) (some { v := V.int IntKind.i64 (0 : Int), bx := [] : DRes }))) (cond (Prod.snd (N.find (List.map (fun r => { key := V.toStr (List.getD r (0 : Nat) V.undef), kind := V.toInt (List.getD r (1 : Nat) V.undef), num := V.toInt (List.getD r (2 : Nat) V.undef), text := V.toStr (List.getD r (3 : Nat) V.undef) : HPair }) (List.map (fun p => [V.str (HPair.key p), V.int IntKind.u8 (HPair.kind p), V.int IntKind.i64 (HPair.num p), V.str (HPair.text p)]) l)) (HPair.key p))) (some { v := V.int IntKind.i64 (9 : Int), bx := [] : DRes }) (some { v := V.int IntKind.i64 (0 : Int), bx := [] : DRes })))) (cond (HPair.kind p != (1 : Int)) (cond (!HPair.text p == []) (some { v := V.int IntKind.i64 (4 : Int), bx := [] : DRes }) (cond (Prod.snd (N.find (List.map (fun r => { key := V.toStr (List.getD r (0 : Nat) V.undef), kind := V.toInt (List.getD r (1 : Nat) V.undef), num := V.toInt (List.getD r (2 : Nat) V.undef), text := V.toStr (List.getD r (3 : Nat) V.undef) : HPair }) (List.map (fun p => [V.str (HPair.key p), V.int IntKind.u8 (HPair.kind p), V.int IntKind.i64 (HPair.num p), V.str (HPair.text p)]) l)) (HPair.key p))) (some { v := V.int IntKind.i64 (9 : Int), bx := [] : DRes }) (some { v := V.int IntKind.i64 (0 : Int), bx := [] : DRes }))) (cond (Prod.snd (N.find (List.map (fun r => { key := V.toStr (List.getD r (0 : Nat) V.undef), kind := V.toInt (List.getD r (1 : Nat) V.undef), num := V.toInt (List.getD r (2 : Nat) V.undef), text := V.toStr (List.getD r (3 : Nat) V.undef) : HPair }) (List.map (fun p => [V.str (HPair.key p), V.int IntKind.u8 (HPair.kind p), V.int IntKind.i64 (HPair.num p), V.str (HPair.text p)]) l)) (HPair.key p))) (some { v := V.int IntKind.i64 (9 : Int), bx := [] : DRes }) (some { v := V.int IntKind.i64 (0 : Int), bx := [] : DRes }))))) (cond (HPair.kind p == (1 : Int)) (cond (HPair.num p != (0 : Int)) (cond (HPair.num p != (0 : Int)) (some { v := V.int IntKind.i64 (4 : Int), bx := [] : DRes }) (cond (Prod.snd (N.find (List.map (fun r => { key := V.toStr (List.getD r (0 : Nat) V.undef), kind := V.toInt (List.getD r (1 : Nat) V.undef), num := V.toInt (List.getD r (2 : Nat) V.undef), text := V.toStr (List.getD r (3 : Nat) V.undef) : HPair }) (List.map (fun p => [V.str (HPair.key p), V.int IntKind.u8 (HPair.kind p), V.int IntKind.i64 (HPair.num p), V.str (HPair.text p)]) l)) (HPair.key p))) (some { v := V.int IntKind.i64 (9 : Int), bx := [] : DRes }) (some { v := V.int IntKind.i64 (0 : Int), bx := [] : DRes }))) (cond (HPair.kind p != (1 : Int)) (cond (!HPair.text p == []) (some { v := V.int IntKind.i64 (4 : Int), bx := [] : DRes }) (cond (Prod.snd (N.find (List.map (fun r => { key := V.toStr (List.getD r (0 : Nat) V.undef), kind := V.toInt (List.getD r (1 : Nat) V.undef), num := V.toInt (List.getD r (2 : Nat) V.undef), text := V.toStr (List.getD r (3 : Nat) V.undef) : HPair }) (List.map (fun p => [V.str (HPair.key p), V.int IntKind.u8 (HPair.kind p), V.int IntKind.i64 (HPair.num p), V.str (HPair.text p)]) l)) (HPair.key p))) (some { v := V.int IntKind.i64 (9 : Int), bx := [] : DRes }) (some { v := V.int IntKind.i64 (0 : Int), bx := [] : DRes }))) (cond (Prod.snd (N.find (List.map (fun r => { key := V.toStr (List.getD r (0 : Nat) V.undef), kind := V.toInt (List.getD r (1 : Nat) V.undef), num := V.toInt (List.getD r (2 : Nat) V.undef), text := V.toStr (List.getD r (3 : Nat) V.undef) : HPair }) (List.map (fun p => [V.str (HPair.key p), V.int IntKind.u8 (HPair.kind p), V.int IntKind.i64 (HPair.num p), V.str (HPair.text p)]) l)) (HPair.key p))) (some { v := V.int IntKind.i64 (9 : Int), bx := [] : DRes }) (some { v := V.int IntKind.i64 (0 : Int), bx := [] : DRes })))) (cond (HPair.kind p != (1 : Int)) (cond (!HPair.text p == []) (some { v := V.int IntKind.i64 (4 : Int), bx := [] : DRes }) (cond (Prod.snd (N.find (List.map (fun r => { key := V.toStr (List.getD r (0 : Nat) V.undef), kind := V.toInt (List.getD r (1 : Nat) V.undef), num := V.toInt (List.getD r (2 : Nat) V.undef), text := V.toStr (List.getD r (3 : Nat) V.undef) : HPair }) (List.map (fun p => [V.str (HPair.key p), V.int IntKind.u8 (HPair.kind p), V.int IntKind.i64 (HPair.num p), V.str (HPair.text p)]) l)) (HPair.key p))) (some { v := V.int IntKind.i64 (9 : Int), bx := [] : DRes }) (some { v := V.int IntKind.i64 (0 : Int), bx := [] : DRes }))) (cond (Prod.snd (N.find (List.map (fun r => { key := V.toStr (List.getD r (0 : Nat) V.undef), kind := V.toInt (List.getD r (1 : Nat) V.undef), num := V.toInt (List.getD r (2 : Nat) V.undef), text := V.toStr (List.getD r (3 : Nat) V.undef) : HPair }) (List.map (fun p => [V.str (HPair.key p), V.int IntKind.u8 (HPair.kind p), V.int IntKind.i64 (HPair.num p), V.str (HPair.text p)]) l)) (HPair.key p))) (some { v := V.int IntKind.i64 (9 : Int), bx := [] : DRes }) (some { v := V.int IntKind.i64 (0 : Int), bx := [] : DRes }))))))) (none)) := by kernel_rfl
theorem ok_pairE : FnOk Tryz.prog 167 dPairE := by
  refine den_okF (env_ok (((TOk.nil _).cons ok_find).cons ok_name)) (E := ePairE) Tryz.func167 [] (by kernel_rfl) none0 fun a _ h => ?_
  obtain ⟨p, l⟩ := a
  have h : l.length ≤ 1000000 := ble_of h
  refine (q_pairE p l).trans ?_
  show _ = some (⟨.int .i64 (N.pairE p l), [], []⟩ : DRes)
  unfold N.pairE
  simp (disch := omega) only [evs, pairs_enc, bne]
  cases N.name p.key == 0 with
  | false => rfl
  | true =>
    cases ilt 2 p.kind with
    | true => rfl
    | false =>
      cases h1 : p.kind == 1 <;> cases ilt 64 p.text.length <;> cases p.kind == 2 <;> cases p.num == 0 <;> cases p.num == 1 <;> cases p.text == [] <;> cases (N.find l p.key).2 <;> rfl
def schHeadCheck : SSch := { fr := [(0, .slc [.str, .int .u8, .int .i64, .str]), (9, .slc [.str, .int .u8, .int .i64, .str]), (10, .int .i64), (11, .int .i64)], tab := [] }
def gHeadCheck : List Leaf → (Ex → St → Option R) → Option R
  | [.r r0, .r r9, .i i10, .i i11], K => cond (i10 == r9.length) (cond (Nat.beq r0.length r9.length) (cond (ile 0 i11) (cond (Nat.ble r0.length LIM) (cond (N.samePs (rowsP r0) (rowsP r9))
      (cond (N.checkFrom (rowsP r9) (r9.length - i11.toNat) i11 != 0) (K .ret { fr := [(2, .int .i64 (N.checkFrom (rowsP r9) (r9.length - i11.toNat) i11))], tab := [] }) (K (.exit 0) { fr := [], tab := [] })) none) none) none) none) none
  | _, _ => none
noncomputable def eHeadCheck : Env := env Tryz.prog [(167, dPairE)] [(4, loopF schHeadCheck gHeadCheck)] [(4, [(0, [0, 9, 10, 11]), (1, []), (1000, [2])])]
theorem q_headCheck (h : List HPair) : evFn eHeadCheck 151 ((aOne (vSl cPair)).enc h) ([]) some =
 cond (ilt (8 : Int) (↑(List.length (List.map (fun p => [V.str (HPair.key p), V.int IntKind.u8 (HPair.kind p), V.int IntKind.i64 (HPair.num p), V.str (HPair.text p)]) h)) : Int)) (some { v := V.int IntKind.i64 (6 : Int), bx := [] : DRes }) (cond ((↑(List.length (List.map (fun p => [V.str (HPair.key p), V.int IntKind.u8 (HPair.kind p), V.int IntKind.i64 (HPair.num p), V.str (HPair.text p)]) h)) : Int) == (↑(List.length (List.map (fun p => [V.str (HPair.key p), V.int IntKind.u8 (HPair.kind p), V.int IntKind.i64 (HPair.num p), V.str (HPair.text p)]) h)) : Int)) (cond (Nat.beq (List.length (List.map (fun p => [V.str (HPair.key p), V.int IntKind.u8 (HPair.kind p), V.int IntKind.i64 (HPair.num p), V.str (HPair.text p)]) h)) (List.length (List.map (fun p => [V.str (HPair.key p), V.int IntKind.u8 (HPair.kind p), V.int IntKind.i64 (HPair.num p), V.str (HPair.text p)]) h))) (cond (Nat.ble (List.length (List.map (fun p => [V.str (HPair.key p), V.int IntKind.u8 (HPair.kind p), V.int IntKind.i64 (HPair.num p), V.str (HPair.text p)]) h)) (1000000 : Nat)) (cond (N.samePs (List.map (fun r => { key := V.toStr (List.getD r (0 : Nat) V.undef), kind := V.toInt (List.getD r (1 : Nat) V.undef), num := V.toInt (List.getD r (2 : Nat) V.undef), text := V.toStr (List.getD r (3 : Nat) V.undef) : HPair }) (List.map (fun p => [V.str (HPair.key p), V.int IntKind.u8 (HPair.kind p), V.int IntKind.i64 (HPair.num p), V.str (HPair.text p)]) h)) (List.map (fun r => { key := V.toStr (List.getD r (0 : Nat) V.undef), kind := V.toInt (List.getD r (1 : Nat) V.undef), num := V.toInt (List.getD r (2 : Nat) V.undef), text := V.toStr (List.getD r (3 : Nat) V.undef) : HPair }) (List.map (fun p => [V.str (HPair.key p), V.int IntKind.u8 (HPair.kind p), V.int IntKind.i64 (HPair.num p), V.str (HPair.text p)]) h))) (cond (N.checkFrom (List.map (fun r => { key := V.toStr (List.getD r (0 : Nat) V.undef), kind := V.toInt (List.getD r (1 : Nat) V.undef), num := V.toInt (List.getD r (2 : Nat) V.undef), text := V.toStr (List.getD r (3 : Nat) V.undef) : HPair }) (List.map (fun p => [V.str (HPair.key p), V.int IntKind.u8 (HPair.kind p), V.int IntKind.i64 (HPair.num p), V.str (HPair.text p)]) h)) (List.length (List.map (fun p => [V.str (HPair.key p), V.int IntKind.u8 (HPair.kind p), V.int IntKind.i64 (HPair.num p), V.str (HPair.text p)]) h) - (0 : Nat)) (0 : Int) != (0 : Int)) (some { v := V.int IntKind.i64 (N.checkFrom (List.map (fun r => { key := V.toStr (List.getD r (0 : Nat) V.undef), kind := V.toInt (List.getD r (1 : Nat) V.undef), num := V.toInt (List.getD r (2 : Nat) V.undef), text := V.toStr (List.getD r (3 : Nat) V.undef) : HPair }) (List.map (fun p => [V.str (HPair.key p), V.int IntKind.u8 (HPair.kind p), V.int IntKind.i64 (HPair.num p), V.str (HPair.text p)]) h)) (List.length (List.map (fun p => [V.str (HPair.key p), V.int IntKind.u8 (HPair.kind p), V.int IntKind.i64 (HPair.num p), V.str (HPair.text p)]) h) - (0 : Nat)) (0 : Int)), bx := [] : DRes }) (some { v := V.int IntKind.i64 (0 : Int), bx := [] : DRes })) (none)) (none)) (none)) (none)) := by kernel_rfl
theorem q_headCheckR (r0 : List (List V)) (r9 : List (List V)) (i11 : Int) (K : Ex → St → Option R) : evRound eHeadCheck 151 4 { fr := [(0, .slc [.str, .int .u8, .int .i64, .str] r0), (9, .slc [.str, .int .u8, .int .i64, .str] r9), (10, .int .i64 r9.length), (11, .int .i64 i11)], tab := [] } K =
 cond (ilt i11 (↑(List.length r9) : Int)) (cond (decide ((0 : Int) ≤ i11 ∧ i11 < (↑(List.length r9) : Int))) (cond (decide ((0 : Int) ≤ i11 ∧ i11 ≤ (↑(List.length r0) : Int))) (cond (Nat.ble (List.length (List.map (fun r => { key := V.toStr (List.getD r (0 : Nat) V.undef), kind := V.toInt (List.getD r (1 : Nat) V.undef), num := V.toInt (List.getD r (2 : Nat) V.undef), text := V.toStr (List.getD r (3 : Nat) V.undef) : HPair }) (List.drop (0 : Nat) (List.take (Int.toNat i11) r0)))) (1000000 : Nat)) (cond (N.pairE { key := V.toStr (List.getD (List.getD r9 (Int.toNat i11) []) (0 : Nat) V.undef), kind := V.toInt (List.getD (List.getD r9 (Int.toNat i11) []) (1 : Nat) V.undef), num := V.toInt (List.getD (List.getD r9 (Int.toNat i11) []) (2 : Nat) V.undef), text := V.toStr (List.getD (List.getD r9 (Int.toNat i11) []) (3 : Nat) V.undef) : HPair } (List.map (fun r => { key := V.toStr (List.getD r (0 : Nat) V.undef), kind := V.toInt (List.getD r (1 : Nat) V.undef), num := V.toInt (List.getD r (2 : Nat) V.undef), text := V.toStr (List.getD r (3 : Nat) V.undef) : HPair }) (List.drop (0 : Nat) (List.take (Int.toNat i11) r0))) != (0 : Int)) (K Ex.ret { fr := [((2 : Nat), V.int IntKind.i64 (N.pairE { key := V.toStr (List.getD (List.getD r9 (Int.toNat i11) []) (0 : Nat) V.undef), kind := V.toInt (List.getD (List.getD r9 (Int.toNat i11) []) (1 : Nat) V.undef), num := V.toInt (List.getD (List.getD r9 (Int.toNat i11) []) (2 : Nat) V.undef), text := V.toStr (List.getD (List.getD r9 (Int.toNat i11) []) (3 : Nat) V.undef) : HPair } (List.map (fun r => { key := V.toStr (List.getD r (0 : Nat) V.undef), kind := V.toInt (List.getD r (1 : Nat) V.undef), num := V.toInt (List.getD r (2 : Nat) V.undef), text := V.toStr (List.getD r (3 : Nat) V.undef) : HPair }) (List.drop (0 : Nat) (List.take (Int.toNat i11) r0)))))], tab := [] : St }) (K Ex.normal { fr := [((0 : Nat), V.slc [Sh.str, Sh.int IntKind.u8, Sh.int IntKind.i64, Sh.str] r0), ((9 : Nat), V.slc [Sh.str, Sh.int IntKind.u8, Sh.int IntKind.i64, Sh.str] r9), ((10 : Nat), V.int IntKind.i64 (↑(List.length r9) : Int)), ((11 : Nat), V.int IntKind.i64 (IntKind.wrap IntKind.i64 (i11 + (1 : Int))))], tab := [] : St })) (none)) (none)) (none)) (K (Ex.exit (0 : Nat)) { fr := [], tab := [] : St }) := by kernel_rfl
theorem samePs_refl : ∀ l, N.samePs l l = true
  | [] => rfl
  | p :: l => by
    unfold N.samePs N.eqP
    rw [samePs_refl l]; simp
theorem eqP_eq {p q : HPair} (h : N.eqP p q = true) : p = q := by
  unfold N.eqP at h
  simp only [Bool.and_eq_true, beq_iff_eq, and_true] at h
  cases p; cases q; simp_all
theorem samePs_eq : ∀ {a b : List HPair}, N.samePs a b = true → a = b
  | [], [], _ => rfl
  | [], _ :: _, h => by cases h
  | _ :: _, [], h => by cases h
  | p :: a, q :: b, h => by
    unfold N.samePs at h
    cases e : N.eqP p q with
    | true => rw [e, cond_true] at h; rw [eqP_eq e, samePs_eq h]
    | false => rw [e] at h; cases h
theorem ok_headCheck : FnOk Tryz.prog 151 dHeadCheck := by
  refine den_okF (env_ok ((TOk.nil _).cons ok_pairE)) (E := eHeadCheck) Tryz.func151 [4] (by kernel_rfl) (one1 (rounds_of rfl fun l K q h => ?_)) fun h _ _ => ?_
  · unfold gHeadCheck at h
    split at h
    · rename_i r0 r n i
      have h1 := (cond_none h).1; replace h := (cond_none h).2; have h2 := (cond_none h).1; replace h := (cond_none h).2; have h3 := (cond_none h).1; replace h := (cond_none h).2; have h4 := (cond_none h).1; replace h := (cond_none h).2; have h5 := (cond_none h).1; replace h := (cond_none h).2
      have e1 := ieq_of h1
      subst e1
      have h2 := Nat.eq_of_beq_eq_true h2
      have h4 : r0.length ≤ 1000000 := ble_of h4
      have h5 := samePs_eq h5
      refine loop_ind (E := eHeadCheck) (f := 151) (id := 4) (fun i : Int => { fr := [(0, .slc [.str, .int .u8, .int .i64, .str] r0), (9, .slc [.str, .int .u8, .int .i64, .str] r), (10, .int .i64 r.length), (11, .int .i64 i)], tab := [] }) (fun i => 0 ≤ i) (fun i => r.length - i.toNat)
        (fun i11 K => cond (N.checkFrom (rowsP r) (r.length - i11.toNat) i11 != 0) (K .ret { fr := [(2, .int .i64 (N.checkFrom (rowsP r) (r.length - i11.toNat) i11))], tab := [] }) (K (.exit 0) { fr := [], tab := [] })) (fun i hi => ?_) i (ile_of h3) K q (by assumption)
      by_cases hl : i < r.length
      · have e : N.checkFrom (rowsP r) (r.length - i.toNat) i = cond (N.pairE (rowP (r.getD i.toNat [])) ((rowsP r).take i.toNat) != 0) (N.pairE (rowP (r.getD i.toNat [])) ((rowsP r).take i.toNat)) (N.checkFrom (rowsP r) (r.length - (i + 1).toNat) (i + 1)) := by
          rw [show r.length - i.toNat = (r.length - (i + 1).toNat) + 1 by omega, N.checkFrom, rowsP_getD]
        rw [e]
        have hm : List.map rowP (List.take i.toNat r0) = (rowsP r).take i.toNat := by rw [← h5, rowsP, List.map_take]
        unfold rowP at hm
        cases hc : N.pairE (rowP (r.getD i.toNat [])) ((rowsP r).take i.toNat) != 0 with
        | true =>
          rw [cond_true, hc]
          refine .inr ⟨.ret, _, by simp, fun K => ?_, fun K => rfl⟩
          rw [q_headCheckR]
          unfold rowP at hc
          simp (disch := omega) only [evs, hc, hm, List.length_take, List.drop_zero]
          rfl
        | false =>
          refine .inl ⟨i + 1, by omega, by omega, fun K => ?_, fun K => ?_⟩
          · rw [q_headCheckR]
            unfold rowP at hc
            simp (disch := omega) only [evs, hc, hm, List.length_take, List.drop_zero]
          · rw [cond_false]
      · refine .inr ⟨.exit 0, { fr := [], tab := [] }, by simp, fun K => ?_, fun K => ?_⟩
        · rw [q_headCheckR]
          simp (disch := omega) only [evs]
        · rw [show r.length - i.toNat = 0 by omega]; rfl
    · cases h
  · refine (q_headCheck h).trans ?_
    show _ = some (⟨.int .i64 (N.headCheck h), [], []⟩ : DRes)
    unfold N.headCheck
    by_cases hl : 8 < h.length
    · simp (disch := omega) only [evs]
    · simp (disch := omega) only [evs, pairs_enc, samePs_refl, Nat.sub_zero]
      cases hc : N.checkFrom h h.length 0 != 0 with
      | true => rfl
      | false =>
        have : N.checkFrom h h.length 0 = 0 := by simpa using hc
        rw [this]; rfl
def schHeadBytes : SSch := { fr := [(5, .ptr 10000 0 0), (18, .slc [.str, .int .u8, .int .i64, .str]), (19, .int .i64), (20, .int .i64)], tab := [(10000, .var [.str, .int .i64])] }
def gHeadBytes : List Leaf → (Ex → St → Option R) → Option R
  | [.r r, .i n, .i i, .s s, .i e], K => cond (n == r.length) (cond (e == 0) (cond (ile 0 i) (cond (Nat.ble r.length 8) (cond ((rowsP r).all N.fitP) (cond (ile s.length (1 + 150 * i))
      (K (.exit 0) { fr := [(5, .ptr 10000 0 0 0)], tab := [(10000, .var [.str (s ++ N.pairsB ((rowsP r).drop i.toNat)), .int .i64 0])] }) none) none) none) none) none) none
  | _, _ => none
noncomputable def eHeadBytes : Env := env Tryz.prog [(151, dHeadCheck), (158, dOutNum), (159, dOutText), (161, dOutString)] [(6, loopF schHeadBytes gHeadBytes)] [(6, [(0, [5, 18, 19, 20]), (1, [5]), (1000, [2, 3])])]
theorem q_headBytes (h : List HPair) : evFn eHeadBytes 157 ((aOne (vSl cPair)).enc h) ([]) some =
 cond (N.headCheck (List.map (fun r => { key := V.toStr (List.getD r (0 : Nat) V.undef), kind := V.toInt (List.getD r (1 : Nat) V.undef), num := V.toInt (List.getD r (2 : Nat) V.undef), text := V.toStr (List.getD r (3 : Nat) V.undef) : HPair }) (List.map (fun p => [V.str (HPair.key p), V.int IntKind.u8 (HPair.kind p), V.int IntKind.i64 (HPair.num p), V.str (HPair.text p)]) h)) != (0 : Int)) (some { v := V.tup [V.str [], V.int IntKind.i64 (N.headCheck (List.map (fun r => { key := V.toStr (List.getD r (0 : Nat) V.undef), kind := V.toInt (List.getD r (1 : Nat) V.undef), num := V.toInt (List.getD r (2 : Nat) V.undef), text := V.toStr (List.getD r (3 : Nat) V.undef) : HPair }) (List.map (fun p => [V.str (HPair.key p), V.int IntKind.u8 (HPair.kind p), V.int IntKind.i64 (HPair.num p), V.str (HPair.text p)]) h)))], bx := [] : DRes }) (cond (bif ilt (IntKind.wrap IntKind.u64 (↑(List.length (List.map (fun p => [V.str (HPair.key p), V.int IntKind.u8 (HPair.kind p), V.int IntKind.i64 (HPair.num p), V.str (HPair.text p)]) h)) : Int)) (18446744073709551616 : Int) then true else false) (cond ((↑(List.length (List.map (fun p => [V.str (HPair.key p), V.int IntKind.u8 (HPair.kind p), V.int IntKind.i64 (HPair.num p), V.str (HPair.text p)]) h)) : Int) == (↑(List.length (List.map (fun p => [V.str (HPair.key p), V.int IntKind.u8 (HPair.kind p), V.int IntKind.i64 (HPair.num p), V.str (HPair.text p)]) h)) : Int)) (cond (Nat.ble (List.length (List.map (fun p => [V.str (HPair.key p), V.int IntKind.u8 (HPair.kind p), V.int IntKind.i64 (HPair.num p), V.str (HPair.text p)]) h)) (8 : Nat)) (cond (List.all (List.map (fun r => { key := V.toStr (List.getD r (0 : Nat) V.undef), kind := V.toInt (List.getD r (1 : Nat) V.undef), num := V.toInt (List.getD r (2 : Nat) V.undef), text := V.toStr (List.getD r (3 : Nat) V.undef) : HPair }) (List.map (fun p => [V.str (HPair.key p), V.int IntKind.u8 (HPair.kind p), V.int IntKind.i64 (HPair.num p), V.str (HPair.text p)]) h)) N.fitP) (some { v := V.tup [V.str (OutS.s (N.outNum { s := [], err := (0 : Int) : OutS } (IntKind.wrap IntKind.u64 (↑(List.length (List.map (fun p => [V.str (HPair.key p), V.int IntKind.u8 (HPair.kind p), V.int IntKind.i64 (HPair.num p), V.str (HPair.text p)]) h)) : Int)) (1 : Int)) ++ N.pairsB (List.drop (0 : Nat) (List.map (fun r => { key := V.toStr (List.getD r (0 : Nat) V.undef), kind := V.toInt (List.getD r (1 : Nat) V.undef), num := V.toInt (List.getD r (2 : Nat) V.undef), text := V.toStr (List.getD r (3 : Nat) V.undef) : HPair }) (List.map (fun p => [V.str (HPair.key p), V.int IntKind.u8 (HPair.kind p), V.int IntKind.i64 (HPair.num p), V.str (HPair.text p)]) h)))), V.int IntKind.i64 (0 : Int)], bx := [] : DRes }) (none)) (none)) (none)) (none)) := by kernel_rfl
theorem q_headBytesR (r : List (List V)) (i : Int) (s : Bytes) (K : Ex → St → Option R) : evRound eHeadBytes 157 6 { fr := [(5, .ptr 10000 0 0 0), (18, .slc [.str, .int .u8, .int .i64, .str] r), (19, .int .i64 r.length), (20, .int .i64 i)], tab := [(10000, .var [.str s, .int .i64 0])] } K =
 cond (ilt i (↑(List.length r) : Int)) (cond (decide ((0 : Int) ≤ i ∧ i < (↑(List.length r) : Int))) (cond (Nat.ble (List.length s + List.length (V.toStr (List.getD (List.getD r (Int.toNat i) []) (0 : Nat) V.undef))) (9223372036854775790 : Nat)) (cond (bif ile (0 : Int) (IntKind.wrap IntKind.u64 (V.toInt (List.getD (List.getD r (Int.toNat i) []) (1 : Nat) V.undef))) then bif ilt (IntKind.wrap IntKind.u64 (V.toInt (List.getD (List.getD r (Int.toNat i) []) (1 : Nat) V.undef))) (18446744073709551616 : Int) then Nat.ble (List.length (OutS.s (N.outText { s := s, err := (0 : Int) : OutS } (V.toStr (List.getD (List.getD r (Int.toNat i) []) (0 : Nat) V.undef))))) (9223372036854775799 : Nat) else false else false) (cond (V.toInt (List.getD (List.getD r (Int.toNat i) []) (1 : Nat) V.undef) == (0 : Int)) (cond (bif ile (0 : Int) (IntKind.wrap IntKind.u64 (V.toInt (List.getD (List.getD r (Int.toNat i) []) (2 : Nat) V.undef))) then bif ilt (IntKind.wrap IntKind.u64 (V.toInt (List.getD (List.getD r (Int.toNat i) []) (2 : Nat) V.undef))) (18446744073709551616 : Int) then Nat.ble (List.length (OutS.s (N.outNum (N.outText { s := s, err := (0 : Int) : OutS } (V.toStr (List.getD (List.getD r (Int.toNat i) []) (0 : Nat) V.undef))) (IntKind.wrap IntKind.u64 (V.toInt (List.getD (List.getD r (Int.toNat i) []) (1 : Nat) V.undef))) (1 : Int)))) (9223372036854775799 : Nat) else false else false) (K Ex.normal { fr := [((5 : Nat), V.ptr (10000 : Nat) (0 : Nat) (0 : Nat) (0 : Nat)), ((18 : Nat), V.slc [Sh.str, Sh.int IntKind.u8, Sh.int IntKind.i64, Sh.str] r), ((19 : Nat), V.int IntKind.i64 (↑(List.length r) : Int)), ((20 : Nat), V.int IntKind.i64 (IntKind.wrap IntKind.i64 (i + (1 : Int))))], tab := [((10000 : Nat), Box.var [V.str (OutS.s (N.outNum (N.outNum (N.outText { s := s, err := (0 : Int) : OutS } (V.toStr (List.getD (List.getD r (Int.toNat i) []) (0 : Nat) V.undef))) (IntKind.wrap IntKind.u64 (V.toInt (List.getD (List.getD r (Int.toNat i) []) (1 : Nat) V.undef))) (1 : Int)) (IntKind.wrap IntKind.u64 (V.toInt (List.getD (List.getD r (Int.toNat i) []) (2 : Nat) V.undef))) (8 : Int))), V.int IntKind.i64 (OutS.err (N.outNum (N.outNum (N.outText { s := s, err := (0 : Int) : OutS } (V.toStr (List.getD (List.getD r (Int.toNat i) []) (0 : Nat) V.undef))) (IntKind.wrap IntKind.u64 (V.toInt (List.getD (List.getD r (Int.toNat i) []) (1 : Nat) V.undef))) (1 : Int)) (IntKind.wrap IntKind.u64 (V.toInt (List.getD (List.getD r (Int.toNat i) []) (2 : Nat) V.undef))) (8 : Int)))])] : St }) (none)) (cond (V.toInt (List.getD (List.getD r (Int.toNat i) []) (1 : Nat) V.undef) == (1 : Int)) (cond (Nat.ble (List.length (OutS.s (N.outNum (N.outText { s := s, err := (0 : Int) : OutS } (V.toStr (List.getD (List.getD r (Int.toNat i) []) (0 : Nat) V.undef))) (IntKind.wrap IntKind.u64 (V.toInt (List.getD (List.getD r (Int.toNat i) []) (1 : Nat) V.undef))) (1 : Int))) + List.length (V.toStr (List.getD (List.getD r (Int.toNat i) []) (3 : Nat) V.undef))) (9223372036854775790 : Nat)) (K Ex.normal { fr := [((5 : Nat), V.ptr (10000 : Nat) (0 : Nat) (0 : Nat) (0 : Nat)), ((18 : Nat), V.slc [Sh.str, Sh.int IntKind.u8, Sh.int IntKind.i64, Sh.str] r), ((19 : Nat), V.int IntKind.i64 (↑(List.length r) : Int)), ((20 : Nat), V.int IntKind.i64 (IntKind.wrap IntKind.i64 (i + (1 : Int))))], tab := [((10000 : Nat), Box.var [V.str (OutS.s (N.outText (N.outNum (N.outText { s := s, err := (0 : Int) : OutS } (V.toStr (List.getD (List.getD r (Int.toNat i) []) (0 : Nat) V.undef))) (IntKind.wrap IntKind.u64 (V.toInt (List.getD (List.getD r (Int.toNat i) []) (1 : Nat) V.undef))) (1 : Int)) (V.toStr (List.getD (List.getD r (Int.toNat i) []) (3 : Nat) V.undef)))), V.int IntKind.i64 (OutS.err (N.outText (N.outNum (N.outText { s := s, err := (0 : Int) : OutS } (V.toStr (List.getD (List.getD r (Int.toNat i) []) (0 : Nat) V.undef))) (IntKind.wrap IntKind.u64 (V.toInt (List.getD (List.getD r (Int.toNat i) []) (1 : Nat) V.undef))) (1 : Int)) (V.toStr (List.getD (List.getD r (Int.toNat i) []) (3 : Nat) V.undef))))])] : St }) (none)) (cond (V.toInt (List.getD (List.getD r (Int.toNat i) []) (1 : Nat) V.undef) == (2 : Int)) (cond (bif ile (0 : Int) (IntKind.wrap IntKind.u64 (V.toInt (List.getD (List.getD r (Int.toNat i) []) (2 : Nat) V.undef))) then bif ilt (IntKind.wrap IntKind.u64 (V.toInt (List.getD (List.getD r (Int.toNat i) []) (2 : Nat) V.undef))) (18446744073709551616 : Int) then Nat.ble (List.length (OutS.s (N.outNum (N.outText { s := s, err := (0 : Int) : OutS } (V.toStr (List.getD (List.getD r (Int.toNat i) []) (0 : Nat) V.undef))) (IntKind.wrap IntKind.u64 (V.toInt (List.getD (List.getD r (Int.toNat i) []) (1 : Nat) V.undef))) (1 : Int)))) (9223372036854775799 : Nat) else false else false) (K Ex.normal { fr := [((5 : Nat), V.ptr (10000 : Nat) (0 : Nat) (0 : Nat) (0 : Nat)), ((18 : Nat), V.slc [Sh.str, Sh.int IntKind.u8, Sh.int IntKind.i64, Sh.str] r), ((19 : Nat), V.int IntKind.i64 (↑(List.length r) : Int)), ((20 : Nat), V.int IntKind.i64 (IntKind.wrap IntKind.i64 (i + (1 : Int))))], tab := [((10000 : Nat), Box.var [V.str (OutS.s (N.outNum (N.outNum (N.outText { s := s, err := (0 : Int) : OutS } (V.toStr (List.getD (List.getD r (Int.toNat i) []) (0 : Nat) V.undef))) (IntKind.wrap IntKind.u64 (V.toInt (List.getD (List.getD r (Int.toNat i) []) (1 : Nat) V.undef))) (1 : Int)) (IntKind.wrap IntKind.u64 (V.toInt (List.getD (List.getD r (Int.toNat i) []) (2 : Nat) V.undef))) (1 : Int))), V.int IntKind.i64 (OutS.err (N.outNum (N.outNum (N.outText { s := s, err := (0 : Int) : OutS } (V.toStr (List.getD (List.getD r (Int.toNat i) []) (0 : Nat) V.undef))) (IntKind.wrap IntKind.u64 (V.toInt (List.getD (List.getD r (Int.toNat i) []) (1 : Nat) V.undef))) (1 : Int)) (IntKind.wrap IntKind.u64 (V.toInt (List.getD (List.getD r (Int.toNat i) []) (2 : Nat) V.undef))) (1 : Int)))])] : St }) (none)) (K Ex.normal { fr := [((5 : Nat), V.ptr (10000 : Nat) (0 : Nat) (0 : Nat) (0 : Nat)), ((18 : Nat), V.slc [Sh.str, Sh.int IntKind.u8, Sh.int IntKind.i64, Sh.str] r), ((19 : Nat), V.int IntKind.i64 (↑(List.length r) : Int)), ((20 : Nat), V.int IntKind.i64 (IntKind.wrap IntKind.i64 (i + (1 : Int))))], tab := [((10000 : Nat), Box.var [V.str (OutS.s (N.outNum (N.outText { s := s, err := (0 : Int) : OutS } (V.toStr (List.getD (List.getD r (Int.toNat i) []) (0 : Nat) V.undef))) (IntKind.wrap IntKind.u64 (V.toInt (List.getD (List.getD r (Int.toNat i) []) (1 : Nat) V.undef))) (1 : Int))), V.int IntKind.i64 (OutS.err (N.outNum (N.outText { s := s, err := (0 : Int) : OutS } (V.toStr (List.getD (List.getD r (Int.toNat i) []) (0 : Nat) V.undef))) (IntKind.wrap IntKind.u64 (V.toInt (List.getD (List.getD r (Int.toNat i) []) (1 : Nat) V.undef))) (1 : Int)))])] : St })))) (none)) (none)) (none)) (K (Ex.exit (0 : Nat)) { fr := [((5 : Nat), V.ptr (10000 : Nat) (0 : Nat) (0 : Nat) (0 : Nat))], tab := [((10000 : Nat), Box.var [V.str s, V.int IntKind.i64 (0 : Int)])] : St }) := by kernel_rfl
theorem pairE_fit {p : HPair} {l : List HPair} (h : N.pairE p l = 0) : N.fitP p = true := by
  unfold N.pairE at h
  cases h1 : N.name p.key != 0 with
  | true => rw [h1, cond_true] at h; rw [h] at h1; cases h1
  | false =>
    have hk : p.key.length ≤ 16 := by
      unfold N.name at h1
      cases e1 : p.key == [] with
      | true => rw [e1] at h1; cases h1
      | false =>
        rw [e1] at h1
        cases e2 : ilt 16 p.key.length with
        | true => rw [e2] at h1; cases h1
        | false => have := ilt_nof e2; omega
    rw [h1] at h
    simp only [cond_false, bne] at h
    have ht : p.text.length ≤ 64 := by
      cases h2 : ilt 2 p.kind with
      | true => rw [h2] at h; cases h
      | false =>
        rw [h2] at h
        cases e1 : p.kind == 1 with
        | true =>
          rw [e1] at h
          cases e2 : ilt 64 p.text.length with
          | true => rw [e2] at h; cases h
          | false => have := ilt_nof e2; omega
        | false =>
          rw [e1] at h
          cases e2 : p.text == [] with
          | true => have : p.text = [] := by simpa using e2
                    rw [this]; exact Nat.zero_le _
          | false =>
            rw [e2] at h
            simp only [cond_false, cond_true, Bool.not_false] at h
            revert h
            cases (cond (cond (p.kind == 2) (!p.num == 0) false) (!p.num == 1) false) <;> intro h <;> cases h
    show cond (Nat.ble p.key.length 64) (Nat.ble p.text.length 64) false = true
    rw [ble_t (by omega), ble_t ht]; rfl
theorem checkFrom_fit (h : List HPair) : ∀ (f : Nat) (i : Int), 0 ≤ i → N.checkFrom h f i = 0 → ∀ j : Nat, i ≤ j → (j : Int) < i + f → N.fitP (h.getD j pair0) = true
  | 0, i, _, _, j, h1, h2 => by omega
  | f + 1, i, h0, hc, j, h1, h2 => by
    unfold N.checkFrom at hc
    cases e : N.pairE (h.getD i.toNat pair0) (h.take i.toNat) != 0 with
    | true => rw [e, cond_true] at hc; rw [hc] at e; cases e
    | false =>
      rw [e] at hc
      by_cases hj : (j : Int) = i
      · have : j = i.toNat := by omega
        rw [this]; exact pairE_fit (by simpa using e)
      · exact checkFrom_fit h f (i + 1) (by omega) hc j (by omega) (by omega)
theorem check_fit {h : List HPair} (hz : N.headCheck h = 0) : h.length ≤ 8 ∧ h.all N.fitP = true := by
  unfold N.headCheck at hz
  cases e : ilt 8 h.length with
  | true => rw [e] at hz; cases hz
  | false =>
    have e' := ilt_nof e
    rw [e] at hz
    refine ⟨by omega, List.all_eq_true.2 fun p hp => ?_⟩
    obtain ⟨j, hj, rfl⟩ := List.getElem_of_mem hp
    have := checkFrom_fit h h.length 0 (Int.le_refl _) hz j (by omega) (by omega)
    rwa [List.getD_eq_getElem?_getD, List.getElem?_eq_getElem hj] at this
theorem wu64 (x : Int) : 0 ≤ IntKind.wrap .u64 x ∧ IntKind.wrap .u64 x < 18446744073709551616 := by
  simp only [IntKind.wrap, IntKind.signed, IntKind.bits]
  simp
  omega
theorem numB_len (n : Int) : ∀ k, (N.numB n k).length = k
  | 0 => rfl
  | k + 1 => by simp [N.numB, numB_len n k]
theorem textB_len (s : Bytes) : (N.textB s).length = 2 + s.length := by unfold N.textB; rw [List.length_append, numB_len]
theorem outText_le {x s : Bytes} (h : s.length ≤ 65535) : N.outText ⟨x, 0⟩ s = ⟨x ++ N.textB s, 0⟩ := by
  unfold N.outText
  rw [ilt_f (by omega)]
  show (⟨x ++ N.numB s.length 2 ++ s, 0⟩ : OutS) = _
  unfold N.textB; rw [List.append_assoc]
theorem outNum_1 (x : Bytes) (n : Int) : N.outNum ⟨x, 0⟩ n 1 = ⟨x ++ N.numB n 1, 0⟩ := rfl
theorem outNum_8 (x : Bytes) (n : Int) : N.outNum ⟨x, 0⟩ n 8 = ⟨x ++ N.numB n 8, 0⟩ := rfl
theorem ok_headBytes (hN : FnOk Tryz.prog 158 dOutNum) : FnOk Tryz.prog 157 dHeadBytes := by
  refine den_okF (env_ok (((((TOk.nil _).cons ok_outString).cons (ok_outText hN)).cons hN).cons ok_headCheck)) (E := eHeadBytes) Tryz.func157 [6] (by kernel_rfl) (one1 (rounds_of rfl fun l K q h => ?_)) fun h _ _ => ?_
  · unfold gHeadBytes at h
    split at h
    · rename_i r n i s e
      have h1 := (cond_none h).1; replace h := (cond_none h).2; have h2 := (cond_none h).1; replace h := (cond_none h).2; have h3 := (cond_none h).1; replace h := (cond_none h).2; have h4 := (cond_none h).1; replace h := (cond_none h).2; have h5 := (cond_none h).1; replace h := (cond_none h).2; have h6 := (cond_none h).1; replace h := (cond_none h).2
      have e1 := ieq_of h1
      have e2 := ieq_of h2
      subst e1 e2
      have h4 : r.length ≤ 8 := ble_of h4
      refine loop_ind (E := eHeadBytes) (f := 157) (id := 6) (σ := Int × Bytes) (fun x => { fr := [(5, .ptr 10000 0 0 0), (18, .slc [.str, .int .u8, .int .i64, .str] r), (19, .int .i64 r.length), (20, .int .i64 x.1)], tab := [(10000, .var [.str x.2, .int .i64 0])] })
        (fun x => 0 ≤ x.1 ∧ (x.2.length : Int) ≤ 1 + 150 * x.1) (fun x => r.length - x.1.toNat)
        (fun x K => K (.exit 0) { fr := [(5, .ptr 10000 0 0 0)], tab := [(10000, .var [.str (x.2 ++ N.pairsB ((rowsP r).drop x.1.toNat)), .int .i64 0])] }) ?_ (i, s) ⟨ile_of h3, ile_of h6⟩ K q (by assumption)
      rintro ⟨i, s⟩ ⟨hi, hs⟩
      simp only at hi hs ⊢
      by_cases hl : i < r.length
      · have hlt : i.toNat < r.length := by omega
        have hfit : N.fitP (rowP (r.getD i.toNat [])) = true := List.all_eq_true.1 h5 _ (by
          rw [List.getD_eq_getElem?_getD, List.getElem?_eq_getElem hlt]; exact List.mem_map_of_mem (List.getElem_mem _))
        obtain ⟨f1, f2⟩ := bcond hfit
        have f1 : (V.toStr (List.getD (List.getD r i.toNat []) 0 V.undef)).length ≤ 64 := ble_of f1
        have f2 : (V.toStr (List.getD (List.getD r i.toNat []) 3 V.undef)).length ≤ 64 := ble_of f2
        have u1 := wu64 (V.toInt (List.getD (List.getD r i.toNat []) 1 V.undef))
        have u2 := wu64 (V.toInt (List.getD (List.getD r i.toNat []) 2 V.undef))
        have o1 : N.outText ⟨s, 0⟩ (V.toStr (List.getD (List.getD r i.toNat []) 0 V.undef)) = ⟨s ++ N.textB (V.toStr (List.getD (List.getD r i.toNat []) 0 V.undef)), 0⟩ := outText_le (by omega)
        have o2 : ∀ x : Bytes, N.outText ⟨x, 0⟩ (V.toStr (List.getD (List.getD r i.toNat []) 3 V.undef)) = ⟨x ++ N.textB (V.toStr (List.getD (List.getD r i.toNat []) 3 V.undef)), 0⟩ := fun x => outText_le (by omega)
        rw [drop_pair hlt]
        have e : N.pairsB (rowP (r.getD i.toNat []) :: (rowsP r).drop (i.toNat + 1)) = N.pairB (rowP (r.getD i.toNat [])) ++ N.pairsB ((rowsP r).drop (i.toNat + 1)) := rfl
        rw [e, ← List.append_assoc]
        have hlen : (N.pairB (rowP (r.getD i.toNat []))).length ≤ 150 := by
          unfold N.pairB rowP
          simp only [List.length_append, textB_len, numB_len]
          cases V.toInt (List.getD (List.getD r i.toNat []) 1 V.undef) == 0 <;> cases V.toInt (List.getD (List.getD r i.toNat []) 1 V.undef) == 1 <;> cases V.toInt (List.getD (List.getD r i.toNat []) 1 V.undef) == 2 <;> simp only [cond_true, cond_false, numB_len, textB_len, List.length_nil] <;> omega
        refine .inl ⟨(i + 1, s ++ N.pairB (rowP (r.getD i.toNat []))), ⟨by simp only; omega, by simp only [List.length_append]; omega⟩, by simp only; omega, fun K => ?_, fun K => ?_⟩
        · rw [q_headBytesR]
          unfold N.pairB rowP
          simp (disch := omega) only [evs, o1, o2, outNum_1, outNum_8, textB_len, numB_len, ← List.append_assoc]
          cases V.toInt (List.getD (List.getD r i.toNat []) 1 V.undef) == 0 <;> cases V.toInt (List.getD (List.getD r i.toNat []) 1 V.undef) == 1 <;> cases V.toInt (List.getD (List.getD r i.toNat []) 1 V.undef) == 2 <;> simp only [cond_true, cond_false, List.append_nil]
        · rw [show (i + 1).toNat = i.toNat + 1 by omega]
      · refine .inr ⟨.exit 0, { fr := [(5, .ptr 10000 0 0 0)], tab := [(10000, .var [.str s, .int .i64 0])] }, by simp, fun K => ?_, fun K => ?_⟩
        · rw [q_headBytesR]
          simp (disch := omega) only [evs]
        · rw [List.drop_eq_nil_of_le (by rw [rowsP_length]; omega)]
          show K _ { fr := _, tab := [(10000, .var [.str (s ++ []), .int .i64 0])] } = _
          rw [List.append_nil]
    · cases h
  · refine (q_headBytes h).trans ?_
    show _ = some (⟨.tup [.str (cond (N.headCheck h != 0) (([] : Bytes), N.headCheck h) (N.headBytes h, 0)).1, .int .i64 (cond (N.headCheck h != 0) (([] : Bytes), N.headCheck h) (N.headBytes h, 0)).2], [], []⟩ : DRes)
    cases hc : N.headCheck h != 0 with
    | true =>
      simp (disch := omega) only [evs, pairs_enc, hc]
    | false =>
      have hz : N.headCheck h = 0 := by simpa using hc
      obtain ⟨c1, c2⟩ := check_fit hz
      have u := wu64 (h.length : Int)
      have ul : IntKind.wrap .u64 (h.length : Int) = h.length := wrap_u64 (by omega) (by omega)
      simp (disch := omega) only [evs, pairs_enc, hc, ul, outNum_1, c2, List.drop_zero, List.nil_append]
      rfl
end Go.Ev

/- The program's functions that read heads answer what the plain ones do: lemmas. -/
namespace Go.Ev
open Go Go.Proofs
set_option maxRecDepth 100000

end Go.Ev

/- The program's functions that read heads, those with loops, answer what the plain ones do: lemmas. -/
namespace Go.Ev
open Go Go.Proofs
set_option maxRecDepth 100000

namespace N
/-- The loop over a head's pairs: went through, what was read, the reader. -/
def hl : Nat → InS → List (List V) → Bool × List (List V) × InS
  | 0, i, rows => (true, rows, i)
  | k + 1, i, rows => cond ((bad (one i).1 (rowsP rows) (one i).2).err != 0) (false, [], bad (one i).1 (rowsP rows) (one i).2) (hl k (bad (one i).1 (rowsP rows) (one i).2) (rows ++ [cPair.enc (one i).1]))
end N
namespace N
end N
def schRefPair : SSch := { fr := [(2, .ptr 10000 0 0), (57, .slc [.str, .int .u8, .int .i64, .str]), (58, .int .i64), (59, .int .i64)], tab := [(10000, .var [.str, .int .u8, .int .i64, .str])] }
def gRefPair : List Leaf → (Ex → St → Option R) → Option R
  | [.r r57, .i i58, .i i59, .s sx0, .i _, .i _, .s _], K => cond (i58 == r57.length) (cond (ile 0 i59) (cond (Nat.ble r57.length LIM)
      (cond (ile 0 (N.findIx sx0 ((rowsP r57).drop i59.toNat) i59)) (K .ret { fr := [(4, .int .i64 9)], tab := [] }) (K (.exit 0) { fr := [], tab := [] })) none) none) none
  | _, _ => none
noncomputable def eRefPair : Env := env Tryz.prog [(125, dName)] [(13, loopF schRefPair gRefPair)] [(13, [(0, [2, 57, 58, 59]), (1, []), (1000, [4])])]
theorem q_refPair (p : HPair) (l : List HPair) : evFn eRefPair 79 (((aCons (vAgg cPair) (aOne (vSl cPair))).enc (p, l))) ([]) some =
 cond (N.name (HPair.key p) != (0 : Int)) (some { v := V.int IntKind.i64 (N.name (HPair.key p)), bx := [] : DRes }) (cond (ilt (2 : Int) (HPair.kind p)) (some { v := V.int IntKind.i64 (8 : Int), bx := [] : DRes }) (cond (HPair.kind p == (1 : Int)) (cond (ilt (64 : Int) (↑(List.length (HPair.text p)) : Int)) (some { v := V.int IntKind.i64 (5 : Int), bx := [] : DRes }) (cond (HPair.kind p == (2 : Int)) (cond (ilt (HPair.num p) (0 : Int)) (some { v := V.int IntKind.i64 (7 : Int), bx := [] : DRes }) (cond (ilt (1 : Int) (HPair.num p)) (some { v := V.int IntKind.i64 (7 : Int), bx := [] : DRes }) (cond (HPair.kind p == (1 : Int)) (cond (HPair.num p != (0 : Int)) (some { v := V.int IntKind.i64 (4 : Int), bx := [] : DRes }) (cond (HPair.kind p != (1 : Int)) (cond (!HPair.text p == []) (some { v := V.int IntKind.i64 (4 : Int), bx := [] : DRes }) (cond ((↑(List.length (List.map (fun p => [V.str (HPair.key p), V.int IntKind.u8 (HPair.kind p), V.int IntKind.i64 (HPair.num p), V.str (HPair.text p)]) l)) : Int) == (↑(List.length (List.map (fun p => [V.str (HPair.key p), V.int IntKind.u8 (HPair.kind p), V.int IntKind.i64 (HPair.num p), V.str (HPair.text p)]) l)) : Int)) (cond (Nat.ble (List.length (List.map (fun p => [V.str (HPair.key p), V.int IntKind.u8 (HPair.kind p), V.int IntKind.i64 (HPair.num p), V.str (HPair.text p)]) l)) (1000000 : Nat)) (cond (ile (0 : Int) (N.findIx (HPair.key p) (List.drop (0 : Nat) (List.map (fun r => { key := V.toStr (List.getD r (0 : Nat) V.undef), kind := V.toInt (List.getD r (1 : Nat) V.undef), num := V.toInt (List.getD r (2 : Nat) V.undef), text := V.toStr (List.getD r (3 : Nat) V.undef) : HPair }) (List.map (fun p => [V.str (HPair.key p), V.int IntKind.u8 (HPair.kind p), V.int IntKind.i64 (HPair.num p), V.str (HPair.text p)]) l))) (0 : Int))) (some { v := V.int IntKind.i64 (9 : Int), bx := [] : DRes }) (some { v := V.int IntKind.i64 (0 : Int), bx := [] : DRes })) (none)) (none))) (cond ((↑(List.length (List.map (fun p => [V.str (HPair.key p), V.int IntKind.u8 (HPair.kind p), V.int IntKind.i64 (HPair.num p), V.str (HPair.text p)]) l)) : Int) == (↑(List.length (List.map (fun p => [V.str (HPair.key p), V.int IntKind.u8 (HPair.kind p), V.int IntKind.i64 (HPair.num p), V.str (HPair.text p)]) l)) : Int)) (cond (Nat.ble (List.length (List.map (fun p => [V.str (HPair.key p), V.int IntKind.u8 (HPair.kind p), V.int IntKind.i64 (HPair.num p), V.str (HPair.text p)]) l)) (1000000 : Nat)) (cond (ile (0 : Int) (N.findIx (HPair.key p) (List.drop (0 : Nat) (List.map (fun r => { key := V.toStr (List.getD r (0 : Nat) V.undef), kind := V.toInt (List.getD r (1 : Nat) V.undef), num := V.toInt (List.getD r (2 : Nat) V.undef), text := V.toStr (List.getD r (3 : Nat) V.undef) : HPair }) (List.map (fun p => [V.str (HPair.key p), V.int IntKind.u8 (HPair.kind p), V.int IntKind.i64 (HPair.num p), V.str (HPair.text p)]) l))) (0 : Int))) (some { v := V.int IntKind.i64 (9 : Int), bx := [] : DRes }) (some { v := V.int IntKind.i64 (0 : Int), bx := [] : DRes })) (none)) (none)))) (cond (HPair.kind p != (1 : Int)) (cond (!HPair.text p == []) (some { v := V.int IntKind.i64 (4 : Int), bx := [] : DRes }) (cond ((↑(List.length (List.map (fun p => [V.str (HPair.key p), V.int IntKind.u8 (HPair.kind p), V.int IntKind.i64 (HPair.num p), V.str (HPair.text p)]) l)) : Int) == (↑(List.length (List.map (fun p => [V.str (HPair.key p), V.int IntKind.u8 (HPair.kind p), V.int IntKind.i64 (HPair.num p), V.str (HPair.text p)]) l)) : Int)) (cond (Nat.ble (List.length (List.map (fun p => [V.str (HPair.key p), V.int IntKind.u8 (HPair.kind p), V.int IntKind.i64 (HPair.num p), V.str (HPair.text p)]) l)) (1000000 : Nat)) (cond (ile (0 : Int) (N.findIx (HPair.key p) (List.drop (0 : Nat) (List.map (fun r => { key := V.toStr (List.getD r (0 : Nat) V.undef), kind := V.toInt (List.getD r (1 : Nat) V.undef), num := V.toInt (List.getD r (2 : Nat) V.undef), text := V.toStr (List.getD r (3 : Nat) V.undef) : HPair }) (List.map (fun p => [V.str (HPair.key p), V.int IntKind.u8 (HPair.kind p), V.int IntKind.i64 (HPair.num p), V.str (HPair.text p)]) l))) (0 : Int))) (some { v := V.int IntKind.i64 (9 : Int), bx := [] : DRes }) (some { v := V.int IntKind.i64 (0 : Int), bx := [] : DRes })) (none)) (none))) (cond ((↑(List.length (List.map (fun p => [V.str (HPair.key p), V.int IntKind.u8 (HPair.kind p), V.int IntKind.i64 (HPair.num p), V.str (HPair.text p)]) l)) : Int) == (↑(List.length (List.map (fun p => [V.str (HPair.key p), V.int IntKind.u8 (HPair.kind p), V.int IntKind.i64 (HPair.num p), V.str (HPair.text p)]) l)) : Int)) (cond (Nat.ble (List.length (List.map (fun p => [V.str (HPair.key p), V.int IntKind.u8 (HPair.kind p), V.int IntKind.i64 (HPair.num p), V.str (HPair.text p)]) l)) (1000000 : Nat)) (cond (ile (0 : Int) (N.findIx (HPair.key p) (List.drop (0 : Nat) (List.map (fun r => { key := V.toStr (List.getD r (0 : Nat) V.undef), kind := V.toInt (List.getD r (1 : Nat) V.undef), num := V.toInt (List.getD r (2 : Nat) V.undef), text := V.toStr (List.getD r (3 : Nat) V.undef) : HPair }) (List.map (fun p => [V.str (HPair.key p), V.int IntKind.u8 (HPair.kind p), V.int IntKind.i64 (HPair.num p), V.str (HPair.text p)]) l))) (0 : Int))) (some { v := V.int IntKind.i64 (9 : Int), bx := [] : DRes }) (some { v := V.int IntKind.i64 (0 : Int), bx := [] : DRes })) (none)) (none)))))) (cond (HPair.kind p == (1 : Int)) (cond (HPair.num p != (0 : Int)) (some { v := V.int IntKind.i64 (4 : Int), bx := [] : DRes }) (cond (HPair.kind p != (1 : Int)) (cond (!HPair.text p == []) (some { v := V.int IntKind.i64 (4 : Int), bx := [] : DRes }) (cond ((↑(List.length (List.map (fun p => [V.str (HPair.key p), V.int IntKind.u8 (HPair.kind p), V.int IntKind.i64 (HPair.num p), V.str (HPair.text p)]) l)) : Int) == (↑(List.length (List.map (fun p => [V.str (HPair.key p), V.int IntKind.u8 (HPair.kind p), V.int IntKind.i64 (HPair.num p), V.str (HPair.text p)]) l)) : Int)) (cond (Nat.ble (List.length (List.map (fun p => [V.str (HPair.key p), V.int IntKind.u8 (HPair.kind p), V.int IntKind.i64 (HPair.num p), V.str (HPair.text p)]) l)) (1000000 : Nat)) (cond (ile (0 : Int) (N.findIx (HPair.key p) (List.drop (0 : Nat) (List.map (fun r => { key := V.toStr (List.getD r (0 : Nat) V.undef), kind := V.toInt (List.getD r (1 : Nat) V.undef), num := V.toInt (List.getD r (2 : Nat) V.undef), text := V.toStr (List.getD r (3 : Nat) V.undef) : HPair }) (List.map (fun p => [V.str (HPair.key p), V.int IntKind.u8 (HPair.kind p), V.int IntKind.i64 (HPair.num p), V.str (HPair.text p)]) l))) (0 : Int))) (some { v := V.int IntKind.i64 (9 : Int), bx := [] : DRes }) (some { v := V.int IntKind.i64 (0 : Int), bx := [] : DRes })) (none)) (none))) (cond ((↑(List.length (List.map (fun p => [V.str (HPair.key p), V.int IntKind.u8 (HPair.kind p), V.int IntKind.i64 (HPair.num p), V.str (HPair.text p)]) l)) : Int) == (↑(List.length (List.map (fun p => [V.str (HPair.key p), V.int IntKind.u8 (HPair.kind p), V.int IntKind.i64 (HPair.num p), V.str (HPair.text p)]) l)) : Int)) (cond (Nat.ble (List.length (List.map (fun p => [V.str (HPair.key p), V.int IntKind.u8 (HPair.kind p), V.int IntKind.i64 (HPair.num p), V.str (HPair.text p)]) l)) (1000000 : Nat)) (cond (ile (0 : Int) (N.findIx (HPair.key p) (List.drop (0 : Nat) (List.map (fun r => { key := V.toStr (List.getD r (0 : Nat) V.undef), kind := V.toInt (List.getD r (1 : Nat) V.undef), num := V.toInt (List.getD r (2 : Nat) V.undef), text := V.toStr (List.getD r (3 : Nat) V.undef) : HPair }) (List.map (fun p => [V.str (HPair.key p), V.int IntKind.u8 (HPair.kind p), V.int IntKind.i64 (HPair.num p), V.str (HPair.text p)]) l))) (0 : Int))) (some { v := V.int IntKind.i64 (9 : Int), bx := [] : DRes }) (some { v := V.int IntKind.i64 (0 : Int), bx := [] : DRes })) (none)) (none)))) (cond (HPair.kind p != (1 : Int)) (cond (!HPair.text p == []) (some { v := V.int IntKind.i64 (4 : Int), bx := [] : DRes }) (cond ((↑(List.length (List.map (fun p => [V.str (HPair.key p), V.int IntKind.u8 (HPair.kind p), V.int IntKind.i64 (HPair.num p), V.str (HPair.text p)]) l)) : Int) == (↑(List.length (List.map (fun p => [V.str (HPair.key p), V.int IntKind.u8 (HPair.kind p), V.int IntKind.i64 (HPair.num p), V.str (HPair.text p)]) l)) : Int)) (cond (Nat.ble (List.length (List.map (fun p => [V.str (HPair.key p), V.int IntKind.u8 (HPair.kind p), V.int IntKind.i64 (HPair.num p), V.str (HPair.text p)]) l)) (1000000 : Nat)) (cond (ile (0 : Int) (N.findIx (HPair.key p) (List.drop (0 : Nat) (List.map (fun r => { key := V.toStr (List.getD r (0 : Nat) V.undef), kind := V.toInt (List.getD r (1 : Nat) V.undef), num := V.toInt (List.getD r (2 : Nat) V.undef), text := V.toStr (List.getD r (3 : Nat) V.undef) : HPair }) (List.map (fun p => [V.str (HPair.key p), V.int IntKind.u8 (HPair.kind p), V.int IntKind.i64 (HPair.num p), V.str (HPair.text p)]) l))) (0 : Int))) (some { v := V.int IntKind.i64 (9 : Int), bx := [] : DRes }) (some { v := V.int IntKind.i64 (0 : Int), bx := [] : DRes })) (none)) (none))) (cond ((↑(List.length (List.map (fun p => [V.str (HPair.key p), V.int IntKind.u8 (HPair.kind p), V.int IntKind.i64 (HPair.num p), V.str (HPair.text p)]) l)) : Int) == (↑(List.length (List.map (fun p => [V.str (HPair.key p), V.int IntKind.u8 (HPair.kind p), V.int IntKind.i64 (HPair.num p), V.str (HPair.text p)]) l)) : Int)) (cond (Nat.ble (List.length (List.map (fun p => [V.str (HPair.key p), V.int IntKind.u8 (HPair.kind p), V.int IntKind.i64 (HPair.num p), V.str (HPair.text p)]) l)) (1000000 : Nat)) (cond (ile (0 : Int) (N.findIx (HPair.key p) (List.drop (0 : Nat) (List.map (fun r => { key := V.toStr (List.getD r (0 : Nat) V.undef), kind := V.toInt (List.getD r (1 : Nat) V.undef), num := V.toInt (List.getD r (2 : Nat) V.undef), text := V.toStr (List.getD r (3 : Nat) V.undef) : HPair }) (List.map (fun p => [V.str (HPair.key p), V.int IntKind.u8 (HPair.kind p), V.int IntKind.i64 (HPair.num p), V.str (HPair.text p)]) l))) (0 : Int))) (some { v := V.int IntKind.i64 (9 : Int), bx := [] : DRes }) (some { v := V.int IntKind.i64 (0 : Int), bx := [] : DRes })) (none)) (none)))))) (cond (HPair.kind p == (2 : Int)) (cond (ilt (HPair.num p) (0 : Int)) (some { v := V.int IntKind.i64 (7 : Int), bx := [] : DRes }) (cond (ilt (1 : Int) (HPair.num p)) (some { v := V.int IntKind.i64 (7 : Int), bx := [] : DRes }) (cond (HPair.kind p == (1 : Int)) (cond (HPair.num p != (0 : Int)) (some { v := V.int IntKind.i64 (4 : Int), bx := [] : DRes }) (cond (HPair.kind p != (1 : Int)) (cond (!HPair.text p == []) (some { v := V.int IntKind.i64 (4 : Int), bx := [] : DRes }) (cond ((↑(List.length (List.map (fun p => [V.str (HPair.key p), V.int IntKind.u8 (HPair.kind p), V.int IntKind.i64 (HPair.num p), V.str (HPair.text p)]) l)) : Int) == (↑(List.length (List.map (fun p => [V.str (HPair.key p), V.int IntKind.u8 (HPair.kind p), V.int IntKind.i64 (HPair.num p), V.str (HPair.text p)]) l)) : Int)) (cond (Nat.ble (List.length (List.map (fun p => [V.str (HPair.key p), V.int IntKind.u8 (HPair.kind p), V.int IntKind.i64 (HPair.num p), V.str (HPair.text p)]) l)) (1000000 : Nat)) (cond (ile (0 : Int) (N.findIx (HPair.key p) (List.drop (0 : Nat) (List.map (fun r => { key := V.toStr (List.getD r (0 : Nat) V.undef), kind := V.toInt (List.getD r (1 : Nat) V.undef), num := V.toInt (List.getD r (2 : Nat) V.undef), text := V.toStr (List.getD r (3 : Nat) V.undef) : HPair }) (List.map (fun p => [V.str (HPair.key p), V.int IntKind.u8 (HPair.kind p), V.int IntKind.i64 (HPair.num p), V.str (HPair.text p)]) l))) (0 : Int))) (some { v := V.int IntKind.i64 (9 : Int), bx := [] : DRes }) (some { v := V.int IntKind.i64 (0 : Int), bx := [] : DRes })) (none)) (none))) (cond ((↑(List.length (List.map (fun p => [V.str (HPair.key p), V.int IntKind.u8 (HPair.kind p), V.int IntKind.i64 (HPair.num p), V.str (HPair.text p)]) l)) : Int) == (↑(List.length (List.map (fun p => [V.str (HPair.key p), V.int IntKind.u8 (HPair.kind p), V.int IntKind.i64 (HPair.num p), V.str (HPair.text p)]) l)) : Int)) (cond (Nat.ble (List.length (List.map (fun p => [V.str (HPair.key p), V.int IntKind.u8 (HPair.kind p), V.int IntKind.i64 (HPair.num p), V.str (HPair.text p)]) l)) (1000000 : Nat)) (cond (ile (0 : Int) (N.findIx (HPair.key p) (List.drop (0 : Nat) (List.map (fun r => { key := V.toStr (List.getD r (0 : Nat) V.undef), kind := V.toInt (List.getD r (1 : Nat) V.undef), num := V.toInt (List.getD r (2 : Nat) V.undef), text := V.toStr (List.getD r (3 : Nat) V.undef) : HPair }) (List.map (fun p => [V.str (HPair.key p), V.int IntKind.u8 (HPair.kind p), V.int IntKind.i64 (HPair.num p), V.str (HPair.text p)]) l))) (0 : Int))) (some { v := V.int IntKind.i64 (9 : Int), bx := [] : DRes }) (some { v := V.int IntKind.i64 (0 : Int), bx := [] : DRes })) (none)) (none)))) (cond (HPair.kind p != (1 : Int)) (cond (!HPair.text p == []) (some { v := V.int IntKind.i64 (4 : Int), bx := [] : DRes }) (cond ((↑(List.length (List.map (fun p => [V.str (HPair.key p), V.int IntKind.u8 (HPair.kind p), V.int IntKind.i64 (HPair.num p), V.str (HPair.text p)]) l)) : Int) == (↑(List.length (List.map (fun p => [V.str (HPair.key p), V.int IntKind.u8 (HPair.kind p), V.int IntKind.i64 (HPair.num p), V.str (HPair.text p)]) l)) : Int)) (cond (Nat.ble (List.length (List.map (fun p => [V.str (HPair.key p), V.int IntKind.u8 (HPair.kind p), V.int IntKind.i64 (HPair.num p), V.str (HPair.text p)]) l)) (1000000 : Nat)) (cond (ile (0 : Int) (N.findIx (HPair.key p) (List.drop (0 : Nat) (List.map (fun r => { key := V.toStr (List.getD r (0 : Nat) V.undef), kind := V.toInt (List.getD r (1 : Nat) V.undef), num := V.toInt (List.getD r (2 : Nat) V.undef), text := V.toStr (List.getD r (3 : Nat) V.undef) : HPair }) (List.map (fun p => [V.str (HPair.key p), V.int IntKind.u8 (HPair.kind p), V.int IntKind.i64 (HPair.num p), V.str (HPair.text p)]) l))) (0 : Int))) (some { v := V.int IntKind.i64 (9 : Int), bx := [] : DRes }) (some { v := V.int IntKind.i64 (0 : Int), bx := [] : DRes })) (none)) (none))) (cond ((↑(List.length (List.map (fun p => [V.str (HPair.key p), V.int IntKind.u8 (HPair.kind p), V.int IntKind.i64 (HPair.num p), V.str (HPair.text p)]) l)) : Int) == (↑(List.length (List.map (fun p => [V.str (HPair.key p), V.int IntKind.u8 (HPair.kind p), V.int IntKind.i64 (HPair.num p), V.str (HPair.text p)]) l)) : Int)) (cond (Nat.ble (List.length (List.map (fun p => [V.str (HPair.key p), V.int IntKind.u8 (HPair.kind p), V.int IntKind.i64 (HPair.num p), V.str (HPair.text p)]) l)) (1000000 : Nat)) (cond (ile (0 : Int) (N.findIx (HPair.key p) (List.drop (0 : Nat) (List.map (fun r => { key := V.toStr (List.getD r (0 : Nat) V.undef), kind := V.toInt (List.getD r (1 : Nat) V.undef), num := V.toInt (List.getD r (2 : Nat) V.undef), text := V.toStr (List.getD r (3 : Nat) V.undef) : HPair }) (List.map (fun p => [V.str (HPair.key p), V.int IntKind.u8 (HPair.kind p), V.int IntKind.i64 (HPair.num p), V.str (HPair.text p)]) l))) (0 : Int))) (some { v := V.int IntKind.i64 (9 : Int), bx := [] : DRes }) (some { v := V.int IntKind.i64 (0 : Int), bx := [] : DRes })) (none)) (none)))))) (cond (HPair.kind p == (1 : Int)) (cond (HPair.num p != (0 : Int)) (some { v := V.int IntKind.i64 (4 : Int), bx := [] : DRes }) (cond (HPair.kind p != (1 : Int)) (cond (!HPair.text p == []) (some { v := V.int IntKind.i64 (4 : Int), bx := [] : DRes }) (cond ((↑(List.length (List.map (fun p => [V.str (HPair.key p), V.int IntKind.u8 (HPair.kind p), V.int IntKind.i64 (HPair.num p), V.str (HPair.text p)]) l)) : Int) == (↑(List.length (List.map (fun p => [V.str (HPair.key p), V.int IntKind.u8 (HPair.kind p), V.int IntKind.i64 (HPair.num p), V.str (HPair.text p)]) l)) : Int)) (cond (Nat.ble (List.length (List.map (fun p => [V.str (HPair.key p), V.int IntKind.u8 (HPair.kind p), V.int IntKind.i64 (HPair.num p), V.str (HPair.text p)]) l)) (1000000 : Nat)) (cond (ile (0 : Int) (N.findIx (HPair.key p) (List.drop (0 : Nat) (List.map (fun r => { key := V.toStr (List.getD r (0 : Nat) V.undef), kind := V.toInt (List.getD r (1 : Nat) V.undef), num := V.toInt (List.getD r (2 : Nat) V.undef), text := V.toStr (List.getD r (3 : Nat) V.undef) : HPair }) (List.map (fun p => [V.str (HPair.key p), V.int IntKind.u8 (HPair.kind p), V.int IntKind.i64 (HPair.num p), V.str (HPair.text p)]) l))) (0 : Int))) (some { v := V.int IntKind.i64 (9 : Int), bx := [] : DRes }) (some { v := V.int IntKind.i64 (0 : Int), bx := [] : DRes })) (none)) (none))) (cond ((↑(List.length (List.map (fun p => [V.str (HPair.key p), V.int IntKind.u8 (HPair.kind p), V.int IntKind.i64 (HPair.num p), V.str (HPair.text p)]) l)) : Int) == (↑(List.length (List.map (fun p => [V.str (HPair.key p), V.int IntKind.u8 (HPair.kind p), V.int IntKind.i64 (HPair.num p), V.str (HPair.text p)]) l)) : Int)) (cond (Nat.ble (List.length (List.map (fun p => [V.str (HPair.key p), V.int IntKind.u8 (HPair.kind p), V.int IntKind.i64 (HPair.num p), V.str (HPair.text p)]) l)) (1000000 : Nat)) (cond (ile (0 : Int) (N.findIx (HPair.key p) (List.drop (0 : Nat) (List.map (fun r => { key := V.toStr (List.getD r (0 : Nat) V.undef), kind := V.toInt (List.getD r (1 : Nat) V.undef), num := V.toInt (List.getD r (2 : Nat) V.undef), text := V.toStr (List.getD r (3 : Nat) V.undef) : HPair }) (List.map (fun p => [V.str (HPair.key p), V.int IntKind.u8 (HPair.kind p), V.int IntKind.i64 (HPair.num p), V.str (HPair.text p)]) l))) (0 : Int))) (some { v := V.int IntKind.i64 (9 : Int), bx := [] : DRes }) (some { v := V.int IntKind.i64 (0 : Int), bx := [] : DRes })) (none)) (none)))) (cond (HPair.kind p != (1 : Int)) (cond (!HPair.text p == []) (some { v := V.int IntKind.i64 (4 : Int), bx := [] : DRes }) (cond ((↑(List.length (List.map (fun p => [V.str (HPair.key p), V.int IntKind.u8 (HPair.kind p), V.int IntKind.i64 (HPair.num p), V.str (HPair.text p)]) l)) : Int) == (↑(List.length (List.map (fun p => [V.str (HPair.key p), V.int IntKind.u8 (HPair.kind p), V.int IntKind.i64 (HPair.num p), V.str (HPair.text p)]) l)) : Int)) (cond (Nat.ble (List.length (List.map (fun p => [V.str (HPair.key p), V.int IntKind.u8 (HPair.kind p), V.int IntKind.i64 (HPair.num p), V.str (HPair.text p)]) l)) (1000000 : Nat)) (cond (ile (0 : Int) (N.findIx (HPair.key p) (List.drop (0 : Nat) (List.map (fun r => { key := V.toStr (List.getD r (0 : Nat) V.undef), kind := V.toInt (List.getD r (1 : Nat) V.undef), num := V.toInt (List.getD r (2 : Nat) V.undef), text := V.toStr (List.getD r (3 : Nat) V.undef) : HPair }) (List.map (fun p => [V.str (HPair.key p), V.int IntKind.u8 (HPair.kind p), V.int IntKind.i64 (HPair.num p), V.str (HPair.text p)]) l))) (0 : Int))) (some { v := V.int IntKind.i64 (9 : Int), bx := [] : DRes }) (some { v := V.int IntKind.i64 (0 : Int), bx := [] : DRes })) (none)) (none))) (cond ((↑(List.length (List.map (fun p => [V.str (HPair.key p), V.int IntKind.u8 (HPair.kind p), V.int IntKind.i64 (HPair.num p), V.str (HPair.text p)]) l)) : Int) == (↑(List.length (List.map (fun p => [V.str (HPair.key p), V.int IntKind.u8 (HPair.kind p), V.int IntKind.i64 (HPair.num p), V.str (HPair.text p)]) l)) : Int)) (cond (Nat.ble (List.length (List.map (fun p => [V.str (HPair.key p), V.int IntKind.u8 (HPair.kind p), V.int IntKind.i64 (HPair.num p), V.str (HPair.text p)]) l)) (1000000 : Nat)) (cond (ile (0 : Int) (N.findIx (HPair.key p) (List.drop (0 : Nat) (List.map (fun r => { key := V.toStr (List.getD r (0 : Nat) V.undef), kind := V.toInt (List.getD r (1 : Nat) V.undef), num := V.toInt (List.getD r (2 : Nat) V.undef), text := V.toStr (List.getD r (3 : Nat) V.undef) : HPair }) (List.map (fun p => [V.str (HPair.key p), V.int IntKind.u8 (HPair.kind p), V.int IntKind.i64 (HPair.num p), V.str (HPair.text p)]) l))) (0 : Int))) (some { v := V.int IntKind.i64 (9 : Int), bx := [] : DRes }) (some { v := V.int IntKind.i64 (0 : Int), bx := [] : DRes })) (none)) (none))))))) := by kernel_rfl
theorem q_refPairR (r57 : List (List V)) (i58 : Int) (i59 : Int) (sx0 : Bytes) (ix0 : Int) (ix0_1 : Int) (sx0_1 : Bytes) (K : Ex → St → Option R) : evRound eRefPair 79 13 { fr := [(2, .ptr 10000 0 0 0), (57, .slc [.str, .int .u8, .int .i64, .str] r57), (58, .int .i64 i58), (59, .int .i64 i59)], tab := [(10000, .var [.str sx0, .int .u8 ix0, .int .i64 ix0_1, .str sx0_1])] } K =
 cond (ilt i59 i58) (cond (decide ((0 : Int) ≤ i59 ∧ i59 < (↑(List.length r57) : Int))) (cond (V.toStr (List.getD (List.getD r57 (Int.toNat i59) []) (0 : Nat) V.undef) == sx0) (K Ex.ret { fr := [((4 : Nat), V.int IntKind.i64 (9 : Int))], tab := [] : St }) (K Ex.normal { fr := [((2 : Nat), V.ptr (10000 : Nat) (0 : Nat) (0 : Nat) (0 : Nat)), ((57 : Nat), V.slc [Sh.str, Sh.int IntKind.u8, Sh.int IntKind.i64, Sh.str] r57), ((58 : Nat), V.int IntKind.i64 i58), ((59 : Nat), V.int IntKind.i64 (IntKind.wrap IntKind.i64 (i59 + (1 : Int))))], tab := [((10000 : Nat), Box.var [V.str sx0, V.int IntKind.u8 ix0, V.int IntKind.i64 ix0_1, V.str sx0_1])] : St })) (none)) (K (Ex.exit (0 : Nat)) { fr := [], tab := [] : St }) := by kernel_rfl
theorem ok_refPair : FnOk Tryz.prog 79 dPairE := by
  refine den_okF (env_ok ((TOk.nil _).cons ok_refName)) (E := eRefPair) Tryz.func79 [13] (by kernel_rfl) (one1 (rounds_of rfl fun l K q h => ?_)) fun a _ h => ?_
  · unfold gRefPair at h
    split at h
    · rename_i r n i key x1 x2 x3
      have h1 := (cond_none h).1; replace h := (cond_none h).2; have h2 := (cond_none h).1; replace h := (cond_none h).2; have h3 := (cond_none h).1; replace h := (cond_none h).2
      have e1 := ieq_of h1
      subst e1
      have h3 : r.length ≤ 1000000 := ble_of h3
      refine loop_ind (E := eRefPair) (f := 79) (id := 13) (fun i : Int => { fr := [(2, .ptr 10000 0 0 0), (57, .slc [.str, .int .u8, .int .i64, .str] r), (58, .int .i64 r.length), (59, .int .i64 i)], tab := [(10000, .var [.str key, .int .u8 x1, .int .i64 x2, .str x3])] }) (fun i => 0 ≤ i) (fun i => r.length - i.toNat)
        (fun i K => cond (ile 0 (N.findIx key ((rowsP r).drop i.toNat) i)) (K .ret { fr := [(4, .int .i64 9)], tab := [] }) (K (.exit 0) { fr := [], tab := [] })) (fun i hi => ?_) i (ile_of h2) K q (by assumption)
      by_cases hl : i < r.length
      · rw [drop_pair (show i.toNat < r.length by omega)]
        have e : N.findIx key (rowP (r.getD i.toNat []) :: (rowsP r).drop (i.toNat + 1)) i = cond ((rowP (r.getD i.toNat [])).key == key) i (N.findIx key ((rowsP r).drop (i.toNat + 1)) (i + 1)) := rfl
        rw [e]
        cases hc : (rowP (r.getD i.toNat [])).key == key with
        | true =>
          rw [cond_true, ile_t hi]
          refine .inr ⟨.ret, { fr := [(4, .int .i64 9)], tab := [] }, by simp, fun K => ?_, fun K => rfl⟩
          rw [q_refPairR]
          unfold rowP at hc
          simp (disch := omega) only [evs, hc]
        | false =>
          refine .inl ⟨i + 1, by omega, by omega, fun K => ?_, fun K => ?_⟩
          · rw [q_refPairR]
            unfold rowP at hc
            simp (disch := omega) only [evs, hc]
          · rw [cond_false, show (i + 1).toNat = i.toNat + 1 by omega]
      · refine .inr ⟨.exit 0, { fr := [], tab := [] }, by simp, fun K => ?_, fun K => ?_⟩
        · rw [q_refPairR]
          simp (disch := omega) only [evs]
        · rw [List.drop_eq_nil_of_le (by rw [rowsP_length]; omega)]; rfl
    · cases h
  · obtain ⟨p, l⟩ := a
    have h : l.length ≤ 1000000 := ble_of h
    refine (q_refPair p l).trans ?_
    show _ = some (⟨.int .i64 (N.pairE p l), [], []⟩ : DRes)
    unfold N.pairE N.find
    have en : (cond (p.num != 0) (p.num != 1) false) = cond (ilt p.num 0) true (ilt 1 p.num) := by
      rcases (by omega : p.num < 0 ∨ p.num = 0 ∨ p.num = 1 ∨ 1 < p.num) with h | h | h | h
      · simp (disch := omega) only [evs]
      · rw [h]; rfl
      · rw [h]; rfl
      · simp (disch := omega) only [evs]
    have en' : cond (cond (p.kind == 2) (p.num != 0) false) (p.num != 1) false = cond (p.kind == 2) (cond (ilt p.num 0) true (ilt 1 p.num)) false := by
      rw [← en]; cases p.kind == 2 <;> rfl
    rw [en']
    have ef : (cond (ilt (N.findIx p.key l 0) 0) (pair0, false) (l.getD (N.findIx p.key l 0).toNat pair0, true)).2 = ile 0 (N.findIx p.key l 0) := by
      by_cases h : N.findIx p.key l 0 < 0
      · simp (disch := omega) only [evs]
      · simp (disch := omega) only [evs]
    rw [ef]
    simp (disch := omega) only [evs, pairs_enc, List.drop_zero, bne]
    cases hn : N.name p.key == 0 with
    | false => rfl
    | true =>
      cases ilt 2 p.kind with
      | true => rfl
      | false =>
        cases p.kind == 1 <;> cases ilt 64 p.text.length <;> cases p.kind == 2 <;> cases ilt p.num 0 <;> cases ilt 1 p.num <;> cases p.num == 0 <;> cases p.text == [] <;> cases ile 0 (N.findIx p.key l 0) <;> rfl
end Go.Ev

/- The document's function that checks heads answers what the plain one does: lemmas. -/
namespace Go.Ev
open Go Go.Proofs
set_option maxRecDepth 100000

def schRefCheck : SSch := { fr := [(0, .slc [.str, .int .u8, .int .i64, .str]), (9, .slc [.str, .int .u8, .int .i64, .str]), (10, .int .i64), (11, .int .i64)], tab := [] }
def gRefCheck : List Leaf → (Ex → St → Option R) → Option R
  | [.r r0, .r r9, .i i10, .i i11], K => cond (i10 == r9.length) (cond (Nat.beq r0.length r9.length) (cond (ile 0 i11) (cond (Nat.ble r0.length LIM) (cond (N.samePs (rowsP r0) (rowsP r9))
      (cond (N.checkFrom (rowsP r9) (r9.length - i11.toNat) i11 != 0) (K .ret { fr := [(2, .int .i64 (N.checkFrom (rowsP r9) (r9.length - i11.toNat) i11))], tab := [] }) (K (.exit 0) { fr := [], tab := [] })) none) none) none) none) none
  | _, _ => none
noncomputable def eRefCheck : Env := env Tryz.prog [(79, dPairE)] [(4, loopF schRefCheck gRefCheck)] [(4, [(0, [0, 9, 10, 11]), (1, []), (1000, [2])])]
theorem q_refCheck (h : List HPair) : evFn eRefCheck 34 ((aOne (vSl cPair)).enc h) ([]) some =
 cond (ilt (8 : Int) (↑(List.length (List.map (fun p => [V.str (HPair.key p), V.int IntKind.u8 (HPair.kind p), V.int IntKind.i64 (HPair.num p), V.str (HPair.text p)]) h)) : Int)) (some { v := V.int IntKind.i64 (6 : Int), bx := [] : DRes }) (cond ((↑(List.length (List.map (fun p => [V.str (HPair.key p), V.int IntKind.u8 (HPair.kind p), V.int IntKind.i64 (HPair.num p), V.str (HPair.text p)]) h)) : Int) == (↑(List.length (List.map (fun p => [V.str (HPair.key p), V.int IntKind.u8 (HPair.kind p), V.int IntKind.i64 (HPair.num p), V.str (HPair.text p)]) h)) : Int)) (cond (Nat.beq (List.length (List.map (fun p => [V.str (HPair.key p), V.int IntKind.u8 (HPair.kind p), V.int IntKind.i64 (HPair.num p), V.str (HPair.text p)]) h)) (List.length (List.map (fun p => [V.str (HPair.key p), V.int IntKind.u8 (HPair.kind p), V.int IntKind.i64 (HPair.num p), V.str (HPair.text p)]) h))) (cond (Nat.ble (List.length (List.map (fun p => [V.str (HPair.key p), V.int IntKind.u8 (HPair.kind p), V.int IntKind.i64 (HPair.num p), V.str (HPair.text p)]) h)) (1000000 : Nat)) (cond (N.samePs (List.map (fun r => { key := V.toStr (List.getD r (0 : Nat) V.undef), kind := V.toInt (List.getD r (1 : Nat) V.undef), num := V.toInt (List.getD r (2 : Nat) V.undef), text := V.toStr (List.getD r (3 : Nat) V.undef) : HPair }) (List.map (fun p => [V.str (HPair.key p), V.int IntKind.u8 (HPair.kind p), V.int IntKind.i64 (HPair.num p), V.str (HPair.text p)]) h)) (List.map (fun r => { key := V.toStr (List.getD r (0 : Nat) V.undef), kind := V.toInt (List.getD r (1 : Nat) V.undef), num := V.toInt (List.getD r (2 : Nat) V.undef), text := V.toStr (List.getD r (3 : Nat) V.undef) : HPair }) (List.map (fun p => [V.str (HPair.key p), V.int IntKind.u8 (HPair.kind p), V.int IntKind.i64 (HPair.num p), V.str (HPair.text p)]) h))) (cond (N.checkFrom (List.map (fun r => { key := V.toStr (List.getD r (0 : Nat) V.undef), kind := V.toInt (List.getD r (1 : Nat) V.undef), num := V.toInt (List.getD r (2 : Nat) V.undef), text := V.toStr (List.getD r (3 : Nat) V.undef) : HPair }) (List.map (fun p => [V.str (HPair.key p), V.int IntKind.u8 (HPair.kind p), V.int IntKind.i64 (HPair.num p), V.str (HPair.text p)]) h)) (List.length (List.map (fun p => [V.str (HPair.key p), V.int IntKind.u8 (HPair.kind p), V.int IntKind.i64 (HPair.num p), V.str (HPair.text p)]) h) - (0 : Nat)) (0 : Int) != (0 : Int)) (some { v := V.int IntKind.i64 (N.checkFrom (List.map (fun r => { key := V.toStr (List.getD r (0 : Nat) V.undef), kind := V.toInt (List.getD r (1 : Nat) V.undef), num := V.toInt (List.getD r (2 : Nat) V.undef), text := V.toStr (List.getD r (3 : Nat) V.undef) : HPair }) (List.map (fun p => [V.str (HPair.key p), V.int IntKind.u8 (HPair.kind p), V.int IntKind.i64 (HPair.num p), V.str (HPair.text p)]) h)) (List.length (List.map (fun p => [V.str (HPair.key p), V.int IntKind.u8 (HPair.kind p), V.int IntKind.i64 (HPair.num p), V.str (HPair.text p)]) h) - (0 : Nat)) (0 : Int)), bx := [] : DRes }) (some { v := V.int IntKind.i64 (0 : Int), bx := [] : DRes })) (none)) (none)) (none)) (none)) := by kernel_rfl
theorem q_refCheckR (r0 : List (List V)) (r9 : List (List V)) (i11 : Int) (K : Ex → St → Option R) : evRound eRefCheck 34 4 { fr := [(0, .slc [.str, .int .u8, .int .i64, .str] r0), (9, .slc [.str, .int .u8, .int .i64, .str] r9), (10, .int .i64 r9.length), (11, .int .i64 i11)], tab := [] } K =
 cond (ilt i11 (↑(List.length r9) : Int)) (cond (decide ((0 : Int) ≤ i11 ∧ i11 < (↑(List.length r9) : Int))) (cond (decide ((0 : Int) ≤ i11 ∧ i11 ≤ (↑(List.length r0) : Int))) (cond (Nat.ble (List.length (List.map (fun r => { key := V.toStr (List.getD r (0 : Nat) V.undef), kind := V.toInt (List.getD r (1 : Nat) V.undef), num := V.toInt (List.getD r (2 : Nat) V.undef), text := V.toStr (List.getD r (3 : Nat) V.undef) : HPair }) (List.drop (0 : Nat) (List.take (Int.toNat i11) r0)))) (1000000 : Nat)) (cond (N.pairE { key := V.toStr (List.getD (List.getD r9 (Int.toNat i11) []) (0 : Nat) V.undef), kind := V.toInt (List.getD (List.getD r9 (Int.toNat i11) []) (1 : Nat) V.undef), num := V.toInt (List.getD (List.getD r9 (Int.toNat i11) []) (2 : Nat) V.undef), text := V.toStr (List.getD (List.getD r9 (Int.toNat i11) []) (3 : Nat) V.undef) : HPair } (List.map (fun r => { key := V.toStr (List.getD r (0 : Nat) V.undef), kind := V.toInt (List.getD r (1 : Nat) V.undef), num := V.toInt (List.getD r (2 : Nat) V.undef), text := V.toStr (List.getD r (3 : Nat) V.undef) : HPair }) (List.drop (0 : Nat) (List.take (Int.toNat i11) r0))) != (0 : Int)) (K Ex.ret { fr := [((2 : Nat), V.int IntKind.i64 (N.pairE { key := V.toStr (List.getD (List.getD r9 (Int.toNat i11) []) (0 : Nat) V.undef), kind := V.toInt (List.getD (List.getD r9 (Int.toNat i11) []) (1 : Nat) V.undef), num := V.toInt (List.getD (List.getD r9 (Int.toNat i11) []) (2 : Nat) V.undef), text := V.toStr (List.getD (List.getD r9 (Int.toNat i11) []) (3 : Nat) V.undef) : HPair } (List.map (fun r => { key := V.toStr (List.getD r (0 : Nat) V.undef), kind := V.toInt (List.getD r (1 : Nat) V.undef), num := V.toInt (List.getD r (2 : Nat) V.undef), text := V.toStr (List.getD r (3 : Nat) V.undef) : HPair }) (List.drop (0 : Nat) (List.take (Int.toNat i11) r0)))))], tab := [] : St }) (K Ex.normal { fr := [((0 : Nat), V.slc [Sh.str, Sh.int IntKind.u8, Sh.int IntKind.i64, Sh.str] r0), ((9 : Nat), V.slc [Sh.str, Sh.int IntKind.u8, Sh.int IntKind.i64, Sh.str] r9), ((10 : Nat), V.int IntKind.i64 (↑(List.length r9) : Int)), ((11 : Nat), V.int IntKind.i64 (IntKind.wrap IntKind.i64 (i11 + (1 : Int))))], tab := [] : St })) (none)) (none)) (none)) (K (Ex.exit (0 : Nat)) { fr := [], tab := [] : St }) := by kernel_rfl
theorem ok_refCheck : FnOk Tryz.prog 34 dHeadCheck := by
  refine den_okF (env_ok ((TOk.nil _).cons ok_refPair)) (E := eRefCheck) Tryz.func34 [4] (by kernel_rfl) (one1 (rounds_of rfl fun l K q h => ?_)) fun h _ _ => ?_
  · unfold gRefCheck at h
    split at h
    · rename_i r0 r n i
      have h1 := (cond_none h).1; replace h := (cond_none h).2; have h2 := (cond_none h).1; replace h := (cond_none h).2; have h3 := (cond_none h).1; replace h := (cond_none h).2; have h4 := (cond_none h).1; replace h := (cond_none h).2; have h5 := (cond_none h).1; replace h := (cond_none h).2
      have e1 := ieq_of h1
      subst e1
      have h2 := Nat.eq_of_beq_eq_true h2
      have h4 : r0.length ≤ 1000000 := ble_of h4
      have h5 := samePs_eq h5
      refine loop_ind (E := eRefCheck) (f := 34) (id := 4) (fun i : Int => { fr := [(0, .slc [.str, .int .u8, .int .i64, .str] r0), (9, .slc [.str, .int .u8, .int .i64, .str] r), (10, .int .i64 r.length), (11, .int .i64 i)], tab := [] }) (fun i => 0 ≤ i) (fun i => r.length - i.toNat)
        (fun i11 K => cond (N.checkFrom (rowsP r) (r.length - i11.toNat) i11 != 0) (K .ret { fr := [(2, .int .i64 (N.checkFrom (rowsP r) (r.length - i11.toNat) i11))], tab := [] }) (K (.exit 0) { fr := [], tab := [] })) (fun i hi => ?_) i (ile_of h3) K q (by assumption)
      by_cases hl : i < r.length
      · have e : N.checkFrom (rowsP r) (r.length - i.toNat) i = cond (N.pairE (rowP (r.getD i.toNat [])) ((rowsP r).take i.toNat) != 0) (N.pairE (rowP (r.getD i.toNat [])) ((rowsP r).take i.toNat)) (N.checkFrom (rowsP r) (r.length - (i + 1).toNat) (i + 1)) := by
          rw [show r.length - i.toNat = (r.length - (i + 1).toNat) + 1 by omega, N.checkFrom, rowsP_getD]
        rw [e]
        have hm : List.map rowP (List.take i.toNat r0) = (rowsP r).take i.toNat := by rw [← h5, rowsP, List.map_take]
        unfold rowP at hm
        cases hc : N.pairE (rowP (r.getD i.toNat [])) ((rowsP r).take i.toNat) != 0 with
        | true =>
          rw [cond_true, hc]
          refine .inr ⟨.ret, _, by simp, fun K => ?_, fun K => rfl⟩
          rw [q_refCheckR]
          unfold rowP at hc
          simp (disch := omega) only [evs, hc, hm, List.length_take, List.drop_zero]
          rfl
        | false =>
          refine .inl ⟨i + 1, by omega, by omega, fun K => ?_, fun K => ?_⟩
          · rw [q_refCheckR]
            unfold rowP at hc
            simp (disch := omega) only [evs, hc, hm, List.length_take, List.drop_zero]
          · rw [cond_false]
      · refine .inr ⟨.exit 0, { fr := [], tab := [] }, by simp, fun K => ?_, fun K => ?_⟩
        · rw [q_refCheckR]
          simp (disch := omega) only [evs]
        · rw [show r.length - i.toNat = 0 by omega]; rfl
    · cases h
  · refine (q_refCheck h).trans ?_
    show _ = some (⟨.int .i64 (N.headCheck h), [], []⟩ : DRes)
    unfold N.headCheck
    by_cases hl : 8 < h.length
    · simp (disch := omega) only [evs]
    · simp (disch := omega) only [evs, pairs_enc, samePs_refl, Nat.sub_zero]
      cases hc : N.checkFrom h h.length 0 != 0 with
      | true => rfl
      | false =>
        have : N.checkFrom h h.length 0 = 0 := by simpa using hc
        rw [this]; rfl
end Go.Ev

/- The functions on rules answer what the plain ones do: lemmas, no condition. -/
namespace Go.Ev
open Go Go.Proofs
set_option maxRecDepth 100000

end Go.Ev

/- The document's function that reads heads answers what the plain one does: lemmas. -/
namespace Go.Ev
open Go Go.Proofs
set_option maxRecDepth 100000

end Go.Ev

/- What the statement on same heads reckons: lemmas; the function that writes numbers is a premise. -/
namespace Go.Ev
open Go Go.Proofs
set_option maxRecDepth 100000

noncomputable def eAw4' : Env := env Tryz.prog [(123, dTrueW)] [] []
theorem q_aw4'  : evFn eAw4' 75 [] [] some =
 some { v := V.bool true, bx := [] : DRes } := by kernel_rfl
theorem ok_aw4' : FnOk Tryz.prog 75 dTrue := den_okF (env_ok ((TOk.nil _).cons ok_awW)) (E := eAw4') Tryz.func75 [] (by kernel_rfl) none0 fun _ _ _ => q_aw4'
noncomputable def eAw9 : Env := env Tryz.prog [(157, dHeadBytes), (173, dTrue), (75, dTrue)] [] []
theorem q_aw9  : evFn eAw9 162 [] [] some =
 some { v := V.bool true, bx := [] : DRes } := by kernel_rfl
theorem ok_aw9 (hN : FnOk Tryz.prog 158 dOutNum) : FnOk Tryz.prog 162 dTrue :=
  den_okF (env_ok ((((TOk.nil _).cons ok_aw4').cons (ok_aw1' hN)).cons (ok_headBytes hN))) (E := eAw9) Tryz.func162 [] (by kernel_rfl) none0 fun _ _ _ => q_aw9
theorem light_small {h : List HPair} (hl : N.light h = true) : h.length ≤ 12 := by
  unfold N.light at hl
  cases e : ilt 12 h.length with
  | true => rw [e] at hl; cases hl
  | false => have := ilt_nof e; omega
end Go.Ev

/- What was written is read again: lemmas on the plain functions. -/
namespace Go.Ev
open Go

end Go.Ev

/- The document's functions that write heads answer what the plain ones do: lemmas; its function that writes numbers is a premise. -/
namespace Go.Ev
open Go Go.Proofs
set_option maxRecDepth 100000

namespace N
end N
end Go.Ev

/- The document's function that writes numbers answers what the plain one does: lemmas, no condition. -/
namespace Go.Ev
open Go Go.Proofs
set_option maxRecDepth 100000

end Go.Ev

/- The functions on messages answer what the plain ones do: lemmas; the function that writes numbers is a premise. -/
namespace Go.Ev
open Go Go.Proofs
set_option maxRecDepth 100000

noncomputable def eClone : Env := env Tryz.prog [] [] []
theorem q_clone (l : List HPair) : evFn eClone 143 ((aOne (vSl cPair)).enc l) ([]) some =
 cond (!Nat.beq (List.length (List.map (fun p => [V.str (HPair.key p), V.int IntKind.u8 (HPair.kind p), V.int IntKind.i64 (HPair.num p), V.str (HPair.text p)]) l)) (0 : Nat)) (cond (Nat.beq (List.length (List.map (fun p => [V.str (HPair.key p), V.int IntKind.u8 (HPair.kind p), V.int IntKind.i64 (HPair.num p), V.str (HPair.text p)]) l)) (0 : Nat)) (some { v := V.slc [Sh.str, Sh.int IntKind.u8, Sh.int IntKind.i64, Sh.str] [], bx := [] : DRes }) (cond (decide (List.length (List.map (fun p => [V.str (HPair.key p), V.int IntKind.u8 (HPair.kind p), V.int IntKind.i64 (HPair.num p), V.str (HPair.text p)]) l) * (48 : Nat) ≤ (140737488355328 : Nat))) (some { v := V.slc [Sh.str, Sh.int IntKind.u8, Sh.int IntKind.i64, Sh.str] (List.map (fun p => [V.str (HPair.key p), V.int IntKind.u8 (HPair.kind p), V.int IntKind.i64 (HPair.num p), V.str (HPair.text p)]) l), bx := [] : DRes }) (none))) (none) := by kernel_rfl
theorem q_cloneN  : evFn eClone 143 [.nils [.str, .int .u8, .int .i64, .str]] ([]) some =
 some { v := V.slc [Sh.str, Sh.int IntKind.u8, Sh.int IntKind.i64, Sh.str] [], bx := [] : DRes } := by kernel_rfl
theorem q_cloneE  : evFn eClone 143 [.nn [.str, .int .u8, .int .i64, .str]] ([]) some =
 some { v := V.slc [Sh.str, Sh.int IntKind.u8, Sh.int IntKind.i64, Sh.str] [], bx := [] : DRes } := by kernel_rfl
theorem ok_clone : FnOk Tryz.prog 143 dClone := by
  refine den_of fun l b h => ?_
  have h : l.length ≤ 1000000 := ble_of h
  have fo := fun a r => fn_okF (E := eClone) (env_ok (TOk.nil _)) Tryz.func143 [] (by kernel_rfl) none0 a [] r
  cases l with
  | nil => exact FnOk.empty (fo _ _ q_cloneN) (fo _ _ q_cloneE)
  | cons p r =>
    refine fo _ _ ((q_clone (p :: r)).trans ?_)
    show _ = some (⟨.slc [.str, .int .u8, .int .i64, .str] ((p :: r).map fun p => [V.str p.key, V.int .u8 p.kind, V.int .i64 p.num, V.str p.text]), [], []⟩ : DRes)
    rw [show Nat.beq (List.length ((p :: r).map fun p => [V.str p.key, V.int .u8 p.kind, V.int .i64 p.num, V.str p.text])) 0 = false from rfl]
    simp (disch := omega) only [evs, Bool.not_false]
noncomputable def eMailCopy : Env := env Tryz.prog [(143, dClone)] [] []
theorem q_mailCopy (m : HMail) : evFn eMailCopy 107 ((aOne (vAgg cMail)).enc m) ([]) some =
 cond (Nat.ble (List.length (List.map (fun r => { key := V.toStr (List.getD r (0 : Nat) V.undef), kind := V.toInt (List.getD r (1 : Nat) V.undef), num := V.toInt (List.getD r (2 : Nat) V.undef), text := V.toStr (List.getD r (3 : Nat) V.undef) : HPair }) (List.map (fun p => [V.str (HPair.key p), V.int IntKind.u8 (HPair.kind p), V.int IntKind.i64 (HPair.num p), V.str (HPair.text p)]) (HMail.head m)))) (1000000 : Nat)) (some { v := V.agg [V.int IntKind.u64 (HMail.id m), V.str (HMail.shop m), V.str (HMail.key m), V.slc [Sh.str, Sh.int IntKind.u8, Sh.int IntKind.i64, Sh.str] (List.map (fun p => [V.str (HPair.key p), V.int IntKind.u8 (HPair.kind p), V.int IntKind.i64 (HPair.num p), V.str (HPair.text p)]) (List.map (fun r => { key := V.toStr (List.getD r (0 : Nat) V.undef), kind := V.toInt (List.getD r (1 : Nat) V.undef), num := V.toInt (List.getD r (2 : Nat) V.undef), text := V.toStr (List.getD r (3 : Nat) V.undef) : HPair }) (List.map (fun p => [V.str (HPair.key p), V.int IntKind.u8 (HPair.kind p), V.int IntKind.i64 (HPair.num p), V.str (HPair.text p)]) (HMail.head m)))), V.str (HMail.body m), V.int IntKind.u64 (HMail.due m), V.int IntKind.u8 (HMail.hops m)], bx := [] : DRes }) (none) := by kernel_rfl
theorem ok_mailCopy : FnOk Tryz.prog 107 dMailCopy := by
  refine den_okF (env_ok ((TOk.nil _).cons ok_clone)) (E := eMailCopy) Tryz.func107 [] (by kernel_rfl) none0 fun m _ h => ?_
  have h : m.head.length ≤ 1000000 := ble_of h
  refine (q_mailCopy m).trans ?_
  simp (disch := omega) only [evs, pairs_enc]
  rfl
noncomputable def eMailCheck : Env := env Tryz.prog [(118, dName), (149, dKey), (151, dHeadCheck)] [] []
theorem q_mailCheck (m : HMail) : evFn eMailCheck 144 ((aOne (vAgg cMail)).enc m) ([]) some =
 cond (N.name (HMail.shop m) != (0 : Int)) (some { v := V.int IntKind.i64 (N.name (HMail.shop m)), bx := [] : DRes }) (cond (N.key (HMail.key m) [] != (0 : Int)) (some { v := V.int IntKind.i64 (N.key (HMail.key m) []), bx := [] : DRes }) (cond (N.headCheck (List.map (fun r => { key := V.toStr (List.getD r (0 : Nat) V.undef), kind := V.toInt (List.getD r (1 : Nat) V.undef), num := V.toInt (List.getD r (2 : Nat) V.undef), text := V.toStr (List.getD r (3 : Nat) V.undef) : HPair }) (List.map (fun p => [V.str (HPair.key p), V.int IntKind.u8 (HPair.kind p), V.int IntKind.i64 (HPair.num p), V.str (HPair.text p)]) (HMail.head m))) != (0 : Int)) (some { v := V.int IntKind.i64 (N.headCheck (List.map (fun r => { key := V.toStr (List.getD r (0 : Nat) V.undef), kind := V.toInt (List.getD r (1 : Nat) V.undef), num := V.toInt (List.getD r (2 : Nat) V.undef), text := V.toStr (List.getD r (3 : Nat) V.undef) : HPair }) (List.map (fun p => [V.str (HPair.key p), V.int IntKind.u8 (HPair.kind p), V.int IntKind.i64 (HPair.num p), V.str (HPair.text p)]) (HMail.head m)))), bx := [] : DRes }) (cond (ilt (256 : Int) (↑(List.length (HMail.body m)) : Int)) (some { v := V.int IntKind.i64 (5 : Int), bx := [] : DRes }) (cond (ilt (4 : Int) (HMail.hops m)) (some { v := V.int IntKind.i64 (7 : Int), bx := [] : DRes }) (some { v := V.int IntKind.i64 (0 : Int), bx := [] : DRes }))))) := by kernel_rfl
noncomputable def eRefMailCheck : Env := env Tryz.prog [(125, dName), (32, dRefKey), (34, dHeadCheck)] [] []
theorem q_refMailCheck (m : HMail) : evFn eRefMailCheck 111 ((aOne (vAgg cMail)).enc m) ([]) some =
 cond (N.name (HMail.shop m) == (0 : Int)) (cond (N.refKey (HMail.key m) false == (0 : Int)) (cond (N.headCheck (List.map (fun r => { key := V.toStr (List.getD r (0 : Nat) V.undef), kind := V.toInt (List.getD r (1 : Nat) V.undef), num := V.toInt (List.getD r (2 : Nat) V.undef), text := V.toStr (List.getD r (3 : Nat) V.undef) : HPair }) (List.map (fun p => [V.str (HPair.key p), V.int IntKind.u8 (HPair.kind p), V.int IntKind.i64 (HPair.num p), V.str (HPair.text p)]) (HMail.head m))) == (0 : Int)) (cond (ilt (256 : Int) (↑(List.length (HMail.body m)) : Int)) (some { v := V.int IntKind.i64 (5 : Int), bx := [] : DRes }) (cond (N.headCheck (List.map (fun r => { key := V.toStr (List.getD r (0 : Nat) V.undef), kind := V.toInt (List.getD r (1 : Nat) V.undef), num := V.toInt (List.getD r (2 : Nat) V.undef), text := V.toStr (List.getD r (3 : Nat) V.undef) : HPair }) (List.map (fun p => [V.str (HPair.key p), V.int IntKind.u8 (HPair.kind p), V.int IntKind.i64 (HPair.num p), V.str (HPair.text p)]) (HMail.head m))) == (0 : Int)) (cond (ilt (4 : Int) (HMail.hops m)) (some { v := V.int IntKind.i64 (7 : Int), bx := [] : DRes }) (some { v := V.int IntKind.i64 (N.headCheck (List.map (fun r => { key := V.toStr (List.getD r (0 : Nat) V.undef), kind := V.toInt (List.getD r (1 : Nat) V.undef), num := V.toInt (List.getD r (2 : Nat) V.undef), text := V.toStr (List.getD r (3 : Nat) V.undef) : HPair }) (List.map (fun p => [V.str (HPair.key p), V.int IntKind.u8 (HPair.kind p), V.int IntKind.i64 (HPair.num p), V.str (HPair.text p)]) (HMail.head m)))), bx := [] : DRes })) (some { v := V.int IntKind.i64 (N.headCheck (List.map (fun r => { key := V.toStr (List.getD r (0 : Nat) V.undef), kind := V.toInt (List.getD r (1 : Nat) V.undef), num := V.toInt (List.getD r (2 : Nat) V.undef), text := V.toStr (List.getD r (3 : Nat) V.undef) : HPair }) (List.map (fun p => [V.str (HPair.key p), V.int IntKind.u8 (HPair.kind p), V.int IntKind.i64 (HPair.num p), V.str (HPair.text p)]) (HMail.head m)))), bx := [] : DRes }))) (cond (N.headCheck (List.map (fun r => { key := V.toStr (List.getD r (0 : Nat) V.undef), kind := V.toInt (List.getD r (1 : Nat) V.undef), num := V.toInt (List.getD r (2 : Nat) V.undef), text := V.toStr (List.getD r (3 : Nat) V.undef) : HPair }) (List.map (fun p => [V.str (HPair.key p), V.int IntKind.u8 (HPair.kind p), V.int IntKind.i64 (HPair.num p), V.str (HPair.text p)]) (HMail.head m))) == (0 : Int)) (cond (ilt (4 : Int) (HMail.hops m)) (some { v := V.int IntKind.i64 (7 : Int), bx := [] : DRes }) (some { v := V.int IntKind.i64 (N.headCheck (List.map (fun r => { key := V.toStr (List.getD r (0 : Nat) V.undef), kind := V.toInt (List.getD r (1 : Nat) V.undef), num := V.toInt (List.getD r (2 : Nat) V.undef), text := V.toStr (List.getD r (3 : Nat) V.undef) : HPair }) (List.map (fun p => [V.str (HPair.key p), V.int IntKind.u8 (HPair.kind p), V.int IntKind.i64 (HPair.num p), V.str (HPair.text p)]) (HMail.head m)))), bx := [] : DRes })) (some { v := V.int IntKind.i64 (N.headCheck (List.map (fun r => { key := V.toStr (List.getD r (0 : Nat) V.undef), kind := V.toInt (List.getD r (1 : Nat) V.undef), num := V.toInt (List.getD r (2 : Nat) V.undef), text := V.toStr (List.getD r (3 : Nat) V.undef) : HPair }) (List.map (fun p => [V.str (HPair.key p), V.int IntKind.u8 (HPair.kind p), V.int IntKind.i64 (HPair.num p), V.str (HPair.text p)]) (HMail.head m)))), bx := [] : DRes }))) (cond (N.refKey (HMail.key m) false == (0 : Int)) (cond (ilt (256 : Int) (↑(List.length (HMail.body m)) : Int)) (some { v := V.int IntKind.i64 (5 : Int), bx := [] : DRes }) (cond (N.refKey (HMail.key m) false == (0 : Int)) (cond (ilt (4 : Int) (HMail.hops m)) (some { v := V.int IntKind.i64 (7 : Int), bx := [] : DRes }) (some { v := V.int IntKind.i64 (N.refKey (HMail.key m) false), bx := [] : DRes })) (some { v := V.int IntKind.i64 (N.refKey (HMail.key m) false), bx := [] : DRes }))) (cond (N.refKey (HMail.key m) false == (0 : Int)) (cond (ilt (4 : Int) (HMail.hops m)) (some { v := V.int IntKind.i64 (7 : Int), bx := [] : DRes }) (some { v := V.int IntKind.i64 (N.refKey (HMail.key m) false), bx := [] : DRes })) (some { v := V.int IntKind.i64 (N.refKey (HMail.key m) false), bx := [] : DRes })))) (cond (N.name (HMail.shop m) == (0 : Int)) (cond (N.headCheck (List.map (fun r => { key := V.toStr (List.getD r (0 : Nat) V.undef), kind := V.toInt (List.getD r (1 : Nat) V.undef), num := V.toInt (List.getD r (2 : Nat) V.undef), text := V.toStr (List.getD r (3 : Nat) V.undef) : HPair }) (List.map (fun p => [V.str (HPair.key p), V.int IntKind.u8 (HPair.kind p), V.int IntKind.i64 (HPair.num p), V.str (HPair.text p)]) (HMail.head m))) == (0 : Int)) (cond (ilt (256 : Int) (↑(List.length (HMail.body m)) : Int)) (some { v := V.int IntKind.i64 (5 : Int), bx := [] : DRes }) (cond (N.headCheck (List.map (fun r => { key := V.toStr (List.getD r (0 : Nat) V.undef), kind := V.toInt (List.getD r (1 : Nat) V.undef), num := V.toInt (List.getD r (2 : Nat) V.undef), text := V.toStr (List.getD r (3 : Nat) V.undef) : HPair }) (List.map (fun p => [V.str (HPair.key p), V.int IntKind.u8 (HPair.kind p), V.int IntKind.i64 (HPair.num p), V.str (HPair.text p)]) (HMail.head m))) == (0 : Int)) (cond (ilt (4 : Int) (HMail.hops m)) (some { v := V.int IntKind.i64 (7 : Int), bx := [] : DRes }) (some { v := V.int IntKind.i64 (N.headCheck (List.map (fun r => { key := V.toStr (List.getD r (0 : Nat) V.undef), kind := V.toInt (List.getD r (1 : Nat) V.undef), num := V.toInt (List.getD r (2 : Nat) V.undef), text := V.toStr (List.getD r (3 : Nat) V.undef) : HPair }) (List.map (fun p => [V.str (HPair.key p), V.int IntKind.u8 (HPair.kind p), V.int IntKind.i64 (HPair.num p), V.str (HPair.text p)]) (HMail.head m)))), bx := [] : DRes })) (some { v := V.int IntKind.i64 (N.headCheck (List.map (fun r => { key := V.toStr (List.getD r (0 : Nat) V.undef), kind := V.toInt (List.getD r (1 : Nat) V.undef), num := V.toInt (List.getD r (2 : Nat) V.undef), text := V.toStr (List.getD r (3 : Nat) V.undef) : HPair }) (List.map (fun p => [V.str (HPair.key p), V.int IntKind.u8 (HPair.kind p), V.int IntKind.i64 (HPair.num p), V.str (HPair.text p)]) (HMail.head m)))), bx := [] : DRes }))) (cond (N.headCheck (List.map (fun r => { key := V.toStr (List.getD r (0 : Nat) V.undef), kind := V.toInt (List.getD r (1 : Nat) V.undef), num := V.toInt (List.getD r (2 : Nat) V.undef), text := V.toStr (List.getD r (3 : Nat) V.undef) : HPair }) (List.map (fun p => [V.str (HPair.key p), V.int IntKind.u8 (HPair.kind p), V.int IntKind.i64 (HPair.num p), V.str (HPair.text p)]) (HMail.head m))) == (0 : Int)) (cond (ilt (4 : Int) (HMail.hops m)) (some { v := V.int IntKind.i64 (7 : Int), bx := [] : DRes }) (some { v := V.int IntKind.i64 (N.headCheck (List.map (fun r => { key := V.toStr (List.getD r (0 : Nat) V.undef), kind := V.toInt (List.getD r (1 : Nat) V.undef), num := V.toInt (List.getD r (2 : Nat) V.undef), text := V.toStr (List.getD r (3 : Nat) V.undef) : HPair }) (List.map (fun p => [V.str (HPair.key p), V.int IntKind.u8 (HPair.kind p), V.int IntKind.i64 (HPair.num p), V.str (HPair.text p)]) (HMail.head m)))), bx := [] : DRes })) (some { v := V.int IntKind.i64 (N.headCheck (List.map (fun r => { key := V.toStr (List.getD r (0 : Nat) V.undef), kind := V.toInt (List.getD r (1 : Nat) V.undef), num := V.toInt (List.getD r (2 : Nat) V.undef), text := V.toStr (List.getD r (3 : Nat) V.undef) : HPair }) (List.map (fun p => [V.str (HPair.key p), V.int IntKind.u8 (HPair.kind p), V.int IntKind.i64 (HPair.num p), V.str (HPair.text p)]) (HMail.head m)))), bx := [] : DRes }))) (cond (N.name (HMail.shop m) == (0 : Int)) (cond (ilt (256 : Int) (↑(List.length (HMail.body m)) : Int)) (some { v := V.int IntKind.i64 (5 : Int), bx := [] : DRes }) (cond (N.name (HMail.shop m) == (0 : Int)) (cond (ilt (4 : Int) (HMail.hops m)) (some { v := V.int IntKind.i64 (7 : Int), bx := [] : DRes }) (some { v := V.int IntKind.i64 (N.name (HMail.shop m)), bx := [] : DRes })) (some { v := V.int IntKind.i64 (N.name (HMail.shop m)), bx := [] : DRes }))) (cond (N.name (HMail.shop m) == (0 : Int)) (cond (ilt (4 : Int) (HMail.hops m)) (some { v := V.int IntKind.i64 (7 : Int), bx := [] : DRes }) (some { v := V.int IntKind.i64 (N.name (HMail.shop m)), bx := [] : DRes })) (some { v := V.int IntKind.i64 (N.name (HMail.shop m)), bx := [] : DRes })))) := by kernel_rfl
theorem ok_mailCheck : FnOk Tryz.prog 144 dMailCheck := by
  refine den_okF (env_ok ((((TOk.nil _).cons ok_headCheck).cons ok_key).cons ok_name)) (E := eMailCheck) Tryz.func144 [] (by kernel_rfl) none0 fun m _ _ => ?_
  refine (q_mailCheck m).trans ?_
  show _ = some (⟨.int .i64 (N.mailCheck m), [], []⟩ : DRes)
  unfold N.mailCheck
  simp only [pairs_enc]
  cases h1 : N.name m.shop != 0 <;> cases h2 : N.key m.key [] != 0 <;> cases h3 : N.headCheck m.head != 0 <;> cases h4 : ilt 256 (m.body.length : Int) <;> cases h5 : ilt 4 m.hops <;> simp only [cond_true, cond_false]
theorem ok_refMailCheck : FnOk Tryz.prog 111 dMailCheck := by
  refine den_okF (env_ok ((((TOk.nil _).cons ok_refCheck).cons ok_refKey).cons ok_refName)) (E := eRefMailCheck) Tryz.func111 [] (by kernel_rfl) none0 fun m _ _ => ?_
  refine (q_refMailCheck m).trans ?_
  show _ = some (⟨.int .i64 (N.mailCheck m), [], []⟩ : DRes)
  unfold N.mailCheck
  simp only [pairs_enc, key_eq, bne]
  cases h1 : N.name m.shop == 0 with
  | false => simp only [Bool.not_false, cond_true, cond_false]
  | true =>
    cases h2 : N.refKey m.key false == 0 with
    | false => simp only [Bool.not_false, Bool.not_true, cond_true, cond_false]
    | true =>
      cases h3 : N.headCheck m.head == 0 with
      | false => simp only [Bool.not_false, Bool.not_true, cond_true, cond_false]
      | true =>
        have e3 := ieq_of h3
        rw [e3]
        cases h4 : ilt 256 (m.body.length : Int) <;> cases h5 : ilt 4 m.hops <;> first | rfl | simp only [Bool.not_false, Bool.not_true, cond_true, cond_false, h3, h4, h5]
noncomputable def eRefMailSame : Env := env Tryz.prog [(59, dSameP)] [] []
theorem q_refMailSame (a b : HMail) : evFn eRefMailSame 20 ((aCons (vAgg cMail) (aOne (vAgg cMail))).enc (a, b)) ([]) some =
 cond (HMail.id a == HMail.id b) (cond (HMail.shop a == HMail.shop b) (cond (HMail.key a == HMail.key b) (cond (Nat.ble (List.length (List.map (fun r => { key := V.toStr (List.getD r (0 : Nat) V.undef), kind := V.toInt (List.getD r (1 : Nat) V.undef), num := V.toInt (List.getD r (2 : Nat) V.undef), text := V.toStr (List.getD r (3 : Nat) V.undef) : HPair }) (List.map (fun p => [V.str (HPair.key p), V.int IntKind.u8 (HPair.kind p), V.int IntKind.i64 (HPair.num p), V.str (HPair.text p)]) (HMail.head a)))) (1000000 : Nat)) (cond (N.samePs (List.map (fun r => { key := V.toStr (List.getD r (0 : Nat) V.undef), kind := V.toInt (List.getD r (1 : Nat) V.undef), num := V.toInt (List.getD r (2 : Nat) V.undef), text := V.toStr (List.getD r (3 : Nat) V.undef) : HPair }) (List.map (fun p => [V.str (HPair.key p), V.int IntKind.u8 (HPair.kind p), V.int IntKind.i64 (HPair.num p), V.str (HPair.text p)]) (HMail.head a))) (List.map (fun r => { key := V.toStr (List.getD r (0 : Nat) V.undef), kind := V.toInt (List.getD r (1 : Nat) V.undef), num := V.toInt (List.getD r (2 : Nat) V.undef), text := V.toStr (List.getD r (3 : Nat) V.undef) : HPair }) (List.map (fun p => [V.str (HPair.key p), V.int IntKind.u8 (HPair.kind p), V.int IntKind.i64 (HPair.num p), V.str (HPair.text p)]) (HMail.head b)))) (cond (HMail.body a == HMail.body b) (cond (HMail.due a == HMail.due b) (some { v := V.bool (HMail.hops a == HMail.hops b), bx := [] : DRes }) (some { v := V.bool false, bx := [] : DRes })) (some { v := V.bool false, bx := [] : DRes })) (some { v := V.bool false, bx := [] : DRes })) (none)) (some { v := V.bool false, bx := [] : DRes })) (some { v := V.bool false, bx := [] : DRes })) (some { v := V.bool false, bx := [] : DRes }) := by kernel_rfl
theorem ok_refMailSame : FnOk Tryz.prog 20 dMailSame := by
  refine den_okF (env_ok ((TOk.nil _).cons ok_refSame)) (E := eRefMailSame) Tryz.func20 [] (by kernel_rfl) none0 fun a _ h => ?_
  obtain ⟨a, b⟩ := a
  have h : a.head.length ≤ 1000000 := ble_of h
  refine (q_refMailSame a b).trans ?_
  show _ = some (⟨.bool (N.mailSame a b), [], []⟩ : DRes)
  unfold N.mailSame
  cases a.id == b.id <;> cases a.shop == b.shop <;> cases a.key == b.key <;> first | rfl | skip
  simp (disch := omega) only [evs, pairs_enc]
  cases N.samePs a.head b.head <;> cases a.body == b.body <;> cases a.due == b.due <;> rfl
noncomputable def eLightM : Env := env Tryz.prog [(33, dLight)] [] []
theorem q_lightM (m : HMail) : evFn eLightM 21 ((aOne (vAgg cMail)).enc m) ([]) some =
 cond (ile (↑(List.length (HMail.shop m)) : Int) (40 : Int)) (cond (ile (↑(List.length (HMail.key m)) : Int) (100 : Int)) (cond (N.light (List.map (fun r => { key := V.toStr (List.getD r (0 : Nat) V.undef), kind := V.toInt (List.getD r (1 : Nat) V.undef), num := V.toInt (List.getD r (2 : Nat) V.undef), text := V.toStr (List.getD r (3 : Nat) V.undef) : HPair }) (List.map (fun p => [V.str (HPair.key p), V.int IntKind.u8 (HPair.kind p), V.int IntKind.i64 (HPair.num p), V.str (HPair.text p)]) (HMail.head m)))) (some { v := V.bool (ile (↑(List.length (HMail.body m)) : Int) (300 : Int)), bx := [] : DRes }) (some { v := V.bool false, bx := [] : DRes })) (some { v := V.bool false, bx := [] : DRes })) (some { v := V.bool false, bx := [] : DRes }) := by kernel_rfl
theorem ok_lightM : FnOk Tryz.prog 21 dLightM := by
  refine den_okF (env_ok ((TOk.nil _).cons ok_light)) (E := eLightM) Tryz.func21 [] (by kernel_rfl) none0 fun m _ _ => ?_
  refine (q_lightM m).trans ?_
  show _ = some (⟨.bool (N.lightM m), [], []⟩ : DRes)
  unfold N.lightM
  simp only [pairs_enc]
  cases ile (m.shop.length : Int) 40 <;> cases ile (m.key.length : Int) 100 <;> cases N.light m.head <;> rfl
theorem nrm_rows (h : List HPair) : (h.map (fun p => [V.str p.key, V.int .u8 p.kind, V.int .i64 p.num, V.str p.text])).map (fun r => ({ key := V.toStr (List.getD r 0 .undef), kind := V.toInt (List.getD r 1 .undef), num := V.toInt (List.getD r 2 .undef), text := V.toStr (List.getD r 3 .undef) } : HPair)) = h := rowsP_enc h
theorem raw_le (x s : Bytes) : N.outRaw ⟨x, 0⟩ s = ⟨x ++ s, 0⟩ := rfl
noncomputable def eMailBytes : Env := env Tryz.prog [(144, dMailCheck), (157, dHeadBytes), (158, dOutNum), (159, dOutText), (160, dOutRaw), (161, dOutString)] [] []
theorem q_mailBytes (m : HMail) : evFn eMailBytes 140 ((aOne (vAgg cMail)).enc m) ([]) some =
 cond (N.mailCheck { id := HMail.id m, shop := HMail.shop m, key := HMail.key m, head := List.map (fun r => { key := V.toStr (List.getD r (0 : Nat) V.undef), kind := V.toInt (List.getD r (1 : Nat) V.undef), num := V.toInt (List.getD r (2 : Nat) V.undef), text := V.toStr (List.getD r (3 : Nat) V.undef) : HPair }) (List.map (fun p => [V.str (HPair.key p), V.int IntKind.u8 (HPair.kind p), V.int IntKind.i64 (HPair.num p), V.str (HPair.text p)]) (HMail.head m)), body := HMail.body m, due := HMail.due m, hops := HMail.hops m : HMail } != (0 : Int)) (some { v := V.tup [V.str [], V.int IntKind.i64 (N.mailCheck { id := HMail.id m, shop := HMail.shop m, key := HMail.key m, head := List.map (fun r => { key := V.toStr (List.getD r (0 : Nat) V.undef), kind := V.toInt (List.getD r (1 : Nat) V.undef), num := V.toInt (List.getD r (2 : Nat) V.undef), text := V.toStr (List.getD r (3 : Nat) V.undef) : HPair }) (List.map (fun p => [V.str (HPair.key p), V.int IntKind.u8 (HPair.kind p), V.int IntKind.i64 (HPair.num p), V.str (HPair.text p)]) (HMail.head m)), body := HMail.body m, due := HMail.due m, hops := HMail.hops m : HMail })], bx := [] : DRes }) (cond (bif ile (0 : Int) (HMail.id m) then bif ilt (HMail.id m) (18446744073709551616 : Int) then true else false else false) (cond (Nat.ble ((8 : Nat) + List.length (HMail.shop m)) (9223372036854775790 : Nat)) (cond (Nat.ble (List.length (OutS.s (N.outText (N.outNum { s := [], err := (0 : Int) : OutS } (HMail.id m) (8 : Int)) (HMail.shop m))) + List.length (HMail.key m)) (9223372036854775790 : Nat)) (cond (Nat.ble (List.length (OutS.s (N.outText (N.outText (N.outNum { s := [], err := (0 : Int) : OutS } (HMail.id m) (8 : Int)) (HMail.shop m)) (HMail.key m))) + List.length (Prod.fst (bif N.headCheck (List.map (fun r => { key := V.toStr (List.getD r (0 : Nat) V.undef), kind := V.toInt (List.getD r (1 : Nat) V.undef), num := V.toInt (List.getD r (2 : Nat) V.undef), text := V.toStr (List.getD r (3 : Nat) V.undef) : HPair }) (List.map (fun p => [V.str (HPair.key p), V.int IntKind.u8 (HPair.kind p), V.int IntKind.i64 (HPair.num p), V.str (HPair.text p)]) (HMail.head m))) != (0 : Int) then ([], N.headCheck (List.map (fun r => { key := V.toStr (List.getD r (0 : Nat) V.undef), kind := V.toInt (List.getD r (1 : Nat) V.undef), num := V.toInt (List.getD r (2 : Nat) V.undef), text := V.toStr (List.getD r (3 : Nat) V.undef) : HPair }) (List.map (fun p => [V.str (HPair.key p), V.int IntKind.u8 (HPair.kind p), V.int IntKind.i64 (HPair.num p), V.str (HPair.text p)]) (HMail.head m)))) else (N.headBytes (List.map (fun r => { key := V.toStr (List.getD r (0 : Nat) V.undef), kind := V.toInt (List.getD r (1 : Nat) V.undef), num := V.toInt (List.getD r (2 : Nat) V.undef), text := V.toStr (List.getD r (3 : Nat) V.undef) : HPair }) (List.map (fun p => [V.str (HPair.key p), V.int IntKind.u8 (HPair.kind p), V.int IntKind.i64 (HPair.num p), V.str (HPair.text p)]) (HMail.head m))), (0 : Int))))) (9223372036854775807 : Nat)) (cond (Nat.ble (List.length (OutS.s (N.outRaw (N.outText (N.outText (N.outNum { s := [], err := (0 : Int) : OutS } (HMail.id m) (8 : Int)) (HMail.shop m)) (HMail.key m)) (Prod.fst (bif N.headCheck (List.map (fun r => { key := V.toStr (List.getD r (0 : Nat) V.undef), kind := V.toInt (List.getD r (1 : Nat) V.undef), num := V.toInt (List.getD r (2 : Nat) V.undef), text := V.toStr (List.getD r (3 : Nat) V.undef) : HPair }) (List.map (fun p => [V.str (HPair.key p), V.int IntKind.u8 (HPair.kind p), V.int IntKind.i64 (HPair.num p), V.str (HPair.text p)]) (HMail.head m))) != (0 : Int) then ([], N.headCheck (List.map (fun r => { key := V.toStr (List.getD r (0 : Nat) V.undef), kind := V.toInt (List.getD r (1 : Nat) V.undef), num := V.toInt (List.getD r (2 : Nat) V.undef), text := V.toStr (List.getD r (3 : Nat) V.undef) : HPair }) (List.map (fun p => [V.str (HPair.key p), V.int IntKind.u8 (HPair.kind p), V.int IntKind.i64 (HPair.num p), V.str (HPair.text p)]) (HMail.head m)))) else (N.headBytes (List.map (fun r => { key := V.toStr (List.getD r (0 : Nat) V.undef), kind := V.toInt (List.getD r (1 : Nat) V.undef), num := V.toInt (List.getD r (2 : Nat) V.undef), text := V.toStr (List.getD r (3 : Nat) V.undef) : HPair }) (List.map (fun p => [V.str (HPair.key p), V.int IntKind.u8 (HPair.kind p), V.int IntKind.i64 (HPair.num p), V.str (HPair.text p)]) (HMail.head m))), (0 : Int)))))) + List.length (HMail.body m)) (9223372036854775790 : Nat)) (cond (bif ile (0 : Int) (HMail.due m) then bif ilt (HMail.due m) (18446744073709551616 : Int) then Nat.ble (List.length (OutS.s (N.outText (N.outRaw (N.outText (N.outText (N.outNum { s := [], err := (0 : Int) : OutS } (HMail.id m) (8 : Int)) (HMail.shop m)) (HMail.key m)) (Prod.fst (bif N.headCheck (List.map (fun r => { key := V.toStr (List.getD r (0 : Nat) V.undef), kind := V.toInt (List.getD r (1 : Nat) V.undef), num := V.toInt (List.getD r (2 : Nat) V.undef), text := V.toStr (List.getD r (3 : Nat) V.undef) : HPair }) (List.map (fun p => [V.str (HPair.key p), V.int IntKind.u8 (HPair.kind p), V.int IntKind.i64 (HPair.num p), V.str (HPair.text p)]) (HMail.head m))) != (0 : Int) then ([], N.headCheck (List.map (fun r => { key := V.toStr (List.getD r (0 : Nat) V.undef), kind := V.toInt (List.getD r (1 : Nat) V.undef), num := V.toInt (List.getD r (2 : Nat) V.undef), text := V.toStr (List.getD r (3 : Nat) V.undef) : HPair }) (List.map (fun p => [V.str (HPair.key p), V.int IntKind.u8 (HPair.kind p), V.int IntKind.i64 (HPair.num p), V.str (HPair.text p)]) (HMail.head m)))) else (N.headBytes (List.map (fun r => { key := V.toStr (List.getD r (0 : Nat) V.undef), kind := V.toInt (List.getD r (1 : Nat) V.undef), num := V.toInt (List.getD r (2 : Nat) V.undef), text := V.toStr (List.getD r (3 : Nat) V.undef) : HPair }) (List.map (fun p => [V.str (HPair.key p), V.int IntKind.u8 (HPair.kind p), V.int IntKind.i64 (HPair.num p), V.str (HPair.text p)]) (HMail.head m))), (0 : Int))))) (HMail.body m)))) (9223372036854775799 : Nat) else false else false) (cond (bif ile (0 : Int) (IntKind.wrap IntKind.u64 (HMail.hops m)) then bif ilt (IntKind.wrap IntKind.u64 (HMail.hops m)) (18446744073709551616 : Int) then Nat.ble (List.length (OutS.s (N.outNum (N.outText (N.outRaw (N.outText (N.outText (N.outNum { s := [], err := (0 : Int) : OutS } (HMail.id m) (8 : Int)) (HMail.shop m)) (HMail.key m)) (Prod.fst (bif N.headCheck (List.map (fun r => { key := V.toStr (List.getD r (0 : Nat) V.undef), kind := V.toInt (List.getD r (1 : Nat) V.undef), num := V.toInt (List.getD r (2 : Nat) V.undef), text := V.toStr (List.getD r (3 : Nat) V.undef) : HPair }) (List.map (fun p => [V.str (HPair.key p), V.int IntKind.u8 (HPair.kind p), V.int IntKind.i64 (HPair.num p), V.str (HPair.text p)]) (HMail.head m))) != (0 : Int) then ([], N.headCheck (List.map (fun r => { key := V.toStr (List.getD r (0 : Nat) V.undef), kind := V.toInt (List.getD r (1 : Nat) V.undef), num := V.toInt (List.getD r (2 : Nat) V.undef), text := V.toStr (List.getD r (3 : Nat) V.undef) : HPair }) (List.map (fun p => [V.str (HPair.key p), V.int IntKind.u8 (HPair.kind p), V.int IntKind.i64 (HPair.num p), V.str (HPair.text p)]) (HMail.head m)))) else (N.headBytes (List.map (fun r => { key := V.toStr (List.getD r (0 : Nat) V.undef), kind := V.toInt (List.getD r (1 : Nat) V.undef), num := V.toInt (List.getD r (2 : Nat) V.undef), text := V.toStr (List.getD r (3 : Nat) V.undef) : HPair }) (List.map (fun p => [V.str (HPair.key p), V.int IntKind.u8 (HPair.kind p), V.int IntKind.i64 (HPair.num p), V.str (HPair.text p)]) (HMail.head m))), (0 : Int))))) (HMail.body m)) (HMail.due m) (8 : Int)))) (9223372036854775799 : Nat) else false else false) (some { v := V.tup [V.str (OutS.s (N.outNum (N.outNum (N.outText (N.outRaw (N.outText (N.outText (N.outNum { s := [], err := (0 : Int) : OutS } (HMail.id m) (8 : Int)) (HMail.shop m)) (HMail.key m)) (Prod.fst (bif N.headCheck (List.map (fun r => { key := V.toStr (List.getD r (0 : Nat) V.undef), kind := V.toInt (List.getD r (1 : Nat) V.undef), num := V.toInt (List.getD r (2 : Nat) V.undef), text := V.toStr (List.getD r (3 : Nat) V.undef) : HPair }) (List.map (fun p => [V.str (HPair.key p), V.int IntKind.u8 (HPair.kind p), V.int IntKind.i64 (HPair.num p), V.str (HPair.text p)]) (HMail.head m))) != (0 : Int) then ([], N.headCheck (List.map (fun r => { key := V.toStr (List.getD r (0 : Nat) V.undef), kind := V.toInt (List.getD r (1 : Nat) V.undef), num := V.toInt (List.getD r (2 : Nat) V.undef), text := V.toStr (List.getD r (3 : Nat) V.undef) : HPair }) (List.map (fun p => [V.str (HPair.key p), V.int IntKind.u8 (HPair.kind p), V.int IntKind.i64 (HPair.num p), V.str (HPair.text p)]) (HMail.head m)))) else (N.headBytes (List.map (fun r => { key := V.toStr (List.getD r (0 : Nat) V.undef), kind := V.toInt (List.getD r (1 : Nat) V.undef), num := V.toInt (List.getD r (2 : Nat) V.undef), text := V.toStr (List.getD r (3 : Nat) V.undef) : HPair }) (List.map (fun p => [V.str (HPair.key p), V.int IntKind.u8 (HPair.kind p), V.int IntKind.i64 (HPair.num p), V.str (HPair.text p)]) (HMail.head m))), (0 : Int))))) (HMail.body m)) (HMail.due m) (8 : Int)) (IntKind.wrap IntKind.u64 (HMail.hops m)) (1 : Int))), V.int IntKind.i64 (0 : Int)], bx := [] : DRes }) (none)) (none)) (none)) (none)) (none)) (none)) (none)) := by kernel_rfl
theorem mailCheck_fit {m : HMail} (h : N.mailCheck m = 0) : m.shop.length ≤ 16 ∧ m.key.length ≤ 64 ∧ N.headCheck m.head = 0 ∧ m.body.length ≤ 256 ∧ m.hops ≤ 4 ∧ N.name m.shop = 0 ∧ N.key m.key [] = 0 := by
  unfold N.mailCheck at h
  have key : ∀ x y : Int, cond (x != 0) x y = 0 → x = 0 ∧ y = 0 := fun x y h => by
    cases e : x != 0 with
    | true => rw [e, cond_true] at h; rw [h] at e; cases e
    | false => rw [e, cond_false] at h; exact ⟨by simpa using e, h⟩
  obtain ⟨h1, h⟩ := key _ _ h
  obtain ⟨h2, h⟩ := key _ _ h
  obtain ⟨h3, h⟩ := key _ _ h
  cases h4 : ilt 256 (m.body.length : Int) with
  | true => rw [h4] at h; cases h
  | false =>
    rw [h4] at h
    cases h5 : ilt 4 m.hops with
    | true => rw [h5] at h; cases h
    | false =>
      have a4 := ilt_nof h4
      have a5 := ilt_nof h5
      have a1 : m.shop.length ≤ 16 := by
        unfold N.name at h1
        cases e1 : m.shop == [] with
        | true => rw [e1] at h1; cases h1
        | false =>
          rw [e1] at h1
          cases e2 : ilt 16 m.shop.length with
          | true => rw [e2] at h1; cases h1
          | false => have := ilt_nof e2; omega
      have a2 : m.key.length ≤ 64 := by
        rw [key_eq] at h2
        exact refKey_len (b := false) (by rw [h2]; rfl)
      exact ⟨a1, a2, h3, by omega, a5, h1, h2⟩
theorem pairsB_len : ∀ {l : List HPair}, l.all N.fitP = true → (N.pairsB l).length ≤ 150 * l.length
  | [], _ => Nat.le_refl _
  | p :: r, h => by
    rw [List.all_cons, Bool.and_eq_true] at h
    have ih := pairsB_len h.2
    obtain ⟨f1, f2⟩ := bcond h.1
    have f1 := ble_of f1
    have f2 := ble_of f2
    have hlen : (N.pairB p).length ≤ 150 := by
      unfold N.pairB
      simp only [List.length_append, textB_len, numB_len]
      cases p.kind == 0 <;> cases p.kind == 1 <;> cases p.kind == 2 <;> simp only [cond_true, cond_false, numB_len, textB_len, List.length_nil] <;> omega
    show (N.pairB p ++ N.pairsB r).length ≤ _
    rw [List.length_append, List.length_cons]; omega
theorem headB_len {h : List HPair} (hz : N.headCheck h = 0) : (N.headBytes h).length ≤ 1201 := by
  obtain ⟨c1, c2⟩ := check_fit hz
  have := pairsB_len c2
  unfold N.headBytes
  rw [List.length_append, numB_len]; omega
theorem ok_mailBytes (hN : FnOk Tryz.prog 158 dOutNum) : FnOk Tryz.prog 140 dMailBytes := by
  refine den_okF (env_ok (((((((TOk.nil _).cons ok_outString).cons ok_outRaw).cons (ok_outText hN)).cons hN).cons (ok_headBytes hN)).cons ok_mailCheck)) (E := eMailBytes) Tryz.func140 [] (by kernel_rfl) none0 fun m _ h => ?_
  obtain ⟨id, shop, key, head, body, due, hops⟩ := m
  obtain ⟨b1, h⟩ := bcond h
  obtain ⟨b2, h⟩ := bcond h
  obtain ⟨i1, i2⟩ := bcond b1
  obtain ⟨i3, i4⟩ := bcond b2
  obtain ⟨i5, i6⟩ := bcond h
  simp only at i1 i2 i3 i4 i5 i6
  refine (q_mailBytes ⟨id, shop, key, head, body, due, hops⟩).trans ?_
  simp only [nrm_rows]
  show _ = some (⟨.tup [.str (cond (N.mailCheck ⟨id, shop, key, head, body, due, hops⟩ != 0) (([] : Bytes), N.mailCheck ⟨id, shop, key, head, body, due, hops⟩) (N.mailB ⟨id, shop, key, head, body, due, hops⟩, 0)).1,
    .int .i64 (cond (N.mailCheck ⟨id, shop, key, head, body, due, hops⟩ != 0) (([] : Bytes), N.mailCheck ⟨id, shop, key, head, body, due, hops⟩) (N.mailB ⟨id, shop, key, head, body, due, hops⟩, 0)).2], [], []⟩ : DRes)
  cases hc : N.mailCheck ⟨id, shop, key, head, body, due, hops⟩ != 0 with
  | true => rfl
  | false =>
    have hz : N.mailCheck ⟨id, shop, key, head, body, due, hops⟩ = 0 := by simpa using hc
    obtain ⟨c1, c2, c3, c4, c5, _⟩ := mailCheck_fit hz
    simp only at c1 c2 c3 c4 c5
    have hl := headB_len c3
    have wh : IntKind.wrap .u64 hops = hops := wrap_u64 (by have := ile_of i5; omega) (by omega)
    have i5' := ile_of i5
    have hb : cond (N.headCheck head != 0) (([] : Bytes), N.headCheck head) (N.headBytes head, 0) = (N.headBytes head, 0) := by rw [c3]; rfl
    have o1 : ∀ (x s : Bytes), s.length ≤ 65535 → N.outText ⟨x, 0⟩ s = ⟨x ++ N.textB s, 0⟩ := fun x s hs => outText_le hs
    unfold N.mailB
    simp only
    simp (disch := omega) only [evs, raw_le, i1, i2, i3, i4, o1, outNum_8, outNum_1, numB_len, textB_len, wh, List.nil_append]
end Go.Ev

/- slices.Concat and slices.Grow at messages answer what the plain ones do: lemmas, no condition. -/
namespace Go.Ev
open Go Go.Proofs
set_option maxRecDepth 100000
-- FOLD

/-- A nil slice. -/
def vNils {α : Type} (c : RCod α) : VCod Unit where
  ok := fun | .nils s => Sh.beqL c.sh s | _ => false
  enc _ := .nils c.sh
  dec _ := ()
  ed _ := ⟨c.rf, rfl⟩
  law w I ρ v x h hx := by
    split at h
    · have := Sh.beqL_eq _ _ h; subst this; exact hx
    · cases h
def dGrow {α : Type} (c : RCod α) : Den := den (aCons (vNils c) (aOne (vInt .i64))) bNil (oOwn c) (fun a _ => cond (ile 0 a.2) (ile a.2 1000000) false) fun _ _ => (([] : List α), ())
/-- Lists one behind the other. -/
def N.flat {α : Type} : List (List α) → List α
  | [] => [] | l :: r => l ++ N.flat r
def sumLen {α : Type} : List (List α) → Nat
  | [] => 0 | l :: r => l.length + sumLen r
theorem flat_len {α : Type} : ∀ l : List (List α), (N.flat l).length = sumLen l
  | [] => rfl
  | l :: r => by show (l ++ N.flat r).length = _; rw [List.length_append, flat_len r]; rfl
def dConcat {α : Type} (c : RCod α) : Den := den (aOne (vSl (rSl c))) bNil (oV (vSl c)) (fun l _ => cond (Nat.ble l.length 1000) (Nat.ble (sumLen l) 100000) false) fun l _ => (N.flat l, ())
/-- The rows in rows. -/
def flatR : List (List V) → List (List V)
  | [] => [] | r :: rs => V.toRows (List.getD r 0 .undef) ++ flatR rs
theorem flatR_enc {α : Type} (c : RCod α) : ∀ l : List (List α), flatR (l.map (rSl c).enc) = (N.flat l).map c.enc
  | [] => rfl
  | l :: r => by
    show l.map c.enc ++ flatR (r.map (rSl c).enc) = (l ++ N.flat r).map c.enc
    rw [flatR_enc c r, List.map_append]
theorem flatR_cons (x : List V) (l : List (List V)) : flatR (x :: l) = V.toRows (List.getD x 0 .undef) ++ flatR l := rfl
end Go.Ev

/- The functions on rises answer what the plain ones do: lemmas, no condition. -/
namespace Go.Ev
open Go Go.Proofs
set_option maxRecDepth 100000
-- FOLD

structure HRise where
  total : Int
  kept : List HMail
theorem dec_encs {α : Type} (c : RCod α) (l : List α) : (l.map c.enc).map c.dec = l := by
  rw [List.map_map]
  exact (List.map_congr_left (fun a _ => c.de a)).trans (List.map_id _)
namespace N
def risePut (x : HRise) (m : HMail) : HRise × Int :=
  cond (mailCheck m != 0) (x, mailCheck m) (cond (x.total == 18446744073709551615) (x, 18)
    (⟨x.total + 1, (x.kept ++ [m]).drop (x.kept.length + 1 - 16)⟩, 0))
end N
def goodRise (x : HRise) : Bool := cond (cond (ile 0 x.total) (ile x.total 18446744073709551615) false) (cond (Nat.ble x.kept.length 16) (x.kept.all smallM) false) false
theorem flat_two {α : Type} (a b : List α) : N.flat [a, b] = a ++ b := by
  show a ++ (b ++ []) = _
  rw [List.append_nil]
end Go.Ev

/- What a rise tells behind a number: lemmas, no condition. -/
namespace Go.Ev
open Go Go.Proofs
set_option maxRecDepth 100000
-- FOLD

namespace N
def riseAfter (x : HRise) (n : Int) : Int × HMail × Bool :=
  cond (ile x.total n) (0, mail0, false) (cond (ilt (x.total - x.kept.length + 1) (n + 1)) (n + 1, x.kept.getD (n + 1 - (x.total - x.kept.length + 1)).toNat mail0, true) (x.total - x.kept.length + 1, x.kept.getD 0 mail0, true))
end N
def fullRise (x : HRise) : Bool := cond (goodRise x) (cond (ile x.kept.length x.total) (cond (Nat.beq x.kept.length 0) (x.total == 0) true) false) false
theorem getD_enc {α : Type} (c : RCod α) (l : List α) (i : Nat) (d : α) (h : i < l.length) : (l.map c.enc).getD i [] = c.enc (l.getD i d) := by
  rw [List.getD_eq_getElem?_getD, List.getD_eq_getElem?_getD, List.getElem?_map, List.getElem?_eq_getElem h]
  rfl
theorem all_getD {α : Type} {p : α → Bool} {l : List α} (h : l.all p = true) (i : Nat) (d : α) (hi : i < l.length) : p (l.getD i d) = true := by
  rw [List.getD_eq_getElem?_getD, List.getElem?_eq_getElem hi]
  exact List.all_eq_true.1 h _ (List.getElem_mem hi)
end Go.Ev

/- What rises tell, in plain terms: lemmas, no condition. -/
namespace Go.Ev
open Go Go.Proofs
set_option maxRecDepth 100000

namespace N
def tell (x : HRise) : Nat → Int → List HMail → Int × List HMail
  | 0, last, got => (last, got)
  | n + 1, last, got => cond (riseAfter x last).2.2 (tell x n (riseAfter x last).1 (got ++ [(riseAfter x last).2.1])) (last, got)
def many (asks : List Int) (n k : Nat) : Nat := cond (Nat.blt k n) (cond (Nat.blt k asks.length) (Int.tmod (IntKind.wrap .i64 (asks.getD k 0)) 3).toNat 0) 16
def play (asks : List Int) (l : List HMail) : Nat → Nat → HRise → Int → List HMail → List HMail → Option (HRise × Int × List HMail × List HMail)
  | 0, _, x, last, good, got => some (x, last, good, got)
  | f + 1, k, x, last, good, got => cond (ilt 16 (x.total - last)) none
      (cond (Nat.blt k l.length)
        (play asks l f (k + 1) (risePut x (l.getD k mail0)).1 (tell x (many asks l.length k) last got).1 (cond ((risePut x (l.getD k mail0)).2 == 0) (good ++ [l.getD k mail0]) good) (tell x (many asks l.length k) last got).2)
        (play asks l f (k + 1) x (tell x (many asks l.length k) last got).1 good (tell x (many asks l.length k) last got).2))
end N
/-- A rise that has had just these. -/
structure RInv (x : HRise) (g : List HMail) : Prop where
  total : x.total = g.length
  kept : x.kept = g.drop (g.length - 16)
  small : g.all smallM = true
  few : g.length < 1000
theorem RInv.len {x : HRise} {g : List HMail} (h : RInv x g) : x.kept.length = g.length - (g.length - 16) := by rw [h.kept, List.length_drop]
theorem RInv.good {x : HRise} {g : List HMail} (h : RInv x g) : goodRise x = true := by
  have := h.few
  have hl := h.len
  unfold goodRise
  rw [h.total, ile_t (by omega), ile_t (by omega), ble_t (by omega), h.kept]
  show (List.all (g.drop _) smallM) = true
  rw [List.all_eq_true]
  intro m hm
  exact List.all_eq_true.1 h.small m (List.mem_of_mem_drop hm)
theorem RInv.full {x : HRise} {g : List HMail} (h : RInv x g) : fullRise x = true := by
  have hl := h.len
  unfold fullRise
  rw [h.good, h.total, ile_t (by omega)]
  simp only [cond_true]
  cases e : Nat.beq x.kept.length 0 with
  | false => rfl
  | true =>
    have := Nat.eq_of_beq_eq_true e
    show (((g.length : Nat) : Int) == 0) = true
    exact ieq_t (by omega)
end Go.Ev

/- What the statement on heads that are read reckons: lemmas; the function that writes numbers is a premise. -/
namespace Go.Ev
open Go Go.Proofs
set_option maxRecDepth 100000

end Go.Ev

/- What the statement on heads' bytes reckons: lemmas; the functions that write numbers are premises. -/
namespace Go.Ev
open Go Go.Proofs
set_option maxRecDepth 100000

/-- The search from behind. -/
def N.back (key : Bytes) (l : List HPair) : Nat → HPair × Bool → HPair × Bool
  | 0, w => w
  | k + 1, w => back key l k (cond ((l.getD k pair0).key == key) (l.getD k pair0, true) w)
end Go.Ev

/- What the statement on heads' bytes reckons: it is true; the functions that write numbers are premises. -/
namespace Go.Ev
open Go Go.Proofs
set_option maxRecDepth 100000

def N.okP (p : HPair) : Bool := cond (ile 0 p.kind) (cond (ilt p.kind 256) (cond (ile (-9223372036854775808) p.num) (ile p.num 9223372036854775807) false) false) false
end Go.Ev

/- Messages: what was written is read again; the program's reader and the document's go together: lemmas on the plain functions. -/
namespace Go.Ev
open Go

theorem mailSame_refl (m : HMail) : N.mailSame m m = true := by
  unfold N.mailSame
  simp only [beq_self_eq_true, samePs_refl, cond_true]
end Go.Ev

/- Rules: the program's way and the document's are one: lemmas on the plain functions. -/
namespace Go.Ev
open Go

end Go.Ev

/- The functions that tell which messages go by a rule answer what the plain ones do: lemmas, no condition. -/
namespace Go.Ev
open Go Go.Proofs
set_option maxRecDepth 100000

end Go.Ev

/- Words joined again, patterns of stars: plain lemmas, no condition. -/
namespace Go.Ev
open Go
namespace N
end N
/-! ### Keys as patterns -/
end Go.Ev

/- What the statements on rules reckon: each is true; lemmas; the function that writes numbers is a premise. -/
namespace Go.Ev
open Go Go.Proofs
set_option maxRecDepth 100000

noncomputable def eAw9' : Env := env Tryz.prog [(162, dTrue)] [] []
theorem q_aw9'  : evFn eAw9' 141 [] [] some =
 some { v := V.bool true, bx := [] : DRes } := by kernel_rfl
theorem ok_aw9' (hN : FnOk Tryz.prog 158 dOutNum) : FnOk Tryz.prog 141 dTrue := den_okF (env_ok ((TOk.nil _).cons (ok_aw9 hN))) (E := eAw9') Tryz.func141 [] (by kernel_rfl) none0 fun _ _ _ => q_aw9'
theorem int_wf' {k : IntKind} {n : Int} (h : wfV (.int k n) = true) : k.min ≤ n ∧ n ≤ k.max := by
  unfold wfV Lit.wf at h
  simp at h
  exact h
end Go.Ev

/- The statement on heads' bytes: what it reckons is true of what comes in; lemmas, no condition. -/
namespace Go.Ev
open Go Go.Proofs
set_option maxRecDepth 100000

theorem int_wf {k : IntKind} {n : Int} (h : wfV (.int k n) = true) : k.min ≤ n ∧ n ≤ k.max := by
  unfold wfV Lit.wf at h
  simp at h
  exact h
theorem pair_wf {p : HPair} (h : wfL (cPair.enc p) = true) : N.okP p = true := by
  have h : cond (wfV (.str p.key)) (cond (wfV (.int .u8 p.kind)) (cond (wfV (.int .i64 p.num)) (wfL [V.str p.text]) false) false) false = true := h
  obtain ⟨_, h⟩ := bcond h
  obtain ⟨h1, h⟩ := bcond h
  obtain ⟨h2, _⟩ := bcond h
  obtain ⟨a1, a2⟩ := int_wf h1
  obtain ⟨b1, b2⟩ := int_wf h2
  have e1 : IntKind.u8.min = 0 := rfl
  have e2 : IntKind.u8.max = 255 := rfl
  have e3 : IntKind.i64.min = -9223372036854775808 := rfl
  have e4 : IntKind.i64.max = 9223372036854775807 := rfl
  unfold N.okP
  rw [ile_t (by omega), ilt_t (by omega), ile_t (by omega), ile_t (by omega)]; rfl
theorem pairs_wfR : ∀ l : List HPair, wfRs (l.map cPair.enc) = true → l.all N.okP = true
  | [], _ => rfl
  | p :: r, h => by
    have h : cond (wfL (cPair.enc p)) (wfRs (r.map cPair.enc)) false = true := h
    obtain ⟨h1, h2⟩ := bcond h
    rw [List.all_cons, pair_wf h1, pairs_wfR r h2]; rfl
theorem pairs_wf {l : List HPair} (h : wfL ((rSl cPair).enc l) = true) : l.all N.okP = true := by
  have h : cond (cond (Nat.ble (l.map cPair.enc).length 9223372036854775807) (cond (fitsRows cPair.sh (l.map cPair.enc)) (wfRs (l.map cPair.enc)) false) false) true false = true := h
  obtain ⟨h, _⟩ := bcond h
  obtain ⟨_, h⟩ := bcond h
  obtain ⟨_, h⟩ := bcond h
  exact pairs_wfR l h
end Go.Ev
