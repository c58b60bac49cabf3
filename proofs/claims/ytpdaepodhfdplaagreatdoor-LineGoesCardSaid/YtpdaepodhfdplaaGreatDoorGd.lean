/- The program's forms of words answer what the plain ones do: lemmas, no condition. -/
import Derived.Test.YtpdaepodhfdplaaGreatDoorGc
import Derived.Test.YtpdaepodhfdplaaGreatDoorProg
import Derived.KernelRfl
namespace Go.Ev
open Go Go.Proofs
set_option maxRecDepth 100000

def schKeyB4 : SSch := { fr := [(1, .slc [.str]), (13, .slc [.str]), (14, .int .i64), (15, .int .i64)], tab := [] }
def gKeyB4 : List Leaf → (Ex → St → Option R) → Option R
  | [.r r1, .r r13, .i i14, .i i15], K => cond (i14 == r13.length) (cond (ile 0 i15) (cond (Nat.ble r13.length (LIM + 1)) (cond (Nat.ble r1.length (LIM + 1)) (cond (r13.all fun r => Nat.ble (rowS r).length LIM)
      (cond (N.keyL (rowsS r1) ((rowsS r13).drop i15.toNat) == 0) (K (.exit 0) { fr := [], tab := [] }) (K .ret { fr := [(4, .int .i64 4)], tab := [] })) none) none) none) none) none
  | _, _ => none
def schKeyB7 : SSch := { fr := [(1, .slc [.str]), (6, .str), (13, .slc [.str]), (14, .int .i64), (15, .int .i64), (19, .slc [.str]), (20, .int .i64), (21, .int .i64)], tab := [] }
def gKeyB7 : List Leaf → (Ex → St → Option R) → Option R
  | [.r r1, .s s6, .r r13, .i i14, .i i15, .r r19, .i i20, .i i21], K => cond (i20 == r19.length) (cond (ile 0 i21) (cond (Nat.ble r19.length (LIM + 1))
      (cond (((rowsS r19).drop i21.toNat).any (s6 == ·)) (K (.exit 1) { fr := [(1, .slc [.str] r1), (13, .slc [.str] r13), (14, .int .i64 i14), (15, .int .i64 i15)], tab := [] })
        (K (.exit 2) { fr := [(1, .slc [.str] r1), (6, .str s6), (13, .slc [.str] r13), (14, .int .i64 i14), (15, .int .i64 i15)], tab := [] })) none) none) none
  | _, _ => none
noncomputable def eKeyB : Env := env Tryz.prog [(154, dWords), (148, dPlain)] [(7, loopF schKeyB7 gKeyB7), (4, loopF schKeyB4 gKeyB4)] [(4, [(0, [1, 13, 14, 15]), (1, []), (1000, [4])]), (7, [(0, [1, 6, 13, 14, 15, 19, 20, 21]), (2, [1, 13, 14, 15]), (3, [1, 6, 13, 14, 15]), (1000, [4])])]
theorem q_keyB (s : Bytes) (l : List Bytes) : evFn eKeyB 166 ((aCons vStr (aOne (vSl rStr))).enc (s, l)) ([]) some =
 cond (ilt (64 : Int) (↑(List.length s) : Int)) (some { v := V.int IntKind.i64 (5 : Int), bx := [] }) (cond (Nat.ble (List.length s) (1000000 : Nat)) (cond ((↑(List.length (List.map (fun n => [V.str n]) (N.words s))) : Int) == (↑(List.length (List.map (fun n => [V.str n]) (N.words s))) : Int)) (cond (Nat.ble (List.length (List.map (fun n => [V.str n]) (N.words s))) (1000001 : Nat)) (cond (Nat.ble (List.length (List.map (fun n => [V.str n]) l)) (1000001 : Nat)) (cond (List.all (List.map (fun n => [V.str n]) (N.words s)) fun r => Nat.ble (List.length (V.toStr (List.getD r (0 : Nat) V.undef))) (1000000 : Nat)) (cond (N.keyL (List.map (fun r => V.toStr (List.getD r (0 : Nat) V.undef)) (List.map (fun n => [V.str n]) l)) (List.drop (0 : Nat) (List.map (fun r => V.toStr (List.getD r (0 : Nat) V.undef)) (List.map (fun n => [V.str n]) (N.words s)))) == (0 : Int)) (some { v := V.int IntKind.i64 (0 : Int), bx := [] }) (some { v := V.int IntKind.i64 (4 : Int), bx := [] })) (none)) (none)) (none)) (none)) (none)) := by kernel_rfl
theorem q_keyBR4 (r1 : List (List V)) (r13 : List (List V)) (i14 : Int) (i15 : Int) (K : Ex → St → Option R) : evRound eKeyB 166 4 { fr := [(1, .slc [.str] r1), (13, .slc [.str] r13), (14, .int .i64 i14), (15, .int .i64 i15)], tab := [] } K =
 cond (ilt i15 i14) (cond (decide ((0 : Int) ≤ i15 ∧ i15 < (↑(List.length r13) : Int))) (cond ((↑(List.length r1) : Int) == (↑(List.length r1) : Int)) (cond (Nat.ble (List.length r1) (1000001 : Nat)) (cond (List.any (List.drop (0 : Nat) (List.map (fun r => V.toStr (List.getD r (0 : Nat) V.undef)) r1)) fun x => V.toStr (List.getD (List.getD r13 (Int.toNat i15) []) (0 : Nat) V.undef) == x) (K Ex.normal { fr := [((1 : Nat), V.slc [Sh.str] r1), ((13 : Nat), V.slc [Sh.str] r13), ((14 : Nat), V.int IntKind.i64 i14), ((15 : Nat), V.int IntKind.i64 (IntKind.wrap IntKind.i64 (i15 + (1 : Int))))], tab := [] }) (cond (V.toStr (List.getD (List.getD r13 (Int.toNat i15) []) (0 : Nat) V.undef) == []) (K Ex.ret { fr := [((4 : Nat), V.int IntKind.i64 (4 : Int))], tab := [] }) (cond (Nat.ble (List.length (V.toStr (List.getD (List.getD r13 (Int.toNat i15) []) (0 : Nat) V.undef))) (1000000 : Nat)) (cond (!N.plain (V.toStr (List.getD (List.getD r13 (Int.toNat i15) []) (0 : Nat) V.undef))) (K Ex.ret { fr := [((4 : Nat), V.int IntKind.i64 (4 : Int))], tab := [] }) (K Ex.normal { fr := [((1 : Nat), V.slc [Sh.str] r1), ((13 : Nat), V.slc [Sh.str] r13), ((14 : Nat), V.int IntKind.i64 i14), ((15 : Nat), V.int IntKind.i64 (IntKind.wrap IntKind.i64 (i15 + (1 : Int))))], tab := [] })) (none)))) (none)) (none)) (none)) (K (Ex.exit (0 : Nat)) { fr := [], tab := [] }) := by kernel_rfl
theorem q_keyBR7 (r1 : List (List V)) (s6 : Bytes) (r13 : List (List V)) (i14 : Int) (i15 : Int) (r19 : List (List V)) (i20 : Int) (i21 : Int) (K : Ex → St → Option R) : evRound eKeyB 166 7 { fr := [(1, .slc [.str] r1), (6, .str s6), (13, .slc [.str] r13), (14, .int .i64 i14), (15, .int .i64 i15), (19, .slc [.str] r19), (20, .int .i64 i20), (21, .int .i64 i21)], tab := [] } K =
 cond (ilt i21 i20) (cond (decide ((0 : Int) ≤ i21 ∧ i21 < (↑(List.length r19) : Int))) (cond (s6 == V.toStr (List.getD (List.getD r19 (Int.toNat i21) []) (0 : Nat) V.undef)) (K (Ex.exit (1 : Nat)) { fr := [((1 : Nat), V.slc [Sh.str] r1), ((13 : Nat), V.slc [Sh.str] r13), ((14 : Nat), V.int IntKind.i64 i14), ((15 : Nat), V.int IntKind.i64 i15)], tab := [] }) (K Ex.normal { fr := [((1 : Nat), V.slc [Sh.str] r1), ((6 : Nat), V.str s6), ((13 : Nat), V.slc [Sh.str] r13), ((14 : Nat), V.int IntKind.i64 i14), ((15 : Nat), V.int IntKind.i64 i15), ((19 : Nat), V.slc [Sh.str] r19), ((20 : Nat), V.int IntKind.i64 i20), ((21 : Nat), V.int IntKind.i64 (IntKind.wrap IntKind.i64 (i21 + (1 : Int))))], tab := [] })) (none)) (K (Ex.exit (2 : Nat)) { fr := [((1 : Nat), V.slc [Sh.str] r1), ((6 : Nat), V.str s6), ((13 : Nat), V.slc [Sh.str] r13), ((14 : Nat), V.int IntKind.i64 i14), ((15 : Nat), V.int IntKind.i64 i15)], tab := [] }) := by kernel_rfl
theorem keyL_or (b : List Bytes) : ∀ l, N.keyL b l = 0 ∨ N.keyL b l = 4
  | [] => .inl rfl
  | w :: r => by
    unfold N.keyL
    cases b.any (w == ·)
    · cases (cond (w == []) true (!N.plain w))
      · exact keyL_or b r
      · exact .inr rfl
    · exact keyL_or b r
theorem ok_keyB : FnOk Tryz.prog 166 dKeyB := by
  refine den_okF (env_ok (((TOk.nil _).cons ok_plain).cons ok_words)) (E := eKeyB) Tryz.func166 [4, 7] (by kernel_rfl) (two2 (rounds_of rfl fun l K q h => ?_) (rounds_of rfl fun l K q h => ?_)) fun a _ h => ?_
  · unfold gKeyB4 at h
    split at h
    · rename_i r1 r13 n i
      have h1 := (cond_none h).1; replace h := (cond_none h).2; have h2 := (cond_none h).1; replace h := (cond_none h).2; have h3 := (cond_none h).1; replace h := (cond_none h).2; have h4 := (cond_none h).1; replace h := (cond_none h).2; have h5 := (cond_none h).1; replace h := (cond_none h).2
      have e1 := ieq_of h1
      subst e1
      have h3 : r13.length ≤ 1000001 := ble_of h3
      have h4 : r1.length ≤ 1000001 := ble_of h4
      refine loop_ind (E := eKeyB) (f := 166) (id := 4) (σ := Int) (fun i => { fr := [(1, .slc [.str] r1), (13, .slc [.str] r13), (14, .int .i64 r13.length), (15, .int .i64 i)], tab := [] })
        (fun i => 0 ≤ i) (fun i => r13.length - i.toNat) (fun i K => cond (N.keyL (rowsS r1) ((rowsS r13).drop i.toNat) == 0) (K (.exit 0) { fr := [], tab := [] }) (K .ret { fr := [(4, .int .i64 4)], tab := [] })) (fun i hi => ?_) i (ile_of h2) K q (by assumption)
      by_cases hl : i < r13.length
      · have hlt : i.toNat < r13.length := by omega
        have hw' : (V.toStr (List.getD (List.getD r13 i.toNat []) 0 V.undef)).length ≤ 1000000 := ble_of (List.all_eq_true.1 h5 _ (by rw [List.getD_eq_getElem?_getD, List.getElem?_eq_getElem hlt]; exact List.getElem_mem _))
        rw [drop_get hlt]
        have e : N.keyL (rowsS r1) (rowS (r13.getD i.toNat []) :: (rowsS r13).drop (i.toNat + 1)) = cond ((rowsS r1).any (rowS (r13.getD i.toNat []) == ·)) (N.keyL (rowsS r1) ((rowsS r13).drop (i.toNat + 1))) (cond (cond (rowS (r13.getD i.toNat []) == []) true (!N.plain (rowS (r13.getD i.toNat [])))) 4 (N.keyL (rowsS r1) ((rowsS r13).drop (i.toNat + 1)))) := rfl
        rw [e]
        have stepOk : ∀ K : Ex → St → Option R, (cond ((rowsS r1).any (rowS (r13.getD i.toNat []) == ·)) true (!cond (rowS (r13.getD i.toNat []) == []) true (!N.plain (rowS (r13.getD i.toNat []))))) = true →
            evRound eKeyB 166 4 { fr := [(1, .slc [.str] r1), (13, .slc [.str] r13), (14, .int .i64 r13.length), (15, .int .i64 i)], tab := [] } K = K .normal { fr := [(1, .slc [.str] r1), (13, .slc [.str] r13), (14, .int .i64 r13.length), (15, .int .i64 (i + 1))], tab := [] } := fun K hc => by
          rw [q_keyBR4]
          unfold rowsS rowS at hc
          simp (disch := omega) only [evs, List.drop_zero]
          revert hc
          cases List.any (List.map (fun r => V.toStr (List.getD r 0 V.undef)) r1) (fun x => V.toStr (List.getD (List.getD r13 i.toNat []) 0 V.undef) == x) <;> cases V.toStr (List.getD (List.getD r13 i.toNat []) 0 V.undef) == [] <;> cases N.plain (V.toStr (List.getD (List.getD r13 i.toNat []) 0 V.undef)) <;> intro hc <;> first | rfl | cases hc
        cases h1 : (rowsS r1).any (rowS (r13.getD i.toNat []) == ·) with
        | true =>
          refine .inl ⟨i + 1, by omega, by omega, fun K => stepOk K (by rw [h1]; rfl), fun K => ?_⟩
          rw [cond_true, show (i + 1).toNat = i.toNat + 1 by omega]
        | false =>
          cases h2 : cond (rowS (r13.getD i.toNat []) == []) true (!N.plain (rowS (r13.getD i.toNat []))) with
          | false =>
            refine .inl ⟨i + 1, by omega, by omega, fun K => stepOk K (by rw [h1, h2]; rfl), fun K => ?_⟩
            rw [cond_false, cond_false, show (i + 1).toNat = i.toNat + 1 by omega]
          | true =>
            refine .inr ⟨.ret, { fr := [(4, .int .i64 4)], tab := [] }, by simp, fun K => ?_, fun K => rfl⟩
            rw [q_keyBR4]
            unfold rowsS rowS at h1
            simp (disch := omega) only [evs, List.drop_zero]
            revert h1 h2
            unfold rowS
            cases List.any (List.map (fun r => V.toStr (List.getD r 0 V.undef)) r1) (fun x => V.toStr (List.getD (List.getD r13 i.toNat []) 0 V.undef) == x) <;> cases V.toStr (List.getD (List.getD r13 i.toNat []) 0 V.undef) == [] <;> cases N.plain (V.toStr (List.getD (List.getD r13 i.toNat []) 0 V.undef)) <;> intro h1 h2 <;> first | rfl | (cases h1; done) | cases h2
      · refine .inr ⟨.exit 0, { fr := [], tab := [] }, by simp, fun K => ?_, fun K => ?_⟩
        · rw [q_keyBR4]
          simp (disch := omega) only [evs]
        · rw [List.drop_eq_nil_of_le (by rw [rowsS_length]; omega)]; rfl
    · cases h
  · unfold gKeyB7 at h
    split at h
    · rename_i r1 s r13 i14 i15 r19 n i
      have h1 := (cond_none h).1; replace h := (cond_none h).2; have h2 := (cond_none h).1; replace h := (cond_none h).2; have h3 := (cond_none h).1; replace h := (cond_none h).2
      have e1 := ieq_of h1
      subst e1
      have h3 : r19.length ≤ 1000001 := ble_of h3
      refine loop_ind (E := eKeyB) (f := 166) (id := 7) (σ := Int) (fun i => { fr := [(1, .slc [.str] r1), (6, .str s), (13, .slc [.str] r13), (14, .int .i64 i14), (15, .int .i64 i15), (19, .slc [.str] r19), (20, .int .i64 r19.length), (21, .int .i64 i)], tab := [] })
        (fun i => 0 ≤ i) (fun i => r19.length - i.toNat) (fun i K => cond (((rowsS r19).drop i.toNat).any (s == ·)) (K (.exit 1) { fr := [(1, .slc [.str] r1), (13, .slc [.str] r13), (14, .int .i64 i14), (15, .int .i64 i15)], tab := [] })
        (K (.exit 2) { fr := [(1, .slc [.str] r1), (6, .str s), (13, .slc [.str] r13), (14, .int .i64 i14), (15, .int .i64 i15)], tab := [] })) (fun i hi => ?_) i (ile_of h2) K q (by assumption)
      by_cases hl : i < r19.length
      · rw [drop_get (show i.toNat < r19.length by omega), List.any_cons]
        cases hc : s == rowS (r19.getD i.toNat []) with
        | true =>
          refine .inr ⟨.exit 1, _, by simp, fun K => ?_, fun K => rfl⟩
          rw [q_keyBR7]
          unfold rowS at hc
          simp (disch := omega) only [evs, hc]
        | false =>
          refine .inl ⟨i + 1, by omega, by omega, fun K => ?_, fun K => ?_⟩
          · rw [q_keyBR7]
            unfold rowS at hc
            simp (disch := omega) only [evs, hc]
          · rw [Bool.false_or, show (i + 1).toNat = i.toNat + 1 by omega]
      · refine .inr ⟨.exit 2, { fr := [(1, .slc [.str] r1), (6, .str s), (13, .slc [.str] r13), (14, .int .i64 i14), (15, .int .i64 i15)], tab := [] }, by simp, fun K => ?_, fun K => ?_⟩
        · rw [q_keyBR7]
          simp (disch := omega) only [evs]
        · rw [List.drop_eq_nil_of_le (by rw [rowsS_length]; omega)]; rfl
    · cases h
  · obtain ⟨s, l⟩ := a
    have h : l.length ≤ 1000000 := ble_of h
    refine (q_keyB s l).trans ?_
    show _ = some (⟨.int .i64 (N.key s l), [], []⟩ : DRes)
    unfold N.key
    cases hl : ilt 64 s.length with
    | true => rfl
    | false =>
      have hl := ilt_nof hl
      obtain ⟨w1, w2⟩ := words_small s
      have hall : ((N.words s).map (fun n => [V.str n])).all (fun r => Nat.ble (V.toStr (List.getD r 0 V.undef)).length 1000000) = true := List.all_eq_true.2 fun r hr => by
        obtain ⟨w, hw, rfl⟩ := List.mem_map.1 hr
        exact ble_t (show w.length ≤ 1000000 from by have := w2 w hw; omega)
      have e : ∀ l : List Bytes, (l.map (fun n => [V.str n])).map (fun r => V.toStr (List.getD r 0 V.undef)) = l := fun l => rowsS_enc l
      simp (disch := omega) only [evs, hall, e, List.drop_zero]
      rcases keyL_or l (N.words s) with e | e <;> rw [e] <;> rfl
noncomputable def eKey : Env := env Tryz.prog [(166, dKeyB)] [] []
theorem q_key (s : Bytes) : evFn eKey 149 ((aOne vStr).enc s) ([]) some =
 some { v := V.int IntKind.i64 (N.key s []), bx := [] } := by kernel_rfl
theorem ok_key : FnOk Tryz.prog 149 dKey := den_okF (env_ok ((TOk.nil _).cons ok_keyB)) (E := eKey) Tryz.func149 [] (by kernel_rfl) none0 fun s _ _ => q_key s
def schRefName : SSch := { fr := [(0, .str), (3, .int .i64)], tab := [] }
def gRefName : List Leaf → (Ex → St → Option R) → Option R
  | [.s s0, .i i3], K => cond (ile 0 i3) (cond (Nat.ble s0.length LIM) (cond (N.plain (s0.drop i3.toNat)) (K (.exit 0) { fr := [], tab := [] }) (K .ret { fr := [(2, .int .i64 4)], tab := [] })) none) none
  | _, _ => none
noncomputable def eRefName : Env := env Tryz.prog [(78, dLetter)] [(6, loopF schRefName gRefName)] [(6, [(0, [0, 3]), (1, []), (1000, [2])])]
theorem q_refName (s : Bytes) : evFn eRefName 125 ((aOne vStr).enc s) ([]) some =
 cond ((↑(List.length s) : Int) == (0 : Int)) (some { v := V.int IntKind.i64 (15 : Int), bx := [] }) (cond (ilt (16 : Int) (↑(List.length s) : Int)) (some { v := V.int IntKind.i64 (5 : Int), bx := [] }) (cond (Nat.ble (List.length s) (1000000 : Nat)) (cond (N.plain (List.drop (0 : Nat) s)) (some { v := V.int IntKind.i64 (0 : Int), bx := [] }) (some { v := V.int IntKind.i64 (4 : Int), bx := [] })) (none))) := by kernel_rfl
theorem q_refNameR (s0 : Bytes) (i3 : Int) (K : Ex → St → Option R) : evRound eRefName 125 6 { fr := [(0, .str s0), (3, .int .i64 i3)], tab := [] } K =
 cond (ilt i3 (↑(List.length s0) : Int)) (cond (decide ((0 : Int) ≤ i3 ∧ i3 < (↑(List.length s0) : Int))) (cond (!N.letterI (↑(UInt8.toNat (List.getD s0 (Int.toNat i3) (0 : UInt8))) : Int)) (K Ex.ret { fr := [((2 : Nat), V.int IntKind.i64 (4 : Int))], tab := [] }) (K Ex.normal { fr := [((0 : Nat), V.str s0), ((3 : Nat), V.int IntKind.i64 (IntKind.wrap IntKind.i64 (i3 + (1 : Int))))], tab := [] })) (none)) (K (Ex.exit (0 : Nat)) { fr := [], tab := [] }) := by kernel_rfl
theorem ok_refName : FnOk Tryz.prog 125 dName := by
  refine den_okF (env_ok ((TOk.nil _).cons ok_letter)) (E := eRefName) Tryz.func125 [6] (by kernel_rfl) (one1 (rounds_of rfl fun l K q h => ?_)) fun s _ h => ?_
  · unfold gRefName at h
    split at h
    · rename_i s i
      have h1 := (cond_none h).1; replace h := (cond_none h).2; have h2 := (cond_none h).1; replace h := (cond_none h).2
      have h2 : s.length ≤ 1000000 := ble_of h2
      refine loop_ind (E := eRefName) (f := 125) (id := 6) (fun i : Int => { fr := [(0, .str s), (3, .int .i64 i)], tab := [] }) (fun i => 0 ≤ i) (fun i => s.length - i.toNat)
        (fun i K => cond (N.plain (s.drop i.toNat)) (K (.exit 0) { fr := [], tab := [] }) (K .ret { fr := [(2, .int .i64 4)], tab := [] })) (fun i hi => ?_) i (ile_of h1) K q h
      by_cases hl : i < s.length
      · rw [drop_byte (show i.toNat < s.length by omega), plain_cons]
        cases hc : N.letterI (s.getD i.toNat 0).toNat with
        | true =>
          refine .inl ⟨i + 1, by omega, by omega, fun K => ?_, fun K => ?_⟩
          · rw [q_refNameR]
            simp (disch := omega) only [evs, hc, Bool.not_true]
          · rw [cond_true, show (i + 1).toNat = i.toNat + 1 by omega]
        | false =>
          refine .inr ⟨.ret, { fr := [(2, .int .i64 4)], tab := [] }, by simp, fun K => ?_, fun K => rfl⟩
          rw [q_refNameR]
          simp (disch := omega) only [evs, hc, Bool.not_false]
      · refine .inr ⟨.exit 0, { fr := [], tab := [] }, by simp, fun K => ?_, fun K => ?_⟩
        · rw [q_refNameR]
          simp (disch := omega) only [evs]
        · rw [List.drop_eq_nil_of_le (by omega)]; rfl
    · cases h
  · refine (q_refName s).trans ?_
    show _ = some (⟨.int .i64 (N.name s), [], []⟩ : DRes)
    unfold N.name
    cases s with
    | nil => rfl
    | cons c r =>
      generalize hs : c :: r = s at *
      have h0 : (s == []) = false := by rw [← hs]; rfl
      have h1 : 0 < s.length := by rw [← hs]; simp
      rw [h0]
      cases h : ilt 16 s.length with
      | true => simp (disch := omega) only [evs]
      | false =>
        have h := ilt_nof h
        simp (disch := omega) only [evs, List.drop_zero]
        cases N.plain s <;> rfl
/-! ### The statement on forms -/
theorem key_eq (s : Bytes) : N.key s [] = N.refKey s false := by
  have e : ∀ l, N.keyL [] l = N.refKeyL false l := fun l => by
    induction l with
    | nil => rfl
    | cons w r ih =>
      unfold N.keyL N.refKeyL
      rw [ih, List.any_nil]
      cases w with
      | nil => rfl
      | cons c w => simp only [cond_false, List.length_cons]; simp (disch := omega) only [evs]; rw [show ((c :: w) == []) = false from rfl]; cases N.plain (c :: w) <;> rfl
  unfold N.key N.refKey
  rw [e]
end Go.Ev

/- The two readers of heads agree: lemmas on the plain functions. -/
namespace Go.Ev
open Go

/-! ### A reader that has failed stays as it is -/
/-! ### What keeps a reader within its bytes -/
end Go.Ev

/- The program's functions on bytes answer what the plain ones do: lemmas; that of the function that writes numbers is a premise. -/
namespace Go.Ev
open Go Go.Proofs
set_option maxRecDepth 100000

noncomputable def eFail : Env := env Tryz.prog [] [] []
theorem q_fail (i : InS) (n : Int) : evFn eFail 193 ((aCons (vPtr 0) (aOne (vInt .i64))).enc ((), n)) ((bOne cIn).enc i) some =
 cond (InS.err i == (0 : Int)) (cond (n != (0 : Int)) (some { v := V.tup [], bx := [[V.str [], V.int IntKind.i64 n]] }) (some { v := V.tup [], bx := [[V.str (InS.s i), V.int IntKind.i64 (InS.err i)]] })) (some { v := V.tup [], bx := [[V.str (InS.s i), V.int IntKind.i64 (InS.err i)]] }) := by kernel_rfl
theorem ok_fail : FnOk Tryz.prog 193 dFail := by
  refine den_okF (env_ok (TOk.nil _)) (E := eFail) Tryz.func193 [] (by kernel_rfl) none0 fun a i _ => ?_
  refine (q_fail i a.2).trans ?_
  show _ = some (⟨.tup [], [[.str (N.inFail i a.2).s, .int .i64 (N.inFail i a.2).err]], []⟩ : DRes)
  unfold N.inFail
  cases i.err == 0 <;> cases a.2 != 0 <;> rfl

noncomputable def eRaw : Env := env Tryz.prog [(193, dFail)] [] []
theorem q_raw (i : InS) (n : Int) : evFn eRaw 187 ((aCons (vPtr 0) (aOne (vInt .i64))).enc ((), n)) ((bOne cIn).enc i) some =
 cond (InS.err i != (0 : Int)) (cond (InS.err i != (0 : Int)) (some { v := V.str [], bx := [[V.str (InS.s i), V.int IntKind.i64 (InS.err i)]] }) (cond (ilt (↑(List.length (InS.s i)) : Int) n) (some { v := V.str [], bx := [[V.str (InS.s (N.inFail i (3 : Int))), V.int IntKind.i64 (InS.err (N.inFail i (3 : Int)))]] }) (cond (decide ((0 : Int) ≤ n ∧ n ≤ (↑(List.length (InS.s i)) : Int))) (cond (decide ((0 : Int) ≤ n ∧ n ≤ (↑(List.length (InS.s i)) : Int))) (some { v := V.str (List.drop (0 : Nat) (List.take (Int.toNat n) (InS.s i))), bx := [[V.str (List.drop (Int.toNat n) (List.take (List.length (InS.s i)) (InS.s i))), V.int IntKind.i64 (InS.err i)]] }) (none)) (none)))) (cond (ile n (0 : Int)) (some { v := V.str [], bx := [[V.str (InS.s i), V.int IntKind.i64 (InS.err i)]] }) (cond (ilt (↑(List.length (InS.s i)) : Int) n) (some { v := V.str [], bx := [[V.str (InS.s (N.inFail i (3 : Int))), V.int IntKind.i64 (InS.err (N.inFail i (3 : Int)))]] }) (cond (decide ((0 : Int) ≤ n ∧ n ≤ (↑(List.length (InS.s i)) : Int))) (cond (decide ((0 : Int) ≤ n ∧ n ≤ (↑(List.length (InS.s i)) : Int))) (some { v := V.str (List.drop (0 : Nat) (List.take (Int.toNat n) (InS.s i))), bx := [[V.str (List.drop (Int.toNat n) (List.take (List.length (InS.s i)) (InS.s i))), V.int IntKind.i64 (InS.err i)]] }) (none)) (none)))) := by kernel_rfl
theorem inBounds {n : Int} {l : Nat} (h1 : ile n 0 = false) (h2 : ilt (l : Int) n = false) : decide ((0 : Int) ≤ n ∧ n ≤ (l : Int)) = true := by
  rw [ile_eq] at h1; rw [ilt_eq] at h2
  have h1 := of_decide_eq_false h1
  have h2 := of_decide_eq_false h2
  rw [decide_eq_true_iff]; omega
theorem ok_raw : FnOk Tryz.prog 187 dRaw := by
  refine den_okF (env_ok ((TOk.nil _).cons ok_fail)) (E := eRaw) Tryz.func187 [] (by kernel_rfl) none0 fun a i _ => ?_
  refine (q_raw i a.2).trans ?_
  show _ = some (⟨.str (N.inRaw i a.2).1, [[.str (N.inRaw i a.2).2.s, .int .i64 (N.inRaw i a.2).2.err]], []⟩ : DRes)
  unfold N.inRaw
  cases h1 : (i.err != 0) with
  | true => rfl
  | false =>
    cases h2 : ile a.2 0 with
    | true => rfl
    | false =>
      cases h3 : ilt (i.s.length : Int) a.2 with
      | true => rfl
      | false =>
        simp only [cond_true, cond_false, inBounds h2 h3, List.drop_zero, List.take_length]

def schNum : SSch := { fr := [(5, .int .u64), (12, .slc [.int .u8]), (13, .int .i64), (14, .int .i64)], tab := [(0, .var [.str, .int .i64])] }
def gNum : List Leaf → (Ex → St → Option R) → Option R
  | [.i n, .r rows, .i len, .i k, .s s, .i e], K => cond (decide (len = (rows.length : Int))) (cond (ile 0 k) (cond (Nat.ble rows.length 9223372036854775806)
      (K (.exit 0) { fr := [(5, .int .u64 (N.beR (rows.drop k.toNat) n))], tab := [(0, .var [.str s, .int .i64 e])] }) none) none) none
  | _, _ => none
noncomputable def eNum : Env := env Tryz.prog [(187, dRaw)] [(3, loopF schNum gNum)] [(3, [(0, [5, 12, 13, 14]), (1, [5]), (1000, [4])])]
theorem q_num (i : InS) (n : Int) : evFn eNum 182 ((aCons (vPtr 0) (aOne (vInt .i64))).enc ((), n)) ((bOne cIn).enc i) some =
 cond (decide ((↑(List.length (bytesOfStr (Prod.fst (N.inRaw i (bif ilt (8 : Int) n then (8 : Int) else n))))) : Int) = (↑(List.length (bytesOfStr (Prod.fst (N.inRaw i (bif ilt (8 : Int) n then (8 : Int) else n))))) : Int))) (cond (Nat.ble (List.length (bytesOfStr (Prod.fst (N.inRaw i (bif ilt (8 : Int) n then (8 : Int) else n))))) (9223372036854775806 : Nat)) (some { v := V.int IntKind.u64 (N.beR (List.drop (0 : Nat) (bytesOfStr (Prod.fst (N.inRaw i (bif ilt (8 : Int) n then (8 : Int) else n))))) (0 : Int)), bx := [[V.str (InS.s (Prod.snd (N.inRaw i (bif ilt (8 : Int) n then (8 : Int) else n)))), V.int IntKind.i64 (InS.err (Prod.snd (N.inRaw i (bif ilt (8 : Int) n then (8 : Int) else n))))]] }) (none)) (none) := by kernel_rfl
theorem q_numR (rows : List (List V)) (n len k e : Int) (s : Bytes) (K : Ex → St → Option R) : evRound eNum 182 3 { fr := [(5, .int .u64 n), (12, .slc [.int .u8] rows), (13, .int .i64 len), (14, .int .i64 k)], tab := [(0, .var [.str s, .int .i64 e])] } K =
 cond (ilt k len) (cond (decide ((0 : Int) ≤ k ∧ k < (↑(List.length rows) : Int))) (K Ex.normal { fr := [((5 : Nat), V.int IntKind.u64 (ibits BinOp.or IntKind.u64 (shl IntKind.u64 n (8 : Int)) (IntKind.wrap IntKind.u64 (V.toInt (List.getD (List.getD rows (Int.toNat k) []) (0 : Nat) V.undef))))), ((12 : Nat), V.slc [Sh.int IntKind.u8] rows), ((13 : Nat), V.int IntKind.i64 len), ((14 : Nat), V.int IntKind.i64 (IntKind.wrap IntKind.i64 (k + (1 : Int))))], tab := [((0 : Nat), Box.var [V.str s, V.int IntKind.i64 e])] }) (none)) (K (Ex.exit (0 : Nat)) { fr := [((5 : Nat), V.int IntKind.u64 n)], tab := [((0 : Nat), Box.var [V.str s, V.int IntKind.i64 e])] }) := by kernel_rfl
theorem wrap_i64 {n : Int} (h1 : -9223372036854775808 ≤ n) (h2 : n ≤ 9223372036854775807) : IntKind.wrap .i64 n = n := by
  simp only [IntKind.wrap, IntKind.signed, IntKind.bits]
  simp
  omega
theorem wrap_u64 {n : Int} (h1 : 0 ≤ n) (h2 : n < 18446744073709551616) : IntKind.wrap .u64 n = n := by
  simp only [IntKind.wrap, IntKind.signed, IntKind.bits]
  simp
  omega
theorem numR_ok (rows : List (List V)) (len e : Int) (s : Bytes) (hlen : len = rows.length) (hb : rows.length ≤ 9223372036854775806) (K : Ex → St → Option R) (q : R) : ∀ (d : Nat) (k n : Int), d = rows.length - k.toNat → 0 ≤ k →
    K (.exit 0) { fr := [(5, .int .u64 (N.beR (rows.drop k.toNat) n))], tab := [(0, .var [.str s, .int .i64 e])] } = some q →
    ∃ m, iterR eNum 182 3 m { fr := [(5, .int .u64 n), (12, .slc [.int .u8] rows), (13, .int .i64 len), (14, .int .i64 k)], tab := [(0, .var [.str s, .int .i64 e])] } K = some q
  | 0, k, n, hd, hk, h => by
    refine ⟨1, ?_⟩
    show evRound eNum _ 3 _ _ = some q
    rw [q_numR]
    have h1 : ilt k len = false := by rw [ilt_eq, decide_eq_false_iff_not]; omega
    rw [h1, cond_false]
    rw [List.drop_eq_nil_of_le (by omega)] at h
    exact h
  | d + 1, k, n, hd, hk, h => by
    have hlt : k.toNat < rows.length := by omega
    have hdrop : rows.drop k.toNat = rows.getD k.toNat [] :: rows.drop (k + 1).toNat := by
      rw [List.drop_eq_getElem_cons hlt, show (k + 1).toNat = k.toNat + 1 by omega, List.getD_eq_getElem?_getD, List.getElem?_eq_getElem hlt]; rfl
    rw [hdrop] at h
    obtain ⟨m, hm⟩ := numR_ok rows len e s hlen hb K q d (k + 1) _ (by omega) (by omega) h
    refine ⟨m + 1, ?_⟩
    show evRound eNum _ 3 _ _ = some q
    rw [q_numR]
    have h1 : ilt k len = true := by rw [ilt_eq, decide_eq_true_iff]; omega
    have h2 : decide ((0 : Int) ≤ k ∧ k < (rows.length : Int)) = true := by rw [decide_eq_true_iff]; omega
    rw [h1, h2, cond_true, cond_true, wrap_i64 (by omega) (by omega)]
    exact hm
theorem ok_num : FnOk Tryz.prog 182 dNum := by
  refine den_okF (env_ok ((TOk.nil _).cons ok_raw)) (E := eNum) Tryz.func182 [3] (by kernel_rfl) (one1 (rounds_of rfl fun l K q h => ?_)) fun a i _ => ?_
  · unfold gNum at h
    split at h
    · rename_i n rows len k s e
      obtain ⟨h1, h⟩ := cond_none h
      obtain ⟨h2, h⟩ := cond_none h
      obtain ⟨h3, h⟩ := cond_none h
      rw [ile_eq] at h2
      exact numR_ok rows len e s (of_decide_eq_true h1) (Nat.le_of_ble_eq_true h3) K q _ k n rfl (of_decide_eq_true h2) h
    · cases h
  · refine (q_num i a.2).trans ?_
    have h8 : (N.inRaw i (bif ilt 8 a.2 then 8 else a.2)).1.length ≤ 8 := N.inRaw_len i _ 8 (by
      rw [ilt_eq]
      by_cases h : 8 < a.2
      · rw [decide_eq_true h]; exact Int.le_refl _
      · rw [decide_eq_false h]; simp only [cond_false]; omega)
    rw [decide_eq_true (rfl : (_ : Int) = _), show Nat.ble (List.length (bytesOfStr (N.inRaw i (bif ilt 8 a.2 then 8 else a.2)).1)) 9223372036854775806 = true from
      Nat.ble_eq_true_of_le (by rw [show (bytesOfStr (N.inRaw i (bif ilt 8 a.2 then 8 else a.2)).1).length = (N.inRaw i (bif ilt 8 a.2 then 8 else a.2)).1.length by simp [bytesOfStr]]; omega), cond_true, cond_true]
    rw [List.drop_zero, beR_bytes _ 0 8 (by decide) h8 (by decide) (by decide)]
    rfl

noncomputable def eNew : Env := env Tryz.prog [] [] []
theorem q_new (s : Bytes) : evFn eNew 181 ((aOne vStr).enc s) (bNil.enc ()) some =
 some { v := V.ptr (1000 : Nat) (0 : Nat) (0 : Nat) (0 : Nat), bx := [], nb := [Box.var [V.str s, V.int IntKind.i64 (0 : Int)]] } := by kernel_rfl
theorem ok_new : FnOk Tryz.prog 181 dNew := den_okF (env_ok (TOk.nil _)) (E := eNew) Tryz.func181 [] (by kernel_rfl) none0 fun s _ _ => q_new s
theorem q_outRaw (o : OutS) (s : Bytes) : evFn eNew 160 ((aCons (vAgg cOut) (aOne vStr)).enc (o, s)) (bNil.enc ()) some =
 cond (Nat.ble (List.length (OutS.s o) + List.length s) (9223372036854775807 : Nat)) (some { v := V.agg [V.str (OutS.s o ++ s), V.int IntKind.i64 (OutS.err o)], bx := [] }) (none) := by kernel_rfl
theorem ok_outRaw : FnOk Tryz.prog 160 dOutRaw := by
  refine den_okF (env_ok (TOk.nil _)) (E := eNew) Tryz.func160 [] (by kernel_rfl) none0 fun a _ h => ?_
  refine (q_outRaw a.1 a.2).trans ?_
  rw [show Nat.ble (a.1.s.length + a.2.length) 9223372036854775807 = true from h]
  rfl
theorem q_outString (o : OutS) : evFn eNew 161 ((aOne (vAgg cOut)).enc o) (bNil.enc ()) some =
 some { v := V.str (OutS.s o), bx := [] } := by kernel_rfl
theorem ok_outString : FnOk Tryz.prog 161 dOutString := den_okF (env_ok (TOk.nil _)) (E := eNew) Tryz.func161 [] (by kernel_rfl) none0 fun s _ _ => q_outString s
noncomputable def eText : Env := env Tryz.prog [(160, dOutRaw), (158, dOutNum)] [] []
theorem q_outText (o : OutS) (s : Bytes) : evFn eText 159 ((aCons (vAgg cOut) (aOne vStr)).enc (o, s)) (bNil.enc ()) some =
 cond (ilt (65535 : Int) (↑(List.length s) : Int)) (cond (OutS.err o == (0 : Int)) (some { v := V.agg [V.str (OutS.s o), V.int IntKind.i64 (5 : Int)], bx := [] }) (some { v := V.agg [V.str (OutS.s o), V.int IntKind.i64 (OutS.err o)], bx := [] })) (cond (bif ilt (IntKind.wrap IntKind.u64 (↑(List.length s) : Int)) (18446744073709551616 : Int) then Nat.ble (List.length (OutS.s o)) (9223372036854775799 : Nat) else false) (cond (Nat.ble (List.length (OutS.s (N.outNum o (IntKind.wrap IntKind.u64 (↑(List.length s) : Int)) (2 : Int))) + List.length s) (9223372036854775807 : Nat)) (some { v := V.agg [V.str (OutS.s (N.outRaw (N.outNum o (IntKind.wrap IntKind.u64 (↑(List.length s) : Int)) (2 : Int)) s)), V.int IntKind.i64 (OutS.err (N.outRaw (N.outNum o (IntKind.wrap IntKind.u64 (↑(List.length s) : Int)) (2 : Int)) s))], bx := [] }) (none)) (none)) := by kernel_rfl
theorem ok_outText (hN : FnOk Tryz.prog 158 dOutNum) : FnOk Tryz.prog 159 dOutText := by
  refine den_okF (env_ok (((TOk.nil _).cons hN).cons ok_outRaw)) (E := eText) Tryz.func159 [] (by kernel_rfl) none0 fun a _ h => ?_
  refine (q_outText a.1 a.2).trans ?_
  have h : a.1.s.length + a.2.length ≤ 9223372036854775790 := Nat.le_of_ble_eq_true h
  show _ = some (⟨.agg [.str (N.outText a.1 a.2).s, .int .i64 (N.outText a.1 a.2).err], [], []⟩ : DRes)
  unfold N.outText
  cases h1 : ilt 65535 (a.2.length : Int) with
  | true => cases a.1.err == 0 <;> rfl
  | false =>
    rw [ilt_eq] at h1
    have h1 := of_decide_eq_false h1
    have hw : IntKind.wrap .u64 (a.2.length : Int) = a.2.length := wrap_u64 (by omega) (by omega)
    rw [hw]
    have e1 : ilt (a.2.length : Int) 18446744073709551616 = true := by rw [ilt_eq, decide_eq_true_iff]; omega
    have e2 : Nat.ble a.1.s.length 9223372036854775799 = true := Nat.ble_eq_true_of_le (by omega)
    have e3 : Nat.ble ((N.outNum a.1 (a.2.length : Int) 2).s.length + a.2.length) 9223372036854775807 = true := Nat.ble_eq_true_of_le (by
      have : (N.outNum a.1 (a.2.length : Int) 2).s.length = a.1.s.length + 2 := by
        show (a.1.s ++ N.numB _ (N.clamp 2)).length = _
        rw [List.length_append, N.numB_length]; rfl
      omega)
    simp only [e1, e2, e3, cond_true, cond_false]
end Go.Ev

/- The example of the chapter on bytes: lemmas; the function that writes numbers is a premise. -/
namespace Go.Ev
open Go Go.Proofs
set_option maxRecDepth 100000

noncomputable def eAw1 : Env := env Tryz.prog [(158, dOutNum), (159, dOutText), (161, dOutString), (181, dNew), (182, dNum)] [] []
theorem q_aw1  : evFn eAw1 176 [] [] some =
 some { v := V.bool true, bx := [] } := by kernel_rfl
def dTrue : Den := den aNil bNil (oV vBool) (fun _ _ => true) fun _ _ => (true, ())
theorem ok_aw1 (hN : FnOk Tryz.prog 158 dOutNum) : FnOk Tryz.prog 176 dTrue :=
  den_okF (env_ok ((((((TOk.nil _).cons ok_num).cons ok_new).cons ok_outString).cons (ok_outText hN)).cons hN)) (E := eAw1) Tryz.func176 [] (by kernel_rfl) none0 fun _ _ _ => q_aw1
noncomputable def eAw1' : Env := env Tryz.prog [(176, dTrue)] [] []
theorem q_aw1'  : evFn eAw1' 173 [] [] some =
 some { v := V.bool true, bx := [] } := by kernel_rfl
theorem ok_aw1' (hN : FnOk Tryz.prog 158 dOutNum) : FnOk Tryz.prog 173 dTrue :=
  den_okF (env_ok ((TOk.nil _).cons (ok_aw1 hN))) (E := eAw1') Tryz.func173 [] (by kernel_rfl) none0 fun _ _ _ => q_aw1'
end Go.Ev

/- The program's functions on heads answer what the plain ones do: lemmas; the function that writes numbers is a premise. -/
namespace Go.Ev
open Go Go.Proofs
set_option maxRecDepth 100000

def schEqP : SSch := { fr := [(0, .slc [.str, .int .u8, .int .i64, .str]), (1, .slc [.str, .int .u8, .int .i64, .str]), (12, .int .i64), (13, .int .i64)], tab := [] }
def gEqP : List Leaf → (Ex → St → Option R) → Option R
  | [.r r0, .r r1, .i i12, .i i13], K => cond (i12 == r0.length) (cond (Nat.beq r0.length r1.length) (cond (ile 0 i13) (cond (Nat.ble r0.length (LIM + 1)) (cond (N.samePs ((rowsP r0).drop i13.toNat) ((rowsP r1).drop i13.toNat)) (K (.exit 0) { fr := [], tab := [] }) (K .ret { fr := [(4, .bool false)], tab := [] })) none) none) none) none
  | _, _ => none
theorem samePs_len : ∀ a b : List HPair, a.length ≠ b.length → N.samePs a b = false
  | [], [], h => absurd rfl h
  | [], _ :: _, _ => rfl
  | _ :: _, [], _ => rfl
  | p :: a, q :: b, h => by
    unfold N.samePs
    rw [samePs_len a b (by simpa using h)]
    cases N.eqP p q <;> rfl
theorem samePs_cons (p q : HPair) (a b : List HPair) : N.samePs (p :: a) (q :: b) = cond (N.eqP p q) (N.samePs a b) false := rfl
def schRefSame : SSch := schEqP
noncomputable def eRefSame : Env := env Tryz.prog [] [(4, loopF schRefSame gEqP)] [(4, [(0, [0, 1, 12, 13]), (1, []), (1000, [4])])]
theorem q_refSame (a b : List HPair) : evFn eRefSame 59 ((aCons (vSl cPair) (aOne (vSl cPair))).enc (a, b)) ([]) some =
 cond ((↑(List.length (List.map (fun p => [V.str (HPair.key p), V.int IntKind.u8 (HPair.kind p), V.int IntKind.i64 (HPair.num p), V.str (HPair.text p)]) a)) : Int) != (↑(List.length (List.map (fun p => [V.str (HPair.key p), V.int IntKind.u8 (HPair.kind p), V.int IntKind.i64 (HPair.num p), V.str (HPair.text p)]) b)) : Int)) (some { v := V.bool false, bx := [] : DRes }) (cond ((↑(List.length (List.map (fun p => [V.str (HPair.key p), V.int IntKind.u8 (HPair.kind p), V.int IntKind.i64 (HPair.num p), V.str (HPair.text p)]) a)) : Int) == (↑(List.length (List.map (fun p => [V.str (HPair.key p), V.int IntKind.u8 (HPair.kind p), V.int IntKind.i64 (HPair.num p), V.str (HPair.text p)]) a)) : Int)) (cond (Nat.beq (List.length (List.map (fun p => [V.str (HPair.key p), V.int IntKind.u8 (HPair.kind p), V.int IntKind.i64 (HPair.num p), V.str (HPair.text p)]) a)) (List.length (List.map (fun p => [V.str (HPair.key p), V.int IntKind.u8 (HPair.kind p), V.int IntKind.i64 (HPair.num p), V.str (HPair.text p)]) b))) (cond (Nat.ble (List.length (List.map (fun p => [V.str (HPair.key p), V.int IntKind.u8 (HPair.kind p), V.int IntKind.i64 (HPair.num p), V.str (HPair.text p)]) a)) (1000001 : Nat)) (cond (N.samePs (List.drop (0 : Nat) (List.map (fun r => { key := V.toStr (List.getD r (0 : Nat) V.undef), kind := V.toInt (List.getD r (1 : Nat) V.undef), num := V.toInt (List.getD r (2 : Nat) V.undef), text := V.toStr (List.getD r (3 : Nat) V.undef) : HPair }) (List.map (fun p => [V.str (HPair.key p), V.int IntKind.u8 (HPair.kind p), V.int IntKind.i64 (HPair.num p), V.str (HPair.text p)]) a))) (List.drop (0 : Nat) (List.map (fun r => { key := V.toStr (List.getD r (0 : Nat) V.undef), kind := V.toInt (List.getD r (1 : Nat) V.undef), num := V.toInt (List.getD r (2 : Nat) V.undef), text := V.toStr (List.getD r (3 : Nat) V.undef) : HPair }) (List.map (fun p => [V.str (HPair.key p), V.int IntKind.u8 (HPair.kind p), V.int IntKind.i64 (HPair.num p), V.str (HPair.text p)]) b)))) (some { v := V.bool true, bx := [] : DRes }) (some { v := V.bool false, bx := [] : DRes })) (none)) (none)) (none)) := by kernel_rfl
theorem q_refSameR (r0 : List (List V)) (r1 : List (List V)) (i12 : Int) (i13 : Int) (K : Ex → St → Option R) : evRound eRefSame 59 4 { fr := [(0, .slc [.str, .int .u8, .int .i64, .str] r0), (1, .slc [.str, .int .u8, .int .i64, .str] r1), (12, .int .i64 i12), (13, .int .i64 i13)], tab := [] } K =
 cond (ilt i13 i12) (cond (decide ((0 : Int) ≤ i13 ∧ i13 < (↑(List.length r0) : Int))) (cond (decide ((0 : Int) ≤ i13 ∧ i13 < (↑(List.length r1) : Int))) (cond (!(V.toStr (List.getD (List.getD r0 (Int.toNat i13) []) (0 : Nat) V.undef) == V.toStr (List.getD (List.getD r1 (Int.toNat i13) []) (0 : Nat) V.undef) && (V.toInt (List.getD (List.getD r0 (Int.toNat i13) []) (1 : Nat) V.undef) == V.toInt (List.getD (List.getD r1 (Int.toNat i13) []) (1 : Nat) V.undef) && (V.toInt (List.getD (List.getD r0 (Int.toNat i13) []) (2 : Nat) V.undef) == V.toInt (List.getD (List.getD r1 (Int.toNat i13) []) (2 : Nat) V.undef) && (V.toStr (List.getD (List.getD r0 (Int.toNat i13) []) (3 : Nat) V.undef) == V.toStr (List.getD (List.getD r1 (Int.toNat i13) []) (3 : Nat) V.undef) && true))))) (K Ex.ret { fr := [((4 : Nat), V.bool false)], tab := [] : St }) (K Ex.normal { fr := [((0 : Nat), V.slc [Sh.str, Sh.int IntKind.u8, Sh.int IntKind.i64, Sh.str] r0), ((1 : Nat), V.slc [Sh.str, Sh.int IntKind.u8, Sh.int IntKind.i64, Sh.str] r1), ((12 : Nat), V.int IntKind.i64 i12), ((13 : Nat), V.int IntKind.i64 (IntKind.wrap IntKind.i64 (i13 + (1 : Int))))], tab := [] : St })) (none)) (none)) (K (Ex.exit (0 : Nat)) { fr := [], tab := [] : St }) := by kernel_rfl
theorem ok_refSame : FnOk Tryz.prog 59 dSameP := by
  refine den_okF (env_ok (TOk.nil _)) (E := eRefSame) Tryz.func59 [4] (by kernel_rfl) (one1 (rounds_of rfl fun l K q h => ?_)) fun a _ h => ?_
  · unfold gEqP at h
    split at h
    · rename_i r0 r1 n i
      have h1 := (cond_none h).1; replace h := (cond_none h).2; have h2 := (cond_none h).1; replace h := (cond_none h).2; have h3 := (cond_none h).1; replace h := (cond_none h).2; have h4 := (cond_none h).1; replace h := (cond_none h).2
      have e1 := ieq_of h1
      have h2 := Nat.eq_of_beq_eq_true h2
      subst e1
      have h4 : r0.length ≤ 1000001 := ble_of h4
      refine loop_ind (E := eRefSame) (f := 59) (id := 4) (fun i : Int => { fr := [(0, .slc [.str, .int .u8, .int .i64, .str] r0), (1, .slc [.str, .int .u8, .int .i64, .str] r1), (12, .int .i64 r0.length), (13, .int .i64 i)], tab := [] }) (fun i => 0 ≤ i) (fun i => r0.length - i.toNat)
        (fun i K => cond (N.samePs ((rowsP r0).drop i.toNat) ((rowsP r1).drop i.toNat)) (K (.exit 0) { fr := [], tab := [] }) (K .ret { fr := [(4, .bool false)], tab := [] })) (fun i hi => ?_) i (ile_of h3) K q (by assumption)
      by_cases hl : i < r0.length
      · rw [drop_pair (show i.toNat < r0.length by omega), drop_pair (show i.toNat < r1.length by omega), samePs_cons]
        cases hc : N.eqP (rowP (r0.getD i.toNat [])) (rowP (r1.getD i.toNat [])) with
        | true =>
          refine .inl ⟨i + 1, by omega, by omega, fun K => ?_, fun K => ?_⟩
          · rw [q_refSameR]
            unfold N.eqP rowP at hc
            simp (disch := omega) only [evs, hc, Bool.not_true]
          · rw [cond_true, show (i + 1).toNat = i.toNat + 1 by omega]
        | false =>
          refine .inr ⟨.ret, { fr := [(4, .bool false)], tab := [] }, by simp, fun K => ?_, fun K => rfl⟩
          rw [q_refSameR]
          unfold N.eqP rowP at hc
          simp (disch := omega) only [evs, hc, Bool.not_false]
      · refine .inr ⟨.exit 0, { fr := [], tab := [] }, by simp, fun K => ?_, fun K => ?_⟩
        · rw [q_refSameR]
          simp (disch := omega) only [evs]
        · rw [List.drop_eq_nil_of_le (by rw [rowsP_length]; omega), List.drop_eq_nil_of_le (by rw [rowsP_length]; omega)]; rfl
    · cases h
  · obtain ⟨a, b⟩ := a
    have h : a.length ≤ 1000000 := ble_of h
    refine (q_refSame a b).trans ?_
    show _ = some (⟨.bool (N.samePs a b), [], []⟩ : DRes)
    by_cases hl : a.length = b.length
    · simp (disch := omega) only [evs, pairs_enc, hl, List.drop_zero]
      cases N.samePs a b <;> rfl
    · rw [samePs_len a b hl]
      simp (disch := omega) only [evs]
def schLight : SSch := { fr := [(8, .slc [.str, .int .u8, .int .i64, .str]), (9, .int .i64), (10, .int .i64)], tab := [] }
def gLight : List Leaf → (Ex → St → Option R) → Option R
  | [.r r8, .i i9, .i i10], K => cond (i9 == r8.length) (cond (ile 0 i10) (cond (Nat.ble r8.length LIM) (cond (((rowsP r8).drop i10.toNat).all N.lightP) (K (.exit 0) { fr := [], tab := [] }) (K .ret { fr := [(2, .bool false)], tab := [] })) none) none) none
  | _, _ => none
noncomputable def eLight : Env := env Tryz.prog [] [(4, loopF schLight gLight)] [(4, [(0, [8, 9, 10]), (1, []), (1000, [2])])]
theorem q_light (h : List HPair) : evFn eLight 33 ((aOne (vSl cPair)).enc h) ([]) some =
 cond (ilt (12 : Int) (↑(List.length (List.map (fun p => [V.str (HPair.key p), V.int IntKind.u8 (HPair.kind p), V.int IntKind.i64 (HPair.num p), V.str (HPair.text p)]) h)) : Int)) (some { v := V.bool false, bx := [] : DRes }) (cond ((↑(List.length (List.map (fun p => [V.str (HPair.key p), V.int IntKind.u8 (HPair.kind p), V.int IntKind.i64 (HPair.num p), V.str (HPair.text p)]) h)) : Int) == (↑(List.length (List.map (fun p => [V.str (HPair.key p), V.int IntKind.u8 (HPair.kind p), V.int IntKind.i64 (HPair.num p), V.str (HPair.text p)]) h)) : Int)) (cond (Nat.ble (List.length (List.map (fun p => [V.str (HPair.key p), V.int IntKind.u8 (HPair.kind p), V.int IntKind.i64 (HPair.num p), V.str (HPair.text p)]) h)) (1000000 : Nat)) (cond (List.all (List.drop (0 : Nat) (List.map (fun r => { key := V.toStr (List.getD r (0 : Nat) V.undef), kind := V.toInt (List.getD r (1 : Nat) V.undef), num := V.toInt (List.getD r (2 : Nat) V.undef), text := V.toStr (List.getD r (3 : Nat) V.undef) : HPair }) (List.map (fun p => [V.str (HPair.key p), V.int IntKind.u8 (HPair.kind p), V.int IntKind.i64 (HPair.num p), V.str (HPair.text p)]) h))) N.lightP) (some { v := V.bool true, bx := [] : DRes }) (some { v := V.bool false, bx := [] : DRes })) (none)) (none)) := by kernel_rfl
theorem q_lightR (r8 : List (List V)) (i9 : Int) (i10 : Int) (K : Ex → St → Option R) : evRound eLight 33 4 { fr := [(8, .slc [.str, .int .u8, .int .i64, .str] r8), (9, .int .i64 i9), (10, .int .i64 i10)], tab := [] } K =
 cond (ilt i10 i9) (cond (decide ((0 : Int) ≤ i10 ∧ i10 < (↑(List.length r8) : Int))) (cond (ilt (40 : Int) (↑(List.length (V.toStr (List.getD (List.getD r8 (Int.toNat i10) []) (0 : Nat) V.undef))) : Int)) (K Ex.ret { fr := [((2 : Nat), V.bool false)], tab := [] : St }) (cond (ilt (100 : Int) (↑(List.length (V.toStr (List.getD (List.getD r8 (Int.toNat i10) []) (3 : Nat) V.undef))) : Int)) (K Ex.ret { fr := [((2 : Nat), V.bool false)], tab := [] : St }) (K Ex.normal { fr := [((8 : Nat), V.slc [Sh.str, Sh.int IntKind.u8, Sh.int IntKind.i64, Sh.str] r8), ((9 : Nat), V.int IntKind.i64 i9), ((10 : Nat), V.int IntKind.i64 (IntKind.wrap IntKind.i64 (i10 + (1 : Int))))], tab := [] : St }))) (none)) (K (Ex.exit (0 : Nat)) { fr := [], tab := [] : St }) := by kernel_rfl
theorem ok_light : FnOk Tryz.prog 33 dLight := by
  refine den_okF (env_ok (TOk.nil _)) (E := eLight) Tryz.func33 [4] (by kernel_rfl) (one1 (rounds_of rfl fun l K q h => ?_)) fun h _ _ => ?_
  · unfold gLight at h
    split at h
    · rename_i r n i
      have h1 := (cond_none h).1; replace h := (cond_none h).2; have h2 := (cond_none h).1; replace h := (cond_none h).2; have h3 := (cond_none h).1; replace h := (cond_none h).2
      have e1 := ieq_of h1
      subst e1
      have h3 : r.length ≤ 1000000 := ble_of h3
      refine loop_ind (E := eLight) (f := 33) (id := 4) (fun i : Int => { fr := [(8, .slc [.str, .int .u8, .int .i64, .str] r), (9, .int .i64 r.length), (10, .int .i64 i)], tab := [] }) (fun i => 0 ≤ i) (fun i => r.length - i.toNat)
        (fun i K => cond (((rowsP r).drop i.toNat).all N.lightP) (K (.exit 0) { fr := [], tab := [] }) (K .ret { fr := [(2, .bool false)], tab := [] })) (fun i hi => ?_) i (ile_of h2) K q (by assumption)
      by_cases hl : i < r.length
      · rw [drop_pair (show i.toNat < r.length by omega), List.all_cons]
        cases hc : N.lightP (rowP (r.getD i.toNat [])) with
        | true =>
          refine .inl ⟨i + 1, by omega, by omega, fun K => ?_, fun K => ?_⟩
          · rw [q_lightR]
            simp (disch := omega) only [evs]
            revert hc
            unfold N.lightP rowP
            cases ilt 40 (V.toStr (List.getD (List.getD r i.toNat []) 0 V.undef)).length <;> cases ilt 100 (V.toStr (List.getD (List.getD r i.toNat []) 3 V.undef)).length <;> intro hc <;> first | rfl | cases hc
          · rw [Bool.true_and, show (i + 1).toNat = i.toNat + 1 by omega]
        | false =>
          refine .inr ⟨.ret, { fr := [(2, .bool false)], tab := [] }, by simp, fun K => ?_, fun K => rfl⟩
          rw [q_lightR]
          simp (disch := omega) only [evs]
          revert hc
          unfold N.lightP rowP
          cases ilt 40 (V.toStr (List.getD (List.getD r i.toNat []) 0 V.undef)).length <;> cases ilt 100 (V.toStr (List.getD (List.getD r i.toNat []) 3 V.undef)).length <;> intro hc <;> first | rfl | cases hc
      · refine .inr ⟨.exit 0, { fr := [], tab := [] }, by simp, fun K => ?_, fun K => ?_⟩
        · rw [q_lightR]
          simp (disch := omega) only [evs]
        · rw [List.drop_eq_nil_of_le (by rw [rowsP_length]; omega)]; rfl
    · cases h
  · refine (q_light h).trans ?_
    show _ = some (⟨.bool (N.light h), [], []⟩ : DRes)
    unfold N.light
    by_cases hl : 12 < h.length
    · simp (disch := omega) only [evs]
    · simp (disch := omega) only [evs, pairs_enc, List.drop_zero]
      cases h.all N.lightP <;> rfl
noncomputable def eFindFn : Env := env Tryz.prog [] [] []
theorem q_findFn (p : HPair) (key : Bytes) : evFn eFindFn 170 ((aCons (vAgg cPair) (aOne (vPtr 0))).enc (p, ())) ((bOne rStr).enc key) some =
 some { v := V.bool (HPair.key p == key), bx := [[V.str key]] : DRes } := by kernel_rfl
theorem ok_findFn : FnOk Tryz.prog 170 dFindFn := den_okF (env_ok (TOk.nil _)) (E := eFindFn) Tryz.func170 [] (by kernel_rfl) none0 fun a key _ => q_findFn a.1 key
def schIxf : SSch := { fr := [(0, .slc [.str, .int .u8, .int .i64, .str]), (1, .fn 170 [] [.ptr 0 0 0]), (7, .int .i64), (8, .int .i64)], tab := [(0, .var [.str])] }
def gIxf : List Leaf → (Ex → St → Option R) → Option R
  | [.r r0, .i i7, .i i8, .s key], K => cond (i7 == r0.length) (cond (ile 0 i8) (cond (Nat.ble r0.length LIM)
      (cond (ile 0 (N.findIx key ((rowsP r0).drop i8.toNat) i8)) (K .ret { fr := [(4, .int .i64 (N.findIx key ((rowsP r0).drop i8.toNat) i8))], tab := [(0, .var [.str key])] }) (K (.exit 0) { fr := [], tab := [(0, .var [.str key])] })) none) none) none
  | _, _ => none
noncomputable def eIxf : Env := env Tryz.prog [(170, dFindFn)] [(2, loopF schIxf gIxf)] [(2, [(0, [0, 1, 7, 8]), (1, []), (1000, [4])])]
theorem q_ixf (h : List HPair) (key : Bytes) : evFn eIxf 169 ((aCons (vSl cPair) (aOne (vFn 170 0))).enc (h, ())) ((bOne rStr).enc key) some =
 cond ((↑(List.length (List.map (fun p => [V.str (HPair.key p), V.int IntKind.u8 (HPair.kind p), V.int IntKind.i64 (HPair.num p), V.str (HPair.text p)]) h)) : Int) == (↑(List.length (List.map (fun p => [V.str (HPair.key p), V.int IntKind.u8 (HPair.kind p), V.int IntKind.i64 (HPair.num p), V.str (HPair.text p)]) h)) : Int)) (cond (Nat.ble (List.length (List.map (fun p => [V.str (HPair.key p), V.int IntKind.u8 (HPair.kind p), V.int IntKind.i64 (HPair.num p), V.str (HPair.text p)]) h)) (1000000 : Nat)) (cond (ile (0 : Int) (N.findIx key (List.drop (0 : Nat) (List.map (fun r => { key := V.toStr (List.getD r (0 : Nat) V.undef), kind := V.toInt (List.getD r (1 : Nat) V.undef), num := V.toInt (List.getD r (2 : Nat) V.undef), text := V.toStr (List.getD r (3 : Nat) V.undef) : HPair }) (List.map (fun p => [V.str (HPair.key p), V.int IntKind.u8 (HPair.kind p), V.int IntKind.i64 (HPair.num p), V.str (HPair.text p)]) h))) (0 : Int))) (some { v := V.int IntKind.i64 (N.findIx key (List.drop (0 : Nat) (List.map (fun r => { key := V.toStr (List.getD r (0 : Nat) V.undef), kind := V.toInt (List.getD r (1 : Nat) V.undef), num := V.toInt (List.getD r (2 : Nat) V.undef), text := V.toStr (List.getD r (3 : Nat) V.undef) : HPair }) (List.map (fun p => [V.str (HPair.key p), V.int IntKind.u8 (HPair.kind p), V.int IntKind.i64 (HPair.num p), V.str (HPair.text p)]) h))) (0 : Int)), bx := [[V.str key]] : DRes }) (some { v := V.int IntKind.i64 (-1 : Int), bx := [[V.str key]] : DRes })) (none)) (none) := by kernel_rfl
theorem q_ixfR (r0 : List (List V)) (i7 : Int) (i8 : Int) (sx0 : Bytes) (K : Ex → St → Option R) : evRound eIxf 169 2 { fr := [(0, .slc [.str, .int .u8, .int .i64, .str] r0), (1, .fn 170 [] [.ptr 0 0 0 0]), (7, .int .i64 i7), (8, .int .i64 i8)], tab := [(0, .var [.str sx0])] } K =
 cond (ilt i8 i7) (cond (decide ((0 : Int) ≤ i8 ∧ i8 < (↑(List.length r0) : Int))) (cond (V.toStr (List.getD (List.getD r0 (Int.toNat i8) []) (0 : Nat) V.undef) == sx0) (K Ex.ret { fr := [((4 : Nat), V.int IntKind.i64 i8)], tab := [((0 : Nat), Box.var [V.str sx0])] : St }) (K Ex.normal { fr := [((0 : Nat), V.slc [Sh.str, Sh.int IntKind.u8, Sh.int IntKind.i64, Sh.str] r0), ((1 : Nat), V.fn 170 [] [V.ptr (0 : Nat) (0 : Nat) (0 : Nat) (0 : Nat)]), ((7 : Nat), V.int IntKind.i64 i7), ((8 : Nat), V.int IntKind.i64 (IntKind.wrap IntKind.i64 (i8 + (1 : Int))))], tab := [((0 : Nat), Box.var [V.str sx0])] : St })) (none)) (K (Ex.exit (0 : Nat)) { fr := [], tab := [((0 : Nat), Box.var [V.str sx0])] : St }) := by kernel_rfl
theorem ok_ixf : FnOk Tryz.prog 169 (dIndexFn 170) := by
  refine den_okF (env_ok ((TOk.nil _).cons ok_findFn)) (E := eIxf) Tryz.func169 [2] (by kernel_rfl) (one1 (rounds_of rfl fun l K q h => ?_)) fun a key h => ?_
  · unfold gIxf at h
    split at h
    · rename_i r n i key
      have h1 := (cond_none h).1; replace h := (cond_none h).2; have h2 := (cond_none h).1; replace h := (cond_none h).2; have h3 := (cond_none h).1; replace h := (cond_none h).2
      have e1 := ieq_of h1
      subst e1
      have h3 : r.length ≤ 1000000 := ble_of h3
      refine loop_ind (E := eIxf) (f := 169) (id := 2) (fun i : Int => { fr := [(0, .slc [.str, .int .u8, .int .i64, .str] r), (1, .fn 170 [] [.ptr 0 0 0 0]), (7, .int .i64 r.length), (8, .int .i64 i)], tab := [(0, .var [.str key])] }) (fun i => 0 ≤ i) (fun i => r.length - i.toNat)
        (fun i8 K => cond (ile 0 (N.findIx key ((rowsP r).drop i8.toNat) i8)) (K .ret { fr := [(4, .int .i64 (N.findIx key ((rowsP r).drop i8.toNat) i8))], tab := [(0, .var [.str key])] }) (K (.exit 0) { fr := [], tab := [(0, .var [.str key])] })) (fun i hi => ?_) i (ile_of h2) K q (by assumption)
      by_cases hl : i < r.length
      · rw [drop_pair (show i.toNat < r.length by omega)]
        have e : N.findIx key (rowP (r.getD i.toNat []) :: (rowsP r).drop (i.toNat + 1)) i = cond ((rowP (r.getD i.toNat [])).key == key) i (N.findIx key ((rowsP r).drop (i.toNat + 1)) (i + 1)) := rfl
        rw [e]
        cases hc : (rowP (r.getD i.toNat [])).key == key with
        | true =>
          rw [cond_true, ile_t hi]
          refine .inr ⟨.ret, _, by simp, fun K => ?_, fun K => rfl⟩
          rw [q_ixfR]
          unfold rowP at hc
          simp (disch := omega) only [evs, hc]
        | false =>
          refine .inl ⟨i + 1, by omega, by omega, fun K => ?_, fun K => ?_⟩
          · rw [q_ixfR]
            unfold rowP at hc
            simp (disch := omega) only [evs, hc]
          · rw [cond_false, show (i + 1).toNat = i.toNat + 1 by omega]
      · refine .inr ⟨.exit 0, { fr := [], tab := [(0, .var [.str key])] }, by simp, fun K => ?_, fun K => ?_⟩
        · rw [q_ixfR]
          simp (disch := omega) only [evs]
        · rw [List.drop_eq_nil_of_le (by rw [rowsP_length]; omega)]; rfl
    · cases h
  · obtain ⟨l, u⟩ := a
    have h : l.length ≤ 1000000 := ble_of h
    refine (q_ixf l key).trans ?_
    show _ = some (⟨.int .i64 (N.findIx key l 0), [[.str key]], []⟩ : DRes)
    simp (disch := omega) only [evs, pairs_enc, List.drop_zero]
    rcases findIx_lt key l 0 (Int.le_refl _) with e | ⟨e, _⟩
    · rw [e]; rfl
    · rw [ile_t e]; rfl
noncomputable def eFind : Env := env Tryz.prog [(169, dIndexFn 170)] [] []
theorem q_find (h : List HPair) (key : Bytes) : evFn eFind 155 ((aCons (vSl cPair) (aOne vStr)).enc (h, key)) ([]) some =
 cond (Nat.ble (List.length (List.map (fun r => { key := V.toStr (List.getD r (0 : Nat) V.undef), kind := V.toInt (List.getD r (1 : Nat) V.undef), num := V.toInt (List.getD r (2 : Nat) V.undef), text := V.toStr (List.getD r (3 : Nat) V.undef) : HPair }) (List.map (fun p => [V.str (HPair.key p), V.int IntKind.u8 (HPair.kind p), V.int IntKind.i64 (HPair.num p), V.str (HPair.text p)]) h))) (1000000 : Nat)) (cond (ilt (N.findIx key (List.map (fun r => { key := V.toStr (List.getD r (0 : Nat) V.undef), kind := V.toInt (List.getD r (1 : Nat) V.undef), num := V.toInt (List.getD r (2 : Nat) V.undef), text := V.toStr (List.getD r (3 : Nat) V.undef) : HPair }) (List.map (fun p => [V.str (HPair.key p), V.int IntKind.u8 (HPair.kind p), V.int IntKind.i64 (HPair.num p), V.str (HPair.text p)]) h)) (0 : Int)) (0 : Int)) (some { v := V.tup [V.agg [V.str [], V.int IntKind.u8 (0 : Int), V.int IntKind.i64 (0 : Int), V.str []], V.bool false], bx := [] : DRes }) (cond (decide ((0 : Int) ≤ N.findIx key (List.map (fun r => { key := V.toStr (List.getD r (0 : Nat) V.undef), kind := V.toInt (List.getD r (1 : Nat) V.undef), num := V.toInt (List.getD r (2 : Nat) V.undef), text := V.toStr (List.getD r (3 : Nat) V.undef) : HPair }) (List.map (fun p => [V.str (HPair.key p), V.int IntKind.u8 (HPair.kind p), V.int IntKind.i64 (HPair.num p), V.str (HPair.text p)]) h)) (0 : Int) ∧ N.findIx key (List.map (fun r => { key := V.toStr (List.getD r (0 : Nat) V.undef), kind := V.toInt (List.getD r (1 : Nat) V.undef), num := V.toInt (List.getD r (2 : Nat) V.undef), text := V.toStr (List.getD r (3 : Nat) V.undef) : HPair }) (List.map (fun p => [V.str (HPair.key p), V.int IntKind.u8 (HPair.kind p), V.int IntKind.i64 (HPair.num p), V.str (HPair.text p)]) h)) (0 : Int) < (↑(List.length (List.map (fun p => [V.str (HPair.key p), V.int IntKind.u8 (HPair.kind p), V.int IntKind.i64 (HPair.num p), V.str (HPair.text p)]) h)) : Int))) (some { v := V.tup [V.agg [V.str (V.toStr (List.getD (List.getD (List.map (fun p => [V.str (HPair.key p), V.int IntKind.u8 (HPair.kind p), V.int IntKind.i64 (HPair.num p), V.str (HPair.text p)]) h) (Int.toNat (N.findIx key (List.map (fun r => { key := V.toStr (List.getD r (0 : Nat) V.undef), kind := V.toInt (List.getD r (1 : Nat) V.undef), num := V.toInt (List.getD r (2 : Nat) V.undef), text := V.toStr (List.getD r (3 : Nat) V.undef) : HPair }) (List.map (fun p => [V.str (HPair.key p), V.int IntKind.u8 (HPair.kind p), V.int IntKind.i64 (HPair.num p), V.str (HPair.text p)]) h)) (0 : Int))) []) (0 : Nat) V.undef)), V.int IntKind.u8 (V.toInt (List.getD (List.getD (List.map (fun p => [V.str (HPair.key p), V.int IntKind.u8 (HPair.kind p), V.int IntKind.i64 (HPair.num p), V.str (HPair.text p)]) h) (Int.toNat (N.findIx key (List.map (fun r => { key := V.toStr (List.getD r (0 : Nat) V.undef), kind := V.toInt (List.getD r (1 : Nat) V.undef), num := V.toInt (List.getD r (2 : Nat) V.undef), text := V.toStr (List.getD r (3 : Nat) V.undef) : HPair }) (List.map (fun p => [V.str (HPair.key p), V.int IntKind.u8 (HPair.kind p), V.int IntKind.i64 (HPair.num p), V.str (HPair.text p)]) h)) (0 : Int))) []) (1 : Nat) V.undef)), V.int IntKind.i64 (V.toInt (List.getD (List.getD (List.map (fun p => [V.str (HPair.key p), V.int IntKind.u8 (HPair.kind p), V.int IntKind.i64 (HPair.num p), V.str (HPair.text p)]) h) (Int.toNat (N.findIx key (List.map (fun r => { key := V.toStr (List.getD r (0 : Nat) V.undef), kind := V.toInt (List.getD r (1 : Nat) V.undef), num := V.toInt (List.getD r (2 : Nat) V.undef), text := V.toStr (List.getD r (3 : Nat) V.undef) : HPair }) (List.map (fun p => [V.str (HPair.key p), V.int IntKind.u8 (HPair.kind p), V.int IntKind.i64 (HPair.num p), V.str (HPair.text p)]) h)) (0 : Int))) []) (2 : Nat) V.undef)), V.str (V.toStr (List.getD (List.getD (List.map (fun p => [V.str (HPair.key p), V.int IntKind.u8 (HPair.kind p), V.int IntKind.i64 (HPair.num p), V.str (HPair.text p)]) h) (Int.toNat (N.findIx key (List.map (fun r => { key := V.toStr (List.getD r (0 : Nat) V.undef), kind := V.toInt (List.getD r (1 : Nat) V.undef), num := V.toInt (List.getD r (2 : Nat) V.undef), text := V.toStr (List.getD r (3 : Nat) V.undef) : HPair }) (List.map (fun p => [V.str (HPair.key p), V.int IntKind.u8 (HPair.kind p), V.int IntKind.i64 (HPair.num p), V.str (HPair.text p)]) h)) (0 : Int))) []) (3 : Nat) V.undef))], V.bool true], bx := [] : DRes }) (none))) (none) := by kernel_rfl
theorem ok_find : FnOk Tryz.prog 155 dFind := by
  refine den_okF (env_ok ((TOk.nil _).cons ok_ixf)) (E := eFind) Tryz.func155 [] (by kernel_rfl) none0 fun a _ h => ?_
  obtain ⟨l, key⟩ := a
  have h : l.length ≤ 1000000 := ble_of h
  refine (q_find l key).trans ?_
  show _ = some (⟨.tup [.agg [.str (N.find l key).1.key, .int .u8 (N.find l key).1.kind, .int .i64 (N.find l key).1.num, .str (N.find l key).1.text], .bool (N.find l key).2], [], []⟩ : DRes)
  unfold N.find
  simp (disch := omega) only [evs, pairs_enc, pairs_get]
  rcases findIx_lt key l 0 (Int.le_refl _) with e | ⟨e1, e2⟩
  · rw [e]; rfl
  · simp (disch := omega) only [evs]
noncomputable def ePairE : Env := env Tryz.prog [(118, dName), (155, dFind)] [] []
theorem q_pairE (p : HPair) (l : List HPair) : evFn ePairE 167 ((aCons (vAgg cPair) (aOne (vSl cPair))).enc (p, l)) ([]) some =
 cond (N.name (HPair.key p) != (0 : Int)) (some { v := V.int IntKind.i64 (N.name (HPair.key p)), bx := [] : DRes }) (cond (Nat.ble (List.length (List.map (fun r => { key := V.toStr (List.getD r (0 : Nat) V.undef), kind := V.toInt (List.getD r (1 : Nat) V.undef), num := V.toInt (List.getD r (2 : Nat) V.undef), text := V.toStr (List.getD r (3 : Nat) V.undef) : HPair }) (List.map (fun p => [V.str (HPair.key p), V.int IntKind.u8 (HPair.kind p), V.int IntKind.i64 (HPair.num p), V.str (HPair.text p)]) l))) (1000000 : Nat)) (cond (ilt (2 : Int) (HPair.kind p)) (some { v := V.int IntKind.i64 (8 : Int), bx := [] : DRes }) (cond (HPair.kind p == (1 : Int)) (cond (ilt (64 : Int) (↑(List.length (HPair.text p)) : Int)) (some { v := V.int IntKind.i64 (5 : Int), bx := [] : DRes }) (cond (HPair.kind p == (2 : Int)) (cond (HPair.num p != (0 : Int)) (cond (HPair.num p != (1 : Int)) (some { v := V.int IntKind.i64 (7 : Int), bx := [] : DRes }) (cond (HPair.kind p == (1 : Int)) (cond (HPair.num p != (0 : Int)) (cond (HPair.num p != (0 : Int)) (some { v := V.int IntKind.i64 (4 : Int), bx := [] : DRes }) (cond (Prod.snd (N.find (List.map (fun r => { key := V.toStr (List.getD r (0 : Nat) V.undef), kind := V.toInt (List.getD r (1 : Nat) V.undef), num := V.toInt (List.getD r (2 : Nat) V.undef), text := V.toStr (List.getD r (3 : Nat) V.undef) : HPair }) (List.map (fun p => [V.str (HPair.key p), V.int IntKind.u8 (HPair.kind p), V.int IntKind.i64 (HPair.num p), V.str (HPair.text p)]) l)) (HPair.key p))) (some { v := V.int IntKind.i64 (9 : Int), bx := [] : DRes }) (some { v := V.int IntKind.i64 (0 : Int), bx := [] : DRes }))) (cond (HPair.kind p != (1 : Int)) (cond (!HPair.text p == []) (some { v := V.int IntKind.i64 (4 : Int), bx := [] : DRes }) (cond (Prod.snd (N.find (List.map (fun r => { key := V.toStr (List.getD r (0 : Nat) V.undef), kind := V.toInt (List.getD r (1 : Nat) V.undef), num := V.toInt (List.getD r (2 : Nat) V.undef), text := V.toStr (List.getD r (3 : Nat) V.undef) : HPair }) (List.map (fun p => [V.str (HPair.key p), V.int IntKind.u8 (HPair.kind p), V.int IntKind.i64 (HPair.num p), V.str (HPair.text p)]) l)) (HPair.key p))) (some { v := V.int IntKind.i64 (9 : Int), bx := [] : DRes }) (some { v := V.int IntKind.i64 (0 : Int), bx := [] : DRes }))) (cond (Prod.snd (N.find (List.map (fun r => { key := V.toStr (List.getD r (0 : Nat) V.undef), kind := V.toInt (List.getD r (1 : Nat) V.undef), num := V.toInt (List.getD r (2 : Nat) V.undef), text := V.toStr (List.getD r (3 : Nat) V.undef) : HPair }) (List.map (fun p => [V.str (HPair.key p), V.int IntKind.u8 (HPair.kind p), V.int IntKind.i64 (HPair.num p), V.str (HPair.text p)]) l)) (HPair.key p))) (some { v := V.int IntKind.i64 (9 : Int), bx := [] : DRes }) (some { v := V.int IntKind.i64 (0 : Int), bx := [] : DRes })))) (cond (HPair.kind p != (1 : Int)) (cond (!HPair.text p == []) (some { v := V.int IntKind.i64 (4 : Int), bx := [] : DRes }) (cond (Prod.snd (N.find (List.map (fun r => { key := V.toStr (List.getD r (0 : Nat) V.undef), kind := V.toInt (List.getD r (1 : Nat) V.undef), num := V.toInt (List.getD r (2 : Nat) V.undef), text := V.toStr (List.getD r (3 : Nat) V.undef) : HPair }) (List.map (fun p => [V.str (HPair.key p), V.int IntKind.u8 (HPair.kind p), V.int IntKind.i64 (HPair.num p), V.str (HPair.text p)]) l)) (HPair.key p))) (some { v := V.int IntKind.i64 (9 : Int), bx := [] : DRes }) (some { v := V.int IntKind.i64 (0 : Int), bx := [] : DRes }))) (cond (Prod.snd (N.find (List.map (fun r => { key := V.toStr (List.getD r (0 : Nat) V.undef), kind := V.toInt (List.getD r (1 : Nat) V.undef), num := V.toInt (List.getD r (2 : Nat) V.undef), text := V.toStr (List.getD r (3 : Nat) V.undef) : HPair }) (List.map (fun p => [V.str (HPair.key p), V.int IntKind.u8 (HPair.kind p), V.int IntKind.i64 (HPair.num p), V.str (HPair.text p)]) l)) (HPair.key p))) (some { v := V.int IntKind.i64 (9 : Int), bx := [] : DRes }) (some { v := V.int IntKind.i64 (0 : Int), bx := [] : DRes }))))) (cond (HPair.kind p == (1 : Int)) (cond (HPair.num p != (0 : Int)) (cond (HPair.num p != (0 : Int)) (some { v := V.int IntKind.i64 (4 : Int), bx := [] : DRes }) (cond (Prod.snd (N.find (List.map (fun r => { key := V.toStr (List.getD r (0 : Nat) V.undef), kind := V.toInt (List.getD r (1 : Nat) V.undef), num := V.toInt (List.getD r (2 : Nat) V.undef), text := V.toStr (List.getD r (3 : Nat) V.undef) : HPair }) (List.map (fun p => [V.str (HPair.key p), V.int IntKind.u8 (HPair.kind p), V.int IntKind.i64 (HPair.num p), V.str (HPair.text p)]) l)) (HPair.key p))) (some { v := V.int IntKind.i64 (9 : Int), bx := [] : DRes }) (some { v := V.int IntKind.i64 (0 : Int), bx := [] : DRes }))) (cond (HPair.kind p != (1 : Int)) (cond (!HPair.text p == []) (some { v := V.int IntKind.i64 (4 : Int), bx := [] : DRes }) (cond (Prod.snd (N.find (List.map (fun r => { key := V.toStr (List.getD r (0 : Nat) V.undef), kind := V.toInt (List.getD r (1 : Nat) V.undef), num := V.toInt (List.getD r (2 : Nat) V.undef), text := V.toStr (List.getD r (3 : Nat) V.undef) : HPair }) (List.map (fun p => [V.str (HPair.key p), V.int IntKind.u8 (HPair.kind p), V.int IntKind.i64 (HPair.num p), V.str (HPair.text p)]) l)) (HPair.key p))) (some { v := V.int IntKind.i64 (9 : Int), bx := [] : DRes }) (some { v := V.int IntKind.i64 (0 : Int), bx := [] : DRes }))) (cond (Prod.snd (N.find (List.map (fun r => { key := V.toStr (List.getD r (0 : Nat) V.undef), kind := V.toInt (List.getD r (1 : Nat) V.undef), num := V.toInt (List.getD r (2 : Nat) V.undef), text := V.toStr (List.getD r (3 : Nat) V.undef) : HPair }) (List.map (fun p => [V.str (HPair.key p), V.int IntKind.u8 (HPair.kind p), V.int IntKind.i64 (HPair.num p), V.str (HPair.text p)]) l)) (HPair.key p))) (some { v := V.int IntKind.i64 (9 : Int), bx := [] : DRes }) (some { v := V.int IntKind.i64 (0 : Int), bx := [] : DRes })))) (cond (HPair.kind p != (1 : Int)) (cond (!HPair.text p == []) (some { v := V.int IntKind.i64 (4 : Int), bx := [] : DRes }) (cond (Prod.snd (N.find (List.map (fun r => { key := V.toStr (List.getD r (0 : Nat) V.undef), kind := V.toInt (List.getD r (1 : Nat) V.undef), num := V.toInt (List.getD r (2 : Nat) V.undef), text := V.toStr (List.getD r (3 : Nat) V.undef) : HPair }) (List.map (fun p => [V.str (HPair.key p), V.int IntKind.u8 (HPair.kind p), V.int IntKind.i64 (HPair.num p), V.str (HPair.text p)]) l)) (HPair.key p))) (some { v := V.int IntKind.i64 (9 : Int), bx := [] : DRes }) (some { v := V.int IntKind.i64 (0 : Int), bx := [] : DRes }))) (cond (Prod.snd (N.find (List.map (fun r => { key := V.toStr (List.getD r (0 : Nat) V.undef), kind := V.toInt (List.getD r (1 : Nat) V.undef), num := V.toInt (List.getD r (2 : Nat) V.undef), text := V.toStr (List.getD r (3 : Nat) V.undef) : HPair }) (List.map (fun p => [V.str (HPair.key p), V.int IntKind.u8 (HPair.kind p), V.int IntKind.i64 (HPair.num p), V.str (HPair.text p)]) l)) (HPair.key p))) (some { v := V.int IntKind.i64 (9 : Int), bx := [] : DRes }) (some { v := V.int IntKind.i64 (0 : Int), bx := [] : DRes }))))) (cond (HPair.kind p == (1 : Int)) (cond (HPair.num p != (0 : Int)) (cond (HPair.num p != (0 : Int)) (some { v := V.int IntKind.i64 (4 : Int), bx := [] : DRes }) (cond (Prod.snd (N.find (List.map (fun r => { key := V.toStr (List.getD r (0 : Nat) V.undef), kind := V.toInt (List.getD r (1 : Nat) V.undef), num := V.toInt (List.getD r (2 : Nat) V.undef), text := V.toStr (List.getD r (3 : Nat) V.undef) : HPair }) (List.map (fun p => [V.str (HPair.key p), V.int IntKind.u8 (HPair.kind p), V.int IntKind.i64 (HPair.num p), V.str (HPair.text p)]) l)) (HPair.key p))) (some { v := V.int IntKind.i64 (9 : Int), bx := [] : DRes }) (some { v := V.int IntKind.i64 (0 : Int), bx := [] : DRes }))) (cond (HPair.kind p != (1 : Int)) (cond (!HPair.text p == []) (some { v := V.int IntKind.i64 (4 : Int), bx := [] : DRes }) (cond (Prod.snd (N.find (List.map (fun r => { key := V.toStr (List.getD r (0 : Nat) V.undef), kind := V.toInt (List.getD r (1 : Nat) V.undef), num := V.toInt (List.getD r (2 : Nat) V.undef), text := V.toStr (List.getD r (3 : Nat) V.undef) : HPair }) (List.map (fun p => [V.str (HPair.key p), V.int IntKind.u8 (HPair.kind p), V.int IntKind.i64 (HPair.num p), V.str (HPair.text p)]) l)) (HPair.key p))) (some { v := V.int IntKind.i64 (9 : Int), bx := [] : DRes }) (some { v := V.int IntKind.i64 (0 : Int), bx := [] : DRes }))) (cond (Prod.snd (N.find (List.map (fun r => { key := V.toStr (List.getD r (0 : Nat) V.undef), kind := V.toInt (List.getD r (1 : Nat) V.undef), num := V.toInt (List.getD r (2 : Nat) V.undef), text := V.toStr (List.getD r (3 : Nat) V.undef) : HPair }) (List.map (fun p => [V.str (HPair.key p), V.int IntKind.u8 (HPair.kind p), V.int IntKind.i64 (HPair.num p), V.str (HPair.text p)]) l)) (HPair.key p))) (some { v := V.int IntKind.i64 (9 : Int), bx := [] : DRes }) (some { v := V.int IntKind.i64 (0 : Int), bx := [] : DRes })))) (cond (HPair.kind p != (1 : Int)) (cond (!HPair.text p == []) (some { v := V.int IntKind.i64 (4 : Int), bx := [] : DRes }) (cond (Prod.snd (N.find (List.map (fun r => { key := V.toStr (List.getD r (0 : Nat) V.undef), kind := V.toInt (List.getD r (1 : Nat) V.undef), num := V.toInt (List.getD r (2 : Nat) V.undef), text := V.toStr (List.getD r (3 : Nat) V.undef) : HPair }) (List.map (fun p => [V.str (HPair.key p), V.int IntKind.u8 (HPair.kind p), V.int IntKind.i64 (HPair.num p), V.str (HPair.text p)]) l)) (HPair.key p))) (some { v := V.int IntKind.i64 (9 : Int), bx := [] : DRes }) (some { v := V.int IntKind.i64 (0 : Int), bx := [] : DRes }))) (cond (Prod.snd (N.find (List.map (fun r => { key := V.toStr (List.getD r (0 : Nat) V.undef), kind := V.toInt (List.getD r (1 : Nat) V.undef), num := V.toInt (List.getD r (2 : Nat) V.undef), text := V.toStr (List.getD r (3 : Nat) V.undef) : HPair }) (List.map (fun p => [V.str (HPair.key p), V.int IntKind.u8 (HPair.kind p), V.int IntKind.i64 (HPair.num p), V.str (HPair.text p)]) l)) (HPair.key p))) (some { v := V.int IntKind.i64 (9 : Int), bx := [] : DRes }) (some { v := V.int IntKind.i64 (0 : Int), bx := [] : DRes })))))) (cond (HPair.kind p == (2 : Int)) (cond (HPair.num p != (0 : Int)) (cond (HPair.num p != (1 : Int)) (some { v := V.int IntKind.i64 (7 : Int), bx := [] : DRes }) (cond (HPair.kind p == (1 : Int)) (cond (HPair.num p != (0 : Int)) (cond (HPair.num p != (0 : Int)) (some { v := V.int IntKind.i64 (4 : Int), bx := [] : DRes }) (cond (Prod.snd (N.find (List.map (fun r => { key := V.toStr (List.getD r (0 : Nat) V.undef), kind := V.toInt (List.getD r (1 : Nat) V.undef), num := V.toInt (List.getD r (2 : Nat) V.undef), text := V.toStr (List.getD r (3 : Nat) V.undef) : HPair }) (List.map (fun p => [V.str (HPair.key p), V.int IntKind.u8 (HPair.kind p), V.int IntKind.i64 (HPair.num p), V.str (HPair.text p)]) l)) (HPair.key p))) (some { v := V.int IntKind.i64 (9 : Int), bx := [] : DRes }) (some { v := V.int IntKind.i64 (0 : Int), bx := [] : DRes }))) (cond (HPair.kind p != (1 : Int)) (cond (!HPair.text p == []) (some { v := V.int IntKind.i64 (4 : Int), bx := [] : DRes }) (cond (Prod.snd (N.find (List.map (fun r => { key := V.toStr (List.getD r (0 : Nat) V.undef), kind := V.toInt (List.getD r (1 : Nat) V.undef), num := V.toInt (List.getD r (2 : Nat) V.undef), text := V.toStr (List.getD r (3 : Nat) V.undef) : HPair }) (List.map (fun p => [V.str (HPair.key p), V.int IntKind.u8 (HPair.kind p), V.int IntKind.i64 (HPair.num p), V.str (HPair.text p)]) l)) (HPair.key p))) (some { v := V.int IntKind.i64 (9 : Int), bx := [] : DRes }) (some { v := V.int IntKind.i64 (0 : Int), bx := [] : DRes }))) (cond (Prod.snd (N.find (List.map (fun r => { key := V.toStr (List.getD r (0 : Nat) V.undef), kind := V.toInt (List.getD r (1 : Nat) V.undef), num := V.toInt (List.getD r (2 : Nat) V.undef), text := V.toStr (List.getD r (3 : Nat) V.undef) : HPair }) (List.map (fun p => [V.str (HPair.key p), V.int IntKind.u8 (HPair.kind p), V.int IntKind.i64 (HPair.num p), V.str (HPair.text p)]) l)) (HPair.key p))) (some { v := V.int IntKind.i64 (9 : Int), bx := [] : DRes }) (some { v := V.int IntKind.i64 (0 : Int), bx := [] : DRes })))) (cond (HPair.kind p != (1 : Int)) (cond (!HPair.text p == []) (some { v := V.int IntKind.i64 (4 : Int), bx := [] : DRes }) (cond (Prod.snd (N.find (List.map (fun r => { key := V.toStr (List.getD r (0 : Nat) V.undef), kind := V.toInt (List.getD r (1 : Nat) V.undef), num := V.toInt (List.getD r (2 : Nat) V.undef), text := V.toStr (List.getD r (3 : Nat) V.undef) : HPair }) (List.map (fun p => [V.str (HPair.key p), V.int IntKind.u8 (HPair.kind p), V.int IntKind.i64 (HPair.num p), V.str (HPair.text p)]) l)) (HPair.key p))) (some { v := V.int IntKind.i64 (9 : Int), bx := [] : DRes }) (some { v := V.int IntKind.i64 (0 : Int), bx := [] : DRes }))) (cond (Prod.snd (N.find (List.map (fun r => { key := V.toStr (List.getD r (0 : Nat) V.undef), kind := V.toInt (List.getD r (1 : Nat) V.undef), num := V.toInt (List.getD r (2 : Nat) V.undef), text := V.toStr (List.getD r (3 : Nat) V.undef) : HPair }) (List.map (fun p => [V.str (HPair.key p), V.int IntKind.u8 (HPair.kind p), V.int IntKind.i64 (HPair.num p), V.str (HPair.text p)]) l)) (HPair.key p))) (some { v := V.int IntKind.i64 (9 : Int), bx := [] : DRes }) (some { v := V.int IntKind.i64 (0 : Int), bx := [] : DRes }))))) (cond (HPair.kind p == (1 : Int)) (cond (HPair.num p != (0 : Int)) (cond (HPair.num p != (0 : Int)) (some { v := V.int IntKind.i64 (4 : Int), bx := [] : DRes }) (cond (Prod.snd (N.find (List.map (fun r => { key := V.toStr (List.getD r (0 : Nat) V.undef), kind := V.toInt (List.getD r (1 : Nat) V.undef), num := V.toInt (List.getD r (2 : Nat) V.undef), text := V.toStr (List.getD r (3 : Nat) V.undef) : HPair }) (List.map (fun p => [V.str (HPair.key p), V.int IntKind.u8 (HPair.kind p), V.int IntKind.i64 (HPair.num p), V.str (HPair.text p)]) l)) (HPair.key p))) (some { v := V.int IntKind.i64 (9 : Int), bx := [] : DRes }) (some { v := V.int IntKind.i64 (0 : Int), bx := [] : DRes }))) (cond (HPair.kind p != (1 : Int)) (cond (!HPair.text p == []) (some { v := V.int IntKind.i64 (4 : Int), bx := [] : DRes }) (cond (Prod.snd (N.find (List.map (fun r => { key := V.toStr (List.getD r (0 : Nat) V.undef), kind := V.toInt (List.getD r (1 : Nat) V.undef), num := V.toInt (List.getD r (2 : Nat) V.undef), text := V.toStr (List.getD r (3 : Nat) V.undef) : HPair }) (List.map (fun p => [V.str (HPair.key p), V.int IntKind.u8 (HPair.kind p), V.int IntKind.i64 (HPair.num p), V.str (HPair.text p)]) l)) (HPair.key p))) (some { v := V.int IntKind.i64 (9 : Int), bx := [] : DRes }) (some { v := V.int IntKind.i64 (0 : Int), bx := [] : DRes }))) (cond (Prod.snd (N.find (List.map (fun r => { key := V.toStr (List.getD r (0 : Nat) V.undef), kind := V.toInt (List.getD r (1 : Nat) V.undef), num := V.toInt (List.getD r (2 : Nat) V.undef), text := V.toStr (List.getD r (3 : Nat) V.undef) : HPair }) (List.map (fun p => [V.str (HPair.key p), V.int IntKind.u8 (HPair.kind p), V.int IntKind.i64 (HPair.num p), V.str (HPair.text p)]) l)) (HPair.key p))) (some { v := V.int IntKind.i64 (9 : Int), bx := [] : DRes }) (some { v := V.int IntKind.i64 (0 : Int), bx := [] : DRes })))) (cond (HPair.kind p != (1 : Int)) (cond (!HPair.text p == []) (some { v := V.int IntKind.i64 (4 : Int), bx := [] : DRes }) (cond (Prod.snd (N.find (List.map (fun r => { key := V.toStr (List.getD r (0 : Nat) V.undef), kind := V.toInt (List.getD r (1 : Nat) V.undef), num := V.toInt (List.getD r (2 : Nat) V.undef), text := V.toStr (List.getD r (3 : Nat) V.undef) : HPair }) (List.map (fun p => [V.str (HPair.key p), V.int IntKind.u8 (HPair.kind p), V.int IntKind.i64 (HPair.num p), V.str (HPair.text p)]) l)) (HPair.key p))) (some { v := V.int IntKind.i64 (9 : Int), bx := [] : DRes }) (some { v := V.int IntKind.i64 (0 : Int), bx := [] : DRes }))) (cond (Prod.snd (N.find (List.map (fun r => { key := V.toStr (List.getD r (0 : Nat) V.undef), kind := V.toInt (List.getD r (1 : Nat) V.undef), num := V.toInt (List.getD r (2 : Nat) V.undef), text := V.toStr (List.getD r (3 : Nat) V.undef) : HPair }) (List.map (fun p => [V.str (HPair.key p), V.int IntKind.u8 (HPair.kind p), V.int IntKind.i64 (HPair.num p), V.str (HPair.text p)]) l)) (HPair.key p))) (some { v := V.int IntKind.i64 (9 : Int), bx := [] : DRes }) (some { v := V.int IntKind.i64 (0 : Int), bx := [] : DRes }))))) (cond (HPair.kind p == (1 : Int)) (cond (HPair.num p != (0 : Int)) (cond (HPair.num p != (0 : Int)) (some { v := V.int IntKind.i64 (4 : Int), bx := [] : DRes }) (cond (Prod.snd (N.find (List.map (fun r => { key := V.toStr (List.getD r (0 : Nat) V.undef), kind := V.toInt (List.getD r (1 : Nat) V.undef), num := V.toInt (List.getD r (2 : Nat) V.undef), text := V.toStr (List.getD r (3 : Nat) V.undef) : HPair }) (List.map (fun p => [V.str (HPair.key p), V.int IntKind.u8 (HPair.kind p), V.int IntKind.i64 (HPair.num p), V.str (HPair.text p)]) l)) (HPair.key p))) (some { v := V.int IntKind.i64 (9 : Int), bx := [] : DRes }) (some { v := V.int IntKind.i64 (0 : Int), bx := [] : DRes }))) (cond (HPair.kind p != (1 : Int)) (cond (!HPair.text p == []) (some { v := V.int IntKind.i64 (4 : Int), bx := [] : DRes }) (cond (Prod.snd (N.find (List.map (fun r => { key := V.toStr (List.getD r (0 : Nat) V.undef), kind := V.toInt (List.getD r (1 : Nat) V.undef), num := V.toInt (List.getD r (2 : Nat) V.undef), text := V.toStr (List.getD r (3 : Nat) V.undef) : HPair }) (List.map (fun p => [V.str (HPair.key p), V.int IntKind.u8 (HPair.kind p), V.int IntKind.i64 (HPair.num p), V.str (HPair.text p)]) l)) (HPair.key p))) (some { v := V.int IntKind.i64 (9 : Int), bx := [] : DRes }) (some { v := V.int IntKind.i64 (0 : Int), bx := [] : DRes }))) (cond (Prod.snd (N.find (List.map (fun r => { key := V.toStr (List.getD r (0 : Nat) V.undef), kind := V.toInt (List.getD r (1 : Nat) V.undef), num := V.toInt (List.getD r (2 : Nat) V.undef), text := V.toStr (List.getD r (3 : Nat) V.undef) : HPair }) (List.map (fun p => [V.str (HPair.key p), V.int IntKind.u8 (HPair.kind p), V.int IntKind.i64 (HPair.num p), V.str (HPair.text p)]) l)) (HPair.key p))) (some { v := V.int IntKind.i64 (9 : Int), bx := [] : DRes }) (some { v := V.int IntKind.i64 (0 : Int), bx := [] : DRes })))) (cond (HPair.kind p != (1 : Int)) (cond (!HPair.text p == []) (some { v := V.int IntKind.i64 (4 : Int), bx := [] : DRes }) (cond (Prod.snd (N.find (List.map (fun r => { key := V.toStr (List.getD r (0 : Nat) V.undef), kind := V.toInt (List.getD r (1 : Nat) V.undef), num := V.toInt (List.getD r (2 : Nat) V.undef), text := V.toStr (List.getD r (3 : Nat) V.undef) : HPair }) (List.map (fun p => [V.str (HPair.key p), V.int IntKind.u8 (HPair.kind p), V.int IntKind.i64 (HPair.num p), V.str (HPair.text p)]) l)) (HPair.key p))) (some { v := V.int IntKind.i64 (9 : Int), bx := [] : DRes }) (some { v := V.int IntKind.i64 (0 : Int), bx := [] : DRes }))) (cond (Prod.snd (N.find (List.map (fun r => { key := V.toStr (List.getD r (0 : Nat) V.undef), kind := V.toInt (List.getD r (1 : Nat) V.undef), num := V.toInt (List.getD r (2 : Nat) V.undef), text := V.toStr (List.getD r (3 : Nat) V.undef) : HPair }) (List.map (fun p => [V.str (HPair.key p), V.int IntKind.u8 (HPair.kind p), V.int IntKind.i64 (HPair.num p), V.str (HPair.text p)]) l)) (HPair.key p))) (some { v := V.int IntKind.i64 (9 : Int), bx := [] : DRes }) (some { v := V.int IntKind.i64 (0 : Int), bx := [] : DRes }))))))) (none)) := by kernel_rfl
theorem ok_pairE : FnOk Tryz.prog 167 dPairE := by
  refine den_okF (env_ok (((TOk.nil _).cons ok_find).cons ok_name)) (E := ePairE) Tryz.func167 [] (by kernel_rfl) none0 fun a _ h => ?_
  obtain ⟨p, l⟩ := a
  have h : l.length ≤ 1000000 := ble_of h
  refine (q_pairE p l).trans ?_
  show _ = some (⟨.int .i64 (N.pairE p l), [], []⟩ : DRes)
  unfold N.pairE
  simp (disch := omega) only [evs, pairs_enc, bne]
  cases N.name p.key == 0 with
  | false => rfl
  | true =>
    cases ilt 2 p.kind with
    | true => rfl
    | false =>
      cases h1 : p.kind == 1 <;> cases ilt 64 p.text.length <;> cases p.kind == 2 <;> cases p.num == 0 <;> cases p.num == 1 <;> cases p.text == [] <;> cases (N.find l p.key).2 <;> rfl
def schHeadCheck : SSch := { fr := [(0, .slc [.str, .int .u8, .int .i64, .str]), (9, .slc [.str, .int .u8, .int .i64, .str]), (10, .int .i64), (11, .int .i64)], tab := [] }
def gHeadCheck : List Leaf → (Ex → St → Option R) → Option R
  | [.r r0, .r r9, .i i10, .i i11], K => cond (i10 == r9.length) (cond (Nat.beq r0.length r9.length) (cond (ile 0 i11) (cond (Nat.ble r0.length LIM) (cond (N.samePs (rowsP r0) (rowsP r9))
      (cond (N.checkFrom (rowsP r9) (r9.length - i11.toNat) i11 != 0) (K .ret { fr := [(2, .int .i64 (N.checkFrom (rowsP r9) (r9.length - i11.toNat) i11))], tab := [] }) (K (.exit 0) { fr := [], tab := [] })) none) none) none) none) none
  | _, _ => none
noncomputable def eHeadCheck : Env := env Tryz.prog [(167, dPairE)] [(4, loopF schHeadCheck gHeadCheck)] [(4, [(0, [0, 9, 10, 11]), (1, []), (1000, [2])])]
theorem q_headCheck (h : List HPair) : evFn eHeadCheck 151 ((aOne (vSl cPair)).enc h) ([]) some =
 cond (ilt (8 : Int) (↑(List.length (List.map (fun p => [V.str (HPair.key p), V.int IntKind.u8 (HPair.kind p), V.int IntKind.i64 (HPair.num p), V.str (HPair.text p)]) h)) : Int)) (some { v := V.int IntKind.i64 (6 : Int), bx := [] : DRes }) (cond ((↑(List.length (List.map (fun p => [V.str (HPair.key p), V.int IntKind.u8 (HPair.kind p), V.int IntKind.i64 (HPair.num p), V.str (HPair.text p)]) h)) : Int) == (↑(List.length (List.map (fun p => [V.str (HPair.key p), V.int IntKind.u8 (HPair.kind p), V.int IntKind.i64 (HPair.num p), V.str (HPair.text p)]) h)) : Int)) (cond (Nat.beq (List.length (List.map (fun p => [V.str (HPair.key p), V.int IntKind.u8 (HPair.kind p), V.int IntKind.i64 (HPair.num p), V.str (HPair.text p)]) h)) (List.length (List.map (fun p => [V.str (HPair.key p), V.int IntKind.u8 (HPair.kind p), V.int IntKind.i64 (HPair.num p), V.str (HPair.text p)]) h))) (cond (Nat.ble (List.length (List.map (fun p => [V.str (HPair.key p), V.int IntKind.u8 (HPair.kind p), V.int IntKind.i64 (HPair.num p), V.str (HPair.text p)]) h)) (1000000 : Nat)) (cond (N.samePs (List.map (fun r => { key := V.toStr (List.getD r (0 : Nat) V.undef), kind := V.toInt (List.getD r (1 : Nat) V.undef), num := V.toInt (List.getD r (2 : Nat) V.undef), text := V.toStr (List.getD r (3 : Nat) V.undef) : HPair }) (List.map (fun p => [V.str (HPair.key p), V.int IntKind.u8 (HPair.kind p), V.int IntKind.i64 (HPair.num p), V.str (HPair.text p)]) h)) (List.map (fun r => { key := V.toStr (List.getD r (0 : Nat) V.undef), kind := V.toInt (List.getD r (1 : Nat) V.undef), num := V.toInt (List.getD r (2 : Nat) V.undef), text := V.toStr (List.getD r (3 : Nat) V.undef) : HPair }) (List.map (fun p => [V.str (HPair.key p), V.int IntKind.u8 (HPair.kind p), V.int IntKind.i64 (HPair.num p), V.str (HPair.text p)]) h))) (cond (N.checkFrom (List.map (fun r => { key := V.toStr (List.getD r (0 : Nat) V.undef), kind := V.toInt (List.getD r (1 : Nat) V.undef), num := V.toInt (List.getD r (2 : Nat) V.undef), text := V.toStr (List.getD r (3 : Nat) V.undef) : HPair }) (List.map (fun p => [V.str (HPair.key p), V.int IntKind.u8 (HPair.kind p), V.int IntKind.i64 (HPair.num p), V.str (HPair.text p)]) h)) (List.length (List.map (fun p => [V.str (HPair.key p), V.int IntKind.u8 (HPair.kind p), V.int IntKind.i64 (HPair.num p), V.str (HPair.text p)]) h) - (0 : Nat)) (0 : Int) != (0 : Int)) (some { v := V.int IntKind.i64 (N.checkFrom (List.map (fun r => { key := V.toStr (List.getD r (0 : Nat) V.undef), kind := V.toInt (List.getD r (1 : Nat) V.undef), num := V.toInt (List.getD r (2 : Nat) V.undef), text := V.toStr (List.getD r (3 : Nat) V.undef) : HPair }) (List.map (fun p => [V.str (HPair.key p), V.int IntKind.u8 (HPair.kind p), V.int IntKind.i64 (HPair.num p), V.str (HPair.text p)]) h)) (List.length (List.map (fun p => [V.str (HPair.key p), V.int IntKind.u8 (HPair.kind p), V.int IntKind.i64 (HPair.num p), V.str (HPair.text p)]) h) - (0 : Nat)) (0 : Int)), bx := [] : DRes }) (some { v := V.int IntKind.i64 (0 : Int), bx := [] : DRes })) (none)) (none)) (none)) (none)) := by kernel_rfl
theorem q_headCheckR (r0 : List (List V)) (r9 : List (List V)) (i11 : Int) (K : Ex → St → Option R) : evRound eHeadCheck 151 4 { fr := [(0, .slc [.str, .int .u8, .int .i64, .str] r0), (9, .slc [.str, .int .u8, .int .i64, .str] r9), (10, .int .i64 r9.length), (11, .int .i64 i11)], tab := [] } K =
 cond (ilt i11 (↑(List.length r9) : Int)) (cond (decide ((0 : Int) ≤ i11 ∧ i11 < (↑(List.length r9) : Int))) (cond (decide ((0 : Int) ≤ i11 ∧ i11 ≤ (↑(List.length r0) : Int))) (cond (Nat.ble (List.length (List.map (fun r => { key := V.toStr (List.getD r (0 : Nat) V.undef), kind := V.toInt (List.getD r (1 : Nat) V.undef), num := V.toInt (List.getD r (2 : Nat) V.undef), text := V.toStr (List.getD r (3 : Nat) V.undef) : HPair }) (List.drop (0 : Nat) (List.take (Int.toNat i11) r0)))) (1000000 : Nat)) (cond (N.pairE { key := V.toStr (List.getD (List.getD r9 (Int.toNat i11) []) (0 : Nat) V.undef), kind := V.toInt (List.getD (List.getD r9 (Int.toNat i11) []) (1 : Nat) V.undef), num := V.toInt (List.getD (List.getD r9 (Int.toNat i11) []) (2 : Nat) V.undef), text := V.toStr (List.getD (List.getD r9 (Int.toNat i11) []) (3 : Nat) V.undef) : HPair } (List.map (fun r => { key := V.toStr (List.getD r (0 : Nat) V.undef), kind := V.toInt (List.getD r (1 : Nat) V.undef), num := V.toInt (List.getD r (2 : Nat) V.undef), text := V.toStr (List.getD r (3 : Nat) V.undef) : HPair }) (List.drop (0 : Nat) (List.take (Int.toNat i11) r0))) != (0 : Int)) (K Ex.ret { fr := [((2 : Nat), V.int IntKind.i64 (N.pairE { key := V.toStr (List.getD (List.getD r9 (Int.toNat i11) []) (0 : Nat) V.undef), kind := V.toInt (List.getD (List.getD r9 (Int.toNat i11) []) (1 : Nat) V.undef), num := V.toInt (List.getD (List.getD r9 (Int.toNat i11) []) (2 : Nat) V.undef), text := V.toStr (List.getD (List.getD r9 (Int.toNat i11) []) (3 : Nat) V.undef) : HPair } (List.map (fun r => { key := V.toStr (List.getD r (0 : Nat) V.undef), kind := V.toInt (List.getD r (1 : Nat) V.undef), num := V.toInt (List.getD r (2 : Nat) V.undef), text := V.toStr (List.getD r (3 : Nat) V.undef) : HPair }) (List.drop (0 : Nat) (List.take (Int.toNat i11) r0)))))], tab := [] : St }) (K Ex.normal { fr := [((0 : Nat), V.slc [Sh.str, Sh.int IntKind.u8, Sh.int IntKind.i64, Sh.str] r0), ((9 : Nat), V.slc [Sh.str, Sh.int IntKind.u8, Sh.int IntKind.i64, Sh.str] r9), ((10 : Nat), V.int IntKind.i64 (↑(List.length r9) : Int)), ((11 : Nat), V.int IntKind.i64 (IntKind.wrap IntKind.i64 (i11 + (1 : Int))))], tab := [] : St })) (none)) (none)) (none)) (K (Ex.exit (0 : Nat)) { fr := [], tab := [] : St }) := by kernel_rfl
theorem samePs_refl : ∀ l, N.samePs l l = true
  | [] => rfl
  | p :: l => by
    unfold N.samePs N.eqP
    rw [samePs_refl l]; simp
theorem eqP_eq {p q : HPair} (h : N.eqP p q = true) : p = q := by
  unfold N.eqP at h
  simp only [Bool.and_eq_true, beq_iff_eq, and_true] at h
  cases p; cases q; simp_all
theorem samePs_eq : ∀ {a b : List HPair}, N.samePs a b = true → a = b
  | [], [], _ => rfl
  | [], _ :: _, h => by cases h
  | _ :: _, [], h => by cases h
  | p :: a, q :: b, h => by
    unfold N.samePs at h
    cases e : N.eqP p q with
    | true => rw [e, cond_true] at h; rw [eqP_eq e, samePs_eq h]
    | false => rw [e] at h; cases h
theorem ok_headCheck : FnOk Tryz.prog 151 dHeadCheck := by
  refine den_okF (env_ok ((TOk.nil _).cons ok_pairE)) (E := eHeadCheck) Tryz.func151 [4] (by kernel_rfl) (one1 (rounds_of rfl fun l K q h => ?_)) fun h _ _ => ?_
  · unfold gHeadCheck at h
    split at h
    · rename_i r0 r n i
      have h1 := (cond_none h).1; replace h := (cond_none h).2; have h2 := (cond_none h).1; replace h := (cond_none h).2; have h3 := (cond_none h).1; replace h := (cond_none h).2; have h4 := (cond_none h).1; replace h := (cond_none h).2; have h5 := (cond_none h).1; replace h := (cond_none h).2
      have e1 := ieq_of h1
      subst e1
      have h2 := Nat.eq_of_beq_eq_true h2
      have h4 : r0.length ≤ 1000000 := ble_of h4
      have h5 := samePs_eq h5
      refine loop_ind (E := eHeadCheck) (f := 151) (id := 4) (fun i : Int => { fr := [(0, .slc [.str, .int .u8, .int .i64, .str] r0), (9, .slc [.str, .int .u8, .int .i64, .str] r), (10, .int .i64 r.length), (11, .int .i64 i)], tab := [] }) (fun i => 0 ≤ i) (fun i => r.length - i.toNat)
        (fun i11 K => cond (N.checkFrom (rowsP r) (r.length - i11.toNat) i11 != 0) (K .ret { fr := [(2, .int .i64 (N.checkFrom (rowsP r) (r.length - i11.toNat) i11))], tab := [] }) (K (.exit 0) { fr := [], tab := [] })) (fun i hi => ?_) i (ile_of h3) K q (by assumption)
      by_cases hl : i < r.length
      · have e : N.checkFrom (rowsP r) (r.length - i.toNat) i = cond (N.pairE (rowP (r.getD i.toNat [])) ((rowsP r).take i.toNat) != 0) (N.pairE (rowP (r.getD i.toNat [])) ((rowsP r).take i.toNat)) (N.checkFrom (rowsP r) (r.length - (i + 1).toNat) (i + 1)) := by
          rw [show r.length - i.toNat = (r.length - (i + 1).toNat) + 1 by omega, N.checkFrom, rowsP_getD]
        rw [e]
        have hm : List.map rowP (List.take i.toNat r0) = (rowsP r).take i.toNat := by rw [← h5, rowsP, List.map_take]
        unfold rowP at hm
        cases hc : N.pairE (rowP (r.getD i.toNat [])) ((rowsP r).take i.toNat) != 0 with
        | true =>
          rw [cond_true, hc]
          refine .inr ⟨.ret, _, by simp, fun K => ?_, fun K => rfl⟩
          rw [q_headCheckR]
          unfold rowP at hc
          simp (disch := omega) only [evs, hc, hm, List.length_take, List.drop_zero]
          rfl
        | false =>
          refine .inl ⟨i + 1, by omega, by omega, fun K => ?_, fun K => ?_⟩
          · rw [q_headCheckR]
            unfold rowP at hc
            simp (disch := omega) only [evs, hc, hm, List.length_take, List.drop_zero]
          · rw [cond_false]
      · refine .inr ⟨.exit 0, { fr := [], tab := [] }, by simp, fun K => ?_, fun K => ?_⟩
        · rw [q_headCheckR]
          simp (disch := omega) only [evs]
        · rw [show r.length - i.toNat = 0 by omega]; rfl
    · cases h
  · refine (q_headCheck h).trans ?_
    show _ = some (⟨.int .i64 (N.headCheck h), [], []⟩ : DRes)
    unfold N.headCheck
    by_cases hl : 8 < h.length
    · simp (disch := omega) only [evs]
    · simp (disch := omega) only [evs, pairs_enc, samePs_refl, Nat.sub_zero]
      cases hc : N.checkFrom h h.length 0 != 0 with
      | true => rfl
      | false =>
        have : N.checkFrom h h.length 0 = 0 := by simpa using hc
        rw [this]; rfl
def schHeadBytes : SSch := { fr := [(5, .ptr 10000 0 0), (18, .slc [.str, .int .u8, .int .i64, .str]), (19, .int .i64), (20, .int .i64)], tab := [(10000, .var [.str, .int .i64])] }
def gHeadBytes : List Leaf → (Ex → St → Option R) → Option R
  | [.r r, .i n, .i i, .s s, .i e], K => cond (n == r.length) (cond (e == 0) (cond (ile 0 i) (cond (Nat.ble r.length 8) (cond ((rowsP r).all N.fitP) (cond (ile s.length (1 + 150 * i))
      (K (.exit 0) { fr := [(5, .ptr 10000 0 0 0)], tab := [(10000, .var [.str (s ++ N.pairsB ((rowsP r).drop i.toNat)), .int .i64 0])] }) none) none) none) none) none) none
  | _, _ => none
noncomputable def eHeadBytes : Env := env Tryz.prog [(151, dHeadCheck), (158, dOutNum), (159, dOutText), (161, dOutString)] [(6, loopF schHeadBytes gHeadBytes)] [(6, [(0, [5, 18, 19, 20]), (1, [5]), (1000, [2, 3])])]
theorem q_headBytes (h : List HPair) : evFn eHeadBytes 157 ((aOne (vSl cPair)).enc h) ([]) some =
 cond (N.headCheck (List.map (fun r => { key := V.toStr (List.getD r (0 : Nat) V.undef), kind := V.toInt (List.getD r (1 : Nat) V.undef), num := V.toInt (List.getD r (2 : Nat) V.undef), text := V.toStr (List.getD r (3 : Nat) V.undef) : HPair }) (List.map (fun p => [V.str (HPair.key p), V.int IntKind.u8 (HPair.kind p), V.int IntKind.i64 (HPair.num p), V.str (HPair.text p)]) h)) != (0 : Int)) (some { v := V.tup [V.str [], V.int IntKind.i64 (N.headCheck (List.map (fun r => { key := V.toStr (List.getD r (0 : Nat) V.undef), kind := V.toInt (List.getD r (1 : Nat) V.undef), num := V.toInt (List.getD r (2 : Nat) V.undef), text := V.toStr (List.getD r (3 : Nat) V.undef) : HPair }) (List.map (fun p => [V.str (HPair.key p), V.int IntKind.u8 (HPair.kind p), V.int IntKind.i64 (HPair.num p), V.str (HPair.text p)]) h)))], bx := [] : DRes }) (cond (bif ilt (IntKind.wrap IntKind.u64 (↑(List.length (List.map (fun p => [V.str (HPair.key p), V.int IntKind.u8 (HPair.kind p), V.int IntKind.i64 (HPair.num p), V.str (HPair.text p)]) h)) : Int)) (18446744073709551616 : Int) then true else false) (cond ((↑(List.length (List.map (fun p => [V.str (HPair.key p), V.int IntKind.u8 (HPair.kind p), V.int IntKind.i64 (HPair.num p), V.str (HPair.text p)]) h)) : Int) == (↑(List.length (List.map (fun p => [V.str (HPair.key p), V.int IntKind.u8 (HPair.kind p), V.int IntKind.i64 (HPair.num p), V.str (HPair.text p)]) h)) : Int)) (cond (Nat.ble (List.length (List.map (fun p => [V.str (HPair.key p), V.int IntKind.u8 (HPair.kind p), V.int IntKind.i64 (HPair.num p), V.str (HPair.text p)]) h)) (8 : Nat)) (cond (List.all (List.map (fun r => { key := V.toStr (List.getD r (0 : Nat) V.undef), kind := V.toInt (List.getD r (1 : Nat) V.undef), num := V.toInt (List.getD r (2 : Nat) V.undef), text := V.toStr (List.getD r (3 : Nat) V.undef) : HPair }) (List.map (fun p => [V.str (HPair.key p), V.int IntKind.u8 (HPair.kind p), V.int IntKind.i64 (HPair.num p), V.str (HPair.text p)]) h)) N.fitP) (some { v := V.tup [V.str (OutS.s (N.outNum { s := [], err := (0 : Int) : OutS } (IntKind.wrap IntKind.u64 (↑(List.length (List.map (fun p => [V.str (HPair.key p), V.int IntKind.u8 (HPair.kind p), V.int IntKind.i64 (HPair.num p), V.str (HPair.text p)]) h)) : Int)) (1 : Int)) ++ N.pairsB (List.drop (0 : Nat) (List.map (fun r => { key := V.toStr (List.getD r (0 : Nat) V.undef), kind := V.toInt (List.getD r (1 : Nat) V.undef), num := V.toInt (List.getD r (2 : Nat) V.undef), text := V.toStr (List.getD r (3 : Nat) V.undef) : HPair }) (List.map (fun p => [V.str (HPair.key p), V.int IntKind.u8 (HPair.kind p), V.int IntKind.i64 (HPair.num p), V.str (HPair.text p)]) h)))), V.int IntKind.i64 (0 : Int)], bx := [] : DRes }) (none)) (none)) (none)) (none)) := by kernel_rfl
theorem q_headBytesR (r : List (List V)) (i : Int) (s : Bytes) (K : Ex → St → Option R) : evRound eHeadBytes 157 6 { fr := [(5, .ptr 10000 0 0 0), (18, .slc [.str, .int .u8, .int .i64, .str] r), (19, .int .i64 r.length), (20, .int .i64 i)], tab := [(10000, .var [.str s, .int .i64 0])] } K =
 cond (ilt i (↑(List.length r) : Int)) (cond (decide ((0 : Int) ≤ i ∧ i < (↑(List.length r) : Int))) (cond (Nat.ble (List.length s + List.length (V.toStr (List.getD (List.getD r (Int.toNat i) []) (0 : Nat) V.undef))) (9223372036854775790 : Nat)) (cond (bif ile (0 : Int) (IntKind.wrap IntKind.u64 (V.toInt (List.getD (List.getD r (Int.toNat i) []) (1 : Nat) V.undef))) then bif ilt (IntKind.wrap IntKind.u64 (V.toInt (List.getD (List.getD r (Int.toNat i) []) (1 : Nat) V.undef))) (18446744073709551616 : Int) then Nat.ble (List.length (OutS.s (N.outText { s := s, err := (0 : Int) : OutS } (V.toStr (List.getD (List.getD r (Int.toNat i) []) (0 : Nat) V.undef))))) (9223372036854775799 : Nat) else false else false) (cond (V.toInt (List.getD (List.getD r (Int.toNat i) []) (1 : Nat) V.undef) == (0 : Int)) (cond (bif ile (0 : Int) (IntKind.wrap IntKind.u64 (V.toInt (List.getD (List.getD r (Int.toNat i) []) (2 : Nat) V.undef))) then bif ilt (IntKind.wrap IntKind.u64 (V.toInt (List.getD (List.getD r (Int.toNat i) []) (2 : Nat) V.undef))) (18446744073709551616 : Int) then Nat.ble (List.length (OutS.s (N.outNum (N.outText { s := s, err := (0 : Int) : OutS } (V.toStr (List.getD (List.getD r (Int.toNat i) []) (0 : Nat) V.undef))) (IntKind.wrap IntKind.u64 (V.toInt (List.getD (List.getD r (Int.toNat i) []) (1 : Nat) V.undef))) (1 : Int)))) (9223372036854775799 : Nat) else false else false) (K Ex.normal { fr := [((5 : Nat), V.ptr (10000 : Nat) (0 : Nat) (0 : Nat) (0 : Nat)), ((18 : Nat), V.slc [Sh.str, Sh.int IntKind.u8, Sh.int IntKind.i64, Sh.str] r), ((19 : Nat), V.int IntKind.i64 (↑(List.length r) : Int)), ((20 : Nat), V.int IntKind.i64 (IntKind.wrap IntKind.i64 (i + (1 : Int))))], tab := [((10000 : Nat), Box.var [V.str (OutS.s (N.outNum (N.outNum (N.outText { s := s, err := (0 : Int) : OutS } (V.toStr (List.getD (List.getD r (Int.toNat i) []) (0 : Nat) V.undef))) (IntKind.wrap IntKind.u64 (V.toInt (List.getD (List.getD r (Int.toNat i) []) (1 : Nat) V.undef))) (1 : Int)) (IntKind.wrap IntKind.u64 (V.toInt (List.getD (List.getD r (Int.toNat i) []) (2 : Nat) V.undef))) (8 : Int))), V.int IntKind.i64 (OutS.err (N.outNum (N.outNum (N.outText { s := s, err := (0 : Int) : OutS } (V.toStr (List.getD (List.getD r (Int.toNat i) []) (0 : Nat) V.undef))) (IntKind.wrap IntKind.u64 (V.toInt (List.getD (List.getD r (Int.toNat i) []) (1 : Nat) V.undef))) (1 : Int)) (IntKind.wrap IntKind.u64 (V.toInt (List.getD (List.getD r (Int.toNat i) []) (2 : Nat) V.undef))) (8 : Int)))])] : St }) (none)) (cond (V.toInt (List.getD (List.getD r (Int.toNat i) []) (1 : Nat) V.undef) == (1 : Int)) (cond (Nat.ble (List.length (OutS.s (N.outNum (N.outText { s := s, err := (0 : Int) : OutS } (V.toStr (List.getD (List.getD r (Int.toNat i) []) (0 : Nat) V.undef))) (IntKind.wrap IntKind.u64 (V.toInt (List.getD (List.getD r (Int.toNat i) []) (1 : Nat) V.undef))) (1 : Int))) + List.length (V.toStr (List.getD (List.getD r (Int.toNat i) []) (3 : Nat) V.undef))) (9223372036854775790 : Nat)) (K Ex.normal { fr := [((5 : Nat), V.ptr (10000 : Nat) (0 : Nat) (0 : Nat) (0 : Nat)), ((18 : Nat), V.slc [Sh.str, Sh.int IntKind.u8, Sh.int IntKind.i64, Sh.str] r), ((19 : Nat), V.int IntKind.i64 (↑(List.length r) : Int)), ((20 : Nat), V.int IntKind.i64 (IntKind.wrap IntKind.i64 (i + (1 : Int))))], tab := [((10000 : Nat), Box.var [V.str (OutS.s (N.outText (N.outNum (N.outText { s := s, err := (0 : Int) : OutS } (V.toStr (List.getD (List.getD r (Int.toNat i) []) (0 : Nat) V.undef))) (IntKind.wrap IntKind.u64 (V.toInt (List.getD (List.getD r (Int.toNat i) []) (1 : Nat) V.undef))) (1 : Int)) (V.toStr (List.getD (List.getD r (Int.toNat i) []) (3 : Nat) V.undef)))), V.int IntKind.i64 (OutS.err (N.outText (N.outNum (N.outText { s := s, err := (0 : Int) : OutS } (V.toStr (List.getD (List.getD r (Int.toNat i) []) (0 : Nat) V.undef))) (IntKind.wrap IntKind.u64 (V.toInt (List.getD (List.getD r (Int.toNat i) []) (1 : Nat) V.undef))) (1 : Int)) (V.toStr (List.getD (List.getD r (Int.toNat i) []) (3 : Nat) V.undef))))])] : St }) (none)) (cond (V.toInt (List.getD (List.getD r (Int.toNat i) []) (1 : Nat) V.undef) == (2 : Int)) (cond (bif ile (0 : Int) (IntKind.wrap IntKind.u64 (V.toInt (List.getD (List.getD r (Int.toNat i) []) (2 : Nat) V.undef))) then bif ilt (IntKind.wrap IntKind.u64 (V.toInt (List.getD (List.getD r (Int.toNat i) []) (2 : Nat) V.undef))) (18446744073709551616 : Int) then Nat.ble (List.length (OutS.s (N.outNum (N.outText { s := s, err := (0 : Int) : OutS } (V.toStr (List.getD (List.getD r (Int.toNat i) []) (0 : Nat) V.undef))) (IntKind.wrap IntKind.u64 (V.toInt (List.getD (List.getD r (Int.toNat i) []) (1 : Nat) V.undef))) (1 : Int)))) (9223372036854775799 : Nat) else false else false) (K Ex.normal { fr := [((5 : Nat), V.ptr (10000 : Nat) (0 : Nat) (0 : Nat) (0 : Nat)), ((18 : Nat), V.slc [Sh.str, Sh.int IntKind.u8, Sh.int IntKind.i64, Sh.str] r), ((19 : Nat), V.int IntKind.i64 (↑(List.length r) : Int)), ((20 : Nat), V.int IntKind.i64 (IntKind.wrap IntKind.i64 (i + (1 : Int))))], tab := [((10000 : Nat), Box.var [V.str (OutS.s (N.outNum (N.outNum (N.outText { s := s, err := (0 : Int) : OutS } (V.toStr (List.getD (List.getD r (Int.toNat i) []) (0 : Nat) V.undef))) (IntKind.wrap IntKind.u64 (V.toInt (List.getD (List.getD r (Int.toNat i) []) (1 : Nat) V.undef))) (1 : Int)) (IntKind.wrap IntKind.u64 (V.toInt (List.getD (List.getD r (Int.toNat i) []) (2 : Nat) V.undef))) (1 : Int))), V.int IntKind.i64 (OutS.err (N.outNum (N.outNum (N.outText { s := s, err := (0 : Int) : OutS } (V.toStr (List.getD (List.getD r (Int.toNat i) []) (0 : Nat) V.undef))) (IntKind.wrap IntKind.u64 (V.toInt (List.getD (List.getD r (Int.toNat i) []) (1 : Nat) V.undef))) (1 : Int)) (IntKind.wrap IntKind.u64 (V.toInt (List.getD (List.getD r (Int.toNat i) []) (2 : Nat) V.undef))) (1 : Int)))])] : St }) (none)) (K Ex.normal { fr := [((5 : Nat), V.ptr (10000 : Nat) (0 : Nat) (0 : Nat) (0 : Nat)), ((18 : Nat), V.slc [Sh.str, Sh.int IntKind.u8, Sh.int IntKind.i64, Sh.str] r), ((19 : Nat), V.int IntKind.i64 (↑(List.length r) : Int)), ((20 : Nat), V.int IntKind.i64 (IntKind.wrap IntKind.i64 (i + (1 : Int))))], tab := [((10000 : Nat), Box.var [V.str (OutS.s (N.outNum (N.outText { s := s, err := (0 : Int) : OutS } (V.toStr (List.getD (List.getD r (Int.toNat i) []) (0 : Nat) V.undef))) (IntKind.wrap IntKind.u64 (V.toInt (List.getD (List.getD r (Int.toNat i) []) (1 : Nat) V.undef))) (1 : Int))), V.int IntKind.i64 (OutS.err (N.outNum (N.outText { s := s, err := (0 : Int) : OutS } (V.toStr (List.getD (List.getD r (Int.toNat i) []) (0 : Nat) V.undef))) (IntKind.wrap IntKind.u64 (V.toInt (List.getD (List.getD r (Int.toNat i) []) (1 : Nat) V.undef))) (1 : Int)))])] : St })))) (none)) (none)) (none)) (K (Ex.exit (0 : Nat)) { fr := [((5 : Nat), V.ptr (10000 : Nat) (0 : Nat) (0 : Nat) (0 : Nat))], tab := [((10000 : Nat), Box.var [V.str s, V.int IntKind.i64 (0 : Int)])] : St }) := by kernel_rfl
theorem pairE_fit {p : HPair} {l : List HPair} (h : N.pairE p l = 0) : N.fitP p = true := by
  unfold N.pairE at h
  cases h1 : N.name p.key != 0 with
  | true => rw [h1, cond_true] at h; rw [h] at h1; cases h1
  | false =>
    have hk : p.key.length ≤ 16 := by
      unfold N.name at h1
      cases e1 : p.key == [] with
      | true => rw [e1] at h1; cases h1
      | false =>
        rw [e1] at h1
        cases e2 : ilt 16 p.key.length with
        | true => rw [e2] at h1; cases h1
        | false => have := ilt_nof e2; omega
    rw [h1] at h
    simp only [cond_false, bne] at h
    have ht : p.text.length ≤ 64 := by
      cases h2 : ilt 2 p.kind with
      | true => rw [h2] at h; cases h
      | false =>
        rw [h2] at h
        cases e1 : p.kind == 1 with
        | true =>
          rw [e1] at h
          cases e2 : ilt 64 p.text.length with
          | true => rw [e2] at h; cases h
          | false => have := ilt_nof e2; omega
        | false =>
          rw [e1] at h
          cases e2 : p.text == [] with
          | true => have : p.text = [] := by simpa using e2
                    rw [this]; exact Nat.zero_le _
          | false =>
            rw [e2] at h
            simp only [cond_false, cond_true, Bool.not_false] at h
            revert h
            cases (cond (cond (p.kind == 2) (!p.num == 0) false) (!p.num == 1) false) <;> intro h <;> cases h
    show cond (Nat.ble p.key.length 64) (Nat.ble p.text.length 64) false = true
    rw [ble_t (by omega), ble_t ht]; rfl
theorem checkFrom_fit (h : List HPair) : ∀ (f : Nat) (i : Int), 0 ≤ i → N.checkFrom h f i = 0 → ∀ j : Nat, i ≤ j → (j : Int) < i + f → N.fitP (h.getD j pair0) = true
  | 0, i, _, _, j, h1, h2 => by omega
  | f + 1, i, h0, hc, j, h1, h2 => by
    unfold N.checkFrom at hc
    cases e : N.pairE (h.getD i.toNat pair0) (h.take i.toNat) != 0 with
    | true => rw [e, cond_true] at hc; rw [hc] at e; cases e
    | false =>
      rw [e] at hc
      by_cases hj : (j : Int) = i
      · have : j = i.toNat := by omega
        rw [this]; exact pairE_fit (by simpa using e)
      · exact checkFrom_fit h f (i + 1) (by omega) hc j (by omega) (by omega)
theorem check_fit {h : List HPair} (hz : N.headCheck h = 0) : h.length ≤ 8 ∧ h.all N.fitP = true := by
  unfold N.headCheck at hz
  cases e : ilt 8 h.length with
  | true => rw [e] at hz; cases hz
  | false =>
    have e' := ilt_nof e
    rw [e] at hz
    refine ⟨by omega, List.all_eq_true.2 fun p hp => ?_⟩
    obtain ⟨j, hj, rfl⟩ := List.getElem_of_mem hp
    have := checkFrom_fit h h.length 0 (Int.le_refl _) hz j (by omega) (by omega)
    rwa [List.getD_eq_getElem?_getD, List.getElem?_eq_getElem hj] at this
theorem wu64 (x : Int) : 0 ≤ IntKind.wrap .u64 x ∧ IntKind.wrap .u64 x < 18446744073709551616 := by
  simp only [IntKind.wrap, IntKind.signed, IntKind.bits]
  simp
  omega
theorem numB_len (n : Int) : ∀ k, (N.numB n k).length = k
  | 0 => rfl
  | k + 1 => by simp [N.numB, numB_len n k]
theorem textB_len (s : Bytes) : (N.textB s).length = 2 + s.length := by unfold N.textB; rw [List.length_append, numB_len]
theorem outText_le {x s : Bytes} (h : s.length ≤ 65535) : N.outText ⟨x, 0⟩ s = ⟨x ++ N.textB s, 0⟩ := by
  unfold N.outText
  rw [ilt_f (by omega)]
  show (⟨x ++ N.numB s.length 2 ++ s, 0⟩ : OutS) = _
  unfold N.textB; rw [List.append_assoc]
theorem outNum_1 (x : Bytes) (n : Int) : N.outNum ⟨x, 0⟩ n 1 = ⟨x ++ N.numB n 1, 0⟩ := rfl
theorem outNum_8 (x : Bytes) (n : Int) : N.outNum ⟨x, 0⟩ n 8 = ⟨x ++ N.numB n 8, 0⟩ := rfl
theorem ok_headBytes (hN : FnOk Tryz.prog 158 dOutNum) : FnOk Tryz.prog 157 dHeadBytes := by
  refine den_okF (env_ok (((((TOk.nil _).cons ok_outString).cons (ok_outText hN)).cons hN).cons ok_headCheck)) (E := eHeadBytes) Tryz.func157 [6] (by kernel_rfl) (one1 (rounds_of rfl fun l K q h => ?_)) fun h _ _ => ?_
  · unfold gHeadBytes at h
    split at h
    · rename_i r n i s e
      have h1 := (cond_none h).1; replace h := (cond_none h).2; have h2 := (cond_none h).1; replace h := (cond_none h).2; have h3 := (cond_none h).1; replace h := (cond_none h).2; have h4 := (cond_none h).1; replace h := (cond_none h).2; have h5 := (cond_none h).1; replace h := (cond_none h).2; have h6 := (cond_none h).1; replace h := (cond_none h).2
      have e1 := ieq_of h1
      have e2 := ieq_of h2
      subst e1 e2
      have h4 : r.length ≤ 8 := ble_of h4
      refine loop_ind (E := eHeadBytes) (f := 157) (id := 6) (σ := Int × Bytes) (fun x => { fr := [(5, .ptr 10000 0 0 0), (18, .slc [.str, .int .u8, .int .i64, .str] r), (19, .int .i64 r.length), (20, .int .i64 x.1)], tab := [(10000, .var [.str x.2, .int .i64 0])] })
        (fun x => 0 ≤ x.1 ∧ (x.2.length : Int) ≤ 1 + 150 * x.1) (fun x => r.length - x.1.toNat)
        (fun x K => K (.exit 0) { fr := [(5, .ptr 10000 0 0 0)], tab := [(10000, .var [.str (x.2 ++ N.pairsB ((rowsP r).drop x.1.toNat)), .int .i64 0])] }) ?_ (i, s) ⟨ile_of h3, ile_of h6⟩ K q (by assumption)
      rintro ⟨i, s⟩ ⟨hi, hs⟩
      simp only at hi hs ⊢
      by_cases hl : i < r.length
      · have hlt : i.toNat < r.length := by omega
        have hfit : N.fitP (rowP (r.getD i.toNat [])) = true := List.all_eq_true.1 h5 _ (by
          rw [List.getD_eq_getElem?_getD, List.getElem?_eq_getElem hlt]; exact List.mem_map_of_mem (List.getElem_mem _))
        obtain ⟨f1, f2⟩ := bcond hfit
        have f1 : (V.toStr (List.getD (List.getD r i.toNat []) 0 V.undef)).length ≤ 64 := ble_of f1
        have f2 : (V.toStr (List.getD (List.getD r i.toNat []) 3 V.undef)).length ≤ 64 := ble_of f2
        have u1 := wu64 (V.toInt (List.getD (List.getD r i.toNat []) 1 V.undef))
        have u2 := wu64 (V.toInt (List.getD (List.getD r i.toNat []) 2 V.undef))
        have o1 : N.outText ⟨s, 0⟩ (V.toStr (List.getD (List.getD r i.toNat []) 0 V.undef)) = ⟨s ++ N.textB (V.toStr (List.getD (List.getD r i.toNat []) 0 V.undef)), 0⟩ := outText_le (by omega)
        have o2 : ∀ x : Bytes, N.outText ⟨x, 0⟩ (V.toStr (List.getD (List.getD r i.toNat []) 3 V.undef)) = ⟨x ++ N.textB (V.toStr (List.getD (List.getD r i.toNat []) 3 V.undef)), 0⟩ := fun x => outText_le (by omega)
        rw [drop_pair hlt]
        have e : N.pairsB (rowP (r.getD i.toNat []) :: (rowsP r).drop (i.toNat + 1)) = N.pairB (rowP (r.getD i.toNat [])) ++ N.pairsB ((rowsP r).drop (i.toNat + 1)) := rfl
        rw [e, ← List.append_assoc]
        have hlen : (N.pairB (rowP (r.getD i.toNat []))).length ≤ 150 := by
          unfold N.pairB rowP
          simp only [List.length_append, textB_len, numB_len]
          cases V.toInt (List.getD (List.getD r i.toNat []) 1 V.undef) == 0 <;> cases V.toInt (List.getD (List.getD r i.toNat []) 1 V.undef) == 1 <;> cases V.toInt (List.getD (List.getD r i.toNat []) 1 V.undef) == 2 <;> simp only [cond_true, cond_false, numB_len, textB_len, List.length_nil] <;> omega
        refine .inl ⟨(i + 1, s ++ N.pairB (rowP (r.getD i.toNat []))), ⟨by simp only; omega, by simp only [List.length_append]; omega⟩, by simp only; omega, fun K => ?_, fun K => ?_⟩
        · rw [q_headBytesR]
          unfold N.pairB rowP
          simp (disch := omega) only [evs, o1, o2, outNum_1, outNum_8, textB_len, numB_len, ← List.append_assoc]
          cases V.toInt (List.getD (List.getD r i.toNat []) 1 V.undef) == 0 <;> cases V.toInt (List.getD (List.getD r i.toNat []) 1 V.undef) == 1 <;> cases V.toInt (List.getD (List.getD r i.toNat []) 1 V.undef) == 2 <;> simp only [cond_true, cond_false, List.append_nil]
        · rw [show (i + 1).toNat = i.toNat + 1 by omega]
      · refine .inr ⟨.exit 0, { fr := [(5, .ptr 10000 0 0 0)], tab := [(10000, .var [.str s, .int .i64 0])] }, by simp, fun K => ?_, fun K => ?_⟩
        · rw [q_headBytesR]
          simp (disch := omega) only [evs]
        · rw [List.drop_eq_nil_of_le (by rw [rowsP_length]; omega)]
          show K _ { fr := _, tab := [(10000, .var [.str (s ++ []), .int .i64 0])] } = _
          rw [List.append_nil]
    · cases h
  · refine (q_headBytes h).trans ?_
    show _ = some (⟨.tup [.str (cond (N.headCheck h != 0) (([] : Bytes), N.headCheck h) (N.headBytes h, 0)).1, .int .i64 (cond (N.headCheck h != 0) (([] : Bytes), N.headCheck h) (N.headBytes h, 0)).2], [], []⟩ : DRes)
    cases hc : N.headCheck h != 0 with
    | true =>
      simp (disch := omega) only [evs, pairs_enc, hc]
    | false =>
      have hz : N.headCheck h = 0 := by simpa using hc
      obtain ⟨c1, c2⟩ := check_fit hz
      have u := wu64 (h.length : Int)
      have ul : IntKind.wrap .u64 (h.length : Int) = h.length := wrap_u64 (by omega) (by omega)
      simp (disch := omega) only [evs, pairs_enc, hc, ul, outNum_1, c2, List.drop_zero, List.nil_append]
      rfl
end Go.Ev

/- The program's functions that read heads answer what the plain ones do: lemmas. -/
namespace Go.Ev
open Go Go.Proofs
set_option maxRecDepth 100000

end Go.Ev

/- The program's functions that read heads, those with loops, answer what the plain ones do: lemmas. -/
namespace Go.Ev
open Go Go.Proofs
set_option maxRecDepth 100000

namespace N
/-- The loop over a head's pairs: went through, what was read, the reader. -/
def hl : Nat → InS → List (List V) → Bool × List (List V) × InS
  | 0, i, rows => (true, rows, i)
  | k + 1, i, rows => cond ((bad (one i).1 (rowsP rows) (one i).2).err != 0) (false, [], bad (one i).1 (rowsP rows) (one i).2) (hl k (bad (one i).1 (rowsP rows) (one i).2) (rows ++ [cPair.enc (one i).1]))
end N
namespace N
end N
def schRefPair : SSch := { fr := [(2, .ptr 10000 0 0), (57, .slc [.str, .int .u8, .int .i64, .str]), (58, .int .i64), (59, .int .i64)], tab := [(10000, .var [.str, .int .u8, .int .i64, .str])] }
def gRefPair : List Leaf → (Ex → St → Option R) → Option R
  | [.r r57, .i i58, .i i59, .s sx0, .i _, .i _, .s _], K => cond (i58 == r57.length) (cond (ile 0 i59) (cond (Nat.ble r57.length LIM)
      (cond (ile 0 (N.findIx sx0 ((rowsP r57).drop i59.toNat) i59)) (K .ret { fr := [(4, .int .i64 9)], tab := [] }) (K (.exit 0) { fr := [], tab := [] })) none) none) none
  | _, _ => none
noncomputable def eRefPair : Env := env Tryz.prog [(125, dName)] [(13, loopF schRefPair gRefPair)] [(13, [(0, [2, 57, 58, 59]), (1, []), (1000, [4])])]
theorem q_refPair (p : HPair) (l : List HPair) : evFn eRefPair 79 (((aCons (vAgg cPair) (aOne (vSl cPair))).enc (p, l))) ([]) some =
 cond (N.name (HPair.key p) != (0 : Int)) (some { v := V.int IntKind.i64 (N.name (HPair.key p)), bx := [] : DRes }) (cond (ilt (2 : Int) (HPair.kind p)) (some { v := V.int IntKind.i64 (8 : Int), bx := [] : DRes }) (cond (HPair.kind p == (1 : Int)) (cond (ilt (64 : Int) (↑(List.length (HPair.text p)) : Int)) (some { v := V.int IntKind.i64 (5 : Int), bx := [] : DRes }) (cond (HPair.kind p == (2 : Int)) (cond (ilt (HPair.num p) (0 : Int)) (some { v := V.int IntKind.i64 (7 : Int), bx := [] : DRes }) (cond (ilt (1 : Int) (HPair.num p)) (some { v := V.int IntKind.i64 (7 : Int), bx := [] : DRes }) (cond (HPair.kind p == (1 : Int)) (cond (HPair.num p != (0 : Int)) (some { v := V.int IntKind.i64 (4 : Int), bx := [] : DRes }) (cond (HPair.kind p != (1 : Int)) (cond (!HPair.text p == []) (some { v := V.int IntKind.i64 (4 : Int), bx := [] : DRes }) (cond ((↑(List.length (List.map (fun p => [V.str (HPair.key p), V.int IntKind.u8 (HPair.kind p), V.int IntKind.i64 (HPair.num p), V.str (HPair.text p)]) l)) : Int) == (↑(List.length (List.map (fun p => [V.str (HPair.key p), V.int IntKind.u8 (HPair.kind p), V.int IntKind.i64 (HPair.num p), V.str (HPair.text p)]) l)) : Int)) (cond (Nat.ble (List.length (List.map (fun p => [V.str (HPair.key p), V.int IntKind.u8 (HPair.kind p), V.int IntKind.i64 (HPair.num p), V.str (HPair.text p)]) l)) (1000000 : Nat)) (cond (ile (0 : Int) (N.findIx (HPair.key p) (List.drop (0 : Nat) (List.map (fun r => { key := V.toStr (List.getD r (0 : Nat) V.undef), kind := V.toInt (List.getD r (1 : Nat) V.undef), num := V.toInt (List.getD r (2 : Nat) V.undef), text := V.toStr (List.getD r (3 : Nat) V.undef) : HPair }) (List.map (fun p => [V.str (HPair.key p), V.int IntKind.u8 (HPair.kind p), V.int IntKind.i64 (HPair.num p), V.str (HPair.text p)]) l))) (0 : Int))) (some { v := V.int IntKind.i64 (9 : Int), bx := [] : DRes }) (some { v := V.int IntKind.i64 (0 : Int), bx := [] : DRes })) (none)) (none))) (cond ((↑(List.length (List.map (fun p => [V.str (HPair.key p), V.int IntKind.u8 (HPair.kind p), V.int IntKind.i64 (HPair.num p), V.str (HPair.text p)]) l)) : Int) == (↑(List.length (List.map (fun p => [V.str (HPair.key p), V.int IntKind.u8 (HPair.kind p), V.int IntKind.i64 (HPair.num p), V.str (HPair.text p)]) l)) : Int)) (cond (Nat.ble (List.length (List.map (fun p => [V.str (HPair.key p), V.int IntKind.u8 (HPair.kind p), V.int IntKind.i64 (HPair.num p), V.str (HPair.text p)]) l)) (1000000 : Nat)) (cond (ile (0 : Int) (N.findIx (HPair.key p) (List.drop (0 : Nat) (List.map (fun r => { key := V.toStr (List.getD r (0 : Nat) V.undef), kind := V.toInt (List.getD r (1 : Nat) V.undef), num := V.toInt (List.getD r (2 : Nat) V.undef), text := V.toStr (List.getD r (3 : Nat) V.undef) : HPair }) (List.map (fun p => [V.str (HPair.key p), V.int IntKind.u8 (HPair.kind p), V.int IntKind.i64 (HPair.num p), V.str (HPair.text p)]) l))) (0 : Int))) (some { v := V.int IntKind.i64 (9 : Int), bx := [] : DRes }) (some { v := V.int IntKind.i64 (0 : Int), bx := [] : DRes })) (none)) (none)))) (cond (HPair.kind p != (1 : Int)) (cond (!HPair.text p == []) (some { v := V.int IntKind.i64 (4 : Int), bx := [] : DRes }) (cond ((↑(List.length (List.map (fun p => [V.str (HPair.key p), V.int IntKind.u8 (HPair.kind p), V.int IntKind.i64 (HPair.num p), V.str (HPair.text p)]) l)) : Int) == (↑(List.length (List.map (fun p => [V.str (HPair.key p), V.int IntKind.u8 (HPair.kind p), V.int IntKind.i64 (HPair.num p), V.str (HPair.text p)]) l)) : Int)) (cond (Nat.ble (List.length (List.map (fun p => [V.str (HPair.key p), V.int IntKind.u8 (HPair.kind p), V.int IntKind.i64 (HPair.num p), V.str (HPair.text p)]) l)) (1000000 : Nat)) (cond (ile (0 : Int) (N.findIx (HPair.key p) (List.drop (0 : Nat) (List.map (fun r => { key := V.toStr (List.getD r (0 : Nat) V.undef), kind := V.toInt (List.getD r (1 : Nat) V.undef), num := V.toInt (List.getD r (2 : Nat) V.undef), text := V.toStr (List.getD r (3 : Nat) V.undef) : HPair }) (List.map (fun p => [V.str (HPair.key p), V.int IntKind.u8 (HPair.kind p), V.int IntKind.i64 (HPair.num p), V.str (HPair.text p)]) l))) (0 : Int))) (some { v := V.int IntKind.i64 (9 : Int), bx := [] : DRes }) (some { v := V.int IntKind.i64 (0 : Int), bx := [] : DRes })) (none)) (none))) (cond ((↑(List.length (List.map (fun p => [V.str (HPair.key p), V.int IntKind.u8 (HPair.kind p), V.int IntKind.i64 (HPair.num p), V.str (HPair.text p)]) l)) : Int) == (↑(List.length (List.map (fun p => [V.str (HPair.key p), V.int IntKind.u8 (HPair.kind p), V.int IntKind.i64 (HPair.num p), V.str (HPair.text p)]) l)) : Int)) (cond (Nat.ble (List.length (List.map (fun p => [V.str (HPair.key p), V.int IntKind.u8 (HPair.kind p), V.int IntKind.i64 (HPair.num p), V.str (HPair.text p)]) l)) (1000000 : Nat)) (cond (ile (0 : Int) (N.findIx (HPair.key p) (List.drop (0 : Nat) (List.map (fun r => { key := V.toStr (List.getD r (0 : Nat) V.undef), kind := V.toInt (List.getD r (1 : Nat) V.undef), num := V.toInt (List.getD r (2 : Nat) V.undef), text := V.toStr (List.getD r (3 : Nat) V.undef) : HPair }) (List.map (fun p => [V.str (HPair.key p), V.int IntKind.u8 (HPair.kind p), V.int IntKind.i64 (HPair.num p), V.str (HPair.text p)]) l))) (0 : Int))) (some { v := V.int IntKind.i64 (9 : Int), bx := [] : DRes }) (some { v := V.int IntKind.i64 (0 : Int), bx := [] : DRes })) (none)) (none)))))) (cond (HPair.kind p == (1 : Int)) (cond (HPair.num p != (0 : Int)) (some { v := V.int IntKind.i64 (4 : Int), bx := [] : DRes }) (cond (HPair.kind p != (1 : Int)) (cond (!HPair.text p == []) (some { v := V.int IntKind.i64 (4 : Int), bx := [] : DRes }) (cond ((↑(List.length (List.map (fun p => [V.str (HPair.key p), V.int IntKind.u8 (HPair.kind p), V.int IntKind.i64 (HPair.num p), V.str (HPair.text p)]) l)) : Int) == (↑(List.length (List.map (fun p => [V.str (HPair.key p), V.int IntKind.u8 (HPair.kind p), V.int IntKind.i64 (HPair.num p), V.str (HPair.text p)]) l)) : Int)) (cond (Nat.ble (List.length (List.map (fun p => [V.str (HPair.key p), V.int IntKind.u8 (HPair.kind p), V.int IntKind.i64 (HPair.num p), V.str (HPair.text p)]) l)) (1000000 : Nat)) (cond (ile (0 : Int) (N.findIx (HPair.key p) (List.drop (0 : Nat) (List.map (fun r => { key := V.toStr (List.getD r (0 : Nat) V.undef), kind := V.toInt (List.getD r (1 : Nat) V.undef), num := V.toInt (List.getD r (2 : Nat) V.undef), text := V.toStr (List.getD r (3 : Nat) V.undef) : HPair }) (List.map (fun p => [V.str (HPair.key p), V.int IntKind.u8 (HPair.kind p), V.int IntKind.i64 (HPair.num p), V.str (HPair.text p)]) l))) (0 : Int))) (some { v := V.int IntKind.i64 (9 : Int), bx := [] : DRes }) (some { v := V.int IntKind.i64 (0 : Int), bx := [] : DRes })) (none)) (none))) (cond ((↑(List.length (List.map (fun p => [V.str (HPair.key p), V.int IntKind.u8 (HPair.kind p), V.int IntKind.i64 (HPair.num p), V.str (HPair.text p)]) l)) : Int) == (↑(List.length (List.map (fun p => [V.str (HPair.key p), V.int IntKind.u8 (HPair.kind p), V.int IntKind.i64 (HPair.num p), V.str (HPair.text p)]) l)) : Int)) (cond (Nat.ble (List.length (List.map (fun p => [V.str (HPair.key p), V.int IntKind.u8 (HPair.kind p), V.int IntKind.i64 (HPair.num p), V.str (HPair.text p)]) l)) (1000000 : Nat)) (cond (ile (0 : Int) (N.findIx (HPair.key p) (List.drop (0 : Nat) (List.map (fun r => { key := V.toStr (List.getD r (0 : Nat) V.undef), kind := V.toInt (List.getD r (1 : Nat) V.undef), num := V.toInt (List.getD r (2 : Nat) V.undef), text := V.toStr (List.getD r (3 : Nat) V.undef) : HPair }) (List.map (fun p => [V.str (HPair.key p), V.int IntKind.u8 (HPair.kind p), V.int IntKind.i64 (HPair.num p), V.str (HPair.text p)]) l))) (0 : Int))) (some { v := V.int IntKind.i64 (9 : Int), bx := [] : DRes }) (some { v := V.int IntKind.i64 (0 : Int), bx := [] : DRes })) (none)) (none)))) (cond (HPair.kind p != (1 : Int)) (cond (!HPair.text p == []) (some { v := V.int IntKind.i64 (4 : Int), bx := [] : DRes }) (cond ((↑(List.length (List.map (fun p => [V.str (HPair.key p), V.int IntKind.u8 (HPair.kind p), V.int IntKind.i64 (HPair.num p), V.str (HPair.text p)]) l)) : Int) == (↑(List.length (List.map (fun p => [V.str (HPair.key p), V.int IntKind.u8 (HPair.kind p), V.int IntKind.i64 (HPair.num p), V.str (HPair.text p)]) l)) : Int)) (cond (Nat.ble (List.length (List.map (fun p => [V.str (HPair.key p), V.int IntKind.u8 (HPair.kind p), V.int IntKind.i64 (HPair.num p), V.str (HPair.text p)]) l)) (1000000 : Nat)) (cond (ile (0 : Int) (N.findIx (HPair.key p) (List.drop (0 : Nat) (List.map (fun r => { key := V.toStr (List.getD r (0 : Nat) V.undef), kind := V.toInt (List.getD r (1 : Nat) V.undef), num := V.toInt (List.getD r (2 : Nat) V.undef), text := V.toStr (List.getD r (3 : Nat) V.undef) : HPair }) (List.map (fun p => [V.str (HPair.key p), V.int IntKind.u8 (HPair.kind p), V.int IntKind.i64 (HPair.num p), V.str (HPair.text p)]) l))) (0 : Int))) (some { v := V.int IntKind.i64 (9 : Int), bx := [] : DRes }) (some { v := V.int IntKind.i64 (0 : Int), bx := [] : DRes })) (none)) (none))) (cond ((↑(List.length (List.map (fun p => [V.str (HPair.key p), V.int IntKind.u8 (HPair.kind p), V.int IntKind.i64 (HPair.num p), V.str (HPair.text p)]) l)) : Int) == (↑(List.length (List.map (fun p => [V.str (HPair.key p), V.int IntKind.u8 (HPair.kind p), V.int IntKind.i64 (HPair.num p), V.str (HPair.text p)]) l)) : Int)) (cond (Nat.ble (List.length (List.map (fun p => [V.str (HPair.key p), V.int IntKind.u8 (HPair.kind p), V.int IntKind.i64 (HPair.num p), V.str (HPair.text p)]) l)) (1000000 : Nat)) (cond (ile (0 : Int) (N.findIx (HPair.key p) (List.drop (0 : Nat) (List.map (fun r => { key := V.toStr (List.getD r (0 : Nat) V.undef), kind := V.toInt (List.getD r (1 : Nat) V.undef), num := V.toInt (List.getD r (2 : Nat) V.undef), text := V.toStr (List.getD r (3 : Nat) V.undef) : HPair }) (List.map (fun p => [V.str (HPair.key p), V.int IntKind.u8 (HPair.kind p), V.int IntKind.i64 (HPair.num p), V.str (HPair.text p)]) l))) (0 : Int))) (some { v := V.int IntKind.i64 (9 : Int), bx := [] : DRes }) (some { v := V.int IntKind.i64 (0 : Int), bx := [] : DRes })) (none)) (none)))))) (cond (HPair.kind p == (2 : Int)) (cond (ilt (HPair.num p) (0 : Int)) (some { v := V.int IntKind.i64 (7 : Int), bx := [] : DRes }) (cond (ilt (1 : Int) (HPair.num p)) (some { v := V.int IntKind.i64 (7 : Int), bx := [] : DRes }) (cond (HPair.kind p == (1 : Int)) (cond (HPair.num p != (0 : Int)) (some { v := V.int IntKind.i64 (4 : Int), bx := [] : DRes }) (cond (HPair.kind p != (1 : Int)) (cond (!HPair.text p == []) (some { v := V.int IntKind.i64 (4 : Int), bx := [] : DRes }) (cond ((↑(List.length (List.map (fun p => [V.str (HPair.key p), V.int IntKind.u8 (HPair.kind p), V.int IntKind.i64 (HPair.num p), V.str (HPair.text p)]) l)) : Int) == (↑(List.length (List.map (fun p => [V.str (HPair.key p), V.int IntKind.u8 (HPair.kind p), V.int IntKind.i64 (HPair.num p), V.str (HPair.text p)]) l)) : Int)) (cond (Nat.ble (List.length (List.map (fun p => [V.str (HPair.key p), V.int IntKind.u8 (HPair.kind p), V.int IntKind.i64 (HPair.num p), V.str (HPair.text p)]) l)) (1000000 : Nat)) (cond (ile (0 : Int) (N.findIx (HPair.key p) (List.drop (0 : Nat) (List.map (fun r => { key := V.toStr (List.getD r (0 : Nat) V.undef), kind := V.toInt (List.getD r (1 : Nat) V.undef), num := V.toInt (List.getD r (2 : Nat) V.undef), text := V.toStr (List.getD r (3 : Nat) V.undef) : HPair }) (List.map (fun p => [V.str (HPair.key p), V.int IntKind.u8 (HPair.kind p), V.int IntKind.i64 (HPair.num p), V.str (HPair.text p)]) l))) (0 : Int))) (some { v := V.int IntKind.i64 (9 : Int), bx := [] : DRes }) (some { v := V.int IntKind.i64 (0 : Int), bx := [] : DRes })) (none)) (none))) (cond ((↑(List.length (List.map (fun p => [V.str (HPair.key p), V.int IntKind.u8 (HPair.kind p), V.int IntKind.i64 (HPair.num p), V.str (HPair.text p)]) l)) : Int) == (↑(List.length (List.map (fun p => [V.str (HPair.key p), V.int IntKind.u8 (HPair.kind p), V.int IntKind.i64 (HPair.num p), V.str (HPair.text p)]) l)) : Int)) (cond (Nat.ble (List.length (List.map (fun p => [V.str (HPair.key p), V.int IntKind.u8 (HPair.kind p), V.int IntKind.i64 (HPair.num p), V.str (HPair.text p)]) l)) (1000000 : Nat)) (cond (ile (0 : Int) (N.findIx (HPair.key p) (List.drop (0 : Nat) (List.map (fun r => { key := V.toStr (List.getD r (0 : Nat) V.undef), kind := V.toInt (List.getD r (1 : Nat) V.undef), num := V.toInt (List.getD r (2 : Nat) V.undef), text := V.toStr (List.getD r (3 : Nat) V.undef) : HPair }) (List.map (fun p => [V.str (HPair.key p), V.int IntKind.u8 (HPair.kind p), V.int IntKind.i64 (HPair.num p), V.str (HPair.text p)]) l))) (0 : Int))) (some { v := V.int IntKind.i64 (9 : Int), bx := [] : DRes }) (some { v := V.int IntKind.i64 (0 : Int), bx := [] : DRes })) (none)) (none)))) (cond (HPair.kind p != (1 : Int)) (cond (!HPair.text p == []) (some { v := V.int IntKind.i64 (4 : Int), bx := [] : DRes }) (cond ((↑(List.length (List.map (fun p => [V.str (HPair.key p), V.int IntKind.u8 (HPair.kind p), V.int IntKind.i64 (HPair.num p), V.str (HPair.text p)]) l)) : Int) == (↑(List.length (List.map (fun p => [V.str (HPair.key p), V.int IntKind.u8 (HPair.kind p), V.int IntKind.i64 (HPair.num p), V.str (HPair.text p)]) l)) : Int)) (cond (Nat.ble (List.length (List.map (fun p => [V.str (HPair.key p), V.int IntKind.u8 (HPair.kind p), V.int IntKind.i64 (HPair.num p), V.str (HPair.text p)]) l)) (1000000 : Nat)) (cond (ile (0 : Int) (N.findIx (HPair.key p) (List.drop (0 : Nat) (List.map (fun r => { key := V.toStr (List.getD r (0 : Nat) V.undef), kind := V.toInt (List.getD r (1 : Nat) V.undef), num := V.toInt (List.getD r (2 : Nat) V.undef), text := V.toStr (List.getD r (3 : Nat) V.undef) : HPair }) (List.map (fun p => [V.str (HPair.key p), V.int IntKind.u8 (HPair.kind p), V.int IntKind.i64 (HPair.num p), V.str (HPair.text p)]) l))) (0 : Int))) (some { v := V.int IntKind.i64 (9 : Int), bx := [] : DRes }) (some { v := V.int IntKind.i64 (0 : Int), bx := [] : DRes })) (none)) (none))) (cond ((↑(List.length (List.map (fun p => [V.str (HPair.key p), V.int IntKind.u8 (HPair.kind p), V.int IntKind.i64 (HPair.num p), V.str (HPair.text p)]) l)) : Int) == (↑(List.length (List.map (fun p => [V.str (HPair.key p), V.int IntKind.u8 (HPair.kind p), V.int IntKind.i64 (HPair.num p), V.str (HPair.text p)]) l)) : Int)) (cond (Nat.ble (List.length (List.map (fun p => [V.str (HPair.key p), V.int IntKind.u8 (HPair.kind p), V.int IntKind.i64 (HPair.num p), V.str (HPair.text p)]) l)) (1000000 : Nat)) (cond (ile (0 : Int) (N.findIx (HPair.key p) (List.drop (0 : Nat) (List.map (fun r => { key := V.toStr (List.getD r (0 : Nat) V.undef), kind := V.toInt (List.getD r (1 : Nat) V.undef), num := V.toInt (List.getD r (2 : Nat) V.undef), text := V.toStr (List.getD r (3 : Nat) V.undef) : HPair }) (List.map (fun p => [V.str (HPair.key p), V.int IntKind.u8 (HPair.kind p), V.int IntKind.i64 (HPair.num p), V.str (HPair.text p)]) l))) (0 : Int))) (some { v := V.int IntKind.i64 (9 : Int), bx := [] : DRes }) (some { v := V.int IntKind.i64 (0 : Int), bx := [] : DRes })) (none)) (none)))))) (cond (HPair.kind p == (1 : Int)) (cond (HPair.num p != (0 : Int)) (some { v := V.int IntKind.i64 (4 : Int), bx := [] : DRes }) (cond (HPair.kind p != (1 : Int)) (cond (!HPair.text p == []) (some { v := V.int IntKind.i64 (4 : Int), bx := [] : DRes }) (cond ((↑(List.length (List.map (fun p => [V.str (HPair.key p), V.int IntKind.u8 (HPair.kind p), V.int IntKind.i64 (HPair.num p), V.str (HPair.text p)]) l)) : Int) == (↑(List.length (List.map (fun p => [V.str (HPair.key p), V.int IntKind.u8 (HPair.kind p), V.int IntKind.i64 (HPair.num p), V.str (HPair.text p)]) l)) : Int)) (cond (Nat.ble (List.length (List.map (fun p => [V.str (HPair.key p), V.int IntKind.u8 (HPair.kind p), V.int IntKind.i64 (HPair.num p), V.str (HPair.text p)]) l)) (1000000 : Nat)) (cond (ile (0 : Int) (N.findIx (HPair.key p) (List.drop (0 : Nat) (List.map (fun r => { key := V.toStr (List.getD r (0 : Nat) V.undef), kind := V.toInt (List.getD r (1 : Nat) V.undef), num := V.toInt (List.getD r (2 : Nat) V.undef), text := V.toStr (List.getD r (3 : Nat) V.undef) : HPair }) (List.map (fun p => [V.str (HPair.key p), V.int IntKind.u8 (HPair.kind p), V.int IntKind.i64 (HPair.num p), V.str (HPair.text p)]) l))) (0 : Int))) (some { v := V.int IntKind.i64 (9 : Int), bx := [] : DRes }) (some { v := V.int IntKind.i64 (0 : Int), bx := [] : DRes })) (none)) (none))) (cond ((↑(List.length (List.map (fun p => [V.str (HPair.key p), V.int IntKind.u8 (HPair.kind p), V.int IntKind.i64 (HPair.num p), V.str (HPair.text p)]) l)) : Int) == (↑(List.length (List.map (fun p => [V.str (HPair.key p), V.int IntKind.u8 (HPair.kind p), V.int IntKind.i64 (HPair.num p), V.str (HPair.text p)]) l)) : Int)) (cond (Nat.ble (List.length (List.map (fun p => [V.str (HPair.key p), V.int IntKind.u8 (HPair.kind p), V.int IntKind.i64 (HPair.num p), V.str (HPair.text p)]) l)) (1000000 : Nat)) (cond (ile (0 : Int) (N.findIx (HPair.key p) (List.drop (0 : Nat) (List.map (fun r => { key := V.toStr (List.getD r (0 : Nat) V.undef), kind := V.toInt (List.getD r (1 : Nat) V.undef), num := V.toInt (List.getD r (2 : Nat) V.undef), text := V.toStr (List.getD r (3 : Nat) V.undef) : HPair }) (List.map (fun p => [V.str (HPair.key p), V.int IntKind.u8 (HPair.kind p), V.int IntKind.i64 (HPair.num p), V.str (HPair.text p)]) l))) (0 : Int))) (some { v := V.int IntKind.i64 (9 : Int), bx := [] : DRes }) (some { v := V.int IntKind.i64 (0 : Int), bx := [] : DRes })) (none)) (none)))) (cond (HPair.kind p != (1 : Int)) (cond (!HPair.text p == []) (some { v := V.int IntKind.i64 (4 : Int), bx := [] : DRes }) (cond ((↑(List.length (List.map (fun p => [V.str (HPair.key p), V.int IntKind.u8 (HPair.kind p), V.int IntKind.i64 (HPair.num p), V.str (HPair.text p)]) l)) : Int) == (↑(List.length (List.map (fun p => [V.str (HPair.key p), V.int IntKind.u8 (HPair.kind p), V.int IntKind.i64 (HPair.num p), V.str (HPair.text p)]) l)) : Int)) (cond (Nat.ble (List.length (List.map (fun p => [V.str (HPair.key p), V.int IntKind.u8 (HPair.kind p), V.int IntKind.i64 (HPair.num p), V.str (HPair.text p)]) l)) (1000000 : Nat)) (cond (ile (0 : Int) (N.findIx (HPair.key p) (List.drop (0 : Nat) (List.map (fun r => { key := V.toStr (List.getD r (0 : Nat) V.undef), kind := V.toInt (List.getD r (1 : Nat) V.undef), num := V.toInt (List.getD r (2 : Nat) V.undef), text := V.toStr (List.getD r (3 : Nat) V.undef) : HPair }) (List.map (fun p => [V.str (HPair.key p), V.int IntKind.u8 (HPair.kind p), V.int IntKind.i64 (HPair.num p), V.str (HPair.text p)]) l))) (0 : Int))) (some { v := V.int IntKind.i64 (9 : Int), bx := [] : DRes }) (some { v := V.int IntKind.i64 (0 : Int), bx := [] : DRes })) (none)) (none))) (cond ((↑(List.length (List.map (fun p => [V.str (HPair.key p), V.int IntKind.u8 (HPair.kind p), V.int IntKind.i64 (HPair.num p), V.str (HPair.text p)]) l)) : Int) == (↑(List.length (List.map (fun p => [V.str (HPair.key p), V.int IntKind.u8 (HPair.kind p), V.int IntKind.i64 (HPair.num p), V.str (HPair.text p)]) l)) : Int)) (cond (Nat.ble (List.length (List.map (fun p => [V.str (HPair.key p), V.int IntKind.u8 (HPair.kind p), V.int IntKind.i64 (HPair.num p), V.str (HPair.text p)]) l)) (1000000 : Nat)) (cond (ile (0 : Int) (N.findIx (HPair.key p) (List.drop (0 : Nat) (List.map (fun r => { key := V.toStr (List.getD r (0 : Nat) V.undef), kind := V.toInt (List.getD r (1 : Nat) V.undef), num := V.toInt (List.getD r (2 : Nat) V.undef), text := V.toStr (List.getD r (3 : Nat) V.undef) : HPair }) (List.map (fun p => [V.str (HPair.key p), V.int IntKind.u8 (HPair.kind p), V.int IntKind.i64 (HPair.num p), V.str (HPair.text p)]) l))) (0 : Int))) (some { v := V.int IntKind.i64 (9 : Int), bx := [] : DRes }) (some { v := V.int IntKind.i64 (0 : Int), bx := [] : DRes })) (none)) (none))))))) := by kernel_rfl
theorem q_refPairR (r57 : List (List V)) (i58 : Int) (i59 : Int) (sx0 : Bytes) (ix0 : Int) (ix0_1 : Int) (sx0_1 : Bytes) (K : Ex → St → Option R) : evRound eRefPair 79 13 { fr := [(2, .ptr 10000 0 0 0), (57, .slc [.str, .int .u8, .int .i64, .str] r57), (58, .int .i64 i58), (59, .int .i64 i59)], tab := [(10000, .var [.str sx0, .int .u8 ix0, .int .i64 ix0_1, .str sx0_1])] } K =
 cond (ilt i59 i58) (cond (decide ((0 : Int) ≤ i59 ∧ i59 < (↑(List.length r57) : Int))) (cond (V.toStr (List.getD (List.getD r57 (Int.toNat i59) []) (0 : Nat) V.undef) == sx0) (K Ex.ret { fr := [((4 : Nat), V.int IntKind.i64 (9 : Int))], tab := [] : St }) (K Ex.normal { fr := [((2 : Nat), V.ptr (10000 : Nat) (0 : Nat) (0 : Nat) (0 : Nat)), ((57 : Nat), V.slc [Sh.str, Sh.int IntKind.u8, Sh.int IntKind.i64, Sh.str] r57), ((58 : Nat), V.int IntKind.i64 i58), ((59 : Nat), V.int IntKind.i64 (IntKind.wrap IntKind.i64 (i59 + (1 : Int))))], tab := [((10000 : Nat), Box.var [V.str sx0, V.int IntKind.u8 ix0, V.int IntKind.i64 ix0_1, V.str sx0_1])] : St })) (none)) (K (Ex.exit (0 : Nat)) { fr := [], tab := [] : St }) := by kernel_rfl
theorem ok_refPair : FnOk Tryz.prog 79 dPairE := by
  refine den_okF (env_ok ((TOk.nil _).cons ok_refName)) (E := eRefPair) Tryz.func79 [13] (by kernel_rfl) (one1 (rounds_of rfl fun l K q h => ?_)) fun a _ h => ?_
  · unfold gRefPair at h
    split at h
    · rename_i r n i key x1 x2 x3
      have h1 := (cond_none h).1; replace h := (cond_none h).2; have h2 := (cond_none h).1; replace h := (cond_none h).2; have h3 := (cond_none h).1; replace h := (cond_none h).2
      have e1 := ieq_of h1
      subst e1
      have h3 : r.length ≤ 1000000 := ble_of h3
      refine loop_ind (E := eRefPair) (f := 79) (id := 13) (fun i : Int => { fr := [(2, .ptr 10000 0 0 0), (57, .slc [.str, .int .u8, .int .i64, .str] r), (58, .int .i64 r.length), (59, .int .i64 i)], tab := [(10000, .var [.str key, .int .u8 x1, .int .i64 x2, .str x3])] }) (fun i => 0 ≤ i) (fun i => r.length - i.toNat)
        (fun i K => cond (ile 0 (N.findIx key ((rowsP r).drop i.toNat) i)) (K .ret { fr := [(4, .int .i64 9)], tab := [] }) (K (.exit 0) { fr := [], tab := [] })) (fun i hi => ?_) i (ile_of h2) K q (by assumption)
      by_cases hl : i < r.length
      · rw [drop_pair (show i.toNat < r.length by omega)]
        have e : N.findIx key (rowP (r.getD i.toNat []) :: (rowsP r).drop (i.toNat + 1)) i = cond ((rowP (r.getD i.toNat [])).key == key) i (N.findIx key ((rowsP r).drop (i.toNat + 1)) (i + 1)) := rfl
        rw [e]
        cases hc : (rowP (r.getD i.toNat [])).key == key with
        | true =>
          rw [cond_true, ile_t hi]
          refine .inr ⟨.ret, { fr := [(4, .int .i64 9)], tab := [] }, by simp, fun K => ?_, fun K => rfl⟩
          rw [q_refPairR]
          unfold rowP at hc
          simp (disch := omega) only [evs, hc]
        | false =>
          refine .inl ⟨i + 1, by omega, by omega, fun K => ?_, fun K => ?_⟩
          · rw [q_refPairR]
            unfold rowP at hc
            simp (disch := omega) only [evs, hc]
          · rw [cond_false, show (i + 1).toNat = i.toNat + 1 by omega]
      · refine .inr ⟨.exit 0, { fr := [], tab := [] }, by simp, fun K => ?_, fun K => ?_⟩
        · rw [q_refPairR]
          simp (disch := omega) only [evs]
        · rw [List.drop_eq_nil_of_le (by rw [rowsP_length]; omega)]; rfl
    · cases h
  · obtain ⟨p, l⟩ := a
    have h : l.length ≤ 1000000 := ble_of h
    refine (q_refPair p l).trans ?_
    show _ = some (⟨.int .i64 (N.pairE p l), [], []⟩ : DRes)
    unfold N.pairE N.find
    have en : (cond (p.num != 0) (p.num != 1) false) = cond (ilt p.num 0) true (ilt 1 p.num) := by
      rcases (by omega : p.num < 0 ∨ p.num = 0 ∨ p.num = 1 ∨ 1 < p.num) with h | h | h | h
      · simp (disch := omega) only [evs]
      · rw [h]; rfl
      · rw [h]; rfl
      · simp (disch := omega) only [evs]
    have en' : cond (cond (p.kind == 2) (p.num != 0) false) (p.num != 1) false = cond (p.kind == 2) (cond (ilt p.num 0) true (ilt 1 p.num)) false := by
      rw [← en]; cases p.kind == 2 <;> rfl
    rw [en']
    have ef : (cond (ilt (N.findIx p.key l 0) 0) (pair0, false) (l.getD (N.findIx p.key l 0).toNat pair0, true)).2 = ile 0 (N.findIx p.key l 0) := by
      by_cases h : N.findIx p.key l 0 < 0
      · simp (disch := omega) only [evs]
      · simp (disch := omega) only [evs]
    rw [ef]
    simp (disch := omega) only [evs, pairs_enc, List.drop_zero, bne]
    cases hn : N.name p.key == 0 with
    | false => rfl
    | true =>
      cases ilt 2 p.kind with
      | true => rfl
      | false =>
        cases p.kind == 1 <;> cases ilt 64 p.text.length <;> cases p.kind == 2 <;> cases ilt p.num 0 <;> cases ilt 1 p.num <;> cases p.num == 0 <;> cases p.text == [] <;> cases ile 0 (N.findIx p.key l 0) <;> rfl
end Go.Ev

/- The document's function that checks heads answers what the plain one does: lemmas. -/
namespace Go.Ev
open Go Go.Proofs
set_option maxRecDepth 100000

def schRefCheck : SSch := { fr := [(0, .slc [.str, .int .u8, .int .i64, .str]), (9, .slc [.str, .int .u8, .int .i64, .str]), (10, .int .i64), (11, .int .i64)], tab := [] }
def gRefCheck : List Leaf → (Ex → St → Option R) → Option R
  | [.r r0, .r r9, .i i10, .i i11], K => cond (i10 == r9.length) (cond (Nat.beq r0.length r9.length) (cond (ile 0 i11) (cond (Nat.ble r0.length LIM) (cond (N.samePs (rowsP r0) (rowsP r9))
      (cond (N.checkFrom (rowsP r9) (r9.length - i11.toNat) i11 != 0) (K .ret { fr := [(2, .int .i64 (N.checkFrom (rowsP r9) (r9.length - i11.toNat) i11))], tab := [] }) (K (.exit 0) { fr := [], tab := [] })) none) none) none) none) none
  | _, _ => none
noncomputable def eRefCheck : Env := env Tryz.prog [(79, dPairE)] [(4, loopF schRefCheck gRefCheck)] [(4, [(0, [0, 9, 10, 11]), (1, []), (1000, [2])])]
theorem q_refCheck (h : List HPair) : evFn eRefCheck 34 ((aOne (vSl cPair)).enc h) ([]) some =
 cond (ilt (8 : Int) (↑(List.length (List.map (fun p => [V.str (HPair.key p), V.int IntKind.u8 (HPair.kind p), V.int IntKind.i64 (HPair.num p), V.str (HPair.text p)]) h)) : Int)) (some { v := V.int IntKind.i64 (6 : Int), bx := [] : DRes }) (cond ((↑(List.length (List.map (fun p => [V.str (HPair.key p), V.int IntKind.u8 (HPair.kind p), V.int IntKind.i64 (HPair.num p), V.str (HPair.text p)]) h)) : Int) == (↑(List.length (List.map (fun p => [V.str (HPair.key p), V.int IntKind.u8 (HPair.kind p), V.int IntKind.i64 (HPair.num p), V.str (HPair.text p)]) h)) : Int)) (cond (Nat.beq (List.length (List.map (fun p => [V.str (HPair.key p), V.int IntKind.u8 (HPair.kind p), V.int IntKind.i64 (HPair.num p), V.str (HPair.text p)]) h)) (List.length (List.map (fun p => [V.str (HPair.key p), V.int IntKind.u8 (HPair.kind p), V.int IntKind.i64 (HPair.num p), V.str (HPair.text p)]) h))) (cond (Nat.ble (List.length (List.map (fun p => [V.str (HPair.key p), V.int IntKind.u8 (HPair.kind p), V.int IntKind.i64 (HPair.num p), V.str (HPair.text p)]) h)) (1000000 : Nat)) (cond (N.samePs (List.map (fun r => { key := V.toStr (List.getD r (0 : Nat) V.undef), kind := V.toInt (List.getD r (1 : Nat) V.undef), num := V.toInt (List.getD r (2 : Nat) V.undef), text := V.toStr (List.getD r (3 : Nat) V.undef) : HPair }) (List.map (fun p => [V.str (HPair.key p), V.int IntKind.u8 (HPair.kind p), V.int IntKind.i64 (HPair.num p), V.str (HPair.text p)]) h)) (List.map (fun r => { key := V.toStr (List.getD r (0 : Nat) V.undef), kind := V.toInt (List.getD r (1 : Nat) V.undef), num := V.toInt (List.getD r (2 : Nat) V.undef), text := V.toStr (List.getD r (3 : Nat) V.undef) : HPair }) (List.map (fun p => [V.str (HPair.key p), V.int IntKind.u8 (HPair.kind p), V.int IntKind.i64 (HPair.num p), V.str (HPair.text p)]) h))) (cond (N.checkFrom (List.map (fun r => { key := V.toStr (List.getD r (0 : Nat) V.undef), kind := V.toInt (List.getD r (1 : Nat) V.undef), num := V.toInt (List.getD r (2 : Nat) V.undef), text := V.toStr (List.getD r (3 : Nat) V.undef) : HPair }) (List.map (fun p => [V.str (HPair.key p), V.int IntKind.u8 (HPair.kind p), V.int IntKind.i64 (HPair.num p), V.str (HPair.text p)]) h)) (List.length (List.map (fun p => [V.str (HPair.key p), V.int IntKind.u8 (HPair.kind p), V.int IntKind.i64 (HPair.num p), V.str (HPair.text p)]) h) - (0 : Nat)) (0 : Int) != (0 : Int)) (some { v := V.int IntKind.i64 (N.checkFrom (List.map (fun r => { key := V.toStr (List.getD r (0 : Nat) V.undef), kind := V.toInt (List.getD r (1 : Nat) V.undef), num := V.toInt (List.getD r (2 : Nat) V.undef), text := V.toStr (List.getD r (3 : Nat) V.undef) : HPair }) (List.map (fun p => [V.str (HPair.key p), V.int IntKind.u8 (HPair.kind p), V.int IntKind.i64 (HPair.num p), V.str (HPair.text p)]) h)) (List.length (List.map (fun p => [V.str (HPair.key p), V.int IntKind.u8 (HPair.kind p), V.int IntKind.i64 (HPair.num p), V.str (HPair.text p)]) h) - (0 : Nat)) (0 : Int)), bx := [] : DRes }) (some { v := V.int IntKind.i64 (0 : Int), bx := [] : DRes })) (none)) (none)) (none)) (none)) := by kernel_rfl
theorem q_refCheckR (r0 : List (List V)) (r9 : List (List V)) (i11 : Int) (K : Ex → St → Option R) : evRound eRefCheck 34 4 { fr := [(0, .slc [.str, .int .u8, .int .i64, .str] r0), (9, .slc [.str, .int .u8, .int .i64, .str] r9), (10, .int .i64 r9.length), (11, .int .i64 i11)], tab := [] } K =
 cond (ilt i11 (↑(List.length r9) : Int)) (cond (decide ((0 : Int) ≤ i11 ∧ i11 < (↑(List.length r9) : Int))) (cond (decide ((0 : Int) ≤ i11 ∧ i11 ≤ (↑(List.length r0) : Int))) (cond (Nat.ble (List.length (List.map (fun r => { key := V.toStr (List.getD r (0 : Nat) V.undef), kind := V.toInt (List.getD r (1 : Nat) V.undef), num := V.toInt (List.getD r (2 : Nat) V.undef), text := V.toStr (List.getD r (3 : Nat) V.undef) : HPair }) (List.drop (0 : Nat) (List.take (Int.toNat i11) r0)))) (1000000 : Nat)) (cond (N.pairE { key := V.toStr (List.getD (List.getD r9 (Int.toNat i11) []) (0 : Nat) V.undef), kind := V.toInt (List.getD (List.getD r9 (Int.toNat i11) []) (1 : Nat) V.undef), num := V.toInt (List.getD (List.getD r9 (Int.toNat i11) []) (2 : Nat) V.undef), text := V.toStr (List.getD (List.getD r9 (Int.toNat i11) []) (3 : Nat) V.undef) : HPair } (List.map (fun r => { key := V.toStr (List.getD r (0 : Nat) V.undef), kind := V.toInt (List.getD r (1 : Nat) V.undef), num := V.toInt (List.getD r (2 : Nat) V.undef), text := V.toStr (List.getD r (3 : Nat) V.undef) : HPair }) (List.drop (0 : Nat) (List.take (Int.toNat i11) r0))) != (0 : Int)) (K Ex.ret { fr := [((2 : Nat), V.int IntKind.i64 (N.pairE { key := V.toStr (List.getD (List.getD r9 (Int.toNat i11) []) (0 : Nat) V.undef), kind := V.toInt (List.getD (List.getD r9 (Int.toNat i11) []) (1 : Nat) V.undef), num := V.toInt (List.getD (List.getD r9 (Int.toNat i11) []) (2 : Nat) V.undef), text := V.toStr (List.getD (List.getD r9 (Int.toNat i11) []) (3 : Nat) V.undef) : HPair } (List.map (fun r => { key := V.toStr (List.getD r (0 : Nat) V.undef), kind := V.toInt (List.getD r (1 : Nat) V.undef), num := V.toInt (List.getD r (2 : Nat) V.undef), text := V.toStr (List.getD r (3 : Nat) V.undef) : HPair }) (List.drop (0 : Nat) (List.take (Int.toNat i11) r0)))))], tab := [] : St }) (K Ex.normal { fr := [((0 : Nat), V.slc [Sh.str, Sh.int IntKind.u8, Sh.int IntKind.i64, Sh.str] r0), ((9 : Nat), V.slc [Sh.str, Sh.int IntKind.u8, Sh.int IntKind.i64, Sh.str] r9), ((10 : Nat), V.int IntKind.i64 (↑(List.length r9) : Int)), ((11 : Nat), V.int IntKind.i64 (IntKind.wrap IntKind.i64 (i11 + (1 : Int))))], tab := [] : St })) (none)) (none)) (none)) (K (Ex.exit (0 : Nat)) { fr := [], tab := [] : St }) := by kernel_rfl
theorem ok_refCheck : FnOk Tryz.prog 34 dHeadCheck := by
  refine den_okF (env_ok ((TOk.nil _).cons ok_refPair)) (E := eRefCheck) Tryz.func34 [4] (by kernel_rfl) (one1 (rounds_of rfl fun l K q h => ?_)) fun h _ _ => ?_
  · unfold gRefCheck at h
    split at h
    · rename_i r0 r n i
      have h1 := (cond_none h).1; replace h := (cond_none h).2; have h2 := (cond_none h).1; replace h := (cond_none h).2; have h3 := (cond_none h).1; replace h := (cond_none h).2; have h4 := (cond_none h).1; replace h := (cond_none h).2; have h5 := (cond_none h).1; replace h := (cond_none h).2
      have e1 := ieq_of h1
      subst e1
      have h2 := Nat.eq_of_beq_eq_true h2
      have h4 : r0.length ≤ 1000000 := ble_of h4
      have h5 := samePs_eq h5
      refine loop_ind (E := eRefCheck) (f := 34) (id := 4) (fun i : Int => { fr := [(0, .slc [.str, .int .u8, .int .i64, .str] r0), (9, .slc [.str, .int .u8, .int .i64, .str] r), (10, .int .i64 r.length), (11, .int .i64 i)], tab := [] }) (fun i => 0 ≤ i) (fun i => r.length - i.toNat)
        (fun i11 K => cond (N.checkFrom (rowsP r) (r.length - i11.toNat) i11 != 0) (K .ret { fr := [(2, .int .i64 (N.checkFrom (rowsP r) (r.length - i11.toNat) i11))], tab := [] }) (K (.exit 0) { fr := [], tab := [] })) (fun i hi => ?_) i (ile_of h3) K q (by assumption)
      by_cases hl : i < r.length
      · have e : N.checkFrom (rowsP r) (r.length - i.toNat) i = cond (N.pairE (rowP (r.getD i.toNat [])) ((rowsP r).take i.toNat) != 0) (N.pairE (rowP (r.getD i.toNat [])) ((rowsP r).take i.toNat)) (N.checkFrom (rowsP r) (r.length - (i + 1).toNat) (i + 1)) := by
          rw [show r.length - i.toNat = (r.length - (i + 1).toNat) + 1 by omega, N.checkFrom, rowsP_getD]
        rw [e]
        have hm : List.map rowP (List.take i.toNat r0) = (rowsP r).take i.toNat := by rw [← h5, rowsP, List.map_take]
        unfold rowP at hm
        cases hc : N.pairE (rowP (r.getD i.toNat [])) ((rowsP r).take i.toNat) != 0 with
        | true =>
          rw [cond_true, hc]
          refine .inr ⟨.ret, _, by simp, fun K => ?_, fun K => rfl⟩
          rw [q_refCheckR]
          unfold rowP at hc
          simp (disch := omega) only [evs, hc, hm, List.length_take, List.drop_zero]
          rfl
        | false =>
          refine .inl ⟨i + 1, by omega, by omega, fun K => ?_, fun K => ?_⟩
          · rw [q_refCheckR]
            unfold rowP at hc
            simp (disch := omega) only [evs, hc, hm, List.length_take, List.drop_zero]
          · rw [cond_false]
      · refine .inr ⟨.exit 0, { fr := [], tab := [] }, by simp, fun K => ?_, fun K => ?_⟩
        · rw [q_refCheckR]
          simp (disch := omega) only [evs]
        · rw [show r.length - i.toNat = 0 by omega]; rfl
    · cases h
  · refine (q_refCheck h).trans ?_
    show _ = some (⟨.int .i64 (N.headCheck h), [], []⟩ : DRes)
    unfold N.headCheck
    by_cases hl : 8 < h.length
    · simp (disch := omega) only [evs]
    · simp (disch := omega) only [evs, pairs_enc, samePs_refl, Nat.sub_zero]
      cases hc : N.checkFrom h h.length 0 != 0 with
      | true => rfl
      | false =>
        have : N.checkFrom h h.length 0 = 0 := by simpa using hc
        rw [this]; rfl
end Go.Ev

/- The functions on rules answer what the plain ones do: lemmas, no condition. -/
namespace Go.Ev
open Go Go.Proofs
set_option maxRecDepth 100000

end Go.Ev

/- The document's function that reads heads answers what the plain one does: lemmas. -/
namespace Go.Ev
open Go Go.Proofs
set_option maxRecDepth 100000

end Go.Ev

/- What the statement on same heads reckons: lemmas; the function that writes numbers is a premise. -/
namespace Go.Ev
open Go Go.Proofs
set_option maxRecDepth 100000

noncomputable def eAw4' : Env := env Tryz.prog [(123, dTrueW)] [] []
theorem q_aw4'  : evFn eAw4' 75 [] [] some =
 some { v := V.bool true, bx := [] : DRes } := by kernel_rfl
theorem ok_aw4' : FnOk Tryz.prog 75 dTrue := den_okF (env_ok ((TOk.nil _).cons ok_awW)) (E := eAw4') Tryz.func75 [] (by kernel_rfl) none0 fun _ _ _ => q_aw4'
noncomputable def eAw9 : Env := env Tryz.prog [(157, dHeadBytes), (173, dTrue), (75, dTrue)] [] []
theorem q_aw9  : evFn eAw9 162 [] [] some =
 some { v := V.bool true, bx := [] : DRes } := by kernel_rfl
theorem ok_aw9 (hN : FnOk Tryz.prog 158 dOutNum) : FnOk Tryz.prog 162 dTrue :=
  den_okF (env_ok ((((TOk.nil _).cons ok_aw4').cons (ok_aw1' hN)).cons (ok_headBytes hN))) (E := eAw9) Tryz.func162 [] (by kernel_rfl) none0 fun _ _ _ => q_aw9
theorem light_small {h : List HPair} (hl : N.light h = true) : h.length ≤ 12 := by
  unfold N.light at hl
  cases e : ilt 12 h.length with
  | true => rw [e] at hl; cases hl
  | false => have := ilt_nof e; omega
end Go.Ev

/- What was written is read again: lemmas on the plain functions. -/
namespace Go.Ev
open Go

end Go.Ev

/- The document's functions that write heads answer what the plain ones do: lemmas; its function that writes numbers is a premise. -/
namespace Go.Ev
open Go Go.Proofs
set_option maxRecDepth 100000

namespace N
end N
end Go.Ev

/- The document's function that writes numbers answers what the plain one does: lemmas, no condition. -/
namespace Go.Ev
open Go Go.Proofs
set_option maxRecDepth 100000

end Go.Ev

/- The functions on messages answer what the plain ones do: lemmas; the function that writes numbers is a premise. -/
namespace Go.Ev
open Go Go.Proofs
set_option maxRecDepth 100000

noncomputable def eClone : Env := env Tryz.prog [] [] []
theorem q_clone (l : List HPair) : evFn eClone 143 ((aOne (vSl cPair)).enc l) ([]) some =
 cond (!Nat.beq (List.length (List.map (fun p => [V.str (HPair.key p), V.int IntKind.u8 (HPair.kind p), V.int IntKind.i64 (HPair.num p), V.str (HPair.text p)]) l)) (0 : Nat)) (cond (Nat.beq (List.length (List.map (fun p => [V.str (HPair.key p), V.int IntKind.u8 (HPair.kind p), V.int IntKind.i64 (HPair.num p), V.str (HPair.text p)]) l)) (0 : Nat)) (some { v := V.slc [Sh.str, Sh.int IntKind.u8, Sh.int IntKind.i64, Sh.str] [], bx := [] : DRes }) (cond (decide (List.length (List.map (fun p => [V.str (HPair.key p), V.int IntKind.u8 (HPair.kind p), V.int IntKind.i64 (HPair.num p), V.str (HPair.text p)]) l) * (48 : Nat) ≤ (140737488355328 : Nat))) (some { v := V.slc [Sh.str, Sh.int IntKind.u8, Sh.int IntKind.i64, Sh.str] (List.map (fun p => [V.str (HPair.key p), V.int IntKind.u8 (HPair.kind p), V.int IntKind.i64 (HPair.num p), V.str (HPair.text p)]) l), bx := [] : DRes }) (none))) (none) := by kernel_rfl
theorem q_cloneN  : evFn eClone 143 [.nils [.str, .int .u8, .int .i64, .str]] ([]) some =
 some { v := V.slc [Sh.str, Sh.int IntKind.u8, Sh.int IntKind.i64, Sh.str] [], bx := [] : DRes } := by kernel_rfl
theorem q_cloneE  : evFn eClone 143 [.nn [.str, .int .u8, .int .i64, .str]] ([]) some =
 some { v := V.slc [Sh.str, Sh.int IntKind.u8, Sh.int IntKind.i64, Sh.str] [], bx := [] : DRes } := by kernel_rfl
theorem ok_clone : FnOk Tryz.prog 143 dClone := by
  refine den_of fun l b h => ?_
  have h : l.length ≤ 1000000 := ble_of h
  have fo := fun a r => fn_okF (E := eClone) (env_ok (TOk.nil _)) Tryz.func143 [] (by kernel_rfl) none0 a [] r
  cases l with
  | nil => exact FnOk.empty (fo _ _ q_cloneN) (fo _ _ q_cloneE)
  | cons p r =>
    refine fo _ _ ((q_clone (p :: r)).trans ?_)
    show _ = some (⟨.slc [.str, .int .u8, .int .i64, .str] ((p :: r).map fun p => [V.str p.key, V.int .u8 p.kind, V.int .i64 p.num, V.str p.text]), [], []⟩ : DRes)
    rw [show Nat.beq (List.length ((p :: r).map fun p => [V.str p.key, V.int .u8 p.kind, V.int .i64 p.num, V.str p.text])) 0 = false from rfl]
    simp (disch := omega) only [evs, Bool.not_false]
noncomputable def eMailCopy : Env := env Tryz.prog [(143, dClone)] [] []
theorem q_mailCopy (m : HMail) : evFn eMailCopy 107 ((aOne (vAgg cMail)).enc m) ([]) some =
 cond (Nat.ble (List.length (List.map (fun r => { key := V.toStr (List.getD r (0 : Nat) V.undef), kind := V.toInt (List.getD r (1 : Nat) V.undef), num := V.toInt (List.getD r (2 : Nat) V.undef), text := V.toStr (List.getD r (3 : Nat) V.undef) : HPair }) (List.map (fun p => [V.str (HPair.key p), V.int IntKind.u8 (HPair.kind p), V.int IntKind.i64 (HPair.num p), V.str (HPair.text p)]) (HMail.head m)))) (1000000 : Nat)) (some { v := V.agg [V.int IntKind.u64 (HMail.id m), V.str (HMail.shop m), V.str (HMail.key m), V.slc [Sh.str, Sh.int IntKind.u8, Sh.int IntKind.i64, Sh.str] (List.map (fun p => [V.str (HPair.key p), V.int IntKind.u8 (HPair.kind p), V.int IntKind.i64 (HPair.num p), V.str (HPair.text p)]) (List.map (fun r => { key := V.toStr (List.getD r (0 : Nat) V.undef), kind := V.toInt (List.getD r (1 : Nat) V.undef), num := V.toInt (List.getD r (2 : Nat) V.undef), text := V.toStr (List.getD r (3 : Nat) V.undef) : HPair }) (List.map (fun p => [V.str (HPair.key p), V.int IntKind.u8 (HPair.kind p), V.int IntKind.i64 (HPair.num p), V.str (HPair.text p)]) (HMail.head m)))), V.str (HMail.body m), V.int IntKind.u64 (HMail.due m), V.int IntKind.u8 (HMail.hops m)], bx := [] : DRes }) (none) := by kernel_rfl
theorem ok_mailCopy : FnOk Tryz.prog 107 dMailCopy := by
  refine den_okF (env_ok ((TOk.nil _).cons ok_clone)) (E := eMailCopy) Tryz.func107 [] (by kernel_rfl) none0 fun m _ h => ?_
  have h : m.head.length ≤ 1000000 := ble_of h
  refine (q_mailCopy m).trans ?_
  simp (disch := omega) only [evs, pairs_enc]
  rfl
noncomputable def eMailCheck : Env := env Tryz.prog [(118, dName), (149, dKey), (151, dHeadCheck)] [] []
theorem q_mailCheck (m : HMail) : evFn eMailCheck 144 ((aOne (vAgg cMail)).enc m) ([]) some =
 cond (N.name (HMail.shop m) != (0 : Int)) (some { v := V.int IntKind.i64 (N.name (HMail.shop m)), bx := [] : DRes }) (cond (N.key (HMail.key m) [] != (0 : Int)) (some { v := V.int IntKind.i64 (N.key (HMail.key m) []), bx := [] : DRes }) (cond (N.headCheck (List.map (fun r => { key := V.toStr (List.getD r (0 : Nat) V.undef), kind := V.toInt (List.getD r (1 : Nat) V.undef), num := V.toInt (List.getD r (2 : Nat) V.undef), text := V.toStr (List.getD r (3 : Nat) V.undef) : HPair }) (List.map (fun p => [V.str (HPair.key p), V.int IntKind.u8 (HPair.kind p), V.int IntKind.i64 (HPair.num p), V.str (HPair.text p)]) (HMail.head m))) != (0 : Int)) (some { v := V.int IntKind.i64 (N.headCheck (List.map (fun r => { key := V.toStr (List.getD r (0 : Nat) V.undef), kind := V.toInt (List.getD r (1 : Nat) V.undef), num := V.toInt (List.getD r (2 : Nat) V.undef), text := V.toStr (List.getD r (3 : Nat) V.undef) : HPair }) (List.map (fun p => [V.str (HPair.key p), V.int IntKind.u8 (HPair.kind p), V.int IntKind.i64 (HPair.num p), V.str (HPair.text p)]) (HMail.head m)))), bx := [] : DRes }) (cond (ilt (256 : Int) (↑(List.length (HMail.body m)) : Int)) (some { v := V.int IntKind.i64 (5 : Int), bx := [] : DRes }) (cond (ilt (4 : Int) (HMail.hops m)) (some { v := V.int IntKind.i64 (7 : Int), bx := [] : DRes }) (some { v := V.int IntKind.i64 (0 : Int), bx := [] : DRes }))))) := by kernel_rfl
noncomputable def eRefMailCheck : Env := env Tryz.prog [(125, dName), (32, dRefKey), (34, dHeadCheck)] [] []
theorem q_refMailCheck (m : HMail) : evFn eRefMailCheck 111 ((aOne (vAgg cMail)).enc m) ([]) some =
 cond (N.name (HMail.shop m) == (0 : Int)) (cond (N.refKey (HMail.key m) false == (0 : Int)) (cond (N.headCheck (List.map (fun r => { key := V.toStr (List.getD r (0 : Nat) V.undef), kind := V.toInt (List.getD r (1 : Nat) V.undef), num := V.toInt (List.getD r (2 : Nat) V.undef), text := V.toStr (List.getD r (3 : Nat) V.undef) : HPair }) (List.map (fun p => [V.str (HPair.key p), V.int IntKind.u8 (HPair.kind p), V.int IntKind.i64 (HPair.num p), V.str (HPair.text p)]) (HMail.head m))) == (0 : Int)) (cond (ilt (256 : Int) (↑(List.length (HMail.body m)) : Int)) (some { v := V.int IntKind.i64 (5 : Int), bx := [] : DRes }) (cond (N.headCheck (List.map (fun r => { key := V.toStr (List.getD r (0 : Nat) V.undef), kind := V.toInt (List.getD r (1 : Nat) V.undef), num := V.toInt (List.getD r (2 : Nat) V.undef), text := V.toStr (List.getD r (3 : Nat) V.undef) : HPair }) (List.map (fun p => [V.str (HPair.key p), V.int IntKind.u8 (HPair.kind p), V.int IntKind.i64 (HPair.num p), V.str (HPair.text p)]) (HMail.head m))) == (0 : Int)) (cond (ilt (4 : Int) (HMail.hops m)) (some { v := V.int IntKind.i64 (7 : Int), bx := [] : DRes }) (some { v := V.int IntKind.i64 (N.headCheck (List.map (fun r => { key := V.toStr (List.getD r (0 : Nat) V.undef), kind := V.toInt (List.getD r (1 : Nat) V.undef), num := V.toInt (List.getD r (2 : Nat) V.undef), text := V.toStr (List.getD r (3 : Nat) V.undef) : HPair }) (List.map (fun p => [V.str (HPair.key p), V.int IntKind.u8 (HPair.kind p), V.int IntKind.i64 (HPair.num p), V.str (HPair.text p)]) (HMail.head m)))), bx := [] : DRes })) (some { v := V.int IntKind.i64 (N.headCheck (List.map (fun r => { key := V.toStr (List.getD r (0 : Nat) V.undef), kind := V.toInt (List.getD r (1 : Nat) V.undef), num := V.toInt (List.getD r (2 : Nat) V.undef), text := V.toStr (List.getD r (3 : Nat) V.undef) : HPair }) (List.map (fun p => [V.str (HPair.key p), V.int IntKind.u8 (HPair.kind p), V.int IntKind.i64 (HPair.num p), V.str (HPair.text p)]) (HMail.head m)))), bx := [] : DRes }))) (cond (N.headCheck (List.map (fun r => { key := V.toStr (List.getD r (0 : Nat) V.undef), kind := V.toInt (List.getD r (1 : Nat) V.undef), num := V.toInt (List.getD r (2 : Nat) V.undef), text := V.toStr (List.getD r (3 : Nat) V.undef) : HPair }) (List.map (fun p => [V.str (HPair.key p), V.int IntKind.u8 (HPair.kind p), V.int IntKind.i64 (HPair.num p), V.str (HPair.text p)]) (HMail.head m))) == (0 : Int)) (cond (ilt (4 : Int) (HMail.hops m)) (some { v := V.int IntKind.i64 (7 : Int), bx := [] : DRes }) (some { v := V.int IntKind.i64 (N.headCheck (List.map (fun r => { key := V.toStr (List.getD r (0 : Nat) V.undef), kind := V.toInt (List.getD r (1 : Nat) V.undef), num := V.toInt (List.getD r (2 : Nat) V.undef), text := V.toStr (List.getD r (3 : Nat) V.undef) : HPair }) (List.map (fun p => [V.str (HPair.key p), V.int IntKind.u8 (HPair.kind p), V.int IntKind.i64 (HPair.num p), V.str (HPair.text p)]) (HMail.head m)))), bx := [] : DRes })) (some { v := V.int IntKind.i64 (N.headCheck (List.map (fun r => { key := V.toStr (List.getD r (0 : Nat) V.undef), kind := V.toInt (List.getD r (1 : Nat) V.undef), num := V.toInt (List.getD r (2 : Nat) V.undef), text := V.toStr (List.getD r (3 : Nat) V.undef) : HPair }) (List.map (fun p => [V.str (HPair.key p), V.int IntKind.u8 (HPair.kind p), V.int IntKind.i64 (HPair.num p), V.str (HPair.text p)]) (HMail.head m)))), bx := [] : DRes }))) (cond (N.refKey (HMail.key m) false == (0 : Int)) (cond (ilt (256 : Int) (↑(List.length (HMail.body m)) : Int)) (some { v := V.int IntKind.i64 (5 : Int), bx := [] : DRes }) (cond (N.refKey (HMail.key m) false == (0 : Int)) (cond (ilt (4 : Int) (HMail.hops m)) (some { v := V.int IntKind.i64 (7 : Int), bx := [] : DRes }) (some { v := V.int IntKind.i64 (N.refKey (HMail.key m) false), bx := [] : DRes })) (some { v := V.int IntKind.i64 (N.refKey (HMail.key m) false), bx := [] : DRes }))) (cond (N.refKey (HMail.key m) false == (0 : Int)) (cond (ilt (4 : Int) (HMail.hops m)) (some { v := V.int IntKind.i64 (7 : Int), bx := [] : DRes }) (some { v := V.int IntKind.i64 (N.refKey (HMail.key m) false), bx := [] : DRes })) (some { v := V.int IntKind.i64 (N.refKey (HMail.key m) false), bx := [] : DRes })))) (cond (N.name (HMail.shop m) == (0 : Int)) (cond (N.headCheck (List.map (fun r => { key := V.toStr (List.getD r (0 : Nat) V.undef), kind := V.toInt (List.getD r (1 : Nat) V.undef), num := V.toInt (List.getD r (2 : Nat) V.undef), text := V.toStr (List.getD r (3 : Nat) V.undef) : HPair }) (List.map (fun p => [V.str (HPair.key p), V.int IntKind.u8 (HPair.kind p), V.int IntKind.i64 (HPair.num p), V.str (HPair.text p)]) (HMail.head m))) == (0 : Int)) (cond (ilt (256 : Int) (↑(List.length (HMail.body m)) : Int)) (some { v := V.int IntKind.i64 (5 : Int), bx := [] : DRes }) (cond (N.headCheck (List.map (fun r => { key := V.toStr (List.getD r (0 : Nat) V.undef), kind := V.toInt (List.getD r (1 : Nat) V.undef), num := V.toInt (List.getD r (2 : Nat) V.undef), text := V.toStr (List.getD r (3 : Nat) V.undef) : HPair }) (List.map (fun p => [V.str (HPair.key p), V.int IntKind.u8 (HPair.kind p), V.int IntKind.i64 (HPair.num p), V.str (HPair.text p)]) (HMail.head m))) == (0 : Int)) (cond (ilt (4 : Int) (HMail.hops m)) (some { v := V.int IntKind.i64 (7 : Int), bx := [] : DRes }) (some { v := V.int IntKind.i64 (N.headCheck (List.map (fun r => { key := V.toStr (List.getD r (0 : Nat) V.undef), kind := V.toInt (List.getD r (1 : Nat) V.undef), num := V.toInt (List.getD r (2 : Nat) V.undef), text := V.toStr (List.getD r (3 : Nat) V.undef) : HPair }) (List.map (fun p => [V.str (HPair.key p), V.int IntKind.u8 (HPair.kind p), V.int IntKind.i64 (HPair.num p), V.str (HPair.text p)]) (HMail.head m)))), bx := [] : DRes })) (some { v := V.int IntKind.i64 (N.headCheck (List.map (fun r => { key := V.toStr (List.getD r (0 : Nat) V.undef), kind := V.toInt (List.getD r (1 : Nat) V.undef), num := V.toInt (List.getD r (2 : Nat) V.undef), text := V.toStr (List.getD r (3 : Nat) V.undef) : HPair }) (List.map (fun p => [V.str (HPair.key p), V.int IntKind.u8 (HPair.kind p), V.int IntKind.i64 (HPair.num p), V.str (HPair.text p)]) (HMail.head m)))), bx := [] : DRes }))) (cond (N.headCheck (List.map (fun r => { key := V.toStr (List.getD r (0 : Nat) V.undef), kind := V.toInt (List.getD r (1 : Nat) V.undef), num := V.toInt (List.getD r (2 : Nat) V.undef), text := V.toStr (List.getD r (3 : Nat) V.undef) : HPair }) (List.map (fun p => [V.str (HPair.key p), V.int IntKind.u8 (HPair.kind p), V.int IntKind.i64 (HPair.num p), V.str (HPair.text p)]) (HMail.head m))) == (0 : Int)) (cond (ilt (4 : Int) (HMail.hops m)) (some { v := V.int IntKind.i64 (7 : Int), bx := [] : DRes }) (some { v := V.int IntKind.i64 (N.headCheck (List.map (fun r => { key := V.toStr (List.getD r (0 : Nat) V.undef), kind := V.toInt (List.getD r (1 : Nat) V.undef), num := V.toInt (List.getD r (2 : Nat) V.undef), text := V.toStr (List.getD r (3 : Nat) V.undef) : HPair }) (List.map (fun p => [V.str (HPair.key p), V.int IntKind.u8 (HPair.kind p), V.int IntKind.i64 (HPair.num p), V.str (HPair.text p)]) (HMail.head m)))), bx := [] : DRes })) (some { v := V.int IntKind.i64 (N.headCheck (List.map (fun r => { key := V.toStr (List.getD r (0 : Nat) V.undef), kind := V.toInt (List.getD r (1 : Nat) V.undef), num := V.toInt (List.getD r (2 : Nat) V.undef), text := V.toStr (List.getD r (3 : Nat) V.undef) : HPair }) (List.map (fun p => [V.str (HPair.key p), V.int IntKind.u8 (HPair.kind p), V.int IntKind.i64 (HPair.num p), V.str (HPair.text p)]) (HMail.head m)))), bx := [] : DRes }))) (cond (N.name (HMail.shop m) == (0 : Int)) (cond (ilt (256 : Int) (↑(List.length (HMail.body m)) : Int)) (some { v := V.int IntKind.i64 (5 : Int), bx := [] : DRes }) (cond (N.name (HMail.shop m) == (0 : Int)) (cond (ilt (4 : Int) (HMail.hops m)) (some { v := V.int IntKind.i64 (7 : Int), bx := [] : DRes }) (some { v := V.int IntKind.i64 (N.name (HMail.shop m)), bx := [] : DRes })) (some { v := V.int IntKind.i64 (N.name (HMail.shop m)), bx := [] : DRes }))) (cond (N.name (HMail.shop m) == (0 : Int)) (cond (ilt (4 : Int) (HMail.hops m)) (some { v := V.int IntKind.i64 (7 : Int), bx := [] : DRes }) (some { v := V.int IntKind.i64 (N.name (HMail.shop m)), bx := [] : DRes })) (some { v := V.int IntKind.i64 (N.name (HMail.shop m)), bx := [] : DRes })))) := by kernel_rfl
theorem ok_mailCheck : FnOk Tryz.prog 144 dMailCheck := by
  refine den_okF (env_ok ((((TOk.nil _).cons ok_headCheck).cons ok_key).cons ok_name)) (E := eMailCheck) Tryz.func144 [] (by kernel_rfl) none0 fun m _ _ => ?_
  refine (q_mailCheck m).trans ?_
  show _ = some (⟨.int .i64 (N.mailCheck m), [], []⟩ : DRes)
  unfold N.mailCheck
  simp only [pairs_enc]
  cases h1 : N.name m.shop != 0 <;> cases h2 : N.key m.key [] != 0 <;> cases h3 : N.headCheck m.head != 0 <;> cases h4 : ilt 256 (m.body.length : Int) <;> cases h5 : ilt 4 m.hops <;> simp only [cond_true, cond_false]
theorem ok_refMailCheck : FnOk Tryz.prog 111 dMailCheck := by
  refine den_okF (env_ok ((((TOk.nil _).cons ok_refCheck).cons ok_refKey).cons ok_refName)) (E := eRefMailCheck) Tryz.func111 [] (by kernel_rfl) none0 fun m _ _ => ?_
  refine (q_refMailCheck m).trans ?_
  show _ = some (⟨.int .i64 (N.mailCheck m), [], []⟩ : DRes)
  unfold N.mailCheck
  simp only [pairs_enc, key_eq, bne]
  cases h1 : N.name m.shop == 0 with
  | false => simp only [Bool.not_false, cond_true, cond_false]
  | true =>
    cases h2 : N.refKey m.key false == 0 with
    | false => simp only [Bool.not_false, Bool.not_true, cond_true, cond_false]
    | true =>
      cases h3 : N.headCheck m.head == 0 with
      | false => simp only [Bool.not_false, Bool.not_true, cond_true, cond_false]
      | true =>
        have e3 := ieq_of h3
        rw [e3]
        cases h4 : ilt 256 (m.body.length : Int) <;> cases h5 : ilt 4 m.hops <;> first | rfl | simp only [Bool.not_false, Bool.not_true, cond_true, cond_false, h3, h4, h5]
noncomputable def eRefMailSame : Env := env Tryz.prog [(59, dSameP)] [] []
theorem q_refMailSame (a b : HMail) : evFn eRefMailSame 20 ((aCons (vAgg cMail) (aOne (vAgg cMail))).enc (a, b)) ([]) some =
 cond (HMail.id a == HMail.id b) (cond (HMail.shop a == HMail.shop b) (cond (HMail.key a == HMail.key b) (cond (Nat.ble (List.length (List.map (fun r => { key := V.toStr (List.getD r (0 : Nat) V.undef), kind := V.toInt (List.getD r (1 : Nat) V.undef), num := V.toInt (List.getD r (2 : Nat) V.undef), text := V.toStr (List.getD r (3 : Nat) V.undef) : HPair }) (List.map (fun p => [V.str (HPair.key p), V.int IntKind.u8 (HPair.kind p), V.int IntKind.i64 (HPair.num p), V.str (HPair.text p)]) (HMail.head a)))) (1000000 : Nat)) (cond (N.samePs (List.map (fun r => { key := V.toStr (List.getD r (0 : Nat) V.undef), kind := V.toInt (List.getD r (1 : Nat) V.undef), num := V.toInt (List.getD r (2 : Nat) V.undef), text := V.toStr (List.getD r (3 : Nat) V.undef) : HPair }) (List.map (fun p => [V.str (HPair.key p), V.int IntKind.u8 (HPair.kind p), V.int IntKind.i64 (HPair.num p), V.str (HPair.text p)]) (HMail.head a))) (List.map (fun r => { key := V.toStr (List.getD r (0 : Nat) V.undef), kind := V.toInt (List.getD r (1 : Nat) V.undef), num := V.toInt (List.getD r (2 : Nat) V.undef), text := V.toStr (List.getD r (3 : Nat) V.undef) : HPair }) (List.map (fun p => [V.str (HPair.key p), V.int IntKind.u8 (HPair.kind p), V.int IntKind.i64 (HPair.num p), V.str (HPair.text p)]) (HMail.head b)))) (cond (HMail.body a == HMail.body b) (cond (HMail.due a == HMail.due b) (some { v := V.bool (HMail.hops a == HMail.hops b), bx := [] : DRes }) (some { v := V.bool false, bx := [] : DRes })) (some { v := V.bool false, bx := [] : DRes })) (some { v := V.bool false, bx := [] : DRes })) (none)) (some { v := V.bool false, bx := [] : DRes })) (some { v := V.bool false, bx := [] : DRes })) (some { v := V.bool false, bx := [] : DRes }) := by kernel_rfl
theorem ok_refMailSame : FnOk Tryz.prog 20 dMailSame := by
  refine den_okF (env_ok ((TOk.nil _).cons ok_refSame)) (E := eRefMailSame) Tryz.func20 [] (by kernel_rfl) none0 fun a _ h => ?_
  obtain ⟨a, b⟩ := a
  have h : a.head.length ≤ 1000000 := ble_of h
  refine (q_refMailSame a b).trans ?_
  show _ = some (⟨.bool (N.mailSame a b), [], []⟩ : DRes)
  unfold N.mailSame
  cases a.id == b.id <;> cases a.shop == b.shop <;> cases a.key == b.key <;> first | rfl | skip
  simp (disch := omega) only [evs, pairs_enc]
  cases N.samePs a.head b.head <;> cases a.body == b.body <;> cases a.due == b.due <;> rfl
noncomputable def eLightM : Env := env Tryz.prog [(33, dLight)] [] []
theorem q_lightM (m : HMail) : evFn eLightM 21 ((aOne (vAgg cMail)).enc m) ([]) some =
 cond (ile (↑(List.length (HMail.shop m)) : Int) (40 : Int)) (cond (ile (↑(List.length (HMail.key m)) : Int) (100 : Int)) (cond (N.light (List.map (fun r => { key := V.toStr (List.getD r (0 : Nat) V.undef), kind := V.toInt (List.getD r (1 : Nat) V.undef), num := V.toInt (List.getD r (2 : Nat) V.undef), text := V.toStr (List.getD r (3 : Nat) V.undef) : HPair }) (List.map (fun p => [V.str (HPair.key p), V.int IntKind.u8 (HPair.kind p), V.int IntKind.i64 (HPair.num p), V.str (HPair.text p)]) (HMail.head m)))) (some { v := V.bool (ile (↑(List.length (HMail.body m)) : Int) (300 : Int)), bx := [] : DRes }) (some { v := V.bool false, bx := [] : DRes })) (some { v := V.bool false, bx := [] : DRes })) (some { v := V.bool false, bx := [] : DRes }) := by kernel_rfl
theorem ok_lightM : FnOk Tryz.prog 21 dLightM := by
  refine den_okF (env_ok ((TOk.nil _).cons ok_light)) (E := eLightM) Tryz.func21 [] (by kernel_rfl) none0 fun m _ _ => ?_
  refine (q_lightM m).trans ?_
  show _ = some (⟨.bool (N.lightM m), [], []⟩ : DRes)
  unfold N.lightM
  simp only [pairs_enc]
  cases ile (m.shop.length : Int) 40 <;> cases ile (m.key.length : Int) 100 <;> cases N.light m.head <;> rfl
theorem nrm_rows (h : List HPair) : (h.map (fun p => [V.str p.key, V.int .u8 p.kind, V.int .i64 p.num, V.str p.text])).map (fun r => ({ key := V.toStr (List.getD r 0 .undef), kind := V.toInt (List.getD r 1 .undef), num := V.toInt (List.getD r 2 .undef), text := V.toStr (List.getD r 3 .undef) } : HPair)) = h := rowsP_enc h
theorem raw_le (x s : Bytes) : N.outRaw ⟨x, 0⟩ s = ⟨x ++ s, 0⟩ := rfl
noncomputable def eMailBytes : Env := env Tryz.prog [(144, dMailCheck), (157, dHeadBytes), (158, dOutNum), (159, dOutText), (160, dOutRaw), (161, dOutString)] [] []
theorem q_mailBytes (m : HMail) : evFn eMailBytes 140 ((aOne (vAgg cMail)).enc m) ([]) some =
 cond (N.mailCheck { id := HMail.id m, shop := HMail.shop m, key := HMail.key m, head := List.map (fun r => { key := V.toStr (List.getD r (0 : Nat) V.undef), kind := V.toInt (List.getD r (1 : Nat) V.undef), num := V.toInt (List.getD r (2 : Nat) V.undef), text := V.toStr (List.getD r (3 : Nat) V.undef) : HPair }) (List.map (fun p => [V.str (HPair.key p), V.int IntKind.u8 (HPair.kind p), V.int IntKind.i64 (HPair.num p), V.str (HPair.text p)]) (HMail.head m)), body := HMail.body m, due := HMail.due m, hops := HMail.hops m : HMail } != (0 : Int)) (some { v := V.tup [V.str [], V.int IntKind.i64 (N.mailCheck { id := HMail.id m, shop := HMail.shop m, key := HMail.key m, head := List.map (fun r => { key := V.toStr (List.getD r (0 : Nat) V.undef), kind := V.toInt (List.getD r (1 : Nat) V.undef), num := V.toInt (List.getD r (2 : Nat) V.undef), text := V.toStr (List.getD r (3 : Nat) V.undef) : HPair }) (List.map (fun p => [V.str (HPair.key p), V.int IntKind.u8 (HPair.kind p), V.int IntKind.i64 (HPair.num p), V.str (HPair.text p)]) (HMail.head m)), body := HMail.body m, due := HMail.due m, hops := HMail.hops m : HMail })], bx := [] : DRes }) (cond (bif ile (0 : Int) (HMail.id m) then bif ilt (HMail.id m) (18446744073709551616 : Int) then true else false else false) (cond (Nat.ble ((8 : Nat) + List.length (HMail.shop m)) (9223372036854775790 : Nat)) (cond (Nat.ble (List.length (OutS.s (N.outText (N.outNum { s := [], err := (0 : Int) : OutS } (HMail.id m) (8 : Int)) (HMail.shop m))) + List.length (HMail.key m)) (9223372036854775790 : Nat)) (cond (Nat.ble (List.length (OutS.s (N.outText (N.outText (N.outNum { s := [], err := (0 : Int) : OutS } (HMail.id m) (8 : Int)) (HMail.shop m)) (HMail.key m))) + List.length (Prod.fst (bif N.headCheck (List.map (fun r => { key := V.toStr (List.getD r (0 : Nat) V.undef), kind := V.toInt (List.getD r (1 : Nat) V.undef), num := V.toInt (List.getD r (2 : Nat) V.undef), text := V.toStr (List.getD r (3 : Nat) V.undef) : HPair }) (List.map (fun p => [V.str (HPair.key p), V.int IntKind.u8 (HPair.kind p), V.int IntKind.i64 (HPair.num p), V.str (HPair.text p)]) (HMail.head m))) != (0 : Int) then ([], N.headCheck (List.map (fun r => { key := V.toStr (List.getD r (0 : Nat) V.undef), kind := V.toInt (List.getD r (1 : Nat) V.undef), num := V.toInt (List.getD r (2 : Nat) V.undef), text := V.toStr (List.getD r (3 : Nat) V.undef) : HPair }) (List.map (fun p => [V.str (HPair.key p), V.int IntKind.u8 (HPair.kind p), V.int IntKind.i64 (HPair.num p), V.str (HPair.text p)]) (HMail.head m)))) else (N.headBytes (List.map (fun r => { key := V.toStr (List.getD r (0 : Nat) V.undef), kind := V.toInt (List.getD r (1 : Nat) V.undef), num := V.toInt (List.getD r (2 : Nat) V.undef), text := V.toStr (List.getD r (3 : Nat) V.undef) : HPair }) (List.map (fun p => [V.str (HPair.key p), V.int IntKind.u8 (HPair.kind p), V.int IntKind.i64 (HPair.num p), V.str (HPair.text p)]) (HMail.head m))), (0 : Int))))) (9223372036854775807 : Nat)) (cond (Nat.ble (List.length (OutS.s (N.outRaw (N.outText (N.outText (N.outNum { s := [], err := (0 : Int) : OutS } (HMail.id m) (8 : Int)) (HMail.shop m)) (HMail.key m)) (Prod.fst (bif N.headCheck (List.map (fun r => { key := V.toStr (List.getD r (0 : Nat) V.undef), kind := V.toInt (List.getD r (1 : Nat) V.undef), num := V.toInt (List.getD r (2 : Nat) V.undef), text := V.toStr (List.getD r (3 : Nat) V.undef) : HPair }) (List.map (fun p => [V.str (HPair.key p), V.int IntKind.u8 (HPair.kind p), V.int IntKind.i64 (HPair.num p), V.str (HPair.text p)]) (HMail.head m))) != (0 : Int) then ([], N.headCheck (List.map (fun r => { key := V.toStr (List.getD r (0 : Nat) V.undef), kind := V.toInt (List.getD r (1 : Nat) V.undef), num := V.toInt (List.getD r (2 : Nat) V.undef), text := V.toStr (List.getD r (3 : Nat) V.undef) : HPair }) (List.map (fun p => [V.str (HPair.key p), V.int IntKind.u8 (HPair.kind p), V.int IntKind.i64 (HPair.num p), V.str (HPair.text p)]) (HMail.head m)))) else (N.headBytes (List.map (fun r => { key := V.toStr (List.getD r (0 : Nat) V.undef), kind := V.toInt (List.getD r (1 : Nat) V.undef), num := V.toInt (List.getD r (2 : Nat) V.undef), text := V.toStr (List.getD r (3 : Nat) V.undef) : HPair }) (List.map (fun p => [V.str (HPair.key p), V.int IntKind.u8 (HPair.kind p), V.int IntKind.i64 (HPair.num p), V.str (HPair.text p)]) (HMail.head m))), (0 : Int)))))) + List.length (HMail.body m)) (9223372036854775790 : Nat)) (cond (bif ile (0 : Int) (HMail.due m) then bif ilt (HMail.due m) (18446744073709551616 : Int) then Nat.ble (List.length (OutS.s (N.outText (N.outRaw (N.outText (N.outText (N.outNum { s := [], err := (0 : Int) : OutS } (HMail.id m) (8 : Int)) (HMail.shop m)) (HMail.key m)) (Prod.fst (bif N.headCheck (List.map (fun r => { key := V.toStr (List.getD r (0 : Nat) V.undef), kind := V.toInt (List.getD r (1 : Nat) V.undef), num := V.toInt (List.getD r (2 : Nat) V.undef), text := V.toStr (List.getD r (3 : Nat) V.undef) : HPair }) (List.map (fun p => [V.str (HPair.key p), V.int IntKind.u8 (HPair.kind p), V.int IntKind.i64 (HPair.num p), V.str (HPair.text p)]) (HMail.head m))) != (0 : Int) then ([], N.headCheck (List.map (fun r => { key := V.toStr (List.getD r (0 : Nat) V.undef), kind := V.toInt (List.getD r (1 : Nat) V.undef), num := V.toInt (List.getD r (2 : Nat) V.undef), text := V.toStr (List.getD r (3 : Nat) V.undef) : HPair }) (List.map (fun p => [V.str (HPair.key p), V.int IntKind.u8 (HPair.kind p), V.int IntKind.i64 (HPair.num p), V.str (HPair.text p)]) (HMail.head m)))) else (N.headBytes (List.map (fun r => { key := V.toStr (List.getD r (0 : Nat) V.undef), kind := V.toInt (List.getD r (1 : Nat) V.undef), num := V.toInt (List.getD r (2 : Nat) V.undef), text := V.toStr (List.getD r (3 : Nat) V.undef) : HPair }) (List.map (fun p => [V.str (HPair.key p), V.int IntKind.u8 (HPair.kind p), V.int IntKind.i64 (HPair.num p), V.str (HPair.text p)]) (HMail.head m))), (0 : Int))))) (HMail.body m)))) (9223372036854775799 : Nat) else false else false) (cond (bif ile (0 : Int) (IntKind.wrap IntKind.u64 (HMail.hops m)) then bif ilt (IntKind.wrap IntKind.u64 (HMail.hops m)) (18446744073709551616 : Int) then Nat.ble (List.length (OutS.s (N.outNum (N.outText (N.outRaw (N.outText (N.outText (N.outNum { s := [], err := (0 : Int) : OutS } (HMail.id m) (8 : Int)) (HMail.shop m)) (HMail.key m)) (Prod.fst (bif N.headCheck (List.map (fun r => { key := V.toStr (List.getD r (0 : Nat) V.undef), kind := V.toInt (List.getD r (1 : Nat) V.undef), num := V.toInt (List.getD r (2 : Nat) V.undef), text := V.toStr (List.getD r (3 : Nat) V.undef) : HPair }) (List.map (fun p => [V.str (HPair.key p), V.int IntKind.u8 (HPair.kind p), V.int IntKind.i64 (HPair.num p), V.str (HPair.text p)]) (HMail.head m))) != (0 : Int) then ([], N.headCheck (List.map (fun r => { key := V.toStr (List.getD r (0 : Nat) V.undef), kind := V.toInt (List.getD r (1 : Nat) V.undef), num := V.toInt (List.getD r (2 : Nat) V.undef), text := V.toStr (List.getD r (3 : Nat) V.undef) : HPair }) (List.map (fun p => [V.str (HPair.key p), V.int IntKind.u8 (HPair.kind p), V.int IntKind.i64 (HPair.num p), V.str (HPair.text p)]) (HMail.head m)))) else (N.headBytes (List.map (fun r => { key := V.toStr (List.getD r (0 : Nat) V.undef), kind := V.toInt (List.getD r (1 : Nat) V.undef), num := V.toInt (List.getD r (2 : Nat) V.undef), text := V.toStr (List.getD r (3 : Nat) V.undef) : HPair }) (List.map (fun p => [V.str (HPair.key p), V.int IntKind.u8 (HPair.kind p), V.int IntKind.i64 (HPair.num p), V.str (HPair.text p)]) (HMail.head m))), (0 : Int))))) (HMail.body m)) (HMail.due m) (8 : Int)))) (9223372036854775799 : Nat) else false else false) (some { v := V.tup [V.str (OutS.s (N.outNum (N.outNum (N.outText (N.outRaw (N.outText (N.outText (N.outNum { s := [], err := (0 : Int) : OutS } (HMail.id m) (8 : Int)) (HMail.shop m)) (HMail.key m)) (Prod.fst (bif N.headCheck (List.map (fun r => { key := V.toStr (List.getD r (0 : Nat) V.undef), kind := V.toInt (List.getD r (1 : Nat) V.undef), num := V.toInt (List.getD r (2 : Nat) V.undef), text := V.toStr (List.getD r (3 : Nat) V.undef) : HPair }) (List.map (fun p => [V.str (HPair.key p), V.int IntKind.u8 (HPair.kind p), V.int IntKind.i64 (HPair.num p), V.str (HPair.text p)]) (HMail.head m))) != (0 : Int) then ([], N.headCheck (List.map (fun r => { key := V.toStr (List.getD r (0 : Nat) V.undef), kind := V.toInt (List.getD r (1 : Nat) V.undef), num := V.toInt (List.getD r (2 : Nat) V.undef), text := V.toStr (List.getD r (3 : Nat) V.undef) : HPair }) (List.map (fun p => [V.str (HPair.key p), V.int IntKind.u8 (HPair.kind p), V.int IntKind.i64 (HPair.num p), V.str (HPair.text p)]) (HMail.head m)))) else (N.headBytes (List.map (fun r => { key := V.toStr (List.getD r (0 : Nat) V.undef), kind := V.toInt (List.getD r (1 : Nat) V.undef), num := V.toInt (List.getD r (2 : Nat) V.undef), text := V.toStr (List.getD r (3 : Nat) V.undef) : HPair }) (List.map (fun p => [V.str (HPair.key p), V.int IntKind.u8 (HPair.kind p), V.int IntKind.i64 (HPair.num p), V.str (HPair.text p)]) (HMail.head m))), (0 : Int))))) (HMail.body m)) (HMail.due m) (8 : Int)) (IntKind.wrap IntKind.u64 (HMail.hops m)) (1 : Int))), V.int IntKind.i64 (0 : Int)], bx := [] : DRes }) (none)) (none)) (none)) (none)) (none)) (none)) (none)) := by kernel_rfl
theorem mailCheck_fit {m : HMail} (h : N.mailCheck m = 0) : m.shop.length ≤ 16 ∧ m.key.length ≤ 64 ∧ N.headCheck m.head = 0 ∧ m.body.length ≤ 256 ∧ m.hops ≤ 4 ∧ N.name m.shop = 0 ∧ N.key m.key [] = 0 := by
  unfold N.mailCheck at h
  have key : ∀ x y : Int, cond (x != 0) x y = 0 → x = 0 ∧ y = 0 := fun x y h => by
    cases e : x != 0 with
    | true => rw [e, cond_true] at h; rw [h] at e; cases e
    | false => rw [e, cond_false] at h; exact ⟨by simpa using e, h⟩
  obtain ⟨h1, h⟩ := key _ _ h
  obtain ⟨h2, h⟩ := key _ _ h
  obtain ⟨h3, h⟩ := key _ _ h
  cases h4 : ilt 256 (m.body.length : Int) with
  | true => rw [h4] at h; cases h
  | false =>
    rw [h4] at h
    cases h5 : ilt 4 m.hops with
    | true => rw [h5] at h; cases h
    | false =>
      have a4 := ilt_nof h4
      have a5 := ilt_nof h5
      have a1 : m.shop.length ≤ 16 := by
        unfold N.name at h1
        cases e1 : m.shop == [] with
        | true => rw [e1] at h1; cases h1
        | false =>
          rw [e1] at h1
          cases e2 : ilt 16 m.shop.length with
          | true => rw [e2] at h1; cases h1
          | false => have := ilt_nof e2; omega
      have a2 : m.key.length ≤ 64 := by
        rw [key_eq] at h2
        exact refKey_len (b := false) (by rw [h2]; rfl)
      exact ⟨a1, a2, h3, by omega, a5, h1, h2⟩
theorem pairsB_len : ∀ {l : List HPair}, l.all N.fitP = true → (N.pairsB l).length ≤ 150 * l.length
  | [], _ => Nat.le_refl _
  | p :: r, h => by
    rw [List.all_cons, Bool.and_eq_true] at h
    have ih := pairsB_len h.2
    obtain ⟨f1, f2⟩ := bcond h.1
    have f1 := ble_of f1
    have f2 := ble_of f2
    have hlen : (N.pairB p).length ≤ 150 := by
      unfold N.pairB
      simp only [List.length_append, textB_len, numB_len]
      cases p.kind == 0 <;> cases p.kind == 1 <;> cases p.kind == 2 <;> simp only [cond_true, cond_false, numB_len, textB_len, List.length_nil] <;> omega
    show (N.pairB p ++ N.pairsB r).length ≤ _
    rw [List.length_append, List.length_cons]; omega
theorem headB_len {h : List HPair} (hz : N.headCheck h = 0) : (N.headBytes h).length ≤ 1201 := by
  obtain ⟨c1, c2⟩ := check_fit hz
  have := pairsB_len c2
  unfold N.headBytes
  rw [List.length_append, numB_len]; omega
theorem ok_mailBytes (hN : FnOk Tryz.prog 158 dOutNum) : FnOk Tryz.prog 140 dMailBytes := by
  refine den_okF (env_ok (((((((TOk.nil _).cons ok_outString).cons ok_outRaw).cons (ok_outText hN)).cons hN).cons (ok_headBytes hN)).cons ok_mailCheck)) (E := eMailBytes) Tryz.func140 [] (by kernel_rfl) none0 fun m _ h => ?_
  obtain ⟨id, shop, key, head, body, due, hops⟩ := m
  obtain ⟨b1, h⟩ := bcond h
  obtain ⟨b2, h⟩ := bcond h
  obtain ⟨i1, i2⟩ := bcond b1
  obtain ⟨i3, i4⟩ := bcond b2
  obtain ⟨i5, i6⟩ := bcond h
  simp only at i1 i2 i3 i4 i5 i6
  refine (q_mailBytes ⟨id, shop, key, head, body, due, hops⟩).trans ?_
  simp only [nrm_rows]
  show _ = some (⟨.tup [.str (cond (N.mailCheck ⟨id, shop, key, head, body, due, hops⟩ != 0) (([] : Bytes), N.mailCheck ⟨id, shop, key, head, body, due, hops⟩) (N.mailB ⟨id, shop, key, head, body, due, hops⟩, 0)).1,
    .int .i64 (cond (N.mailCheck ⟨id, shop, key, head, body, due, hops⟩ != 0) (([] : Bytes), N.mailCheck ⟨id, shop, key, head, body, due, hops⟩) (N.mailB ⟨id, shop, key, head, body, due, hops⟩, 0)).2], [], []⟩ : DRes)
  cases hc : N.mailCheck ⟨id, shop, key, head, body, due, hops⟩ != 0 with
  | true => rfl
  | false =>
    have hz : N.mailCheck ⟨id, shop, key, head, body, due, hops⟩ = 0 := by simpa using hc
    obtain ⟨c1, c2, c3, c4, c5, _⟩ := mailCheck_fit hz
    simp only at c1 c2 c3 c4 c5
    have hl := headB_len c3
    have wh : IntKind.wrap .u64 hops = hops := wrap_u64 (by have := ile_of i5; omega) (by omega)
    have i5' := ile_of i5
    have hb : cond (N.headCheck head != 0) (([] : Bytes), N.headCheck head) (N.headBytes head, 0) = (N.headBytes head, 0) := by rw [c3]; rfl
    have o1 : ∀ (x s : Bytes), s.length ≤ 65535 → N.outText ⟨x, 0⟩ s = ⟨x ++ N.textB s, 0⟩ := fun x s hs => outText_le hs
    unfold N.mailB
    simp only
    simp (disch := omega) only [evs, raw_le, i1, i2, i3, i4, o1, outNum_8, outNum_1, numB_len, textB_len, wh, List.nil_append]
end Go.Ev

/- slices.Concat and slices.Grow at messages answer what the plain ones do: lemmas, no condition. -/
namespace Go.Ev
open Go Go.Proofs
set_option maxRecDepth 100000
-- FOLD

/-- A nil slice. -/
def vNils {α : Type} (c : RCod α) : VCod Unit where
  ok := fun | .nils s => Sh.beqL c.sh s | _ => false
  enc _ := .nils c.sh
  dec _ := ()
  ed _ := ⟨c.rf, rfl⟩
  law w I ρ v x h hx := by
    split at h
    · have := Sh.beqL_eq _ _ h; subst this; exact hx
    · cases h
def dGrow {α : Type} (c : RCod α) : Den := den (aCons (vNils c) (aOne (vInt .i64))) bNil (oOwn c) (fun a _ => cond (ile 0 a.2) (ile a.2 1000000) false) fun _ _ => (([] : List α), ())
/-- Lists one behind the other. -/
def N.flat {α : Type} : List (List α) → List α
  | [] => [] | l :: r => l ++ N.flat r
def sumLen {α : Type} : List (List α) → Nat
  | [] => 0 | l :: r => l.length + sumLen r
theorem flat_len {α : Type} : ∀ l : List (List α), (N.flat l).length = sumLen l
  | [] => rfl
  | l :: r => by show (l ++ N.flat r).length = _; rw [List.length_append, flat_len r]; rfl
def dConcat {α : Type} (c : RCod α) : Den := den (aOne (vSl (rSl c))) bNil (oV (vSl c)) (fun l _ => cond (Nat.ble l.length 1000) (Nat.ble (sumLen l) 100000) false) fun l _ => (N.flat l, ())
/-- The rows in rows. -/
def flatR : List (List V) → List (List V)
  | [] => [] | r :: rs => V.toRows (List.getD r 0 .undef) ++ flatR rs
theorem flatR_enc {α : Type} (c : RCod α) : ∀ l : List (List α), flatR (l.map (rSl c).enc) = (N.flat l).map c.enc
  | [] => rfl
  | l :: r => by
    show l.map c.enc ++ flatR (r.map (rSl c).enc) = (l ++ N.flat r).map c.enc
    rw [flatR_enc c r, List.map_append]
theorem flatR_cons (x : List V) (l : List (List V)) : flatR (x :: l) = V.toRows (List.getD x 0 .undef) ++ flatR l := rfl
end Go.Ev

/- The functions on rises answer what the plain ones do: lemmas, no condition. -/
namespace Go.Ev
open Go Go.Proofs
set_option maxRecDepth 100000
-- FOLD

structure HRise where
  total : Int
  kept : List HMail
theorem dec_encs {α : Type} (c : RCod α) (l : List α) : (l.map c.enc).map c.dec = l := by
  rw [List.map_map]
  exact (List.map_congr_left (fun a _ => c.de a)).trans (List.map_id _)
namespace N
def risePut (x : HRise) (m : HMail) : HRise × Int :=
  cond (mailCheck m != 0) (x, mailCheck m) (cond (x.total == 18446744073709551615) (x, 18)
    (⟨x.total + 1, (x.kept ++ [m]).drop (x.kept.length + 1 - 16)⟩, 0))
end N
def goodRise (x : HRise) : Bool := cond (cond (ile 0 x.total) (ile x.total 18446744073709551615) false) (cond (Nat.ble x.kept.length 16) (x.kept.all smallM) false) false
theorem flat_two {α : Type} (a b : List α) : N.flat [a, b] = a ++ b := by
  show a ++ (b ++ []) = _
  rw [List.append_nil]
end Go.Ev

/- What a rise tells behind a number: lemmas, no condition. -/
namespace Go.Ev
open Go Go.Proofs
set_option maxRecDepth 100000
-- FOLD

namespace N
def riseAfter (x : HRise) (n : Int) : Int × HMail × Bool :=
  cond (ile x.total n) (0, mail0, false) (cond (ilt (x.total - x.kept.length + 1) (n + 1)) (n + 1, x.kept.getD (n + 1 - (x.total - x.kept.length + 1)).toNat mail0, true) (x.total - x.kept.length + 1, x.kept.getD 0 mail0, true))
end N
def fullRise (x : HRise) : Bool := cond (goodRise x) (cond (ile x.kept.length x.total) (cond (Nat.beq x.kept.length 0) (x.total == 0) true) false) false
theorem getD_enc {α : Type} (c : RCod α) (l : List α) (i : Nat) (d : α) (h : i < l.length) : (l.map c.enc).getD i [] = c.enc (l.getD i d) := by
  rw [List.getD_eq_getElem?_getD, List.getD_eq_getElem?_getD, List.getElem?_map, List.getElem?_eq_getElem h]
  rfl
theorem all_getD {α : Type} {p : α → Bool} {l : List α} (h : l.all p = true) (i : Nat) (d : α) (hi : i < l.length) : p (l.getD i d) = true := by
  rw [List.getD_eq_getElem?_getD, List.getElem?_eq_getElem hi]
  exact List.all_eq_true.1 h _ (List.getElem_mem hi)
end Go.Ev

/- What rises tell, in plain terms: lemmas, no condition. -/
namespace Go.Ev
open Go Go.Proofs
set_option maxRecDepth 100000

namespace N
def tell (x : HRise) : Nat → Int → List HMail → Int × List HMail
  | 0, last, got => (last, got)
  | n + 1, last, got => cond (riseAfter x last).2.2 (tell x n (riseAfter x last).1 (got ++ [(riseAfter x last).2.1])) (last, got)
def many (asks : List Int) (n k : Nat) : Nat := cond (Nat.blt k n) (cond (Nat.blt k asks.length) (Int.tmod (IntKind.wrap .i64 (asks.getD k 0)) 3).toNat 0) 16
def play (asks : List Int) (l : List HMail) : Nat → Nat → HRise → Int → List HMail → List HMail → Option (HRise × Int × List HMail × List HMail)
  | 0, _, x, last, good, got => some (x, last, good, got)
  | f + 1, k, x, last, good, got => cond (ilt 16 (x.total - last)) none
      (cond (Nat.blt k l.length)
        (play asks l f (k + 1) (risePut x (l.getD k mail0)).1 (tell x (many asks l.length k) last got).1 (cond ((risePut x (l.getD k mail0)).2 == 0) (good ++ [l.getD k mail0]) good) (tell x (many asks l.length k) last got).2)
        (play asks l f (k + 1) x (tell x (many asks l.length k) last got).1 good (tell x (many asks l.length k) last got).2))
end N
/-- A rise that has had just these. -/
structure RInv (x : HRise) (g : List HMail) : Prop where
  total : x.total = g.length
  kept : x.kept = g.drop (g.length - 16)
  small : g.all smallM = true
  few : g.length < 1000
theorem RInv.len {x : HRise} {g : List HMail} (h : RInv x g) : x.kept.length = g.length - (g.length - 16) := by rw [h.kept, List.length_drop]
theorem RInv.good {x : HRise} {g : List HMail} (h : RInv x g) : goodRise x = true := by
  have := h.few
  have hl := h.len
  unfold goodRise
  rw [h.total, ile_t (by omega), ile_t (by omega), ble_t (by omega), h.kept]
  show (List.all (g.drop _) smallM) = true
  rw [List.all_eq_true]
  intro m hm
  exact List.all_eq_true.1 h.small m (List.mem_of_mem_drop hm)
theorem RInv.full {x : HRise} {g : List HMail} (h : RInv x g) : fullRise x = true := by
  have hl := h.len
  unfold fullRise
  rw [h.good, h.total, ile_t (by omega)]
  simp only [cond_true]
  cases e : Nat.beq x.kept.length 0 with
  | false => rfl
  | true =>
    have := Nat.eq_of_beq_eq_true e
    show (((g.length : Nat) : Int) == 0) = true
    exact ieq_t (by omega)
end Go.Ev

/- What the statement on heads that are read reckons: lemmas; the function that writes numbers is a premise. -/
namespace Go.Ev
open Go Go.Proofs
set_option maxRecDepth 100000

end Go.Ev

/- What the statement on heads' bytes reckons: lemmas; the functions that write numbers are premises. -/
namespace Go.Ev
open Go Go.Proofs
set_option maxRecDepth 100000

/-- The search from behind. -/
def N.back (key : Bytes) (l : List HPair) : Nat → HPair × Bool → HPair × Bool
  | 0, w => w
  | k + 1, w => back key l k (cond ((l.getD k pair0).key == key) (l.getD k pair0, true) w)
end Go.Ev

/- What the statement on heads' bytes reckons: it is true; the functions that write numbers are premises. -/
namespace Go.Ev
open Go Go.Proofs
set_option maxRecDepth 100000

end Go.Ev

/- Messages: what was written is read again; the program's reader and the document's go together: lemmas on the plain functions. -/
namespace Go.Ev
open Go

end Go.Ev

/- Rules: the program's way and the document's are one: lemmas on the plain functions. -/
namespace Go.Ev
open Go

end Go.Ev

/- The functions that tell which messages go by a rule answer what the plain ones do: lemmas, no condition. -/
namespace Go.Ev
open Go Go.Proofs
set_option maxRecDepth 100000

end Go.Ev

/- Words joined again, patterns of stars: plain lemmas, no condition. -/
namespace Go.Ev
open Go
namespace N
end N
/-! ### Keys as patterns -/
end Go.Ev

/- What the statements on rules reckon: each is true; lemmas; the function that writes numbers is a premise. -/
namespace Go.Ev
open Go Go.Proofs
set_option maxRecDepth 100000

noncomputable def eAw9' : Env := env Tryz.prog [(162, dTrue)] [] []
theorem q_aw9'  : evFn eAw9' 141 [] [] some =
 some { v := V.bool true, bx := [] : DRes } := by kernel_rfl
theorem ok_aw9' (hN : FnOk Tryz.prog 158 dOutNum) : FnOk Tryz.prog 141 dTrue := den_okF (env_ok ((TOk.nil _).cons (ok_aw9 hN))) (E := eAw9') Tryz.func141 [] (by kernel_rfl) none0 fun _ _ _ => q_aw9'
end Go.Ev

/- The statement on heads' bytes: what it reckons is true of what comes in; lemmas, no condition. -/
namespace Go.Ev
open Go Go.Proofs
set_option maxRecDepth 100000

end Go.Ev

/- What the statements on messages' bytes reckon: each is true; lemmas; the function that writes numbers is a premise. -/
namespace Go.Ev
open Go Go.Proofs
set_option maxRecDepth 100000

noncomputable def eAw13 : Env := env Tryz.prog [(141, dTrue), (140, dMailBytes)] [] []
theorem q_aw13 : evFn eAw13 103 [] [] some = some { v := .bool true, bx := [] } := by kernel_rfl
theorem ok_aw13 (hN : FnOk Tryz.prog 158 dOutNum) : FnOk Tryz.prog 103 dTrue :=
  den_okF (env_ok (((TOk.nil _).cons (ok_mailBytes hN)).cons (ok_aw9' hN))) (E := eAw13) Tryz.func103 [] (by kernel_rfl) none0 fun _ _ _ => q_aw13
end Go.Ev

/- The example of the statements on rises, and which messages they go through: lemmas; the function that writes numbers is a premise. -/
namespace Go.Ev
open Go Go.Proofs
set_option maxRecDepth 100000
-- FOLD

noncomputable def eAw13' : Env := env Tryz.prog [(103, dTrue)] [] []
theorem q_aw13'  : evFn eAw13' 46 [] [] some =
 some { v := V.bool true, bx := [] : DRes } := by kernel_rfl
theorem ok_aw13' (hN : FnOk Tryz.prog 158 dOutNum) : FnOk Tryz.prog 46 dTrue :=
  den_okF (env_ok ((TOk.nil _).cons (ok_aw13 hN))) (E := eAw13') Tryz.func46 [] (by kernel_rfl) none0 fun _ _ _ => q_aw13'
theorem nbeq_of {x y : Nat} (h : Nat.beq x y = true) : x = y := Nat.eq_of_beq_eq_true h
/-- A message that is read of a row. -/
theorem fold_mail (r : List V) : ({ id := V.toInt (List.getD r 0 .undef), shop := V.toStr (List.getD r 1 .undef), key := V.toStr (List.getD r 2 .undef), head := (V.toRows (List.getD r 3 .undef)).map fun r => ({ key := V.toStr (List.getD r 0 .undef), kind := V.toInt (List.getD r 1 .undef), num := V.toInt (List.getD r 2 .undef), text := V.toStr (List.getD r 3 .undef) } : HPair), body := V.toStr (List.getD r 4 .undef), due := V.toInt (List.getD r 5 .undef), hops := V.toInt (List.getD r 6 .undef) } : HMail) = cMail.dec r := rfl
end Go.Ev

/- What the statement on a rise's numbers reckons: it is true; lemmas; the function that writes numbers is a premise. -/
namespace Go.Ev
open Go Go.Proofs
set_option maxRecDepth 100000
-- FOLD

theorem fold_enc (m : HMail) : [V.int .u64 m.id, V.str m.shop, V.str m.key, V.slc [.str, .int .u8, .int .i64, .str] (m.head.map fun p => [V.str p.key, V.int .u8 p.kind, V.int .i64 p.num, V.str p.text]), V.str m.body, V.int .u64 m.due, V.int .u8 m.hops] = cMail.enc m := rfl
theorem fold_re (r : List V) : [V.int .u64 (V.toInt (List.getD r 0 .undef)), V.str (V.toStr (List.getD r 1 .undef)), V.str (V.toStr (List.getD r 2 .undef)), V.slc [.str, .int .u8, .int .i64, .str] (((V.toRows (List.getD r 3 .undef)).map fun r => ({ key := V.toStr (List.getD r 0 .undef), kind := V.toInt (List.getD r 1 .undef), num := V.toInt (List.getD r 2 .undef), text := V.toStr (List.getD r 3 .undef) } : HPair)).map fun p => [V.str p.key, V.int .u8 p.kind, V.int .i64 p.num, V.str p.text]),
    V.str (V.toStr (List.getD r 4 .undef)), V.int .u64 (V.toInt (List.getD r 5 .undef)), V.int .u8 (V.toInt (List.getD r 6 .undef))] = cMail.enc (cMail.dec r) := rfl
theorem fold_de (m : HMail) : ({ id := m.id, shop := m.shop, key := m.key, head := (m.head.map fun p => [V.str p.key, V.int .u8 p.kind, V.int .i64 p.num, V.str p.text]).map fun r => ({ key := V.toStr (List.getD r 0 .undef), kind := V.toInt (List.getD r 1 .undef), num := V.toInt (List.getD r 2 .undef), text := V.toStr (List.getD r 3 .undef) } : HPair), body := m.body, due := m.due, hops := m.hops } : HMail) = m := cMail.de m
theorem len_wf {α : Type} {c : RCod α} {l : List α} (h : wfL ((rSl c).enc l) = true) : Nat.ble l.length 9223372036854775807 = true := by
  have h : cond (cond (Nat.ble (l.map c.enc).length 9223372036854775807) (cond (fitsRows c.sh (l.map c.enc)) (wfRs (l.map c.enc)) false) false) true false = true := h
  rw [List.length_map] at h
  exact (bcond (bcond h).1).1
end Go.Ev

/- The functions on rises that one statement on them needs: sizes, sameness, the document's: lemmas; the function that writes numbers is a premise. -/
namespace Go.Ev
open Go Go.Proofs
set_option maxRecDepth 100000
-- FOLD

/-- A function that is handed on, nothing in it. -/
def vFn0 (f : FuncId) : VCod Unit where
  ok := fun | .fn g [] [] => Nat.beq f g | _ => false
  enc _ := .fn f [] []
  dec _ := ()
  ed _ := ⟨Nat.beq_refl f, rfl⟩
  law w I ρ v x h hx := by
    split at h
    · have := Nat.eq_of_beq_eq_true h; subst this
      exact hx
    · cases h
namespace N
end N
end Go.Ev

/- Sameness of rises, and what the statements' helpers tell: lemmas; the function that writes numbers is a premise. -/
namespace Go.Ev
open Go Go.Proofs
set_option maxRecDepth 100000
-- FOLD

namespace N
end N
end Go.Ev

/- Rises as bytes, and read of them: lemmas; the functions that write numbers are premises. -/
namespace Go.Ev
open Go Go.Proofs
set_option maxRecDepth 100000
-- FOLD

namespace N
end N
end Go.Ev

/- Rises read of bytes: the program's and the document's: lemmas. -/
namespace Go.Ev
open Go Go.Proofs
set_option maxRecDepth 100000
-- FOLD

namespace N
end N
end Go.Ev

/- What the statements that play and read rises reckon: each is true; lemmas; the functions that write numbers are premises. -/
namespace Go.Ev
open Go Go.Proofs
set_option maxRecDepth 100000
-- FOLD

end Go.Ev

/- Lines: the plain functions and their codec: definitions and lemmas, no condition. -/
namespace Go.Ev
open Go
set_option maxRecDepth 100000

structure HItem where
  mail : HMail
  lent : Bool
  again : Bool
theorem getD_takeN {r : List V} {n i : Nat} (h : i < n) : (r.take n).getD i .undef = r.getD i .undef := by
  rw [List.getD_eq_getElem?_getD, List.getD_eq_getElem?_getD, List.getElem?_take_of_lt h]
theorem getD_dropN {r : List V} (n i : Nat) : (r.drop n).getD i .undef = r.getD (n + i) .undef := by
  rw [List.getD_eq_getElem?_getD, List.getD_eq_getElem?_getD, List.getElem?_drop]
def rowI (r : List V) : HItem := ⟨rowM r, (r.getD 7 .undef).toBool, (r.getD 8 .undef).toBool⟩
def cItem : RCod HItem := ((cMail.and (rBool.and rBool)).iso (fun p => (⟨p.1, p.2.1, p.2.2⟩ : HItem)) (fun o => (o.mail, o.lent, o.again)) (fun _ => rfl) fun _ => rfl).spelt
  [.int .u64, .str, .str, .slc [.str, .int .u8, .int .i64, .str], .str, .int .u64, .int .u8, .bool, .bool]
  (fun x => [.int .u64 x.mail.id, .str x.mail.shop, .str x.mail.key, .slc [.str, .int .u8, .int .i64, .str] (x.mail.head.map fun p => [V.str p.key, V.int .u8 p.kind, V.int .i64 p.num, V.str p.text]), .str x.mail.body, .int .u64 x.mail.due, .int .u8 x.mail.hops, .bool x.lent, .bool x.again])
  rowI rfl (fun _ => rfl) fun r => by
    show (⟨rowM (r.take 7), (((r.drop 7).take 1).getD 0 .undef).toBool, (((r.drop 7).drop 1).getD 0 .undef).toBool⟩ : HItem) = rowI r
    unfold rowI rowM
    rw [getD_takeN (by decide), getD_takeN (by decide), getD_takeN (by decide), getD_takeN (by decide), getD_takeN (by decide), getD_takeN (by decide), getD_takeN (by decide), getD_takeN (by decide), getD_dropN, getD_dropN, getD_dropN]
def item0 : HItem := ⟨mail0, false, false⟩
def cLine : RCod (List HItem) := rSl cItem
namespace N
def lCheck (l : List HItem) (m : HMail) : Int :=
  cond (mailCheck m != 0) (mailCheck m) (cond (cond (ilt 0 l.length) (ile m.id (l.getD (l.length - 1) item0).mail.id) false) 13 (cond (ile 64 l.length) 12 0))
def lPut (l : List HItem) (x : HItem) : List HItem × Int := cond (lCheck l x.mail != 0) (l, lCheck l x.mail) (l ++ [x], 0)
/-- The first place of which something is so. -/
def ix (p : HItem → Bool) : List HItem → Int → Int
  | [], _ => -1
  | x :: r, i => cond (p x) i (ix p r (i + 1))
def isReady (x : HItem) : Bool := cond x.lent false true
def isId (id : Int) (x : HItem) : Bool := x.mail.id == id
def lendI (x : HItem) : HItem := ⟨x.mail, true, x.again⟩
def backI (x : HItem) : HItem := ⟨x.mail, false, true⟩
def setAt (f : HItem → HItem) (l : List HItem) (k : Nat) : List HItem := l.set k (f (l.getD k item0))
def lLend (l : List HItem) : List HItem × HItem × Bool := cond (ilt (ix isReady l 0) 0) (l, item0, false) (setAt lendI l (ix isReady l 0).toNat, lendI (l.getD (ix isReady l 0).toNat item0), true)
def lBack (l : List HItem) (id : Int) : List HItem × Int := cond (ilt (ix (isId id) l 0) 0) (l, 10) (cond (l.getD (ix (isId id) l 0).toNat item0).lent (setAt backI l (ix (isId id) l 0).toNat, 0) (l, 13))
def cutAt (l : List HItem) (k : Nat) : List HItem := l.take k ++ l.drop (k + 1)
def lRemove (l : List HItem) (id : Int) : List HItem × HItem × Int := cond (ilt (ix (isId id) l 0) 0) (l, item0, 10) (cutAt l (ix (isId id) l 0).toNat, l.getD (ix (isId id) l 0).toNat item0, 0)
def wakeI (x : HItem) : HItem := cond x.lent (backI x) x
def lWake (l : List HItem) : List HItem := l.map wakeI
def lTold (l : List HItem) (k : Int) : HMail × Bool := cond (ilt k 0) (mail0, false) ((l.getD k.toNat item0).mail, true)
def lFirst (l : List HItem) : HMail × Bool := lTold l (ix isReady l 0)
def lReady : List HItem → Int
  | [] => 0
  | x :: r => cond x.lent (lReady r) (1 + lReady r)
def sameI (a b : HItem) : Bool := cond (mailSame a.mail b.mail) (cond (a.lent == b.lent) (a.again == b.again) false) false
end N
def smallI (x : HItem) : Bool := smallM x.mail
def smallL (l : List HItem) : Bool := cond (Nat.ble l.length 1000) (l.all smallI) false
end Go.Ev

/- slices.Concat and slices.Grow at another type answer what the plain ones do: lemmas, no condition. -/
namespace Go.Ev
open Go Go.Proofs
set_option maxRecDepth 100000
-- FOLD

noncomputable def eGrowI : Env := { env Tryz.prog [] [] [] [142] with tr := true }
theorem q_growI (n : Int) : evFn eGrowI 142 ((aCons (vNils cItem) (aOne (vInt .i64))).enc ((), n)) ([]) some =
 cond (ilt n (0 : Int)) (none) (cond (ilt (0 : Int) (IntKind.wrap IntKind.i64 (n - IntKind.wrap IntKind.i64 ((0 : Int) - (0 : Int))))) (cond (decide ((0 : Int) ≤ IntKind.wrap IntKind.i64 (n - IntKind.wrap IntKind.i64 ((0 : Int) - (0 : Int))) ∧ IntKind.wrap IntKind.i64 (n - IntKind.wrap IntKind.i64 ((0 : Int) - (0 : Int))) * (↑(104 : Nat) : Int) ≤ (140737488355328 : Int) ∧ IntKind.wrap IntKind.i64 (n - IntKind.wrap IntKind.i64 ((0 : Int) - (0 : Int))) ≤ (140737488355328 : Int))) (some { v := V.own (1000 : Nat) (0 : Nat), bx := [], nb := [Box.sl [Sh.int IntKind.u64, Sh.str, Sh.str, Sh.slc [Sh.str, Sh.int IntKind.u8, Sh.int IntKind.i64, Sh.str], Sh.str, Sh.int IntKind.u64, Sh.int IntKind.u8, Sh.bool, Sh.bool] [] (0 : Nat)] : DRes }) (none)) (some { v := V.own (1000 : Nat) (0 : Nat), bx := [], nb := [Box.sl [Sh.int IntKind.u64, Sh.str, Sh.str, Sh.slc [Sh.str, Sh.int IntKind.u8, Sh.int IntKind.i64, Sh.str], Sh.str, Sh.int IntKind.u64, Sh.int IntKind.u8, Sh.bool, Sh.bool] [] (0 : Nat)] : DRes })) := by kernel_rfl
theorem ok_growI : FnOk Tryz.prog 142 (dGrow cItem) := by
  refine den_okF (E := eGrowI) (fun f D h => by cases h) Tryz.func142 [] (by kernel_rfl) none0 fun a _ h => ?_
  obtain ⟨⟨⟩, n⟩ := a
  obtain ⟨h1, h2⟩ := bcond h
  have h1 : 0 ≤ n := ile_of h1
  have h2 : n ≤ 1000000 := ile_of h2
  refine (q_growI n).trans ?_
  have w0 : IntKind.wrap .i64 ((0 : Int) - 0) = 0 := rfl
  have w : IntKind.wrap .i64 (n - 0) = n := by rw [Int.sub_zero]; exact wr_i64 (by omega) (by omega)
  rw [w0, w]
  have d : decide (0 ≤ n ∧ n * ((104 : Nat) : Int) ≤ 140737488355328 ∧ n ≤ 140737488355328) = true := decide_eq_true (by omega)
  rw [d, ilt_f h1]
  cases ilt 0 n <;> rfl
def schConcatI3 : SSch := { fr := [(0, .slc [.slc [.int .u64, .str, .str, .slc [.str, .int .u8, .int .i64, .str], .str, .int .u64, .int .u8, .bool, .bool]]), (3, .int .i64), (9, .slc [.slc [.int .u64, .str, .str, .slc [.str, .int .u8, .int .i64, .str], .str, .int .u64, .int .u8, .bool, .bool]]), (10, .int .i64), (11, .int .i64)], tab := [] }
def gConcatI3 : List Leaf → (Ex → St → Option R) → Option R
  | [.r r0, .i i3, .r r9, .i i10, .i i11], K => cond (i10 == r9.length) (cond (i11 == 0) (cond (i3 == 0) (cond (Nat.ble (flatR r9).length LIM) (cond (Nat.ble r9.length LIM)
      (K (.exit 0) { fr := [(0, .slc [.slc [.int .u64, .str, .str, .slc [.str, .int .u8, .int .i64, .str], .str, .int .u64, .int .u8, .bool, .bool]] r0), (3, .int .i64 (flatR r9).length)], tab := [] }) none) none) none) none) none
  | _, _ => none
def schConcatI11 : SSch := { fr := [(6, .own 10000), (25, .slc [.slc [.int .u64, .str, .str, .slc [.str, .int .u8, .int .i64, .str], .str, .int .u64, .int .u8, .bool, .bool]]), (26, .int .i64), (27, .int .i64)], tab := [(10000, .sl [.int .u64, .str, .str, .slc [.str, .int .u8, .int .i64, .str], .str, .int .u64, .int .u8, .bool, .bool])] }
def gConcatI11 : List Leaf → (Ex → St → Option R) → Option R
  | [.r r25, .i i26, .i i27, .r rx0], K => cond (i26 == r25.length) (cond (i27 == 0) (cond (Nat.beq rx0.length 0) (cond (Nat.ble (flatR r25).length LIM) (cond (Nat.ble r25.length LIM)
      (K (.exit 2) { fr := [(6, .own 10000 0)], tab := [(10000, .sl [.int .u64, .str, .str, .slc [.str, .int .u8, .int .i64, .str], .str, .int .u64, .int .u8, .bool, .bool] (flatR r25) 0)] }) none) none) none) none) none
  | _, _ => none
noncomputable def eConcatI : Env := env Tryz.prog [(142, dGrow cItem)] [(11, loopF schConcatI11 gConcatI11), (3, loopF schConcatI3 gConcatI3)] [(3, [(0, [0, 3, 9, 10, 11]), (1, [0, 3]), (1000, [2])]), (11, [(0, [6, 25, 26, 27]), (3, [6]), (1000, [2])])]
theorem q_concatI (l : List (List HItem)) : evFn eConcatI 106 ((aOne (vSl (rSl cItem))).enc l) ([]) some =
 cond ((↑(List.length (List.map (RCod.enc (rSl cItem)) l)) : Int) == (↑(List.length (List.map (RCod.enc (rSl cItem)) l)) : Int)) (cond (Nat.ble (List.length (flatR (List.map (RCod.enc (rSl cItem)) l))) (1000000 : Nat)) (cond (Nat.ble (List.length (List.map (RCod.enc (rSl cItem)) l)) (1000000 : Nat)) (cond (ile (↑(List.length (flatR (List.map (RCod.enc (rSl cItem)) l))) : Int) (1000000 : Int)) (cond ((↑(List.length (List.map (RCod.enc (rSl cItem)) l)) : Int) == (↑(List.length (List.map (RCod.enc (rSl cItem)) l)) : Int)) (cond (Nat.ble (List.length (flatR (List.map (RCod.enc (rSl cItem)) l))) (1000000 : Nat)) (cond (Nat.ble (List.length (List.map (RCod.enc (rSl cItem)) l)) (1000000 : Nat)) (some { v := V.slc [Sh.int IntKind.u64, Sh.str, Sh.str, Sh.slc [Sh.str, Sh.int IntKind.u8, Sh.int IntKind.i64, Sh.str], Sh.str, Sh.int IntKind.u64, Sh.int IntKind.u8, Sh.bool, Sh.bool] (flatR (List.map (RCod.enc (rSl cItem)) l)), bx := [] : DRes }) (none)) (none)) (none)) (none)) (none)) (none)) (none) := by kernel_rfl
theorem q_concatIR3 (r0 : List (List V)) (i3 : Int) (r9 : List (List V)) (i10 : Int) (i11 : Int) (K : Ex → St → Option R) : evRound eConcatI 106 3 { fr := [(0, .slc [.slc [.int .u64, .str, .str, .slc [.str, .int .u8, .int .i64, .str], .str, .int .u64, .int .u8, .bool, .bool]] r0), (3, .int .i64 i3), (9, .slc [.slc [.int .u64, .str, .str, .slc [.str, .int .u8, .int .i64, .str], .str, .int .u64, .int .u8, .bool, .bool]] r9), (10, .int .i64 i10), (11, .int .i64 i11)], tab := [] } K =
 cond (ilt i11 i10) (cond (decide ((0 : Int) ≤ i11 ∧ i11 < (↑(List.length r9) : Int))) (cond (ilt (IntKind.wrap IntKind.i64 (i3 + (↑(List.length (V.toRows (List.getD (List.getD r9 (Int.toNat i11) []) (0 : Nat) V.undef))) : Int))) (0 : Int)) (none) (K Ex.normal { fr := [((0 : Nat), V.slc [Sh.slc [Sh.int IntKind.u64, Sh.str, Sh.str, Sh.slc [Sh.str, Sh.int IntKind.u8, Sh.int IntKind.i64, Sh.str], Sh.str, Sh.int IntKind.u64, Sh.int IntKind.u8, Sh.bool, Sh.bool]] r0), ((3 : Nat), V.int IntKind.i64 (IntKind.wrap IntKind.i64 (i3 + (↑(List.length (V.toRows (List.getD (List.getD r9 (Int.toNat i11) []) (0 : Nat) V.undef))) : Int)))), ((9 : Nat), V.slc [Sh.slc [Sh.int IntKind.u64, Sh.str, Sh.str, Sh.slc [Sh.str, Sh.int IntKind.u8, Sh.int IntKind.i64, Sh.str], Sh.str, Sh.int IntKind.u64, Sh.int IntKind.u8, Sh.bool, Sh.bool]] r9), ((10 : Nat), V.int IntKind.i64 i10), ((11 : Nat), V.int IntKind.i64 (IntKind.wrap IntKind.i64 (i11 + (1 : Int))))], tab := [] : St })) (none)) (K (Ex.exit (0 : Nat)) { fr := [((0 : Nat), V.slc [Sh.slc [Sh.int IntKind.u64, Sh.str, Sh.str, Sh.slc [Sh.str, Sh.int IntKind.u8, Sh.int IntKind.i64, Sh.str], Sh.str, Sh.int IntKind.u64, Sh.int IntKind.u8, Sh.bool, Sh.bool]] r0), ((3 : Nat), V.int IntKind.i64 i3)], tab := [] : St }) := by kernel_rfl
theorem q_concatIR11 (r25 : List (List V)) (i26 : Int) (i27 : Int) (rx0 : List (List V)) (K : Ex → St → Option R) : evRound eConcatI 106 11 { fr := [(6, .own 10000 0), (25, .slc [.slc [.int .u64, .str, .str, .slc [.str, .int .u8, .int .i64, .str], .str, .int .u64, .int .u8, .bool, .bool]] r25), (26, .int .i64 i26), (27, .int .i64 i27)], tab := [(10000, .sl [.int .u64, .str, .str, .slc [.str, .int .u8, .int .i64, .str], .str, .int .u64, .int .u8, .bool, .bool] rx0 0)] } K =
 cond (ilt i27 i26) (cond (decide ((0 : Int) ≤ i27 ∧ i27 < (↑(List.length r25) : Int))) (cond (decide ((List.length rx0 + List.length (V.toRows (List.getD (List.getD r25 (Int.toNat i27) []) (0 : Nat) V.undef))) * (104 : Nat) ≤ (140737488355328 : Nat))) (K Ex.normal { fr := [((6 : Nat), V.own (10000 : Nat) (0 : Nat)), ((25 : Nat), V.slc [Sh.slc [Sh.int IntKind.u64, Sh.str, Sh.str, Sh.slc [Sh.str, Sh.int IntKind.u8, Sh.int IntKind.i64, Sh.str], Sh.str, Sh.int IntKind.u64, Sh.int IntKind.u8, Sh.bool, Sh.bool]] r25), ((26 : Nat), V.int IntKind.i64 i26), ((27 : Nat), V.int IntKind.i64 (IntKind.wrap IntKind.i64 (i27 + (1 : Int))))], tab := [((10000 : Nat), Box.sl [Sh.int IntKind.u64, Sh.str, Sh.str, Sh.slc [Sh.str, Sh.int IntKind.u8, Sh.int IntKind.i64, Sh.str], Sh.str, Sh.int IntKind.u64, Sh.int IntKind.u8, Sh.bool, Sh.bool] (rx0 ++ V.toRows (List.getD (List.getD r25 (Int.toNat i27) []) (0 : Nat) V.undef)) (0 : Nat))] : St }) (none)) (none)) (K (Ex.exit (2 : Nat)) { fr := [((6 : Nat), V.own (10000 : Nat) (0 : Nat))], tab := [((10000 : Nat), Box.sl [Sh.int IntKind.u64, Sh.str, Sh.str, Sh.slc [Sh.str, Sh.int IntKind.u8, Sh.int IntKind.i64, Sh.str], Sh.str, Sh.int IntKind.u64, Sh.int IntKind.u8, Sh.bool, Sh.bool] rx0 (0 : Nat))] : St }) := by kernel_rfl
theorem ok_concatI : FnOk Tryz.prog 106 (dConcat cItem) := by
  refine den_okF (env_ok ((TOk.nil _).cons ok_growI)) (E := eConcatI) Tryz.func106 [3, 11] (by kernel_rfl) (two2 (rounds_of rfl fun l K q h => ?_) (rounds_of rfl fun l K q h => ?_)) fun a _ h => ?_
  · unfold gConcatI3 at h
    split at h
    · rename_i r0 i3 r i10 i11
      have h1 := (cond_none h).1; replace h := (cond_none h).2; have h2 := (cond_none h).1; replace h := (cond_none h).2; have h3 := (cond_none h).1; replace h := (cond_none h).2; have h4 := (cond_none h).1; replace h := (cond_none h).2; have h5 := (cond_none h).1; replace h := (cond_none h).2
      have e1 := ieq_of h1
      have e2 := ieq_of h2
      have e3 := ieq_of h3
      subst e1 e2 e3
      have h4 : (flatR r).length ≤ 1000000 := ble_of h4
      have h5 : r.length ≤ 1000000 := ble_of h5
      refine range_ind (E := eConcatI) (f := 106) (id := 3) (A := Int) r (fun n i => { fr := [(0, .slc [.slc [.int .u64, .str, .str, .slc [.str, .int .u8, .int .i64, .str], .str, .int .u64, .int .u8, .bool, .bool]] r0), (3, .int .i64 n), (9, .slc [.slc [.int .u64, .str, .str, .slc [.str, .int .u8, .int .i64, .str], .str, .int .u64, .int .u8, .bool, .bool]] r), (10, .int .i64 r.length), (11, .int .i64 i)], tab := [] })
        (fun n i => 0 ≤ n ∧ n + ((flatR (r.drop i)).length : Int) ≤ 1000000)
        (fun n l K => K (.exit 0) { fr := [(0, .slc [.slc [.int .u64, .str, .str, .slc [.str, .int .u8, .int .i64, .str], .str, .int .u64, .int .u8, .bool, .bool]] r0), (3, .int .i64 (n + ((flatR l).length : Int)))], tab := [] }) (fun n i ⟨hn, hn2⟩ hi => ?_) (fun n _ => ?_) 0 0 (Int.le_refl _) (by omega) ⟨Int.le_refl _, by simp; omega⟩ K q (by simpa using h)
      · rw [drop_row hi, flatR_cons, List.length_append] at hn2
        have w := wr_i64 (n := n + ((V.toRows (List.getD (r.getD i []) 0 .undef)).length : Int)) (by omega) (by omega)
        have w2 := wr_i64 (n := (i : Int) + 1) (by omega) (by omega)
        refine .inl ⟨n + ((V.toRows (List.getD (r.getD i []) 0 .undef)).length : Int), ⟨by omega, by omega⟩, fun K => ?_, fun K => ?_⟩
        · rw [q_concatIR3, ilt_t (by omega), decide_eq_true (by omega), Int.toNat_natCast, w, w2, ilt_f (by omega)]
          rfl
        · show K _ _ = K _ _
          rw [flatR_cons, List.length_append, Int.natCast_add, Int.add_assoc]
      · refine ⟨.exit 0, { fr := [(0, .slc [.slc [.int .u64, .str, .str, .slc [.str, .int .u8, .int .i64, .str], .str, .int .u64, .int .u8, .bool, .bool]] r0), (3, .int .i64 n)], tab := [] }, by simp, fun K => ?_, fun K => ?_⟩
        · rw [q_concatIR3, ilt_f (Int.le_refl _)]
          rfl
        · show K _ _ = K _ _
          rw [show ((flatR []).length : Int) = 0 from rfl, Int.add_zero]
    · cases h
  · unfold gConcatI11 at h
    split at h
    · rename_i r i26 i27 acc
      have h1 := (cond_none h).1; replace h := (cond_none h).2; have h2 := (cond_none h).1; replace h := (cond_none h).2; have h3 := (cond_none h).1; replace h := (cond_none h).2; have h4 := (cond_none h).1; replace h := (cond_none h).2; have h5 := (cond_none h).1; replace h := (cond_none h).2
      have e1 := ieq_of h1
      have e2 := ieq_of h2
      subst e1 e2
      have h3 : acc.length = 0 := Nat.eq_of_beq_eq_true h3
      obtain rfl : acc = [] := List.length_eq_zero_iff.1 h3
      have h4 : (flatR r).length ≤ 1000000 := ble_of h4
      have h5 : r.length ≤ 1000000 := ble_of h5
      refine range_ind (E := eConcatI) (f := 106) (id := 11) (A := List (List V)) r (fun n i => { fr := [(6, .own 10000 0), (25, .slc [.slc [.int .u64, .str, .str, .slc [.str, .int .u8, .int .i64, .str], .str, .int .u64, .int .u8, .bool, .bool]] r), (26, .int .i64 r.length), (27, .int .i64 i)], tab := [(10000, .sl [.int .u64, .str, .str, .slc [.str, .int .u8, .int .i64, .str], .str, .int .u64, .int .u8, .bool, .bool] n 0)] })
        (fun n i => n.length + (flatR (r.drop i)).length ≤ 1000000)
        (fun n l K => K (.exit 2) { fr := [(6, .own 10000 0)], tab := [(10000, .sl [.int .u64, .str, .str, .slc [.str, .int .u8, .int .i64, .str], .str, .int .u64, .int .u8, .bool, .bool] (n ++ flatR l) 0)] }) (fun n i hn hi => ?_) (fun n _ => ?_) [] 0 (Int.le_refl _) (by omega) (by simp; omega) K q (by simpa using h)
      · rw [drop_row hi, flatR_cons, List.length_append] at hn
        have w2 := wr_i64 (n := (i : Int) + 1) (by omega) (by omega)
        refine .inl ⟨n ++ V.toRows (List.getD (r.getD i []) 0 .undef), by rw [List.length_append]; omega, fun K => ?_, fun K => ?_⟩
        · rw [q_concatIR11, ilt_t (by omega), decide_eq_true (by omega), Int.toNat_natCast, w2]
          rw [decide_eq_true (by omega)]
          rfl
        · show K _ _ = K _ _
          rw [flatR_cons, List.append_assoc]
      · refine ⟨.exit 2, { fr := [(6, .own 10000 0)], tab := [(10000, .sl [.int .u64, .str, .str, .slc [.str, .int .u8, .int .i64, .str], .str, .int .u64, .int .u8, .bool, .bool] n 0)] }, by simp, fun K => ?_, fun K => ?_⟩
        · rw [q_concatIR11, ilt_f (Int.le_refl _)]
          rfl
        · show K _ _ = K _ _
          rw [show flatR [] = [] from rfl, List.append_nil]
    · cases h
  · obtain ⟨h1, h2⟩ := bcond h
    have h1 : a.length ≤ 1000 := ble_of h1
    have h2 : sumLen a ≤ 100000 := ble_of h2
    refine (q_concatI a).trans ?_
    have e : (flatR (a.map (rSl cItem).enc)).length = sumLen a := by rw [flatR_enc, List.length_map, flat_len]
    rw [e, List.length_map, ble_t (show sumLen a ≤ 1000000 by omega), ble_t (show a.length ≤ 1000000 by omega), ile_t (by omega), flatR_enc]
    rw [show (((a.length : Int)) == (a.length : Int)) = true from beq_self_eq_true _]
    rfl
end Go.Ev

/- What lines do, in plain terms: lemmas, no condition. -/
namespace Go.Ev
open Go
set_option maxRecDepth 100000

/-- IDs rise. -/
def Sorted (l : List HItem) : Prop := l.Pairwise fun a b => a.mail.id < b.mail.id
def N.rRc (l : List HItem) (m : HMail) : Int :=
  cond (mailCheck m != 0) (mailCheck m) (cond (l.any fun y => ile m.id y.mail.id) 13 (cond (ile 64 l.length) 12 0))
def N.rPut (l : List HItem) (x : HItem) : List HItem × Int := cond (N.rRc l x.mail != 0) (l, N.rRc l x.mail) (l ++ [x], 0)
theorem last_eq {l : List HItem} (h : l ≠ []) : l.getD (l.length - 1) item0 = l.getLast h := by
  have hl : l.length ≠ 0 := fun e => h (List.length_eq_zero_iff.1 e)
  rw [List.getD_eq_getElem?_getD, List.getElem?_eq_getElem (by omega), List.getLast_eq_getElem]; rfl
/-- What a line may be. -/
structure LInv (l : List HItem) : Prop where
  sorted : Sorted l
  few : l.length ≤ 64
  small : l.all smallI = true
theorem linv0 : LInv [] := ⟨List.Pairwise.nil, by decide, rfl⟩
theorem lCheck_zero {l : List HItem} {m : HMail} (h : N.lCheck l m = 0) : N.mailCheck m = 0 ∧ (∀ h : l ≠ [], (l.getLast h).mail.id < m.id) ∧ l.length < 64 := by
  unfold N.lCheck at h
  cases hc : N.mailCheck m != 0 with
  | true => rw [hc] at h; have h : N.mailCheck m = 0 := h; rw [h] at hc; cases hc
  | false =>
    rw [hc] at h
    refine ⟨by simpa using hc, ?_, ?_⟩
    · intro hn
      have hl : 0 < l.length := List.length_pos_iff.2 hn
      rw [ilt_t (by omega), last_eq hn] at h
      cases hd : ile m.id (l.getLast hn).mail.id with
      | true => rw [hd] at h; cases h
      | false => exact ile_nof hd
    · cases hd : cond (ilt 0 l.length) (ile m.id (l.getD (l.length - 1) item0).mail.id) false with
      | true => rw [hd] at h; cases h
      | false =>
        rw [hd] at h
        cases he : ile 64 l.length with
        | true => rw [he] at h; cases h
        | false => have := ile_nof he; omega
theorem sorted_snoc {l : List HItem} (hs : Sorted l) {x : HItem} (h : ∀ h : l ≠ [], (l.getLast h).mail.id < x.mail.id) : Sorted (l ++ [x]) := by
  refine List.pairwise_append.2 ⟨hs, List.pairwise_singleton _ _, fun a ha b hb => ?_⟩
  rw [List.mem_singleton.1 hb]
  have hn : l ≠ [] := fun e => by rw [e] at ha; cases ha
  have h1 := h hn
  have e := List.dropLast_concat_getLast hn
  rw [← e] at ha
  have hs' : Sorted (l.dropLast ++ [l.getLast hn]) := by rw [e]; exact hs
  rcases List.mem_append.1 ha with ha | ha
  · exact Int.lt_trans ((List.pairwise_append.1 hs').2.2 a ha _ (List.mem_singleton.2 rfl)) h1
  · rw [List.mem_singleton.1 ha]; exact h1
theorem put_linv {l : List HItem} (h : LInv l) {x : HItem} (hx : smallI x = true) : LInv (N.lPut l x).1 := by
  unfold N.lPut
  cases hc : N.lCheck l x.mail != 0 with
  | true => exact h
  | false =>
    have hz : N.lCheck l x.mail = 0 := by simpa using hc
    obtain ⟨_, h2, h3⟩ := lCheck_zero hz
    refine ⟨sorted_snoc h.sorted h2, by simp; omega, ?_⟩
    show (l ++ [x]).all smallI = true
    rw [List.all_append, h.small, List.all_cons, hx]; rfl
theorem ix_spec (p : HItem → Bool) : ∀ (l : List HItem) (i : Int), 0 ≤ i → (N.ix p l i = -1 ∧ ∀ x ∈ l, p x = false) ∨ ∃ k : Nat, N.ix p l i = i + k ∧ k < l.length ∧ p (l.getD k item0) = true ∧ ∀ j, j < k → p (l.getD j item0) = false
  | [], i, _ => .inl ⟨rfl, fun x hx => by cases hx⟩
  | x :: r, i, hi => by
    unfold N.ix
    cases hc : p x with
    | true => exact .inr ⟨0, by simp, by simp, hc, fun j hj => by omega⟩
    | false =>
      rcases ix_spec p r (i + 1) (by omega) with ⟨h1, h2⟩ | ⟨k, h1, h2, h3, h4⟩
      · exact .inl ⟨h1, fun y hy => by
          rcases List.mem_cons.1 hy with rfl | hy
          · exact hc
          · exact h2 y hy⟩
      · refine .inr ⟨k + 1, by rw [cond_false, h1]; omega, by simp; omega, by simpa using h3, fun j hj => ?_⟩
        cases j with
        | zero => exact hc
        | succ j => simpa using h4 j (by omega)
theorem setAt_len (f : HItem → HItem) (l : List HItem) (k : Nat) : (N.setAt f l k).length = l.length := List.length_set
theorem set_ids {f : HItem → HItem} (hf : ∀ x, (f x).mail = x.mail) (l : List HItem) (k : Nat) (hk : k < l.length) : (N.setAt f l k).map HItem.mail = l.map HItem.mail := by
  unfold N.setAt
  rw [List.map_set, hf]
  refine List.ext_getElem (by simp) fun i h1 h2 => ?_
  rw [List.getElem_set]
  split
  · rename_i e
    subst e
    rw [List.getD_eq_getElem?_getD, List.getElem?_eq_getElem hk]
    simp
  · rfl
theorem sorted_of_mails {l l' : List HItem} (h : l'.map HItem.mail = l.map HItem.mail) (hs : Sorted l) : Sorted l' := by
  have e : ∀ l : List HItem, Sorted l ↔ (l.map HItem.mail).Pairwise fun a b => a.id < b.id := fun l => by
    unfold Sorted; rw [List.pairwise_map]
  rw [e, h, ← e]; exact hs
theorem small_of_mails {l l' : List HItem} (h : l'.map HItem.mail = l.map HItem.mail) (hs : l.all smallI = true) : l'.all smallI = true := by
  have e : ∀ l : List HItem, l.all smallI = (l.map HItem.mail).all smallM := fun l => by rw [List.all_map]; rfl
  rw [e, h, ← e]; exact hs
theorem linv_of_mails {l l' : List HItem} (h : l'.map HItem.mail = l.map HItem.mail) (hs : LInv l) : LInv l' := by
  have hl : l'.length = l.length := by have := congrArg List.length h; simpa using this
  exact ⟨sorted_of_mails h hs.sorted, by have := hs.few; omega, small_of_mails h hs.small⟩
theorem lend_linv {l : List HItem} (h : LInv l) : LInv (N.lLend l).1 := by
  unfold N.lLend
  rcases ix_spec N.isReady l 0 (Int.le_refl _) with ⟨h1, _⟩ | ⟨k, h1, h2, _⟩
  · rw [h1]; exact h
  · rw [h1, ilt_f (by omega)]
    have e : (0 + (k : Int)).toNat = k := by omega
    rw [e]
    exact linv_of_mails (set_ids (f := N.lendI) (fun _ => rfl) l k h2) h
theorem back_linv {l : List HItem} (h : LInv l) (id : Int) : LInv (N.lBack l id).1 := by
  unfold N.lBack
  rcases ix_spec (N.isId id) l 0 (Int.le_refl _) with ⟨h1, _⟩ | ⟨k, h1, h2, _⟩
  · rw [h1]; exact h
  · rw [h1, ilt_f (by omega)]
    have e : (0 + (k : Int)).toNat = k := by omega
    rw [e]
    simp only [cond_false]
    cases (l.getD k item0).lent with
    | true => exact linv_of_mails (set_ids (f := N.backI) (fun _ => rfl) l k h2) h
    | false => exact h
theorem cut_sub (l : List HItem) (k : Nat) : (N.cutAt l k).Sublist l := by
  unfold N.cutAt
  have : (l.take k ++ l.drop (k + 1)).Sublist (l.take k ++ l.drop k) := List.Sublist.append (List.Sublist.refl _) (by
    rw [← List.drop_drop]
    exact List.drop_sublist 1 (l.drop k))
  rwa [List.take_append_drop] at this
theorem linv_sub {l l' : List HItem} (h : l'.Sublist l) (hs : LInv l) : LInv l' :=
  ⟨List.Pairwise.sublist h hs.sorted, Nat.le_trans h.length_le hs.few, by
    rw [List.all_eq_true]
    exact fun x hx => List.all_eq_true.1 hs.small x (h.subset hx)⟩
theorem remove_linv {l : List HItem} (h : LInv l) (id : Int) : LInv (N.lRemove l id).1 := by
  unfold N.lRemove
  cases ilt (N.ix (N.isId id) l 0) 0 with
  | true => exact h
  | false => exact linv_sub (cut_sub l _) h
theorem wake_mail (x : HItem) : (N.wakeI x).mail = x.mail := by
  unfold N.wakeI; cases x.lent <;> rfl
theorem wake_linv {l : List HItem} (h : LInv l) : LInv (N.lWake l) := by
  refine linv_of_mails ?_ h
  unfold N.lWake
  rw [List.map_map]
  exact List.map_congr_left fun x _ => wake_mail x
theorem ready_le (l : List HItem) : 0 ≤ N.lReady l ∧ N.lReady l ≤ l.length := by
  induction l with
  | nil => exact ⟨Int.le_refl _, Int.le_refl _⟩
  | cons x r ih =>
    unfold N.lReady
    cases x.lent with
    | true => simp only [cond_true, List.length_cons]; omega
    | false => simp only [cond_false, List.length_cons]; omega
theorem ready_set : ∀ (l : List HItem) (k : Nat), k < l.length → (l.getD k item0).lent = false → N.lReady (N.setAt N.lendI l k) = N.lReady l - 1
  | [], k, h, _ => by cases h
  | x :: r, 0, _, h => by
    have h : x.lent = false := h
    show N.lReady (N.lendI x :: r) = N.lReady (x :: r) - 1
    unfold N.lReady
    rw [h]
    show N.lReady r = 1 + N.lReady r - 1
    omega
  | x :: r, k + 1, hk, h => by
    have ih := ready_set r k (by simpa using hk) (by simpa using h)
    show N.lReady (x :: N.setAt N.lendI r k) = N.lReady (x :: r) - 1
    unfold N.lReady
    rw [ih]
    cases x.lent with
    | true => rfl
    | false => simp only [cond_false]; omega
theorem ready_none {l : List HItem} (h : ∀ x ∈ l, N.isReady x = false) : N.lReady l = 0 := by
  induction l with
  | nil => rfl
  | cons x r ih =>
    have h1 := h x List.mem_cons_self
    have h1 : x.lent = true := by
      unfold N.isReady at h1
      cases hx : x.lent with
      | true => rfl
      | false => rw [hx] at h1; cases h1
    unfold N.lReady
    rw [h1, cond_true]
    exact ih fun y hy => h y (List.mem_cons_of_mem _ hy)
end Go.Ev

/- The functions on lines answer what the plain ones do: lemmas. -/
namespace Go.Ev
open Go Go.Proofs
set_option maxRecDepth 100000
-- FOLD

/-- A lent box with a function in it, nothing in that. -/
def bFn0 (f : FuncId) : BCod Unit where
  ok := fun | [[.fn g [] []]] => Nat.beq f g | _ => false
  enc _ := [[.fn f [] []]]
  dec _ := ()
  len bx h := by
    split at h
    · rfl
    · cases h
  law bx h j cs cs' hj hj' := by
    split at h
    · rename_i g
      have := Nat.eq_of_beq_eq_true h; subst this
      have e : cs' = cs := by rw [hj] at hj'; exact (Option.some.inj hj').symm
      subst e
      exact ⟨rfl, fun w J ρ k y hk hy val hv hall => hy⟩
    · cases h
theorem fold_item (r : List V) : (⟨⟨(r.getD 0 .undef).toInt, (r.getD 1 .undef).toStr, (r.getD 2 .undef).toStr, (r.getD 3 .undef).toRows.map fun r => ({ key := V.toStr (List.getD r 0 .undef), kind := V.toInt (List.getD r 1 .undef), num := V.toInt (List.getD r 2 .undef), text := V.toStr (List.getD r 3 .undef) } : HPair), (r.getD 4 .undef).toStr, (r.getD 5 .undef).toInt, (r.getD 6 .undef).toInt⟩, (r.getD 7 .undef).toBool, (r.getD 8 .undef).toBool⟩ : HItem) = cItem.dec r := rfl
theorem fold_itemE (x : HItem) : [V.int .u64 x.mail.id, .str x.mail.shop, .str x.mail.key, .slc [.str, .int .u8, .int .i64, .str] (x.mail.head.map fun p => [V.str p.key, V.int .u8 p.kind, V.int .i64 p.num, V.str p.text]), .str x.mail.body, .int .u64 x.mail.due, .int .u8 x.mail.hops, .bool x.lent, .bool x.again] = cItem.enc x := rfl
theorem fold_itemD (x : HItem) : (⟨⟨x.mail.id, x.mail.shop, x.mail.key, (x.mail.head.map fun p => [V.str p.key, V.int .u8 p.kind, V.int .i64 p.num, V.str p.text]).map fun r => ({ key := V.toStr (List.getD r 0 .undef), kind := V.toInt (List.getD r 1 .undef), num := V.toInt (List.getD r 2 .undef), text := V.toStr (List.getD r 3 .undef) } : HPair), x.mail.body, x.mail.due, x.mail.hops⟩, x.lent, x.again⟩ : HItem) = x := cItem.de x
theorem fold_itemX (x : HItem) : (⟨x.mail, x.lent, x.again⟩ : HItem) = x := rfl
theorem item_mail (r : List V) : cMail.dec r = (cItem.dec r).mail := rfl
def dIClone : Den := den (aOne (vAgg cItem)) bNil (oV (vAgg cItem)) (fun x _ => smallI x) fun x _ => (x, ())
def dLCheck : Den := den (aCons (vAgg cLine) (aOne (vAgg cMail))) bNil (oV (vInt .i64)) (fun a _ => Nat.ble a.1.length 1000) fun a _ => (N.lCheck a.1 a.2, ())
def dLPut : Den := den (aCons (vAgg cLine) (aOne (vAgg cItem))) bNil (oTup (aCons (vAgg cLine) (aOne (vInt .i64)))) (fun a _ => cond (Nat.ble a.1.length 1000) (smallI a.2) false) fun a _ => (N.lPut a.1 a.2, ())
def dLAdd : Den := den (aCons (vAgg cLine) (aOne (vAgg cMail))) bNil (oTup (aCons (vAgg cLine) (aOne (vInt .i64)))) (fun a _ => cond (Nat.ble a.1.length 1000) (smallM a.2) false) fun a _ => (N.lPut a.1 ⟨a.2, false, false⟩, ())
def dMarkI (g : HItem → HItem) : Den := den (aOne (vPtr 0)) (bOne cItem) (oTup aNil) (fun _ _ => true) fun _ x => ((), g x)
def dAllM : Den := den (aOne (vAgg cMail)) bNil (oV vBool) (fun _ _ => true) fun _ _ => (true, ())
def dReadyF (f : FuncId) : Den := den (aCons (vAgg cItem) (aOne (vPtr 0))) (bFn0 f) (oV vBool) (fun _ _ => true) fun a _ => (N.isReady a.1, ())
def dOfF : Den := den (aCons (vAgg cItem) (aOne (vPtr 0))) (bOne (rInt .u64)) (oV vBool) (fun _ _ => true) fun a id => (N.isId id a.1, id)
def dIxR (f g : FuncId) : Den := den (aCons (vSl cItem) (aOne (vFn f 0))) (bFn0 g) (oV (vInt .i64)) (fun a _ => Nat.ble a.1.length 1000) fun a _ => (N.ix N.isReady a.1 0, ())
def dIxO (f : FuncId) : Den := den (aCons (vSl cItem) (aOne (vFn f 0))) (bOne (rInt .u64)) (oV (vInt .i64)) (fun a _ => Nat.ble a.1.length 1000) fun a id => (N.ix (N.isId id) a.1 0, id)
def dReadyL (g : FuncId) : Den := den (aCons (vAgg cLine) (aOne (vFn0 g))) bNil (oV (vInt .i64)) (fun a _ => Nat.ble a.1.length 1000) fun a _ => (N.ix N.isReady a.1 0, ())
def dOfL : Den := den (aCons (vAgg cLine) (aOne (vInt .u64))) bNil (oV (vInt .i64)) (fun a _ => Nat.ble a.1.length 1000) fun a _ => (N.ix (N.isId a.2) a.1 0, ())
def goodAt (l : List HItem) (k : Int) : Bool := cond (ile 0 k) (cond (ilt k l.length) (Nat.ble l.length 1000) false) false
def dCloneIO : Den := den (aOne (vSl cItem)) bNil (oOwn cItem) (fun l _ => cond (Nat.beq l.length 0) false (Nat.ble l.length 1000)) fun l _ => (l, ())
def dWith (f : FuncId) (g : HItem → HItem) : Den := den (aCons (vAgg cLine) (aCons (vInt .i64) (aOne (vFn0 f)))) bNil (oV (vAgg cLine)) (fun a _ => goodAt a.1 a.2.1) fun a _ => (N.setAt g a.1 a.2.1.toNat, ())
noncomputable def eIClone : Env := env Tryz.prog [(107, dMailCopy)] [] []
theorem q_iClone (x : HItem) : evFn eIClone 54 ((aOne (vAgg cItem)).enc x) ([]) some =
 cond (smallM { id := HMail.id (HItem.mail x), shop := HMail.shop (HItem.mail x), key := HMail.key (HItem.mail x), head := List.map (fun r => { key := V.toStr (List.getD r (0 : Nat) V.undef), kind := V.toInt (List.getD r (1 : Nat) V.undef), num := V.toInt (List.getD r (2 : Nat) V.undef), text := V.toStr (List.getD r (3 : Nat) V.undef) : HPair }) (List.map (fun p => [V.str (HPair.key p), V.int IntKind.u8 (HPair.kind p), V.int IntKind.i64 (HPair.num p), V.str (HPair.text p)]) (HMail.head (HItem.mail x))), body := HMail.body (HItem.mail x), due := HMail.due (HItem.mail x), hops := HMail.hops (HItem.mail x) : HMail }) (some { v := V.agg [V.int IntKind.u64 (HMail.id (HItem.mail x)), V.str (HMail.shop (HItem.mail x)), V.str (HMail.key (HItem.mail x)), V.slc [Sh.str, Sh.int IntKind.u8, Sh.int IntKind.i64, Sh.str] (List.map (fun p => [V.str (HPair.key p), V.int IntKind.u8 (HPair.kind p), V.int IntKind.i64 (HPair.num p), V.str (HPair.text p)]) (List.map (fun r => { key := V.toStr (List.getD r (0 : Nat) V.undef), kind := V.toInt (List.getD r (1 : Nat) V.undef), num := V.toInt (List.getD r (2 : Nat) V.undef), text := V.toStr (List.getD r (3 : Nat) V.undef) : HPair }) (List.map (fun p => [V.str (HPair.key p), V.int IntKind.u8 (HPair.kind p), V.int IntKind.i64 (HPair.num p), V.str (HPair.text p)]) (HMail.head (HItem.mail x))))), V.str (HMail.body (HItem.mail x)), V.int IntKind.u64 (HMail.due (HItem.mail x)), V.int IntKind.u8 (HMail.hops (HItem.mail x)), V.bool (HItem.lent x), V.bool (HItem.again x)], bx := [] : DRes }) (none) := by kernel_rfl
noncomputable def eLCheck : Env := env Tryz.prog [(144, dMailCheck)] [] []
theorem q_lCheck (l : List HItem) (m : HMail) : evFn eLCheck 110 ((aCons (vAgg cLine) (aOne (vAgg cMail))).enc (l, m)) ([]) some =
 cond (N.mailCheck { id := HMail.id m, shop := HMail.shop m, key := HMail.key m, head := List.map (fun r => { key := V.toStr (List.getD r (0 : Nat) V.undef), kind := V.toInt (List.getD r (1 : Nat) V.undef), num := V.toInt (List.getD r (2 : Nat) V.undef), text := V.toStr (List.getD r (3 : Nat) V.undef) : HPair }) (List.map (fun p => [V.str (HPair.key p), V.int IntKind.u8 (HPair.kind p), V.int IntKind.i64 (HPair.num p), V.str (HPair.text p)]) (HMail.head m)), body := HMail.body m, due := HMail.due m, hops := HMail.hops m : HMail } != (0 : Int)) (some { v := V.int IntKind.i64 (N.mailCheck { id := HMail.id m, shop := HMail.shop m, key := HMail.key m, head := List.map (fun r => { key := V.toStr (List.getD r (0 : Nat) V.undef), kind := V.toInt (List.getD r (1 : Nat) V.undef), num := V.toInt (List.getD r (2 : Nat) V.undef), text := V.toStr (List.getD r (3 : Nat) V.undef) : HPair }) (List.map (fun p => [V.str (HPair.key p), V.int IntKind.u8 (HPair.kind p), V.int IntKind.i64 (HPair.num p), V.str (HPair.text p)]) (HMail.head m)), body := HMail.body m, due := HMail.due m, hops := HMail.hops m : HMail }), bx := [] : DRes }) (cond (ilt (0 : Int) (↑(List.length (List.map (RCod.enc cItem) l)) : Int)) (cond (decide ((0 : Int) ≤ IntKind.wrap IntKind.i64 ((↑(List.length (List.map (RCod.enc cItem) l)) : Int) - (1 : Int)) ∧ IntKind.wrap IntKind.i64 ((↑(List.length (List.map (RCod.enc cItem) l)) : Int) - (1 : Int)) < (↑(List.length (List.map (RCod.enc cItem) l)) : Int))) (cond (ile (HMail.id m) (V.toInt (List.getD (List.getD (List.map (RCod.enc cItem) l) (Int.toNat (IntKind.wrap IntKind.i64 ((↑(List.length (List.map (RCod.enc cItem) l)) : Int) - (1 : Int)))) []) (0 : Nat) V.undef))) (some { v := V.int IntKind.i64 (13 : Int), bx := [] : DRes }) (cond (ile (64 : Int) (↑(List.length (List.map (RCod.enc cItem) l)) : Int)) (some { v := V.int IntKind.i64 (12 : Int), bx := [] : DRes }) (some { v := V.int IntKind.i64 (0 : Int), bx := [] : DRes }))) (none)) (cond (ile (64 : Int) (↑(List.length (List.map (RCod.enc cItem) l)) : Int)) (some { v := V.int IntKind.i64 (12 : Int), bx := [] : DRes }) (some { v := V.int IntKind.i64 (0 : Int), bx := [] : DRes }))) := by kernel_rfl
noncomputable def eLPut : Env := env Tryz.prog [(110, dLCheck), (54, dIClone), (106, dConcat cItem)] [] []
theorem q_lPut (l : List HItem) (x : HItem) : evFn eLPut 60 ((aCons (vAgg cLine) (aOne (vAgg cItem))).enc (l, x)) ([]) some =
 cond (Nat.ble (List.length (List.map (RCod.dec cItem) (List.map (RCod.enc cItem) l))) (1000 : Nat)) (cond (N.lCheck (List.map (RCod.dec cItem) (List.map (RCod.enc cItem) l)) { id := HMail.id (HItem.mail x), shop := HMail.shop (HItem.mail x), key := HMail.key (HItem.mail x), head := List.map (fun r => { key := V.toStr (List.getD r (0 : Nat) V.undef), kind := V.toInt (List.getD r (1 : Nat) V.undef), num := V.toInt (List.getD r (2 : Nat) V.undef), text := V.toStr (List.getD r (3 : Nat) V.undef) : HPair }) (List.map (fun p => [V.str (HPair.key p), V.int IntKind.u8 (HPair.kind p), V.int IntKind.i64 (HPair.num p), V.str (HPair.text p)]) (HMail.head (HItem.mail x))), body := HMail.body (HItem.mail x), due := HMail.due (HItem.mail x), hops := HMail.hops (HItem.mail x) : HMail } != (0 : Int)) (some { v := V.tup [V.agg [V.slc [Sh.int IntKind.u64, Sh.str, Sh.str, Sh.slc [Sh.str, Sh.int IntKind.u8, Sh.int IntKind.i64, Sh.str], Sh.str, Sh.int IntKind.u64, Sh.int IntKind.u8, Sh.bool, Sh.bool] (List.map (RCod.enc cItem) l)], V.int IntKind.i64 (N.lCheck (List.map (RCod.dec cItem) (List.map (RCod.enc cItem) l)) { id := HMail.id (HItem.mail x), shop := HMail.shop (HItem.mail x), key := HMail.key (HItem.mail x), head := List.map (fun r => { key := V.toStr (List.getD r (0 : Nat) V.undef), kind := V.toInt (List.getD r (1 : Nat) V.undef), num := V.toInt (List.getD r (2 : Nat) V.undef), text := V.toStr (List.getD r (3 : Nat) V.undef) : HPair }) (List.map (fun p => [V.str (HPair.key p), V.int IntKind.u8 (HPair.kind p), V.int IntKind.i64 (HPair.num p), V.str (HPair.text p)]) (HMail.head (HItem.mail x))), body := HMail.body (HItem.mail x), due := HMail.due (HItem.mail x), hops := HMail.hops (HItem.mail x) : HMail })], bx := [] : DRes }) (cond (smallI { mail := { id := HMail.id (HItem.mail x), shop := HMail.shop (HItem.mail x), key := HMail.key (HItem.mail x), head := List.map (fun r => { key := V.toStr (List.getD r (0 : Nat) V.undef), kind := V.toInt (List.getD r (1 : Nat) V.undef), num := V.toInt (List.getD r (2 : Nat) V.undef), text := V.toStr (List.getD r (3 : Nat) V.undef) : HPair }) (List.map (fun p => [V.str (HPair.key p), V.int IntKind.u8 (HPair.kind p), V.int IntKind.i64 (HPair.num p), V.str (HPair.text p)]) (HMail.head (HItem.mail x))), body := HMail.body (HItem.mail x), due := HMail.due (HItem.mail x), hops := HMail.hops (HItem.mail x) : HMail }, lent := HItem.lent x, again := HItem.again x : HItem }) (cond (Nat.ble (List.length (List.map (RCod.dec cItem) (List.map (RCod.enc cItem) l)) + (1 : Nat)) (100000 : Nat)) (some { v := V.tup [V.agg [V.slc [Sh.int IntKind.u64, Sh.str, Sh.str, Sh.slc [Sh.str, Sh.int IntKind.u8, Sh.int IntKind.i64, Sh.str], Sh.str, Sh.int IntKind.u64, Sh.int IntKind.u8, Sh.bool, Sh.bool] (List.map (RCod.enc cItem) (N.flat [List.map (RCod.dec cItem) (List.map (RCod.enc cItem) l), List.map (RCod.dec cItem) [[V.int IntKind.u64 (HMail.id (HItem.mail x)), V.str (HMail.shop (HItem.mail x)), V.str (HMail.key (HItem.mail x)), V.slc [Sh.str, Sh.int IntKind.u8, Sh.int IntKind.i64, Sh.str] (List.map (fun p => [V.str (HPair.key p), V.int IntKind.u8 (HPair.kind p), V.int IntKind.i64 (HPair.num p), V.str (HPair.text p)]) (List.map (fun r => { key := V.toStr (List.getD r (0 : Nat) V.undef), kind := V.toInt (List.getD r (1 : Nat) V.undef), num := V.toInt (List.getD r (2 : Nat) V.undef), text := V.toStr (List.getD r (3 : Nat) V.undef) : HPair }) (List.map (fun p => [V.str (HPair.key p), V.int IntKind.u8 (HPair.kind p), V.int IntKind.i64 (HPair.num p), V.str (HPair.text p)]) (HMail.head (HItem.mail x))))), V.str (HMail.body (HItem.mail x)), V.int IntKind.u64 (HMail.due (HItem.mail x)), V.int IntKind.u8 (HMail.hops (HItem.mail x)), V.bool (HItem.lent x), V.bool (HItem.again x)]]]))], V.int IntKind.i64 (0 : Int)], bx := [] : DRes }) (none)) (none))) (none) := by kernel_rfl
noncomputable def eLAdd : Env := env Tryz.prog [(60, dLPut)] [] []
theorem q_lAdd (l : List HItem) (m : HMail) : evFn eLAdd 44 ((aCons (vAgg cLine) (aOne (vAgg cMail))).enc (l, m)) ([]) some =
 cond (bif Nat.ble (List.length (List.map (RCod.dec cItem) (List.map (RCod.enc cItem) l))) (1000 : Nat) then smallI { mail := { id := HMail.id m, shop := HMail.shop m, key := HMail.key m, head := List.map (fun r => { key := V.toStr (List.getD r (0 : Nat) V.undef), kind := V.toInt (List.getD r (1 : Nat) V.undef), num := V.toInt (List.getD r (2 : Nat) V.undef), text := V.toStr (List.getD r (3 : Nat) V.undef) : HPair }) (List.map (fun p => [V.str (HPair.key p), V.int IntKind.u8 (HPair.kind p), V.int IntKind.i64 (HPair.num p), V.str (HPair.text p)]) (HMail.head m)), body := HMail.body m, due := HMail.due m, hops := HMail.hops m : HMail }, lent := false, again := false : HItem } else false) (some { v := V.tup [V.agg [V.slc [Sh.int IntKind.u64, Sh.str, Sh.str, Sh.slc [Sh.str, Sh.int IntKind.u8, Sh.int IntKind.i64, Sh.str], Sh.str, Sh.int IntKind.u64, Sh.int IntKind.u8, Sh.bool, Sh.bool] (List.map (RCod.enc cItem) (Prod.fst (N.lPut (List.map (RCod.dec cItem) (List.map (RCod.enc cItem) l)) { mail := { id := HMail.id m, shop := HMail.shop m, key := HMail.key m, head := List.map (fun r => { key := V.toStr (List.getD r (0 : Nat) V.undef), kind := V.toInt (List.getD r (1 : Nat) V.undef), num := V.toInt (List.getD r (2 : Nat) V.undef), text := V.toStr (List.getD r (3 : Nat) V.undef) : HPair }) (List.map (fun p => [V.str (HPair.key p), V.int IntKind.u8 (HPair.kind p), V.int IntKind.i64 (HPair.num p), V.str (HPair.text p)]) (HMail.head m)), body := HMail.body m, due := HMail.due m, hops := HMail.hops m : HMail }, lent := false, again := false : HItem })))], V.int IntKind.i64 (Prod.snd (N.lPut (List.map (RCod.dec cItem) (List.map (RCod.enc cItem) l)) { mail := { id := HMail.id m, shop := HMail.shop m, key := HMail.key m, head := List.map (fun r => { key := V.toStr (List.getD r (0 : Nat) V.undef), kind := V.toInt (List.getD r (1 : Nat) V.undef), num := V.toInt (List.getD r (2 : Nat) V.undef), text := V.toStr (List.getD r (3 : Nat) V.undef) : HPair }) (List.map (fun p => [V.str (HPair.key p), V.int IntKind.u8 (HPair.kind p), V.int IntKind.i64 (HPair.num p), V.str (HPair.text p)]) (HMail.head m)), body := HMail.body m, due := HMail.due m, hops := HMail.hops m : HMail }, lent := false, again := false : HItem }))], bx := [] : DRes }) (none) := by kernel_rfl
noncomputable def eNone : Env := env Tryz.prog [] [] []
theorem q_markL (x : HItem) : evFn eNone 67 ((aOne (vPtr 0)).enc ()) ((bOne cItem).enc x) some =
 some { v := V.tup [], bx := [[V.int IntKind.u64 (HMail.id (HItem.mail x)), V.str (HMail.shop (HItem.mail x)), V.str (HMail.key (HItem.mail x)), V.slc [Sh.str, Sh.int IntKind.u8, Sh.int IntKind.i64, Sh.str] (List.map (fun p => [V.str (HPair.key p), V.int IntKind.u8 (HPair.kind p), V.int IntKind.i64 (HPair.num p), V.str (HPair.text p)]) (HMail.head (HItem.mail x))), V.str (HMail.body (HItem.mail x)), V.int IntKind.u64 (HMail.due (HItem.mail x)), V.int IntKind.u8 (HMail.hops (HItem.mail x)), V.bool true, V.bool (HItem.again x)]] : DRes } := by kernel_rfl
theorem q_markB (x : HItem) : evFn eNone 102 ((aOne (vPtr 0)).enc ()) ((bOne cItem).enc x) some =
 some { v := V.tup [], bx := [[V.int IntKind.u64 (HMail.id (HItem.mail x)), V.str (HMail.shop (HItem.mail x)), V.str (HMail.key (HItem.mail x)), V.slc [Sh.str, Sh.int IntKind.u8, Sh.int IntKind.i64, Sh.str] (List.map (fun p => [V.str (HPair.key p), V.int IntKind.u8 (HPair.kind p), V.int IntKind.i64 (HPair.num p), V.str (HPair.text p)]) (HMail.head (HItem.mail x))), V.str (HMail.body (HItem.mail x)), V.int IntKind.u64 (HMail.due (HItem.mail x)), V.int IntKind.u8 (HMail.hops (HItem.mail x)), V.bool false, V.bool true]] : DRes } := by kernel_rfl
theorem q_markW (x : HItem) : evFn eNone 66 ((aOne (vPtr 0)).enc ()) ((bOne cItem).enc x) some =
 some { v := V.tup [], bx := [[V.int IntKind.u64 (HMail.id (HItem.mail x)), V.str (HMail.shop (HItem.mail x)), V.str (HMail.key (HItem.mail x)), V.slc [Sh.str, Sh.int IntKind.u8, Sh.int IntKind.i64, Sh.str] (List.map (fun p => [V.str (HPair.key p), V.int IntKind.u8 (HPair.kind p), V.int IntKind.i64 (HPair.num p), V.str (HPair.text p)]) (HMail.head (HItem.mail x))), V.str (HMail.body (HItem.mail x)), V.int IntKind.u64 (HMail.due (HItem.mail x)), V.int IntKind.u8 (HMail.hops (HItem.mail x)), V.bool false, V.bool true]] : DRes } := by kernel_rfl
theorem q_allM (m : HMail) : evFn eNone 57 ((aOne (vAgg cMail)).enc m) ([]) some =
 some { v := V.bool true, bx := [] : DRes } := by kernel_rfl
noncomputable def eReadyF : Env := env Tryz.prog [(57, dAllM)] [] []
theorem q_readyF (x : HItem) : evFn eReadyF 109 ((aCons (vAgg cItem) (aOne (vPtr 0))).enc (x, ())) ((bFn0 57).enc ()) some =
 cond (!HItem.lent x) (some { v := V.bool true, bx := [[V.fn 57 [] []]] : DRes }) (some { v := V.bool false, bx := [[V.fn 57 [] []]] : DRes }) := by kernel_rfl
theorem q_ofF (x : HItem) (id : Int) : evFn eNone 139 ((aCons (vAgg cItem) (aOne (vPtr 0))).enc (x, ())) ((bOne (rInt .u64)).enc id) some =
 some { v := V.bool (HMail.id (HItem.mail x) == id), bx := [[V.int IntKind.u64 id]] : DRes } := by kernel_rfl
noncomputable def eCloneIO : Env := env Tryz.prog [] [] [] [113]
theorem q_cloneIO (l : List HItem) : evFn eCloneIO 113 ((aOne (vSl cItem)).enc l) ([]) some =
 cond (!Nat.beq (List.length (List.map (RCod.enc cItem) l)) (0 : Nat)) (cond (Nat.beq (List.length (List.map (RCod.enc cItem) l)) (0 : Nat)) (some { v := V.slc [Sh.int IntKind.u64, Sh.str, Sh.str, Sh.slc [Sh.str, Sh.int IntKind.u8, Sh.int IntKind.i64, Sh.str], Sh.str, Sh.int IntKind.u64, Sh.int IntKind.u8, Sh.bool, Sh.bool] [], bx := [] : DRes }) (cond (decide (List.length (List.map (RCod.enc cItem) l) * (104 : Nat) ≤ (140737488355328 : Nat))) (some { v := V.own (1000 : Nat) (0 : Nat), bx := [], nb := [Box.sl [Sh.int IntKind.u64, Sh.str, Sh.str, Sh.slc [Sh.str, Sh.int IntKind.u8, Sh.int IntKind.i64, Sh.str], Sh.str, Sh.int IntKind.u64, Sh.int IntKind.u8, Sh.bool, Sh.bool] (List.map (RCod.enc cItem) l) (0 : Nat)] : DRes }) (none))) (none) := by kernel_rfl
theorem ok_iClone : FnOk Tryz.prog 54 dIClone := by
  refine den_okF (env_ok ((TOk.nil _).cons ok_mailCopy)) (E := eIClone) Tryz.func54 [] (by kernel_rfl) none0 fun x _ h => ?_
  refine (q_iClone x).trans ?_
  have h : smallM x.mail = true := h
  show _ = some (⟨.agg (cItem.enc x), [], []⟩ : DRes)
  simp only [fold_de, h, cond_true, pairs_enc]
  rfl
theorem ok_lCheck : FnOk Tryz.prog 110 dLCheck := by
  refine den_okF (env_ok ((TOk.nil _).cons ok_mailCheck)) (E := eLCheck) Tryz.func110 [] (by kernel_rfl) none0 fun a _ h => ?_
  obtain ⟨l, m⟩ := a
  have h : l.length ≤ 1000 := ble_of h
  refine (q_lCheck l m).trans ?_
  show _ = some (⟨.int .i64 (N.lCheck l m), [], []⟩ : DRes)
  simp only [fold_de, List.length_map]
  unfold N.lCheck
  cases N.mailCheck m != 0 with
  | true => rfl
  | false =>
    by_cases hl : 0 < l.length
    · have w : IntKind.wrap .i64 ((l.length : Int) - 1) = (l.length : Int) - 1 := wr_i64 (by omega) (by omega)
      have ei : ((l.length : Int) - 1).toNat = l.length - 1 := by omega
      have eg := getD_enc cItem l (l.length - 1) item0 (by omega)
      rw [w, ei, eg]
      simp (disch := omega) only [evs]
      show cond (ile m.id (l.getD (l.length - 1) item0).mail.id) _ _ = _
      cases ile m.id (l.getD (l.length - 1) item0).mail.id with
      | true => rfl
      | false => cases ile 64 (l.length : Int) <;> rfl
    · simp (disch := omega) only [evs]
theorem ok_markL : FnOk Tryz.prog 67 (dMarkI N.lendI) := den_okF (env_ok (TOk.nil _)) (E := eNone) Tryz.func67 [] (by kernel_rfl) none0 fun _ x _ => q_markL x
theorem ok_markB : FnOk Tryz.prog 102 (dMarkI N.backI) := den_okF (env_ok (TOk.nil _)) (E := eNone) Tryz.func102 [] (by kernel_rfl) none0 fun _ x _ => q_markB x
theorem ok_markW : FnOk Tryz.prog 66 (dMarkI N.backI) := den_okF (env_ok (TOk.nil _)) (E := eNone) Tryz.func66 [] (by kernel_rfl) none0 fun _ x _ => q_markW x
theorem ok_allM : FnOk Tryz.prog 57 dAllM := den_okF (env_ok (TOk.nil _)) (E := eNone) Tryz.func57 [] (by kernel_rfl) none0 fun m _ _ => q_allM m
theorem ok_readyF : FnOk Tryz.prog 109 (dReadyF 57) := by
  refine den_okF (env_ok ((TOk.nil _).cons ok_allM)) (E := eReadyF) Tryz.func109 [] (by kernel_rfl) none0 fun a _ _ => ?_
  obtain ⟨x, ⟨⟩⟩ := a
  refine (q_readyF x).trans ?_
  show _ = some (⟨.bool (N.isReady x), [[V.fn 57 [] []]], []⟩ : DRes)
  unfold N.isReady
  cases x.lent <;> rfl
theorem ok_ofF : FnOk Tryz.prog 139 dOfF := den_okF (env_ok (TOk.nil _)) (E := eNone) Tryz.func139 [] (by kernel_rfl) none0 fun a id _ => q_ofF a.1 id
theorem ok_cloneIO : FnOk Tryz.prog 113 dCloneIO := by
  refine den_okF (env_ok (TOk.nil _)) (E := eCloneIO) Tryz.func113 [] (by kernel_rfl) none0 fun l _ h => ?_
  have h : cond (Nat.beq l.length 0) false (Nat.ble l.length 1000) = true := h
  cases e : Nat.beq l.length 0 with
  | true => rw [e] at h; cases h
  | false =>
    rw [e] at h
    have h1 : l.length ≤ 1000 := ble_of h
    refine (q_cloneIO l).trans ?_
    simp (disch := omega) only [evs, e, Bool.not_false]
    rfl
theorem ok_lPut : FnOk Tryz.prog 60 dLPut := by
  refine den_okF (env_ok ((((TOk.nil _).cons ok_concatI).cons ok_iClone).cons ok_lCheck)) (E := eLPut) Tryz.func60 [] (by kernel_rfl) none0 fun a _ h => ?_
  obtain ⟨l, x⟩ := a
  obtain ⟨h1, h2⟩ := bcond h
  have h1 : l.length ≤ 1000 := ble_of h1
  have h2 : smallI x = true := h2
  refine (q_lPut l x).trans ?_
  show _ = some (⟨.tup [.agg (cLine.enc (N.lPut l x).1), .int .i64 (N.lPut l x).2], [], []⟩ : DRes)
  simp only [fold_de, dec_encs, fold_itemX]
  unfold N.lPut
  cases N.lCheck l x.mail != 0 with
  | true => simp (disch := omega) only [evs]; rfl
  | false =>
    have hf : N.flat [l, List.map cItem.dec [cItem.enc x]] = l ++ [x] := by
      rw [List.map_cons, cItem.de x, List.map_nil, flat_two]
    simp (disch := omega) only [evs, pairs_enc, fold_itemX, fold_itemE, h2, hf]
    rfl
end Go.Ev
