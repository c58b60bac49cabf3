/- The program's forms of words answer what the plain ones do: lemmas, no condition. -/
import Derived.Test.YtaelkcinofhhcaaGreatDoorGc
import Derived.Test.YtaelkcinofhhcaaGreatDoorProg
import Derived.KernelRfl
namespace Go.Ev
open Go Go.Proofs
set_option maxRecDepth 100000

def schKeyB4 : SSch := { fr := [(1, .slc [.str]), (13, .slc [.str]), (14, .int .i64), (15, .int .i64)], tab := [] }
def gKeyB4 : List Leaf → (Ex → St → Option R) → Option R
  | [.r r1, .r r13, .i i14, .i i15], K => cond (i14 == r13.length) (cond (ile 0 i15) (cond (Nat.ble r13.length (LIM + 1)) (cond (Nat.ble r1.length (LIM + 1)) (cond (r13.all fun r => Nat.ble (rowS r).length LIM)
      (cond (N.keyL (rowsS r1) ((rowsS r13).drop i15.toNat) == 0) (K (.exit 0) { fr := [], tab := [] }) (K .ret { fr := [(4, .int .i64 4)], tab := [] })) none) none) none) none) none
  | _, _ => none
def schKeyB7 : SSch := { fr := [(1, .slc [.str]), (6, .str), (13, .slc [.str]), (14, .int .i64), (15, .int .i64), (19, .slc [.str]), (20, .int .i64), (21, .int .i64)], tab := [] }
def gKeyB7 : List Leaf → (Ex → St → Option R) → Option R
  | [.r r1, .s s6, .r r13, .i i14, .i i15, .r r19, .i i20, .i i21], K => cond (i20 == r19.length) (cond (ile 0 i21) (cond (Nat.ble r19.length (LIM + 1))
      (cond (((rowsS r19).drop i21.toNat).any (s6 == ·)) (K (.exit 1) { fr := [(1, .slc [.str] r1), (13, .slc [.str] r13), (14, .int .i64 i14), (15, .int .i64 i15)], tab := [] })
        (K (.exit 2) { fr := [(1, .slc [.str] r1), (6, .str s6), (13, .slc [.str] r13), (14, .int .i64 i14), (15, .int .i64 i15)], tab := [] })) none) none) none
  | _, _ => none
noncomputable def eKeyB : Env := env Tryz.prog [(87, dWords), (79, dPlain)] [(7, loopF schKeyB7 gKeyB7), (4, loopF schKeyB4 gKeyB4)] [(4, [(0, [1, 13, 14, 15]), (1, []), (1000, [4])]), (7, [(0, [1, 6, 13, 14, 15, 19, 20, 21]), (2, [1, 13, 14, 15]), (3, [1, 6, 13, 14, 15]), (1000, [4])])]
theorem q_keyB (s : Bytes) (l : List Bytes) : evFn eKeyB 80 ((aCons vStr (aOne (vSl rStr))).enc (s, l)) ([]) some =
 cond (ilt (64 : Int) (↑(List.length s) : Int)) (some { v := V.int IntKind.i64 (5 : Int), bx := [] }) (cond (Nat.ble (List.length s) (1000000 : Nat)) (cond ((↑(List.length (List.map (fun n => [V.str n]) (N.words s))) : Int) == (↑(List.length (List.map (fun n => [V.str n]) (N.words s))) : Int)) (cond (Nat.ble (List.length (List.map (fun n => [V.str n]) (N.words s))) (1000001 : Nat)) (cond (Nat.ble (List.length (List.map (fun n => [V.str n]) l)) (1000001 : Nat)) (cond (List.all (List.map (fun n => [V.str n]) (N.words s)) fun r => Nat.ble (List.length (V.toStr (List.getD r (0 : Nat) V.undef))) (1000000 : Nat)) (cond (N.keyL (List.map (fun r => V.toStr (List.getD r (0 : Nat) V.undef)) (List.map (fun n => [V.str n]) l)) (List.drop (0 : Nat) (List.map (fun r => V.toStr (List.getD r (0 : Nat) V.undef)) (List.map (fun n => [V.str n]) (N.words s)))) == (0 : Int)) (some { v := V.int IntKind.i64 (0 : Int), bx := [] }) (some { v := V.int IntKind.i64 (4 : Int), bx := [] })) (none)) (none)) (none)) (none)) (none)) := by kernel_rfl
theorem q_keyBR4 (r1 : List (List V)) (r13 : List (List V)) (i14 : Int) (i15 : Int) (K : Ex → St → Option R) : evRound eKeyB 80 4 { fr := [(1, .slc [.str] r1), (13, .slc [.str] r13), (14, .int .i64 i14), (15, .int .i64 i15)], tab := [] } K =
 cond (ilt i15 i14) (cond (decide ((0 : Int) ≤ i15 ∧ i15 < (↑(List.length r13) : Int))) (cond ((↑(List.length r1) : Int) == (↑(List.length r1) : Int)) (cond (Nat.ble (List.length r1) (1000001 : Nat)) (cond (List.any (List.drop (0 : Nat) (List.map (fun r => V.toStr (List.getD r (0 : Nat) V.undef)) r1)) fun x => V.toStr (List.getD (List.getD r13 (Int.toNat i15) []) (0 : Nat) V.undef) == x) (K Ex.normal { fr := [((1 : Nat), V.slc [Sh.str] r1), ((13 : Nat), V.slc [Sh.str] r13), ((14 : Nat), V.int IntKind.i64 i14), ((15 : Nat), V.int IntKind.i64 (IntKind.wrap IntKind.i64 (i15 + (1 : Int))))], tab := [] }) (cond (V.toStr (List.getD (List.getD r13 (Int.toNat i15) []) (0 : Nat) V.undef) == []) (K Ex.ret { fr := [((4 : Nat), V.int IntKind.i64 (4 : Int))], tab := [] }) (cond (Nat.ble (List.length (V.toStr (List.getD (List.getD r13 (Int.toNat i15) []) (0 : Nat) V.undef))) (1000000 : Nat)) (cond (!N.plain (V.toStr (List.getD (List.getD r13 (Int.toNat i15) []) (0 : Nat) V.undef))) (K Ex.ret { fr := [((4 : Nat), V.int IntKind.i64 (4 : Int))], tab := [] }) (K Ex.normal { fr := [((1 : Nat), V.slc [Sh.str] r1), ((13 : Nat), V.slc [Sh.str] r13), ((14 : Nat), V.int IntKind.i64 i14), ((15 : Nat), V.int IntKind.i64 (IntKind.wrap IntKind.i64 (i15 + (1 : Int))))], tab := [] })) (none)))) (none)) (none)) (none)) (K (Ex.exit (0 : Nat)) { fr := [], tab := [] }) := by kernel_rfl
theorem q_keyBR7 (r1 : List (List V)) (s6 : Bytes) (r13 : List (List V)) (i14 : Int) (i15 : Int) (r19 : List (List V)) (i20 : Int) (i21 : Int) (K : Ex → St → Option R) : evRound eKeyB 80 7 { fr := [(1, .slc [.str] r1), (6, .str s6), (13, .slc [.str] r13), (14, .int .i64 i14), (15, .int .i64 i15), (19, .slc [.str] r19), (20, .int .i64 i20), (21, .int .i64 i21)], tab := [] } K =
 cond (ilt i21 i20) (cond (decide ((0 : Int) ≤ i21 ∧ i21 < (↑(List.length r19) : Int))) (cond (s6 == V.toStr (List.getD (List.getD r19 (Int.toNat i21) []) (0 : Nat) V.undef)) (K (Ex.exit (1 : Nat)) { fr := [((1 : Nat), V.slc [Sh.str] r1), ((13 : Nat), V.slc [Sh.str] r13), ((14 : Nat), V.int IntKind.i64 i14), ((15 : Nat), V.int IntKind.i64 i15)], tab := [] }) (K Ex.normal { fr := [((1 : Nat), V.slc [Sh.str] r1), ((6 : Nat), V.str s6), ((13 : Nat), V.slc [Sh.str] r13), ((14 : Nat), V.int IntKind.i64 i14), ((15 : Nat), V.int IntKind.i64 i15), ((19 : Nat), V.slc [Sh.str] r19), ((20 : Nat), V.int IntKind.i64 i20), ((21 : Nat), V.int IntKind.i64 (IntKind.wrap IntKind.i64 (i21 + (1 : Int))))], tab := [] })) (none)) (K (Ex.exit (2 : Nat)) { fr := [((1 : Nat), V.slc [Sh.str] r1), ((6 : Nat), V.str s6), ((13 : Nat), V.slc [Sh.str] r13), ((14 : Nat), V.int IntKind.i64 i14), ((15 : Nat), V.int IntKind.i64 i15)], tab := [] }) := by kernel_rfl
theorem keyL_or (b : List Bytes) : ∀ l, N.keyL b l = 0 ∨ N.keyL b l = 4
  | [] => .inl rfl
  | w :: r => by
    unfold N.keyL
    cases b.any (w == ·)
    · cases (cond (w == []) true (!N.plain w))
      · exact keyL_or b r
      · exact .inr rfl
    · exact keyL_or b r
theorem ok_keyB : FnOk Tryz.prog 80 dKeyB := by
  refine den_okF (env_ok (((TOk.nil _).cons ok_plain).cons ok_words)) (E := eKeyB) Tryz.func80 [4, 7] (by kernel_rfl) (two2 (rounds_of rfl fun l K q h => ?_) (rounds_of rfl fun l K q h => ?_)) fun a _ h => ?_
  · unfold gKeyB4 at h
    split at h
    · rename_i r1 r13 n i
      have h1 := (cond_none h).1; replace h := (cond_none h).2; have h2 := (cond_none h).1; replace h := (cond_none h).2; have h3 := (cond_none h).1; replace h := (cond_none h).2; have h4 := (cond_none h).1; replace h := (cond_none h).2; have h5 := (cond_none h).1; replace h := (cond_none h).2
      have e1 := ieq_of h1
      subst e1
      have h3 : r13.length ≤ 1000001 := ble_of h3
      have h4 : r1.length ≤ 1000001 := ble_of h4
      refine loop_ind (E := eKeyB) (f := 80) (id := 4) (σ := Int) (fun i => { fr := [(1, .slc [.str] r1), (13, .slc [.str] r13), (14, .int .i64 r13.length), (15, .int .i64 i)], tab := [] })
        (fun i => 0 ≤ i) (fun i => r13.length - i.toNat) (fun i K => cond (N.keyL (rowsS r1) ((rowsS r13).drop i.toNat) == 0) (K (.exit 0) { fr := [], tab := [] }) (K .ret { fr := [(4, .int .i64 4)], tab := [] })) (fun i hi => ?_) i (ile_of h2) K q (by assumption)
      by_cases hl : i < r13.length
      · have hlt : i.toNat < r13.length := by omega
        have hw' : (V.toStr (List.getD (List.getD r13 i.toNat []) 0 V.undef)).length ≤ 1000000 := ble_of (List.all_eq_true.1 h5 _ (by rw [List.getD_eq_getElem?_getD, List.getElem?_eq_getElem hlt]; exact List.getElem_mem _))
        rw [drop_get hlt]
        have e : N.keyL (rowsS r1) (rowS (r13.getD i.toNat []) :: (rowsS r13).drop (i.toNat + 1)) = cond ((rowsS r1).any (rowS (r13.getD i.toNat []) == ·)) (N.keyL (rowsS r1) ((rowsS r13).drop (i.toNat + 1))) (cond (cond (rowS (r13.getD i.toNat []) == []) true (!N.plain (rowS (r13.getD i.toNat [])))) 4 (N.keyL (rowsS r1) ((rowsS r13).drop (i.toNat + 1)))) := rfl
        rw [e]
        have stepOk : ∀ K : Ex → St → Option R, (cond ((rowsS r1).any (rowS (r13.getD i.toNat []) == ·)) true (!cond (rowS (r13.getD i.toNat []) == []) true (!N.plain (rowS (r13.getD i.toNat []))))) = true →
            evRound eKeyB 80 4 { fr := [(1, .slc [.str] r1), (13, .slc [.str] r13), (14, .int .i64 r13.length), (15, .int .i64 i)], tab := [] } K = K .normal { fr := [(1, .slc [.str] r1), (13, .slc [.str] r13), (14, .int .i64 r13.length), (15, .int .i64 (i + 1))], tab := [] } := fun K hc => by
          rw [q_keyBR4]
          unfold rowsS rowS at hc
          simp (disch := omega) only [evs, List.drop_zero]
          revert hc
          cases List.any (List.map (fun r => V.toStr (List.getD r 0 V.undef)) r1) (fun x => V.toStr (List.getD (List.getD r13 i.toNat []) 0 V.undef) == x) <;> cases V.toStr (List.getD (List.getD r13 i.toNat []) 0 V.undef) == [] <;> cases N.plain (V.toStr (List.getD (List.getD r13 i.toNat []) 0 V.undef)) <;> intro hc <;> first | rfl | cases hc
        cases h1 : (rowsS r1).any (rowS (r13.getD i.toNat []) == ·) with
        | true =>
          refine .inl ⟨i + 1, by omega, by omega, fun K => stepOk K (by rw [h1]; rfl), fun K => ?_⟩
          rw [cond_true, show (i + 1).toNat = i.toNat + 1 by omega]
        | false =>
          cases h2 : cond (rowS (r13.getD i.toNat []) == []) true (!N.plain (rowS (r13.getD i.toNat []))) with
          | false =>
            refine .inl ⟨i + 1, by omega, by omega, fun K => stepOk K (by rw [h1, h2]; rfl), fun K => ?_⟩
            rw [cond_false, cond_false, show (i + 1).toNat = i.toNat + 1 by omega]
          | true =>
            refine .inr ⟨.ret, { fr := [(4, .int .i64 4)], tab := [] }, by simp, fun K => ?_, fun K => rfl⟩
            rw [q_keyBR4]
            unfold rowsS rowS at h1
            simp (disch := omega) only [evs, List.drop_zero]
            revert h1 h2
            unfold rowS
            cases List.any (List.map (fun r => V.toStr (List.getD r 0 V.undef)) r1) (fun x => V.toStr (List.getD (List.getD r13 i.toNat []) 0 V.undef) == x) <;> cases V.toStr (List.getD (List.getD r13 i.toNat []) 0 V.undef) == [] <;> cases N.plain (V.toStr (List.getD (List.getD r13 i.toNat []) 0 V.undef)) <;> intro h1 h2 <;> first | rfl | (cases h1; done) | cases h2
      · refine .inr ⟨.exit 0, { fr := [], tab := [] }, by simp, fun K => ?_, fun K => ?_⟩
        · rw [q_keyBR4]
          simp (disch := omega) only [evs]
        · rw [List.drop_eq_nil_of_le (by rw [rowsS_length]; omega)]; rfl
    · cases h
  · unfold gKeyB7 at h
    split at h
    · rename_i r1 s r13 i14 i15 r19 n i
      have h1 := (cond_none h).1; replace h := (cond_none h).2; have h2 := (cond_none h).1; replace h := (cond_none h).2; have h3 := (cond_none h).1; replace h := (cond_none h).2
      have e1 := ieq_of h1
      subst e1
      have h3 : r19.length ≤ 1000001 := ble_of h3
      refine loop_ind (E := eKeyB) (f := 80) (id := 7) (σ := Int) (fun i => { fr := [(1, .slc [.str] r1), (6, .str s), (13, .slc [.str] r13), (14, .int .i64 i14), (15, .int .i64 i15), (19, .slc [.str] r19), (20, .int .i64 r19.length), (21, .int .i64 i)], tab := [] })
        (fun i => 0 ≤ i) (fun i => r19.length - i.toNat) (fun i K => cond (((rowsS r19).drop i.toNat).any (s == ·)) (K (.exit 1) { fr := [(1, .slc [.str] r1), (13, .slc [.str] r13), (14, .int .i64 i14), (15, .int .i64 i15)], tab := [] })
        (K (.exit 2) { fr := [(1, .slc [.str] r1), (6, .str s), (13, .slc [.str] r13), (14, .int .i64 i14), (15, .int .i64 i15)], tab := [] })) (fun i hi => ?_) i (ile_of h2) K q (by assumption)
      by_cases hl : i < r19.length
      · rw [drop_get (show i.toNat < r19.length by omega), List.any_cons]
        cases hc : s == rowS (r19.getD i.toNat []) with
        | true =>
          refine .inr ⟨.exit 1, _, by simp, fun K => ?_, fun K => rfl⟩
          rw [q_keyBR7]
          unfold rowS at hc
          simp (disch := omega) only [evs, hc]
        | false =>
          refine .inl ⟨i + 1, by omega, by omega, fun K => ?_, fun K => ?_⟩
          · rw [q_keyBR7]
            unfold rowS at hc
            simp (disch := omega) only [evs, hc]
          · rw [Bool.false_or, show (i + 1).toNat = i.toNat + 1 by omega]
      · refine .inr ⟨.exit 2, { fr := [(1, .slc [.str] r1), (6, .str s), (13, .slc [.str] r13), (14, .int .i64 i14), (15, .int .i64 i15)], tab := [] }, by simp, fun K => ?_, fun K => ?_⟩
        · rw [q_keyBR7]
          simp (disch := omega) only [evs]
        · rw [List.drop_eq_nil_of_le (by rw [rowsS_length]; omega)]; rfl
    · cases h
  · obtain ⟨s, l⟩ := a
    have h : l.length ≤ 1000000 := ble_of h
    refine (q_keyB s l).trans ?_
    show _ = some (⟨.int .i64 (N.key s l), [], []⟩ : DRes)
    unfold N.key
    cases hl : ilt 64 s.length with
    | true => rfl
    | false =>
      have hl := ilt_nof hl
      obtain ⟨w1, w2⟩ := words_small s
      have hall : ((N.words s).map (fun n => [V.str n])).all (fun r => Nat.ble (V.toStr (List.getD r 0 V.undef)).length 1000000) = true := List.all_eq_true.2 fun r hr => by
        obtain ⟨w, hw, rfl⟩ := List.mem_map.1 hr
        exact ble_t (show w.length ≤ 1000000 from by have := w2 w hw; omega)
      have e : ∀ l : List Bytes, (l.map (fun n => [V.str n])).map (fun r => V.toStr (List.getD r 0 V.undef)) = l := fun l => rowsS_enc l
      simp (disch := omega) only [evs, hall, e, List.drop_zero]
      rcases keyL_or l (N.words s) with e | e <;> rw [e] <;> rfl
noncomputable def eKey : Env := env Tryz.prog [(80, dKeyB)] [] []
theorem q_key (s : Bytes) : evFn eKey 61 ((aOne vStr).enc s) ([]) some =
 some { v := V.int IntKind.i64 (N.key s []), bx := [] } := by kernel_rfl
theorem ok_key : FnOk Tryz.prog 61 dKey := den_okF (env_ok ((TOk.nil _).cons ok_keyB)) (E := eKey) Tryz.func61 [] (by kernel_rfl) none0 fun s _ _ => q_key s
def schRefName : SSch := { fr := [(0, .str), (3, .int .i64)], tab := [] }
def gRefName : List Leaf → (Ex → St → Option R) → Option R
  | [.s s0, .i i3], K => cond (ile 0 i3) (cond (Nat.ble s0.length LIM) (cond (N.plain (s0.drop i3.toNat)) (K (.exit 0) { fr := [], tab := [] }) (K .ret { fr := [(2, .int .i64 4)], tab := [] })) none) none
  | _, _ => none
noncomputable def eRefName : Env := env Tryz.prog [(81, dLetter)] [(6, loopF schRefName gRefName)] [(6, [(0, [0, 3]), (1, []), (1000, [2])])]
theorem q_refName (s : Bytes) : evFn eRefName 65 ((aOne vStr).enc s) ([]) some =
 cond ((↑(List.length s) : Int) == (0 : Int)) (some { v := V.int IntKind.i64 (15 : Int), bx := [] }) (cond (ilt (16 : Int) (↑(List.length s) : Int)) (some { v := V.int IntKind.i64 (5 : Int), bx := [] }) (cond (Nat.ble (List.length s) (1000000 : Nat)) (cond (N.plain (List.drop (0 : Nat) s)) (some { v := V.int IntKind.i64 (0 : Int), bx := [] }) (some { v := V.int IntKind.i64 (4 : Int), bx := [] })) (none))) := by kernel_rfl
theorem q_refNameR (s0 : Bytes) (i3 : Int) (K : Ex → St → Option R) : evRound eRefName 65 6 { fr := [(0, .str s0), (3, .int .i64 i3)], tab := [] } K =
 cond (ilt i3 (↑(List.length s0) : Int)) (cond (decide ((0 : Int) ≤ i3 ∧ i3 < (↑(List.length s0) : Int))) (cond (!N.letterI (↑(UInt8.toNat (List.getD s0 (Int.toNat i3) (0 : UInt8))) : Int)) (K Ex.ret { fr := [((2 : Nat), V.int IntKind.i64 (4 : Int))], tab := [] }) (K Ex.normal { fr := [((0 : Nat), V.str s0), ((3 : Nat), V.int IntKind.i64 (IntKind.wrap IntKind.i64 (i3 + (1 : Int))))], tab := [] })) (none)) (K (Ex.exit (0 : Nat)) { fr := [], tab := [] }) := by kernel_rfl
theorem ok_refName : FnOk Tryz.prog 65 dName := by
  refine den_okF (env_ok ((TOk.nil _).cons ok_letter)) (E := eRefName) Tryz.func65 [6] (by kernel_rfl) (one1 (rounds_of rfl fun l K q h => ?_)) fun s _ h => ?_
  · unfold gRefName at h
    split at h
    · rename_i s i
      have h1 := (cond_none h).1; replace h := (cond_none h).2; have h2 := (cond_none h).1; replace h := (cond_none h).2
      have h2 : s.length ≤ 1000000 := ble_of h2
      refine loop_ind (E := eRefName) (f := 65) (id := 6) (fun i : Int => { fr := [(0, .str s), (3, .int .i64 i)], tab := [] }) (fun i => 0 ≤ i) (fun i => s.length - i.toNat)
        (fun i K => cond (N.plain (s.drop i.toNat)) (K (.exit 0) { fr := [], tab := [] }) (K .ret { fr := [(2, .int .i64 4)], tab := [] })) (fun i hi => ?_) i (ile_of h1) K q h
      by_cases hl : i < s.length
      · rw [drop_byte (show i.toNat < s.length by omega), plain_cons]
        cases hc : N.letterI (s.getD i.toNat 0).toNat with
        | true =>
          refine .inl ⟨i + 1, by omega, by omega, fun K => ?_, fun K => ?_⟩
          · rw [q_refNameR]
            simp (disch := omega) only [evs, hc, Bool.not_true]
          · rw [cond_true, show (i + 1).toNat = i.toNat + 1 by omega]
        | false =>
          refine .inr ⟨.ret, { fr := [(2, .int .i64 4)], tab := [] }, by simp, fun K => ?_, fun K => rfl⟩
          rw [q_refNameR]
          simp (disch := omega) only [evs, hc, Bool.not_false]
      · refine .inr ⟨.exit 0, { fr := [], tab := [] }, by simp, fun K => ?_, fun K => ?_⟩
        · rw [q_refNameR]
          simp (disch := omega) only [evs]
        · rw [List.drop_eq_nil_of_le (by omega)]; rfl
    · cases h
  · refine (q_refName s).trans ?_
    show _ = some (⟨.int .i64 (N.name s), [], []⟩ : DRes)
    unfold N.name
    cases s with
    | nil => rfl
    | cons c r =>
      generalize hs : c :: r = s at *
      have h0 : (s == []) = false := by rw [← hs]; rfl
      have h1 : 0 < s.length := by rw [← hs]; simp
      rw [h0]
      cases h : ilt 16 s.length with
      | true => simp (disch := omega) only [evs]
      | false =>
        have h := ilt_nof h
        simp (disch := omega) only [evs, List.drop_zero]
        cases N.plain s <;> rfl
/-! ### The statement on forms -/
theorem key_eq (s : Bytes) : N.key s [] = N.refKey s false := by
  have e : ∀ l, N.keyL [] l = N.refKeyL false l := fun l => by
    induction l with
    | nil => rfl
    | cons w r ih =>
      unfold N.keyL N.refKeyL
      rw [ih, List.any_nil]
      cases w with
      | nil => rfl
      | cons c w => simp only [cond_false, List.length_cons]; simp (disch := omega) only [evs]; rw [show ((c :: w) == []) = false from rfl]; cases N.plain (c :: w) <;> rfl
  unfold N.key N.refKey
  rw [e]
end Go.Ev

/- The two readers of heads agree: lemmas on the plain functions. -/
namespace Go.Ev
open Go

/-! ### A reader that has failed stays as it is -/
/-! ### What keeps a reader within its bytes -/
end Go.Ev

/- The program's functions on bytes answer what the plain ones do: lemmas; that of the function that writes numbers is a premise. -/
namespace Go.Ev
open Go Go.Proofs
set_option maxRecDepth 100000

noncomputable def eFail : Env := env Tryz.prog [] [] []
theorem q_fail (i : InS) (n : Int) : evFn eFail 27 ((aCons (vPtr 0) (aOne (vInt .i64))).enc ((), n)) ((bOne cIn).enc i) some =
 cond (InS.err i == (0 : Int)) (cond (n != (0 : Int)) (some { v := V.tup [], bx := [[V.str [], V.int IntKind.i64 n]] }) (some { v := V.tup [], bx := [[V.str (InS.s i), V.int IntKind.i64 (InS.err i)]] })) (some { v := V.tup [], bx := [[V.str (InS.s i), V.int IntKind.i64 (InS.err i)]] }) := by kernel_rfl
theorem ok_fail : FnOk Tryz.prog 27 dFail := by
  refine den_okF (env_ok (TOk.nil _)) (E := eFail) Tryz.func27 [] (by kernel_rfl) none0 fun a i _ => ?_
  refine (q_fail i a.2).trans ?_
  show _ = some (⟨.tup [], [[.str (N.inFail i a.2).s, .int .i64 (N.inFail i a.2).err]], []⟩ : DRes)
  unfold N.inFail
  cases i.err == 0 <;> cases a.2 != 0 <;> rfl

noncomputable def eRaw : Env := env Tryz.prog [(27, dFail)] [] []
theorem q_raw (i : InS) (n : Int) : evFn eRaw 51 ((aCons (vPtr 0) (aOne (vInt .i64))).enc ((), n)) ((bOne cIn).enc i) some =
 cond (InS.err i != (0 : Int)) (cond (InS.err i != (0 : Int)) (some { v := V.str [], bx := [[V.str (InS.s i), V.int IntKind.i64 (InS.err i)]] }) (cond (ilt (↑(List.length (InS.s i)) : Int) n) (some { v := V.str [], bx := [[V.str (InS.s (N.inFail i (3 : Int))), V.int IntKind.i64 (InS.err (N.inFail i (3 : Int)))]] }) (cond (decide ((0 : Int) ≤ n ∧ n ≤ (↑(List.length (InS.s i)) : Int))) (cond (decide ((0 : Int) ≤ n ∧ n ≤ (↑(List.length (InS.s i)) : Int))) (some { v := V.str (List.drop (0 : Nat) (List.take (Int.toNat n) (InS.s i))), bx := [[V.str (List.drop (Int.toNat n) (List.take (List.length (InS.s i)) (InS.s i))), V.int IntKind.i64 (InS.err i)]] }) (none)) (none)))) (cond (ile n (0 : Int)) (some { v := V.str [], bx := [[V.str (InS.s i), V.int IntKind.i64 (InS.err i)]] }) (cond (ilt (↑(List.length (InS.s i)) : Int) n) (some { v := V.str [], bx := [[V.str (InS.s (N.inFail i (3 : Int))), V.int IntKind.i64 (InS.err (N.inFail i (3 : Int)))]] }) (cond (decide ((0 : Int) ≤ n ∧ n ≤ (↑(List.length (InS.s i)) : Int))) (cond (decide ((0 : Int) ≤ n ∧ n ≤ (↑(List.length (InS.s i)) : Int))) (some { v := V.str (List.drop (0 : Nat) (List.take (Int.toNat n) (InS.s i))), bx := [[V.str (List.drop (Int.toNat n) (List.take (List.length (InS.s i)) (InS.s i))), V.int IntKind.i64 (InS.err i)]] }) (none)) (none)))) := by kernel_rfl
theorem inBounds {n : Int} {l : Nat} (h1 : ile n 0 = false) (h2 : ilt (l : Int) n = false) : decide ((0 : Int) ≤ n ∧ n ≤ (l : Int)) = true := by
  rw [ile_eq] at h1; rw [ilt_eq] at h2
  have h1 := of_decide_eq_false h1
  have h2 := of_decide_eq_false h2
  rw [decide_eq_true_iff]; omega
theorem ok_raw : FnOk Tryz.prog 51 dRaw := by
  refine den_okF (env_ok ((TOk.nil _).cons ok_fail)) (E := eRaw) Tryz.func51 [] (by kernel_rfl) none0 fun a i _ => ?_
  refine (q_raw i a.2).trans ?_
  show _ = some (⟨.str (N.inRaw i a.2).1, [[.str (N.inRaw i a.2).2.s, .int .i64 (N.inRaw i a.2).2.err]], []⟩ : DRes)
  unfold N.inRaw
  cases h1 : (i.err != 0) with
  | true => rfl
  | false =>
    cases h2 : ile a.2 0 with
    | true => rfl
    | false =>
      cases h3 : ilt (i.s.length : Int) a.2 with
      | true => rfl
      | false =>
        simp only [cond_true, cond_false, inBounds h2 h3, List.drop_zero, List.take_length]

def schNum : SSch := { fr := [(5, .int .u64), (12, .slc [.int .u8]), (13, .int .i64), (14, .int .i64)], tab := [(0, .var [.str, .int .i64])] }
def gNum : List Leaf → (Ex → St → Option R) → Option R
  | [.i n, .r rows, .i len, .i k, .s s, .i e], K => cond (decide (len = (rows.length : Int))) (cond (ile 0 k) (cond (Nat.ble rows.length 9223372036854775806)
      (K (.exit 0) { fr := [(5, .int .u64 (N.beR (rows.drop k.toNat) n))], tab := [(0, .var [.str s, .int .i64 e])] }) none) none) none
  | _, _ => none
noncomputable def eNum : Env := env Tryz.prog [(51, dRaw)] [(3, loopF schNum gNum)] [(3, [(0, [5, 12, 13, 14]), (1, [5]), (1000, [4])])]
theorem q_num (i : InS) (n : Int) : evFn eNum 26 ((aCons (vPtr 0) (aOne (vInt .i64))).enc ((), n)) ((bOne cIn).enc i) some =
 cond (decide ((↑(List.length (bytesOfStr (Prod.fst (N.inRaw i (bif ilt (8 : Int) n then (8 : Int) else n))))) : Int) = (↑(List.length (bytesOfStr (Prod.fst (N.inRaw i (bif ilt (8 : Int) n then (8 : Int) else n))))) : Int))) (cond (Nat.ble (List.length (bytesOfStr (Prod.fst (N.inRaw i (bif ilt (8 : Int) n then (8 : Int) else n))))) (9223372036854775806 : Nat)) (some { v := V.int IntKind.u64 (N.beR (List.drop (0 : Nat) (bytesOfStr (Prod.fst (N.inRaw i (bif ilt (8 : Int) n then (8 : Int) else n))))) (0 : Int)), bx := [[V.str (InS.s (Prod.snd (N.inRaw i (bif ilt (8 : Int) n then (8 : Int) else n)))), V.int IntKind.i64 (InS.err (Prod.snd (N.inRaw i (bif ilt (8 : Int) n then (8 : Int) else n))))]] }) (none)) (none) := by kernel_rfl
theorem q_numR (rows : List (List V)) (n len k e : Int) (s : Bytes) (K : Ex → St → Option R) : evRound eNum 26 3 { fr := [(5, .int .u64 n), (12, .slc [.int .u8] rows), (13, .int .i64 len), (14, .int .i64 k)], tab := [(0, .var [.str s, .int .i64 e])] } K =
 cond (ilt k len) (cond (decide ((0 : Int) ≤ k ∧ k < (↑(List.length rows) : Int))) (K Ex.normal { fr := [((5 : Nat), V.int IntKind.u64 (ibits BinOp.or IntKind.u64 (shl IntKind.u64 n (8 : Int)) (IntKind.wrap IntKind.u64 (V.toInt (List.getD (List.getD rows (Int.toNat k) []) (0 : Nat) V.undef))))), ((12 : Nat), V.slc [Sh.int IntKind.u8] rows), ((13 : Nat), V.int IntKind.i64 len), ((14 : Nat), V.int IntKind.i64 (IntKind.wrap IntKind.i64 (k + (1 : Int))))], tab := [((0 : Nat), Box.var [V.str s, V.int IntKind.i64 e])] }) (none)) (K (Ex.exit (0 : Nat)) { fr := [((5 : Nat), V.int IntKind.u64 n)], tab := [((0 : Nat), Box.var [V.str s, V.int IntKind.i64 e])] }) := by kernel_rfl
theorem wrap_i64 {n : Int} (h1 : -9223372036854775808 ≤ n) (h2 : n ≤ 9223372036854775807) : IntKind.wrap .i64 n = n := by
  simp only [IntKind.wrap, IntKind.signed, IntKind.bits]
  simp
  omega
theorem wrap_u64 {n : Int} (h1 : 0 ≤ n) (h2 : n < 18446744073709551616) : IntKind.wrap .u64 n = n := by
  simp only [IntKind.wrap, IntKind.signed, IntKind.bits]
  simp
  omega
theorem numR_ok (rows : List (List V)) (len e : Int) (s : Bytes) (hlen : len = rows.length) (hb : rows.length ≤ 9223372036854775806) (K : Ex → St → Option R) (q : R) : ∀ (d : Nat) (k n : Int), d = rows.length - k.toNat → 0 ≤ k →
    K (.exit 0) { fr := [(5, .int .u64 (N.beR (rows.drop k.toNat) n))], tab := [(0, .var [.str s, .int .i64 e])] } = some q →
    ∃ m, iterR eNum 26 3 m { fr := [(5, .int .u64 n), (12, .slc [.int .u8] rows), (13, .int .i64 len), (14, .int .i64 k)], tab := [(0, .var [.str s, .int .i64 e])] } K = some q
  | 0, k, n, hd, hk, h => by
    refine ⟨1, ?_⟩
    show evRound eNum _ 3 _ _ = some q
    rw [q_numR]
    have h1 : ilt k len = false := by rw [ilt_eq, decide_eq_false_iff_not]; omega
    rw [h1, cond_false]
    rw [List.drop_eq_nil_of_le (by omega)] at h
    exact h
  | d + 1, k, n, hd, hk, h => by
    have hlt : k.toNat < rows.length := by omega
    have hdrop : rows.drop k.toNat = rows.getD k.toNat [] :: rows.drop (k + 1).toNat := by
      rw [List.drop_eq_getElem_cons hlt, show (k + 1).toNat = k.toNat + 1 by omega, List.getD_eq_getElem?_getD, List.getElem?_eq_getElem hlt]; rfl
    rw [hdrop] at h
    obtain ⟨m, hm⟩ := numR_ok rows len e s hlen hb K q d (k + 1) _ (by omega) (by omega) h
    refine ⟨m + 1, ?_⟩
    show evRound eNum _ 3 _ _ = some q
    rw [q_numR]
    have h1 : ilt k len = true := by rw [ilt_eq, decide_eq_true_iff]; omega
    have h2 : decide ((0 : Int) ≤ k ∧ k < (rows.length : Int)) = true := by rw [decide_eq_true_iff]; omega
    rw [h1, h2, cond_true, cond_true, wrap_i64 (by omega) (by omega)]
    exact hm
theorem ok_num : FnOk Tryz.prog 26 dNum := by
  refine den_okF (env_ok ((TOk.nil _).cons ok_raw)) (E := eNum) Tryz.func26 [3] (by kernel_rfl) (one1 (rounds_of rfl fun l K q h => ?_)) fun a i _ => ?_
  · unfold gNum at h
    split at h
    · rename_i n rows len k s e
      obtain ⟨h1, h⟩ := cond_none h
      obtain ⟨h2, h⟩ := cond_none h
      obtain ⟨h3, h⟩ := cond_none h
      rw [ile_eq] at h2
      exact numR_ok rows len e s (of_decide_eq_true h1) (Nat.le_of_ble_eq_true h3) K q _ k n rfl (of_decide_eq_true h2) h
    · cases h
  · refine (q_num i a.2).trans ?_
    have h8 : (N.inRaw i (bif ilt 8 a.2 then 8 else a.2)).1.length ≤ 8 := N.inRaw_len i _ 8 (by
      rw [ilt_eq]
      by_cases h : 8 < a.2
      · rw [decide_eq_true h]; exact Int.le_refl _
      · rw [decide_eq_false h]; simp only [cond_false]; omega)
    rw [decide_eq_true (rfl : (_ : Int) = _), show Nat.ble (List.length (bytesOfStr (N.inRaw i (bif ilt 8 a.2 then 8 else a.2)).1)) 9223372036854775806 = true from
      Nat.ble_eq_true_of_le (by rw [show (bytesOfStr (N.inRaw i (bif ilt 8 a.2 then 8 else a.2)).1).length = (N.inRaw i (bif ilt 8 a.2 then 8 else a.2)).1.length by simp [bytesOfStr]]; omega), cond_true, cond_true]
    rw [List.drop_zero, beR_bytes _ 0 8 (by decide) h8 (by decide) (by decide)]
    rfl

noncomputable def eNew : Env := env Tryz.prog [] [] []
theorem q_new (s : Bytes) : evFn eNew 7 ((aOne vStr).enc s) (bNil.enc ()) some =
 some { v := V.ptr (1000 : Nat) (0 : Nat) (0 : Nat) (0 : Nat), bx := [], nb := [Box.var [V.str s, V.int IntKind.i64 (0 : Int)]] } := by kernel_rfl
theorem ok_new : FnOk Tryz.prog 7 dNew := den_okF (env_ok (TOk.nil _)) (E := eNew) Tryz.func7 [] (by kernel_rfl) none0 fun s _ _ => q_new s
theorem q_outRaw (o : OutS) (s : Bytes) : evFn eNew 46 ((aCons (vAgg cOut) (aOne vStr)).enc (o, s)) (bNil.enc ()) some =
 cond (Nat.ble (List.length (OutS.s o) + List.length s) (9223372036854775807 : Nat)) (some { v := V.agg [V.str (OutS.s o ++ s), V.int IntKind.i64 (OutS.err o)], bx := [] }) (none) := by kernel_rfl
theorem ok_outRaw : FnOk Tryz.prog 46 dOutRaw := by
  refine den_okF (env_ok (TOk.nil _)) (E := eNew) Tryz.func46 [] (by kernel_rfl) none0 fun a _ h => ?_
  refine (q_outRaw a.1 a.2).trans ?_
  rw [show Nat.ble (a.1.s.length + a.2.length) 9223372036854775807 = true from h]
  rfl
theorem q_outString (o : OutS) : evFn eNew 47 ((aOne (vAgg cOut)).enc o) (bNil.enc ()) some =
 some { v := V.str (OutS.s o), bx := [] } := by kernel_rfl
theorem ok_outString : FnOk Tryz.prog 47 dOutString := den_okF (env_ok (TOk.nil _)) (E := eNew) Tryz.func47 [] (by kernel_rfl) none0 fun s _ _ => q_outString s
noncomputable def eText : Env := env Tryz.prog [(46, dOutRaw), (44, dOutNum)] [] []
theorem q_outText (o : OutS) (s : Bytes) : evFn eText 72 ((aCons (vAgg cOut) (aOne vStr)).enc (o, s)) (bNil.enc ()) some =
 cond (ilt (65535 : Int) (↑(List.length s) : Int)) (cond (OutS.err o == (0 : Int)) (some { v := V.agg [V.str (OutS.s o), V.int IntKind.i64 (5 : Int)], bx := [] }) (some { v := V.agg [V.str (OutS.s o), V.int IntKind.i64 (OutS.err o)], bx := [] })) (cond (bif ilt (IntKind.wrap IntKind.u64 (↑(List.length s) : Int)) (18446744073709551616 : Int) then Nat.ble (List.length (OutS.s o)) (9223372036854775799 : Nat) else false) (cond (Nat.ble (List.length (OutS.s (N.outNum o (IntKind.wrap IntKind.u64 (↑(List.length s) : Int)) (2 : Int))) + List.length s) (9223372036854775807 : Nat)) (some { v := V.agg [V.str (OutS.s (N.outRaw (N.outNum o (IntKind.wrap IntKind.u64 (↑(List.length s) : Int)) (2 : Int)) s)), V.int IntKind.i64 (OutS.err (N.outRaw (N.outNum o (IntKind.wrap IntKind.u64 (↑(List.length s) : Int)) (2 : Int)) s))], bx := [] }) (none)) (none)) := by kernel_rfl
theorem ok_outText (hN : FnOk Tryz.prog 44 dOutNum) : FnOk Tryz.prog 72 dOutText := by
  refine den_okF (env_ok (((TOk.nil _).cons hN).cons ok_outRaw)) (E := eText) Tryz.func72 [] (by kernel_rfl) none0 fun a _ h => ?_
  refine (q_outText a.1 a.2).trans ?_
  have h : a.1.s.length + a.2.length ≤ 9223372036854775790 := Nat.le_of_ble_eq_true h
  show _ = some (⟨.agg [.str (N.outText a.1 a.2).s, .int .i64 (N.outText a.1 a.2).err], [], []⟩ : DRes)
  unfold N.outText
  cases h1 : ilt 65535 (a.2.length : Int) with
  | true => cases a.1.err == 0 <;> rfl
  | false =>
    rw [ilt_eq] at h1
    have h1 := of_decide_eq_false h1
    have hw : IntKind.wrap .u64 (a.2.length : Int) = a.2.length := wrap_u64 (by omega) (by omega)
    rw [hw]
    have e1 : ilt (a.2.length : Int) 18446744073709551616 = true := by rw [ilt_eq, decide_eq_true_iff]; omega
    have e2 : Nat.ble a.1.s.length 9223372036854775799 = true := Nat.ble_eq_true_of_le (by omega)
    have e3 : Nat.ble ((N.outNum a.1 (a.2.length : Int) 2).s.length + a.2.length) 9223372036854775807 = true := Nat.ble_eq_true_of_le (by
      have : (N.outNum a.1 (a.2.length : Int) 2).s.length = a.1.s.length + 2 := by
        show (a.1.s ++ N.numB _ (N.clamp 2)).length = _
        rw [List.length_append, N.numB_length]; rfl
      omega)
    simp only [e1, e2, e3, cond_true, cond_false]
end Go.Ev

/- The example of the chapter on bytes: lemmas; the function that writes numbers is a premise. -/
namespace Go.Ev
open Go Go.Proofs
set_option maxRecDepth 100000

noncomputable def eAw1 : Env := env Tryz.prog [(44, dOutNum), (72, dOutText), (47, dOutString), (7, dNew), (26, dNum)] [] []
theorem q_aw1  : evFn eAw1 94 [] [] some =
 some { v := V.bool true, bx := [] } := by kernel_rfl
def dTrue : Den := den aNil bNil (oV vBool) (fun _ _ => true) fun _ _ => (true, ())
theorem ok_aw1 (hN : FnOk Tryz.prog 44 dOutNum) : FnOk Tryz.prog 94 dTrue :=
  den_okF (env_ok ((((((TOk.nil _).cons ok_num).cons ok_new).cons ok_outString).cons (ok_outText hN)).cons hN)) (E := eAw1) Tryz.func94 [] (by kernel_rfl) none0 fun _ _ _ => q_aw1
noncomputable def eAw1' : Env := env Tryz.prog [(94, dTrue)] [] []
theorem q_aw1'  : evFn eAw1' 89 [] [] some =
 some { v := V.bool true, bx := [] } := by kernel_rfl
theorem ok_aw1' (hN : FnOk Tryz.prog 44 dOutNum) : FnOk Tryz.prog 89 dTrue :=
  den_okF (env_ok ((TOk.nil _).cons (ok_aw1 hN))) (E := eAw1') Tryz.func89 [] (by kernel_rfl) none0 fun _ _ _ => q_aw1'
end Go.Ev

/- The program's functions on heads answer what the plain ones do: lemmas; the function that writes numbers is a premise. -/
namespace Go.Ev
open Go Go.Proofs
set_option maxRecDepth 100000

def schEqP : SSch := { fr := [(0, .slc [.str, .int .u8, .int .i64, .str]), (1, .slc [.str, .int .u8, .int .i64, .str]), (12, .int .i64), (13, .int .i64)], tab := [] }
def gEqP : List Leaf → (Ex → St → Option R) → Option R
  | [.r r0, .r r1, .i i12, .i i13], K => cond (i12 == r0.length) (cond (Nat.beq r0.length r1.length) (cond (ile 0 i13) (cond (Nat.ble r0.length (LIM + 1)) (cond (N.samePs ((rowsP r0).drop i13.toNat) ((rowsP r1).drop i13.toNat)) (K (.exit 0) { fr := [], tab := [] }) (K .ret { fr := [(4, .bool false)], tab := [] })) none) none) none) none
  | _, _ => none
noncomputable def eEqP : Env := env Tryz.prog [] [(4, loopF schEqP gEqP)] [(4, [(0, [0, 1, 12, 13]), (1, []), (1000, [4])])]
theorem q_eqP (a b : List HPair) : evFn eEqP 83 ((aCons (vSl cPair) (aOne (vSl cPair))).enc (a, b)) ([]) some =
 cond ((↑(List.length (List.map (fun p => [V.str (HPair.key p), V.int IntKind.u8 (HPair.kind p), V.int IntKind.i64 (HPair.num p), V.str (HPair.text p)]) a)) : Int) != (↑(List.length (List.map (fun p => [V.str (HPair.key p), V.int IntKind.u8 (HPair.kind p), V.int IntKind.i64 (HPair.num p), V.str (HPair.text p)]) b)) : Int)) (some { v := V.bool false, bx := [] : DRes }) (cond ((↑(List.length (List.map (fun p => [V.str (HPair.key p), V.int IntKind.u8 (HPair.kind p), V.int IntKind.i64 (HPair.num p), V.str (HPair.text p)]) a)) : Int) == (↑(List.length (List.map (fun p => [V.str (HPair.key p), V.int IntKind.u8 (HPair.kind p), V.int IntKind.i64 (HPair.num p), V.str (HPair.text p)]) a)) : Int)) (cond (Nat.beq (List.length (List.map (fun p => [V.str (HPair.key p), V.int IntKind.u8 (HPair.kind p), V.int IntKind.i64 (HPair.num p), V.str (HPair.text p)]) a)) (List.length (List.map (fun p => [V.str (HPair.key p), V.int IntKind.u8 (HPair.kind p), V.int IntKind.i64 (HPair.num p), V.str (HPair.text p)]) b))) (cond (Nat.ble (List.length (List.map (fun p => [V.str (HPair.key p), V.int IntKind.u8 (HPair.kind p), V.int IntKind.i64 (HPair.num p), V.str (HPair.text p)]) a)) (1000001 : Nat)) (cond (N.samePs (List.drop (0 : Nat) (List.map (fun r => { key := V.toStr (List.getD r (0 : Nat) V.undef), kind := V.toInt (List.getD r (1 : Nat) V.undef), num := V.toInt (List.getD r (2 : Nat) V.undef), text := V.toStr (List.getD r (3 : Nat) V.undef) : HPair }) (List.map (fun p => [V.str (HPair.key p), V.int IntKind.u8 (HPair.kind p), V.int IntKind.i64 (HPair.num p), V.str (HPair.text p)]) a))) (List.drop (0 : Nat) (List.map (fun r => { key := V.toStr (List.getD r (0 : Nat) V.undef), kind := V.toInt (List.getD r (1 : Nat) V.undef), num := V.toInt (List.getD r (2 : Nat) V.undef), text := V.toStr (List.getD r (3 : Nat) V.undef) : HPair }) (List.map (fun p => [V.str (HPair.key p), V.int IntKind.u8 (HPair.kind p), V.int IntKind.i64 (HPair.num p), V.str (HPair.text p)]) b)))) (some { v := V.bool true, bx := [] : DRes }) (some { v := V.bool false, bx := [] : DRes })) (none)) (none)) (none)) := by kernel_rfl
theorem q_eqPR (r0 : List (List V)) (r1 : List (List V)) (i12 : Int) (i13 : Int) (K : Ex → St → Option R) : evRound eEqP 83 4 { fr := [(0, .slc [.str, .int .u8, .int .i64, .str] r0), (1, .slc [.str, .int .u8, .int .i64, .str] r1), (12, .int .i64 i12), (13, .int .i64 i13)], tab := [] } K =
 cond (ilt i13 i12) (cond (decide ((0 : Int) ≤ i13 ∧ i13 < (↑(List.length r0) : Int))) (cond (decide ((0 : Int) ≤ i13 ∧ i13 < (↑(List.length r1) : Int))) (cond (!(V.toStr (List.getD (List.getD r0 (Int.toNat i13) []) (0 : Nat) V.undef) == V.toStr (List.getD (List.getD r1 (Int.toNat i13) []) (0 : Nat) V.undef) && (V.toInt (List.getD (List.getD r0 (Int.toNat i13) []) (1 : Nat) V.undef) == V.toInt (List.getD (List.getD r1 (Int.toNat i13) []) (1 : Nat) V.undef) && (V.toInt (List.getD (List.getD r0 (Int.toNat i13) []) (2 : Nat) V.undef) == V.toInt (List.getD (List.getD r1 (Int.toNat i13) []) (2 : Nat) V.undef) && (V.toStr (List.getD (List.getD r0 (Int.toNat i13) []) (3 : Nat) V.undef) == V.toStr (List.getD (List.getD r1 (Int.toNat i13) []) (3 : Nat) V.undef) && true))))) (K Ex.ret { fr := [((4 : Nat), V.bool false)], tab := [] : St }) (K Ex.normal { fr := [((0 : Nat), V.slc [Sh.str, Sh.int IntKind.u8, Sh.int IntKind.i64, Sh.str] r0), ((1 : Nat), V.slc [Sh.str, Sh.int IntKind.u8, Sh.int IntKind.i64, Sh.str] r1), ((12 : Nat), V.int IntKind.i64 i12), ((13 : Nat), V.int IntKind.i64 (IntKind.wrap IntKind.i64 (i13 + (1 : Int))))], tab := [] : St })) (none)) (none)) (K (Ex.exit (0 : Nat)) { fr := [], tab := [] : St }) := by kernel_rfl
theorem samePs_len : ∀ a b : List HPair, a.length ≠ b.length → N.samePs a b = false
  | [], [], h => absurd rfl h
  | [], _ :: _, _ => rfl
  | _ :: _, [], _ => rfl
  | p :: a, q :: b, h => by
    unfold N.samePs
    rw [samePs_len a b (by simpa using h)]
    cases N.eqP p q <;> rfl
theorem samePs_cons (p q : HPair) (a b : List HPair) : N.samePs (p :: a) (q :: b) = cond (N.eqP p q) (N.samePs a b) false := rfl
theorem ok_eqP : FnOk Tryz.prog 83 dSameP := by
  refine den_okF (env_ok (TOk.nil _)) (E := eEqP) Tryz.func83 [4] (by kernel_rfl) (one1 (rounds_of rfl fun l K q h => ?_)) fun a _ h => ?_
  · unfold gEqP at h
    split at h
    · rename_i r0 r1 n i
      have h1 := (cond_none h).1; replace h := (cond_none h).2; have h2 := (cond_none h).1; replace h := (cond_none h).2; have h3 := (cond_none h).1; replace h := (cond_none h).2; have h4 := (cond_none h).1; replace h := (cond_none h).2
      have e1 := ieq_of h1
      have h2 := Nat.eq_of_beq_eq_true h2
      subst e1
      have h4 : r0.length ≤ 1000001 := ble_of h4
      refine loop_ind (E := eEqP) (f := 83) (id := 4) (fun i : Int => { fr := [(0, .slc [.str, .int .u8, .int .i64, .str] r0), (1, .slc [.str, .int .u8, .int .i64, .str] r1), (12, .int .i64 r0.length), (13, .int .i64 i)], tab := [] }) (fun i => 0 ≤ i) (fun i => r0.length - i.toNat)
        (fun i K => cond (N.samePs ((rowsP r0).drop i.toNat) ((rowsP r1).drop i.toNat)) (K (.exit 0) { fr := [], tab := [] }) (K .ret { fr := [(4, .bool false)], tab := [] })) (fun i hi => ?_) i (ile_of h3) K q (by assumption)
      by_cases hl : i < r0.length
      · rw [drop_pair (show i.toNat < r0.length by omega), drop_pair (show i.toNat < r1.length by omega), samePs_cons]
        cases hc : N.eqP (rowP (r0.getD i.toNat [])) (rowP (r1.getD i.toNat [])) with
        | true =>
          refine .inl ⟨i + 1, by omega, by omega, fun K => ?_, fun K => ?_⟩
          · rw [q_eqPR]
            unfold N.eqP rowP at hc
            simp (disch := omega) only [evs, hc, Bool.not_true]
          · rw [cond_true, show (i + 1).toNat = i.toNat + 1 by omega]
        | false =>
          refine .inr ⟨.ret, { fr := [(4, .bool false)], tab := [] }, by simp, fun K => ?_, fun K => rfl⟩
          rw [q_eqPR]
          unfold N.eqP rowP at hc
          simp (disch := omega) only [evs, hc, Bool.not_false]
      · refine .inr ⟨.exit 0, { fr := [], tab := [] }, by simp, fun K => ?_, fun K => ?_⟩
        · rw [q_eqPR]
          simp (disch := omega) only [evs]
        · rw [List.drop_eq_nil_of_le (by rw [rowsP_length]; omega), List.drop_eq_nil_of_le (by rw [rowsP_length]; omega)]; rfl
    · cases h
  · obtain ⟨a, b⟩ := a
    have h : a.length ≤ 1000000 := ble_of h
    refine (q_eqP a b).trans ?_
    show _ = some (⟨.bool (N.samePs a b), [], []⟩ : DRes)
    by_cases hl : a.length = b.length
    · simp (disch := omega) only [evs, pairs_enc, hl, List.drop_zero]
      cases N.samePs a b <;> rfl
    · rw [samePs_len a b hl]
      simp (disch := omega) only [evs]
def schRefSame : SSch := schEqP
noncomputable def eRefSame : Env := env Tryz.prog [] [(4, loopF schRefSame gEqP)] [(4, [(0, [0, 1, 12, 13]), (1, []), (1000, [4])])]
theorem q_refSame (a b : List HPair) : evFn eRefSame 57 ((aCons (vSl cPair) (aOne (vSl cPair))).enc (a, b)) ([]) some =
 cond ((↑(List.length (List.map (fun p => [V.str (HPair.key p), V.int IntKind.u8 (HPair.kind p), V.int IntKind.i64 (HPair.num p), V.str (HPair.text p)]) a)) : Int) != (↑(List.length (List.map (fun p => [V.str (HPair.key p), V.int IntKind.u8 (HPair.kind p), V.int IntKind.i64 (HPair.num p), V.str (HPair.text p)]) b)) : Int)) (some { v := V.bool false, bx := [] : DRes }) (cond ((↑(List.length (List.map (fun p => [V.str (HPair.key p), V.int IntKind.u8 (HPair.kind p), V.int IntKind.i64 (HPair.num p), V.str (HPair.text p)]) a)) : Int) == (↑(List.length (List.map (fun p => [V.str (HPair.key p), V.int IntKind.u8 (HPair.kind p), V.int IntKind.i64 (HPair.num p), V.str (HPair.text p)]) a)) : Int)) (cond (Nat.beq (List.length (List.map (fun p => [V.str (HPair.key p), V.int IntKind.u8 (HPair.kind p), V.int IntKind.i64 (HPair.num p), V.str (HPair.text p)]) a)) (List.length (List.map (fun p => [V.str (HPair.key p), V.int IntKind.u8 (HPair.kind p), V.int IntKind.i64 (HPair.num p), V.str (HPair.text p)]) b))) (cond (Nat.ble (List.length (List.map (fun p => [V.str (HPair.key p), V.int IntKind.u8 (HPair.kind p), V.int IntKind.i64 (HPair.num p), V.str (HPair.text p)]) a)) (1000001 : Nat)) (cond (N.samePs (List.drop (0 : Nat) (List.map (fun r => { key := V.toStr (List.getD r (0 : Nat) V.undef), kind := V.toInt (List.getD r (1 : Nat) V.undef), num := V.toInt (List.getD r (2 : Nat) V.undef), text := V.toStr (List.getD r (3 : Nat) V.undef) : HPair }) (List.map (fun p => [V.str (HPair.key p), V.int IntKind.u8 (HPair.kind p), V.int IntKind.i64 (HPair.num p), V.str (HPair.text p)]) a))) (List.drop (0 : Nat) (List.map (fun r => { key := V.toStr (List.getD r (0 : Nat) V.undef), kind := V.toInt (List.getD r (1 : Nat) V.undef), num := V.toInt (List.getD r (2 : Nat) V.undef), text := V.toStr (List.getD r (3 : Nat) V.undef) : HPair }) (List.map (fun p => [V.str (HPair.key p), V.int IntKind.u8 (HPair.kind p), V.int IntKind.i64 (HPair.num p), V.str (HPair.text p)]) b)))) (some { v := V.bool true, bx := [] : DRes }) (some { v := V.bool false, bx := [] : DRes })) (none)) (none)) (none)) := by kernel_rfl
theorem q_refSameR (r0 : List (List V)) (r1 : List (List V)) (i12 : Int) (i13 : Int) (K : Ex → St → Option R) : evRound eRefSame 57 4 { fr := [(0, .slc [.str, .int .u8, .int .i64, .str] r0), (1, .slc [.str, .int .u8, .int .i64, .str] r1), (12, .int .i64 i12), (13, .int .i64 i13)], tab := [] } K =
 cond (ilt i13 i12) (cond (decide ((0 : Int) ≤ i13 ∧ i13 < (↑(List.length r0) : Int))) (cond (decide ((0 : Int) ≤ i13 ∧ i13 < (↑(List.length r1) : Int))) (cond (!(V.toStr (List.getD (List.getD r0 (Int.toNat i13) []) (0 : Nat) V.undef) == V.toStr (List.getD (List.getD r1 (Int.toNat i13) []) (0 : Nat) V.undef) && (V.toInt (List.getD (List.getD r0 (Int.toNat i13) []) (1 : Nat) V.undef) == V.toInt (List.getD (List.getD r1 (Int.toNat i13) []) (1 : Nat) V.undef) && (V.toInt (List.getD (List.getD r0 (Int.toNat i13) []) (2 : Nat) V.undef) == V.toInt (List.getD (List.getD r1 (Int.toNat i13) []) (2 : Nat) V.undef) && (V.toStr (List.getD (List.getD r0 (Int.toNat i13) []) (3 : Nat) V.undef) == V.toStr (List.getD (List.getD r1 (Int.toNat i13) []) (3 : Nat) V.undef) && true))))) (K Ex.ret { fr := [((4 : Nat), V.bool false)], tab := [] : St }) (K Ex.normal { fr := [((0 : Nat), V.slc [Sh.str, Sh.int IntKind.u8, Sh.int IntKind.i64, Sh.str] r0), ((1 : Nat), V.slc [Sh.str, Sh.int IntKind.u8, Sh.int IntKind.i64, Sh.str] r1), ((12 : Nat), V.int IntKind.i64 i12), ((13 : Nat), V.int IntKind.i64 (IntKind.wrap IntKind.i64 (i13 + (1 : Int))))], tab := [] : St })) (none)) (none)) (K (Ex.exit (0 : Nat)) { fr := [], tab := [] : St }) := by kernel_rfl
theorem ok_refSame : FnOk Tryz.prog 57 dSameP := by
  refine den_okF (env_ok (TOk.nil _)) (E := eRefSame) Tryz.func57 [4] (by kernel_rfl) (one1 (rounds_of rfl fun l K q h => ?_)) fun a _ h => ?_
  · unfold gEqP at h
    split at h
    · rename_i r0 r1 n i
      have h1 := (cond_none h).1; replace h := (cond_none h).2; have h2 := (cond_none h).1; replace h := (cond_none h).2; have h3 := (cond_none h).1; replace h := (cond_none h).2; have h4 := (cond_none h).1; replace h := (cond_none h).2
      have e1 := ieq_of h1
      have h2 := Nat.eq_of_beq_eq_true h2
      subst e1
      have h4 : r0.length ≤ 1000001 := ble_of h4
      refine loop_ind (E := eRefSame) (f := 57) (id := 4) (fun i : Int => { fr := [(0, .slc [.str, .int .u8, .int .i64, .str] r0), (1, .slc [.str, .int .u8, .int .i64, .str] r1), (12, .int .i64 r0.length), (13, .int .i64 i)], tab := [] }) (fun i => 0 ≤ i) (fun i => r0.length - i.toNat)
        (fun i K => cond (N.samePs ((rowsP r0).drop i.toNat) ((rowsP r1).drop i.toNat)) (K (.exit 0) { fr := [], tab := [] }) (K .ret { fr := [(4, .bool false)], tab := [] })) (fun i hi => ?_) i (ile_of h3) K q (by assumption)
      by_cases hl : i < r0.length
      · rw [drop_pair (show i.toNat < r0.length by omega), drop_pair (show i.toNat < r1.length by omega), samePs_cons]
        cases hc : N.eqP (rowP (r0.getD i.toNat [])) (rowP (r1.getD i.toNat [])) with
        | true =>
          refine .inl ⟨i + 1, by omega, by omega, fun K => ?_, fun K => ?_⟩
          · rw [q_refSameR]
            unfold N.eqP rowP at hc
            simp (disch := omega) only [evs, hc, Bool.not_true]
          · rw [cond_true, show (i + 1).toNat = i.toNat + 1 by omega]
        | false =>
          refine .inr ⟨.ret, { fr := [(4, .bool false)], tab := [] }, by simp, fun K => ?_, fun K => rfl⟩
          rw [q_refSameR]
          unfold N.eqP rowP at hc
          simp (disch := omega) only [evs, hc, Bool.not_false]
      · refine .inr ⟨.exit 0, { fr := [], tab := [] }, by simp, fun K => ?_, fun K => ?_⟩
        · rw [q_refSameR]
          simp (disch := omega) only [evs]
        · rw [List.drop_eq_nil_of_le (by rw [rowsP_length]; omega), List.drop_eq_nil_of_le (by rw [rowsP_length]; omega)]; rfl
    · cases h
  · obtain ⟨a, b⟩ := a
    have h : a.length ≤ 1000000 := ble_of h
    refine (q_refSame a b).trans ?_
    show _ = some (⟨.bool (N.samePs a b), [], []⟩ : DRes)
    by_cases hl : a.length = b.length
    · simp (disch := omega) only [evs, pairs_enc, hl, List.drop_zero]
      cases N.samePs a b <;> rfl
    · rw [samePs_len a b hl]
      simp (disch := omega) only [evs]
def schLight : SSch := { fr := [(8, .slc [.str, .int .u8, .int .i64, .str]), (9, .int .i64), (10, .int .i64)], tab := [] }
def gLight : List Leaf → (Ex → St → Option R) → Option R
  | [.r r8, .i i9, .i i10], K => cond (i9 == r8.length) (cond (ile 0 i10) (cond (Nat.ble r8.length LIM) (cond (((rowsP r8).drop i10.toNat).all N.lightP) (K (.exit 0) { fr := [], tab := [] }) (K .ret { fr := [(2, .bool false)], tab := [] })) none) none) none
  | _, _ => none
noncomputable def eLight : Env := env Tryz.prog [] [(4, loopF schLight gLight)] [(4, [(0, [8, 9, 10]), (1, []), (1000, [2])])]
theorem q_light (h : List HPair) : evFn eLight 25 ((aOne (vSl cPair)).enc h) ([]) some =
 cond (ilt (12 : Int) (↑(List.length (List.map (fun p => [V.str (HPair.key p), V.int IntKind.u8 (HPair.kind p), V.int IntKind.i64 (HPair.num p), V.str (HPair.text p)]) h)) : Int)) (some { v := V.bool false, bx := [] : DRes }) (cond ((↑(List.length (List.map (fun p => [V.str (HPair.key p), V.int IntKind.u8 (HPair.kind p), V.int IntKind.i64 (HPair.num p), V.str (HPair.text p)]) h)) : Int) == (↑(List.length (List.map (fun p => [V.str (HPair.key p), V.int IntKind.u8 (HPair.kind p), V.int IntKind.i64 (HPair.num p), V.str (HPair.text p)]) h)) : Int)) (cond (Nat.ble (List.length (List.map (fun p => [V.str (HPair.key p), V.int IntKind.u8 (HPair.kind p), V.int IntKind.i64 (HPair.num p), V.str (HPair.text p)]) h)) (1000000 : Nat)) (cond (List.all (List.drop (0 : Nat) (List.map (fun r => { key := V.toStr (List.getD r (0 : Nat) V.undef), kind := V.toInt (List.getD r (1 : Nat) V.undef), num := V.toInt (List.getD r (2 : Nat) V.undef), text := V.toStr (List.getD r (3 : Nat) V.undef) : HPair }) (List.map (fun p => [V.str (HPair.key p), V.int IntKind.u8 (HPair.kind p), V.int IntKind.i64 (HPair.num p), V.str (HPair.text p)]) h))) N.lightP) (some { v := V.bool true, bx := [] : DRes }) (some { v := V.bool false, bx := [] : DRes })) (none)) (none)) := by kernel_rfl
theorem q_lightR (r8 : List (List V)) (i9 : Int) (i10 : Int) (K : Ex → St → Option R) : evRound eLight 25 4 { fr := [(8, .slc [.str, .int .u8, .int .i64, .str] r8), (9, .int .i64 i9), (10, .int .i64 i10)], tab := [] } K =
 cond (ilt i10 i9) (cond (decide ((0 : Int) ≤ i10 ∧ i10 < (↑(List.length r8) : Int))) (cond (ilt (40 : Int) (↑(List.length (V.toStr (List.getD (List.getD r8 (Int.toNat i10) []) (0 : Nat) V.undef))) : Int)) (K Ex.ret { fr := [((2 : Nat), V.bool false)], tab := [] : St }) (cond (ilt (100 : Int) (↑(List.length (V.toStr (List.getD (List.getD r8 (Int.toNat i10) []) (3 : Nat) V.undef))) : Int)) (K Ex.ret { fr := [((2 : Nat), V.bool false)], tab := [] : St }) (K Ex.normal { fr := [((8 : Nat), V.slc [Sh.str, Sh.int IntKind.u8, Sh.int IntKind.i64, Sh.str] r8), ((9 : Nat), V.int IntKind.i64 i9), ((10 : Nat), V.int IntKind.i64 (IntKind.wrap IntKind.i64 (i10 + (1 : Int))))], tab := [] : St }))) (none)) (K (Ex.exit (0 : Nat)) { fr := [], tab := [] : St }) := by kernel_rfl
theorem ok_light : FnOk Tryz.prog 25 dLight := by
  refine den_okF (env_ok (TOk.nil _)) (E := eLight) Tryz.func25 [4] (by kernel_rfl) (one1 (rounds_of rfl fun l K q h => ?_)) fun h _ _ => ?_
  · unfold gLight at h
    split at h
    · rename_i r n i
      have h1 := (cond_none h).1; replace h := (cond_none h).2; have h2 := (cond_none h).1; replace h := (cond_none h).2; have h3 := (cond_none h).1; replace h := (cond_none h).2
      have e1 := ieq_of h1
      subst e1
      have h3 : r.length ≤ 1000000 := ble_of h3
      refine loop_ind (E := eLight) (f := 25) (id := 4) (fun i : Int => { fr := [(8, .slc [.str, .int .u8, .int .i64, .str] r), (9, .int .i64 r.length), (10, .int .i64 i)], tab := [] }) (fun i => 0 ≤ i) (fun i => r.length - i.toNat)
        (fun i K => cond (((rowsP r).drop i.toNat).all N.lightP) (K (.exit 0) { fr := [], tab := [] }) (K .ret { fr := [(2, .bool false)], tab := [] })) (fun i hi => ?_) i (ile_of h2) K q (by assumption)
      by_cases hl : i < r.length
      · rw [drop_pair (show i.toNat < r.length by omega), List.all_cons]
        cases hc : N.lightP (rowP (r.getD i.toNat [])) with
        | true =>
          refine .inl ⟨i + 1, by omega, by omega, fun K => ?_, fun K => ?_⟩
          · rw [q_lightR]
            simp (disch := omega) only [evs]
            revert hc
            unfold N.lightP rowP
            cases ilt 40 (V.toStr (List.getD (List.getD r i.toNat []) 0 V.undef)).length <;> cases ilt 100 (V.toStr (List.getD (List.getD r i.toNat []) 3 V.undef)).length <;> intro hc <;> first | rfl | cases hc
          · rw [Bool.true_and, show (i + 1).toNat = i.toNat + 1 by omega]
        | false =>
          refine .inr ⟨.ret, { fr := [(2, .bool false)], tab := [] }, by simp, fun K => ?_, fun K => rfl⟩
          rw [q_lightR]
          simp (disch := omega) only [evs]
          revert hc
          unfold N.lightP rowP
          cases ilt 40 (V.toStr (List.getD (List.getD r i.toNat []) 0 V.undef)).length <;> cases ilt 100 (V.toStr (List.getD (List.getD r i.toNat []) 3 V.undef)).length <;> intro hc <;> first | rfl | cases hc
      · refine .inr ⟨.exit 0, { fr := [], tab := [] }, by simp, fun K => ?_, fun K => ?_⟩
        · rw [q_lightR]
          simp (disch := omega) only [evs]
        · rw [List.drop_eq_nil_of_le (by rw [rowsP_length]; omega)]; rfl
    · cases h
  · refine (q_light h).trans ?_
    show _ = some (⟨.bool (N.light h), [], []⟩ : DRes)
    unfold N.light
    by_cases hl : 12 < h.length
    · simp (disch := omega) only [evs]
    · simp (disch := omega) only [evs, pairs_enc, List.drop_zero]
      cases h.all N.lightP <;> rfl
noncomputable def eFindFn : Env := env Tryz.prog [] [] []
theorem q_findFn (p : HPair) (key : Bytes) : evFn eFindFn 92 ((aCons (vAgg cPair) (aOne (vPtr 0))).enc (p, ())) ((bOne rStr).enc key) some =
 some { v := V.bool (HPair.key p == key), bx := [[V.str key]] : DRes } := by kernel_rfl
theorem ok_findFn : FnOk Tryz.prog 92 dFindFn := den_okF (env_ok (TOk.nil _)) (E := eFindFn) Tryz.func92 [] (by kernel_rfl) none0 fun a key _ => q_findFn a.1 key
def schIxf : SSch := { fr := [(0, .slc [.str, .int .u8, .int .i64, .str]), (1, .fn 92 [] [.ptr 0 0 0]), (7, .int .i64), (8, .int .i64)], tab := [(0, .var [.str])] }
def gIxf : List Leaf → (Ex → St → Option R) → Option R
  | [.r r0, .i i7, .i i8, .s key], K => cond (i7 == r0.length) (cond (ile 0 i8) (cond (Nat.ble r0.length LIM)
      (cond (ile 0 (N.findIx key ((rowsP r0).drop i8.toNat) i8)) (K .ret { fr := [(4, .int .i64 (N.findIx key ((rowsP r0).drop i8.toNat) i8))], tab := [(0, .var [.str key])] }) (K (.exit 0) { fr := [], tab := [(0, .var [.str key])] })) none) none) none
  | _, _ => none
noncomputable def eIxf : Env := env Tryz.prog [(92, dFindFn)] [(2, loopF schIxf gIxf)] [(2, [(0, [0, 1, 7, 8]), (1, []), (1000, [4])])]
theorem q_ixf (h : List HPair) (key : Bytes) : evFn eIxf 91 ((aCons (vSl cPair) (aOne (vFn 92 0))).enc (h, ())) ((bOne rStr).enc key) some =
 cond ((↑(List.length (List.map (fun p => [V.str (HPair.key p), V.int IntKind.u8 (HPair.kind p), V.int IntKind.i64 (HPair.num p), V.str (HPair.text p)]) h)) : Int) == (↑(List.length (List.map (fun p => [V.str (HPair.key p), V.int IntKind.u8 (HPair.kind p), V.int IntKind.i64 (HPair.num p), V.str (HPair.text p)]) h)) : Int)) (cond (Nat.ble (List.length (List.map (fun p => [V.str (HPair.key p), V.int IntKind.u8 (HPair.kind p), V.int IntKind.i64 (HPair.num p), V.str (HPair.text p)]) h)) (1000000 : Nat)) (cond (ile (0 : Int) (N.findIx key (List.drop (0 : Nat) (List.map (fun r => { key := V.toStr (List.getD r (0 : Nat) V.undef), kind := V.toInt (List.getD r (1 : Nat) V.undef), num := V.toInt (List.getD r (2 : Nat) V.undef), text := V.toStr (List.getD r (3 : Nat) V.undef) : HPair }) (List.map (fun p => [V.str (HPair.key p), V.int IntKind.u8 (HPair.kind p), V.int IntKind.i64 (HPair.num p), V.str (HPair.text p)]) h))) (0 : Int))) (some { v := V.int IntKind.i64 (N.findIx key (List.drop (0 : Nat) (List.map (fun r => { key := V.toStr (List.getD r (0 : Nat) V.undef), kind := V.toInt (List.getD r (1 : Nat) V.undef), num := V.toInt (List.getD r (2 : Nat) V.undef), text := V.toStr (List.getD r (3 : Nat) V.undef) : HPair }) (List.map (fun p => [V.str (HPair.key p), V.int IntKind.u8 (HPair.kind p), V.int IntKind.i64 (HPair.num p), V.str (HPair.text p)]) h))) (0 : Int)), bx := [[V.str key]] : DRes }) (some { v := V.int IntKind.i64 (-1 : Int), bx := [[V.str key]] : DRes })) (none)) (none) := by kernel_rfl
theorem q_ixfR (r0 : List (List V)) (i7 : Int) (i8 : Int) (sx0 : Bytes) (K : Ex → St → Option R) : evRound eIxf 91 2 { fr := [(0, .slc [.str, .int .u8, .int .i64, .str] r0), (1, .fn 92 [] [.ptr 0 0 0 0]), (7, .int .i64 i7), (8, .int .i64 i8)], tab := [(0, .var [.str sx0])] } K =
 cond (ilt i8 i7) (cond (decide ((0 : Int) ≤ i8 ∧ i8 < (↑(List.length r0) : Int))) (cond (V.toStr (List.getD (List.getD r0 (Int.toNat i8) []) (0 : Nat) V.undef) == sx0) (K Ex.ret { fr := [((4 : Nat), V.int IntKind.i64 i8)], tab := [((0 : Nat), Box.var [V.str sx0])] : St }) (K Ex.normal { fr := [((0 : Nat), V.slc [Sh.str, Sh.int IntKind.u8, Sh.int IntKind.i64, Sh.str] r0), ((1 : Nat), V.fn 92 [] [V.ptr (0 : Nat) (0 : Nat) (0 : Nat) (0 : Nat)]), ((7 : Nat), V.int IntKind.i64 i7), ((8 : Nat), V.int IntKind.i64 (IntKind.wrap IntKind.i64 (i8 + (1 : Int))))], tab := [((0 : Nat), Box.var [V.str sx0])] : St })) (none)) (K (Ex.exit (0 : Nat)) { fr := [], tab := [((0 : Nat), Box.var [V.str sx0])] : St }) := by kernel_rfl
theorem ok_ixf : FnOk Tryz.prog 91 (dIndexFn 92) := by
  refine den_okF (env_ok ((TOk.nil _).cons ok_findFn)) (E := eIxf) Tryz.func91 [2] (by kernel_rfl) (one1 (rounds_of rfl fun l K q h => ?_)) fun a key h => ?_
  · unfold gIxf at h
    split at h
    · rename_i r n i key
      have h1 := (cond_none h).1; replace h := (cond_none h).2; have h2 := (cond_none h).1; replace h := (cond_none h).2; have h3 := (cond_none h).1; replace h := (cond_none h).2
      have e1 := ieq_of h1
      subst e1
      have h3 : r.length ≤ 1000000 := ble_of h3
      refine loop_ind (E := eIxf) (f := 91) (id := 2) (fun i : Int => { fr := [(0, .slc [.str, .int .u8, .int .i64, .str] r), (1, .fn 92 [] [.ptr 0 0 0 0]), (7, .int .i64 r.length), (8, .int .i64 i)], tab := [(0, .var [.str key])] }) (fun i => 0 ≤ i) (fun i => r.length - i.toNat)
        (fun i8 K => cond (ile 0 (N.findIx key ((rowsP r).drop i8.toNat) i8)) (K .ret { fr := [(4, .int .i64 (N.findIx key ((rowsP r).drop i8.toNat) i8))], tab := [(0, .var [.str key])] }) (K (.exit 0) { fr := [], tab := [(0, .var [.str key])] })) (fun i hi => ?_) i (ile_of h2) K q (by assumption)
      by_cases hl : i < r.length
      · rw [drop_pair (show i.toNat < r.length by omega)]
        have e : N.findIx key (rowP (r.getD i.toNat []) :: (rowsP r).drop (i.toNat + 1)) i = cond ((rowP (r.getD i.toNat [])).key == key) i (N.findIx key ((rowsP r).drop (i.toNat + 1)) (i + 1)) := rfl
        rw [e]
        cases hc : (rowP (r.getD i.toNat [])).key == key with
        | true =>
          rw [cond_true, ile_t hi]
          refine .inr ⟨.ret, _, by simp, fun K => ?_, fun K => rfl⟩
          rw [q_ixfR]
          unfold rowP at hc
          simp (disch := omega) only [evs, hc]
        | false =>
          refine .inl ⟨i + 1, by omega, by omega, fun K => ?_, fun K => ?_⟩
          · rw [q_ixfR]
            unfold rowP at hc
            simp (disch := omega) only [evs, hc]
          · rw [cond_false, show (i + 1).toNat = i.toNat + 1 by omega]
      · refine .inr ⟨.exit 0, { fr := [], tab := [(0, .var [.str key])] }, by simp, fun K => ?_, fun K => ?_⟩
        · rw [q_ixfR]
          simp (disch := omega) only [evs]
        · rw [List.drop_eq_nil_of_le (by rw [rowsP_length]; omega)]; rfl
    · cases h
  · obtain ⟨l, u⟩ := a
    have h : l.length ≤ 1000000 := ble_of h
    refine (q_ixf l key).trans ?_
    show _ = some (⟨.int .i64 (N.findIx key l 0), [[.str key]], []⟩ : DRes)
    simp (disch := omega) only [evs, pairs_enc, List.drop_zero]
    rcases findIx_lt key l 0 (Int.le_refl _) with e | ⟨e, _⟩
    · rw [e]; rfl
    · rw [ile_t e]; rfl
noncomputable def eFind : Env := env Tryz.prog [(91, dIndexFn 92)] [] []
theorem q_find (h : List HPair) (key : Bytes) : evFn eFind 86 ((aCons (vSl cPair) (aOne vStr)).enc (h, key)) ([]) some =
 cond (Nat.ble (List.length (List.map (fun r => { key := V.toStr (List.getD r (0 : Nat) V.undef), kind := V.toInt (List.getD r (1 : Nat) V.undef), num := V.toInt (List.getD r (2 : Nat) V.undef), text := V.toStr (List.getD r (3 : Nat) V.undef) : HPair }) (List.map (fun p => [V.str (HPair.key p), V.int IntKind.u8 (HPair.kind p), V.int IntKind.i64 (HPair.num p), V.str (HPair.text p)]) h))) (1000000 : Nat)) (cond (ilt (N.findIx key (List.map (fun r => { key := V.toStr (List.getD r (0 : Nat) V.undef), kind := V.toInt (List.getD r (1 : Nat) V.undef), num := V.toInt (List.getD r (2 : Nat) V.undef), text := V.toStr (List.getD r (3 : Nat) V.undef) : HPair }) (List.map (fun p => [V.str (HPair.key p), V.int IntKind.u8 (HPair.kind p), V.int IntKind.i64 (HPair.num p), V.str (HPair.text p)]) h)) (0 : Int)) (0 : Int)) (some { v := V.tup [V.agg [V.str [], V.int IntKind.u8 (0 : Int), V.int IntKind.i64 (0 : Int), V.str []], V.bool false], bx := [] : DRes }) (cond (decide ((0 : Int) ≤ N.findIx key (List.map (fun r => { key := V.toStr (List.getD r (0 : Nat) V.undef), kind := V.toInt (List.getD r (1 : Nat) V.undef), num := V.toInt (List.getD r (2 : Nat) V.undef), text := V.toStr (List.getD r (3 : Nat) V.undef) : HPair }) (List.map (fun p => [V.str (HPair.key p), V.int IntKind.u8 (HPair.kind p), V.int IntKind.i64 (HPair.num p), V.str (HPair.text p)]) h)) (0 : Int) ∧ N.findIx key (List.map (fun r => { key := V.toStr (List.getD r (0 : Nat) V.undef), kind := V.toInt (List.getD r (1 : Nat) V.undef), num := V.toInt (List.getD r (2 : Nat) V.undef), text := V.toStr (List.getD r (3 : Nat) V.undef) : HPair }) (List.map (fun p => [V.str (HPair.key p), V.int IntKind.u8 (HPair.kind p), V.int IntKind.i64 (HPair.num p), V.str (HPair.text p)]) h)) (0 : Int) < (↑(List.length (List.map (fun p => [V.str (HPair.key p), V.int IntKind.u8 (HPair.kind p), V.int IntKind.i64 (HPair.num p), V.str (HPair.text p)]) h)) : Int))) (some { v := V.tup [V.agg [V.str (V.toStr (List.getD (List.getD (List.map (fun p => [V.str (HPair.key p), V.int IntKind.u8 (HPair.kind p), V.int IntKind.i64 (HPair.num p), V.str (HPair.text p)]) h) (Int.toNat (N.findIx key (List.map (fun r => { key := V.toStr (List.getD r (0 : Nat) V.undef), kind := V.toInt (List.getD r (1 : Nat) V.undef), num := V.toInt (List.getD r (2 : Nat) V.undef), text := V.toStr (List.getD r (3 : Nat) V.undef) : HPair }) (List.map (fun p => [V.str (HPair.key p), V.int IntKind.u8 (HPair.kind p), V.int IntKind.i64 (HPair.num p), V.str (HPair.text p)]) h)) (0 : Int))) []) (0 : Nat) V.undef)), V.int IntKind.u8 (V.toInt (List.getD (List.getD (List.map (fun p => [V.str (HPair.key p), V.int IntKind.u8 (HPair.kind p), V.int IntKind.i64 (HPair.num p), V.str (HPair.text p)]) h) (Int.toNat (N.findIx key (List.map (fun r => { key := V.toStr (List.getD r (0 : Nat) V.undef), kind := V.toInt (List.getD r (1 : Nat) V.undef), num := V.toInt (List.getD r (2 : Nat) V.undef), text := V.toStr (List.getD r (3 : Nat) V.undef) : HPair }) (List.map (fun p => [V.str (HPair.key p), V.int IntKind.u8 (HPair.kind p), V.int IntKind.i64 (HPair.num p), V.str (HPair.text p)]) h)) (0 : Int))) []) (1 : Nat) V.undef)), V.int IntKind.i64 (V.toInt (List.getD (List.getD (List.map (fun p => [V.str (HPair.key p), V.int IntKind.u8 (HPair.kind p), V.int IntKind.i64 (HPair.num p), V.str (HPair.text p)]) h) (Int.toNat (N.findIx key (List.map (fun r => { key := V.toStr (List.getD r (0 : Nat) V.undef), kind := V.toInt (List.getD r (1 : Nat) V.undef), num := V.toInt (List.getD r (2 : Nat) V.undef), text := V.toStr (List.getD r (3 : Nat) V.undef) : HPair }) (List.map (fun p => [V.str (HPair.key p), V.int IntKind.u8 (HPair.kind p), V.int IntKind.i64 (HPair.num p), V.str (HPair.text p)]) h)) (0 : Int))) []) (2 : Nat) V.undef)), V.str (V.toStr (List.getD (List.getD (List.map (fun p => [V.str (HPair.key p), V.int IntKind.u8 (HPair.kind p), V.int IntKind.i64 (HPair.num p), V.str (HPair.text p)]) h) (Int.toNat (N.findIx key (List.map (fun r => { key := V.toStr (List.getD r (0 : Nat) V.undef), kind := V.toInt (List.getD r (1 : Nat) V.undef), num := V.toInt (List.getD r (2 : Nat) V.undef), text := V.toStr (List.getD r (3 : Nat) V.undef) : HPair }) (List.map (fun p => [V.str (HPair.key p), V.int IntKind.u8 (HPair.kind p), V.int IntKind.i64 (HPair.num p), V.str (HPair.text p)]) h)) (0 : Int))) []) (3 : Nat) V.undef))], V.bool true], bx := [] : DRes }) (none))) (none) := by kernel_rfl
theorem ok_find : FnOk Tryz.prog 86 dFind := by
  refine den_okF (env_ok ((TOk.nil _).cons ok_ixf)) (E := eFind) Tryz.func86 [] (by kernel_rfl) none0 fun a _ h => ?_
  obtain ⟨l, key⟩ := a
  have h : l.length ≤ 1000000 := ble_of h
  refine (q_find l key).trans ?_
  show _ = some (⟨.tup [.agg [.str (N.find l key).1.key, .int .u8 (N.find l key).1.kind, .int .i64 (N.find l key).1.num, .str (N.find l key).1.text], .bool (N.find l key).2], [], []⟩ : DRes)
  unfold N.find
  simp (disch := omega) only [evs, pairs_enc, pairs_get]
  rcases findIx_lt key l 0 (Int.le_refl _) with e | ⟨e1, e2⟩
  · rw [e]; rfl
  · simp (disch := omega) only [evs]
noncomputable def ePairE : Env := env Tryz.prog [(60, dName), (86, dFind)] [] []
theorem q_pairE (p : HPair) (l : List HPair) : evFn ePairE 77 ((aCons (vAgg cPair) (aOne (vSl cPair))).enc (p, l)) ([]) some =
 cond (N.name (HPair.key p) != (0 : Int)) (some { v := V.int IntKind.i64 (N.name (HPair.key p)), bx := [] : DRes }) (cond (Nat.ble (List.length (List.map (fun r => { key := V.toStr (List.getD r (0 : Nat) V.undef), kind := V.toInt (List.getD r (1 : Nat) V.undef), num := V.toInt (List.getD r (2 : Nat) V.undef), text := V.toStr (List.getD r (3 : Nat) V.undef) : HPair }) (List.map (fun p => [V.str (HPair.key p), V.int IntKind.u8 (HPair.kind p), V.int IntKind.i64 (HPair.num p), V.str (HPair.text p)]) l))) (1000000 : Nat)) (cond (ilt (2 : Int) (HPair.kind p)) (some { v := V.int IntKind.i64 (8 : Int), bx := [] : DRes }) (cond (HPair.kind p == (1 : Int)) (cond (ilt (64 : Int) (↑(List.length (HPair.text p)) : Int)) (some { v := V.int IntKind.i64 (5 : Int), bx := [] : DRes }) (cond (HPair.kind p == (2 : Int)) (cond (HPair.num p != (0 : Int)) (cond (HPair.num p != (1 : Int)) (some { v := V.int IntKind.i64 (7 : Int), bx := [] : DRes }) (cond (HPair.kind p == (1 : Int)) (cond (HPair.num p != (0 : Int)) (cond (HPair.num p != (0 : Int)) (some { v := V.int IntKind.i64 (4 : Int), bx := [] : DRes }) (cond (Prod.snd (N.find (List.map (fun r => { key := V.toStr (List.getD r (0 : Nat) V.undef), kind := V.toInt (List.getD r (1 : Nat) V.undef), num := V.toInt (List.getD r (2 : Nat) V.undef), text := V.toStr (List.getD r (3 : Nat) V.undef) : HPair }) (List.map (fun p => [V.str (HPair.key p), V.int IntKind.u8 (HPair.kind p), V.int IntKind.i64 (HPair.num p), V.str (HPair.text p)]) l)) (HPair.key p))) (some { v := V.int IntKind.i64 (9 : Int), bx := [] : DRes }) (some { v := V.int IntKind.i64 (0 : Int), bx := [] : DRes }))) (cond (HPair.kind p != (1 : Int)) (cond (!HPair.text p == []) (some { v := V.int IntKind.i64 (4 : Int), bx := [] : DRes }) (cond (Prod.snd (N.find (List.map (fun r => { key := V.toStr (List.getD r (0 : Nat) V.undef), kind := V.toInt (List.getD r (1 : Nat) V.undef), num := V.toInt (List.getD r (2 : Nat) V.undef), text := V.toStr (List.getD r (3 : Nat) V.undef) : HPair }) (List.map (fun p => [V.str (HPair.key p), V.int IntKind.u8 (HPair.kind p), V.int IntKind.i64 (HPair.num p), V.str (HPair.text p)]) l)) (HPair.key p))) (some { v := V.int IntKind.i64 (9 : Int), bx := [] : DRes }) (some { v := V.int IntKind.i64 (0 : Int), bx := [] : DRes }))) (cond (Prod.snd (N.find (List.map (fun r => { key := V.toStr (List.getD r (0 : Nat) V.undef), kind := V.toInt (List.getD r (1 : Nat) V.undef), num := V.toInt (List.getD r (2 : Nat) V.undef), text := V.toStr (List.getD r (3 : Nat) V.undef) : HPair }) (List.map (fun p => [V.str (HPair.key p), V.int IntKind.u8 (HPair.kind p), V.int IntKind.i64 (HPair.num p), V.str (HPair.text p)]) l)) (HPair.key p))) (some { v := V.int IntKind.i64 (9 : Int), bx := [] : DRes }) (some { v := V.int IntKind.i64 (0 : Int), bx := [] : DRes })))) (cond (HPair.kind p != (1 : Int)) (cond (!HPair.text p == []) (some { v := V.int IntKind.i64 (4 : Int), bx := [] : DRes }) (cond (Prod.snd (N.find (List.map (fun r => { key := V.toStr (List.getD r (0 : Nat) V.undef), kind := V.toInt (List.getD r (1 : Nat) V.undef), num := V.toInt (List.getD r (2 : Nat) V.undef), text := V.toStr (List.getD r (3 : Nat) V.undef) : HPair }) (List.map (fun p => [V.str (HPair.key p), V.int IntKind.u8 (HPair.kind p), V.int IntKind.i64 (HPair.num p), V.str (HPair.text p)]) l)) (HPair.key p))) (some { v := V.int IntKind.i64 (9 : Int), bx := [] : DRes }) (some { v := V.int IntKind.i64 (0 : Int), bx := [] : DRes }))) (cond (Prod.snd (N.find (List.map (fun r => { key := V.toStr (List.getD r (0 : Nat) V.undef), kind := V.toInt (List.getD r (1 : Nat) V.undef), num := V.toInt (List.getD r (2 : Nat) V.undef), text := V.toStr (List.getD r (3 : Nat) V.undef) : HPair }) (List.map (fun p => [V.str (HPair.key p), V.int IntKind.u8 (HPair.kind p), V.int IntKind.i64 (HPair.num p), V.str (HPair.text p)]) l)) (HPair.key p))) (some { v := V.int IntKind.i64 (9 : Int), bx := [] : DRes }) (some { v := V.int IntKind.i64 (0 : Int), bx := [] : DRes }))))) (cond (HPair.kind p == (1 : Int)) (cond (HPair.num p != (0 : Int)) (cond (HPair.num p != (0 : Int)) (some { v := V.int IntKind.i64 (4 : Int), bx := [] : DRes }) (cond (Prod.snd (N.find (List.map (fun r => { key := V.toStr (List.getD r (0 : Nat) V.undef), kind := V.toInt (List.getD r (1 : Nat) V.undef), num := V.toInt (List.getD r (2 : Nat) V.undef), text := V.toStr (List.getD r (3 : Nat) V.undef) : HPair }) (List.map (fun p => [V.str (HPair.key p), V.int IntKind.u8 (HPair.kind p), V.int IntKind.i64 (HPair.num p), V.str (HPair.text p)]) l)) (HPair.key p))) (some { v := V.int IntKind.i64 (9 : Int), bx := [] : DRes }) (some { v := V.int IntKind.i64 (0 : Int), bx := [] : DRes }))) (cond (HPair.kind p != (1 : Int)) (cond (!HPair.text p == []) (some { v := V.int IntKind.i64 (4 : Int), bx := [] : DRes }) (cond (Prod.snd (N.find (List.map (fun r => { key := V.toStr (List.getD r (0 : Nat) V.undef), kind := V.toInt (List.getD r (1 : Nat) V.undef), num := V.toInt (List.getD r (2 : Nat) V.undef), text := V.toStr (List.getD r (3 : Nat) V.undef) : HPair }) (List.map (fun p => [V.str (HPair.key p), V.int IntKind.u8 (HPair.kind p), V.int IntKind.i64 (HPair.num p), V.str (HPair.text p)]) l)) (HPair.key p))) (some { v := V.int IntKind.i64 (9 : Int), bx := [] : DRes }) (some { v := V.int IntKind.i64 (0 : Int), bx := [] : DRes }))) (cond (Prod.snd (N.find (List.map (fun r => { key := V.toStr (List.getD r (0 : Nat) V.undef), kind := V.toInt (List.getD r (1 : Nat) V.undef), num := V.toInt (List.getD r (2 : Nat) V.undef), text := V.toStr (List.getD r (3 : Nat) V.undef) : HPair }) (List.map (fun p => [V.str (HPair.key p), V.int IntKind.u8 (HPair.kind p), V.int IntKind.i64 (HPair.num p), V.str (HPair.text p)]) l)) (HPair.key p))) (some { v := V.int IntKind.i64 (9 : Int), bx := [] : DRes }) (some { v := V.int IntKind.i64 (0 : Int), bx := [] : DRes })))) (cond (HPair.kind p != (1 : Int)) (cond (!HPair.text p == []) (some { v := V.int IntKind.i64 (4 : Int), bx := [] : DRes }) (cond (Prod.snd (N.find (List.map (fun r => { key := V.toStr (List.getD r (0 : Nat) V.undef), kind := V.toInt (List.getD r (1 : Nat) V.undef), num := V.toInt (List.getD r (2 : Nat) V.undef), text := V.toStr (List.getD r (3 : Nat) V.undef) : HPair }) (List.map (fun p => [V.str (HPair.key p), V.int IntKind.u8 (HPair.kind p), V.int IntKind.i64 (HPair.num p), V.str (HPair.text p)]) l)) (HPair.key p))) (some { v := V.int IntKind.i64 (9 : Int), bx := [] : DRes }) (some { v := V.int IntKind.i64 (0 : Int), bx := [] : DRes }))) (cond (Prod.snd (N.find (List.map (fun r => { key := V.toStr (List.getD r (0 : Nat) V.undef), kind := V.toInt (List.getD r (1 : Nat) V.undef), num := V.toInt (List.getD r (2 : Nat) V.undef), text := V.toStr (List.getD r (3 : Nat) V.undef) : HPair }) (List.map (fun p => [V.str (HPair.key p), V.int IntKind.u8 (HPair.kind p), V.int IntKind.i64 (HPair.num p), V.str (HPair.text p)]) l)) (HPair.key p))) (some { v := V.int IntKind.i64 (9 : Int), bx := [] : DRes }) (some { v := V.int IntKind.i64 (0 : Int), bx := [] : DRes }))))) (cond (HPair.kind p == (1 : Int)) (cond (HPair.num p != (0 : Int)) (cond (HPair.num p != (0 : Int)) (some { v := V.int IntKind.i64 (4 : Int), bx := [] : DRes }) (cond (Prod.snd (N.find (List.map (fun r => { key := V.toStr (List.getD r (0 : Nat) V.undef), kind := V.toInt (List.getD r (1 : Nat) V.undef), num := V.toInt (List.getD r (2 : Nat) V.undef), text := V.toStr (List.getD r (3 : Nat) V.undef) : HPair }) (List.map (fun p => [V.str (HPair.key p), V.int IntKind.u8 (HPair.kind p), V.int IntKind.i64 (HPair.num p), V.str (HPair.text p)]) l)) (HPair.key p))) (some { v := V.int IntKind.i64 (9 : Int), bx := [] : DRes }) (some { v := V.int IntKind.i64 (0 : Int), bx := [] : DRes }))) (cond (HPair.kind p != (1 : Int)) (cond (!HPair.text p == []) (some { v := V.int IntKind.i64 (4 : Int), bx := [] : DRes }) (cond (Prod.snd (N.find (List.map (fun r => { key := V.toStr (List.getD r (0 : Nat) V.undef), kind := V.toInt (List.getD r (1 : Nat) V.undef), num := V.toInt (List.getD r (2 : Nat) V.undef), text := V.toStr (List.getD r (3 : Nat) V.undef) : HPair }) (List.map (fun p => [V.str (HPair.key p), V.int IntKind.u8 (HPair.kind p), V.int IntKind.i64 (HPair.num p), V.str (HPair.text p)]) l)) (HPair.key p))) (some { v := V.int IntKind.i64 (9 : Int), bx := [] : DRes }) (some { v := V.int IntKind.i64 (0 : Int), bx := [] : DRes }))) (cond (Prod.snd (N.find (List.map (fun r => { key := V.toStr (List.getD r (0 : Nat) V.undef), kind := V.toInt (List.getD r (1 : Nat) V.undef), num := V.toInt (List.getD r (2 : Nat) V.undef), text := V.toStr (List.getD r (3 : Nat) V.undef) : HPair }) (List.map (fun p => [V.str (HPair.key p), V.int IntKind.u8 (HPair.kind p), V.int IntKind.i64 (HPair.num p), V.str (HPair.text p)]) l)) (HPair.key p))) (some { v := V.int IntKind.i64 (9 : Int), bx := [] : DRes }) (some { v := V.int IntKind.i64 (0 : Int), bx := [] : DRes })))) (cond (HPair.kind p != (1 : Int)) (cond (!HPair.text p == []) (some { v := V.int IntKind.i64 (4 : Int), bx := [] : DRes }) (cond (Prod.snd (N.find (List.map (fun r => { key := V.toStr (List.getD r (0 : Nat) V.undef), kind := V.toInt (List.getD r (1 : Nat) V.undef), num := V.toInt (List.getD r (2 : Nat) V.undef), text := V.toStr (List.getD r (3 : Nat) V.undef) : HPair }) (List.map (fun p => [V.str (HPair.key p), V.int IntKind.u8 (HPair.kind p), V.int IntKind.i64 (HPair.num p), V.str (HPair.text p)]) l)) (HPair.key p))) (some { v := V.int IntKind.i64 (9 : Int), bx := [] : DRes }) (some { v := V.int IntKind.i64 (0 : Int), bx := [] : DRes }))) (cond (Prod.snd (N.find (List.map (fun r => { key := V.toStr (List.getD r (0 : Nat) V.undef), kind := V.toInt (List.getD r (1 : Nat) V.undef), num := V.toInt (List.getD r (2 : Nat) V.undef), text := V.toStr (List.getD r (3 : Nat) V.undef) : HPair }) (List.map (fun p => [V.str (HPair.key p), V.int IntKind.u8 (HPair.kind p), V.int IntKind.i64 (HPair.num p), V.str (HPair.text p)]) l)) (HPair.key p))) (some { v := V.int IntKind.i64 (9 : Int), bx := [] : DRes }) (some { v := V.int IntKind.i64 (0 : Int), bx := [] : DRes })))))) (cond (HPair.kind p == (2 : Int)) (cond (HPair.num p != (0 : Int)) (cond (HPair.num p != (1 : Int)) (some { v := V.int IntKind.i64 (7 : Int), bx := [] : DRes }) (cond (HPair.kind p == (1 : Int)) (cond (HPair.num p != (0 : Int)) (cond (HPair.num p != (0 : Int)) (some { v := V.int IntKind.i64 (4 : Int), bx := [] : DRes }) (cond (Prod.snd (N.find (List.map (fun r => { key := V.toStr (List.getD r (0 : Nat) V.undef), kind := V.toInt (List.getD r (1 : Nat) V.undef), num := V.toInt (List.getD r (2 : Nat) V.undef), text := V.toStr (List.getD r (3 : Nat) V.undef) : HPair }) (List.map (fun p => [V.str (HPair.key p), V.int IntKind.u8 (HPair.kind p), V.int IntKind.i64 (HPair.num p), V.str (HPair.text p)]) l)) (HPair.key p))) (some { v := V.int IntKind.i64 (9 : Int), bx := [] : DRes }) (some { v := V.int IntKind.i64 (0 : Int), bx := [] : DRes }))) (cond (HPair.kind p != (1 : Int)) (cond (!HPair.text p == []) (some { v := V.int IntKind.i64 (4 : Int), bx := [] : DRes }) (cond (Prod.snd (N.find (List.map (fun r => { key := V.toStr (List.getD r (0 : Nat) V.undef), kind := V.toInt (List.getD r (1 : Nat) V.undef), num := V.toInt (List.getD r (2 : Nat) V.undef), text := V.toStr (List.getD r (3 : Nat) V.undef) : HPair }) (List.map (fun p => [V.str (HPair.key p), V.int IntKind.u8 (HPair.kind p), V.int IntKind.i64 (HPair.num p), V.str (HPair.text p)]) l)) (HPair.key p))) (some { v := V.int IntKind.i64 (9 : Int), bx := [] : DRes }) (some { v := V.int IntKind.i64 (0 : Int), bx := [] : DRes }))) (cond (Prod.snd (N.find (List.map (fun r => { key := V.toStr (List.getD r (0 : Nat) V.undef), kind := V.toInt (List.getD r (1 : Nat) V.undef), num := V.toInt (List.getD r (2 : Nat) V.undef), text := V.toStr (List.getD r (3 : Nat) V.undef) : HPair }) (List.map (fun p => [V.str (HPair.key p), V.int IntKind.u8 (HPair.kind p), V.int IntKind.i64 (HPair.num p), V.str (HPair.text p)]) l)) (HPair.key p))) (some { v := V.int IntKind.i64 (9 : Int), bx := [] : DRes }) (some { v := V.int IntKind.i64 (0 : Int), bx := [] : DRes })))) (cond (HPair.kind p != (1 : Int)) (cond (!HPair.text p == []) (some { v := V.int IntKind.i64 (4 : Int), bx := [] : DRes }) (cond (Prod.snd (N.find (List.map (fun r => { key := V.toStr (List.getD r (0 : Nat) V.undef), kind := V.toInt (List.getD r (1 : Nat) V.undef), num := V.toInt (List.getD r (2 : Nat) V.undef), text := V.toStr (List.getD r (3 : Nat) V.undef) : HPair }) (List.map (fun p => [V.str (HPair.key p), V.int IntKind.u8 (HPair.kind p), V.int IntKind.i64 (HPair.num p), V.str (HPair.text p)]) l)) (HPair.key p))) (some { v := V.int IntKind.i64 (9 : Int), bx := [] : DRes }) (some { v := V.int IntKind.i64 (0 : Int), bx := [] : DRes }))) (cond (Prod.snd (N.find (List.map (fun r => { key := V.toStr (List.getD r (0 : Nat) V.undef), kind := V.toInt (List.getD r (1 : Nat) V.undef), num := V.toInt (List.getD r (2 : Nat) V.undef), text := V.toStr (List.getD r (3 : Nat) V.undef) : HPair }) (List.map (fun p => [V.str (HPair.key p), V.int IntKind.u8 (HPair.kind p), V.int IntKind.i64 (HPair.num p), V.str (HPair.text p)]) l)) (HPair.key p))) (some { v := V.int IntKind.i64 (9 : Int), bx := [] : DRes }) (some { v := V.int IntKind.i64 (0 : Int), bx := [] : DRes }))))) (cond (HPair.kind p == (1 : Int)) (cond (HPair.num p != (0 : Int)) (cond (HPair.num p != (0 : Int)) (some { v := V.int IntKind.i64 (4 : Int), bx := [] : DRes }) (cond (Prod.snd (N.find (List.map (fun r => { key := V.toStr (List.getD r (0 : Nat) V.undef), kind := V.toInt (List.getD r (1 : Nat) V.undef), num := V.toInt (List.getD r (2 : Nat) V.undef), text := V.toStr (List.getD r (3 : Nat) V.undef) : HPair }) (List.map (fun p => [V.str (HPair.key p), V.int IntKind.u8 (HPair.kind p), V.int IntKind.i64 (HPair.num p), V.str (HPair.text p)]) l)) (HPair.key p))) (some { v := V.int IntKind.i64 (9 : Int), bx := [] : DRes }) (some { v := V.int IntKind.i64 (0 : Int), bx := [] : DRes }))) (cond (HPair.kind p != (1 : Int)) (cond (!HPair.text p == []) (some { v := V.int IntKind.i64 (4 : Int), bx := [] : DRes }) (cond (Prod.snd (N.find (List.map (fun r => { key := V.toStr (List.getD r (0 : Nat) V.undef), kind := V.toInt (List.getD r (1 : Nat) V.undef), num := V.toInt (List.getD r (2 : Nat) V.undef), text := V.toStr (List.getD r (3 : Nat) V.undef) : HPair }) (List.map (fun p => [V.str (HPair.key p), V.int IntKind.u8 (HPair.kind p), V.int IntKind.i64 (HPair.num p), V.str (HPair.text p)]) l)) (HPair.key p))) (some { v := V.int IntKind.i64 (9 : Int), bx := [] : DRes }) (some { v := V.int IntKind.i64 (0 : Int), bx := [] : DRes }))) (cond (Prod.snd (N.find (List.map (fun r => { key := V.toStr (List.getD r (0 : Nat) V.undef), kind := V.toInt (List.getD r (1 : Nat) V.undef), num := V.toInt (List.getD r (2 : Nat) V.undef), text := V.toStr (List.getD r (3 : Nat) V.undef) : HPair }) (List.map (fun p => [V.str (HPair.key p), V.int IntKind.u8 (HPair.kind p), V.int IntKind.i64 (HPair.num p), V.str (HPair.text p)]) l)) (HPair.key p))) (some { v := V.int IntKind.i64 (9 : Int), bx := [] : DRes }) (some { v := V.int IntKind.i64 (0 : Int), bx := [] : DRes })))) (cond (HPair.kind p != (1 : Int)) (cond (!HPair.text p == []) (some { v := V.int IntKind.i64 (4 : Int), bx := [] : DRes }) (cond (Prod.snd (N.find (List.map (fun r => { key := V.toStr (List.getD r (0 : Nat) V.undef), kind := V.toInt (List.getD r (1 : Nat) V.undef), num := V.toInt (List.getD r (2 : Nat) V.undef), text := V.toStr (List.getD r (3 : Nat) V.undef) : HPair }) (List.map (fun p => [V.str (HPair.key p), V.int IntKind.u8 (HPair.kind p), V.int IntKind.i64 (HPair.num p), V.str (HPair.text p)]) l)) (HPair.key p))) (some { v := V.int IntKind.i64 (9 : Int), bx := [] : DRes }) (some { v := V.int IntKind.i64 (0 : Int), bx := [] : DRes }))) (cond (Prod.snd (N.find (List.map (fun r => { key := V.toStr (List.getD r (0 : Nat) V.undef), kind := V.toInt (List.getD r (1 : Nat) V.undef), num := V.toInt (List.getD r (2 : Nat) V.undef), text := V.toStr (List.getD r (3 : Nat) V.undef) : HPair }) (List.map (fun p => [V.str (HPair.key p), V.int IntKind.u8 (HPair.kind p), V.int IntKind.i64 (HPair.num p), V.str (HPair.text p)]) l)) (HPair.key p))) (some { v := V.int IntKind.i64 (9 : Int), bx := [] : DRes }) (some { v := V.int IntKind.i64 (0 : Int), bx := [] : DRes }))))) (cond (HPair.kind p == (1 : Int)) (cond (HPair.num p != (0 : Int)) (cond (HPair.num p != (0 : Int)) (some { v := V.int IntKind.i64 (4 : Int), bx := [] : DRes }) (cond (Prod.snd (N.find (List.map (fun r => { key := V.toStr (List.getD r (0 : Nat) V.undef), kind := V.toInt (List.getD r (1 : Nat) V.undef), num := V.toInt (List.getD r (2 : Nat) V.undef), text := V.toStr (List.getD r (3 : Nat) V.undef) : HPair }) (List.map (fun p => [V.str (HPair.key p), V.int IntKind.u8 (HPair.kind p), V.int IntKind.i64 (HPair.num p), V.str (HPair.text p)]) l)) (HPair.key p))) (some { v := V.int IntKind.i64 (9 : Int), bx := [] : DRes }) (some { v := V.int IntKind.i64 (0 : Int), bx := [] : DRes }))) (cond (HPair.kind p != (1 : Int)) (cond (!HPair.text p == []) (some { v := V.int IntKind.i64 (4 : Int), bx := [] : DRes }) (cond (Prod.snd (N.find (List.map (fun r => { key := V.toStr (List.getD r (0 : Nat) V.undef), kind := V.toInt (List.getD r (1 : Nat) V.undef), num := V.toInt (List.getD r (2 : Nat) V.undef), text := V.toStr (List.getD r (3 : Nat) V.undef) : HPair }) (List.map (fun p => [V.str (HPair.key p), V.int IntKind.u8 (HPair.kind p), V.int IntKind.i64 (HPair.num p), V.str (HPair.text p)]) l)) (HPair.key p))) (some { v := V.int IntKind.i64 (9 : Int), bx := [] : DRes }) (some { v := V.int IntKind.i64 (0 : Int), bx := [] : DRes }))) (cond (Prod.snd (N.find (List.map (fun r => { key := V.toStr (List.getD r (0 : Nat) V.undef), kind := V.toInt (List.getD r (1 : Nat) V.undef), num := V.toInt (List.getD r (2 : Nat) V.undef), text := V.toStr (List.getD r (3 : Nat) V.undef) : HPair }) (List.map (fun p => [V.str (HPair.key p), V.int IntKind.u8 (HPair.kind p), V.int IntKind.i64 (HPair.num p), V.str (HPair.text p)]) l)) (HPair.key p))) (some { v := V.int IntKind.i64 (9 : Int), bx := [] : DRes }) (some { v := V.int IntKind.i64 (0 : Int), bx := [] : DRes })))) (cond (HPair.kind p != (1 : Int)) (cond (!HPair.text p == []) (some { v := V.int IntKind.i64 (4 : Int), bx := [] : DRes }) (cond (Prod.snd (N.find (List.map (fun r => { key := V.toStr (List.getD r (0 : Nat) V.undef), kind := V.toInt (List.getD r (1 : Nat) V.undef), num := V.toInt (List.getD r (2 : Nat) V.undef), text := V.toStr (List.getD r (3 : Nat) V.undef) : HPair }) (List.map (fun p => [V.str (HPair.key p), V.int IntKind.u8 (HPair.kind p), V.int IntKind.i64 (HPair.num p), V.str (HPair.text p)]) l)) (HPair.key p))) (some { v := V.int IntKind.i64 (9 : Int), bx := [] : DRes }) (some { v := V.int IntKind.i64 (0 : Int), bx := [] : DRes }))) (cond (Prod.snd (N.find (List.map (fun r => { key := V.toStr (List.getD r (0 : Nat) V.undef), kind := V.toInt (List.getD r (1 : Nat) V.undef), num := V.toInt (List.getD r (2 : Nat) V.undef), text := V.toStr (List.getD r (3 : Nat) V.undef) : HPair }) (List.map (fun p => [V.str (HPair.key p), V.int IntKind.u8 (HPair.kind p), V.int IntKind.i64 (HPair.num p), V.str (HPair.text p)]) l)) (HPair.key p))) (some { v := V.int IntKind.i64 (9 : Int), bx := [] : DRes }) (some { v := V.int IntKind.i64 (0 : Int), bx := [] : DRes }))))))) (none)) := by kernel_rfl
theorem ok_pairE : FnOk Tryz.prog 77 dPairE := by
  refine den_okF (env_ok (((TOk.nil _).cons ok_find).cons ok_name)) (E := ePairE) Tryz.func77 [] (by kernel_rfl) none0 fun a _ h => ?_
  obtain ⟨p, l⟩ := a
  have h : l.length ≤ 1000000 := ble_of h
  refine (q_pairE p l).trans ?_
  show _ = some (⟨.int .i64 (N.pairE p l), [], []⟩ : DRes)
  unfold N.pairE
  simp (disch := omega) only [evs, pairs_enc, bne]
  cases N.name p.key == 0 with
  | false => rfl
  | true =>
    cases ilt 2 p.kind with
    | true => rfl
    | false =>
      cases h1 : p.kind == 1 <;> cases ilt 64 p.text.length <;> cases p.kind == 2 <;> cases p.num == 0 <;> cases p.num == 1 <;> cases p.text == [] <;> cases (N.find l p.key).2 <;> rfl
def schHeadCheck : SSch := { fr := [(0, .slc [.str, .int .u8, .int .i64, .str]), (9, .slc [.str, .int .u8, .int .i64, .str]), (10, .int .i64), (11, .int .i64)], tab := [] }
def gHeadCheck : List Leaf → (Ex → St → Option R) → Option R
  | [.r r0, .r r9, .i i10, .i i11], K => cond (i10 == r9.length) (cond (Nat.beq r0.length r9.length) (cond (ile 0 i11) (cond (Nat.ble r0.length LIM) (cond (N.samePs (rowsP r0) (rowsP r9))
      (cond (N.checkFrom (rowsP r9) (r9.length - i11.toNat) i11 != 0) (K .ret { fr := [(2, .int .i64 (N.checkFrom (rowsP r9) (r9.length - i11.toNat) i11))], tab := [] }) (K (.exit 0) { fr := [], tab := [] })) none) none) none) none) none
  | _, _ => none
noncomputable def eHeadCheck : Env := env Tryz.prog [(77, dPairE)] [(4, loopF schHeadCheck gHeadCheck)] [(4, [(0, [0, 9, 10, 11]), (1, []), (1000, [2])])]
theorem q_headCheck (h : List HPair) : evFn eHeadCheck 62 ((aOne (vSl cPair)).enc h) ([]) some =
 cond (ilt (8 : Int) (↑(List.length (List.map (fun p => [V.str (HPair.key p), V.int IntKind.u8 (HPair.kind p), V.int IntKind.i64 (HPair.num p), V.str (HPair.text p)]) h)) : Int)) (some { v := V.int IntKind.i64 (6 : Int), bx := [] : DRes }) (cond ((↑(List.length (List.map (fun p => [V.str (HPair.key p), V.int IntKind.u8 (HPair.kind p), V.int IntKind.i64 (HPair.num p), V.str (HPair.text p)]) h)) : Int) == (↑(List.length (List.map (fun p => [V.str (HPair.key p), V.int IntKind.u8 (HPair.kind p), V.int IntKind.i64 (HPair.num p), V.str (HPair.text p)]) h)) : Int)) (cond (Nat.beq (List.length (List.map (fun p => [V.str (HPair.key p), V.int IntKind.u8 (HPair.kind p), V.int IntKind.i64 (HPair.num p), V.str (HPair.text p)]) h)) (List.length (List.map (fun p => [V.str (HPair.key p), V.int IntKind.u8 (HPair.kind p), V.int IntKind.i64 (HPair.num p), V.str (HPair.text p)]) h))) (cond (Nat.ble (List.length (List.map (fun p => [V.str (HPair.key p), V.int IntKind.u8 (HPair.kind p), V.int IntKind.i64 (HPair.num p), V.str (HPair.text p)]) h)) (1000000 : Nat)) (cond (N.samePs (List.map (fun r => { key := V.toStr (List.getD r (0 : Nat) V.undef), kind := V.toInt (List.getD r (1 : Nat) V.undef), num := V.toInt (List.getD r (2 : Nat) V.undef), text := V.toStr (List.getD r (3 : Nat) V.undef) : HPair }) (List.map (fun p => [V.str (HPair.key p), V.int IntKind.u8 (HPair.kind p), V.int IntKind.i64 (HPair.num p), V.str (HPair.text p)]) h)) (List.map (fun r => { key := V.toStr (List.getD r (0 : Nat) V.undef), kind := V.toInt (List.getD r (1 : Nat) V.undef), num := V.toInt (List.getD r (2 : Nat) V.undef), text := V.toStr (List.getD r (3 : Nat) V.undef) : HPair }) (List.map (fun p => [V.str (HPair.key p), V.int IntKind.u8 (HPair.kind p), V.int IntKind.i64 (HPair.num p), V.str (HPair.text p)]) h))) (cond (N.checkFrom (List.map (fun r => { key := V.toStr (List.getD r (0 : Nat) V.undef), kind := V.toInt (List.getD r (1 : Nat) V.undef), num := V.toInt (List.getD r (2 : Nat) V.undef), text := V.toStr (List.getD r (3 : Nat) V.undef) : HPair }) (List.map (fun p => [V.str (HPair.key p), V.int IntKind.u8 (HPair.kind p), V.int IntKind.i64 (HPair.num p), V.str (HPair.text p)]) h)) (List.length (List.map (fun p => [V.str (HPair.key p), V.int IntKind.u8 (HPair.kind p), V.int IntKind.i64 (HPair.num p), V.str (HPair.text p)]) h) - (0 : Nat)) (0 : Int) != (0 : Int)) (some { v := V.int IntKind.i64 (N.checkFrom (List.map (fun r => { key := V.toStr (List.getD r (0 : Nat) V.undef), kind := V.toInt (List.getD r (1 : Nat) V.undef), num := V.toInt (List.getD r (2 : Nat) V.undef), text := V.toStr (List.getD r (3 : Nat) V.undef) : HPair }) (List.map (fun p => [V.str (HPair.key p), V.int IntKind.u8 (HPair.kind p), V.int IntKind.i64 (HPair.num p), V.str (HPair.text p)]) h)) (List.length (List.map (fun p => [V.str (HPair.key p), V.int IntKind.u8 (HPair.kind p), V.int IntKind.i64 (HPair.num p), V.str (HPair.text p)]) h) - (0 : Nat)) (0 : Int)), bx := [] : DRes }) (some { v := V.int IntKind.i64 (0 : Int), bx := [] : DRes })) (none)) (none)) (none)) (none)) := by kernel_rfl
theorem q_headCheckR (r0 : List (List V)) (r9 : List (List V)) (i11 : Int) (K : Ex → St → Option R) : evRound eHeadCheck 62 4 { fr := [(0, .slc [.str, .int .u8, .int .i64, .str] r0), (9, .slc [.str, .int .u8, .int .i64, .str] r9), (10, .int .i64 r9.length), (11, .int .i64 i11)], tab := [] } K =
 cond (ilt i11 (↑(List.length r9) : Int)) (cond (decide ((0 : Int) ≤ i11 ∧ i11 < (↑(List.length r9) : Int))) (cond (decide ((0 : Int) ≤ i11 ∧ i11 ≤ (↑(List.length r0) : Int))) (cond (Nat.ble (List.length (List.map (fun r => { key := V.toStr (List.getD r (0 : Nat) V.undef), kind := V.toInt (List.getD r (1 : Nat) V.undef), num := V.toInt (List.getD r (2 : Nat) V.undef), text := V.toStr (List.getD r (3 : Nat) V.undef) : HPair }) (List.drop (0 : Nat) (List.take (Int.toNat i11) r0)))) (1000000 : Nat)) (cond (N.pairE { key := V.toStr (List.getD (List.getD r9 (Int.toNat i11) []) (0 : Nat) V.undef), kind := V.toInt (List.getD (List.getD r9 (Int.toNat i11) []) (1 : Nat) V.undef), num := V.toInt (List.getD (List.getD r9 (Int.toNat i11) []) (2 : Nat) V.undef), text := V.toStr (List.getD (List.getD r9 (Int.toNat i11) []) (3 : Nat) V.undef) : HPair } (List.map (fun r => { key := V.toStr (List.getD r (0 : Nat) V.undef), kind := V.toInt (List.getD r (1 : Nat) V.undef), num := V.toInt (List.getD r (2 : Nat) V.undef), text := V.toStr (List.getD r (3 : Nat) V.undef) : HPair }) (List.drop (0 : Nat) (List.take (Int.toNat i11) r0))) != (0 : Int)) (K Ex.ret { fr := [((2 : Nat), V.int IntKind.i64 (N.pairE { key := V.toStr (List.getD (List.getD r9 (Int.toNat i11) []) (0 : Nat) V.undef), kind := V.toInt (List.getD (List.getD r9 (Int.toNat i11) []) (1 : Nat) V.undef), num := V.toInt (List.getD (List.getD r9 (Int.toNat i11) []) (2 : Nat) V.undef), text := V.toStr (List.getD (List.getD r9 (Int.toNat i11) []) (3 : Nat) V.undef) : HPair } (List.map (fun r => { key := V.toStr (List.getD r (0 : Nat) V.undef), kind := V.toInt (List.getD r (1 : Nat) V.undef), num := V.toInt (List.getD r (2 : Nat) V.undef), text := V.toStr (List.getD r (3 : Nat) V.undef) : HPair }) (List.drop (0 : Nat) (List.take (Int.toNat i11) r0)))))], tab := [] : St }) (K Ex.normal { fr := [((0 : Nat), V.slc [Sh.str, Sh.int IntKind.u8, Sh.int IntKind.i64, Sh.str] r0), ((9 : Nat), V.slc [Sh.str, Sh.int IntKind.u8, Sh.int IntKind.i64, Sh.str] r9), ((10 : Nat), V.int IntKind.i64 (↑(List.length r9) : Int)), ((11 : Nat), V.int IntKind.i64 (IntKind.wrap IntKind.i64 (i11 + (1 : Int))))], tab := [] : St })) (none)) (none)) (none)) (K (Ex.exit (0 : Nat)) { fr := [], tab := [] : St }) := by kernel_rfl
theorem samePs_refl : ∀ l, N.samePs l l = true
  | [] => rfl
  | p :: l => by
    unfold N.samePs N.eqP
    rw [samePs_refl l]; simp
theorem eqP_eq {p q : HPair} (h : N.eqP p q = true) : p = q := by
  unfold N.eqP at h
  simp only [Bool.and_eq_true, beq_iff_eq, and_true] at h
  cases p; cases q; simp_all
theorem samePs_eq : ∀ {a b : List HPair}, N.samePs a b = true → a = b
  | [], [], _ => rfl
  | [], _ :: _, h => by cases h
  | _ :: _, [], h => by cases h
  | p :: a, q :: b, h => by
    unfold N.samePs at h
    cases e : N.eqP p q with
    | true => rw [e, cond_true] at h; rw [eqP_eq e, samePs_eq h]
    | false => rw [e] at h; cases h
theorem ok_headCheck : FnOk Tryz.prog 62 dHeadCheck := by
  refine den_okF (env_ok ((TOk.nil _).cons ok_pairE)) (E := eHeadCheck) Tryz.func62 [4] (by kernel_rfl) (one1 (rounds_of rfl fun l K q h => ?_)) fun h _ _ => ?_
  · unfold gHeadCheck at h
    split at h
    · rename_i r0 r n i
      have h1 := (cond_none h).1; replace h := (cond_none h).2; have h2 := (cond_none h).1; replace h := (cond_none h).2; have h3 := (cond_none h).1; replace h := (cond_none h).2; have h4 := (cond_none h).1; replace h := (cond_none h).2; have h5 := (cond_none h).1; replace h := (cond_none h).2
      have e1 := ieq_of h1
      subst e1
      have h2 := Nat.eq_of_beq_eq_true h2
      have h4 : r0.length ≤ 1000000 := ble_of h4
      have h5 := samePs_eq h5
      refine loop_ind (E := eHeadCheck) (f := 62) (id := 4) (fun i : Int => { fr := [(0, .slc [.str, .int .u8, .int .i64, .str] r0), (9, .slc [.str, .int .u8, .int .i64, .str] r), (10, .int .i64 r.length), (11, .int .i64 i)], tab := [] }) (fun i => 0 ≤ i) (fun i => r.length - i.toNat)
        (fun i11 K => cond (N.checkFrom (rowsP r) (r.length - i11.toNat) i11 != 0) (K .ret { fr := [(2, .int .i64 (N.checkFrom (rowsP r) (r.length - i11.toNat) i11))], tab := [] }) (K (.exit 0) { fr := [], tab := [] })) (fun i hi => ?_) i (ile_of h3) K q (by assumption)
      by_cases hl : i < r.length
      · have e : N.checkFrom (rowsP r) (r.length - i.toNat) i = cond (N.pairE (rowP (r.getD i.toNat [])) ((rowsP r).take i.toNat) != 0) (N.pairE (rowP (r.getD i.toNat [])) ((rowsP r).take i.toNat)) (N.checkFrom (rowsP r) (r.length - (i + 1).toNat) (i + 1)) := by
          rw [show r.length - i.toNat = (r.length - (i + 1).toNat) + 1 by omega, N.checkFrom, rowsP_getD]
        rw [e]
        have hm : List.map rowP (List.take i.toNat r0) = (rowsP r).take i.toNat := by rw [← h5, rowsP, List.map_take]
        unfold rowP at hm
        cases hc : N.pairE (rowP (r.getD i.toNat [])) ((rowsP r).take i.toNat) != 0 with
        | true =>
          rw [cond_true, hc]
          refine .inr ⟨.ret, _, by simp, fun K => ?_, fun K => rfl⟩
          rw [q_headCheckR]
          unfold rowP at hc
          simp (disch := omega) only [evs, hc, hm, List.length_take, List.drop_zero]
          rfl
        | false =>
          refine .inl ⟨i + 1, by omega, by omega, fun K => ?_, fun K => ?_⟩
          · rw [q_headCheckR]
            unfold rowP at hc
            simp (disch := omega) only [evs, hc, hm, List.length_take, List.drop_zero]
          · rw [cond_false]
      · refine .inr ⟨.exit 0, { fr := [], tab := [] }, by simp, fun K => ?_, fun K => ?_⟩
        · rw [q_headCheckR]
          simp (disch := omega) only [evs]
        · rw [show r.length - i.toNat = 0 by omega]; rfl
    · cases h
  · refine (q_headCheck h).trans ?_
    show _ = some (⟨.int .i64 (N.headCheck h), [], []⟩ : DRes)
    unfold N.headCheck
    by_cases hl : 8 < h.length
    · simp (disch := omega) only [evs]
    · simp (disch := omega) only [evs, pairs_enc, samePs_refl, Nat.sub_zero]
      cases hc : N.checkFrom h h.length 0 != 0 with
      | true => rfl
      | false =>
        have : N.checkFrom h h.length 0 = 0 := by simpa using hc
        rw [this]; rfl
def schHeadBytes : SSch := { fr := [(5, .ptr 10000 0 0), (18, .slc [.str, .int .u8, .int .i64, .str]), (19, .int .i64), (20, .int .i64)], tab := [(10000, .var [.str, .int .i64])] }
def gHeadBytes : List Leaf → (Ex → St → Option R) → Option R
  | [.r r, .i n, .i i, .s s, .i e], K => cond (n == r.length) (cond (e == 0) (cond (ile 0 i) (cond (Nat.ble r.length 8) (cond ((rowsP r).all N.fitP) (cond (ile s.length (1 + 150 * i))
      (K (.exit 0) { fr := [(5, .ptr 10000 0 0 0)], tab := [(10000, .var [.str (s ++ N.pairsB ((rowsP r).drop i.toNat)), .int .i64 0])] }) none) none) none) none) none) none
  | _, _ => none
noncomputable def eHeadBytes : Env := env Tryz.prog [(62, dHeadCheck), (44, dOutNum), (72, dOutText), (47, dOutString)] [(6, loopF schHeadBytes gHeadBytes)] [(6, [(0, [5, 18, 19, 20]), (1, [5]), (1000, [2, 3])])]
theorem q_headBytes (h : List HPair) : evFn eHeadBytes 71 ((aOne (vSl cPair)).enc h) ([]) some =
 cond (N.headCheck (List.map (fun r => { key := V.toStr (List.getD r (0 : Nat) V.undef), kind := V.toInt (List.getD r (1 : Nat) V.undef), num := V.toInt (List.getD r (2 : Nat) V.undef), text := V.toStr (List.getD r (3 : Nat) V.undef) : HPair }) (List.map (fun p => [V.str (HPair.key p), V.int IntKind.u8 (HPair.kind p), V.int IntKind.i64 (HPair.num p), V.str (HPair.text p)]) h)) != (0 : Int)) (some { v := V.tup [V.str [], V.int IntKind.i64 (N.headCheck (List.map (fun r => { key := V.toStr (List.getD r (0 : Nat) V.undef), kind := V.toInt (List.getD r (1 : Nat) V.undef), num := V.toInt (List.getD r (2 : Nat) V.undef), text := V.toStr (List.getD r (3 : Nat) V.undef) : HPair }) (List.map (fun p => [V.str (HPair.key p), V.int IntKind.u8 (HPair.kind p), V.int IntKind.i64 (HPair.num p), V.str (HPair.text p)]) h)))], bx := [] : DRes }) (cond (bif ilt (IntKind.wrap IntKind.u64 (↑(List.length (List.map (fun p => [V.str (HPair.key p), V.int IntKind.u8 (HPair.kind p), V.int IntKind.i64 (HPair.num p), V.str (HPair.text p)]) h)) : Int)) (18446744073709551616 : Int) then true else false) (cond ((↑(List.length (List.map (fun p => [V.str (HPair.key p), V.int IntKind.u8 (HPair.kind p), V.int IntKind.i64 (HPair.num p), V.str (HPair.text p)]) h)) : Int) == (↑(List.length (List.map (fun p => [V.str (HPair.key p), V.int IntKind.u8 (HPair.kind p), V.int IntKind.i64 (HPair.num p), V.str (HPair.text p)]) h)) : Int)) (cond (Nat.ble (List.length (List.map (fun p => [V.str (HPair.key p), V.int IntKind.u8 (HPair.kind p), V.int IntKind.i64 (HPair.num p), V.str (HPair.text p)]) h)) (8 : Nat)) (cond (List.all (List.map (fun r => { key := V.toStr (List.getD r (0 : Nat) V.undef), kind := V.toInt (List.getD r (1 : Nat) V.undef), num := V.toInt (List.getD r (2 : Nat) V.undef), text := V.toStr (List.getD r (3 : Nat) V.undef) : HPair }) (List.map (fun p => [V.str (HPair.key p), V.int IntKind.u8 (HPair.kind p), V.int IntKind.i64 (HPair.num p), V.str (HPair.text p)]) h)) N.fitP) (some { v := V.tup [V.str (OutS.s (N.outNum { s := [], err := (0 : Int) : OutS } (IntKind.wrap IntKind.u64 (↑(List.length (List.map (fun p => [V.str (HPair.key p), V.int IntKind.u8 (HPair.kind p), V.int IntKind.i64 (HPair.num p), V.str (HPair.text p)]) h)) : Int)) (1 : Int)) ++ N.pairsB (List.drop (0 : Nat) (List.map (fun r => { key := V.toStr (List.getD r (0 : Nat) V.undef), kind := V.toInt (List.getD r (1 : Nat) V.undef), num := V.toInt (List.getD r (2 : Nat) V.undef), text := V.toStr (List.getD r (3 : Nat) V.undef) : HPair }) (List.map (fun p => [V.str (HPair.key p), V.int IntKind.u8 (HPair.kind p), V.int IntKind.i64 (HPair.num p), V.str (HPair.text p)]) h)))), V.int IntKind.i64 (0 : Int)], bx := [] : DRes }) (none)) (none)) (none)) (none)) := by kernel_rfl
theorem q_headBytesR (r : List (List V)) (i : Int) (s : Bytes) (K : Ex → St → Option R) : evRound eHeadBytes 71 6 { fr := [(5, .ptr 10000 0 0 0), (18, .slc [.str, .int .u8, .int .i64, .str] r), (19, .int .i64 r.length), (20, .int .i64 i)], tab := [(10000, .var [.str s, .int .i64 0])] } K =
 cond (ilt i (↑(List.length r) : Int)) (cond (decide ((0 : Int) ≤ i ∧ i < (↑(List.length r) : Int))) (cond (Nat.ble (List.length s + List.length (V.toStr (List.getD (List.getD r (Int.toNat i) []) (0 : Nat) V.undef))) (9223372036854775790 : Nat)) (cond (bif ile (0 : Int) (IntKind.wrap IntKind.u64 (V.toInt (List.getD (List.getD r (Int.toNat i) []) (1 : Nat) V.undef))) then bif ilt (IntKind.wrap IntKind.u64 (V.toInt (List.getD (List.getD r (Int.toNat i) []) (1 : Nat) V.undef))) (18446744073709551616 : Int) then Nat.ble (List.length (OutS.s (N.outText { s := s, err := (0 : Int) : OutS } (V.toStr (List.getD (List.getD r (Int.toNat i) []) (0 : Nat) V.undef))))) (9223372036854775799 : Nat) else false else false) (cond (V.toInt (List.getD (List.getD r (Int.toNat i) []) (1 : Nat) V.undef) == (0 : Int)) (cond (bif ile (0 : Int) (IntKind.wrap IntKind.u64 (V.toInt (List.getD (List.getD r (Int.toNat i) []) (2 : Nat) V.undef))) then bif ilt (IntKind.wrap IntKind.u64 (V.toInt (List.getD (List.getD r (Int.toNat i) []) (2 : Nat) V.undef))) (18446744073709551616 : Int) then Nat.ble (List.length (OutS.s (N.outNum (N.outText { s := s, err := (0 : Int) : OutS } (V.toStr (List.getD (List.getD r (Int.toNat i) []) (0 : Nat) V.undef))) (IntKind.wrap IntKind.u64 (V.toInt (List.getD (List.getD r (Int.toNat i) []) (1 : Nat) V.undef))) (1 : Int)))) (9223372036854775799 : Nat) else false else false) (K Ex.normal { fr := [((5 : Nat), V.ptr (10000 : Nat) (0 : Nat) (0 : Nat) (0 : Nat)), ((18 : Nat), V.slc [Sh.str, Sh.int IntKind.u8, Sh.int IntKind.i64, Sh.str] r), ((19 : Nat), V.int IntKind.i64 (↑(List.length r) : Int)), ((20 : Nat), V.int IntKind.i64 (IntKind.wrap IntKind.i64 (i + (1 : Int))))], tab := [((10000 : Nat), Box.var [V.str (OutS.s (N.outNum (N.outNum (N.outText { s := s, err := (0 : Int) : OutS } (V.toStr (List.getD (List.getD r (Int.toNat i) []) (0 : Nat) V.undef))) (IntKind.wrap IntKind.u64 (V.toInt (List.getD (List.getD r (Int.toNat i) []) (1 : Nat) V.undef))) (1 : Int)) (IntKind.wrap IntKind.u64 (V.toInt (List.getD (List.getD r (Int.toNat i) []) (2 : Nat) V.undef))) (8 : Int))), V.int IntKind.i64 (OutS.err (N.outNum (N.outNum (N.outText { s := s, err := (0 : Int) : OutS } (V.toStr (List.getD (List.getD r (Int.toNat i) []) (0 : Nat) V.undef))) (IntKind.wrap IntKind.u64 (V.toInt (List.getD (List.getD r (Int.toNat i) []) (1 : Nat) V.undef))) (1 : Int)) (IntKind.wrap IntKind.u64 (V.toInt (List.getD (List.getD r (Int.toNat i) []) (2 : Nat) V.undef))) (8 : Int)))])] : St }) (none)) (cond (V.toInt (List.getD (List.getD r (Int.toNat i) []) (1 : Nat) V.undef) == (1 : Int)) (cond (Nat.ble (List.length (OutS.s (N.outNum (N.outText { s := s, err := (0 : Int) : OutS } (V.toStr (List.getD (List.getD r (Int.toNat i) []) (0 : Nat) V.undef))) (IntKind.wrap IntKind.u64 (V.toInt (List.getD (List.getD r (Int.toNat i) []) (1 : Nat) V.undef))) (1 : Int))) + List.length (V.toStr (List.getD (List.getD r (Int.toNat i) []) (3 : Nat) V.undef))) (9223372036854775790 : Nat)) (K Ex.normal { fr := [((5 : Nat), V.ptr (10000 : Nat) (0 : Nat) (0 : Nat) (0 : Nat)), ((18 : Nat), V.slc [Sh.str, Sh.int IntKind.u8, Sh.int IntKind.i64, Sh.str] r), ((19 : Nat), V.int IntKind.i64 (↑(List.length r) : Int)), ((20 : Nat), V.int IntKind.i64 (IntKind.wrap IntKind.i64 (i + (1 : Int))))], tab := [((10000 : Nat), Box.var [V.str (OutS.s (N.outText (N.outNum (N.outText { s := s, err := (0 : Int) : OutS } (V.toStr (List.getD (List.getD r (Int.toNat i) []) (0 : Nat) V.undef))) (IntKind.wrap IntKind.u64 (V.toInt (List.getD (List.getD r (Int.toNat i) []) (1 : Nat) V.undef))) (1 : Int)) (V.toStr (List.getD (List.getD r (Int.toNat i) []) (3 : Nat) V.undef)))), V.int IntKind.i64 (OutS.err (N.outText (N.outNum (N.outText { s := s, err := (0 : Int) : OutS } (V.toStr (List.getD (List.getD r (Int.toNat i) []) (0 : Nat) V.undef))) (IntKind.wrap IntKind.u64 (V.toInt (List.getD (List.getD r (Int.toNat i) []) (1 : Nat) V.undef))) (1 : Int)) (V.toStr (List.getD (List.getD r (Int.toNat i) []) (3 : Nat) V.undef))))])] : St }) (none)) (cond (V.toInt (List.getD (List.getD r (Int.toNat i) []) (1 : Nat) V.undef) == (2 : Int)) (cond (bif ile (0 : Int) (IntKind.wrap IntKind.u64 (V.toInt (List.getD (List.getD r (Int.toNat i) []) (2 : Nat) V.undef))) then bif ilt (IntKind.wrap IntKind.u64 (V.toInt (List.getD (List.getD r (Int.toNat i) []) (2 : Nat) V.undef))) (18446744073709551616 : Int) then Nat.ble (List.length (OutS.s (N.outNum (N.outText { s := s, err := (0 : Int) : OutS } (V.toStr (List.getD (List.getD r (Int.toNat i) []) (0 : Nat) V.undef))) (IntKind.wrap IntKind.u64 (V.toInt (List.getD (List.getD r (Int.toNat i) []) (1 : Nat) V.undef))) (1 : Int)))) (9223372036854775799 : Nat) else false else false) (K Ex.normal { fr := [((5 : Nat), V.ptr (10000 : Nat) (0 : Nat) (0 : Nat) (0 : Nat)), ((18 : Nat), V.slc [Sh.str, Sh.int IntKind.u8, Sh.int IntKind.i64, Sh.str] r), ((19 : Nat), V.int IntKind.i64 (↑(List.length r) : Int)), ((20 : Nat), V.int IntKind.i64 (IntKind.wrap IntKind.i64 (i + (1 : Int))))], tab := [((10000 : Nat), Box.var [V.str (OutS.s (N.outNum (N.outNum (N.outText { s := s, err := (0 : Int) : OutS } (V.toStr (List.getD (List.getD r (Int.toNat i) []) (0 : Nat) V.undef))) (IntKind.wrap IntKind.u64 (V.toInt (List.getD (List.getD r (Int.toNat i) []) (1 : Nat) V.undef))) (1 : Int)) (IntKind.wrap IntKind.u64 (V.toInt (List.getD (List.getD r (Int.toNat i) []) (2 : Nat) V.undef))) (1 : Int))), V.int IntKind.i64 (OutS.err (N.outNum (N.outNum (N.outText { s := s, err := (0 : Int) : OutS } (V.toStr (List.getD (List.getD r (Int.toNat i) []) (0 : Nat) V.undef))) (IntKind.wrap IntKind.u64 (V.toInt (List.getD (List.getD r (Int.toNat i) []) (1 : Nat) V.undef))) (1 : Int)) (IntKind.wrap IntKind.u64 (V.toInt (List.getD (List.getD r (Int.toNat i) []) (2 : Nat) V.undef))) (1 : Int)))])] : St }) (none)) (K Ex.normal { fr := [((5 : Nat), V.ptr (10000 : Nat) (0 : Nat) (0 : Nat) (0 : Nat)), ((18 : Nat), V.slc [Sh.str, Sh.int IntKind.u8, Sh.int IntKind.i64, Sh.str] r), ((19 : Nat), V.int IntKind.i64 (↑(List.length r) : Int)), ((20 : Nat), V.int IntKind.i64 (IntKind.wrap IntKind.i64 (i + (1 : Int))))], tab := [((10000 : Nat), Box.var [V.str (OutS.s (N.outNum (N.outText { s := s, err := (0 : Int) : OutS } (V.toStr (List.getD (List.getD r (Int.toNat i) []) (0 : Nat) V.undef))) (IntKind.wrap IntKind.u64 (V.toInt (List.getD (List.getD r (Int.toNat i) []) (1 : Nat) V.undef))) (1 : Int))), V.int IntKind.i64 (OutS.err (N.outNum (N.outText { s := s, err := (0 : Int) : OutS } (V.toStr (List.getD (List.getD r (Int.toNat i) []) (0 : Nat) V.undef))) (IntKind.wrap IntKind.u64 (V.toInt (List.getD (List.getD r (Int.toNat i) []) (1 : Nat) V.undef))) (1 : Int)))])] : St })))) (none)) (none)) (none)) (K (Ex.exit (0 : Nat)) { fr := [((5 : Nat), V.ptr (10000 : Nat) (0 : Nat) (0 : Nat) (0 : Nat))], tab := [((10000 : Nat), Box.var [V.str s, V.int IntKind.i64 (0 : Int)])] : St }) := by kernel_rfl
theorem pairE_fit {p : HPair} {l : List HPair} (h : N.pairE p l = 0) : N.fitP p = true := by
  unfold N.pairE at h
  cases h1 : N.name p.key != 0 with
  | true => rw [h1, cond_true] at h; rw [h] at h1; cases h1
  | false =>
    have hk : p.key.length ≤ 16 := by
      unfold N.name at h1
      cases e1 : p.key == [] with
      | true => rw [e1] at h1; cases h1
      | false =>
        rw [e1] at h1
        cases e2 : ilt 16 p.key.length with
        | true => rw [e2] at h1; cases h1
        | false => have := ilt_nof e2; omega
    rw [h1] at h
    simp only [cond_false, bne] at h
    have ht : p.text.length ≤ 64 := by
      cases h2 : ilt 2 p.kind with
      | true => rw [h2] at h; cases h
      | false =>
        rw [h2] at h
        cases e1 : p.kind == 1 with
        | true =>
          rw [e1] at h
          cases e2 : ilt 64 p.text.length with
          | true => rw [e2] at h; cases h
          | false => have := ilt_nof e2; omega
        | false =>
          rw [e1] at h
          cases e2 : p.text == [] with
          | true => have : p.text = [] := by simpa using e2
                    rw [this]; exact Nat.zero_le _
          | false =>
            rw [e2] at h
            simp only [cond_false, cond_true, Bool.not_false] at h
            revert h
            cases (cond (cond (p.kind == 2) (!p.num == 0) false) (!p.num == 1) false) <;> intro h <;> cases h
    show cond (Nat.ble p.key.length 64) (Nat.ble p.text.length 64) false = true
    rw [ble_t (by omega), ble_t ht]; rfl
theorem checkFrom_fit (h : List HPair) : ∀ (f : Nat) (i : Int), 0 ≤ i → N.checkFrom h f i = 0 → ∀ j : Nat, i ≤ j → (j : Int) < i + f → N.fitP (h.getD j pair0) = true
  | 0, i, _, _, j, h1, h2 => by omega
  | f + 1, i, h0, hc, j, h1, h2 => by
    unfold N.checkFrom at hc
    cases e : N.pairE (h.getD i.toNat pair0) (h.take i.toNat) != 0 with
    | true => rw [e, cond_true] at hc; rw [hc] at e; cases e
    | false =>
      rw [e] at hc
      by_cases hj : (j : Int) = i
      · have : j = i.toNat := by omega
        rw [this]; exact pairE_fit (by simpa using e)
      · exact checkFrom_fit h f (i + 1) (by omega) hc j (by omega) (by omega)
theorem check_fit {h : List HPair} (hz : N.headCheck h = 0) : h.length ≤ 8 ∧ h.all N.fitP = true := by
  unfold N.headCheck at hz
  cases e : ilt 8 h.length with
  | true => rw [e] at hz; cases hz
  | false =>
    have e' := ilt_nof e
    rw [e] at hz
    refine ⟨by omega, List.all_eq_true.2 fun p hp => ?_⟩
    obtain ⟨j, hj, rfl⟩ := List.getElem_of_mem hp
    have := checkFrom_fit h h.length 0 (Int.le_refl _) hz j (by omega) (by omega)
    rwa [List.getD_eq_getElem?_getD, List.getElem?_eq_getElem hj] at this
theorem wu64 (x : Int) : 0 ≤ IntKind.wrap .u64 x ∧ IntKind.wrap .u64 x < 18446744073709551616 := by
  simp only [IntKind.wrap, IntKind.signed, IntKind.bits]
  simp
  omega
theorem numB_len (n : Int) : ∀ k, (N.numB n k).length = k
  | 0 => rfl
  | k + 1 => by simp [N.numB, numB_len n k]
theorem textB_len (s : Bytes) : (N.textB s).length = 2 + s.length := by unfold N.textB; rw [List.length_append, numB_len]
theorem outText_le {x s : Bytes} (h : s.length ≤ 65535) : N.outText ⟨x, 0⟩ s = ⟨x ++ N.textB s, 0⟩ := by
  unfold N.outText
  rw [ilt_f (by omega)]
  show (⟨x ++ N.numB s.length 2 ++ s, 0⟩ : OutS) = _
  unfold N.textB; rw [List.append_assoc]
theorem outNum_1 (x : Bytes) (n : Int) : N.outNum ⟨x, 0⟩ n 1 = ⟨x ++ N.numB n 1, 0⟩ := rfl
theorem outNum_8 (x : Bytes) (n : Int) : N.outNum ⟨x, 0⟩ n 8 = ⟨x ++ N.numB n 8, 0⟩ := rfl
theorem ok_headBytes (hN : FnOk Tryz.prog 44 dOutNum) : FnOk Tryz.prog 71 dHeadBytes := by
  refine den_okF (env_ok (((((TOk.nil _).cons ok_outString).cons (ok_outText hN)).cons hN).cons ok_headCheck)) (E := eHeadBytes) Tryz.func71 [6] (by kernel_rfl) (one1 (rounds_of rfl fun l K q h => ?_)) fun h _ _ => ?_
  · unfold gHeadBytes at h
    split at h
    · rename_i r n i s e
      have h1 := (cond_none h).1; replace h := (cond_none h).2; have h2 := (cond_none h).1; replace h := (cond_none h).2; have h3 := (cond_none h).1; replace h := (cond_none h).2; have h4 := (cond_none h).1; replace h := (cond_none h).2; have h5 := (cond_none h).1; replace h := (cond_none h).2; have h6 := (cond_none h).1; replace h := (cond_none h).2
      have e1 := ieq_of h1
      have e2 := ieq_of h2
      subst e1 e2
      have h4 : r.length ≤ 8 := ble_of h4
      refine loop_ind (E := eHeadBytes) (f := 71) (id := 6) (σ := Int × Bytes) (fun x => { fr := [(5, .ptr 10000 0 0 0), (18, .slc [.str, .int .u8, .int .i64, .str] r), (19, .int .i64 r.length), (20, .int .i64 x.1)], tab := [(10000, .var [.str x.2, .int .i64 0])] })
        (fun x => 0 ≤ x.1 ∧ (x.2.length : Int) ≤ 1 + 150 * x.1) (fun x => r.length - x.1.toNat)
        (fun x K => K (.exit 0) { fr := [(5, .ptr 10000 0 0 0)], tab := [(10000, .var [.str (x.2 ++ N.pairsB ((rowsP r).drop x.1.toNat)), .int .i64 0])] }) ?_ (i, s) ⟨ile_of h3, ile_of h6⟩ K q (by assumption)
      rintro ⟨i, s⟩ ⟨hi, hs⟩
      simp only at hi hs ⊢
      by_cases hl : i < r.length
      · have hlt : i.toNat < r.length := by omega
        have hfit : N.fitP (rowP (r.getD i.toNat [])) = true := List.all_eq_true.1 h5 _ (by
          rw [List.getD_eq_getElem?_getD, List.getElem?_eq_getElem hlt]; exact List.mem_map_of_mem (List.getElem_mem _))
        obtain ⟨f1, f2⟩ := bcond hfit
        have f1 : (V.toStr (List.getD (List.getD r i.toNat []) 0 V.undef)).length ≤ 64 := ble_of f1
        have f2 : (V.toStr (List.getD (List.getD r i.toNat []) 3 V.undef)).length ≤ 64 := ble_of f2
        have u1 := wu64 (V.toInt (List.getD (List.getD r i.toNat []) 1 V.undef))
        have u2 := wu64 (V.toInt (List.getD (List.getD r i.toNat []) 2 V.undef))
        have o1 : N.outText ⟨s, 0⟩ (V.toStr (List.getD (List.getD r i.toNat []) 0 V.undef)) = ⟨s ++ N.textB (V.toStr (List.getD (List.getD r i.toNat []) 0 V.undef)), 0⟩ := outText_le (by omega)
        have o2 : ∀ x : Bytes, N.outText ⟨x, 0⟩ (V.toStr (List.getD (List.getD r i.toNat []) 3 V.undef)) = ⟨x ++ N.textB (V.toStr (List.getD (List.getD r i.toNat []) 3 V.undef)), 0⟩ := fun x => outText_le (by omega)
        rw [drop_pair hlt]
        have e : N.pairsB (rowP (r.getD i.toNat []) :: (rowsP r).drop (i.toNat + 1)) = N.pairB (rowP (r.getD i.toNat [])) ++ N.pairsB ((rowsP r).drop (i.toNat + 1)) := rfl
        rw [e, ← List.append_assoc]
        have hlen : (N.pairB (rowP (r.getD i.toNat []))).length ≤ 150 := by
          unfold N.pairB rowP
          simp only [List.length_append, textB_len, numB_len]
          cases V.toInt (List.getD (List.getD r i.toNat []) 1 V.undef) == 0 <;> cases V.toInt (List.getD (List.getD r i.toNat []) 1 V.undef) == 1 <;> cases V.toInt (List.getD (List.getD r i.toNat []) 1 V.undef) == 2 <;> simp only [cond_true, cond_false, numB_len, textB_len, List.length_nil] <;> omega
        refine .inl ⟨(i + 1, s ++ N.pairB (rowP (r.getD i.toNat []))), ⟨by simp only; omega, by simp only [List.length_append]; omega⟩, by simp only; omega, fun K => ?_, fun K => ?_⟩
        · rw [q_headBytesR]
          unfold N.pairB rowP
          simp (disch := omega) only [evs, o1, o2, outNum_1, outNum_8, textB_len, numB_len, ← List.append_assoc]
          cases V.toInt (List.getD (List.getD r i.toNat []) 1 V.undef) == 0 <;> cases V.toInt (List.getD (List.getD r i.toNat []) 1 V.undef) == 1 <;> cases V.toInt (List.getD (List.getD r i.toNat []) 1 V.undef) == 2 <;> simp only [cond_true, cond_false, List.append_nil]
        · rw [show (i + 1).toNat = i.toNat + 1 by omega]
      · refine .inr ⟨.exit 0, { fr := [(5, .ptr 10000 0 0 0)], tab := [(10000, .var [.str s, .int .i64 0])] }, by simp, fun K => ?_, fun K => ?_⟩
        · rw [q_headBytesR]
          simp (disch := omega) only [evs]
        · rw [List.drop_eq_nil_of_le (by rw [rowsP_length]; omega)]
          show K _ { fr := _, tab := [(10000, .var [.str (s ++ []), .int .i64 0])] } = _
          rw [List.append_nil]
    · cases h
  · refine (q_headBytes h).trans ?_
    show _ = some (⟨.tup [.str (cond (N.headCheck h != 0) (([] : Bytes), N.headCheck h) (N.headBytes h, 0)).1, .int .i64 (cond (N.headCheck h != 0) (([] : Bytes), N.headCheck h) (N.headBytes h, 0)).2], [], []⟩ : DRes)
    cases hc : N.headCheck h != 0 with
    | true =>
      simp (disch := omega) only [evs, pairs_enc, hc]
    | false =>
      have hz : N.headCheck h = 0 := by simpa using hc
      obtain ⟨c1, c2⟩ := check_fit hz
      have u := wu64 (h.length : Int)
      have ul : IntKind.wrap .u64 (h.length : Int) = h.length := wrap_u64 (by omega) (by omega)
      simp (disch := omega) only [evs, pairs_enc, hc, ul, outNum_1, c2, List.drop_zero, List.nil_append]
      rfl
end Go.Ev

/- The program's functions that read heads answer what the plain ones do: lemmas. -/
namespace Go.Ev
open Go Go.Proofs
set_option maxRecDepth 100000

noncomputable def eInText : Env := env Tryz.prog [(26, dNum), (27, dFail), (51, dRaw)] [] []
theorem q_inText (i : InS) (n : Int) : evFn eInText 52 ((aCons (vPtr 0) (aOne (vInt .i64))).enc ((), n)) ((bOne cIn).enc i) some =
 cond (ilt n (IntKind.wrap IntKind.i64 (Prod.fst (N.inNum i (2 : Int))))) (some { v := V.str (Prod.fst (N.inRaw (N.inFail (Prod.snd (N.inNum i (2 : Int))) (5 : Int)) (IntKind.wrap IntKind.i64 (Prod.fst (N.inNum i (2 : Int)))))), bx := [[V.str (InS.s (Prod.snd (N.inRaw (N.inFail (Prod.snd (N.inNum i (2 : Int))) (5 : Int)) (IntKind.wrap IntKind.i64 (Prod.fst (N.inNum i (2 : Int))))))), V.int IntKind.i64 (InS.err (Prod.snd (N.inRaw (N.inFail (Prod.snd (N.inNum i (2 : Int))) (5 : Int)) (IntKind.wrap IntKind.i64 (Prod.fst (N.inNum i (2 : Int)))))))]] : DRes }) (some { v := V.str (Prod.fst (N.inRaw (Prod.snd (N.inNum i (2 : Int))) (IntKind.wrap IntKind.i64 (Prod.fst (N.inNum i (2 : Int)))))), bx := [[V.str (InS.s (Prod.snd (N.inRaw (Prod.snd (N.inNum i (2 : Int))) (IntKind.wrap IntKind.i64 (Prod.fst (N.inNum i (2 : Int))))))), V.int IntKind.i64 (InS.err (Prod.snd (N.inRaw (Prod.snd (N.inNum i (2 : Int))) (IntKind.wrap IntKind.i64 (Prod.fst (N.inNum i (2 : Int)))))))]] : DRes }) := by kernel_rfl
theorem ok_inText : FnOk Tryz.prog 52 dInText := by
  refine den_okF (env_ok ((((TOk.nil _).cons ok_raw).cons ok_fail).cons ok_num)) (E := eInText) Tryz.func52 [] (by kernel_rfl) none0 fun a i _ => ?_
  refine (q_inText i a.2).trans ?_
  show _ = some (⟨.str (N.inText i a.2).1, [[.str (N.inText i a.2).2.s, .int .i64 (N.inText i a.2).2.err]], []⟩ : DRes)
  unfold N.inText
  cases ilt a.2 (IntKind.wrap .i64 (N.inNum i 2).1) <;> rfl
noncomputable def eInErr : Env := env Tryz.prog [] [] []
theorem q_inErr (i : InS) : evFn eInErr 10 ((aOne (vPtr 0)).enc ()) ((bOne cIn).enc i) some =
 some { v := V.int IntKind.i64 (InS.err i), bx := [[V.str (InS.s i), V.int IntKind.i64 (InS.err i)]] : DRes } := by kernel_rfl
theorem ok_inErr : FnOk Tryz.prog 10 dInErr := den_okF (env_ok (TOk.nil _)) (E := eInErr) Tryz.func10 [] (by kernel_rfl) none0 fun _ i _ => q_inErr i
theorem q_inLeft (i : InS) : evFn eInErr 11 ((aOne (vPtr 0)).enc ()) ((bOne cIn).enc i) some =
 some { v := V.int IntKind.i64 (↑(List.length (InS.s i)) : Int), bx := [[V.str (InS.s i), V.int IntKind.i64 (InS.err i)]] : DRes } := by kernel_rfl
theorem ok_inLeft : FnOk Tryz.prog 11 dInLeft := den_okF (env_ok (TOk.nil _)) (E := eInErr) Tryz.func11 [] (by kernel_rfl) none0 fun _ i _ => q_inLeft i
noncomputable def eInEnd : Env := env Tryz.prog [(10, dInErr), (11, dInLeft)] [] []
theorem q_inEnd (i : InS) : evFn eInEnd 22 ((aOne (vPtr 0)).enc ()) ((bOne cIn).enc i) some =
 cond (InS.err i == (0 : Int)) (cond (ilt (0 : Int) (N.inLeft i)) (some { v := V.int IntKind.i64 (4 : Int), bx := [[V.str (InS.s i), V.int IntKind.i64 (InS.err i)]] : DRes }) (some { v := V.int IntKind.i64 (InS.err i), bx := [[V.str (InS.s i), V.int IntKind.i64 (InS.err i)]] : DRes })) (some { v := V.int IntKind.i64 (InS.err i), bx := [[V.str (InS.s i), V.int IntKind.i64 (InS.err i)]] : DRes }) := by kernel_rfl
theorem ok_inEnd : FnOk Tryz.prog 22 dInEnd := by
  refine den_okF (env_ok (((TOk.nil _).cons ok_inLeft).cons ok_inErr)) (E := eInEnd) Tryz.func22 [] (by kernel_rfl) none0 fun _ i _ => ?_
  refine (q_inEnd i).trans ?_
  show _ = some (⟨.int .i64 (cond (i.err == 0) (cond (ilt 0 i.s.length) 4 0) i.err), [[.str i.s, .int .i64 i.err]], []⟩ : DRes)
  unfold N.inLeft
  cases h : i.err == 0 with
  | false => rfl
  | true =>
    have : i.err = 0 := by simpa using h
    rw [this]
    cases ilt 0 (i.s.length : Int) <;> rfl
noncomputable def eOne : Env := env Tryz.prog [(52, dInText), (26, dNum), (27, dFail)] [] []
theorem q_one (i : InS) : evFn eOne 76 ((aOne (vPtr 0)).enc ()) ((bOne cIn).enc i) some =
 cond (IntKind.wrap IntKind.u8 (Prod.fst (N.inNum (Prod.snd (N.inText i (16 : Int))) (1 : Int))) == (0 : Int)) (some { v := V.agg [V.str (Prod.fst (N.inText i (16 : Int))), V.int IntKind.u8 (IntKind.wrap IntKind.u8 (Prod.fst (N.inNum (Prod.snd (N.inText i (16 : Int))) (1 : Int)))), V.int IntKind.i64 (IntKind.wrap IntKind.i64 (Prod.fst (N.inNum (Prod.snd (N.inNum (Prod.snd (N.inText i (16 : Int))) (1 : Int))) (8 : Int)))), V.str []], bx := [[V.str (InS.s (Prod.snd (N.inNum (Prod.snd (N.inNum (Prod.snd (N.inText i (16 : Int))) (1 : Int))) (8 : Int)))), V.int IntKind.i64 (InS.err (Prod.snd (N.inNum (Prod.snd (N.inNum (Prod.snd (N.inText i (16 : Int))) (1 : Int))) (8 : Int))))]] : DRes }) (cond (IntKind.wrap IntKind.u8 (Prod.fst (N.inNum (Prod.snd (N.inText i (16 : Int))) (1 : Int))) == (1 : Int)) (some { v := V.agg [V.str (Prod.fst (N.inText i (16 : Int))), V.int IntKind.u8 (IntKind.wrap IntKind.u8 (Prod.fst (N.inNum (Prod.snd (N.inText i (16 : Int))) (1 : Int)))), V.int IntKind.i64 (0 : Int), V.str (Prod.fst (N.inText (Prod.snd (N.inNum (Prod.snd (N.inText i (16 : Int))) (1 : Int))) (64 : Int)))], bx := [[V.str (InS.s (Prod.snd (N.inText (Prod.snd (N.inNum (Prod.snd (N.inText i (16 : Int))) (1 : Int))) (64 : Int)))), V.int IntKind.i64 (InS.err (Prod.snd (N.inText (Prod.snd (N.inNum (Prod.snd (N.inText i (16 : Int))) (1 : Int))) (64 : Int))))]] : DRes }) (cond (IntKind.wrap IntKind.u8 (Prod.fst (N.inNum (Prod.snd (N.inText i (16 : Int))) (1 : Int))) == (2 : Int)) (some { v := V.agg [V.str (Prod.fst (N.inText i (16 : Int))), V.int IntKind.u8 (IntKind.wrap IntKind.u8 (Prod.fst (N.inNum (Prod.snd (N.inText i (16 : Int))) (1 : Int)))), V.int IntKind.i64 (IntKind.wrap IntKind.i64 (Prod.fst (N.inNum (Prod.snd (N.inNum (Prod.snd (N.inText i (16 : Int))) (1 : Int))) (1 : Int)))), V.str []], bx := [[V.str (InS.s (Prod.snd (N.inNum (Prod.snd (N.inNum (Prod.snd (N.inText i (16 : Int))) (1 : Int))) (1 : Int)))), V.int IntKind.i64 (InS.err (Prod.snd (N.inNum (Prod.snd (N.inNum (Prod.snd (N.inText i (16 : Int))) (1 : Int))) (1 : Int))))]] : DRes }) (some { v := V.agg [V.str (Prod.fst (N.inText i (16 : Int))), V.int IntKind.u8 (IntKind.wrap IntKind.u8 (Prod.fst (N.inNum (Prod.snd (N.inText i (16 : Int))) (1 : Int)))), V.int IntKind.i64 (0 : Int), V.str []], bx := [[V.str (InS.s (N.inFail (Prod.snd (N.inNum (Prod.snd (N.inText i (16 : Int))) (1 : Int))) (8 : Int))), V.int IntKind.i64 (InS.err (N.inFail (Prod.snd (N.inNum (Prod.snd (N.inText i (16 : Int))) (1 : Int))) (8 : Int)))]] : DRes }))) := by kernel_rfl
theorem ok_one : FnOk Tryz.prog 76 dOne := by
  refine den_okF (env_ok ((((TOk.nil _).cons ok_fail).cons ok_num).cons ok_inText)) (E := eOne) Tryz.func76 [] (by kernel_rfl) none0 fun _ i _ => ?_
  refine (q_one i).trans ?_
  show _ = some (⟨.agg [.str (N.one i).1.key, .int .u8 (N.one i).1.kind, .int .i64 (N.one i).1.num, .str (N.one i).1.text], [[.str (N.one i).2.s, .int .i64 (N.one i).2.err]], []⟩ : DRes)
  unfold N.one N.oneOf
  cases IntKind.wrap .u8 (N.inNum (N.inText i 16).2 1).1 == 0 <;> cases IntKind.wrap .u8 (N.inNum (N.inText i 16).2 1).1 == 1 <;> cases IntKind.wrap .u8 (N.inNum (N.inText i 16).2 1).1 == 2 <;> rfl
end Go.Ev

/- The program's functions that read heads, those with loops, answer what the plain ones do: lemmas. -/
namespace Go.Ev
open Go Go.Proofs
set_option maxRecDepth 100000

namespace N
/-- The loop over a head's pairs: went through, what was read, the reader. -/
def hl : Nat → InS → List (List V) → Bool × List (List V) × InS
  | 0, i, rows => (true, rows, i)
  | k + 1, i, rows => cond ((bad (one i).1 (rowsP rows) (one i).2).err != 0) (false, [], bad (one i).1 (rowsP rows) (one i).2) (hl k (bad (one i).1 (rowsP rows) (one i).2) (rows ++ [cPair.enc (one i).1]))
end N
def schHeadRead : SSch := { fr := [(0, .ptr 0 0 0), (4, .own 10000), (13, .int .i64), (14, .int .i64)], tab := [(0, .var [.str, .int .i64]), (10000, .sl [.str, .int .u8, .int .i64, .str])] }
def gHeadRead : List Leaf → (Ex → St → Option R) → Option R
  | [.i n, .i j, .s s, .i e, .r rows], K => cond (ile 0 j) (cond (ile n 300) (cond (Nat.ble (rows.length + (n - j).toNat) LIM) (cond (N.hl (n - j).toNat ⟨s, e⟩ rows).1
      (K (.exit 0) { fr := [(4, .own 10000 0)], tab := [(0, .var [.str (N.hl (n - j).toNat ⟨s, e⟩ rows).2.2.s, .int .i64 (N.hl (n - j).toNat ⟨s, e⟩ rows).2.2.err]), (10000, .sl [.str, .int .u8, .int .i64, .str] (N.hl (n - j).toNat ⟨s, e⟩ rows).2.1 0)] })
      (K .ret { fr := [(2, .own 10000 0)], tab := [(0, .var [.str (N.hl (n - j).toNat ⟨s, e⟩ rows).2.2.s, .int .i64 (N.hl (n - j).toNat ⟨s, e⟩ rows).2.2.err]), (10000, .sl [.str, .int .u8, .int .i64, .str] [] 0)] })) none) none) none
  | _, _ => none
noncomputable def eHeadRead : Env := env Tryz.prog [(26, dNum), (27, dFail), (10, dInErr), (76, dOne), (77, dPairE)] [(6, loopF schHeadRead gHeadRead)] [(6, [(0, [0, 4, 13, 14]), (1, [4]), (1000, [2])])]
theorem q_headRead (i : InS) : evFn eHeadRead 53 (((aOne (vPtr 0)).enc ())) (((bOne cIn).enc i)) some =
 cond (ilt (8 : Int) (IntKind.wrap IntKind.i64 (Prod.fst (N.inNum i (1 : Int))))) (cond (ile (IntKind.wrap IntKind.i64 (Prod.fst (N.inNum i (1 : Int)))) (300 : Int)) (cond (Nat.ble ((0 : Nat) + Int.toNat (IntKind.wrap IntKind.i64 (Prod.fst (N.inNum i (1 : Int))) - (0 : Int))) (1000000 : Nat)) (cond (Prod.fst (N.hl (Int.toNat (IntKind.wrap IntKind.i64 (Prod.fst (N.inNum i (1 : Int))) - (0 : Int))) (N.inFail (Prod.snd (N.inNum i (1 : Int))) (6 : Int)) [])) (some { v := V.slc [Sh.str, Sh.int IntKind.u8, Sh.int IntKind.i64, Sh.str] (Prod.fst (Prod.snd (N.hl (Int.toNat (IntKind.wrap IntKind.i64 (Prod.fst (N.inNum i (1 : Int))) - (0 : Int))) (N.inFail (Prod.snd (N.inNum i (1 : Int))) (6 : Int)) []))), bx := [[V.str (InS.s (Prod.snd (Prod.snd (N.hl (Int.toNat (IntKind.wrap IntKind.i64 (Prod.fst (N.inNum i (1 : Int))) - (0 : Int))) (N.inFail (Prod.snd (N.inNum i (1 : Int))) (6 : Int)) [])))), V.int IntKind.i64 (InS.err (Prod.snd (Prod.snd (N.hl (Int.toNat (IntKind.wrap IntKind.i64 (Prod.fst (N.inNum i (1 : Int))) - (0 : Int))) (N.inFail (Prod.snd (N.inNum i (1 : Int))) (6 : Int)) []))))]] : DRes }) (some { v := V.slc [Sh.str, Sh.int IntKind.u8, Sh.int IntKind.i64, Sh.str] [], bx := [[V.str (InS.s (Prod.snd (Prod.snd (N.hl (Int.toNat (IntKind.wrap IntKind.i64 (Prod.fst (N.inNum i (1 : Int))) - (0 : Int))) (N.inFail (Prod.snd (N.inNum i (1 : Int))) (6 : Int)) [])))), V.int IntKind.i64 (InS.err (Prod.snd (Prod.snd (N.hl (Int.toNat (IntKind.wrap IntKind.i64 (Prod.fst (N.inNum i (1 : Int))) - (0 : Int))) (N.inFail (Prod.snd (N.inNum i (1 : Int))) (6 : Int)) []))))]] : DRes })) (none)) (none)) (cond (ile (IntKind.wrap IntKind.i64 (Prod.fst (N.inNum i (1 : Int)))) (300 : Int)) (cond (Nat.ble ((0 : Nat) + Int.toNat (IntKind.wrap IntKind.i64 (Prod.fst (N.inNum i (1 : Int))) - (0 : Int))) (1000000 : Nat)) (cond (Prod.fst (N.hl (Int.toNat (IntKind.wrap IntKind.i64 (Prod.fst (N.inNum i (1 : Int))) - (0 : Int))) (Prod.snd (N.inNum i (1 : Int))) [])) (some { v := V.slc [Sh.str, Sh.int IntKind.u8, Sh.int IntKind.i64, Sh.str] (Prod.fst (Prod.snd (N.hl (Int.toNat (IntKind.wrap IntKind.i64 (Prod.fst (N.inNum i (1 : Int))) - (0 : Int))) (Prod.snd (N.inNum i (1 : Int))) []))), bx := [[V.str (InS.s (Prod.snd (Prod.snd (N.hl (Int.toNat (IntKind.wrap IntKind.i64 (Prod.fst (N.inNum i (1 : Int))) - (0 : Int))) (Prod.snd (N.inNum i (1 : Int))) [])))), V.int IntKind.i64 (InS.err (Prod.snd (Prod.snd (N.hl (Int.toNat (IntKind.wrap IntKind.i64 (Prod.fst (N.inNum i (1 : Int))) - (0 : Int))) (Prod.snd (N.inNum i (1 : Int))) []))))]] : DRes }) (some { v := V.slc [Sh.str, Sh.int IntKind.u8, Sh.int IntKind.i64, Sh.str] [], bx := [[V.str (InS.s (Prod.snd (Prod.snd (N.hl (Int.toNat (IntKind.wrap IntKind.i64 (Prod.fst (N.inNum i (1 : Int))) - (0 : Int))) (Prod.snd (N.inNum i (1 : Int))) [])))), V.int IntKind.i64 (InS.err (Prod.snd (Prod.snd (N.hl (Int.toNat (IntKind.wrap IntKind.i64 (Prod.fst (N.inNum i (1 : Int))) - (0 : Int))) (Prod.snd (N.inNum i (1 : Int))) []))))]] : DRes })) (none)) (none)) := by kernel_rfl
theorem q_headReadR (i13 : Int) (i14 : Int) (sx0 : Bytes) (ix0 : Int) (rx0 : List (List V)) (K : Ex → St → Option R) : evRound eHeadRead 53 6 { fr := [(0, .ptr 0 0 0 0), (4, .own 10000 0), (13, .int .i64 i13), (14, .int .i64 i14)], tab := [(0, .var [.str sx0, .int .i64 ix0]), (10000, .sl [.str, .int .u8, .int .i64, .str] rx0 0)] } K =
 cond (ilt i14 i13) (cond (InS.err (Prod.snd (N.one { s := sx0, err := ix0 : InS })) == (0 : Int)) (cond (Nat.ble (List.length (List.map (fun r => { key := V.toStr (List.getD r (0 : Nat) V.undef), kind := V.toInt (List.getD r (1 : Nat) V.undef), num := V.toInt (List.getD r (2 : Nat) V.undef), text := V.toStr (List.getD r (3 : Nat) V.undef) : HPair }) rx0)) (1000000 : Nat)) (cond (InS.err (N.inFail (Prod.snd (N.one { s := sx0, err := ix0 : InS })) (N.pairE (Prod.fst (N.one { s := sx0, err := ix0 : InS })) (List.map (fun r => { key := V.toStr (List.getD r (0 : Nat) V.undef), kind := V.toInt (List.getD r (1 : Nat) V.undef), num := V.toInt (List.getD r (2 : Nat) V.undef), text := V.toStr (List.getD r (3 : Nat) V.undef) : HPair }) rx0))) != (0 : Int)) (K Ex.ret { fr := [((2 : Nat), V.own (10000 : Nat) (0 : Nat))], tab := [((0 : Nat), Box.var [V.str (InS.s (N.inFail (Prod.snd (N.one { s := sx0, err := ix0 : InS })) (N.pairE (Prod.fst (N.one { s := sx0, err := ix0 : InS })) (List.map (fun r => { key := V.toStr (List.getD r (0 : Nat) V.undef), kind := V.toInt (List.getD r (1 : Nat) V.undef), num := V.toInt (List.getD r (2 : Nat) V.undef), text := V.toStr (List.getD r (3 : Nat) V.undef) : HPair }) rx0)))), V.int IntKind.i64 (InS.err (N.inFail (Prod.snd (N.one { s := sx0, err := ix0 : InS })) (N.pairE (Prod.fst (N.one { s := sx0, err := ix0 : InS })) (List.map (fun r => { key := V.toStr (List.getD r (0 : Nat) V.undef), kind := V.toInt (List.getD r (1 : Nat) V.undef), num := V.toInt (List.getD r (2 : Nat) V.undef), text := V.toStr (List.getD r (3 : Nat) V.undef) : HPair }) rx0))))]), ((10000 : Nat), Box.sl [Sh.str, Sh.int IntKind.u8, Sh.int IntKind.i64, Sh.str] [] (0 : Nat))] : St }) (cond (decide ((List.length rx0 + (1 : Nat)) * (48 : Nat) ≤ (140737488355328 : Nat))) (K Ex.normal { fr := [((0 : Nat), V.ptr (0 : Nat) (0 : Nat) (0 : Nat) (0 : Nat)), ((4 : Nat), V.own (10000 : Nat) (0 : Nat)), ((13 : Nat), V.int IntKind.i64 i13), ((14 : Nat), V.int IntKind.i64 (IntKind.wrap IntKind.i64 (i14 + (1 : Int))))], tab := [((0 : Nat), Box.var [V.str (InS.s (N.inFail (Prod.snd (N.one { s := sx0, err := ix0 : InS })) (N.pairE (Prod.fst (N.one { s := sx0, err := ix0 : InS })) (List.map (fun r => { key := V.toStr (List.getD r (0 : Nat) V.undef), kind := V.toInt (List.getD r (1 : Nat) V.undef), num := V.toInt (List.getD r (2 : Nat) V.undef), text := V.toStr (List.getD r (3 : Nat) V.undef) : HPair }) rx0)))), V.int IntKind.i64 (InS.err (N.inFail (Prod.snd (N.one { s := sx0, err := ix0 : InS })) (N.pairE (Prod.fst (N.one { s := sx0, err := ix0 : InS })) (List.map (fun r => { key := V.toStr (List.getD r (0 : Nat) V.undef), kind := V.toInt (List.getD r (1 : Nat) V.undef), num := V.toInt (List.getD r (2 : Nat) V.undef), text := V.toStr (List.getD r (3 : Nat) V.undef) : HPair }) rx0))))]), ((10000 : Nat), Box.sl [Sh.str, Sh.int IntKind.u8, Sh.int IntKind.i64, Sh.str] (rx0 ++ [[V.str (HPair.key (Prod.fst (N.one { s := sx0, err := ix0 : InS }))), V.int IntKind.u8 (HPair.kind (Prod.fst (N.one { s := sx0, err := ix0 : InS }))), V.int IntKind.i64 (HPair.num (Prod.fst (N.one { s := sx0, err := ix0 : InS }))), V.str (HPair.text (Prod.fst (N.one { s := sx0, err := ix0 : InS })))]]) (0 : Nat))] : St }) (none))) (none)) (cond (InS.err (Prod.snd (N.one { s := sx0, err := ix0 : InS })) != (0 : Int)) (K Ex.ret { fr := [((2 : Nat), V.own (10000 : Nat) (0 : Nat))], tab := [((0 : Nat), Box.var [V.str (InS.s (Prod.snd (N.one { s := sx0, err := ix0 : InS }))), V.int IntKind.i64 (InS.err (Prod.snd (N.one { s := sx0, err := ix0 : InS })))]), ((10000 : Nat), Box.sl [Sh.str, Sh.int IntKind.u8, Sh.int IntKind.i64, Sh.str] [] (0 : Nat))] : St }) (cond (decide ((List.length rx0 + (1 : Nat)) * (48 : Nat) ≤ (140737488355328 : Nat))) (K Ex.normal { fr := [((0 : Nat), V.ptr (0 : Nat) (0 : Nat) (0 : Nat) (0 : Nat)), ((4 : Nat), V.own (10000 : Nat) (0 : Nat)), ((13 : Nat), V.int IntKind.i64 i13), ((14 : Nat), V.int IntKind.i64 (IntKind.wrap IntKind.i64 (i14 + (1 : Int))))], tab := [((0 : Nat), Box.var [V.str (InS.s (Prod.snd (N.one { s := sx0, err := ix0 : InS }))), V.int IntKind.i64 (InS.err (Prod.snd (N.one { s := sx0, err := ix0 : InS })))]), ((10000 : Nat), Box.sl [Sh.str, Sh.int IntKind.u8, Sh.int IntKind.i64, Sh.str] (rx0 ++ [[V.str (HPair.key (Prod.fst (N.one { s := sx0, err := ix0 : InS }))), V.int IntKind.u8 (HPair.kind (Prod.fst (N.one { s := sx0, err := ix0 : InS }))), V.int IntKind.i64 (HPair.num (Prod.fst (N.one { s := sx0, err := ix0 : InS }))), V.str (HPair.text (Prod.fst (N.one { s := sx0, err := ix0 : InS })))]]) (0 : Nat))] : St }) (none)))) (K (Ex.exit (0 : Nat)) { fr := [((4 : Nat), V.own (10000 : Nat) (0 : Nat))], tab := [((0 : Nat), Box.var [V.str sx0, V.int IntKind.i64 ix0]), ((10000 : Nat), Box.sl [Sh.str, Sh.int IntKind.u8, Sh.int IntKind.i64, Sh.str] rx0 (0 : Nat))] : St }) := by kernel_rfl
theorem hl_enc : ∀ (k : Nat) (i : InS) (l : List HPair), (N.hl k i (l.map cPair.enc)).2 = ((N.readFrom k i l).1.map cPair.enc, (N.readFrom k i l).2)
  | 0, _, _ => rfl
  | k + 1, i, l => by
    unfold N.hl N.readFrom
    rw [rowsP_enc]
    cases (N.bad (N.one i).1 l (N.one i).2).err != 0 with
    | true => rfl
    | false =>
      have := hl_enc k (N.bad (N.one i).1 l (N.one i).2) (l ++ [(N.one i).1])
      rw [List.map_append] at this
      exact this
theorem hl_none : ∀ (k : Nat) (i : InS) (rows : List (List V)), (N.hl k i rows).1 = false → (N.hl k i rows).2.1 = []
  | 0, _, _, h => by cases h
  | k + 1, i, rows, h => by
    unfold N.hl at h ⊢
    cases hc : (N.bad (N.one i).1 (rowsP rows) (N.one i).2).err != 0 with
    | true => rfl
    | false => rw [hc] at h; exact hl_none k _ _ h
theorem inNum1 (i : InS) : 0 ≤ (N.inNum i 1).1 ∧ (N.inNum i 1).1 < 256 := by
  have h := N.inRaw_len i (bif ilt 8 1 then (8 : Int) else 1) 1 (Int.le_refl 1)
  unfold N.inNum
  revert h
  cases (N.inRaw i (bif ilt 8 1 then (8 : Int) else 1)).1 with
  | nil => intro _; exact ⟨Int.le_refl 0, (by decide : (0 : Int) < 256)⟩
  | cons c r =>
    intro h
    cases r with
    | nil =>
      have := c.toNat_lt
      show 0 ≤ (0 * 256 + (c.toNat : Int)) ∧ (0 * 256 + (c.toNat : Int)) < 256
      omega
    | cons _ _ => simp at h
theorem ok_headRead : FnOk Tryz.prog 53 dHeadRead := by
  refine den_okF (env_ok ((((((TOk.nil _).cons ok_pairE).cons ok_one).cons ok_inErr).cons ok_fail).cons ok_num)) (E := eHeadRead) Tryz.func53 [6] (by kernel_rfl) (one1 (rounds_of rfl fun l K q h => ?_)) fun _ i _ => ?_
  · unfold gHeadRead at h
    split at h
    · rename_i n j s e rows
      have h1 := (cond_none h).1; replace h := (cond_none h).2; have h2 := (cond_none h).1; replace h := (cond_none h).2; have h3 := (cond_none h).1; replace h := (cond_none h).2
      have h2 := ile_of h2
      have h3 : rows.length + (n - j).toNat ≤ 1000000 := ble_of h3
      refine loop_ind (E := eHeadRead) (f := 53) (id := 6) (σ := Int × InS × List (List V)) (fun x => { fr := [(0, .ptr 0 0 0 0), (4, .own 10000 0), (13, .int .i64 n), (14, .int .i64 x.1)], tab := [(0, .var [.str x.2.1.s, .int .i64 x.2.1.err]), (10000, .sl [.str, .int .u8, .int .i64, .str] x.2.2 0)] })
        (fun x => 0 ≤ x.1 ∧ x.2.2.length + (n - x.1).toNat ≤ 1000000) (fun x => (n - x.1).toNat)
        (fun x K => cond (N.hl (n - x.1).toNat x.2.1 x.2.2).1
          (K (.exit 0) { fr := [(4, .own 10000 0)], tab := [(0, .var [.str (N.hl (n - x.1).toNat x.2.1 x.2.2).2.2.s, .int .i64 (N.hl (n - x.1).toNat x.2.1 x.2.2).2.2.err]), (10000, .sl [.str, .int .u8, .int .i64, .str] (N.hl (n - x.1).toNat x.2.1 x.2.2).2.1 0)] })
          (K .ret { fr := [(2, .own 10000 0)], tab := [(0, .var [.str (N.hl (n - x.1).toNat x.2.1 x.2.2).2.2.s, .int .i64 (N.hl (n - x.1).toNat x.2.1 x.2.2).2.2.err]), (10000, .sl [.str, .int .u8, .int .i64, .str] [] 0)] })) ?_ (j, ⟨s, e⟩, rows) ⟨ile_of h1, h3⟩ K q (by assumption)
      rintro ⟨j, ⟨s, e⟩, rows⟩ ⟨hj, hr⟩
      simp only at hj hr ⊢
      by_cases hl : j < n
      · rw [show (n - j).toNat = (n - (j + 1)).toNat + 1 by omega]
        simp only [N.hl]
        cases hc : ((N.bad (N.one ⟨s, e⟩).1 (rowsP rows) (N.one ⟨s, e⟩).2).err != 0) with
        | true =>
          refine .inr ⟨.ret, { fr := [(2, .own 10000 0)], tab := [(0, .var [.str (N.bad (N.one ⟨s, e⟩).1 (rowsP rows) (N.one ⟨s, e⟩).2).s, .int .i64 (N.bad (N.one ⟨s, e⟩).1 (rowsP rows) (N.one ⟨s, e⟩).2).err]), (10000, .sl [.str, .int .u8, .int .i64, .str] [] 0)] }, by simp, fun K => ?_, fun K => rfl⟩
          rw [q_headReadR]
          unfold N.bad rowsP rowP at hc ⊢
          cases hz : (N.one ⟨s, e⟩).2.err == 0 with
          | true => rw [hz, cond_true] at hc; simp (disch := omega) only [evs, hc]
          | false => rw [hz, cond_false] at hc; simp (disch := omega) only [evs, hc]
        | false =>
          refine .inl ⟨(j + 1, N.bad (N.one ⟨s, e⟩).1 (rowsP rows) (N.one ⟨s, e⟩).2, rows ++ [cPair.enc (N.one ⟨s, e⟩).1]), ⟨by simp only; omega, by simp only [List.length_append, List.length_cons, List.length_nil]; omega⟩, by simp only; omega, fun K => ?_, fun K => rfl⟩
          rw [q_headReadR]
          unfold N.bad rowsP rowP at hc ⊢
          cases hz : (N.one ⟨s, e⟩).2.err == 0 with
          | true => rw [hz, cond_true] at hc; simp (disch := omega) only [evs, hc]; rfl
          | false => rw [hz, cond_false] at hc; simp (disch := omega) only [evs, hc]; rfl
      · refine .inr ⟨.exit 0, { fr := [(4, .own 10000 0)], tab := [(0, .var [.str s, .int .i64 e]), (10000, .sl [.str, .int .u8, .int .i64, .str] rows 0)] }, by simp, fun K => ?_, fun K => ?_⟩
        · rw [q_headReadR]
          simp (disch := omega) only [evs]
        · rw [show (n - j).toNat = 0 by omega]; rfl
    · cases h
  · refine (q_headRead i).trans ?_
    obtain ⟨b1, b2⟩ := inNum1 i
    have w : IntKind.wrap .i64 (N.inNum i 1).1 = (N.inNum i 1).1 := wrap_i64 (by omega) (by omega)
    show _ = some (⟨.slc [.str, .int .u8, .int .i64, .str] ((N.headRead i).1.map cPair.enc), [[.str (N.headRead i).2.s, .int .i64 (N.headRead i).2.err]], []⟩ : DRes)
    unfold N.headRead
    rw [w]
    simp (disch := omega) only [evs, Int.sub_zero, Nat.zero_add]
    cases ilt 8 (N.inNum i 1).1 with
    | true =>
      have e1 := hl_enc (N.inNum i 1).1.toNat (N.inFail (N.inNum i 1).2 6) []
      have e2 := hl_none (N.inNum i 1).1.toNat (N.inFail (N.inNum i 1).2 6) []
      rw [List.map_nil] at e1
      cases hc : (N.hl (N.inNum i 1).1.toNat (N.inFail (N.inNum i 1).2 6) []).1 with
      | true => simp only [cond_true, e1]
      | false =>
        rw [e1] at e2
        have e3 : (N.readFrom (N.inNum i 1).1.toNat (N.inFail (N.inNum i 1).2 6) []).1.map cPair.enc = [] := e2 hc
        simp only [cond_true, cond_false, e1, e3]
    | false =>
      have e1 := hl_enc (N.inNum i 1).1.toNat (N.inNum i 1).2 []
      have e2 := hl_none (N.inNum i 1).1.toNat (N.inNum i 1).2 []
      rw [List.map_nil] at e1
      cases hc : (N.hl (N.inNum i 1).1.toNat (N.inNum i 1).2 []).1 with
      | true => simp only [cond_true, cond_false, e1]
      | false =>
        rw [e1] at e2
        have e3 : (N.readFrom (N.inNum i 1).1.toNat (N.inNum i 1).2 []).1.map cPair.enc = [] := e2 hc
        simp only [cond_false, e1, e3]
namespace N
end N
def schRefPair : SSch := { fr := [(2, .ptr 10000 0 0), (57, .slc [.str, .int .u8, .int .i64, .str]), (58, .int .i64), (59, .int .i64)], tab := [(10000, .var [.str, .int .u8, .int .i64, .str])] }
def gRefPair : List Leaf → (Ex → St → Option R) → Option R
  | [.r r57, .i i58, .i i59, .s sx0, .i _, .i _, .s _], K => cond (i58 == r57.length) (cond (ile 0 i59) (cond (Nat.ble r57.length LIM)
      (cond (ile 0 (N.findIx sx0 ((rowsP r57).drop i59.toNat) i59)) (K .ret { fr := [(4, .int .i64 9)], tab := [] }) (K (.exit 0) { fr := [], tab := [] })) none) none) none
  | _, _ => none
noncomputable def eRefPair : Env := env Tryz.prog [(65, dName)] [(13, loopF schRefPair gRefPair)] [(13, [(0, [2, 57, 58, 59]), (1, []), (1000, [4])])]
theorem q_refPair (p : HPair) (l : List HPair) : evFn eRefPair 78 (((aCons (vAgg cPair) (aOne (vSl cPair))).enc (p, l))) ([]) some =
 cond (N.name (HPair.key p) != (0 : Int)) (some { v := V.int IntKind.i64 (N.name (HPair.key p)), bx := [] : DRes }) (cond (ilt (2 : Int) (HPair.kind p)) (some { v := V.int IntKind.i64 (8 : Int), bx := [] : DRes }) (cond (HPair.kind p == (1 : Int)) (cond (ilt (64 : Int) (↑(List.length (HPair.text p)) : Int)) (some { v := V.int IntKind.i64 (5 : Int), bx := [] : DRes }) (cond (HPair.kind p == (2 : Int)) (cond (ilt (HPair.num p) (0 : Int)) (some { v := V.int IntKind.i64 (7 : Int), bx := [] : DRes }) (cond (ilt (1 : Int) (HPair.num p)) (some { v := V.int IntKind.i64 (7 : Int), bx := [] : DRes }) (cond (HPair.kind p == (1 : Int)) (cond (HPair.num p != (0 : Int)) (some { v := V.int IntKind.i64 (4 : Int), bx := [] : DRes }) (cond (HPair.kind p != (1 : Int)) (cond (!HPair.text p == []) (some { v := V.int IntKind.i64 (4 : Int), bx := [] : DRes }) (cond ((↑(List.length (List.map (fun p => [V.str (HPair.key p), V.int IntKind.u8 (HPair.kind p), V.int IntKind.i64 (HPair.num p), V.str (HPair.text p)]) l)) : Int) == (↑(List.length (List.map (fun p => [V.str (HPair.key p), V.int IntKind.u8 (HPair.kind p), V.int IntKind.i64 (HPair.num p), V.str (HPair.text p)]) l)) : Int)) (cond (Nat.ble (List.length (List.map (fun p => [V.str (HPair.key p), V.int IntKind.u8 (HPair.kind p), V.int IntKind.i64 (HPair.num p), V.str (HPair.text p)]) l)) (1000000 : Nat)) (cond (ile (0 : Int) (N.findIx (HPair.key p) (List.drop (0 : Nat) (List.map (fun r => { key := V.toStr (List.getD r (0 : Nat) V.undef), kind := V.toInt (List.getD r (1 : Nat) V.undef), num := V.toInt (List.getD r (2 : Nat) V.undef), text := V.toStr (List.getD r (3 : Nat) V.undef) : HPair }) (List.map (fun p => [V.str (HPair.key p), V.int IntKind.u8 (HPair.kind p), V.int IntKind.i64 (HPair.num p), V.str (HPair.text p)]) l))) (0 : Int))) (some { v := V.int IntKind.i64 (9 : Int), bx := [] : DRes }) (some { v := V.int IntKind.i64 (0 : Int), bx := [] : DRes })) (none)) (none))) (cond ((↑(List.length (List.map (fun p => [V.str (HPair.key p), V.int IntKind.u8 (HPair.kind p), V.int IntKind.i64 (HPair.num p), V.str (HPair.text p)]) l)) : Int) == (↑(List.length (List.map (fun p => [V.str (HPair.key p), V.int IntKind.u8 (HPair.kind p), V.int IntKind.i64 (HPair.num p), V.str (HPair.text p)]) l)) : Int)) (cond (Nat.ble (List.length (List.map (fun p => [V.str (HPair.key p), V.int IntKind.u8 (HPair.kind p), V.int IntKind.i64 (HPair.num p), V.str (HPair.text p)]) l)) (1000000 : Nat)) (cond (ile (0 : Int) (N.findIx (HPair.key p) (List.drop (0 : Nat) (List.map (fun r => { key := V.toStr (List.getD r (0 : Nat) V.undef), kind := V.toInt (List.getD r (1 : Nat) V.undef), num := V.toInt (List.getD r (2 : Nat) V.undef), text := V.toStr (List.getD r (3 : Nat) V.undef) : HPair }) (List.map (fun p => [V.str (HPair.key p), V.int IntKind.u8 (HPair.kind p), V.int IntKind.i64 (HPair.num p), V.str (HPair.text p)]) l))) (0 : Int))) (some { v := V.int IntKind.i64 (9 : Int), bx := [] : DRes }) (some { v := V.int IntKind.i64 (0 : Int), bx := [] : DRes })) (none)) (none)))) (cond (HPair.kind p != (1 : Int)) (cond (!HPair.text p == []) (some { v := V.int IntKind.i64 (4 : Int), bx := [] : DRes }) (cond ((↑(List.length (List.map (fun p => [V.str (HPair.key p), V.int IntKind.u8 (HPair.kind p), V.int IntKind.i64 (HPair.num p), V.str (HPair.text p)]) l)) : Int) == (↑(List.length (List.map (fun p => [V.str (HPair.key p), V.int IntKind.u8 (HPair.kind p), V.int IntKind.i64 (HPair.num p), V.str (HPair.text p)]) l)) : Int)) (cond (Nat.ble (List.length (List.map (fun p => [V.str (HPair.key p), V.int IntKind.u8 (HPair.kind p), V.int IntKind.i64 (HPair.num p), V.str (HPair.text p)]) l)) (1000000 : Nat)) (cond (ile (0 : Int) (N.findIx (HPair.key p) (List.drop (0 : Nat) (List.map (fun r => { key := V.toStr (List.getD r (0 : Nat) V.undef), kind := V.toInt (List.getD r (1 : Nat) V.undef), num := V.toInt (List.getD r (2 : Nat) V.undef), text := V.toStr (List.getD r (3 : Nat) V.undef) : HPair }) (List.map (fun p => [V.str (HPair.key p), V.int IntKind.u8 (HPair.kind p), V.int IntKind.i64 (HPair.num p), V.str (HPair.text p)]) l))) (0 : Int))) (some { v := V.int IntKind.i64 (9 : Int), bx := [] : DRes }) (some { v := V.int IntKind.i64 (0 : Int), bx := [] : DRes })) (none)) (none))) (cond ((↑(List.length (List.map (fun p => [V.str (HPair.key p), V.int IntKind.u8 (HPair.kind p), V.int IntKind.i64 (HPair.num p), V.str (HPair.text p)]) l)) : Int) == (↑(List.length (List.map (fun p => [V.str (HPair.key p), V.int IntKind.u8 (HPair.kind p), V.int IntKind.i64 (HPair.num p), V.str (HPair.text p)]) l)) : Int)) (cond (Nat.ble (List.length (List.map (fun p => [V.str (HPair.key p), V.int IntKind.u8 (HPair.kind p), V.int IntKind.i64 (HPair.num p), V.str (HPair.text p)]) l)) (1000000 : Nat)) (cond (ile (0 : Int) (N.findIx (HPair.key p) (List.drop (0 : Nat) (List.map (fun r => { key := V.toStr (List.getD r (0 : Nat) V.undef), kind := V.toInt (List.getD r (1 : Nat) V.undef), num := V.toInt (List.getD r (2 : Nat) V.undef), text := V.toStr (List.getD r (3 : Nat) V.undef) : HPair }) (List.map (fun p => [V.str (HPair.key p), V.int IntKind.u8 (HPair.kind p), V.int IntKind.i64 (HPair.num p), V.str (HPair.text p)]) l))) (0 : Int))) (some { v := V.int IntKind.i64 (9 : Int), bx := [] : DRes }) (some { v := V.int IntKind.i64 (0 : Int), bx := [] : DRes })) (none)) (none)))))) (cond (HPair.kind p == (1 : Int)) (cond (HPair.num p != (0 : Int)) (some { v := V.int IntKind.i64 (4 : Int), bx := [] : DRes }) (cond (HPair.kind p != (1 : Int)) (cond (!HPair.text p == []) (some { v := V.int IntKind.i64 (4 : Int), bx := [] : DRes }) (cond ((↑(List.length (List.map (fun p => [V.str (HPair.key p), V.int IntKind.u8 (HPair.kind p), V.int IntKind.i64 (HPair.num p), V.str (HPair.text p)]) l)) : Int) == (↑(List.length (List.map (fun p => [V.str (HPair.key p), V.int IntKind.u8 (HPair.kind p), V.int IntKind.i64 (HPair.num p), V.str (HPair.text p)]) l)) : Int)) (cond (Nat.ble (List.length (List.map (fun p => [V.str (HPair.key p), V.int IntKind.u8 (HPair.kind p), V.int IntKind.i64 (HPair.num p), V.str (HPair.text p)]) l)) (1000000 : Nat)) (cond (ile (0 : Int) (N.findIx (HPair.key p) (List.drop (0 : Nat) (List.map (fun r => { key := V.toStr (List.getD r (0 : Nat) V.undef), kind := V.toInt (List.getD r (1 : Nat) V.undef), num := V.toInt (List.getD r (2 : Nat) V.undef), text := V.toStr (List.getD r (3 : Nat) V.undef) : HPair }) (List.map (fun p => [V.str (HPair.key p), V.int IntKind.u8 (HPair.kind p), V.int IntKind.i64 (HPair.num p), V.str (HPair.text p)]) l))) (0 : Int))) (some { v := V.int IntKind.i64 (9 : Int), bx := [] : DRes }) (some { v := V.int IntKind.i64 (0 : Int), bx := [] : DRes })) (none)) (none))) (cond ((↑(List.length (List.map (fun p => [V.str (HPair.key p), V.int IntKind.u8 (HPair.kind p), V.int IntKind.i64 (HPair.num p), V.str (HPair.text p)]) l)) : Int) == (↑(List.length (List.map (fun p => [V.str (HPair.key p), V.int IntKind.u8 (HPair.kind p), V.int IntKind.i64 (HPair.num p), V.str (HPair.text p)]) l)) : Int)) (cond (Nat.ble (List.length (List.map (fun p => [V.str (HPair.key p), V.int IntKind.u8 (HPair.kind p), V.int IntKind.i64 (HPair.num p), V.str (HPair.text p)]) l)) (1000000 : Nat)) (cond (ile (0 : Int) (N.findIx (HPair.key p) (List.drop (0 : Nat) (List.map (fun r => { key := V.toStr (List.getD r (0 : Nat) V.undef), kind := V.toInt (List.getD r (1 : Nat) V.undef), num := V.toInt (List.getD r (2 : Nat) V.undef), text := V.toStr (List.getD r (3 : Nat) V.undef) : HPair }) (List.map (fun p => [V.str (HPair.key p), V.int IntKind.u8 (HPair.kind p), V.int IntKind.i64 (HPair.num p), V.str (HPair.text p)]) l))) (0 : Int))) (some { v := V.int IntKind.i64 (9 : Int), bx := [] : DRes }) (some { v := V.int IntKind.i64 (0 : Int), bx := [] : DRes })) (none)) (none)))) (cond (HPair.kind p != (1 : Int)) (cond (!HPair.text p == []) (some { v := V.int IntKind.i64 (4 : Int), bx := [] : DRes }) (cond ((↑(List.length (List.map (fun p => [V.str (HPair.key p), V.int IntKind.u8 (HPair.kind p), V.int IntKind.i64 (HPair.num p), V.str (HPair.text p)]) l)) : Int) == (↑(List.length (List.map (fun p => [V.str (HPair.key p), V.int IntKind.u8 (HPair.kind p), V.int IntKind.i64 (HPair.num p), V.str (HPair.text p)]) l)) : Int)) (cond (Nat.ble (List.length (List.map (fun p => [V.str (HPair.key p), V.int IntKind.u8 (HPair.kind p), V.int IntKind.i64 (HPair.num p), V.str (HPair.text p)]) l)) (1000000 : Nat)) (cond (ile (0 : Int) (N.findIx (HPair.key p) (List.drop (0 : Nat) (List.map (fun r => { key := V.toStr (List.getD r (0 : Nat) V.undef), kind := V.toInt (List.getD r (1 : Nat) V.undef), num := V.toInt (List.getD r (2 : Nat) V.undef), text := V.toStr (List.getD r (3 : Nat) V.undef) : HPair }) (List.map (fun p => [V.str (HPair.key p), V.int IntKind.u8 (HPair.kind p), V.int IntKind.i64 (HPair.num p), V.str (HPair.text p)]) l))) (0 : Int))) (some { v := V.int IntKind.i64 (9 : Int), bx := [] : DRes }) (some { v := V.int IntKind.i64 (0 : Int), bx := [] : DRes })) (none)) (none))) (cond ((↑(List.length (List.map (fun p => [V.str (HPair.key p), V.int IntKind.u8 (HPair.kind p), V.int IntKind.i64 (HPair.num p), V.str (HPair.text p)]) l)) : Int) == (↑(List.length (List.map (fun p => [V.str (HPair.key p), V.int IntKind.u8 (HPair.kind p), V.int IntKind.i64 (HPair.num p), V.str (HPair.text p)]) l)) : Int)) (cond (Nat.ble (List.length (List.map (fun p => [V.str (HPair.key p), V.int IntKind.u8 (HPair.kind p), V.int IntKind.i64 (HPair.num p), V.str (HPair.text p)]) l)) (1000000 : Nat)) (cond (ile (0 : Int) (N.findIx (HPair.key p) (List.drop (0 : Nat) (List.map (fun r => { key := V.toStr (List.getD r (0 : Nat) V.undef), kind := V.toInt (List.getD r (1 : Nat) V.undef), num := V.toInt (List.getD r (2 : Nat) V.undef), text := V.toStr (List.getD r (3 : Nat) V.undef) : HPair }) (List.map (fun p => [V.str (HPair.key p), V.int IntKind.u8 (HPair.kind p), V.int IntKind.i64 (HPair.num p), V.str (HPair.text p)]) l))) (0 : Int))) (some { v := V.int IntKind.i64 (9 : Int), bx := [] : DRes }) (some { v := V.int IntKind.i64 (0 : Int), bx := [] : DRes })) (none)) (none)))))) (cond (HPair.kind p == (2 : Int)) (cond (ilt (HPair.num p) (0 : Int)) (some { v := V.int IntKind.i64 (7 : Int), bx := [] : DRes }) (cond (ilt (1 : Int) (HPair.num p)) (some { v := V.int IntKind.i64 (7 : Int), bx := [] : DRes }) (cond (HPair.kind p == (1 : Int)) (cond (HPair.num p != (0 : Int)) (some { v := V.int IntKind.i64 (4 : Int), bx := [] : DRes }) (cond (HPair.kind p != (1 : Int)) (cond (!HPair.text p == []) (some { v := V.int IntKind.i64 (4 : Int), bx := [] : DRes }) (cond ((↑(List.length (List.map (fun p => [V.str (HPair.key p), V.int IntKind.u8 (HPair.kind p), V.int IntKind.i64 (HPair.num p), V.str (HPair.text p)]) l)) : Int) == (↑(List.length (List.map (fun p => [V.str (HPair.key p), V.int IntKind.u8 (HPair.kind p), V.int IntKind.i64 (HPair.num p), V.str (HPair.text p)]) l)) : Int)) (cond (Nat.ble (List.length (List.map (fun p => [V.str (HPair.key p), V.int IntKind.u8 (HPair.kind p), V.int IntKind.i64 (HPair.num p), V.str (HPair.text p)]) l)) (1000000 : Nat)) (cond (ile (0 : Int) (N.findIx (HPair.key p) (List.drop (0 : Nat) (List.map (fun r => { key := V.toStr (List.getD r (0 : Nat) V.undef), kind := V.toInt (List.getD r (1 : Nat) V.undef), num := V.toInt (List.getD r (2 : Nat) V.undef), text := V.toStr (List.getD r (3 : Nat) V.undef) : HPair }) (List.map (fun p => [V.str (HPair.key p), V.int IntKind.u8 (HPair.kind p), V.int IntKind.i64 (HPair.num p), V.str (HPair.text p)]) l))) (0 : Int))) (some { v := V.int IntKind.i64 (9 : Int), bx := [] : DRes }) (some { v := V.int IntKind.i64 (0 : Int), bx := [] : DRes })) (none)) (none))) (cond ((↑(List.length (List.map (fun p => [V.str (HPair.key p), V.int IntKind.u8 (HPair.kind p), V.int IntKind.i64 (HPair.num p), V.str (HPair.text p)]) l)) : Int) == (↑(List.length (List.map (fun p => [V.str (HPair.key p), V.int IntKind.u8 (HPair.kind p), V.int IntKind.i64 (HPair.num p), V.str (HPair.text p)]) l)) : Int)) (cond (Nat.ble (List.length (List.map (fun p => [V.str (HPair.key p), V.int IntKind.u8 (HPair.kind p), V.int IntKind.i64 (HPair.num p), V.str (HPair.text p)]) l)) (1000000 : Nat)) (cond (ile (0 : Int) (N.findIx (HPair.key p) (List.drop (0 : Nat) (List.map (fun r => { key := V.toStr (List.getD r (0 : Nat) V.undef), kind := V.toInt (List.getD r (1 : Nat) V.undef), num := V.toInt (List.getD r (2 : Nat) V.undef), text := V.toStr (List.getD r (3 : Nat) V.undef) : HPair }) (List.map (fun p => [V.str (HPair.key p), V.int IntKind.u8 (HPair.kind p), V.int IntKind.i64 (HPair.num p), V.str (HPair.text p)]) l))) (0 : Int))) (some { v := V.int IntKind.i64 (9 : Int), bx := [] : DRes }) (some { v := V.int IntKind.i64 (0 : Int), bx := [] : DRes })) (none)) (none)))) (cond (HPair.kind p != (1 : Int)) (cond (!HPair.text p == []) (some { v := V.int IntKind.i64 (4 : Int), bx := [] : DRes }) (cond ((↑(List.length (List.map (fun p => [V.str (HPair.key p), V.int IntKind.u8 (HPair.kind p), V.int IntKind.i64 (HPair.num p), V.str (HPair.text p)]) l)) : Int) == (↑(List.length (List.map (fun p => [V.str (HPair.key p), V.int IntKind.u8 (HPair.kind p), V.int IntKind.i64 (HPair.num p), V.str (HPair.text p)]) l)) : Int)) (cond (Nat.ble (List.length (List.map (fun p => [V.str (HPair.key p), V.int IntKind.u8 (HPair.kind p), V.int IntKind.i64 (HPair.num p), V.str (HPair.text p)]) l)) (1000000 : Nat)) (cond (ile (0 : Int) (N.findIx (HPair.key p) (List.drop (0 : Nat) (List.map (fun r => { key := V.toStr (List.getD r (0 : Nat) V.undef), kind := V.toInt (List.getD r (1 : Nat) V.undef), num := V.toInt (List.getD r (2 : Nat) V.undef), text := V.toStr (List.getD r (3 : Nat) V.undef) : HPair }) (List.map (fun p => [V.str (HPair.key p), V.int IntKind.u8 (HPair.kind p), V.int IntKind.i64 (HPair.num p), V.str (HPair.text p)]) l))) (0 : Int))) (some { v := V.int IntKind.i64 (9 : Int), bx := [] : DRes }) (some { v := V.int IntKind.i64 (0 : Int), bx := [] : DRes })) (none)) (none))) (cond ((↑(List.length (List.map (fun p => [V.str (HPair.key p), V.int IntKind.u8 (HPair.kind p), V.int IntKind.i64 (HPair.num p), V.str (HPair.text p)]) l)) : Int) == (↑(List.length (List.map (fun p => [V.str (HPair.key p), V.int IntKind.u8 (HPair.kind p), V.int IntKind.i64 (HPair.num p), V.str (HPair.text p)]) l)) : Int)) (cond (Nat.ble (List.length (List.map (fun p => [V.str (HPair.key p), V.int IntKind.u8 (HPair.kind p), V.int IntKind.i64 (HPair.num p), V.str (HPair.text p)]) l)) (1000000 : Nat)) (cond (ile (0 : Int) (N.findIx (HPair.key p) (List.drop (0 : Nat) (List.map (fun r => { key := V.toStr (List.getD r (0 : Nat) V.undef), kind := V.toInt (List.getD r (1 : Nat) V.undef), num := V.toInt (List.getD r (2 : Nat) V.undef), text := V.toStr (List.getD r (3 : Nat) V.undef) : HPair }) (List.map (fun p => [V.str (HPair.key p), V.int IntKind.u8 (HPair.kind p), V.int IntKind.i64 (HPair.num p), V.str (HPair.text p)]) l))) (0 : Int))) (some { v := V.int IntKind.i64 (9 : Int), bx := [] : DRes }) (some { v := V.int IntKind.i64 (0 : Int), bx := [] : DRes })) (none)) (none)))))) (cond (HPair.kind p == (1 : Int)) (cond (HPair.num p != (0 : Int)) (some { v := V.int IntKind.i64 (4 : Int), bx := [] : DRes }) (cond (HPair.kind p != (1 : Int)) (cond (!HPair.text p == []) (some { v := V.int IntKind.i64 (4 : Int), bx := [] : DRes }) (cond ((↑(List.length (List.map (fun p => [V.str (HPair.key p), V.int IntKind.u8 (HPair.kind p), V.int IntKind.i64 (HPair.num p), V.str (HPair.text p)]) l)) : Int) == (↑(List.length (List.map (fun p => [V.str (HPair.key p), V.int IntKind.u8 (HPair.kind p), V.int IntKind.i64 (HPair.num p), V.str (HPair.text p)]) l)) : Int)) (cond (Nat.ble (List.length (List.map (fun p => [V.str (HPair.key p), V.int IntKind.u8 (HPair.kind p), V.int IntKind.i64 (HPair.num p), V.str (HPair.text p)]) l)) (1000000 : Nat)) (cond (ile (0 : Int) (N.findIx (HPair.key p) (List.drop (0 : Nat) (List.map (fun r => { key := V.toStr (List.getD r (0 : Nat) V.undef), kind := V.toInt (List.getD r (1 : Nat) V.undef), num := V.toInt (List.getD r (2 : Nat) V.undef), text := V.toStr (List.getD r (3 : Nat) V.undef) : HPair }) (List.map (fun p => [V.str (HPair.key p), V.int IntKind.u8 (HPair.kind p), V.int IntKind.i64 (HPair.num p), V.str (HPair.text p)]) l))) (0 : Int))) (some { v := V.int IntKind.i64 (9 : Int), bx := [] : DRes }) (some { v := V.int IntKind.i64 (0 : Int), bx := [] : DRes })) (none)) (none))) (cond ((↑(List.length (List.map (fun p => [V.str (HPair.key p), V.int IntKind.u8 (HPair.kind p), V.int IntKind.i64 (HPair.num p), V.str (HPair.text p)]) l)) : Int) == (↑(List.length (List.map (fun p => [V.str (HPair.key p), V.int IntKind.u8 (HPair.kind p), V.int IntKind.i64 (HPair.num p), V.str (HPair.text p)]) l)) : Int)) (cond (Nat.ble (List.length (List.map (fun p => [V.str (HPair.key p), V.int IntKind.u8 (HPair.kind p), V.int IntKind.i64 (HPair.num p), V.str (HPair.text p)]) l)) (1000000 : Nat)) (cond (ile (0 : Int) (N.findIx (HPair.key p) (List.drop (0 : Nat) (List.map (fun r => { key := V.toStr (List.getD r (0 : Nat) V.undef), kind := V.toInt (List.getD r (1 : Nat) V.undef), num := V.toInt (List.getD r (2 : Nat) V.undef), text := V.toStr (List.getD r (3 : Nat) V.undef) : HPair }) (List.map (fun p => [V.str (HPair.key p), V.int IntKind.u8 (HPair.kind p), V.int IntKind.i64 (HPair.num p), V.str (HPair.text p)]) l))) (0 : Int))) (some { v := V.int IntKind.i64 (9 : Int), bx := [] : DRes }) (some { v := V.int IntKind.i64 (0 : Int), bx := [] : DRes })) (none)) (none)))) (cond (HPair.kind p != (1 : Int)) (cond (!HPair.text p == []) (some { v := V.int IntKind.i64 (4 : Int), bx := [] : DRes }) (cond ((↑(List.length (List.map (fun p => [V.str (HPair.key p), V.int IntKind.u8 (HPair.kind p), V.int IntKind.i64 (HPair.num p), V.str (HPair.text p)]) l)) : Int) == (↑(List.length (List.map (fun p => [V.str (HPair.key p), V.int IntKind.u8 (HPair.kind p), V.int IntKind.i64 (HPair.num p), V.str (HPair.text p)]) l)) : Int)) (cond (Nat.ble (List.length (List.map (fun p => [V.str (HPair.key p), V.int IntKind.u8 (HPair.kind p), V.int IntKind.i64 (HPair.num p), V.str (HPair.text p)]) l)) (1000000 : Nat)) (cond (ile (0 : Int) (N.findIx (HPair.key p) (List.drop (0 : Nat) (List.map (fun r => { key := V.toStr (List.getD r (0 : Nat) V.undef), kind := V.toInt (List.getD r (1 : Nat) V.undef), num := V.toInt (List.getD r (2 : Nat) V.undef), text := V.toStr (List.getD r (3 : Nat) V.undef) : HPair }) (List.map (fun p => [V.str (HPair.key p), V.int IntKind.u8 (HPair.kind p), V.int IntKind.i64 (HPair.num p), V.str (HPair.text p)]) l))) (0 : Int))) (some { v := V.int IntKind.i64 (9 : Int), bx := [] : DRes }) (some { v := V.int IntKind.i64 (0 : Int), bx := [] : DRes })) (none)) (none))) (cond ((↑(List.length (List.map (fun p => [V.str (HPair.key p), V.int IntKind.u8 (HPair.kind p), V.int IntKind.i64 (HPair.num p), V.str (HPair.text p)]) l)) : Int) == (↑(List.length (List.map (fun p => [V.str (HPair.key p), V.int IntKind.u8 (HPair.kind p), V.int IntKind.i64 (HPair.num p), V.str (HPair.text p)]) l)) : Int)) (cond (Nat.ble (List.length (List.map (fun p => [V.str (HPair.key p), V.int IntKind.u8 (HPair.kind p), V.int IntKind.i64 (HPair.num p), V.str (HPair.text p)]) l)) (1000000 : Nat)) (cond (ile (0 : Int) (N.findIx (HPair.key p) (List.drop (0 : Nat) (List.map (fun r => { key := V.toStr (List.getD r (0 : Nat) V.undef), kind := V.toInt (List.getD r (1 : Nat) V.undef), num := V.toInt (List.getD r (2 : Nat) V.undef), text := V.toStr (List.getD r (3 : Nat) V.undef) : HPair }) (List.map (fun p => [V.str (HPair.key p), V.int IntKind.u8 (HPair.kind p), V.int IntKind.i64 (HPair.num p), V.str (HPair.text p)]) l))) (0 : Int))) (some { v := V.int IntKind.i64 (9 : Int), bx := [] : DRes }) (some { v := V.int IntKind.i64 (0 : Int), bx := [] : DRes })) (none)) (none))))))) := by kernel_rfl
theorem q_refPairR (r57 : List (List V)) (i58 : Int) (i59 : Int) (sx0 : Bytes) (ix0 : Int) (ix0_1 : Int) (sx0_1 : Bytes) (K : Ex → St → Option R) : evRound eRefPair 78 13 { fr := [(2, .ptr 10000 0 0 0), (57, .slc [.str, .int .u8, .int .i64, .str] r57), (58, .int .i64 i58), (59, .int .i64 i59)], tab := [(10000, .var [.str sx0, .int .u8 ix0, .int .i64 ix0_1, .str sx0_1])] } K =
 cond (ilt i59 i58) (cond (decide ((0 : Int) ≤ i59 ∧ i59 < (↑(List.length r57) : Int))) (cond (V.toStr (List.getD (List.getD r57 (Int.toNat i59) []) (0 : Nat) V.undef) == sx0) (K Ex.ret { fr := [((4 : Nat), V.int IntKind.i64 (9 : Int))], tab := [] : St }) (K Ex.normal { fr := [((2 : Nat), V.ptr (10000 : Nat) (0 : Nat) (0 : Nat) (0 : Nat)), ((57 : Nat), V.slc [Sh.str, Sh.int IntKind.u8, Sh.int IntKind.i64, Sh.str] r57), ((58 : Nat), V.int IntKind.i64 i58), ((59 : Nat), V.int IntKind.i64 (IntKind.wrap IntKind.i64 (i59 + (1 : Int))))], tab := [((10000 : Nat), Box.var [V.str sx0, V.int IntKind.u8 ix0, V.int IntKind.i64 ix0_1, V.str sx0_1])] : St })) (none)) (K (Ex.exit (0 : Nat)) { fr := [], tab := [] : St }) := by kernel_rfl
theorem ok_refPair : FnOk Tryz.prog 78 dPairE := by
  refine den_okF (env_ok ((TOk.nil _).cons ok_refName)) (E := eRefPair) Tryz.func78 [13] (by kernel_rfl) (one1 (rounds_of rfl fun l K q h => ?_)) fun a _ h => ?_
  · unfold gRefPair at h
    split at h
    · rename_i r n i key x1 x2 x3
      have h1 := (cond_none h).1; replace h := (cond_none h).2; have h2 := (cond_none h).1; replace h := (cond_none h).2; have h3 := (cond_none h).1; replace h := (cond_none h).2
      have e1 := ieq_of h1
      subst e1
      have h3 : r.length ≤ 1000000 := ble_of h3
      refine loop_ind (E := eRefPair) (f := 78) (id := 13) (fun i : Int => { fr := [(2, .ptr 10000 0 0 0), (57, .slc [.str, .int .u8, .int .i64, .str] r), (58, .int .i64 r.length), (59, .int .i64 i)], tab := [(10000, .var [.str key, .int .u8 x1, .int .i64 x2, .str x3])] }) (fun i => 0 ≤ i) (fun i => r.length - i.toNat)
        (fun i K => cond (ile 0 (N.findIx key ((rowsP r).drop i.toNat) i)) (K .ret { fr := [(4, .int .i64 9)], tab := [] }) (K (.exit 0) { fr := [], tab := [] })) (fun i hi => ?_) i (ile_of h2) K q (by assumption)
      by_cases hl : i < r.length
      · rw [drop_pair (show i.toNat < r.length by omega)]
        have e : N.findIx key (rowP (r.getD i.toNat []) :: (rowsP r).drop (i.toNat + 1)) i = cond ((rowP (r.getD i.toNat [])).key == key) i (N.findIx key ((rowsP r).drop (i.toNat + 1)) (i + 1)) := rfl
        rw [e]
        cases hc : (rowP (r.getD i.toNat [])).key == key with
        | true =>
          rw [cond_true, ile_t hi]
          refine .inr ⟨.ret, { fr := [(4, .int .i64 9)], tab := [] }, by simp, fun K => ?_, fun K => rfl⟩
          rw [q_refPairR]
          unfold rowP at hc
          simp (disch := omega) only [evs, hc]
        | false =>
          refine .inl ⟨i + 1, by omega, by omega, fun K => ?_, fun K => ?_⟩
          · rw [q_refPairR]
            unfold rowP at hc
            simp (disch := omega) only [evs, hc]
          · rw [cond_false, show (i + 1).toNat = i.toNat + 1 by omega]
      · refine .inr ⟨.exit 0, { fr := [], tab := [] }, by simp, fun K => ?_, fun K => ?_⟩
        · rw [q_refPairR]
          simp (disch := omega) only [evs]
        · rw [List.drop_eq_nil_of_le (by rw [rowsP_length]; omega)]; rfl
    · cases h
  · obtain ⟨p, l⟩ := a
    have h : l.length ≤ 1000000 := ble_of h
    refine (q_refPair p l).trans ?_
    show _ = some (⟨.int .i64 (N.pairE p l), [], []⟩ : DRes)
    unfold N.pairE N.find
    have en : (cond (p.num != 0) (p.num != 1) false) = cond (ilt p.num 0) true (ilt 1 p.num) := by
      rcases (by omega : p.num < 0 ∨ p.num = 0 ∨ p.num = 1 ∨ 1 < p.num) with h | h | h | h
      · simp (disch := omega) only [evs]
      · rw [h]; rfl
      · rw [h]; rfl
      · simp (disch := omega) only [evs]
    have en' : cond (cond (p.kind == 2) (p.num != 0) false) (p.num != 1) false = cond (p.kind == 2) (cond (ilt p.num 0) true (ilt 1 p.num)) false := by
      rw [← en]; cases p.kind == 2 <;> rfl
    rw [en']
    have ef : (cond (ilt (N.findIx p.key l 0) 0) (pair0, false) (l.getD (N.findIx p.key l 0).toNat pair0, true)).2 = ile 0 (N.findIx p.key l 0) := by
      by_cases h : N.findIx p.key l 0 < 0
      · simp (disch := omega) only [evs]
      · simp (disch := omega) only [evs]
    rw [ef]
    simp (disch := omega) only [evs, pairs_enc, List.drop_zero, bne]
    cases hn : N.name p.key == 0 with
    | false => rfl
    | true =>
      cases ilt 2 p.kind with
      | true => rfl
      | false =>
        cases p.kind == 1 <;> cases ilt 64 p.text.length <;> cases p.kind == 2 <;> cases ilt p.num 0 <;> cases ilt 1 p.num <;> cases p.num == 0 <;> cases p.text == [] <;> cases ile 0 (N.findIx p.key l 0) <;> rfl
end Go.Ev

/- The document's function that checks heads answers what the plain one does: lemmas. -/
namespace Go.Ev
open Go Go.Proofs
set_option maxRecDepth 100000

def schRefCheck : SSch := { fr := [(0, .slc [.str, .int .u8, .int .i64, .str]), (9, .slc [.str, .int .u8, .int .i64, .str]), (10, .int .i64), (11, .int .i64)], tab := [] }
def gRefCheck : List Leaf → (Ex → St → Option R) → Option R
  | [.r r0, .r r9, .i i10, .i i11], K => cond (i10 == r9.length) (cond (Nat.beq r0.length r9.length) (cond (ile 0 i11) (cond (Nat.ble r0.length LIM) (cond (N.samePs (rowsP r0) (rowsP r9))
      (cond (N.checkFrom (rowsP r9) (r9.length - i11.toNat) i11 != 0) (K .ret { fr := [(2, .int .i64 (N.checkFrom (rowsP r9) (r9.length - i11.toNat) i11))], tab := [] }) (K (.exit 0) { fr := [], tab := [] })) none) none) none) none) none
  | _, _ => none
noncomputable def eRefCheck : Env := env Tryz.prog [(78, dPairE)] [(4, loopF schRefCheck gRefCheck)] [(4, [(0, [0, 9, 10, 11]), (1, []), (1000, [2])])]
theorem q_refCheck (h : List HPair) : evFn eRefCheck 67 ((aOne (vSl cPair)).enc h) ([]) some =
 cond (ilt (8 : Int) (↑(List.length (List.map (fun p => [V.str (HPair.key p), V.int IntKind.u8 (HPair.kind p), V.int IntKind.i64 (HPair.num p), V.str (HPair.text p)]) h)) : Int)) (some { v := V.int IntKind.i64 (6 : Int), bx := [] : DRes }) (cond ((↑(List.length (List.map (fun p => [V.str (HPair.key p), V.int IntKind.u8 (HPair.kind p), V.int IntKind.i64 (HPair.num p), V.str (HPair.text p)]) h)) : Int) == (↑(List.length (List.map (fun p => [V.str (HPair.key p), V.int IntKind.u8 (HPair.kind p), V.int IntKind.i64 (HPair.num p), V.str (HPair.text p)]) h)) : Int)) (cond (Nat.beq (List.length (List.map (fun p => [V.str (HPair.key p), V.int IntKind.u8 (HPair.kind p), V.int IntKind.i64 (HPair.num p), V.str (HPair.text p)]) h)) (List.length (List.map (fun p => [V.str (HPair.key p), V.int IntKind.u8 (HPair.kind p), V.int IntKind.i64 (HPair.num p), V.str (HPair.text p)]) h))) (cond (Nat.ble (List.length (List.map (fun p => [V.str (HPair.key p), V.int IntKind.u8 (HPair.kind p), V.int IntKind.i64 (HPair.num p), V.str (HPair.text p)]) h)) (1000000 : Nat)) (cond (N.samePs (List.map (fun r => { key := V.toStr (List.getD r (0 : Nat) V.undef), kind := V.toInt (List.getD r (1 : Nat) V.undef), num := V.toInt (List.getD r (2 : Nat) V.undef), text := V.toStr (List.getD r (3 : Nat) V.undef) : HPair }) (List.map (fun p => [V.str (HPair.key p), V.int IntKind.u8 (HPair.kind p), V.int IntKind.i64 (HPair.num p), V.str (HPair.text p)]) h)) (List.map (fun r => { key := V.toStr (List.getD r (0 : Nat) V.undef), kind := V.toInt (List.getD r (1 : Nat) V.undef), num := V.toInt (List.getD r (2 : Nat) V.undef), text := V.toStr (List.getD r (3 : Nat) V.undef) : HPair }) (List.map (fun p => [V.str (HPair.key p), V.int IntKind.u8 (HPair.kind p), V.int IntKind.i64 (HPair.num p), V.str (HPair.text p)]) h))) (cond (N.checkFrom (List.map (fun r => { key := V.toStr (List.getD r (0 : Nat) V.undef), kind := V.toInt (List.getD r (1 : Nat) V.undef), num := V.toInt (List.getD r (2 : Nat) V.undef), text := V.toStr (List.getD r (3 : Nat) V.undef) : HPair }) (List.map (fun p => [V.str (HPair.key p), V.int IntKind.u8 (HPair.kind p), V.int IntKind.i64 (HPair.num p), V.str (HPair.text p)]) h)) (List.length (List.map (fun p => [V.str (HPair.key p), V.int IntKind.u8 (HPair.kind p), V.int IntKind.i64 (HPair.num p), V.str (HPair.text p)]) h) - (0 : Nat)) (0 : Int) != (0 : Int)) (some { v := V.int IntKind.i64 (N.checkFrom (List.map (fun r => { key := V.toStr (List.getD r (0 : Nat) V.undef), kind := V.toInt (List.getD r (1 : Nat) V.undef), num := V.toInt (List.getD r (2 : Nat) V.undef), text := V.toStr (List.getD r (3 : Nat) V.undef) : HPair }) (List.map (fun p => [V.str (HPair.key p), V.int IntKind.u8 (HPair.kind p), V.int IntKind.i64 (HPair.num p), V.str (HPair.text p)]) h)) (List.length (List.map (fun p => [V.str (HPair.key p), V.int IntKind.u8 (HPair.kind p), V.int IntKind.i64 (HPair.num p), V.str (HPair.text p)]) h) - (0 : Nat)) (0 : Int)), bx := [] : DRes }) (some { v := V.int IntKind.i64 (0 : Int), bx := [] : DRes })) (none)) (none)) (none)) (none)) := by kernel_rfl
theorem q_refCheckR (r0 : List (List V)) (r9 : List (List V)) (i11 : Int) (K : Ex → St → Option R) : evRound eRefCheck 67 4 { fr := [(0, .slc [.str, .int .u8, .int .i64, .str] r0), (9, .slc [.str, .int .u8, .int .i64, .str] r9), (10, .int .i64 r9.length), (11, .int .i64 i11)], tab := [] } K =
 cond (ilt i11 (↑(List.length r9) : Int)) (cond (decide ((0 : Int) ≤ i11 ∧ i11 < (↑(List.length r9) : Int))) (cond (decide ((0 : Int) ≤ i11 ∧ i11 ≤ (↑(List.length r0) : Int))) (cond (Nat.ble (List.length (List.map (fun r => { key := V.toStr (List.getD r (0 : Nat) V.undef), kind := V.toInt (List.getD r (1 : Nat) V.undef), num := V.toInt (List.getD r (2 : Nat) V.undef), text := V.toStr (List.getD r (3 : Nat) V.undef) : HPair }) (List.drop (0 : Nat) (List.take (Int.toNat i11) r0)))) (1000000 : Nat)) (cond (N.pairE { key := V.toStr (List.getD (List.getD r9 (Int.toNat i11) []) (0 : Nat) V.undef), kind := V.toInt (List.getD (List.getD r9 (Int.toNat i11) []) (1 : Nat) V.undef), num := V.toInt (List.getD (List.getD r9 (Int.toNat i11) []) (2 : Nat) V.undef), text := V.toStr (List.getD (List.getD r9 (Int.toNat i11) []) (3 : Nat) V.undef) : HPair } (List.map (fun r => { key := V.toStr (List.getD r (0 : Nat) V.undef), kind := V.toInt (List.getD r (1 : Nat) V.undef), num := V.toInt (List.getD r (2 : Nat) V.undef), text := V.toStr (List.getD r (3 : Nat) V.undef) : HPair }) (List.drop (0 : Nat) (List.take (Int.toNat i11) r0))) != (0 : Int)) (K Ex.ret { fr := [((2 : Nat), V.int IntKind.i64 (N.pairE { key := V.toStr (List.getD (List.getD r9 (Int.toNat i11) []) (0 : Nat) V.undef), kind := V.toInt (List.getD (List.getD r9 (Int.toNat i11) []) (1 : Nat) V.undef), num := V.toInt (List.getD (List.getD r9 (Int.toNat i11) []) (2 : Nat) V.undef), text := V.toStr (List.getD (List.getD r9 (Int.toNat i11) []) (3 : Nat) V.undef) : HPair } (List.map (fun r => { key := V.toStr (List.getD r (0 : Nat) V.undef), kind := V.toInt (List.getD r (1 : Nat) V.undef), num := V.toInt (List.getD r (2 : Nat) V.undef), text := V.toStr (List.getD r (3 : Nat) V.undef) : HPair }) (List.drop (0 : Nat) (List.take (Int.toNat i11) r0)))))], tab := [] : St }) (K Ex.normal { fr := [((0 : Nat), V.slc [Sh.str, Sh.int IntKind.u8, Sh.int IntKind.i64, Sh.str] r0), ((9 : Nat), V.slc [Sh.str, Sh.int IntKind.u8, Sh.int IntKind.i64, Sh.str] r9), ((10 : Nat), V.int IntKind.i64 (↑(List.length r9) : Int)), ((11 : Nat), V.int IntKind.i64 (IntKind.wrap IntKind.i64 (i11 + (1 : Int))))], tab := [] : St })) (none)) (none)) (none)) (K (Ex.exit (0 : Nat)) { fr := [], tab := [] : St }) := by kernel_rfl
theorem ok_refCheck : FnOk Tryz.prog 67 dHeadCheck := by
  refine den_okF (env_ok ((TOk.nil _).cons ok_refPair)) (E := eRefCheck) Tryz.func67 [4] (by kernel_rfl) (one1 (rounds_of rfl fun l K q h => ?_)) fun h _ _ => ?_
  · unfold gRefCheck at h
    split at h
    · rename_i r0 r n i
      have h1 := (cond_none h).1; replace h := (cond_none h).2; have h2 := (cond_none h).1; replace h := (cond_none h).2; have h3 := (cond_none h).1; replace h := (cond_none h).2; have h4 := (cond_none h).1; replace h := (cond_none h).2; have h5 := (cond_none h).1; replace h := (cond_none h).2
      have e1 := ieq_of h1
      subst e1
      have h2 := Nat.eq_of_beq_eq_true h2
      have h4 : r0.length ≤ 1000000 := ble_of h4
      have h5 := samePs_eq h5
      refine loop_ind (E := eRefCheck) (f := 67) (id := 4) (fun i : Int => { fr := [(0, .slc [.str, .int .u8, .int .i64, .str] r0), (9, .slc [.str, .int .u8, .int .i64, .str] r), (10, .int .i64 r.length), (11, .int .i64 i)], tab := [] }) (fun i => 0 ≤ i) (fun i => r.length - i.toNat)
        (fun i11 K => cond (N.checkFrom (rowsP r) (r.length - i11.toNat) i11 != 0) (K .ret { fr := [(2, .int .i64 (N.checkFrom (rowsP r) (r.length - i11.toNat) i11))], tab := [] }) (K (.exit 0) { fr := [], tab := [] })) (fun i hi => ?_) i (ile_of h3) K q (by assumption)
      by_cases hl : i < r.length
      · have e : N.checkFrom (rowsP r) (r.length - i.toNat) i = cond (N.pairE (rowP (r.getD i.toNat [])) ((rowsP r).take i.toNat) != 0) (N.pairE (rowP (r.getD i.toNat [])) ((rowsP r).take i.toNat)) (N.checkFrom (rowsP r) (r.length - (i + 1).toNat) (i + 1)) := by
          rw [show r.length - i.toNat = (r.length - (i + 1).toNat) + 1 by omega, N.checkFrom, rowsP_getD]
        rw [e]
        have hm : List.map rowP (List.take i.toNat r0) = (rowsP r).take i.toNat := by rw [← h5, rowsP, List.map_take]
        unfold rowP at hm
        cases hc : N.pairE (rowP (r.getD i.toNat [])) ((rowsP r).take i.toNat) != 0 with
        | true =>
          rw [cond_true, hc]
          refine .inr ⟨.ret, _, by simp, fun K => ?_, fun K => rfl⟩
          rw [q_refCheckR]
          unfold rowP at hc
          simp (disch := omega) only [evs, hc, hm, List.length_take, List.drop_zero]
          rfl
        | false =>
          refine .inl ⟨i + 1, by omega, by omega, fun K => ?_, fun K => ?_⟩
          · rw [q_refCheckR]
            unfold rowP at hc
            simp (disch := omega) only [evs, hc, hm, List.length_take, List.drop_zero]
          · rw [cond_false]
      · refine .inr ⟨.exit 0, { fr := [], tab := [] }, by simp, fun K => ?_, fun K => ?_⟩
        · rw [q_refCheckR]
          simp (disch := omega) only [evs]
        · rw [show r.length - i.toNat = 0 by omega]; rfl
    · cases h
  · refine (q_refCheck h).trans ?_
    show _ = some (⟨.int .i64 (N.headCheck h), [], []⟩ : DRes)
    unfold N.headCheck
    by_cases hl : 8 < h.length
    · simp (disch := omega) only [evs]
    · simp (disch := omega) only [evs, pairs_enc, samePs_refl, Nat.sub_zero]
      cases hc : N.checkFrom h h.length 0 != 0 with
      | true => rfl
      | false =>
        have : N.checkFrom h h.length 0 = 0 := by simpa using hc
        rw [this]; rfl
end Go.Ev

/- The functions on rules answer what the plain ones do: lemmas, no condition. -/
namespace Go.Ev
open Go Go.Proofs
set_option maxRecDepth 100000

end Go.Ev

/- The document's function that reads heads answers what the plain one does: lemmas. -/
namespace Go.Ev
open Go Go.Proofs
set_option maxRecDepth 100000

end Go.Ev

/- What the statement on same heads reckons: lemmas; the function that writes numbers is a premise. -/
namespace Go.Ev
open Go Go.Proofs
set_option maxRecDepth 100000

noncomputable def eAw4' : Env := env Tryz.prog [(95, dTrueW)] [] []
theorem q_aw4'  : evFn eAw4' 90 [] [] some =
 some { v := V.bool true, bx := [] : DRes } := by kernel_rfl
theorem ok_aw4' : FnOk Tryz.prog 90 dTrue := den_okF (env_ok ((TOk.nil _).cons ok_awW)) (E := eAw4') Tryz.func90 [] (by kernel_rfl) none0 fun _ _ _ => q_aw4'
noncomputable def eAw9 : Env := env Tryz.prog [(71, dHeadBytes), (89, dTrue), (90, dTrue)] [] []
theorem q_aw9  : evFn eAw9 85 [] [] some =
 some { v := V.bool true, bx := [] : DRes } := by kernel_rfl
theorem ok_aw9 (hN : FnOk Tryz.prog 44 dOutNum) : FnOk Tryz.prog 85 dTrue :=
  den_okF (env_ok ((((TOk.nil _).cons ok_aw4').cons (ok_aw1' hN)).cons (ok_headBytes hN))) (E := eAw9) Tryz.func85 [] (by kernel_rfl) none0 fun _ _ _ => q_aw9
noncomputable def eHSame : Env := env Tryz.prog [(83, dSameP)] [] []
theorem q_hsame (a b : List HPair) : evFn eHSame 68 ((aCons (vSl cPair) (aOne (vSl cPair))).enc (a, b)) ([]) some =
 cond (Nat.ble (List.length (List.map (fun r => { key := V.toStr (List.getD r (0 : Nat) V.undef), kind := V.toInt (List.getD r (1 : Nat) V.undef), num := V.toInt (List.getD r (2 : Nat) V.undef), text := V.toStr (List.getD r (3 : Nat) V.undef) : HPair }) (List.map (fun p => [V.str (HPair.key p), V.int IntKind.u8 (HPair.kind p), V.int IntKind.i64 (HPair.num p), V.str (HPair.text p)]) a))) (1000000 : Nat)) (some { v := V.bool (N.samePs (List.map (fun r => { key := V.toStr (List.getD r (0 : Nat) V.undef), kind := V.toInt (List.getD r (1 : Nat) V.undef), num := V.toInt (List.getD r (2 : Nat) V.undef), text := V.toStr (List.getD r (3 : Nat) V.undef) : HPair }) (List.map (fun p => [V.str (HPair.key p), V.int IntKind.u8 (HPair.kind p), V.int IntKind.i64 (HPair.num p), V.str (HPair.text p)]) a)) (List.map (fun r => { key := V.toStr (List.getD r (0 : Nat) V.undef), kind := V.toInt (List.getD r (1 : Nat) V.undef), num := V.toInt (List.getD r (2 : Nat) V.undef), text := V.toStr (List.getD r (3 : Nat) V.undef) : HPair }) (List.map (fun p => [V.str (HPair.key p), V.int IntKind.u8 (HPair.kind p), V.int IntKind.i64 (HPair.num p), V.str (HPair.text p)]) b))), bx := [] : DRes }) (none) := by kernel_rfl
theorem ok_hsame : FnOk Tryz.prog 68 dSameP := by
  refine den_okF (env_ok ((TOk.nil _).cons ok_eqP)) (E := eHSame) Tryz.func68 [] (by kernel_rfl) none0 fun a _ h => ?_
  obtain ⟨a, b⟩ := a
  have h : a.length ≤ 1000000 := ble_of h
  refine (q_hsame a b).trans ?_
  show _ = some (⟨.bool (N.samePs a b), [], []⟩ : DRes)
  simp (disch := omega) only [evs, pairs_enc]
theorem light_small {h : List HPair} (hl : N.light h = true) : h.length ≤ 12 := by
  unfold N.light at hl
  cases e : ilt 12 h.length with
  | true => rw [e] at hl; cases hl
  | false => have := ilt_nof e; omega
end Go.Ev

/- What was written is read again: lemmas on the plain functions. -/
namespace Go.Ev
open Go

theorem numB_succ : ∀ (k : Nat) (n : Int), N.numB n (k + 1) = N.numB (n / 256) k ++ [UInt8.ofNat (n % 256).toNat]
  | 0, n => by
    show [UInt8.ofNat ((n / 2 ^ (8 * 0)) % 256).toNat] = [] ++ [UInt8.ofNat (n % 256).toNat]
    rw [show (2 : Int) ^ (8 * 0) = 1 from rfl, Int.ediv_one]; rfl
  | k + 1, n => by
    show UInt8.ofNat ((n / 2 ^ (8 * (k + 1))) % 256).toNat :: N.numB n (k + 1) = (UInt8.ofNat ((n / 256 / 2 ^ (8 * k)) % 256).toNat :: N.numB (n / 256) k) ++ [UInt8.ofNat (n % 256).toNat]
    rw [numB_succ k n, Int.ediv_ediv_of_nonneg (by decide), show (256 : Int) * 2 ^ (8 * k) = 2 ^ (8 * (k + 1)) by rw [show 8 * (k + 1) = 8 + 8 * k by omega, Int.pow_add]; rfl]
    rfl
theorem be_app : ∀ (l m : Bytes) (n : Int), N.be (l ++ m) n = N.be m (N.be l n)
  | [], _, _ => rfl
  | _ :: l, m, _ => be_app l m _
theorem ofNat_byte (n : Int) : ((UInt8.ofNat (n % 256).toNat).toNat : Int) = n % 256 := by
  have : (n % 256).toNat < 256 := by omega
  rw [UInt8.toNat_ofNat', Nat.mod_eq_of_lt this]; omega
theorem be_numB : ∀ (k : Nat) (n : Int), 0 ≤ n → n < 256 ^ k → N.be (N.numB n k) 0 = n
  | 0, n, h0, h => by
    have : n = 0 := by rw [Int.pow_zero] at h; omega
    rw [this]; rfl
  | k + 1, n, h0, h => by
    rw [Int.pow_succ] at h
    rw [numB_succ, be_app, be_numB k (n / 256) (by omega) (by omega)]
    show n / 256 * 256 + ((UInt8.ofNat (n % 256).toNat).toNat : Int) = n
    rw [ofNat_byte]; omega
theorem raw_app (x r : Bytes) : N.inRaw ⟨x ++ r, 0⟩ x.length = (x, ⟨r, 0⟩) := by
  unfold N.inRaw
  cases x with
  | nil => rfl
  | cons c x =>
    have h1 : ile ((c :: x).length : Int) 0 = false := ile_f (by simp only [List.length_cons]; omega)
    have h2 : ilt (((c :: x ++ r).length : Nat) : Int) ((c :: x).length : Int) = false := ilt_f (by rw [List.length_append]; omega)
    simp only [h1, h2, cond_false, show ((0 : Int) != 0) = false from rfl, Int.toNat_natCast, List.take_left, List.drop_left]
theorem num_app (k : Nat) (hk : k ≤ 8) (n : Int) (h0 : 0 ≤ n) (h : n < 256 ^ k) (r : Bytes) : N.inNum ⟨N.numB n k ++ r, 0⟩ k = (n, ⟨r, 0⟩) := by
  unfold N.inNum
  have e : (cond (ilt 8 (k : Int)) (8 : Int) k) = ((N.numB n k).length : Int) := by rw [ilt_f (by omega), numB_len]; rfl
  rw [e, raw_app]
  show (N.be (N.numB n k) 0, _) = _
  rw [be_numB k n h0 h]
theorem text_app (s : Bytes) (m : Int) (hs : s.length ≤ m) (hm : m ≤ 65535) (r : Bytes) : N.inText ⟨N.textB s ++ r, 0⟩ m = (s, ⟨r, 0⟩) := by
  unfold N.inText N.textB
  rw [List.append_assoc]
  have e := num_app 2 (by decide) s.length (by omega) (by show (s.length : Int) < 65536; omega) (s ++ r)
  have e' : N.inNum ⟨N.numB s.length 2 ++ (s ++ r), 0⟩ 2 = ((s.length : Int), ⟨s ++ r, 0⟩) := e
  rw [e']
  show N.inRaw (cond (ilt m (IntKind.wrap .i64 s.length)) _ _) (IntKind.wrap .i64 s.length) = _
  rw [wrap_i64 (n := (s.length : Int)) (by omega) (by omega), ilt_f hs]
  exact raw_app s r
/-- What a value of the pairs' type is. -/
def PairOk (p : HPair) : Prop := 0 ≤ p.kind ∧ p.kind < 256 ∧ -9223372036854775808 ≤ p.num ∧ p.num ≤ 9223372036854775807
theorem wrap_back {n : Int} (h1 : -9223372036854775808 ≤ n) (h2 : n ≤ 9223372036854775807) : IntKind.wrap .i64 (IntKind.wrap .u64 n) = n := by
  simp only [IntKind.wrap, IntKind.signed, IntKind.bits]
  simp
  omega
theorem pairE_zero {p : HPair} {l : List HPair} (h : N.pairE p l = 0) : p.key.length ≤ 16 ∧ p.kind ≤ 2 ∧ (p.kind = 1 → p.text.length ≤ 64 ∧ p.num = 0) ∧ (p.kind = 2 → (p.num = 0 ∨ p.num = 1)) ∧ (p.kind ≠ 1 → p.text = []) := by
  unfold N.pairE at h
  cases h1 : N.name p.key == 0 with
  | false =>
    rw [bne, h1] at h
    simp only [Bool.not_false, cond_true] at h
    rw [h] at h1; cases h1
  | true =>
    rw [bne, h1] at h
    simp only [Bool.not_true, cond_false] at h
    have hk : p.key.length ≤ 16 := by
      unfold N.name at h1
      cases e1 : p.key == [] with
      | true => rw [e1] at h1; cases h1
      | false =>
        rw [e1] at h1
        cases e2 : ilt 16 p.key.length with
        | true => rw [e2] at h1; cases h1
        | false => have := ilt_nof e2; omega
    cases h2 : ilt 2 p.kind with
    | true => rw [h2] at h; cases h
    | false =>
      rw [h2] at h
      have h2 := ilt_nof h2
      simp only [cond_false] at h
      by_cases k1 : p.kind = 1
      · simp only [k1, beq_self_eq_true, cond_true, bne, show ((1 : Int) == 2) = false from rfl, cond_false, Bool.not_true] at h
        cases h3 : ilt 64 p.text.length with
        | true => rw [h3] at h; cases h
        | false =>
          rw [h3] at h
          have h3 := ilt_nof h3
          cases h4 : p.num == 0 with
          | false => rw [h4] at h; cases h
          | true => exact ⟨hk, by omega, fun _ => ⟨by omega, by simpa using h4⟩, fun e => by omega, fun e => absurd k1 e⟩
      · have e1 : (p.kind == 1) = false := by simpa using k1
        simp only [e1, cond_false, bne, Bool.not_false, cond_true] at h
        have ht : p.text = [] := by
          cases h4 : p.text == [] with
          | true => simpa using h4
          | false =>
            rw [h4] at h
            revert h
            cases (cond (cond (p.kind == 2) (!p.num == 0) false) (!p.num == 1) false) <;> intro h <;> cases h
        refine ⟨hk, by omega, fun e => absurd e k1, fun e => ?_, fun _ => ht⟩
        simp only [e, beq_self_eq_true, cond_true] at h
        by_cases z : p.num = 0
        · exact .inl z
        · by_cases o : p.num = 1
          · exact .inr o
          · rw [show (p.num == 0) = false by simpa using z, show (p.num == 1) = false by simpa using o] at h
            cases h
theorem one_app {p : HPair} {l : List HPair} (ho : PairOk p) (h : N.pairE p l = 0) (r : Bytes) : N.one ⟨N.pairB p ++ r, 0⟩ = (p, ⟨r, 0⟩) := by
  obtain ⟨hk, h2, ht, hn, hx⟩ := pairE_zero h
  obtain ⟨o1, o2, o3, o4⟩ := ho
  have hw : IntKind.wrap .u64 p.kind = p.kind := wrap_u64 o1 (by omega)
  unfold N.one N.pairB
  rw [hw, List.append_assoc, List.append_assoc, text_app p.key 16 (by omega) (by decide)]
  show N.oneOf p.key (IntKind.wrap .u8 (N.inNum ⟨N.numB p.kind 1 ++ _, 0⟩ 1).1) (N.inNum ⟨N.numB p.kind 1 ++ _, 0⟩ 1).2 = _
  have e : ∀ x : Bytes, N.inNum ⟨N.numB p.kind 1 ++ x, 0⟩ 1 = (p.kind, ⟨x, 0⟩) := fun x => num_app 1 (by decide) p.kind o1 (by show p.kind < 256; omega) x
  rw [e]
  have hw8 : IntKind.wrap .u8 p.kind = p.kind := by simp only [IntKind.wrap, IntKind.signed, IntKind.bits]; simp; omega
  show N.oneOf p.key (IntKind.wrap .u8 p.kind) ⟨_, 0⟩ = _
  rw [hw8]
  unfold N.oneOf
  rcases (by omega : p.kind = 0 ∨ p.kind = 1 ∨ p.kind = 2) with k | k | k
  · have u := wu64 p.num
    have e8 : N.inNum ⟨N.numB (IntKind.wrap .u64 p.num) 8 ++ r, 0⟩ 8 = (IntKind.wrap .u64 p.num, ⟨r, 0⟩) := num_app 8 (by decide) _ u.1 (by show _ < (18446744073709551616 : Int); exact u.2) r
    have hx := hx (by omega)
    simp only [k, beq_self_eq_true, cond_true, e8, wrap_back o3 o4]
    cases p; simp_all
  · obtain ⟨t1, t2⟩ := ht k
    simp only [k, show ((1 : Int) == 0) = false from rfl, beq_self_eq_true, cond_true, cond_false, text_app p.text 64 (by omega) (by decide)]
    cases p; simp_all
  · have hx := hx (by omega)
    have hn := hn k
    have hwn : IntKind.wrap .u64 p.num = p.num := wrap_u64 (by omega) (by omega)
    have e1 : N.inNum ⟨N.numB p.num 1 ++ r, 0⟩ 1 = (p.num, ⟨r, 0⟩) := num_app 1 (by decide) _ (by omega) (by show p.num < 256; omega) r
    simp only [k, show ((2 : Int) == 0) = false from rfl, show ((2 : Int) == 1) = false from rfl, beq_self_eq_true, cond_true, cond_false, hwn, e1, wrap_i64 o3 o4]
    cases p; simp_all
theorem checkFrom_all (h : List HPair) : ∀ (f : Nat) (i : Int), 0 ≤ i → N.checkFrom h f i = 0 → ∀ j : Nat, i ≤ j → (j : Int) < i + f → N.pairE (h.getD j pair0) (h.take j) = 0
  | 0, i, _, _, j, h1, h2 => by omega
  | f + 1, i, h0, hc, j, h1, h2 => by
    unfold N.checkFrom at hc
    cases e : N.pairE (h.getD i.toNat pair0) (h.take i.toNat) != 0 with
    | true => rw [e, cond_true] at hc; rw [hc] at e; cases e
    | false =>
      rw [e] at hc
      by_cases hj : (j : Int) = i
      · have : j = i.toNat := by omega
        rw [this]; simpa using e
      · exact checkFrom_all h f (i + 1) (by omega) hc j (by omega) (by omega)
end Go.Ev

/- The document's functions that write heads answer what the plain ones do: lemmas; its function that writes numbers is a premise. -/
namespace Go.Ev
open Go Go.Proofs
set_option maxRecDepth 100000

def N.fuelOk (k : Nat) (b : Int) : Bool := cond (ilt 8 b) (Nat.ble 8 k) (ile b k)
def dRefNum (k : Nat) : Den := den (aCons (vInt .u64) (aOne (vInt .i64))) bNil (oV vStr) (fun a _ => cond (ile 0 a.1) (cond (ilt a.1 18446744073709551616) (N.fuelOk k a.2) false) false) fun a _ => (N.numB a.1 (N.clamp a.2), ())
def dRefText : Den := den (aOne vStr) bNil (oV vStr) (fun s _ => Nat.ble s.length 65535) fun s _ => (N.textB s, ())
namespace N
def refPairB (p : HPair) : Bytes := cond (p.kind == 0) (textB p.key ++ numB (IntKind.wrap .u64 p.kind) 1 ++ numB (IntKind.wrap .u64 p.num) 8) (cond (p.kind == 1) (textB p.key ++ numB (IntKind.wrap .u64 p.kind) 1 ++ textB p.text) (textB p.key ++ numB (IntKind.wrap .u64 p.kind) 1 ++ numB (IntKind.wrap .u64 p.num) 1))
def refPairsB : List HPair → Bytes
  | [] => [] | p :: r => refPairB p ++ refPairsB r
def refHeadBytes (h : List HPair) : Bytes := numB (IntKind.wrap .u64 h.length) 1 ++ refPairsB h
end N
def dRefBytes : Den := den (aOne (vSl cPair)) bNil (oV vStr) (fun h _ => cond (Nat.ble h.length 8) (h.all N.fitP) false) fun h _ => (N.refHeadBytes h, ())
noncomputable def eRefText : Env := env Tryz.prog [(48, dRefNum 8)] [] []
theorem q_refText (s : Bytes) : evFn eRefText 73 ((aOne vStr).enc s) ([]) some =
 cond (bif ilt (IntKind.wrap IntKind.u64 (↑(List.length s) : Int)) (18446744073709551616 : Int) then N.fuelOk (8 : Nat) (2 : Int) else false) (cond (Nat.ble ((2 : Nat) + List.length s) (9223372036854775807 : Nat)) (some { v := V.str (N.numB (IntKind.wrap IntKind.u64 (↑(List.length s) : Int)) (N.clamp (2 : Int)) ++ s), bx := [] : DRes }) (none)) (none) := by kernel_rfl
theorem ok_refText (hR : FnOk Tryz.prog 48 (dRefNum 8)) : FnOk Tryz.prog 73 dRefText := by
  refine den_okF (env_ok ((TOk.nil _).cons hR)) (E := eRefText) Tryz.func73 [] (by kernel_rfl) none0 fun s _ h => ?_
  have h : s.length ≤ 65535 := ble_of h
  refine (q_refText s).trans ?_
  show _ = some (⟨.str (N.textB s), [], []⟩ : DRes)
  have w : IntKind.wrap .u64 (s.length : Int) = s.length := wrap_u64 (by omega) (by omega)
  rw [w]
  simp (disch := omega) only [evs, show N.fuelOk 8 2 = true from rfl]
  rfl
def schRefBytes : SSch := { fr := [(3, .str), (10, .slc [.str, .int .u8, .int .i64, .str]), (11, .int .i64), (12, .int .i64)], tab := [] }
def gRefBytes : List Leaf → (Ex → St → Option R) → Option R
  | [.s s, .r r, .i n, .i i], K => cond (n == r.length) (cond (ile 0 i) (cond (Nat.ble r.length 8) (cond ((rowsP r).all N.fitP) (cond (ile s.length (1 + 150 * i))
      (K (.exit 0) { fr := [(3, .str (s ++ N.refPairsB ((rowsP r).drop i.toNat)))], tab := [] }) none) none) none) none) none
  | _, _ => none
noncomputable def eRefBytes : Env := env Tryz.prog [(48, dRefNum 8), (73, dRefText)] [(3, loopF schRefBytes gRefBytes)] [(3, [(0, [3, 10, 11, 12]), (1, [3]), (1000, [2])])]
theorem q_refBytes (h : List HPair) : evFn eRefBytes 74 (((aOne (vSl cPair)).enc h)) ([]) some =
 cond (bif ilt (IntKind.wrap IntKind.u64 (↑(List.length (List.map (fun p => [V.str (HPair.key p), V.int IntKind.u8 (HPair.kind p), V.int IntKind.i64 (HPair.num p), V.str (HPair.text p)]) h)) : Int)) (18446744073709551616 : Int) then N.fuelOk (8 : Nat) (1 : Int) else false) (cond ((↑(List.length (List.map (fun p => [V.str (HPair.key p), V.int IntKind.u8 (HPair.kind p), V.int IntKind.i64 (HPair.num p), V.str (HPair.text p)]) h)) : Int) == (↑(List.length (List.map (fun p => [V.str (HPair.key p), V.int IntKind.u8 (HPair.kind p), V.int IntKind.i64 (HPair.num p), V.str (HPair.text p)]) h)) : Int)) (cond (Nat.ble (List.length (List.map (fun p => [V.str (HPair.key p), V.int IntKind.u8 (HPair.kind p), V.int IntKind.i64 (HPair.num p), V.str (HPair.text p)]) h)) (8 : Nat)) (cond (List.all (List.map (fun r => { key := V.toStr (List.getD r (0 : Nat) V.undef), kind := V.toInt (List.getD r (1 : Nat) V.undef), num := V.toInt (List.getD r (2 : Nat) V.undef), text := V.toStr (List.getD r (3 : Nat) V.undef) : HPair }) (List.map (fun p => [V.str (HPair.key p), V.int IntKind.u8 (HPair.kind p), V.int IntKind.i64 (HPair.num p), V.str (HPair.text p)]) h)) N.fitP) (some { v := V.str (N.numB (IntKind.wrap IntKind.u64 (↑(List.length (List.map (fun p => [V.str (HPair.key p), V.int IntKind.u8 (HPair.kind p), V.int IntKind.i64 (HPair.num p), V.str (HPair.text p)]) h)) : Int)) (N.clamp (1 : Int)) ++ N.refPairsB (List.drop (0 : Nat) (List.map (fun r => { key := V.toStr (List.getD r (0 : Nat) V.undef), kind := V.toInt (List.getD r (1 : Nat) V.undef), num := V.toInt (List.getD r (2 : Nat) V.undef), text := V.toStr (List.getD r (3 : Nat) V.undef) : HPair }) (List.map (fun p => [V.str (HPair.key p), V.int IntKind.u8 (HPair.kind p), V.int IntKind.i64 (HPair.num p), V.str (HPair.text p)]) h)))), bx := [] : DRes }) (none)) (none)) (none)) (none) := by kernel_rfl
theorem q_refBytesR (s3 : Bytes) (r10 : List (List V)) (i11 : Int) (i12 : Int) (K : Ex → St → Option R) : evRound eRefBytes 74 3 { fr := [(3, .str s3), (10, .slc [.str, .int .u8, .int .i64, .str] r10), (11, .int .i64 i11), (12, .int .i64 i12)], tab := [] } K =
 cond (ilt i12 i11) (cond (decide ((0 : Int) ≤ i12 ∧ i12 < (↑(List.length r10) : Int))) (cond (Nat.ble (List.length (V.toStr (List.getD (List.getD r10 (Int.toNat i12) []) (0 : Nat) V.undef))) (65535 : Nat)) (cond (Nat.ble (List.length s3 + List.length (N.textB (V.toStr (List.getD (List.getD r10 (Int.toNat i12) []) (0 : Nat) V.undef)))) (9223372036854775807 : Nat)) (cond (bif ile (0 : Int) (IntKind.wrap IntKind.u64 (V.toInt (List.getD (List.getD r10 (Int.toNat i12) []) (1 : Nat) V.undef))) then bif ilt (IntKind.wrap IntKind.u64 (V.toInt (List.getD (List.getD r10 (Int.toNat i12) []) (1 : Nat) V.undef))) (18446744073709551616 : Int) then N.fuelOk (8 : Nat) (1 : Int) else false else false) (cond (Nat.ble (List.length (s3 ++ N.textB (V.toStr (List.getD (List.getD r10 (Int.toNat i12) []) (0 : Nat) V.undef))) + (1 : Nat)) (9223372036854775807 : Nat)) (cond (V.toInt (List.getD (List.getD r10 (Int.toNat i12) []) (1 : Nat) V.undef) == (0 : Int)) (cond (bif ile (0 : Int) (IntKind.wrap IntKind.u64 (V.toInt (List.getD (List.getD r10 (Int.toNat i12) []) (2 : Nat) V.undef))) then bif ilt (IntKind.wrap IntKind.u64 (V.toInt (List.getD (List.getD r10 (Int.toNat i12) []) (2 : Nat) V.undef))) (18446744073709551616 : Int) then N.fuelOk (8 : Nat) (8 : Int) else false else false) (cond (Nat.ble (List.length (s3 ++ N.textB (V.toStr (List.getD (List.getD r10 (Int.toNat i12) []) (0 : Nat) V.undef)) ++ N.numB (IntKind.wrap IntKind.u64 (V.toInt (List.getD (List.getD r10 (Int.toNat i12) []) (1 : Nat) V.undef))) (N.clamp (1 : Int))) + (8 : Nat)) (9223372036854775807 : Nat)) (K Ex.normal { fr := [((3 : Nat), V.str (s3 ++ N.textB (V.toStr (List.getD (List.getD r10 (Int.toNat i12) []) (0 : Nat) V.undef)) ++ N.numB (IntKind.wrap IntKind.u64 (V.toInt (List.getD (List.getD r10 (Int.toNat i12) []) (1 : Nat) V.undef))) (N.clamp (1 : Int)) ++ N.numB (IntKind.wrap IntKind.u64 (V.toInt (List.getD (List.getD r10 (Int.toNat i12) []) (2 : Nat) V.undef))) (N.clamp (8 : Int)))), ((10 : Nat), V.slc [Sh.str, Sh.int IntKind.u8, Sh.int IntKind.i64, Sh.str] r10), ((11 : Nat), V.int IntKind.i64 i11), ((12 : Nat), V.int IntKind.i64 (IntKind.wrap IntKind.i64 (i12 + (1 : Int))))], tab := [] : St }) (none)) (none)) (cond (V.toInt (List.getD (List.getD r10 (Int.toNat i12) []) (1 : Nat) V.undef) == (1 : Int)) (cond (Nat.ble (List.length (V.toStr (List.getD (List.getD r10 (Int.toNat i12) []) (3 : Nat) V.undef))) (65535 : Nat)) (cond (Nat.ble (List.length (s3 ++ N.textB (V.toStr (List.getD (List.getD r10 (Int.toNat i12) []) (0 : Nat) V.undef)) ++ N.numB (IntKind.wrap IntKind.u64 (V.toInt (List.getD (List.getD r10 (Int.toNat i12) []) (1 : Nat) V.undef))) (N.clamp (1 : Int))) + List.length (N.textB (V.toStr (List.getD (List.getD r10 (Int.toNat i12) []) (3 : Nat) V.undef)))) (9223372036854775807 : Nat)) (K Ex.normal { fr := [((3 : Nat), V.str (s3 ++ N.textB (V.toStr (List.getD (List.getD r10 (Int.toNat i12) []) (0 : Nat) V.undef)) ++ N.numB (IntKind.wrap IntKind.u64 (V.toInt (List.getD (List.getD r10 (Int.toNat i12) []) (1 : Nat) V.undef))) (N.clamp (1 : Int)) ++ N.textB (V.toStr (List.getD (List.getD r10 (Int.toNat i12) []) (3 : Nat) V.undef)))), ((10 : Nat), V.slc [Sh.str, Sh.int IntKind.u8, Sh.int IntKind.i64, Sh.str] r10), ((11 : Nat), V.int IntKind.i64 i11), ((12 : Nat), V.int IntKind.i64 (IntKind.wrap IntKind.i64 (i12 + (1 : Int))))], tab := [] : St }) (none)) (none)) (cond (bif ile (0 : Int) (IntKind.wrap IntKind.u64 (V.toInt (List.getD (List.getD r10 (Int.toNat i12) []) (2 : Nat) V.undef))) then bif ilt (IntKind.wrap IntKind.u64 (V.toInt (List.getD (List.getD r10 (Int.toNat i12) []) (2 : Nat) V.undef))) (18446744073709551616 : Int) then N.fuelOk (8 : Nat) (1 : Int) else false else false) (cond (Nat.ble (List.length (s3 ++ N.textB (V.toStr (List.getD (List.getD r10 (Int.toNat i12) []) (0 : Nat) V.undef)) ++ N.numB (IntKind.wrap IntKind.u64 (V.toInt (List.getD (List.getD r10 (Int.toNat i12) []) (1 : Nat) V.undef))) (N.clamp (1 : Int))) + (1 : Nat)) (9223372036854775807 : Nat)) (K Ex.normal { fr := [((3 : Nat), V.str (s3 ++ N.textB (V.toStr (List.getD (List.getD r10 (Int.toNat i12) []) (0 : Nat) V.undef)) ++ N.numB (IntKind.wrap IntKind.u64 (V.toInt (List.getD (List.getD r10 (Int.toNat i12) []) (1 : Nat) V.undef))) (N.clamp (1 : Int)) ++ N.numB (IntKind.wrap IntKind.u64 (V.toInt (List.getD (List.getD r10 (Int.toNat i12) []) (2 : Nat) V.undef))) (N.clamp (1 : Int)))), ((10 : Nat), V.slc [Sh.str, Sh.int IntKind.u8, Sh.int IntKind.i64, Sh.str] r10), ((11 : Nat), V.int IntKind.i64 i11), ((12 : Nat), V.int IntKind.i64 (IntKind.wrap IntKind.i64 (i12 + (1 : Int))))], tab := [] : St }) (none)) (none)))) (none)) (none)) (none)) (none)) (none)) (K (Ex.exit (0 : Nat)) { fr := [((3 : Nat), V.str s3)], tab := [] : St }) := by kernel_rfl
theorem ok_refBytes (hR : FnOk Tryz.prog 48 (dRefNum 8)) : FnOk Tryz.prog 74 dRefBytes := by
  refine den_okF (env_ok (((TOk.nil _).cons (ok_refText hR)).cons hR)) (E := eRefBytes) Tryz.func74 [3] (by kernel_rfl) (one1 (rounds_of rfl fun l K q h => ?_)) fun h _ hp => ?_
  · unfold gRefBytes at h
    split at h
    · rename_i s r n i
      have h1 := (cond_none h).1; replace h := (cond_none h).2; have h3 := (cond_none h).1; replace h := (cond_none h).2; have h4 := (cond_none h).1; replace h := (cond_none h).2; have h5 := (cond_none h).1; replace h := (cond_none h).2; have h6 := (cond_none h).1; replace h := (cond_none h).2
      have e1 := ieq_of h1
      subst e1
      have h4 : r.length ≤ 8 := ble_of h4
      refine loop_ind (E := eRefBytes) (f := 74) (id := 3) (σ := Int × Bytes) (fun x => { fr := [(3, .str x.2), (10, .slc [.str, .int .u8, .int .i64, .str] r), (11, .int .i64 r.length), (12, .int .i64 x.1)], tab := [] })
        (fun x => 0 ≤ x.1 ∧ (x.2.length : Int) ≤ 1 + 150 * x.1) (fun x => r.length - x.1.toNat)
        (fun x K => K (.exit 0) { fr := [(3, .str (x.2 ++ N.refPairsB ((rowsP r).drop x.1.toNat)))], tab := [] }) ?_ (i, s) ⟨ile_of h3, ile_of h6⟩ K q (by assumption)
      rintro ⟨i, s⟩ ⟨hi, hs⟩
      simp only at hi hs ⊢
      by_cases hl : i < r.length
      · have hlt : i.toNat < r.length := by omega
        have hfit : N.fitP (rowP (r.getD i.toNat [])) = true := List.all_eq_true.1 h5 _ (by
          rw [List.getD_eq_getElem?_getD, List.getElem?_eq_getElem hlt]; exact List.mem_map_of_mem (List.getElem_mem _))
        obtain ⟨f1, f2⟩ := bcond hfit
        have f1 : (V.toStr (List.getD (List.getD r i.toNat []) 0 V.undef)).length ≤ 64 := ble_of f1
        have f2 : (V.toStr (List.getD (List.getD r i.toNat []) 3 V.undef)).length ≤ 64 := ble_of f2
        have u1 := wu64 (V.toInt (List.getD (List.getD r i.toNat []) 1 V.undef))
        have u2 := wu64 (V.toInt (List.getD (List.getD r i.toNat []) 2 V.undef))
        rw [drop_pair hlt]
        have e : N.refPairsB (rowP (r.getD i.toNat []) :: (rowsP r).drop (i.toNat + 1)) = N.refPairB (rowP (r.getD i.toNat [])) ++ N.refPairsB ((rowsP r).drop (i.toNat + 1)) := rfl
        rw [e, ← List.append_assoc]
        have hlen : (N.refPairB (rowP (r.getD i.toNat []))).length ≤ 150 := by
          unfold N.refPairB rowP
          cases V.toInt (List.getD (List.getD r i.toNat []) 1 V.undef) == 0 <;> cases V.toInt (List.getD (List.getD r i.toNat []) 1 V.undef) == 1 <;> simp only [cond_true, cond_false, numB_len, textB_len, List.length_append] <;> omega
        refine .inl ⟨(i + 1, s ++ N.refPairB (rowP (r.getD i.toNat []))), ⟨by simp only; omega, by simp only [List.length_append]; omega⟩, by simp only; omega, fun K => ?_, fun K => ?_⟩
        · rw [q_refBytesR]
          unfold N.refPairB rowP
          simp (disch := omega) only [evs, textB_len, numB_len, show N.fuelOk 8 1 = true from rfl, show N.fuelOk 8 8 = true from rfl, show N.clamp 1 = 1 from rfl, show N.clamp 8 = 8 from rfl]
          cases V.toInt (List.getD (List.getD r i.toNat []) 1 V.undef) == 0 <;> cases V.toInt (List.getD (List.getD r i.toNat []) 1 V.undef) == 1 <;> simp only [cond_true, cond_false, List.append_assoc]
        · rw [show (i + 1).toNat = i.toNat + 1 by omega]
      · refine .inr ⟨.exit 0, { fr := [(3, .str s)], tab := [] }, by simp, fun K => ?_, fun K => ?_⟩
        · rw [q_refBytesR]
          simp (disch := omega) only [evs]
        · rw [List.drop_eq_nil_of_le (by rw [rowsP_length]; omega)]
          show K _ { fr := [(3, .str (s ++ []))], tab := [] } = _
          rw [List.append_nil]
    · cases h
  · obtain ⟨c1, c2⟩ := bcond hp
    have c1 : h.length ≤ 8 := ble_of c1
    refine (q_refBytes h).trans ?_
    show _ = some (⟨.str (N.refHeadBytes h), [], []⟩ : DRes)
    have u := wu64 (h.length : Int)
    simp (disch := omega) only [evs, pairs_enc, c2, List.drop_zero, show N.fuelOk 8 1 = true from rfl, show N.clamp 1 = 1 from rfl]
    rfl
end Go.Ev

/- The document's function that writes numbers answers what the plain one does: lemmas, no condition. -/
namespace Go.Ev
open Go Go.Proofs
set_option maxRecDepth 100000

noncomputable def eRefNum0 : Env := env Tryz.prog [] [] []
noncomputable def eRefNum (k : Nat) : Env := env Tryz.prog [(48, dRefNum k)] [] []
theorem q_refNum0 (n b : Int) : evFn eRefNum0 48 ((aCons (vInt .u64) (aOne (vInt .i64))).enc (n, b)) ([]) some =
 cond (ilt (8 : Int) b) (none) (cond (ile b (0 : Int)) (some { v := V.str [], bx := [] : DRes }) (none)) := by kernel_rfl
theorem q_refNum (k : Nat) (n b : Int) : evFn (eRefNum k) 48 ((aCons (vInt .u64) (aOne (vInt .i64))).enc (n, b)) ([]) some =
 cond (ilt (8 : Int) b) (cond (bif bif bif ile (0 : Int) (IntKind.wrap IntKind.u64 (Int.tdiv n (256 : Int))) then bif ilt (IntKind.wrap IntKind.u64 (Int.tdiv n (256 : Int))) (18446744073709551616 : Int) then N.fuelOk k (IntKind.wrap IntKind.i64 ((8 : Int) - (1 : Int))) else false else false then true else false then true else false) (cond (bif bif bif ile (0 : Int) (IntKind.wrap IntKind.u64 (Int.tdiv n (256 : Int))) then bif ilt (IntKind.wrap IntKind.u64 (Int.tdiv n (256 : Int))) (18446744073709551616 : Int) then N.fuelOk k (IntKind.wrap IntKind.i64 ((8 : Int) - (1 : Int))) else false else false then true else false then true else false) (cond (bif ile (0 : Int) (IntKind.wrap IntKind.u64 (Int.tdiv n (256 : Int))) then bif ilt (IntKind.wrap IntKind.u64 (Int.tdiv n (256 : Int))) (18446744073709551616 : Int) then N.fuelOk k (IntKind.wrap IntKind.i64 ((8 : Int) - (1 : Int))) else false else false) (some { v := V.str (N.numB (IntKind.wrap IntKind.u64 (Int.tdiv n (256 : Int))) (N.clamp (IntKind.wrap IntKind.i64 ((8 : Int) - (1 : Int)))) ++ strOfBytes [[V.int IntKind.u8 (IntKind.wrap IntKind.u8 (Int.tmod n (256 : Int)))]]), bx := [] : DRes }) (none)) (none)) (none)) (cond (ile b (0 : Int)) (some { v := V.str [], bx := [] : DRes }) (cond (bif bif bif ile (0 : Int) (IntKind.wrap IntKind.u64 (Int.tdiv n (256 : Int))) then bif ilt (IntKind.wrap IntKind.u64 (Int.tdiv n (256 : Int))) (18446744073709551616 : Int) then N.fuelOk k (IntKind.wrap IntKind.i64 (b - (1 : Int))) else false else false then true else false then true else false) (cond (bif bif bif ile (0 : Int) (IntKind.wrap IntKind.u64 (Int.tdiv n (256 : Int))) then bif ilt (IntKind.wrap IntKind.u64 (Int.tdiv n (256 : Int))) (18446744073709551616 : Int) then N.fuelOk k (IntKind.wrap IntKind.i64 (b - (1 : Int))) else false else false then true else false then true else false) (cond (bif ile (0 : Int) (IntKind.wrap IntKind.u64 (Int.tdiv n (256 : Int))) then bif ilt (IntKind.wrap IntKind.u64 (Int.tdiv n (256 : Int))) (18446744073709551616 : Int) then N.fuelOk k (IntKind.wrap IntKind.i64 (b - (1 : Int))) else false else false) (cond (Nat.ble (List.length (N.numB (IntKind.wrap IntKind.u64 (Int.tdiv n (256 : Int))) (N.clamp (IntKind.wrap IntKind.i64 (b - (1 : Int))))) + (1 : Nat)) (9223372036854775807 : Nat)) (some { v := V.str (N.numB (IntKind.wrap IntKind.u64 (Int.tdiv n (256 : Int))) (N.clamp (IntKind.wrap IntKind.i64 (b - (1 : Int)))) ++ strOfBytes [[V.int IntKind.u8 (IntKind.wrap IntKind.u8 (Int.tmod n (256 : Int)))]]), bx := [] : DRes }) (none)) (none)) (none)) (none))) := by kernel_rfl
theorem clamp_mid {b : Int} (h1 : 1 ≤ b) (h2 : b ≤ 8) : N.clamp b = N.clamp (b - 1) + 1 := by
  unfold N.clamp
  by_cases h : b = 1
  · subst h; rfl
  · rw [ilt_t (show (0 : Int) < b by omega), ilt_f (show b ≤ 8 from h2), ilt_t (show (0 : Int) < b - 1 by omega), ilt_f (show b - 1 ≤ 8 by omega)]
    simp only [cond_true, cond_false]; omega
theorem tdiv_256 {n : Int} (h : 0 ≤ n) : Int.tdiv n 256 = n / 256 := Int.tdiv_eq_ediv_of_nonneg h
theorem tmod_256 {n : Int} (h : 0 ≤ n) : Int.tmod n 256 = n % 256 := Int.tmod_eq_emod_of_nonneg h
theorem wrap_u8' {n : Int} (h1 : 0 ≤ n) (h2 : n < 256) : IntKind.wrap .u8 n = n := by
  simp only [IntKind.wrap, IntKind.signed, IntKind.bits]
  simp
  omega
theorem ok_refNum0 : FnOk Tryz.prog 48 (dRefNum 0) := by
  refine den_okF (env_ok (TOk.nil _)) (E := eRefNum0) Tryz.func48 [] (by kernel_rfl) none0 fun a _ h => ?_
  obtain ⟨n, b⟩ := a
  obtain ⟨h1, h⟩ := bcond h
  obtain ⟨h2, h⟩ := bcond h
  have h : cond (ilt 8 b) (Nat.ble 8 0) (ile b 0) = true := h
  refine (q_refNum0 n b).trans ?_
  cases e : ilt 8 b with
  | true => rw [e] at h; cases h
  | false =>
    rw [e] at h
    have h : ile b 0 = true := h
    have h' := ile_of h
    show cond false none (cond (ile b 0) _ none) = some (⟨.str (N.numB n (N.clamp b)), [], []⟩ : DRes)
    rw [h]
    have : N.clamp b = 0 := by unfold N.clamp; rw [ilt_f h']; rfl
    rw [this]; rfl
theorem ok_refNumS (k : Nat) (hk : FnOk Tryz.prog 48 (dRefNum k)) : FnOk Tryz.prog 48 (dRefNum (k + 1)) := by
  refine den_okF (env_ok ((TOk.nil _).cons hk)) (E := eRefNum k) Tryz.func48 [] (by kernel_rfl) none0 fun a _ h => ?_
  obtain ⟨n, b⟩ := a
  obtain ⟨h1, h⟩ := bcond h
  obtain ⟨h2, h⟩ := bcond h
  have h : cond (ilt 8 b) (Nat.ble 8 (k + 1)) (ile b ((k + 1 : Nat) : Int)) = true := h
  have h1 : 0 ≤ n := ile_of h1
  have h2 : n < 18446744073709551616 := ilt_of h2
  refine (q_refNum k n b).trans ?_
  show _ = some (⟨.str (N.numB n (N.clamp b)), [], []⟩ : DRes)
  have w1 : IntKind.wrap .u64 (n / 256) = n / 256 := wrap_u64 (by omega) (by omega)
  have w2 : IntKind.wrap .u8 (n % 256) = n % 256 := wrap_u8' (by omega) (by omega)
  have w3 : IntKind.wrap .i64 ((8 : Int) - 1) = 7 := rfl
  have es : strOfBytes [[V.int .u8 (n % 256)]] = [UInt8.ofNat (n % 256).toNat] := rfl
  rw [tdiv_256 h1, tmod_256 h1, w1, w2, w3, es]
  have c1 : ile 0 (n / 256) = true := ile_t (by omega)
  have c2 : ilt (n / 256) 18446744073709551616 = true := ilt_t (by omega)
  rw [c1, c2]
  simp only [cond_true]
  cases e : ilt 8 b with
  | true =>
    rw [e] at h
    have h : 8 ≤ k + 1 := ble_of h
    have hb := ilt_of e
    have f7 : N.fuelOk k 7 = true := by unfold N.fuelOk; rw [ilt_f (by omega), cond_false]; exact ile_t (by omega)
    have hc : N.clamp b = 8 := by unfold N.clamp; rw [ilt_t (by omega), e]; rfl
    rw [f7, hc]
    simp only [cond_true]
    rw [show N.clamp 7 = 7 from rfl, ← numB_succ]
  | false =>
    rw [e] at h
    have h : b ≤ (k + 1 : Nat) := ile_of h
    have hb := ilt_nof e
    simp only [cond_false]
    cases e2 : ile b 0 with
    | true =>
      have h' := ile_of e2
      have : N.clamp b = 0 := by unfold N.clamp; rw [ilt_f h']; rfl
      rw [this]; rfl
    | false =>
      have h0 := ile_nof e2
      have w4 : IntKind.wrap .i64 (b - 1) = b - 1 := wr_i64 (by omega) (by omega)
      have f : N.fuelOk k (b - 1) = true := by unfold N.fuelOk; rw [ilt_f (by omega), cond_false]; exact ile_t (by omega)
      rw [w4, f, clamp_mid (by omega) hb, numB_succ]
      have hl : (N.numB (n / 256) (N.clamp (b - 1))).length ≤ 8 := by
        rw [numB_len]; unfold N.clamp
        rw [ilt_f (show b - 1 ≤ 8 by omega)]
        cases ilt 0 (b - 1) <;> simp only [cond_true, cond_false] <;> omega
      simp (disch := omega) only [evs]
theorem ok_refNum : ∀ k, FnOk Tryz.prog 48 (dRefNum k)
  | 0 => ok_refNum0
  | k + 1 => ok_refNumS k (ok_refNum k)
end Go.Ev

/- The functions on messages answer what the plain ones do: lemmas; the function that writes numbers is a premise. -/
namespace Go.Ev
open Go Go.Proofs
set_option maxRecDepth 100000

noncomputable def eClone : Env := env Tryz.prog [] [] []
theorem q_clone (l : List HPair) : evFn eClone 64 ((aOne (vSl cPair)).enc l) ([]) some =
 cond (!Nat.beq (List.length (List.map (fun p => [V.str (HPair.key p), V.int IntKind.u8 (HPair.kind p), V.int IntKind.i64 (HPair.num p), V.str (HPair.text p)]) l)) (0 : Nat)) (cond (Nat.beq (List.length (List.map (fun p => [V.str (HPair.key p), V.int IntKind.u8 (HPair.kind p), V.int IntKind.i64 (HPair.num p), V.str (HPair.text p)]) l)) (0 : Nat)) (some { v := V.slc [Sh.str, Sh.int IntKind.u8, Sh.int IntKind.i64, Sh.str] [], bx := [] : DRes }) (cond (decide (List.length (List.map (fun p => [V.str (HPair.key p), V.int IntKind.u8 (HPair.kind p), V.int IntKind.i64 (HPair.num p), V.str (HPair.text p)]) l) * (48 : Nat) ≤ (140737488355328 : Nat))) (some { v := V.slc [Sh.str, Sh.int IntKind.u8, Sh.int IntKind.i64, Sh.str] (List.map (fun p => [V.str (HPair.key p), V.int IntKind.u8 (HPair.kind p), V.int IntKind.i64 (HPair.num p), V.str (HPair.text p)]) l), bx := [] : DRes }) (none))) (none) := by kernel_rfl
theorem q_cloneN  : evFn eClone 64 [.nils [.str, .int .u8, .int .i64, .str]] ([]) some =
 some { v := V.slc [Sh.str, Sh.int IntKind.u8, Sh.int IntKind.i64, Sh.str] [], bx := [] : DRes } := by kernel_rfl
theorem q_cloneE  : evFn eClone 64 [.nn [.str, .int .u8, .int .i64, .str]] ([]) some =
 some { v := V.slc [Sh.str, Sh.int IntKind.u8, Sh.int IntKind.i64, Sh.str] [], bx := [] : DRes } := by kernel_rfl
theorem ok_clone : FnOk Tryz.prog 64 dClone := by
  refine den_of fun l b h => ?_
  have h : l.length ≤ 1000000 := ble_of h
  have fo := fun a r => fn_okF (E := eClone) (env_ok (TOk.nil _)) Tryz.func64 [] (by kernel_rfl) none0 a [] r
  cases l with
  | nil => exact FnOk.empty (fo _ _ q_cloneN) (fo _ _ q_cloneE)
  | cons p r =>
    refine fo _ _ ((q_clone (p :: r)).trans ?_)
    show _ = some (⟨.slc [.str, .int .u8, .int .i64, .str] ((p :: r).map fun p => [V.str p.key, V.int .u8 p.kind, V.int .i64 p.num, V.str p.text]), [], []⟩ : DRes)
    rw [show Nat.beq (List.length ((p :: r).map fun p => [V.str p.key, V.int .u8 p.kind, V.int .i64 p.num, V.str p.text])) 0 = false from rfl]
    simp (disch := omega) only [evs, Bool.not_false]
noncomputable def eMailCopy : Env := env Tryz.prog [(64, dClone)] [] []
theorem q_mailCopy (m : HMail) : evFn eMailCopy 38 ((aOne (vAgg cMail)).enc m) ([]) some =
 cond (Nat.ble (List.length (List.map (fun r => { key := V.toStr (List.getD r (0 : Nat) V.undef), kind := V.toInt (List.getD r (1 : Nat) V.undef), num := V.toInt (List.getD r (2 : Nat) V.undef), text := V.toStr (List.getD r (3 : Nat) V.undef) : HPair }) (List.map (fun p => [V.str (HPair.key p), V.int IntKind.u8 (HPair.kind p), V.int IntKind.i64 (HPair.num p), V.str (HPair.text p)]) (HMail.head m)))) (1000000 : Nat)) (some { v := V.agg [V.int IntKind.u64 (HMail.id m), V.str (HMail.shop m), V.str (HMail.key m), V.slc [Sh.str, Sh.int IntKind.u8, Sh.int IntKind.i64, Sh.str] (List.map (fun p => [V.str (HPair.key p), V.int IntKind.u8 (HPair.kind p), V.int IntKind.i64 (HPair.num p), V.str (HPair.text p)]) (List.map (fun r => { key := V.toStr (List.getD r (0 : Nat) V.undef), kind := V.toInt (List.getD r (1 : Nat) V.undef), num := V.toInt (List.getD r (2 : Nat) V.undef), text := V.toStr (List.getD r (3 : Nat) V.undef) : HPair }) (List.map (fun p => [V.str (HPair.key p), V.int IntKind.u8 (HPair.kind p), V.int IntKind.i64 (HPair.num p), V.str (HPair.text p)]) (HMail.head m)))), V.str (HMail.body m), V.int IntKind.u64 (HMail.due m), V.int IntKind.u8 (HMail.hops m)], bx := [] : DRes }) (none) := by kernel_rfl
theorem ok_mailCopy : FnOk Tryz.prog 38 dMailCopy := by
  refine den_okF (env_ok ((TOk.nil _).cons ok_clone)) (E := eMailCopy) Tryz.func38 [] (by kernel_rfl) none0 fun m _ h => ?_
  have h : m.head.length ≤ 1000000 := ble_of h
  refine (q_mailCopy m).trans ?_
  simp (disch := omega) only [evs, pairs_enc]
  rfl
noncomputable def eMailCheck : Env := env Tryz.prog [(60, dName), (61, dKey), (62, dHeadCheck)] [] []
theorem q_mailCheck (m : HMail) : evFn eMailCheck 36 ((aOne (vAgg cMail)).enc m) ([]) some =
 cond (N.name (HMail.shop m) != (0 : Int)) (some { v := V.int IntKind.i64 (N.name (HMail.shop m)), bx := [] : DRes }) (cond (N.key (HMail.key m) [] != (0 : Int)) (some { v := V.int IntKind.i64 (N.key (HMail.key m) []), bx := [] : DRes }) (cond (N.headCheck (List.map (fun r => { key := V.toStr (List.getD r (0 : Nat) V.undef), kind := V.toInt (List.getD r (1 : Nat) V.undef), num := V.toInt (List.getD r (2 : Nat) V.undef), text := V.toStr (List.getD r (3 : Nat) V.undef) : HPair }) (List.map (fun p => [V.str (HPair.key p), V.int IntKind.u8 (HPair.kind p), V.int IntKind.i64 (HPair.num p), V.str (HPair.text p)]) (HMail.head m))) != (0 : Int)) (some { v := V.int IntKind.i64 (N.headCheck (List.map (fun r => { key := V.toStr (List.getD r (0 : Nat) V.undef), kind := V.toInt (List.getD r (1 : Nat) V.undef), num := V.toInt (List.getD r (2 : Nat) V.undef), text := V.toStr (List.getD r (3 : Nat) V.undef) : HPair }) (List.map (fun p => [V.str (HPair.key p), V.int IntKind.u8 (HPair.kind p), V.int IntKind.i64 (HPair.num p), V.str (HPair.text p)]) (HMail.head m)))), bx := [] : DRes }) (cond (ilt (256 : Int) (↑(List.length (HMail.body m)) : Int)) (some { v := V.int IntKind.i64 (5 : Int), bx := [] : DRes }) (cond (ilt (4 : Int) (HMail.hops m)) (some { v := V.int IntKind.i64 (7 : Int), bx := [] : DRes }) (some { v := V.int IntKind.i64 (0 : Int), bx := [] : DRes }))))) := by kernel_rfl
noncomputable def eRefMailCheck : Env := env Tryz.prog [(65, dName), (66, dRefKey), (67, dHeadCheck)] [] []
theorem q_refMailCheck (m : HMail) : evFn eRefMailCheck 39 ((aOne (vAgg cMail)).enc m) ([]) some =
 cond (N.name (HMail.shop m) == (0 : Int)) (cond (N.refKey (HMail.key m) false == (0 : Int)) (cond (N.headCheck (List.map (fun r => { key := V.toStr (List.getD r (0 : Nat) V.undef), kind := V.toInt (List.getD r (1 : Nat) V.undef), num := V.toInt (List.getD r (2 : Nat) V.undef), text := V.toStr (List.getD r (3 : Nat) V.undef) : HPair }) (List.map (fun p => [V.str (HPair.key p), V.int IntKind.u8 (HPair.kind p), V.int IntKind.i64 (HPair.num p), V.str (HPair.text p)]) (HMail.head m))) == (0 : Int)) (cond (ilt (256 : Int) (↑(List.length (HMail.body m)) : Int)) (some { v := V.int IntKind.i64 (5 : Int), bx := [] : DRes }) (cond (N.headCheck (List.map (fun r => { key := V.toStr (List.getD r (0 : Nat) V.undef), kind := V.toInt (List.getD r (1 : Nat) V.undef), num := V.toInt (List.getD r (2 : Nat) V.undef), text := V.toStr (List.getD r (3 : Nat) V.undef) : HPair }) (List.map (fun p => [V.str (HPair.key p), V.int IntKind.u8 (HPair.kind p), V.int IntKind.i64 (HPair.num p), V.str (HPair.text p)]) (HMail.head m))) == (0 : Int)) (cond (ilt (4 : Int) (HMail.hops m)) (some { v := V.int IntKind.i64 (7 : Int), bx := [] : DRes }) (some { v := V.int IntKind.i64 (N.headCheck (List.map (fun r => { key := V.toStr (List.getD r (0 : Nat) V.undef), kind := V.toInt (List.getD r (1 : Nat) V.undef), num := V.toInt (List.getD r (2 : Nat) V.undef), text := V.toStr (List.getD r (3 : Nat) V.undef) : HPair }) (List.map (fun p => [V.str (HPair.key p), V.int IntKind.u8 (HPair.kind p), V.int IntKind.i64 (HPair.num p), V.str (HPair.text p)]) (HMail.head m)))), bx := [] : DRes })) (some { v := V.int IntKind.i64 (N.headCheck (List.map (fun r => { key := V.toStr (List.getD r (0 : Nat) V.undef), kind := V.toInt (List.getD r (1 : Nat) V.undef), num := V.toInt (List.getD r (2 : Nat) V.undef), text := V.toStr (List.getD r (3 : Nat) V.undef) : HPair }) (List.map (fun p => [V.str (HPair.key p), V.int IntKind.u8 (HPair.kind p), V.int IntKind.i64 (HPair.num p), V.str (HPair.text p)]) (HMail.head m)))), bx := [] : DRes }))) (cond (N.headCheck (List.map (fun r => { key := V.toStr (List.getD r (0 : Nat) V.undef), kind := V.toInt (List.getD r (1 : Nat) V.undef), num := V.toInt (List.getD r (2 : Nat) V.undef), text := V.toStr (List.getD r (3 : Nat) V.undef) : HPair }) (List.map (fun p => [V.str (HPair.key p), V.int IntKind.u8 (HPair.kind p), V.int IntKind.i64 (HPair.num p), V.str (HPair.text p)]) (HMail.head m))) == (0 : Int)) (cond (ilt (4 : Int) (HMail.hops m)) (some { v := V.int IntKind.i64 (7 : Int), bx := [] : DRes }) (some { v := V.int IntKind.i64 (N.headCheck (List.map (fun r => { key := V.toStr (List.getD r (0 : Nat) V.undef), kind := V.toInt (List.getD r (1 : Nat) V.undef), num := V.toInt (List.getD r (2 : Nat) V.undef), text := V.toStr (List.getD r (3 : Nat) V.undef) : HPair }) (List.map (fun p => [V.str (HPair.key p), V.int IntKind.u8 (HPair.kind p), V.int IntKind.i64 (HPair.num p), V.str (HPair.text p)]) (HMail.head m)))), bx := [] : DRes })) (some { v := V.int IntKind.i64 (N.headCheck (List.map (fun r => { key := V.toStr (List.getD r (0 : Nat) V.undef), kind := V.toInt (List.getD r (1 : Nat) V.undef), num := V.toInt (List.getD r (2 : Nat) V.undef), text := V.toStr (List.getD r (3 : Nat) V.undef) : HPair }) (List.map (fun p => [V.str (HPair.key p), V.int IntKind.u8 (HPair.kind p), V.int IntKind.i64 (HPair.num p), V.str (HPair.text p)]) (HMail.head m)))), bx := [] : DRes }))) (cond (N.refKey (HMail.key m) false == (0 : Int)) (cond (ilt (256 : Int) (↑(List.length (HMail.body m)) : Int)) (some { v := V.int IntKind.i64 (5 : Int), bx := [] : DRes }) (cond (N.refKey (HMail.key m) false == (0 : Int)) (cond (ilt (4 : Int) (HMail.hops m)) (some { v := V.int IntKind.i64 (7 : Int), bx := [] : DRes }) (some { v := V.int IntKind.i64 (N.refKey (HMail.key m) false), bx := [] : DRes })) (some { v := V.int IntKind.i64 (N.refKey (HMail.key m) false), bx := [] : DRes }))) (cond (N.refKey (HMail.key m) false == (0 : Int)) (cond (ilt (4 : Int) (HMail.hops m)) (some { v := V.int IntKind.i64 (7 : Int), bx := [] : DRes }) (some { v := V.int IntKind.i64 (N.refKey (HMail.key m) false), bx := [] : DRes })) (some { v := V.int IntKind.i64 (N.refKey (HMail.key m) false), bx := [] : DRes })))) (cond (N.name (HMail.shop m) == (0 : Int)) (cond (N.headCheck (List.map (fun r => { key := V.toStr (List.getD r (0 : Nat) V.undef), kind := V.toInt (List.getD r (1 : Nat) V.undef), num := V.toInt (List.getD r (2 : Nat) V.undef), text := V.toStr (List.getD r (3 : Nat) V.undef) : HPair }) (List.map (fun p => [V.str (HPair.key p), V.int IntKind.u8 (HPair.kind p), V.int IntKind.i64 (HPair.num p), V.str (HPair.text p)]) (HMail.head m))) == (0 : Int)) (cond (ilt (256 : Int) (↑(List.length (HMail.body m)) : Int)) (some { v := V.int IntKind.i64 (5 : Int), bx := [] : DRes }) (cond (N.headCheck (List.map (fun r => { key := V.toStr (List.getD r (0 : Nat) V.undef), kind := V.toInt (List.getD r (1 : Nat) V.undef), num := V.toInt (List.getD r (2 : Nat) V.undef), text := V.toStr (List.getD r (3 : Nat) V.undef) : HPair }) (List.map (fun p => [V.str (HPair.key p), V.int IntKind.u8 (HPair.kind p), V.int IntKind.i64 (HPair.num p), V.str (HPair.text p)]) (HMail.head m))) == (0 : Int)) (cond (ilt (4 : Int) (HMail.hops m)) (some { v := V.int IntKind.i64 (7 : Int), bx := [] : DRes }) (some { v := V.int IntKind.i64 (N.headCheck (List.map (fun r => { key := V.toStr (List.getD r (0 : Nat) V.undef), kind := V.toInt (List.getD r (1 : Nat) V.undef), num := V.toInt (List.getD r (2 : Nat) V.undef), text := V.toStr (List.getD r (3 : Nat) V.undef) : HPair }) (List.map (fun p => [V.str (HPair.key p), V.int IntKind.u8 (HPair.kind p), V.int IntKind.i64 (HPair.num p), V.str (HPair.text p)]) (HMail.head m)))), bx := [] : DRes })) (some { v := V.int IntKind.i64 (N.headCheck (List.map (fun r => { key := V.toStr (List.getD r (0 : Nat) V.undef), kind := V.toInt (List.getD r (1 : Nat) V.undef), num := V.toInt (List.getD r (2 : Nat) V.undef), text := V.toStr (List.getD r (3 : Nat) V.undef) : HPair }) (List.map (fun p => [V.str (HPair.key p), V.int IntKind.u8 (HPair.kind p), V.int IntKind.i64 (HPair.num p), V.str (HPair.text p)]) (HMail.head m)))), bx := [] : DRes }))) (cond (N.headCheck (List.map (fun r => { key := V.toStr (List.getD r (0 : Nat) V.undef), kind := V.toInt (List.getD r (1 : Nat) V.undef), num := V.toInt (List.getD r (2 : Nat) V.undef), text := V.toStr (List.getD r (3 : Nat) V.undef) : HPair }) (List.map (fun p => [V.str (HPair.key p), V.int IntKind.u8 (HPair.kind p), V.int IntKind.i64 (HPair.num p), V.str (HPair.text p)]) (HMail.head m))) == (0 : Int)) (cond (ilt (4 : Int) (HMail.hops m)) (some { v := V.int IntKind.i64 (7 : Int), bx := [] : DRes }) (some { v := V.int IntKind.i64 (N.headCheck (List.map (fun r => { key := V.toStr (List.getD r (0 : Nat) V.undef), kind := V.toInt (List.getD r (1 : Nat) V.undef), num := V.toInt (List.getD r (2 : Nat) V.undef), text := V.toStr (List.getD r (3 : Nat) V.undef) : HPair }) (List.map (fun p => [V.str (HPair.key p), V.int IntKind.u8 (HPair.kind p), V.int IntKind.i64 (HPair.num p), V.str (HPair.text p)]) (HMail.head m)))), bx := [] : DRes })) (some { v := V.int IntKind.i64 (N.headCheck (List.map (fun r => { key := V.toStr (List.getD r (0 : Nat) V.undef), kind := V.toInt (List.getD r (1 : Nat) V.undef), num := V.toInt (List.getD r (2 : Nat) V.undef), text := V.toStr (List.getD r (3 : Nat) V.undef) : HPair }) (List.map (fun p => [V.str (HPair.key p), V.int IntKind.u8 (HPair.kind p), V.int IntKind.i64 (HPair.num p), V.str (HPair.text p)]) (HMail.head m)))), bx := [] : DRes }))) (cond (N.name (HMail.shop m) == (0 : Int)) (cond (ilt (256 : Int) (↑(List.length (HMail.body m)) : Int)) (some { v := V.int IntKind.i64 (5 : Int), bx := [] : DRes }) (cond (N.name (HMail.shop m) == (0 : Int)) (cond (ilt (4 : Int) (HMail.hops m)) (some { v := V.int IntKind.i64 (7 : Int), bx := [] : DRes }) (some { v := V.int IntKind.i64 (N.name (HMail.shop m)), bx := [] : DRes })) (some { v := V.int IntKind.i64 (N.name (HMail.shop m)), bx := [] : DRes }))) (cond (N.name (HMail.shop m) == (0 : Int)) (cond (ilt (4 : Int) (HMail.hops m)) (some { v := V.int IntKind.i64 (7 : Int), bx := [] : DRes }) (some { v := V.int IntKind.i64 (N.name (HMail.shop m)), bx := [] : DRes })) (some { v := V.int IntKind.i64 (N.name (HMail.shop m)), bx := [] : DRes })))) := by kernel_rfl
theorem ok_mailCheck : FnOk Tryz.prog 36 dMailCheck := by
  refine den_okF (env_ok ((((TOk.nil _).cons ok_headCheck).cons ok_key).cons ok_name)) (E := eMailCheck) Tryz.func36 [] (by kernel_rfl) none0 fun m _ _ => ?_
  refine (q_mailCheck m).trans ?_
  show _ = some (⟨.int .i64 (N.mailCheck m), [], []⟩ : DRes)
  unfold N.mailCheck
  simp only [pairs_enc]
  cases h1 : N.name m.shop != 0 <;> cases h2 : N.key m.key [] != 0 <;> cases h3 : N.headCheck m.head != 0 <;> cases h4 : ilt 256 (m.body.length : Int) <;> cases h5 : ilt 4 m.hops <;> simp only [cond_true, cond_false]
theorem ok_refMailCheck : FnOk Tryz.prog 39 dMailCheck := by
  refine den_okF (env_ok ((((TOk.nil _).cons ok_refCheck).cons ok_refKey).cons ok_refName)) (E := eRefMailCheck) Tryz.func39 [] (by kernel_rfl) none0 fun m _ _ => ?_
  refine (q_refMailCheck m).trans ?_
  show _ = some (⟨.int .i64 (N.mailCheck m), [], []⟩ : DRes)
  unfold N.mailCheck
  simp only [pairs_enc, key_eq, bne]
  cases h1 : N.name m.shop == 0 with
  | false => simp only [Bool.not_false, cond_true, cond_false]
  | true =>
    cases h2 : N.refKey m.key false == 0 with
    | false => simp only [Bool.not_false, Bool.not_true, cond_true, cond_false]
    | true =>
      cases h3 : N.headCheck m.head == 0 with
      | false => simp only [Bool.not_false, Bool.not_true, cond_true, cond_false]
      | true =>
        have e3 := ieq_of h3
        rw [e3]
        cases h4 : ilt 256 (m.body.length : Int) <;> cases h5 : ilt 4 m.hops <;> first | rfl | simp only [Bool.not_false, Bool.not_true, cond_true, cond_false, h3, h4, h5]
noncomputable def eMailSame : Env := env Tryz.prog [(68, dSameP)] [] []
theorem q_mailSame (a b : HMail) : evFn eMailSame 43 ((aCons (vAgg cMail) (aOne (vAgg cMail))).enc (a, b)) ([]) some =
 cond (HMail.id a == HMail.id b) (cond (HMail.shop a == HMail.shop b) (cond (HMail.key a == HMail.key b) (cond (Nat.ble (List.length (List.map (fun r => { key := V.toStr (List.getD r (0 : Nat) V.undef), kind := V.toInt (List.getD r (1 : Nat) V.undef), num := V.toInt (List.getD r (2 : Nat) V.undef), text := V.toStr (List.getD r (3 : Nat) V.undef) : HPair }) (List.map (fun p => [V.str (HPair.key p), V.int IntKind.u8 (HPair.kind p), V.int IntKind.i64 (HPair.num p), V.str (HPair.text p)]) (HMail.head a)))) (1000000 : Nat)) (cond (N.samePs (List.map (fun r => { key := V.toStr (List.getD r (0 : Nat) V.undef), kind := V.toInt (List.getD r (1 : Nat) V.undef), num := V.toInt (List.getD r (2 : Nat) V.undef), text := V.toStr (List.getD r (3 : Nat) V.undef) : HPair }) (List.map (fun p => [V.str (HPair.key p), V.int IntKind.u8 (HPair.kind p), V.int IntKind.i64 (HPair.num p), V.str (HPair.text p)]) (HMail.head a))) (List.map (fun r => { key := V.toStr (List.getD r (0 : Nat) V.undef), kind := V.toInt (List.getD r (1 : Nat) V.undef), num := V.toInt (List.getD r (2 : Nat) V.undef), text := V.toStr (List.getD r (3 : Nat) V.undef) : HPair }) (List.map (fun p => [V.str (HPair.key p), V.int IntKind.u8 (HPair.kind p), V.int IntKind.i64 (HPair.num p), V.str (HPair.text p)]) (HMail.head b)))) (cond (HMail.body a == HMail.body b) (cond (HMail.due a == HMail.due b) (some { v := V.bool (HMail.hops a == HMail.hops b), bx := [] : DRes }) (some { v := V.bool false, bx := [] : DRes })) (some { v := V.bool false, bx := [] : DRes })) (some { v := V.bool false, bx := [] : DRes })) (none)) (some { v := V.bool false, bx := [] : DRes })) (some { v := V.bool false, bx := [] : DRes })) (some { v := V.bool false, bx := [] : DRes }) := by kernel_rfl
noncomputable def eRefMailSame : Env := env Tryz.prog [(57, dSameP)] [] []
theorem q_refMailSame (a b : HMail) : evFn eRefMailSame 33 ((aCons (vAgg cMail) (aOne (vAgg cMail))).enc (a, b)) ([]) some =
 cond (HMail.id a == HMail.id b) (cond (HMail.shop a == HMail.shop b) (cond (HMail.key a == HMail.key b) (cond (Nat.ble (List.length (List.map (fun r => { key := V.toStr (List.getD r (0 : Nat) V.undef), kind := V.toInt (List.getD r (1 : Nat) V.undef), num := V.toInt (List.getD r (2 : Nat) V.undef), text := V.toStr (List.getD r (3 : Nat) V.undef) : HPair }) (List.map (fun p => [V.str (HPair.key p), V.int IntKind.u8 (HPair.kind p), V.int IntKind.i64 (HPair.num p), V.str (HPair.text p)]) (HMail.head a)))) (1000000 : Nat)) (cond (N.samePs (List.map (fun r => { key := V.toStr (List.getD r (0 : Nat) V.undef), kind := V.toInt (List.getD r (1 : Nat) V.undef), num := V.toInt (List.getD r (2 : Nat) V.undef), text := V.toStr (List.getD r (3 : Nat) V.undef) : HPair }) (List.map (fun p => [V.str (HPair.key p), V.int IntKind.u8 (HPair.kind p), V.int IntKind.i64 (HPair.num p), V.str (HPair.text p)]) (HMail.head a))) (List.map (fun r => { key := V.toStr (List.getD r (0 : Nat) V.undef), kind := V.toInt (List.getD r (1 : Nat) V.undef), num := V.toInt (List.getD r (2 : Nat) V.undef), text := V.toStr (List.getD r (3 : Nat) V.undef) : HPair }) (List.map (fun p => [V.str (HPair.key p), V.int IntKind.u8 (HPair.kind p), V.int IntKind.i64 (HPair.num p), V.str (HPair.text p)]) (HMail.head b)))) (cond (HMail.body a == HMail.body b) (cond (HMail.due a == HMail.due b) (some { v := V.bool (HMail.hops a == HMail.hops b), bx := [] : DRes }) (some { v := V.bool false, bx := [] : DRes })) (some { v := V.bool false, bx := [] : DRes })) (some { v := V.bool false, bx := [] : DRes })) (none)) (some { v := V.bool false, bx := [] : DRes })) (some { v := V.bool false, bx := [] : DRes })) (some { v := V.bool false, bx := [] : DRes }) := by kernel_rfl
theorem ok_mailSame : FnOk Tryz.prog 43 dMailSame := by
  refine den_okF (env_ok ((TOk.nil _).cons ok_hsame)) (E := eMailSame) Tryz.func43 [] (by kernel_rfl) none0 fun a _ h => ?_
  obtain ⟨a, b⟩ := a
  have h : a.head.length ≤ 1000000 := ble_of h
  refine (q_mailSame a b).trans ?_
  show _ = some (⟨.bool (N.mailSame a b), [], []⟩ : DRes)
  unfold N.mailSame
  cases a.id == b.id <;> cases a.shop == b.shop <;> cases a.key == b.key <;> first | rfl | skip
  simp (disch := omega) only [evs, pairs_enc]
  cases N.samePs a.head b.head <;> cases a.body == b.body <;> cases a.due == b.due <;> rfl
theorem ok_refMailSame : FnOk Tryz.prog 33 dMailSame := by
  refine den_okF (env_ok ((TOk.nil _).cons ok_refSame)) (E := eRefMailSame) Tryz.func33 [] (by kernel_rfl) none0 fun a _ h => ?_
  obtain ⟨a, b⟩ := a
  have h : a.head.length ≤ 1000000 := ble_of h
  refine (q_refMailSame a b).trans ?_
  show _ = some (⟨.bool (N.mailSame a b), [], []⟩ : DRes)
  unfold N.mailSame
  cases a.id == b.id <;> cases a.shop == b.shop <;> cases a.key == b.key <;> first | rfl | skip
  simp (disch := omega) only [evs, pairs_enc]
  cases N.samePs a.head b.head <;> cases a.body == b.body <;> cases a.due == b.due <;> rfl
noncomputable def eLightM : Env := env Tryz.prog [(25, dLight)] [] []
theorem q_lightM (m : HMail) : evFn eLightM 6 ((aOne (vAgg cMail)).enc m) ([]) some =
 cond (ile (↑(List.length (HMail.shop m)) : Int) (40 : Int)) (cond (ile (↑(List.length (HMail.key m)) : Int) (100 : Int)) (cond (N.light (List.map (fun r => { key := V.toStr (List.getD r (0 : Nat) V.undef), kind := V.toInt (List.getD r (1 : Nat) V.undef), num := V.toInt (List.getD r (2 : Nat) V.undef), text := V.toStr (List.getD r (3 : Nat) V.undef) : HPair }) (List.map (fun p => [V.str (HPair.key p), V.int IntKind.u8 (HPair.kind p), V.int IntKind.i64 (HPair.num p), V.str (HPair.text p)]) (HMail.head m)))) (some { v := V.bool (ile (↑(List.length (HMail.body m)) : Int) (300 : Int)), bx := [] : DRes }) (some { v := V.bool false, bx := [] : DRes })) (some { v := V.bool false, bx := [] : DRes })) (some { v := V.bool false, bx := [] : DRes }) := by kernel_rfl
theorem ok_lightM : FnOk Tryz.prog 6 dLightM := by
  refine den_okF (env_ok ((TOk.nil _).cons ok_light)) (E := eLightM) Tryz.func6 [] (by kernel_rfl) none0 fun m _ _ => ?_
  refine (q_lightM m).trans ?_
  show _ = some (⟨.bool (N.lightM m), [], []⟩ : DRes)
  unfold N.lightM
  simp only [pairs_enc]
  cases ile (m.shop.length : Int) 40 <;> cases ile (m.key.length : Int) 100 <;> cases N.light m.head <;> rfl
theorem nrm_rows (h : List HPair) : (h.map (fun p => [V.str p.key, V.int .u8 p.kind, V.int .i64 p.num, V.str p.text])).map (fun r => ({ key := V.toStr (List.getD r 0 .undef), kind := V.toInt (List.getD r 1 .undef), num := V.toInt (List.getD r 2 .undef), text := V.toStr (List.getD r 3 .undef) } : HPair)) = h := rowsP_enc h
noncomputable def eMailRead : Env := env Tryz.prog [(26, dNum), (52, dInText), (53, dHeadRead), (10, dInErr), (27, dFail), (36, dMailCheck)] [] []
theorem q_mailRead (i : InS) : evFn eMailRead 28 ((aOne (vPtr 0)).enc ()) ((bOne cIn).enc i) some =
 cond (InS.err (Prod.snd (N.inNum (Prod.snd (N.inNum (Prod.snd (N.inText (Prod.snd (N.headRead (Prod.snd (N.inText (Prod.snd (N.inText (Prod.snd (N.inNum i (8 : Int))) (16 : Int))) (64 : Int))))) (256 : Int))) (8 : Int))) (1 : Int))) == (0 : Int)) (cond (InS.err (N.inFail (Prod.snd (N.inNum (Prod.snd (N.inNum (Prod.snd (N.inText (Prod.snd (N.headRead (Prod.snd (N.inText (Prod.snd (N.inText (Prod.snd (N.inNum i (8 : Int))) (16 : Int))) (64 : Int))))) (256 : Int))) (8 : Int))) (1 : Int))) (N.mailCheck { id := Prod.fst (N.inNum i (8 : Int)), shop := Prod.fst (N.inText (Prod.snd (N.inNum i (8 : Int))) (16 : Int)), key := Prod.fst (N.inText (Prod.snd (N.inText (Prod.snd (N.inNum i (8 : Int))) (16 : Int))) (64 : Int)), head := List.map (fun r => { key := V.toStr (List.getD r (0 : Nat) V.undef), kind := V.toInt (List.getD r (1 : Nat) V.undef), num := V.toInt (List.getD r (2 : Nat) V.undef), text := V.toStr (List.getD r (3 : Nat) V.undef) : HPair }) (List.map (fun p => [V.str (HPair.key p), V.int IntKind.u8 (HPair.kind p), V.int IntKind.i64 (HPair.num p), V.str (HPair.text p)]) (Prod.fst (N.headRead (Prod.snd (N.inText (Prod.snd (N.inText (Prod.snd (N.inNum i (8 : Int))) (16 : Int))) (64 : Int)))))), body := Prod.fst (N.inText (Prod.snd (N.headRead (Prod.snd (N.inText (Prod.snd (N.inText (Prod.snd (N.inNum i (8 : Int))) (16 : Int))) (64 : Int))))) (256 : Int)), due := Prod.fst (N.inNum (Prod.snd (N.inText (Prod.snd (N.headRead (Prod.snd (N.inText (Prod.snd (N.inText (Prod.snd (N.inNum i (8 : Int))) (16 : Int))) (64 : Int))))) (256 : Int))) (8 : Int)), hops := IntKind.wrap IntKind.u8 (Prod.fst (N.inNum (Prod.snd (N.inNum (Prod.snd (N.inText (Prod.snd (N.headRead (Prod.snd (N.inText (Prod.snd (N.inText (Prod.snd (N.inNum i (8 : Int))) (16 : Int))) (64 : Int))))) (256 : Int))) (8 : Int))) (1 : Int))) : HMail })) != (0 : Int)) (some { v := V.agg [V.int IntKind.u64 (0 : Int), V.str [], V.str [], V.slc [Sh.str, Sh.int IntKind.u8, Sh.int IntKind.i64, Sh.str] [], V.str [], V.int IntKind.u64 (0 : Int), V.int IntKind.u8 (0 : Int)], bx := [[V.str (InS.s (N.inFail (Prod.snd (N.inNum (Prod.snd (N.inNum (Prod.snd (N.inText (Prod.snd (N.headRead (Prod.snd (N.inText (Prod.snd (N.inText (Prod.snd (N.inNum i (8 : Int))) (16 : Int))) (64 : Int))))) (256 : Int))) (8 : Int))) (1 : Int))) (N.mailCheck { id := Prod.fst (N.inNum i (8 : Int)), shop := Prod.fst (N.inText (Prod.snd (N.inNum i (8 : Int))) (16 : Int)), key := Prod.fst (N.inText (Prod.snd (N.inText (Prod.snd (N.inNum i (8 : Int))) (16 : Int))) (64 : Int)), head := List.map (fun r => { key := V.toStr (List.getD r (0 : Nat) V.undef), kind := V.toInt (List.getD r (1 : Nat) V.undef), num := V.toInt (List.getD r (2 : Nat) V.undef), text := V.toStr (List.getD r (3 : Nat) V.undef) : HPair }) (List.map (fun p => [V.str (HPair.key p), V.int IntKind.u8 (HPair.kind p), V.int IntKind.i64 (HPair.num p), V.str (HPair.text p)]) (Prod.fst (N.headRead (Prod.snd (N.inText (Prod.snd (N.inText (Prod.snd (N.inNum i (8 : Int))) (16 : Int))) (64 : Int)))))), body := Prod.fst (N.inText (Prod.snd (N.headRead (Prod.snd (N.inText (Prod.snd (N.inText (Prod.snd (N.inNum i (8 : Int))) (16 : Int))) (64 : Int))))) (256 : Int)), due := Prod.fst (N.inNum (Prod.snd (N.inText (Prod.snd (N.headRead (Prod.snd (N.inText (Prod.snd (N.inText (Prod.snd (N.inNum i (8 : Int))) (16 : Int))) (64 : Int))))) (256 : Int))) (8 : Int)), hops := IntKind.wrap IntKind.u8 (Prod.fst (N.inNum (Prod.snd (N.inNum (Prod.snd (N.inText (Prod.snd (N.headRead (Prod.snd (N.inText (Prod.snd (N.inText (Prod.snd (N.inNum i (8 : Int))) (16 : Int))) (64 : Int))))) (256 : Int))) (8 : Int))) (1 : Int))) : HMail }))), V.int IntKind.i64 (InS.err (N.inFail (Prod.snd (N.inNum (Prod.snd (N.inNum (Prod.snd (N.inText (Prod.snd (N.headRead (Prod.snd (N.inText (Prod.snd (N.inText (Prod.snd (N.inNum i (8 : Int))) (16 : Int))) (64 : Int))))) (256 : Int))) (8 : Int))) (1 : Int))) (N.mailCheck { id := Prod.fst (N.inNum i (8 : Int)), shop := Prod.fst (N.inText (Prod.snd (N.inNum i (8 : Int))) (16 : Int)), key := Prod.fst (N.inText (Prod.snd (N.inText (Prod.snd (N.inNum i (8 : Int))) (16 : Int))) (64 : Int)), head := List.map (fun r => { key := V.toStr (List.getD r (0 : Nat) V.undef), kind := V.toInt (List.getD r (1 : Nat) V.undef), num := V.toInt (List.getD r (2 : Nat) V.undef), text := V.toStr (List.getD r (3 : Nat) V.undef) : HPair }) (List.map (fun p => [V.str (HPair.key p), V.int IntKind.u8 (HPair.kind p), V.int IntKind.i64 (HPair.num p), V.str (HPair.text p)]) (Prod.fst (N.headRead (Prod.snd (N.inText (Prod.snd (N.inText (Prod.snd (N.inNum i (8 : Int))) (16 : Int))) (64 : Int)))))), body := Prod.fst (N.inText (Prod.snd (N.headRead (Prod.snd (N.inText (Prod.snd (N.inText (Prod.snd (N.inNum i (8 : Int))) (16 : Int))) (64 : Int))))) (256 : Int)), due := Prod.fst (N.inNum (Prod.snd (N.inText (Prod.snd (N.headRead (Prod.snd (N.inText (Prod.snd (N.inText (Prod.snd (N.inNum i (8 : Int))) (16 : Int))) (64 : Int))))) (256 : Int))) (8 : Int)), hops := IntKind.wrap IntKind.u8 (Prod.fst (N.inNum (Prod.snd (N.inNum (Prod.snd (N.inText (Prod.snd (N.headRead (Prod.snd (N.inText (Prod.snd (N.inText (Prod.snd (N.inNum i (8 : Int))) (16 : Int))) (64 : Int))))) (256 : Int))) (8 : Int))) (1 : Int))) : HMail })))]] : DRes }) (some { v := V.agg [V.int IntKind.u64 (Prod.fst (N.inNum i (8 : Int))), V.str (Prod.fst (N.inText (Prod.snd (N.inNum i (8 : Int))) (16 : Int))), V.str (Prod.fst (N.inText (Prod.snd (N.inText (Prod.snd (N.inNum i (8 : Int))) (16 : Int))) (64 : Int))), V.slc [Sh.str, Sh.int IntKind.u8, Sh.int IntKind.i64, Sh.str] (List.map (fun p => [V.str (HPair.key p), V.int IntKind.u8 (HPair.kind p), V.int IntKind.i64 (HPair.num p), V.str (HPair.text p)]) (Prod.fst (N.headRead (Prod.snd (N.inText (Prod.snd (N.inText (Prod.snd (N.inNum i (8 : Int))) (16 : Int))) (64 : Int)))))), V.str (Prod.fst (N.inText (Prod.snd (N.headRead (Prod.snd (N.inText (Prod.snd (N.inText (Prod.snd (N.inNum i (8 : Int))) (16 : Int))) (64 : Int))))) (256 : Int))), V.int IntKind.u64 (Prod.fst (N.inNum (Prod.snd (N.inText (Prod.snd (N.headRead (Prod.snd (N.inText (Prod.snd (N.inText (Prod.snd (N.inNum i (8 : Int))) (16 : Int))) (64 : Int))))) (256 : Int))) (8 : Int))), V.int IntKind.u8 (IntKind.wrap IntKind.u8 (Prod.fst (N.inNum (Prod.snd (N.inNum (Prod.snd (N.inText (Prod.snd (N.headRead (Prod.snd (N.inText (Prod.snd (N.inText (Prod.snd (N.inNum i (8 : Int))) (16 : Int))) (64 : Int))))) (256 : Int))) (8 : Int))) (1 : Int))))], bx := [[V.str (InS.s (N.inFail (Prod.snd (N.inNum (Prod.snd (N.inNum (Prod.snd (N.inText (Prod.snd (N.headRead (Prod.snd (N.inText (Prod.snd (N.inText (Prod.snd (N.inNum i (8 : Int))) (16 : Int))) (64 : Int))))) (256 : Int))) (8 : Int))) (1 : Int))) (N.mailCheck { id := Prod.fst (N.inNum i (8 : Int)), shop := Prod.fst (N.inText (Prod.snd (N.inNum i (8 : Int))) (16 : Int)), key := Prod.fst (N.inText (Prod.snd (N.inText (Prod.snd (N.inNum i (8 : Int))) (16 : Int))) (64 : Int)), head := List.map (fun r => { key := V.toStr (List.getD r (0 : Nat) V.undef), kind := V.toInt (List.getD r (1 : Nat) V.undef), num := V.toInt (List.getD r (2 : Nat) V.undef), text := V.toStr (List.getD r (3 : Nat) V.undef) : HPair }) (List.map (fun p => [V.str (HPair.key p), V.int IntKind.u8 (HPair.kind p), V.int IntKind.i64 (HPair.num p), V.str (HPair.text p)]) (Prod.fst (N.headRead (Prod.snd (N.inText (Prod.snd (N.inText (Prod.snd (N.inNum i (8 : Int))) (16 : Int))) (64 : Int)))))), body := Prod.fst (N.inText (Prod.snd (N.headRead (Prod.snd (N.inText (Prod.snd (N.inText (Prod.snd (N.inNum i (8 : Int))) (16 : Int))) (64 : Int))))) (256 : Int)), due := Prod.fst (N.inNum (Prod.snd (N.inText (Prod.snd (N.headRead (Prod.snd (N.inText (Prod.snd (N.inText (Prod.snd (N.inNum i (8 : Int))) (16 : Int))) (64 : Int))))) (256 : Int))) (8 : Int)), hops := IntKind.wrap IntKind.u8 (Prod.fst (N.inNum (Prod.snd (N.inNum (Prod.snd (N.inText (Prod.snd (N.headRead (Prod.snd (N.inText (Prod.snd (N.inText (Prod.snd (N.inNum i (8 : Int))) (16 : Int))) (64 : Int))))) (256 : Int))) (8 : Int))) (1 : Int))) : HMail }))), V.int IntKind.i64 (InS.err (N.inFail (Prod.snd (N.inNum (Prod.snd (N.inNum (Prod.snd (N.inText (Prod.snd (N.headRead (Prod.snd (N.inText (Prod.snd (N.inText (Prod.snd (N.inNum i (8 : Int))) (16 : Int))) (64 : Int))))) (256 : Int))) (8 : Int))) (1 : Int))) (N.mailCheck { id := Prod.fst (N.inNum i (8 : Int)), shop := Prod.fst (N.inText (Prod.snd (N.inNum i (8 : Int))) (16 : Int)), key := Prod.fst (N.inText (Prod.snd (N.inText (Prod.snd (N.inNum i (8 : Int))) (16 : Int))) (64 : Int)), head := List.map (fun r => { key := V.toStr (List.getD r (0 : Nat) V.undef), kind := V.toInt (List.getD r (1 : Nat) V.undef), num := V.toInt (List.getD r (2 : Nat) V.undef), text := V.toStr (List.getD r (3 : Nat) V.undef) : HPair }) (List.map (fun p => [V.str (HPair.key p), V.int IntKind.u8 (HPair.kind p), V.int IntKind.i64 (HPair.num p), V.str (HPair.text p)]) (Prod.fst (N.headRead (Prod.snd (N.inText (Prod.snd (N.inText (Prod.snd (N.inNum i (8 : Int))) (16 : Int))) (64 : Int)))))), body := Prod.fst (N.inText (Prod.snd (N.headRead (Prod.snd (N.inText (Prod.snd (N.inText (Prod.snd (N.inNum i (8 : Int))) (16 : Int))) (64 : Int))))) (256 : Int)), due := Prod.fst (N.inNum (Prod.snd (N.inText (Prod.snd (N.headRead (Prod.snd (N.inText (Prod.snd (N.inText (Prod.snd (N.inNum i (8 : Int))) (16 : Int))) (64 : Int))))) (256 : Int))) (8 : Int)), hops := IntKind.wrap IntKind.u8 (Prod.fst (N.inNum (Prod.snd (N.inNum (Prod.snd (N.inText (Prod.snd (N.headRead (Prod.snd (N.inText (Prod.snd (N.inText (Prod.snd (N.inNum i (8 : Int))) (16 : Int))) (64 : Int))))) (256 : Int))) (8 : Int))) (1 : Int))) : HMail })))]] : DRes })) (cond (InS.err (Prod.snd (N.inNum (Prod.snd (N.inNum (Prod.snd (N.inText (Prod.snd (N.headRead (Prod.snd (N.inText (Prod.snd (N.inText (Prod.snd (N.inNum i (8 : Int))) (16 : Int))) (64 : Int))))) (256 : Int))) (8 : Int))) (1 : Int))) != (0 : Int)) (some { v := V.agg [V.int IntKind.u64 (0 : Int), V.str [], V.str [], V.slc [Sh.str, Sh.int IntKind.u8, Sh.int IntKind.i64, Sh.str] [], V.str [], V.int IntKind.u64 (0 : Int), V.int IntKind.u8 (0 : Int)], bx := [[V.str (InS.s (Prod.snd (N.inNum (Prod.snd (N.inNum (Prod.snd (N.inText (Prod.snd (N.headRead (Prod.snd (N.inText (Prod.snd (N.inText (Prod.snd (N.inNum i (8 : Int))) (16 : Int))) (64 : Int))))) (256 : Int))) (8 : Int))) (1 : Int)))), V.int IntKind.i64 (InS.err (Prod.snd (N.inNum (Prod.snd (N.inNum (Prod.snd (N.inText (Prod.snd (N.headRead (Prod.snd (N.inText (Prod.snd (N.inText (Prod.snd (N.inNum i (8 : Int))) (16 : Int))) (64 : Int))))) (256 : Int))) (8 : Int))) (1 : Int))))]] : DRes }) (some { v := V.agg [V.int IntKind.u64 (Prod.fst (N.inNum i (8 : Int))), V.str (Prod.fst (N.inText (Prod.snd (N.inNum i (8 : Int))) (16 : Int))), V.str (Prod.fst (N.inText (Prod.snd (N.inText (Prod.snd (N.inNum i (8 : Int))) (16 : Int))) (64 : Int))), V.slc [Sh.str, Sh.int IntKind.u8, Sh.int IntKind.i64, Sh.str] (List.map (fun p => [V.str (HPair.key p), V.int IntKind.u8 (HPair.kind p), V.int IntKind.i64 (HPair.num p), V.str (HPair.text p)]) (Prod.fst (N.headRead (Prod.snd (N.inText (Prod.snd (N.inText (Prod.snd (N.inNum i (8 : Int))) (16 : Int))) (64 : Int)))))), V.str (Prod.fst (N.inText (Prod.snd (N.headRead (Prod.snd (N.inText (Prod.snd (N.inText (Prod.snd (N.inNum i (8 : Int))) (16 : Int))) (64 : Int))))) (256 : Int))), V.int IntKind.u64 (Prod.fst (N.inNum (Prod.snd (N.inText (Prod.snd (N.headRead (Prod.snd (N.inText (Prod.snd (N.inText (Prod.snd (N.inNum i (8 : Int))) (16 : Int))) (64 : Int))))) (256 : Int))) (8 : Int))), V.int IntKind.u8 (IntKind.wrap IntKind.u8 (Prod.fst (N.inNum (Prod.snd (N.inNum (Prod.snd (N.inText (Prod.snd (N.headRead (Prod.snd (N.inText (Prod.snd (N.inText (Prod.snd (N.inNum i (8 : Int))) (16 : Int))) (64 : Int))))) (256 : Int))) (8 : Int))) (1 : Int))))], bx := [[V.str (InS.s (Prod.snd (N.inNum (Prod.snd (N.inNum (Prod.snd (N.inText (Prod.snd (N.headRead (Prod.snd (N.inText (Prod.snd (N.inText (Prod.snd (N.inNum i (8 : Int))) (16 : Int))) (64 : Int))))) (256 : Int))) (8 : Int))) (1 : Int)))), V.int IntKind.i64 (InS.err (Prod.snd (N.inNum (Prod.snd (N.inNum (Prod.snd (N.inText (Prod.snd (N.headRead (Prod.snd (N.inText (Prod.snd (N.inText (Prod.snd (N.inNum i (8 : Int))) (16 : Int))) (64 : Int))))) (256 : Int))) (8 : Int))) (1 : Int))))]] : DRes })) := by kernel_rfl
theorem ok_mailRead : FnOk Tryz.prog 28 dMailRead := by
  refine den_okF (env_ok (((((((TOk.nil _).cons ok_mailCheck).cons ok_fail).cons ok_inErr).cons ok_headRead).cons ok_inText).cons ok_num)) (E := eMailRead) Tryz.func28 [] (by kernel_rfl) none0 fun _ i _ => ?_
  refine (q_mailRead i).trans ?_
  show _ = some (⟨.agg (cMail.enc (N.mailRead i).1), [cIn.enc (N.mailRead i).2], []⟩ : DRes)
  simp only [nrm_rows]
  unfold N.mailRead
  dsimp only
  generalize N.inNum i 8 = a
  generalize N.inText a.2 16 = b
  generalize N.inText b.2 64 = c
  generalize N.headRead c.2 = d
  generalize N.inText d.2 256 = e
  generalize N.inNum e.2 8 = f
  generalize N.inNum f.2 1 = g
  unfold N.mailEnd
  cases h1 : g.2.err == 0 with
  | true =>
    simp only [cond_true]
    generalize N.inFail g.2 _ = z
    cases z.err != 0 <;> rfl
  | false =>
    simp only [cond_false]
    cases g.2.err != 0 <;> rfl
theorem raw_le (x s : Bytes) : N.outRaw ⟨x, 0⟩ s = ⟨x ++ s, 0⟩ := rfl
noncomputable def eMailBytes : Env := env Tryz.prog [(36, dMailCheck), (71, dHeadBytes), (44, dOutNum), (72, dOutText), (46, dOutRaw), (47, dOutString)] [] []
theorem q_mailBytes (m : HMail) : evFn eMailBytes 45 ((aOne (vAgg cMail)).enc m) ([]) some =
 cond (N.mailCheck { id := HMail.id m, shop := HMail.shop m, key := HMail.key m, head := List.map (fun r => { key := V.toStr (List.getD r (0 : Nat) V.undef), kind := V.toInt (List.getD r (1 : Nat) V.undef), num := V.toInt (List.getD r (2 : Nat) V.undef), text := V.toStr (List.getD r (3 : Nat) V.undef) : HPair }) (List.map (fun p => [V.str (HPair.key p), V.int IntKind.u8 (HPair.kind p), V.int IntKind.i64 (HPair.num p), V.str (HPair.text p)]) (HMail.head m)), body := HMail.body m, due := HMail.due m, hops := HMail.hops m : HMail } != (0 : Int)) (some { v := V.tup [V.str [], V.int IntKind.i64 (N.mailCheck { id := HMail.id m, shop := HMail.shop m, key := HMail.key m, head := List.map (fun r => { key := V.toStr (List.getD r (0 : Nat) V.undef), kind := V.toInt (List.getD r (1 : Nat) V.undef), num := V.toInt (List.getD r (2 : Nat) V.undef), text := V.toStr (List.getD r (3 : Nat) V.undef) : HPair }) (List.map (fun p => [V.str (HPair.key p), V.int IntKind.u8 (HPair.kind p), V.int IntKind.i64 (HPair.num p), V.str (HPair.text p)]) (HMail.head m)), body := HMail.body m, due := HMail.due m, hops := HMail.hops m : HMail })], bx := [] : DRes }) (cond (bif ile (0 : Int) (HMail.id m) then bif ilt (HMail.id m) (18446744073709551616 : Int) then true else false else false) (cond (Nat.ble ((8 : Nat) + List.length (HMail.shop m)) (9223372036854775790 : Nat)) (cond (Nat.ble (List.length (OutS.s (N.outText (N.outNum { s := [], err := (0 : Int) : OutS } (HMail.id m) (8 : Int)) (HMail.shop m))) + List.length (HMail.key m)) (9223372036854775790 : Nat)) (cond (Nat.ble (List.length (OutS.s (N.outText (N.outText (N.outNum { s := [], err := (0 : Int) : OutS } (HMail.id m) (8 : Int)) (HMail.shop m)) (HMail.key m))) + List.length (Prod.fst (bif N.headCheck (List.map (fun r => { key := V.toStr (List.getD r (0 : Nat) V.undef), kind := V.toInt (List.getD r (1 : Nat) V.undef), num := V.toInt (List.getD r (2 : Nat) V.undef), text := V.toStr (List.getD r (3 : Nat) V.undef) : HPair }) (List.map (fun p => [V.str (HPair.key p), V.int IntKind.u8 (HPair.kind p), V.int IntKind.i64 (HPair.num p), V.str (HPair.text p)]) (HMail.head m))) != (0 : Int) then ([], N.headCheck (List.map (fun r => { key := V.toStr (List.getD r (0 : Nat) V.undef), kind := V.toInt (List.getD r (1 : Nat) V.undef), num := V.toInt (List.getD r (2 : Nat) V.undef), text := V.toStr (List.getD r (3 : Nat) V.undef) : HPair }) (List.map (fun p => [V.str (HPair.key p), V.int IntKind.u8 (HPair.kind p), V.int IntKind.i64 (HPair.num p), V.str (HPair.text p)]) (HMail.head m)))) else (N.headBytes (List.map (fun r => { key := V.toStr (List.getD r (0 : Nat) V.undef), kind := V.toInt (List.getD r (1 : Nat) V.undef), num := V.toInt (List.getD r (2 : Nat) V.undef), text := V.toStr (List.getD r (3 : Nat) V.undef) : HPair }) (List.map (fun p => [V.str (HPair.key p), V.int IntKind.u8 (HPair.kind p), V.int IntKind.i64 (HPair.num p), V.str (HPair.text p)]) (HMail.head m))), (0 : Int))))) (9223372036854775807 : Nat)) (cond (Nat.ble (List.length (OutS.s (N.outRaw (N.outText (N.outText (N.outNum { s := [], err := (0 : Int) : OutS } (HMail.id m) (8 : Int)) (HMail.shop m)) (HMail.key m)) (Prod.fst (bif N.headCheck (List.map (fun r => { key := V.toStr (List.getD r (0 : Nat) V.undef), kind := V.toInt (List.getD r (1 : Nat) V.undef), num := V.toInt (List.getD r (2 : Nat) V.undef), text := V.toStr (List.getD r (3 : Nat) V.undef) : HPair }) (List.map (fun p => [V.str (HPair.key p), V.int IntKind.u8 (HPair.kind p), V.int IntKind.i64 (HPair.num p), V.str (HPair.text p)]) (HMail.head m))) != (0 : Int) then ([], N.headCheck (List.map (fun r => { key := V.toStr (List.getD r (0 : Nat) V.undef), kind := V.toInt (List.getD r (1 : Nat) V.undef), num := V.toInt (List.getD r (2 : Nat) V.undef), text := V.toStr (List.getD r (3 : Nat) V.undef) : HPair }) (List.map (fun p => [V.str (HPair.key p), V.int IntKind.u8 (HPair.kind p), V.int IntKind.i64 (HPair.num p), V.str (HPair.text p)]) (HMail.head m)))) else (N.headBytes (List.map (fun r => { key := V.toStr (List.getD r (0 : Nat) V.undef), kind := V.toInt (List.getD r (1 : Nat) V.undef), num := V.toInt (List.getD r (2 : Nat) V.undef), text := V.toStr (List.getD r (3 : Nat) V.undef) : HPair }) (List.map (fun p => [V.str (HPair.key p), V.int IntKind.u8 (HPair.kind p), V.int IntKind.i64 (HPair.num p), V.str (HPair.text p)]) (HMail.head m))), (0 : Int)))))) + List.length (HMail.body m)) (9223372036854775790 : Nat)) (cond (bif ile (0 : Int) (HMail.due m) then bif ilt (HMail.due m) (18446744073709551616 : Int) then Nat.ble (List.length (OutS.s (N.outText (N.outRaw (N.outText (N.outText (N.outNum { s := [], err := (0 : Int) : OutS } (HMail.id m) (8 : Int)) (HMail.shop m)) (HMail.key m)) (Prod.fst (bif N.headCheck (List.map (fun r => { key := V.toStr (List.getD r (0 : Nat) V.undef), kind := V.toInt (List.getD r (1 : Nat) V.undef), num := V.toInt (List.getD r (2 : Nat) V.undef), text := V.toStr (List.getD r (3 : Nat) V.undef) : HPair }) (List.map (fun p => [V.str (HPair.key p), V.int IntKind.u8 (HPair.kind p), V.int IntKind.i64 (HPair.num p), V.str (HPair.text p)]) (HMail.head m))) != (0 : Int) then ([], N.headCheck (List.map (fun r => { key := V.toStr (List.getD r (0 : Nat) V.undef), kind := V.toInt (List.getD r (1 : Nat) V.undef), num := V.toInt (List.getD r (2 : Nat) V.undef), text := V.toStr (List.getD r (3 : Nat) V.undef) : HPair }) (List.map (fun p => [V.str (HPair.key p), V.int IntKind.u8 (HPair.kind p), V.int IntKind.i64 (HPair.num p), V.str (HPair.text p)]) (HMail.head m)))) else (N.headBytes (List.map (fun r => { key := V.toStr (List.getD r (0 : Nat) V.undef), kind := V.toInt (List.getD r (1 : Nat) V.undef), num := V.toInt (List.getD r (2 : Nat) V.undef), text := V.toStr (List.getD r (3 : Nat) V.undef) : HPair }) (List.map (fun p => [V.str (HPair.key p), V.int IntKind.u8 (HPair.kind p), V.int IntKind.i64 (HPair.num p), V.str (HPair.text p)]) (HMail.head m))), (0 : Int))))) (HMail.body m)))) (9223372036854775799 : Nat) else false else false) (cond (bif ile (0 : Int) (IntKind.wrap IntKind.u64 (HMail.hops m)) then bif ilt (IntKind.wrap IntKind.u64 (HMail.hops m)) (18446744073709551616 : Int) then Nat.ble (List.length (OutS.s (N.outNum (N.outText (N.outRaw (N.outText (N.outText (N.outNum { s := [], err := (0 : Int) : OutS } (HMail.id m) (8 : Int)) (HMail.shop m)) (HMail.key m)) (Prod.fst (bif N.headCheck (List.map (fun r => { key := V.toStr (List.getD r (0 : Nat) V.undef), kind := V.toInt (List.getD r (1 : Nat) V.undef), num := V.toInt (List.getD r (2 : Nat) V.undef), text := V.toStr (List.getD r (3 : Nat) V.undef) : HPair }) (List.map (fun p => [V.str (HPair.key p), V.int IntKind.u8 (HPair.kind p), V.int IntKind.i64 (HPair.num p), V.str (HPair.text p)]) (HMail.head m))) != (0 : Int) then ([], N.headCheck (List.map (fun r => { key := V.toStr (List.getD r (0 : Nat) V.undef), kind := V.toInt (List.getD r (1 : Nat) V.undef), num := V.toInt (List.getD r (2 : Nat) V.undef), text := V.toStr (List.getD r (3 : Nat) V.undef) : HPair }) (List.map (fun p => [V.str (HPair.key p), V.int IntKind.u8 (HPair.kind p), V.int IntKind.i64 (HPair.num p), V.str (HPair.text p)]) (HMail.head m)))) else (N.headBytes (List.map (fun r => { key := V.toStr (List.getD r (0 : Nat) V.undef), kind := V.toInt (List.getD r (1 : Nat) V.undef), num := V.toInt (List.getD r (2 : Nat) V.undef), text := V.toStr (List.getD r (3 : Nat) V.undef) : HPair }) (List.map (fun p => [V.str (HPair.key p), V.int IntKind.u8 (HPair.kind p), V.int IntKind.i64 (HPair.num p), V.str (HPair.text p)]) (HMail.head m))), (0 : Int))))) (HMail.body m)) (HMail.due m) (8 : Int)))) (9223372036854775799 : Nat) else false else false) (some { v := V.tup [V.str (OutS.s (N.outNum (N.outNum (N.outText (N.outRaw (N.outText (N.outText (N.outNum { s := [], err := (0 : Int) : OutS } (HMail.id m) (8 : Int)) (HMail.shop m)) (HMail.key m)) (Prod.fst (bif N.headCheck (List.map (fun r => { key := V.toStr (List.getD r (0 : Nat) V.undef), kind := V.toInt (List.getD r (1 : Nat) V.undef), num := V.toInt (List.getD r (2 : Nat) V.undef), text := V.toStr (List.getD r (3 : Nat) V.undef) : HPair }) (List.map (fun p => [V.str (HPair.key p), V.int IntKind.u8 (HPair.kind p), V.int IntKind.i64 (HPair.num p), V.str (HPair.text p)]) (HMail.head m))) != (0 : Int) then ([], N.headCheck (List.map (fun r => { key := V.toStr (List.getD r (0 : Nat) V.undef), kind := V.toInt (List.getD r (1 : Nat) V.undef), num := V.toInt (List.getD r (2 : Nat) V.undef), text := V.toStr (List.getD r (3 : Nat) V.undef) : HPair }) (List.map (fun p => [V.str (HPair.key p), V.int IntKind.u8 (HPair.kind p), V.int IntKind.i64 (HPair.num p), V.str (HPair.text p)]) (HMail.head m)))) else (N.headBytes (List.map (fun r => { key := V.toStr (List.getD r (0 : Nat) V.undef), kind := V.toInt (List.getD r (1 : Nat) V.undef), num := V.toInt (List.getD r (2 : Nat) V.undef), text := V.toStr (List.getD r (3 : Nat) V.undef) : HPair }) (List.map (fun p => [V.str (HPair.key p), V.int IntKind.u8 (HPair.kind p), V.int IntKind.i64 (HPair.num p), V.str (HPair.text p)]) (HMail.head m))), (0 : Int))))) (HMail.body m)) (HMail.due m) (8 : Int)) (IntKind.wrap IntKind.u64 (HMail.hops m)) (1 : Int))), V.int IntKind.i64 (0 : Int)], bx := [] : DRes }) (none)) (none)) (none)) (none)) (none)) (none)) (none)) := by kernel_rfl
theorem mailCheck_fit {m : HMail} (h : N.mailCheck m = 0) : m.shop.length ≤ 16 ∧ m.key.length ≤ 64 ∧ N.headCheck m.head = 0 ∧ m.body.length ≤ 256 ∧ m.hops ≤ 4 ∧ N.name m.shop = 0 ∧ N.key m.key [] = 0 := by
  unfold N.mailCheck at h
  have key : ∀ x y : Int, cond (x != 0) x y = 0 → x = 0 ∧ y = 0 := fun x y h => by
    cases e : x != 0 with
    | true => rw [e, cond_true] at h; rw [h] at e; cases e
    | false => rw [e, cond_false] at h; exact ⟨by simpa using e, h⟩
  obtain ⟨h1, h⟩ := key _ _ h
  obtain ⟨h2, h⟩ := key _ _ h
  obtain ⟨h3, h⟩ := key _ _ h
  cases h4 : ilt 256 (m.body.length : Int) with
  | true => rw [h4] at h; cases h
  | false =>
    rw [h4] at h
    cases h5 : ilt 4 m.hops with
    | true => rw [h5] at h; cases h
    | false =>
      have a4 := ilt_nof h4
      have a5 := ilt_nof h5
      have a1 : m.shop.length ≤ 16 := by
        unfold N.name at h1
        cases e1 : m.shop == [] with
        | true => rw [e1] at h1; cases h1
        | false =>
          rw [e1] at h1
          cases e2 : ilt 16 m.shop.length with
          | true => rw [e2] at h1; cases h1
          | false => have := ilt_nof e2; omega
      have a2 : m.key.length ≤ 64 := by
        rw [key_eq] at h2
        exact refKey_len (b := false) (by rw [h2]; rfl)
      exact ⟨a1, a2, h3, by omega, a5, h1, h2⟩
theorem pairsB_len : ∀ {l : List HPair}, l.all N.fitP = true → (N.pairsB l).length ≤ 150 * l.length
  | [], _ => Nat.le_refl _
  | p :: r, h => by
    rw [List.all_cons, Bool.and_eq_true] at h
    have ih := pairsB_len h.2
    obtain ⟨f1, f2⟩ := bcond h.1
    have f1 := ble_of f1
    have f2 := ble_of f2
    have hlen : (N.pairB p).length ≤ 150 := by
      unfold N.pairB
      simp only [List.length_append, textB_len, numB_len]
      cases p.kind == 0 <;> cases p.kind == 1 <;> cases p.kind == 2 <;> simp only [cond_true, cond_false, numB_len, textB_len, List.length_nil] <;> omega
    show (N.pairB p ++ N.pairsB r).length ≤ _
    rw [List.length_append, List.length_cons]; omega
theorem headB_len {h : List HPair} (hz : N.headCheck h = 0) : (N.headBytes h).length ≤ 1201 := by
  obtain ⟨c1, c2⟩ := check_fit hz
  have := pairsB_len c2
  unfold N.headBytes
  rw [List.length_append, numB_len]; omega
theorem ok_mailBytes (hN : FnOk Tryz.prog 44 dOutNum) : FnOk Tryz.prog 45 dMailBytes := by
  refine den_okF (env_ok (((((((TOk.nil _).cons ok_outString).cons ok_outRaw).cons (ok_outText hN)).cons hN).cons (ok_headBytes hN)).cons ok_mailCheck)) (E := eMailBytes) Tryz.func45 [] (by kernel_rfl) none0 fun m _ h => ?_
  obtain ⟨id, shop, key, head, body, due, hops⟩ := m
  obtain ⟨b1, h⟩ := bcond h
  obtain ⟨b2, h⟩ := bcond h
  obtain ⟨i1, i2⟩ := bcond b1
  obtain ⟨i3, i4⟩ := bcond b2
  obtain ⟨i5, i6⟩ := bcond h
  simp only at i1 i2 i3 i4 i5 i6
  refine (q_mailBytes ⟨id, shop, key, head, body, due, hops⟩).trans ?_
  simp only [nrm_rows]
  show _ = some (⟨.tup [.str (cond (N.mailCheck ⟨id, shop, key, head, body, due, hops⟩ != 0) (([] : Bytes), N.mailCheck ⟨id, shop, key, head, body, due, hops⟩) (N.mailB ⟨id, shop, key, head, body, due, hops⟩, 0)).1,
    .int .i64 (cond (N.mailCheck ⟨id, shop, key, head, body, due, hops⟩ != 0) (([] : Bytes), N.mailCheck ⟨id, shop, key, head, body, due, hops⟩) (N.mailB ⟨id, shop, key, head, body, due, hops⟩, 0)).2], [], []⟩ : DRes)
  cases hc : N.mailCheck ⟨id, shop, key, head, body, due, hops⟩ != 0 with
  | true => rfl
  | false =>
    have hz : N.mailCheck ⟨id, shop, key, head, body, due, hops⟩ = 0 := by simpa using hc
    obtain ⟨c1, c2, c3, c4, c5, _⟩ := mailCheck_fit hz
    simp only at c1 c2 c3 c4 c5
    have hl := headB_len c3
    have wh : IntKind.wrap .u64 hops = hops := wrap_u64 (by have := ile_of i5; omega) (by omega)
    have i5' := ile_of i5
    have hb : cond (N.headCheck head != 0) (([] : Bytes), N.headCheck head) (N.headBytes head, 0) = (N.headBytes head, 0) := by rw [c3]; rfl
    have o1 : ∀ (x s : Bytes), s.length ≤ 65535 → N.outText ⟨x, 0⟩ s = ⟨x ++ N.textB s, 0⟩ := fun x s hs => outText_le hs
    unfold N.mailB
    simp only
    simp (disch := omega) only [evs, raw_le, i1, i2, i3, i4, o1, outNum_8, outNum_1, numB_len, textB_len, wh, List.nil_append]
noncomputable def eMailSize : Env := env Tryz.prog [(45, dMailBytes)] [] []
theorem q_mailSize (m : HMail) : evFn eMailSize 58 ((aOne (vAgg cMail)).enc m) ([]) some =
 cond (N.okM { id := HMail.id m, shop := HMail.shop m, key := HMail.key m, head := List.map (fun r => { key := V.toStr (List.getD r (0 : Nat) V.undef), kind := V.toInt (List.getD r (1 : Nat) V.undef), num := V.toInt (List.getD r (2 : Nat) V.undef), text := V.toStr (List.getD r (3 : Nat) V.undef) : HPair }) (List.map (fun p => [V.str (HPair.key p), V.int IntKind.u8 (HPair.kind p), V.int IntKind.i64 (HPair.num p), V.str (HPair.text p)]) (HMail.head m)), body := HMail.body m, due := HMail.due m, hops := HMail.hops m : HMail }) (some { v := V.int IntKind.i64 (↑(List.length (Prod.fst (bif N.mailCheck { id := HMail.id m, shop := HMail.shop m, key := HMail.key m, head := List.map (fun r => { key := V.toStr (List.getD r (0 : Nat) V.undef), kind := V.toInt (List.getD r (1 : Nat) V.undef), num := V.toInt (List.getD r (2 : Nat) V.undef), text := V.toStr (List.getD r (3 : Nat) V.undef) : HPair }) (List.map (fun p => [V.str (HPair.key p), V.int IntKind.u8 (HPair.kind p), V.int IntKind.i64 (HPair.num p), V.str (HPair.text p)]) (HMail.head m)), body := HMail.body m, due := HMail.due m, hops := HMail.hops m : HMail } != (0 : Int) then ([], N.mailCheck { id := HMail.id m, shop := HMail.shop m, key := HMail.key m, head := List.map (fun r => { key := V.toStr (List.getD r (0 : Nat) V.undef), kind := V.toInt (List.getD r (1 : Nat) V.undef), num := V.toInt (List.getD r (2 : Nat) V.undef), text := V.toStr (List.getD r (3 : Nat) V.undef) : HPair }) (List.map (fun p => [V.str (HPair.key p), V.int IntKind.u8 (HPair.kind p), V.int IntKind.i64 (HPair.num p), V.str (HPair.text p)]) (HMail.head m)), body := HMail.body m, due := HMail.due m, hops := HMail.hops m : HMail }) else (N.mailB { id := HMail.id m, shop := HMail.shop m, key := HMail.key m, head := List.map (fun r => { key := V.toStr (List.getD r (0 : Nat) V.undef), kind := V.toInt (List.getD r (1 : Nat) V.undef), num := V.toInt (List.getD r (2 : Nat) V.undef), text := V.toStr (List.getD r (3 : Nat) V.undef) : HPair }) (List.map (fun p => [V.str (HPair.key p), V.int IntKind.u8 (HPair.kind p), V.int IntKind.i64 (HPair.num p), V.str (HPair.text p)]) (HMail.head m)), body := HMail.body m, due := HMail.due m, hops := HMail.hops m : HMail }, (0 : Int))))) : Int), bx := [] : DRes }) (none) := by kernel_rfl
def N.fitM (m : HMail) : Bool := cond (N.okM m) (cond (Nat.ble m.shop.length 64) (cond (Nat.ble m.key.length 64) (cond (cond (Nat.ble m.head.length 8) (m.head.all N.fitP) false) (Nat.ble m.body.length 256) false) false) false) false
def N.refMailB (m : HMail) : Bytes := N.numB m.id 8 ++ N.textB m.shop ++ N.textB m.key ++ N.refHeadBytes m.head ++ N.textB m.body ++ N.numB m.due 8 ++ N.numB (IntKind.wrap .u64 m.hops) 1
def dRefMailB : Den := den (aOne (vAgg cMail)) bNil (oV vStr) (fun m _ => N.fitM m) fun m _ => (N.refMailB m, ())
noncomputable def eRefMailB : Env := env Tryz.prog [(48, dRefNum 8), (73, dRefText), (74, dRefBytes)] [] []
theorem q_refMailB (m : HMail) : evFn eRefMailB 49 ((aOne (vAgg cMail)).enc m) ([]) some =
 cond (bif ile (0 : Int) (HMail.id m) then bif ilt (HMail.id m) (18446744073709551616 : Int) then N.fuelOk (8 : Nat) (8 : Int) else false else false) (cond (Nat.ble (List.length (HMail.shop m)) (65535 : Nat)) (cond (Nat.ble ((8 : Nat) + List.length (N.textB (HMail.shop m))) (9223372036854775807 : Nat)) (cond (Nat.ble (List.length (HMail.key m)) (65535 : Nat)) (cond (Nat.ble (List.length (N.numB (HMail.id m) (N.clamp (8 : Int)) ++ N.textB (HMail.shop m)) + List.length (N.textB (HMail.key m))) (9223372036854775807 : Nat)) (cond (bif Nat.ble (List.length (List.map (fun r => { key := V.toStr (List.getD r (0 : Nat) V.undef), kind := V.toInt (List.getD r (1 : Nat) V.undef), num := V.toInt (List.getD r (2 : Nat) V.undef), text := V.toStr (List.getD r (3 : Nat) V.undef) : HPair }) (List.map (fun p => [V.str (HPair.key p), V.int IntKind.u8 (HPair.kind p), V.int IntKind.i64 (HPair.num p), V.str (HPair.text p)]) (HMail.head m)))) (8 : Nat) then List.all (List.map (fun r => { key := V.toStr (List.getD r (0 : Nat) V.undef), kind := V.toInt (List.getD r (1 : Nat) V.undef), num := V.toInt (List.getD r (2 : Nat) V.undef), text := V.toStr (List.getD r (3 : Nat) V.undef) : HPair }) (List.map (fun p => [V.str (HPair.key p), V.int IntKind.u8 (HPair.kind p), V.int IntKind.i64 (HPair.num p), V.str (HPair.text p)]) (HMail.head m))) N.fitP else false) (cond (Nat.ble (List.length (N.numB (HMail.id m) (N.clamp (8 : Int)) ++ N.textB (HMail.shop m) ++ N.textB (HMail.key m)) + List.length (N.refHeadBytes (List.map (fun r => { key := V.toStr (List.getD r (0 : Nat) V.undef), kind := V.toInt (List.getD r (1 : Nat) V.undef), num := V.toInt (List.getD r (2 : Nat) V.undef), text := V.toStr (List.getD r (3 : Nat) V.undef) : HPair }) (List.map (fun p => [V.str (HPair.key p), V.int IntKind.u8 (HPair.kind p), V.int IntKind.i64 (HPair.num p), V.str (HPair.text p)]) (HMail.head m))))) (9223372036854775807 : Nat)) (cond (Nat.ble (List.length (HMail.body m)) (65535 : Nat)) (cond (Nat.ble (List.length (N.numB (HMail.id m) (N.clamp (8 : Int)) ++ N.textB (HMail.shop m) ++ N.textB (HMail.key m) ++ N.refHeadBytes (List.map (fun r => { key := V.toStr (List.getD r (0 : Nat) V.undef), kind := V.toInt (List.getD r (1 : Nat) V.undef), num := V.toInt (List.getD r (2 : Nat) V.undef), text := V.toStr (List.getD r (3 : Nat) V.undef) : HPair }) (List.map (fun p => [V.str (HPair.key p), V.int IntKind.u8 (HPair.kind p), V.int IntKind.i64 (HPair.num p), V.str (HPair.text p)]) (HMail.head m)))) + List.length (N.textB (HMail.body m))) (9223372036854775807 : Nat)) (cond (bif ile (0 : Int) (HMail.due m) then bif ilt (HMail.due m) (18446744073709551616 : Int) then N.fuelOk (8 : Nat) (8 : Int) else false else false) (cond (Nat.ble (List.length (N.numB (HMail.id m) (N.clamp (8 : Int)) ++ N.textB (HMail.shop m) ++ N.textB (HMail.key m) ++ N.refHeadBytes (List.map (fun r => { key := V.toStr (List.getD r (0 : Nat) V.undef), kind := V.toInt (List.getD r (1 : Nat) V.undef), num := V.toInt (List.getD r (2 : Nat) V.undef), text := V.toStr (List.getD r (3 : Nat) V.undef) : HPair }) (List.map (fun p => [V.str (HPair.key p), V.int IntKind.u8 (HPair.kind p), V.int IntKind.i64 (HPair.num p), V.str (HPair.text p)]) (HMail.head m))) ++ N.textB (HMail.body m)) + (8 : Nat)) (9223372036854775807 : Nat)) (cond (bif ile (0 : Int) (IntKind.wrap IntKind.u64 (HMail.hops m)) then bif ilt (IntKind.wrap IntKind.u64 (HMail.hops m)) (18446744073709551616 : Int) then N.fuelOk (8 : Nat) (1 : Int) else false else false) (cond (Nat.ble (List.length (N.numB (HMail.id m) (N.clamp (8 : Int)) ++ N.textB (HMail.shop m) ++ N.textB (HMail.key m) ++ N.refHeadBytes (List.map (fun r => { key := V.toStr (List.getD r (0 : Nat) V.undef), kind := V.toInt (List.getD r (1 : Nat) V.undef), num := V.toInt (List.getD r (2 : Nat) V.undef), text := V.toStr (List.getD r (3 : Nat) V.undef) : HPair }) (List.map (fun p => [V.str (HPair.key p), V.int IntKind.u8 (HPair.kind p), V.int IntKind.i64 (HPair.num p), V.str (HPair.text p)]) (HMail.head m))) ++ N.textB (HMail.body m) ++ N.numB (HMail.due m) (N.clamp (8 : Int))) + (1 : Nat)) (9223372036854775807 : Nat)) (some { v := V.str (N.numB (HMail.id m) (N.clamp (8 : Int)) ++ N.textB (HMail.shop m) ++ N.textB (HMail.key m) ++ N.refHeadBytes (List.map (fun r => { key := V.toStr (List.getD r (0 : Nat) V.undef), kind := V.toInt (List.getD r (1 : Nat) V.undef), num := V.toInt (List.getD r (2 : Nat) V.undef), text := V.toStr (List.getD r (3 : Nat) V.undef) : HPair }) (List.map (fun p => [V.str (HPair.key p), V.int IntKind.u8 (HPair.kind p), V.int IntKind.i64 (HPair.num p), V.str (HPair.text p)]) (HMail.head m))) ++ N.textB (HMail.body m) ++ N.numB (HMail.due m) (N.clamp (8 : Int)) ++ N.numB (IntKind.wrap IntKind.u64 (HMail.hops m)) (N.clamp (1 : Int))), bx := [] : DRes }) (none)) (none)) (none)) (none)) (none)) (none)) (none)) (none)) (none)) (none)) (none)) (none)) (none) := by kernel_rfl
theorem ok_mailSize (hN : FnOk Tryz.prog 44 dOutNum) : FnOk Tryz.prog 58 dMailSize := by
  refine den_okF (env_ok ((TOk.nil _).cons (ok_mailBytes hN))) (E := eMailSize) Tryz.func58 [] (by kernel_rfl) none0 fun m _ h => ?_
  have h : N.okM m = true := h
  obtain ⟨id, shop, key, head, body, due, hops⟩ := m
  refine (q_mailSize ⟨id, shop, key, head, body, due, hops⟩).trans ?_
  simp only [nrm_rows]
  show _ = some (⟨.int .i64 (N.mailSize ⟨id, shop, key, head, body, due, hops⟩), [], []⟩ : DRes)
  unfold N.mailSize
  simp (disch := omega) only [evs, h]
  cases N.mailCheck ⟨id, shop, key, head, body, due, hops⟩ != 0 <;> rfl
theorem okM_of {m : HMail} (h : N.okM m = true) : (0 ≤ m.id ∧ m.id < 18446744073709551616) ∧ (0 ≤ m.due ∧ m.due < 18446744073709551616) ∧ (0 ≤ m.hops ∧ m.hops < 256) := by
  obtain ⟨b1, h⟩ := bcond h
  obtain ⟨b2, h⟩ := bcond h
  obtain ⟨i1, i2⟩ := bcond b1
  obtain ⟨i3, i4⟩ := bcond b2
  obtain ⟨i5, i6⟩ := bcond h
  exact ⟨⟨ile_of i1, ilt_of i2⟩, ⟨ile_of i3, ilt_of i4⟩, ⟨ile_of i5, ilt_of i6⟩⟩
theorem refPairsB_len : ∀ {l : List HPair}, l.all N.fitP = true → (N.refPairsB l).length ≤ 150 * l.length
  | [], _ => Nat.le_refl _
  | p :: r, h => by
    rw [List.all_cons, Bool.and_eq_true] at h
    have ih := refPairsB_len h.2
    obtain ⟨f1, f2⟩ := bcond h.1
    have f1 := ble_of f1
    have f2 := ble_of f2
    have hlen : (N.refPairB p).length ≤ 150 := by
      unfold N.refPairB
      cases p.kind == 0 <;> cases p.kind == 1 <;> simp only [cond_true, cond_false, List.length_append, numB_len, textB_len] <;> omega
    show (N.refPairB p ++ N.refPairsB r).length ≤ _
    rw [List.length_append, List.length_cons]; omega
theorem ok_refMailB : FnOk Tryz.prog 49 dRefMailB := by
  refine den_okF (env_ok ((((TOk.nil _).cons (ok_refBytes (ok_refNum 8))).cons (ok_refText (ok_refNum 8))).cons (ok_refNum 8))) (E := eRefMailB) Tryz.func49 [] (by kernel_rfl) none0 fun m _ h => ?_
  obtain ⟨id, shop, key, head, body, due, hops⟩ := m
  obtain ⟨h0, h⟩ := bcond h
  obtain ⟨h1, h⟩ := bcond h
  obtain ⟨h2, h⟩ := bcond h
  obtain ⟨h3, h4⟩ := bcond h
  have ho := okM_of h0
  simp only at ho
  obtain ⟨⟨a1, a2⟩, ⟨a3, a4⟩, ⟨a5, a6⟩⟩ := ho
  have h1 : shop.length ≤ 64 := ble_of h1
  have h2 : key.length ≤ 64 := ble_of h2
  have h4 : body.length ≤ 256 := ble_of h4
  obtain ⟨h5, h6⟩ := bcond h3
  have h5 : head.length ≤ 8 := ble_of h5
  have h6 : head.all N.fitP = true := h6
  have hl := refPairsB_len h6
  refine (q_refMailB ⟨id, shop, key, head, body, due, hops⟩).trans ?_
  simp only [nrm_rows]
  show _ = some (⟨.str (N.refMailB ⟨id, shop, key, head, body, due, hops⟩), [], []⟩ : DRes)
  have wh : IntKind.wrap .u64 hops = hops := wrap_u64 (by omega) (by omega)
  have hlen : (N.refHeadBytes head).length ≤ 1201 := by unfold N.refHeadBytes; rw [List.length_append, numB_len]; omega
  unfold N.refMailB
  simp only
  simp (disch := omega) only [evs, show N.fuelOk 8 8 = true from rfl, show N.fuelOk 8 1 = true from rfl, show N.clamp 8 = 8 from rfl, show N.clamp 1 = 1 from rfl, h6, wh, numB_len, textB_len]
noncomputable def eRefMailSize : Env := env Tryz.prog [(39, dMailCheck), (49, dRefMailB)] [] []
theorem q_refMailSize (m : HMail) : evFn eRefMailSize 59 ((aOne (vAgg cMail)).enc m) ([]) some =
 cond (N.mailCheck { id := HMail.id m, shop := HMail.shop m, key := HMail.key m, head := List.map (fun r => { key := V.toStr (List.getD r (0 : Nat) V.undef), kind := V.toInt (List.getD r (1 : Nat) V.undef), num := V.toInt (List.getD r (2 : Nat) V.undef), text := V.toStr (List.getD r (3 : Nat) V.undef) : HPair }) (List.map (fun p => [V.str (HPair.key p), V.int IntKind.u8 (HPair.kind p), V.int IntKind.i64 (HPair.num p), V.str (HPair.text p)]) (HMail.head m)), body := HMail.body m, due := HMail.due m, hops := HMail.hops m : HMail } != (0 : Int)) (some { v := V.int IntKind.i64 (0 : Int), bx := [] : DRes }) (cond (N.fitM { id := HMail.id m, shop := HMail.shop m, key := HMail.key m, head := List.map (fun r => { key := V.toStr (List.getD r (0 : Nat) V.undef), kind := V.toInt (List.getD r (1 : Nat) V.undef), num := V.toInt (List.getD r (2 : Nat) V.undef), text := V.toStr (List.getD r (3 : Nat) V.undef) : HPair }) (List.map (fun p => [V.str (HPair.key p), V.int IntKind.u8 (HPair.kind p), V.int IntKind.i64 (HPair.num p), V.str (HPair.text p)]) (HMail.head m)), body := HMail.body m, due := HMail.due m, hops := HMail.hops m : HMail }) (some { v := V.int IntKind.i64 (↑(List.length (N.refMailB { id := HMail.id m, shop := HMail.shop m, key := HMail.key m, head := List.map (fun r => { key := V.toStr (List.getD r (0 : Nat) V.undef), kind := V.toInt (List.getD r (1 : Nat) V.undef), num := V.toInt (List.getD r (2 : Nat) V.undef), text := V.toStr (List.getD r (3 : Nat) V.undef) : HPair }) (List.map (fun p => [V.str (HPair.key p), V.int IntKind.u8 (HPair.kind p), V.int IntKind.i64 (HPair.num p), V.str (HPair.text p)]) (HMail.head m)), body := HMail.body m, due := HMail.due m, hops := HMail.hops m : HMail })) : Int), bx := [] : DRes }) (none)) := by kernel_rfl
end Go.Ev
