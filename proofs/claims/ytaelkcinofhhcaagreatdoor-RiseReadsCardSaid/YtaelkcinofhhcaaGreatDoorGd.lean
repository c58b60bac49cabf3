/- The program's forms of words answer what the plain ones do: lemmas, no condition. -/
import Derived.Test.YtaelkcinofhhcaaGreatDoorGc
import Derived.Test.YtaelkcinofhhcaaGreatDoorProg
import Derived.KernelRfl
namespace Go.Ev
open Go Go.Proofs
set_option maxRecDepth 100000

def schKeyB4 : SSch := { fr := [(1, .slc [.str]), (13, .slc [.str]), (14, .int .i64), (15, .int .i64)], tab := [] }
def gKeyB4 : List Leaf → (Ex → St → Option R) → Option R
  | [.r r1, .r r13, .i i14, .i i15], K => cond (i14 == r13.length) (cond (ile 0 i15) (cond (Nat.ble r13.length (LIM + 1)) (cond (Nat.ble r1.length (LIM + 1)) (cond (r13.all fun r => Nat.ble (rowS r).length LIM)
      (cond (N.keyL (rowsS r1) ((rowsS r13).drop i15.toNat) == 0) (K (.exit 0) { fr := [], tab := [] }) (K .ret { fr := [(4, .int .i64 4)], tab := [] })) none) none) none) none) none
  | _, _ => none
def schKeyB7 : SSch := { fr := [(1, .slc [.str]), (6, .str), (13, .slc [.str]), (14, .int .i64), (15, .int .i64), (19, .slc [.str]), (20, .int .i64), (21, .int .i64)], tab := [] }
def gKeyB7 : List Leaf → (Ex → St → Option R) → Option R
  | [.r r1, .s s6, .r r13, .i i14, .i i15, .r r19, .i i20, .i i21], K => cond (i20 == r19.length) (cond (ile 0 i21) (cond (Nat.ble r19.length (LIM + 1))
      (cond (((rowsS r19).drop i21.toNat).any (s6 == ·)) (K (.exit 1) { fr := [(1, .slc [.str] r1), (13, .slc [.str] r13), (14, .int .i64 i14), (15, .int .i64 i15)], tab := [] })
        (K (.exit 2) { fr := [(1, .slc [.str] r1), (6, .str s6), (13, .slc [.str] r13), (14, .int .i64 i14), (15, .int .i64 i15)], tab := [] })) none) none) none
  | _, _ => none
noncomputable def eKeyB : Env := env Tryz.prog [(87, dWords), (79, dPlain)] [(7, loopF schKeyB7 gKeyB7), (4, loopF schKeyB4 gKeyB4)] [(4, [(0, [1, 13, 14, 15]), (1, []), (1000, [4])]), (7, [(0, [1, 6, 13, 14, 15, 19, 20, 21]), (2, [1, 13, 14, 15]), (3, [1, 6, 13, 14, 15]), (1000, [4])])]
theorem q_keyB (s : Bytes) (l : List Bytes) : evFn eKeyB 80 ((aCons vStr (aOne (vSl rStr))).enc (s, l)) ([]) some =
 cond (ilt (64 : Int) (↑(List.length s) : Int)) (some { v := V.int IntKind.i64 (5 : Int), bx := [] }) (cond (Nat.ble (List.length s) (1000000 : Nat)) (cond ((↑(List.length (List.map (fun n => [V.str n]) (N.words s))) : Int) == (↑(List.length (List.map (fun n => [V.str n]) (N.words s))) : Int)) (cond (Nat.ble (List.length (List.map (fun n => [V.str n]) (N.words s))) (1000001 : Nat)) (cond (Nat.ble (List.length (List.map (fun n => [V.str n]) l)) (1000001 : Nat)) (cond (List.all (List.map (fun n => [V.str n]) (N.words s)) fun r => Nat.ble (List.length (V.toStr (List.getD r (0 : Nat) V.undef))) (1000000 : Nat)) (cond (N.keyL (List.map (fun r => V.toStr (List.getD r (0 : Nat) V.undef)) (List.map (fun n => [V.str n]) l)) (List.drop (0 : Nat) (List.map (fun r => V.toStr (List.getD r (0 : Nat) V.undef)) (List.map (fun n => [V.str n]) (N.words s)))) == (0 : Int)) (some { v := V.int IntKind.i64 (0 : Int), bx := [] }) (some { v := V.int IntKind.i64 (4 : Int), bx := [] })) (none)) (none)) (none)) (none)) (none)) := by kernel_rfl
theorem q_keyBR4 (r1 : List (List V)) (r13 : List (List V)) (i14 : Int) (i15 : Int) (K : Ex → St → Option R) : evRound eKeyB 80 4 { fr := [(1, .slc [.str] r1), (13, .slc [.str] r13), (14, .int .i64 i14), (15, .int .i64 i15)], tab := [] } K =
 cond (ilt i15 i14) (cond (decide ((0 : Int) ≤ i15 ∧ i15 < (↑(List.length r13) : Int))) (cond ((↑(List.length r1) : Int) == (↑(List.length r1) : Int)) (cond (Nat.ble (List.length r1) (1000001 : Nat)) (cond (List.any (List.drop (0 : Nat) (List.map (fun r => V.toStr (List.getD r (0 : Nat) V.undef)) r1)) fun x => V.toStr (List.getD (List.getD r13 (Int.toNat i15) []) (0 : Nat) V.undef) == x) (K Ex.normal { fr := [((1 : Nat), V.slc [Sh.str] r1), ((13 : Nat), V.slc [Sh.str] r13), ((14 : Nat), V.int IntKind.i64 i14), ((15 : Nat), V.int IntKind.i64 (IntKind.wrap IntKind.i64 (i15 + (1 : Int))))], tab := [] }) (cond (V.toStr (List.getD (List.getD r13 (Int.toNat i15) []) (0 : Nat) V.undef) == []) (K Ex.ret { fr := [((4 : Nat), V.int IntKind.i64 (4 : Int))], tab := [] }) (cond (Nat.ble (List.length (V.toStr (List.getD (List.getD r13 (Int.toNat i15) []) (0 : Nat) V.undef))) (1000000 : Nat)) (cond (!N.plain (V.toStr (List.getD (List.getD r13 (Int.toNat i15) []) (0 : Nat) V.undef))) (K Ex.ret { fr := [((4 : Nat), V.int IntKind.i64 (4 : Int))], tab := [] }) (K Ex.normal { fr := [((1 : Nat), V.slc [Sh.str] r1), ((13 : Nat), V.slc [Sh.str] r13), ((14 : Nat), V.int IntKind.i64 i14), ((15 : Nat), V.int IntKind.i64 (IntKind.wrap IntKind.i64 (i15 + (1 : Int))))], tab := [] })) (none)))) (none)) (none)) (none)) (K (Ex.exit (0 : Nat)) { fr := [], tab := [] }) := by kernel_rfl
theorem q_keyBR7 (r1 : List (List V)) (s6 : Bytes) (r13 : List (List V)) (i14 : Int) (i15 : Int) (r19 : List (List V)) (i20 : Int) (i21 : Int) (K : Ex → St → Option R) : evRound eKeyB 80 7 { fr := [(1, .slc [.str] r1), (6, .str s6), (13, .slc [.str] r13), (14, .int .i64 i14), (15, .int .i64 i15), (19, .slc [.str] r19), (20, .int .i64 i20), (21, .int .i64 i21)], tab := [] } K =
 cond (ilt i21 i20) (cond (decide ((0 : Int) ≤ i21 ∧ i21 < (↑(List.length r19) : Int))) (cond (s6 == V.toStr (List.getD (List.getD r19 (Int.toNat i21) []) (0 : Nat) V.undef)) (K (Ex.exit (1 : Nat)) { fr := [((1 : Nat), V.slc [Sh.str] r1), ((13 : Nat), V.slc [Sh.str] r13), ((14 : Nat), V.int IntKind.i64 i14), ((15 : Nat), V.int IntKind.i64 i15)], tab := [] }) (K Ex.normal { fr := [((1 : Nat), V.slc [Sh.str] r1), ((6 : Nat), V.str s6), ((13 : Nat), V.slc [Sh.str] r13), ((14 : Nat), V.int IntKind.i64 i14), ((15 : Nat), V.int IntKind.i64 i15), ((19 : Nat), V.slc [Sh.str] r19), ((20 : Nat), V.int IntKind.i64 i20), ((21 : Nat), V.int IntKind.i64 (IntKind.wrap IntKind.i64 (i21 + (1 : Int))))], tab := [] })) (none)) (K (Ex.exit (2 : Nat)) { fr := [((1 : Nat), V.slc [Sh.str] r1), ((6 : Nat), V.str s6), ((13 : Nat), V.slc [Sh.str] r13), ((14 : Nat), V.int IntKind.i64 i14), ((15 : Nat), V.int IntKind.i64 i15)], tab := [] }) := by kernel_rfl
theorem keyL_or (b : List Bytes) : ∀ l, N.keyL b l = 0 ∨ N.keyL b l = 4
  | [] => .inl rfl
  | w :: r => by
    unfold N.keyL
    cases b.any (w == ·)
    · cases (cond (w == []) true (!N.plain w))
      · exact keyL_or b r
      · exact .inr rfl
    · exact keyL_or b r
theorem ok_keyB : FnOk Tryz.prog 80 dKeyB := by
  refine den_okF (env_ok (((TOk.nil _).cons ok_plain).cons ok_words)) (E := eKeyB) Tryz.func80 [4, 7] (by kernel_rfl) (two2 (rounds_of rfl fun l K q h => ?_) (rounds_of rfl fun l K q h => ?_)) fun a _ h => ?_
  · unfold gKeyB4 at h
    split at h
    · rename_i r1 r13 n i
      have h1 := (cond_none h).1; replace h := (cond_none h).2; have h2 := (cond_none h).1; replace h := (cond_none h).2; have h3 := (cond_none h).1; replace h := (cond_none h).2; have h4 := (cond_none h).1; replace h := (cond_none h).2; have h5 := (cond_none h).1; replace h := (cond_none h).2
      have e1 := ieq_of h1
      subst e1
      have h3 : r13.length ≤ 1000001 := ble_of h3
      have h4 : r1.length ≤ 1000001 := ble_of h4
      refine loop_ind (E := eKeyB) (f := 80) (id := 4) (σ := Int) (fun i => { fr := [(1, .slc [.str] r1), (13, .slc [.str] r13), (14, .int .i64 r13.length), (15, .int .i64 i)], tab := [] })
        (fun i => 0 ≤ i) (fun i => r13.length - i.toNat) (fun i K => cond (N.keyL (rowsS r1) ((rowsS r13).drop i.toNat) == 0) (K (.exit 0) { fr := [], tab := [] }) (K .ret { fr := [(4, .int .i64 4)], tab := [] })) (fun i hi => ?_) i (ile_of h2) K q (by assumption)
      by_cases hl : i < r13.length
      · have hlt : i.toNat < r13.length := by omega
        have hw' : (V.toStr (List.getD (List.getD r13 i.toNat []) 0 V.undef)).length ≤ 1000000 := ble_of (List.all_eq_true.1 h5 _ (by rw [List.getD_eq_getElem?_getD, List.getElem?_eq_getElem hlt]; exact List.getElem_mem _))
        rw [drop_get hlt]
        have e : N.keyL (rowsS r1) (rowS (r13.getD i.toNat []) :: (rowsS r13).drop (i.toNat + 1)) = cond ((rowsS r1).any (rowS (r13.getD i.toNat []) == ·)) (N.keyL (rowsS r1) ((rowsS r13).drop (i.toNat + 1))) (cond (cond (rowS (r13.getD i.toNat []) == []) true (!N.plain (rowS (r13.getD i.toNat [])))) 4 (N.keyL (rowsS r1) ((rowsS r13).drop (i.toNat + 1)))) := rfl
        rw [e]
        have stepOk : ∀ K : Ex → St → Option R, (cond ((rowsS r1).any (rowS (r13.getD i.toNat []) == ·)) true (!cond (rowS (r13.getD i.toNat []) == []) true (!N.plain (rowS (r13.getD i.toNat []))))) = true →
            evRound eKeyB 80 4 { fr := [(1, .slc [.str] r1), (13, .slc [.str] r13), (14, .int .i64 r13.length), (15, .int .i64 i)], tab := [] } K = K .normal { fr := [(1, .slc [.str] r1), (13, .slc [.str] r13), (14, .int .i64 r13.length), (15, .int .i64 (i + 1))], tab := [] } := fun K hc => by
          rw [q_keyBR4]
          unfold rowsS rowS at hc
          simp (disch := omega) only [evs, List.drop_zero]
          revert hc
          cases List.any (List.map (fun r => V.toStr (List.getD r 0 V.undef)) r1) (fun x => V.toStr (List.getD (List.getD r13 i.toNat []) 0 V.undef) == x) <;> cases V.toStr (List.getD (List.getD r13 i.toNat []) 0 V.undef) == [] <;> cases N.plain (V.toStr (List.getD (List.getD r13 i.toNat []) 0 V.undef)) <;> intro hc <;> first | rfl | cases hc
        cases h1 : (rowsS r1).any (rowS (r13.getD i.toNat []) == ·) with
        | true =>
          refine .inl ⟨i + 1, by omega, by omega, fun K => stepOk K (by rw [h1]; rfl), fun K => ?_⟩
          rw [cond_true, show (i + 1).toNat = i.toNat + 1 by omega]
        | false =>
          cases h2 : cond (rowS (r13.getD i.toNat []) == []) true (!N.plain (rowS (r13.getD i.toNat []))) with
          | false =>
            refine .inl ⟨i + 1, by omega, by omega, fun K => stepOk K (by rw [h1, h2]; rfl), fun K => ?_⟩
            rw [cond_false, cond_false, show (i + 1).toNat = i.toNat + 1 by omega]
          | true =>
            refine .inr ⟨.ret, { fr := [(4, .int .i64 4)], tab := [] }, by simp, fun K => ?_, fun K => rfl⟩
            rw [q_keyBR4]
            unfold rowsS rowS at h1
            simp (disch := omega) only [evs, List.drop_zero]
            revert h1 h2
            unfold rowS
            cases List.any (List.map (fun r => V.toStr (List.getD r 0 V.undef)) r1) (fun x => V.toStr (List.getD (List.getD r13 i.toNat []) 0 V.undef) == x) <;> cases V.toStr (List.getD (List.getD r13 i.toNat []) 0 V.undef) == [] <;> cases N.plain (V.toStr (List.getD (List.getD r13 i.toNat []) 0 V.undef)) <;> intro h1 h2 <;> first | rfl | (cases h1; done) | cases h2
      · refine .inr ⟨.exit 0, { fr := [], tab := [] }, by simp, fun K => ?_, fun K => ?_⟩
        · rw [q_keyBR4]
          simp (disch := omega) only [evs]
        · rw [List.drop_eq_nil_of_le (by rw [rowsS_length]; omega)]; rfl
    · cases h
  · unfold gKeyB7 at h
    split at h
    · rename_i r1 s r13 i14 i15 r19 n i
      have h1 := (cond_none h).1; replace h := (cond_none h).2; have h2 := (cond_none h).1; replace h := (cond_none h).2; have h3 := (cond_none h).1; replace h := (cond_none h).2
      have e1 := ieq_of h1
      subst e1
      have h3 : r19.length ≤ 1000001 := ble_of h3
      refine loop_ind (E := eKeyB) (f := 80) (id := 7) (σ := Int) (fun i => { fr := [(1, .slc [.str] r1), (6, .str s), (13, .slc [.str] r13), (14, .int .i64 i14), (15, .int .i64 i15), (19, .slc [.str] r19), (20, .int .i64 r19.length), (21, .int .i64 i)], tab := [] })
        (fun i => 0 ≤ i) (fun i => r19.length - i.toNat) (fun i K => cond (((rowsS r19).drop i.toNat).any (s == ·)) (K (.exit 1) { fr := [(1, .slc [.str] r1), (13, .slc [.str] r13), (14, .int .i64 i14), (15, .int .i64 i15)], tab := [] })
        (K (.exit 2) { fr := [(1, .slc [.str] r1), (6, .str s), (13, .slc [.str] r13), (14, .int .i64 i14), (15, .int .i64 i15)], tab := [] })) (fun i hi => ?_) i (ile_of h2) K q (by assumption)
      by_cases hl : i < r19.length
      · rw [drop_get (show i.toNat < r19.length by omega), List.any_cons]
        cases hc : s == rowS (r19.getD i.toNat []) with
        | true =>
          refine .inr ⟨.exit 1, _, by simp, fun K => ?_, fun K => rfl⟩
          rw [q_keyBR7]
          unfold rowS at hc
          simp (disch := omega) only [evs, hc]
        | false =>
          refine .inl ⟨i + 1, by omega, by omega, fun K => ?_, fun K => ?_⟩
          · rw [q_keyBR7]
            unfold rowS at hc
            simp (disch := omega) only [evs, hc]
          · rw [Bool.false_or, show (i + 1).toNat = i.toNat + 1 by omega]
      · refine .inr ⟨.exit 2, { fr := [(1, .slc [.str] r1), (6, .str s), (13, .slc [.str] r13), (14, .int .i64 i14), (15, .int .i64 i15)], tab := [] }, by simp, fun K => ?_, fun K => ?_⟩
        · rw [q_keyBR7]
          simp (disch := omega) only [evs]
        · rw [List.drop_eq_nil_of_le (by rw [rowsS_length]; omega)]; rfl
    · cases h
  · obtain ⟨s, l⟩ := a
    have h : l.length ≤ 1000000 := ble_of h
    refine (q_keyB s l).trans ?_
    show _ = some (⟨.int .i64 (N.key s l), [], []⟩ : DRes)
    unfold N.key
    cases hl : ilt 64 s.length with
    | true => rfl
    | false =>
      have hl := ilt_nof hl
      obtain ⟨w1, w2⟩ := words_small s
      have hall : ((N.words s).map (fun n => [V.str n])).all (fun r => Nat.ble (V.toStr (List.getD r 0 V.undef)).length 1000000) = true := List.all_eq_true.2 fun r hr => by
        obtain ⟨w, hw, rfl⟩ := List.mem_map.1 hr
        exact ble_t (show w.length ≤ 1000000 from by have := w2 w hw; omega)
      have e : ∀ l : List Bytes, (l.map (fun n => [V.str n])).map (fun r => V.toStr (List.getD r 0 V.undef)) = l := fun l => rowsS_enc l
      simp (disch := omega) only [evs, hall, e, List.drop_zero]
      rcases keyL_or l (N.words s) with e | e <;> rw [e] <;> rfl
noncomputable def eKey : Env := env Tryz.prog [(80, dKeyB)] [] []
theorem q_key (s : Bytes) : evFn eKey 61 ((aOne vStr).enc s) ([]) some =
 some { v := V.int IntKind.i64 (N.key s []), bx := [] } := by kernel_rfl
theorem ok_key : FnOk Tryz.prog 61 dKey := den_okF (env_ok ((TOk.nil _).cons ok_keyB)) (E := eKey) Tryz.func61 [] (by kernel_rfl) none0 fun s _ _ => q_key s
def schRefName : SSch := { fr := [(0, .str), (3, .int .i64)], tab := [] }
def gRefName : List Leaf → (Ex → St → Option R) → Option R
  | [.s s0, .i i3], K => cond (ile 0 i3) (cond (Nat.ble s0.length LIM) (cond (N.plain (s0.drop i3.toNat)) (K (.exit 0) { fr := [], tab := [] }) (K .ret { fr := [(2, .int .i64 4)], tab := [] })) none) none
  | _, _ => none
noncomputable def eRefName : Env := env Tryz.prog [(81, dLetter)] [(6, loopF schRefName gRefName)] [(6, [(0, [0, 3]), (1, []), (1000, [2])])]
theorem q_refName (s : Bytes) : evFn eRefName 65 ((aOne vStr).enc s) ([]) some =
 cond ((↑(List.length s) : Int) == (0 : Int)) (some { v := V.int IntKind.i64 (15 : Int), bx := [] }) (cond (ilt (16 : Int) (↑(List.length s) : Int)) (some { v := V.int IntKind.i64 (5 : Int), bx := [] }) (cond (Nat.ble (List.length s) (1000000 : Nat)) (cond (N.plain (List.drop (0 : Nat) s)) (some { v := V.int IntKind.i64 (0 : Int), bx := [] }) (some { v := V.int IntKind.i64 (4 : Int), bx := [] })) (none))) := by kernel_rfl
theorem q_refNameR (s0 : Bytes) (i3 : Int) (K : Ex → St → Option R) : evRound eRefName 65 6 { fr := [(0, .str s0), (3, .int .i64 i3)], tab := [] } K =
 cond (ilt i3 (↑(List.length s0) : Int)) (cond (decide ((0 : Int) ≤ i3 ∧ i3 < (↑(List.length s0) : Int))) (cond (!N.letterI (↑(UInt8.toNat (List.getD s0 (Int.toNat i3) (0 : UInt8))) : Int)) (K Ex.ret { fr := [((2 : Nat), V.int IntKind.i64 (4 : Int))], tab := [] }) (K Ex.normal { fr := [((0 : Nat), V.str s0), ((3 : Nat), V.int IntKind.i64 (IntKind.wrap IntKind.i64 (i3 + (1 : Int))))], tab := [] })) (none)) (K (Ex.exit (0 : Nat)) { fr := [], tab := [] }) := by kernel_rfl
theorem ok_refName : FnOk Tryz.prog 65 dName := by
  refine den_okF (env_ok ((TOk.nil _).cons ok_letter)) (E := eRefName) Tryz.func65 [6] (by kernel_rfl) (one1 (rounds_of rfl fun l K q h => ?_)) fun s _ h => ?_
  · unfold gRefName at h
    split at h
    · rename_i s i
      have h1 := (cond_none h).1; replace h := (cond_none h).2; have h2 := (cond_none h).1; replace h := (cond_none h).2
      have h2 : s.length ≤ 1000000 := ble_of h2
      refine loop_ind (E := eRefName) (f := 65) (id := 6) (fun i : Int => { fr := [(0, .str s), (3, .int .i64 i)], tab := [] }) (fun i => 0 ≤ i) (fun i => s.length - i.toNat)
        (fun i K => cond (N.plain (s.drop i.toNat)) (K (.exit 0) { fr := [], tab := [] }) (K .ret { fr := [(2, .int .i64 4)], tab := [] })) (fun i hi => ?_) i (ile_of h1) K q h
      by_cases hl : i < s.length
      · rw [drop_byte (show i.toNat < s.length by omega), plain_cons]
        cases hc : N.letterI (s.getD i.toNat 0).toNat with
        | true =>
          refine .inl ⟨i + 1, by omega, by omega, fun K => ?_, fun K => ?_⟩
          · rw [q_refNameR]
            simp (disch := omega) only [evs, hc, Bool.not_true]
          · rw [cond_true, show (i + 1).toNat = i.toNat + 1 by omega]
        | false =>
          refine .inr ⟨.ret, { fr := [(2, .int .i64 4)], tab := [] }, by simp, fun K => ?_, fun K => rfl⟩
          rw [q_refNameR]
          simp (disch := omega) only [evs, hc, Bool.not_false]
      · refine .inr ⟨.exit 0, { fr := [], tab := [] }, by simp, fun K => ?_, fun K => ?_⟩
        · rw [q_refNameR]
          simp (disch := omega) only [evs]
        · rw [List.drop_eq_nil_of_le (by omega)]; rfl
    · cases h
  · refine (q_refName s).trans ?_
    show _ = some (⟨.int .i64 (N.name s), [], []⟩ : DRes)
    unfold N.name
    cases s with
    | nil => rfl
    | cons c r =>
      generalize hs : c :: r = s at *
      have h0 : (s == []) = false := by rw [← hs]; rfl
      have h1 : 0 < s.length := by rw [← hs]; simp
      rw [h0]
      cases h : ilt 16 s.length with
      | true => simp (disch := omega) only [evs]
      | false =>
        have h := ilt_nof h
        simp (disch := omega) only [evs, List.drop_zero]
        cases N.plain s <;> rfl
/-! ### The statement on forms -/
theorem key_eq (s : Bytes) : N.key s [] = N.refKey s false := by
  have e : ∀ l, N.keyL [] l = N.refKeyL false l := fun l => by
    induction l with
    | nil => rfl
    | cons w r ih =>
      unfold N.keyL N.refKeyL
      rw [ih, List.any_nil]
      cases w with
      | nil => rfl
      | cons c w => simp only [cond_false, List.length_cons]; simp (disch := omega) only [evs]; rw [show ((c :: w) == []) = false from rfl]; cases N.plain (c :: w) <;> rfl
  unfold N.key N.refKey
  rw [e]
end Go.Ev

/- The two readers of heads agree: lemmas on the plain functions. -/
namespace Go.Ev
open Go

/-- The one reader stands where the other does, in the bytes `s`. -/
def Rl (s : Bytes) (i : InS) (q : RIn) : Prop := q.s = s ∧ 0 ≤ q.at' ∧ q.at' ≤ s.length ∧ i.err = q.code ∧ i.s = cond (i.err == 0) (s.drop q.at'.toNat) []
theorem rl_new (s : Bytes) : Rl s ⟨s, 0⟩ ⟨s, 0, 0⟩ := ⟨rfl, Int.le_refl _, Int.natCast_nonneg _, rfl, rfl⟩
theorem rl_fail {s : Bytes} {i : InS} {q : RIn} (h : Rl s i q) (c : Int) : Rl s (N.inFail i c) (N.rFail q c) := by
  obtain ⟨h0, h1, h2, h3, h4⟩ := h
  unfold N.inFail N.rFail
  rw [h3]
  cases e : q.code == 0 with
  | false => exact ⟨h0, h1, h2, h3, h4⟩
  | true =>
    have e' : q.code = 0 := by simpa using e
    by_cases hc : c = 0
    · subst hc
      exact ⟨h0, h1, h2, h3.trans e', h4⟩
    · have e1 : (c != 0) = true := by simpa using hc
      have e2 : (c == 0) = false := by simpa using hc
      rw [e1]
      refine ⟨h0, h1, h2, rfl, ?_⟩
      show [] = cond (c == 0) _ []
      rw [e2]; rfl
theorem rl_raw {s : Bytes} {i : InS} {q : RIn} (h : Rl s i q) (n : Int) : (N.inRaw i n).1 = (N.rRaw q n).1 ∧ Rl s (N.inRaw i n).2 (N.rRaw q n).2 := by
  have hf := rl_fail h 3
  have h' := h
  obtain ⟨h0, h1, h2, h3, h4⟩ := h
  unfold N.inRaw N.rRaw
  rw [h3]
  cases e : q.code == 0 with
  | false =>
    rw [bne, e]
    exact ⟨rfl, h'⟩
  | true =>
    rw [bne, e]
    have hs : i.s = s.drop q.at'.toNat := by rw [h4, h3, e]; rfl
    have hl : (i.s.length : Int) = q.s.length - q.at' := by rw [hs, List.length_drop, h0]; omega
    rw [hl]
    cases e2 : ile n 0 with
    | true => exact ⟨rfl, h'⟩
    | false =>
      cases e3 : ilt (q.s.length - q.at') n with
      | true => exact ⟨rfl, hf⟩
      | false =>
        have e2 := ile_nof e2
        have e3 := ilt_nof e3
        rw [h0] at e3
        refine ⟨?_, h0, ?_, ?_, rfl, ?_⟩
        · show i.s.take n.toNat = (q.s.drop q.at'.toNat).take n.toNat
          rw [hs, h0]
        · show 0 ≤ q.at' + n
          omega
        · show q.at' + n ≤ s.length
          omega
        · show i.s.drop n.toNat = cond (q.code == 0) (s.drop (q.at' + n).toNat) []
          rw [e, hs, List.drop_drop, show (q.at' + n).toNat = q.at'.toNat + n.toNat by omega]; rfl
theorem rl_num {s : Bytes} {i : InS} {q : RIn} (h : Rl s i q) (n : Int) : (N.inNum i n).1 = (N.rNum q n).1 ∧ Rl s (N.inNum i n).2 (N.rNum q n).2 :=
  ⟨congrArg (fun x => N.be x 0) (rl_raw h (cond (ilt 8 n) 8 n)).1, (rl_raw h (cond (ilt 8 n) 8 n)).2⟩
theorem rl_textOf {s : Bytes} {i : InS} {q : RIn} (h : Rl s i q) (n m : Int) : Rl s (cond (ilt n m) (N.inFail i 5) i) (cond (ilt n m) (N.rFail q 5) q) := by
  cases ilt n m with
  | true => exact rl_fail h 5
  | false => exact h
theorem rl_text {s : Bytes} {i : InS} {q : RIn} (h : Rl s i q) (n : Int) : (N.inText i n).1 = (N.rText q n).1 ∧ Rl s (N.inText i n).2 (N.rText q n).2 := by
  unfold N.inText N.rText
  rw [(rl_num h 2).1]
  exact rl_raw (rl_textOf (rl_num h 2).2 _ _) _
theorem rl_oneOf {s : Bytes} {i : InS} {q : RIn} (h : Rl s i q) (key : Bytes) (kind : Int) : (N.oneOf key kind i).1 = (N.rOneOf key kind q).1 ∧ Rl s (N.oneOf key kind i).2 (N.rOneOf key kind q).2 := by
  unfold N.oneOf N.rOneOf
  rw [(rl_num h 8).1, (rl_num h 1).1, (rl_text h 64).1]
  cases kind == 0 with
  | true => exact ⟨rfl, (rl_num h 8).2⟩
  | false =>
    cases kind == 1 with
    | true => exact ⟨rfl, (rl_text h 64).2⟩
    | false =>
      cases kind == 2 with
      | true => exact ⟨rfl, (rl_num h 1).2⟩
      | false => exact ⟨rfl, rl_fail h 8⟩
theorem rl_one {s : Bytes} {i : InS} {q : RIn} (h : Rl s i q) : (N.one i).1 = (N.rOne q).1 ∧ Rl s (N.one i).2 (N.rOne q).2 := by
  unfold N.one N.rOne
  rw [(rl_text h 16).1, (rl_num (rl_text h 16).2 1).1]
  exact rl_oneOf (rl_num (rl_text h 16).2 1).2 _ _
theorem rl_bad {s : Bytes} {i : InS} {q : RIn} (h : Rl s i q) (p : HPair) (acc : List HPair) : Rl s (N.bad p acc i) (N.rBad p acc q) := by
  unfold N.bad N.rBad
  rw [h.2.2.2.1]
  cases q.code == 0 with
  | true => exact rl_fail h _
  | false => exact h
/-! ### A reader that has failed stays as it is -/
theorem inFail_err {i : InS} (h : i.err ≠ 0) (c : Int) : N.inFail i c = i := by
  unfold N.inFail
  rw [show (i.err == 0) = false by simpa using h]; rfl
theorem inRaw_err {i : InS} (h : i.err ≠ 0) (n : Int) : N.inRaw i n = ([], i) := by
  unfold N.inRaw
  rw [show (i.err != 0) = true by simpa using h]; rfl
theorem inNum_err {i : InS} (h : i.err ≠ 0) (n : Int) : (N.inNum i n).2 = i := by unfold N.inNum; rw [inRaw_err h]
theorem inText_err {i : InS} (h : i.err ≠ 0) (n : Int) : (N.inText i n).2 = i := by
  unfold N.inText
  rw [inNum_err h, inFail_err h]
  cases ilt n (IntKind.wrap .i64 (N.inNum i 2).1) <;> exact congrArg Prod.snd (inRaw_err h _)
theorem one_err {i : InS} (h : i.err ≠ 0) : (N.one i).2 = i := by
  unfold N.one
  rw [inText_err h, inNum_err h]
  unfold N.oneOf
  rw [inNum_err h, inNum_err h, inText_err h, inFail_err h]
  cases IntKind.wrap .u8 (N.inNum i 1).1 == 0 <;> cases IntKind.wrap .u8 (N.inNum i 1).1 == 1 <;> cases IntKind.wrap .u8 (N.inNum i 1).1 == 2 <;> rfl
theorem bad_err {i : InS} (h : i.err ≠ 0) (p : HPair) (acc : List HPair) : N.bad p acc i = i := by
  unfold N.bad
  rw [show (i.err == 0) = false by simpa using h]; rfl
theorem rReadFrom_err {q : RIn} (h : q.code ≠ 0) (acc : List HPair) : ∀ k, N.rReadFrom k q acc = (acc, q)
  | 0 => rfl
  | k + 1 => by
    unfold N.rReadFrom
    rw [show (q.code == 0) = false by simpa using h]; rfl
theorem rl_from {s : Bytes} : ∀ (k : Nat) {i : InS} {q : RIn} (acc : List HPair), Rl s i q → (i.err = 0 ∨ acc = []) →
    (N.readFrom k i acc).1 = cond ((N.rReadFrom k q acc).2.code != 0) [] (N.rReadFrom k q acc).1 ∧ Rl s (N.readFrom k i acc).2 (N.rReadFrom k q acc).2
  | 0, i, q, acc, h, h1 => by
    refine ⟨?_, h⟩
    show acc = cond (q.code != 0) [] acc
    rw [← h.2.2.2.1]
    rcases h1 with h1 | h1
    · rw [h1]; rfl
    · rw [h1]; cases i.err != 0 <;> rfl
  | k + 1, i, q, acc, h, h1 => by
    unfold N.readFrom N.rReadFrom
    have ho := rl_one h
    have hb := rl_bad ho.2 (N.one i).1 acc
    by_cases hz : q.code = 0
    · rw [show (q.code == 0) = true by simpa using hz, ← ho.1, cond_true]
      by_cases hy : (N.bad (N.one i).1 acc (N.one i).2).err = 0
      · rw [show ((N.bad (N.one i).1 acc (N.one i).2).err != 0) = false by simpa using hy, cond_false]
        exact rl_from k _ hb (.inl hy)
      · rw [show ((N.bad (N.one i).1 acc (N.one i).2).err != 0) = true by simpa using hy, cond_true]
        have hy' : (N.rBad (N.one i).1 acc (N.rOne q).2).code ≠ 0 := by rw [← hb.2.2.2.1]; exact hy
        rw [rReadFrom_err hy']
        refine ⟨?_, hb⟩
        show [] = cond ((N.rBad (N.one i).1 acc (N.rOne q).2).code != 0) [] _
        rw [show ((N.rBad (N.one i).1 acc (N.rOne q).2).code != 0) = true by simpa using hy']; rfl
    · have hi : i.err ≠ 0 := by rw [h.2.2.2.1]; exact hz
      rw [one_err hi, bad_err hi, show (i.err != 0) = true by simpa using hi, show (q.code == 0) = false by simpa using hz]
      refine ⟨?_, h⟩
      show [] = cond (q.code != 0) [] acc
      rw [show (q.code != 0) = true by simpa using hz]; rfl
theorem rl_read {s : Bytes} {i : InS} {q : RIn} (h : Rl s i q) : (N.headRead i).1 = (N.rHead q).1 ∧ Rl s (N.headRead i).2 (N.rHead q).2 := by
  have e : (N.headRead i).1 = cond ((N.rRead q).2.code != 0) [] (N.rRead q).1 ∧ Rl s (N.headRead i).2 (N.rRead q).2 := by
    unfold N.headRead N.rRead
    rw [(rl_num h 1).1]
    refine rl_from _ [] ?_ (.inr rfl)
    cases ilt 8 (IntKind.wrap .i64 (N.rNum q 1).1) with
    | true => exact rl_fail (rl_num h 1).2 6
    | false => exact (rl_num h 1).2
  obtain ⟨e1, e2⟩ := e
  unfold N.rHead
  cases hc : (N.rRead q).2.code != 0 with
  | true => rw [hc] at e1; exact ⟨e1, e2⟩
  | false => rw [hc] at e1; exact ⟨e1, e2⟩
theorem readFrom_len : ∀ (k : Nat) (i : InS) (acc : List HPair), (N.readFrom k i acc).1.length ≤ acc.length + k
  | 0, _, acc => Nat.le_refl _
  | k + 1, i, acc => by
    unfold N.readFrom
    cases (N.bad (N.one i).1 acc (N.one i).2).err != 0 with
    | true => exact Nat.zero_le _
    | false =>
      have := readFrom_len k (N.bad (N.one i).1 acc (N.one i).2) (acc ++ [(N.one i).1])
      rw [List.length_append] at this
      simp only [List.length_cons, List.length_nil] at this
      show (N.readFrom k _ _).1.length ≤ _
      omega
theorem rl_left {s : Bytes} {i : InS} {q : RIn} (h : Rl s i q) : N.inLeft i = N.rLeft q := by
  obtain ⟨h0, h1, h2, h3, h4⟩ := h
  unfold N.inLeft N.rLeft
  rw [h4, h3]
  cases e : q.code == 0 with
  | true => rw [bne, e]; simp only [cond_true, Bool.not_true, cond_false, List.length_drop]; rw [h0]; omega
  | false => rw [bne, e]; rfl
/-! ### What keeps a reader within its bytes -/
def ofR (q : RIn) : InS := ⟨cond (q.code == 0) (q.s.drop q.at'.toNat) [], q.code⟩
theorem good_rl {q : RIn} (h : N.goodR q = true) : Rl q.s (ofR q) q ∧ q.s.length ≤ LIM := by
  obtain ⟨h1, h⟩ := bcond h
  obtain ⟨h2, h3⟩ := bcond h
  exact ⟨⟨rfl, ile_of h1, ile_of h2, rfl, rfl⟩, Nat.le_of_ble_eq_true h3⟩
theorem rl_good {s : Bytes} {i : InS} {q : RIn} (h : Rl s i q) (hs : s.length ≤ LIM) : N.goodR q = true := by
  obtain ⟨h0, h1, h2, _, _⟩ := h
  unfold N.goodR
  rw [h0, ile_t h1, ile_t h2, Nat.ble_eq_true_of_le hs]; rfl
theorem good_fail {q : RIn} (h : N.goodR q = true) (c : Int) : N.goodR (N.rFail q c) = true := rl_good (rl_fail (good_rl h).1 c) (good_rl h).2
theorem good_num {q : RIn} (h : N.goodR q = true) (n : Int) : N.goodR (N.rNum q n).2 = true := rl_good (rl_num (good_rl h).1 n).2 (good_rl h).2
theorem good_text {q : RIn} (h : N.goodR q = true) (n : Int) : N.goodR (N.rText q n).2 = true := rl_good (rl_text (good_rl h).1 n).2 (good_rl h).2
theorem good_one {q : RIn} (h : N.goodR q = true) : N.goodR (N.rOne q).2 = true := rl_good (rl_one (good_rl h).1).2 (good_rl h).2
theorem good_bad {q : RIn} (h : N.goodR q = true) (p : HPair) (acc : List HPair) : N.goodR (N.rBad p acc q) = true := rl_good (rl_bad (good_rl h).1 p acc) (good_rl h).2
end Go.Ev

/- The program's functions on bytes answer what the plain ones do: lemmas; that of the function that writes numbers is a premise. -/
namespace Go.Ev
open Go Go.Proofs
set_option maxRecDepth 100000

noncomputable def eFail : Env := env Tryz.prog [] [] []
theorem q_fail (i : InS) (n : Int) : evFn eFail 27 ((aCons (vPtr 0) (aOne (vInt .i64))).enc ((), n)) ((bOne cIn).enc i) some =
 cond (InS.err i == (0 : Int)) (cond (n != (0 : Int)) (some { v := V.tup [], bx := [[V.str [], V.int IntKind.i64 n]] }) (some { v := V.tup [], bx := [[V.str (InS.s i), V.int IntKind.i64 (InS.err i)]] })) (some { v := V.tup [], bx := [[V.str (InS.s i), V.int IntKind.i64 (InS.err i)]] }) := by kernel_rfl
theorem ok_fail : FnOk Tryz.prog 27 dFail := by
  refine den_okF (env_ok (TOk.nil _)) (E := eFail) Tryz.func27 [] (by kernel_rfl) none0 fun a i _ => ?_
  refine (q_fail i a.2).trans ?_
  show _ = some (⟨.tup [], [[.str (N.inFail i a.2).s, .int .i64 (N.inFail i a.2).err]], []⟩ : DRes)
  unfold N.inFail
  cases i.err == 0 <;> cases a.2 != 0 <;> rfl

noncomputable def eRaw : Env := env Tryz.prog [(27, dFail)] [] []
theorem q_raw (i : InS) (n : Int) : evFn eRaw 51 ((aCons (vPtr 0) (aOne (vInt .i64))).enc ((), n)) ((bOne cIn).enc i) some =
 cond (InS.err i != (0 : Int)) (cond (InS.err i != (0 : Int)) (some { v := V.str [], bx := [[V.str (InS.s i), V.int IntKind.i64 (InS.err i)]] }) (cond (ilt (↑(List.length (InS.s i)) : Int) n) (some { v := V.str [], bx := [[V.str (InS.s (N.inFail i (3 : Int))), V.int IntKind.i64 (InS.err (N.inFail i (3 : Int)))]] }) (cond (decide ((0 : Int) ≤ n ∧ n ≤ (↑(List.length (InS.s i)) : Int))) (cond (decide ((0 : Int) ≤ n ∧ n ≤ (↑(List.length (InS.s i)) : Int))) (some { v := V.str (List.drop (0 : Nat) (List.take (Int.toNat n) (InS.s i))), bx := [[V.str (List.drop (Int.toNat n) (List.take (List.length (InS.s i)) (InS.s i))), V.int IntKind.i64 (InS.err i)]] }) (none)) (none)))) (cond (ile n (0 : Int)) (some { v := V.str [], bx := [[V.str (InS.s i), V.int IntKind.i64 (InS.err i)]] }) (cond (ilt (↑(List.length (InS.s i)) : Int) n) (some { v := V.str [], bx := [[V.str (InS.s (N.inFail i (3 : Int))), V.int IntKind.i64 (InS.err (N.inFail i (3 : Int)))]] }) (cond (decide ((0 : Int) ≤ n ∧ n ≤ (↑(List.length (InS.s i)) : Int))) (cond (decide ((0 : Int) ≤ n ∧ n ≤ (↑(List.length (InS.s i)) : Int))) (some { v := V.str (List.drop (0 : Nat) (List.take (Int.toNat n) (InS.s i))), bx := [[V.str (List.drop (Int.toNat n) (List.take (List.length (InS.s i)) (InS.s i))), V.int IntKind.i64 (InS.err i)]] }) (none)) (none)))) := by kernel_rfl
theorem inBounds {n : Int} {l : Nat} (h1 : ile n 0 = false) (h2 : ilt (l : Int) n = false) : decide ((0 : Int) ≤ n ∧ n ≤ (l : Int)) = true := by
  rw [ile_eq] at h1; rw [ilt_eq] at h2
  have h1 := of_decide_eq_false h1
  have h2 := of_decide_eq_false h2
  rw [decide_eq_true_iff]; omega
theorem ok_raw : FnOk Tryz.prog 51 dRaw := by
  refine den_okF (env_ok ((TOk.nil _).cons ok_fail)) (E := eRaw) Tryz.func51 [] (by kernel_rfl) none0 fun a i _ => ?_
  refine (q_raw i a.2).trans ?_
  show _ = some (⟨.str (N.inRaw i a.2).1, [[.str (N.inRaw i a.2).2.s, .int .i64 (N.inRaw i a.2).2.err]], []⟩ : DRes)
  unfold N.inRaw
  cases h1 : (i.err != 0) with
  | true => rfl
  | false =>
    cases h2 : ile a.2 0 with
    | true => rfl
    | false =>
      cases h3 : ilt (i.s.length : Int) a.2 with
      | true => rfl
      | false =>
        simp only [cond_true, cond_false, inBounds h2 h3, List.drop_zero, List.take_length]

def schNum : SSch := { fr := [(5, .int .u64), (12, .slc [.int .u8]), (13, .int .i64), (14, .int .i64)], tab := [(0, .var [.str, .int .i64])] }
def gNum : List Leaf → (Ex → St → Option R) → Option R
  | [.i n, .r rows, .i len, .i k, .s s, .i e], K => cond (decide (len = (rows.length : Int))) (cond (ile 0 k) (cond (Nat.ble rows.length 9223372036854775806)
      (K (.exit 0) { fr := [(5, .int .u64 (N.beR (rows.drop k.toNat) n))], tab := [(0, .var [.str s, .int .i64 e])] }) none) none) none
  | _, _ => none
noncomputable def eNum : Env := env Tryz.prog [(51, dRaw)] [(3, loopF schNum gNum)] [(3, [(0, [5, 12, 13, 14]), (1, [5]), (1000, [4])])]
theorem q_num (i : InS) (n : Int) : evFn eNum 26 ((aCons (vPtr 0) (aOne (vInt .i64))).enc ((), n)) ((bOne cIn).enc i) some =
 cond (decide ((↑(List.length (bytesOfStr (Prod.fst (N.inRaw i (bif ilt (8 : Int) n then (8 : Int) else n))))) : Int) = (↑(List.length (bytesOfStr (Prod.fst (N.inRaw i (bif ilt (8 : Int) n then (8 : Int) else n))))) : Int))) (cond (Nat.ble (List.length (bytesOfStr (Prod.fst (N.inRaw i (bif ilt (8 : Int) n then (8 : Int) else n))))) (9223372036854775806 : Nat)) (some { v := V.int IntKind.u64 (N.beR (List.drop (0 : Nat) (bytesOfStr (Prod.fst (N.inRaw i (bif ilt (8 : Int) n then (8 : Int) else n))))) (0 : Int)), bx := [[V.str (InS.s (Prod.snd (N.inRaw i (bif ilt (8 : Int) n then (8 : Int) else n)))), V.int IntKind.i64 (InS.err (Prod.snd (N.inRaw i (bif ilt (8 : Int) n then (8 : Int) else n))))]] }) (none)) (none) := by kernel_rfl
theorem q_numR (rows : List (List V)) (n len k e : Int) (s : Bytes) (K : Ex → St → Option R) : evRound eNum 26 3 { fr := [(5, .int .u64 n), (12, .slc [.int .u8] rows), (13, .int .i64 len), (14, .int .i64 k)], tab := [(0, .var [.str s, .int .i64 e])] } K =
 cond (ilt k len) (cond (decide ((0 : Int) ≤ k ∧ k < (↑(List.length rows) : Int))) (K Ex.normal { fr := [((5 : Nat), V.int IntKind.u64 (ibits BinOp.or IntKind.u64 (shl IntKind.u64 n (8 : Int)) (IntKind.wrap IntKind.u64 (V.toInt (List.getD (List.getD rows (Int.toNat k) []) (0 : Nat) V.undef))))), ((12 : Nat), V.slc [Sh.int IntKind.u8] rows), ((13 : Nat), V.int IntKind.i64 len), ((14 : Nat), V.int IntKind.i64 (IntKind.wrap IntKind.i64 (k + (1 : Int))))], tab := [((0 : Nat), Box.var [V.str s, V.int IntKind.i64 e])] }) (none)) (K (Ex.exit (0 : Nat)) { fr := [((5 : Nat), V.int IntKind.u64 n)], tab := [((0 : Nat), Box.var [V.str s, V.int IntKind.i64 e])] }) := by kernel_rfl
theorem wrap_i64 {n : Int} (h1 : -9223372036854775808 ≤ n) (h2 : n ≤ 9223372036854775807) : IntKind.wrap .i64 n = n := by
  simp only [IntKind.wrap, IntKind.signed, IntKind.bits]
  simp
  omega
theorem wrap_u64 {n : Int} (h1 : 0 ≤ n) (h2 : n < 18446744073709551616) : IntKind.wrap .u64 n = n := by
  simp only [IntKind.wrap, IntKind.signed, IntKind.bits]
  simp
  omega
theorem numR_ok (rows : List (List V)) (len e : Int) (s : Bytes) (hlen : len = rows.length) (hb : rows.length ≤ 9223372036854775806) (K : Ex → St → Option R) (q : R) : ∀ (d : Nat) (k n : Int), d = rows.length - k.toNat → 0 ≤ k →
    K (.exit 0) { fr := [(5, .int .u64 (N.beR (rows.drop k.toNat) n))], tab := [(0, .var [.str s, .int .i64 e])] } = some q →
    ∃ m, iterR eNum 26 3 m { fr := [(5, .int .u64 n), (12, .slc [.int .u8] rows), (13, .int .i64 len), (14, .int .i64 k)], tab := [(0, .var [.str s, .int .i64 e])] } K = some q
  | 0, k, n, hd, hk, h => by
    refine ⟨1, ?_⟩
    show evRound eNum _ 3 _ _ = some q
    rw [q_numR]
    have h1 : ilt k len = false := by rw [ilt_eq, decide_eq_false_iff_not]; omega
    rw [h1, cond_false]
    rw [List.drop_eq_nil_of_le (by omega)] at h
    exact h
  | d + 1, k, n, hd, hk, h => by
    have hlt : k.toNat < rows.length := by omega
    have hdrop : rows.drop k.toNat = rows.getD k.toNat [] :: rows.drop (k + 1).toNat := by
      rw [List.drop_eq_getElem_cons hlt, show (k + 1).toNat = k.toNat + 1 by omega, List.getD_eq_getElem?_getD, List.getElem?_eq_getElem hlt]; rfl
    rw [hdrop] at h
    obtain ⟨m, hm⟩ := numR_ok rows len e s hlen hb K q d (k + 1) _ (by omega) (by omega) h
    refine ⟨m + 1, ?_⟩
    show evRound eNum _ 3 _ _ = some q
    rw [q_numR]
    have h1 : ilt k len = true := by rw [ilt_eq, decide_eq_true_iff]; omega
    have h2 : decide ((0 : Int) ≤ k ∧ k < (rows.length : Int)) = true := by rw [decide_eq_true_iff]; omega
    rw [h1, h2, cond_true, cond_true, wrap_i64 (by omega) (by omega)]
    exact hm
theorem ok_num : FnOk Tryz.prog 26 dNum := by
  refine den_okF (env_ok ((TOk.nil _).cons ok_raw)) (E := eNum) Tryz.func26 [3] (by kernel_rfl) (one1 (rounds_of rfl fun l K q h => ?_)) fun a i _ => ?_
  · unfold gNum at h
    split at h
    · rename_i n rows len k s e
      obtain ⟨h1, h⟩ := cond_none h
      obtain ⟨h2, h⟩ := cond_none h
      obtain ⟨h3, h⟩ := cond_none h
      rw [ile_eq] at h2
      exact numR_ok rows len e s (of_decide_eq_true h1) (Nat.le_of_ble_eq_true h3) K q _ k n rfl (of_decide_eq_true h2) h
    · cases h
  · refine (q_num i a.2).trans ?_
    have h8 : (N.inRaw i (bif ilt 8 a.2 then 8 else a.2)).1.length ≤ 8 := N.inRaw_len i _ 8 (by
      rw [ilt_eq]
      by_cases h : 8 < a.2
      · rw [decide_eq_true h]; exact Int.le_refl _
      · rw [decide_eq_false h]; simp only [cond_false]; omega)
    rw [decide_eq_true (rfl : (_ : Int) = _), show Nat.ble (List.length (bytesOfStr (N.inRaw i (bif ilt 8 a.2 then 8 else a.2)).1)) 9223372036854775806 = true from
      Nat.ble_eq_true_of_le (by rw [show (bytesOfStr (N.inRaw i (bif ilt 8 a.2 then 8 else a.2)).1).length = (N.inRaw i (bif ilt 8 a.2 then 8 else a.2)).1.length by simp [bytesOfStr]]; omega), cond_true, cond_true]
    rw [List.drop_zero, beR_bytes _ 0 8 (by decide) h8 (by decide) (by decide)]
    rfl

noncomputable def eNew : Env := env Tryz.prog [] [] []
theorem q_new (s : Bytes) : evFn eNew 7 ((aOne vStr).enc s) (bNil.enc ()) some =
 some { v := V.ptr (1000 : Nat) (0 : Nat) (0 : Nat) (0 : Nat), bx := [], nb := [Box.var [V.str s, V.int IntKind.i64 (0 : Int)]] } := by kernel_rfl
theorem ok_new : FnOk Tryz.prog 7 dNew := den_okF (env_ok (TOk.nil _)) (E := eNew) Tryz.func7 [] (by kernel_rfl) none0 fun s _ _ => q_new s
theorem q_outRaw (o : OutS) (s : Bytes) : evFn eNew 46 ((aCons (vAgg cOut) (aOne vStr)).enc (o, s)) (bNil.enc ()) some =
 cond (Nat.ble (List.length (OutS.s o) + List.length s) (9223372036854775807 : Nat)) (some { v := V.agg [V.str (OutS.s o ++ s), V.int IntKind.i64 (OutS.err o)], bx := [] }) (none) := by kernel_rfl
theorem ok_outRaw : FnOk Tryz.prog 46 dOutRaw := by
  refine den_okF (env_ok (TOk.nil _)) (E := eNew) Tryz.func46 [] (by kernel_rfl) none0 fun a _ h => ?_
  refine (q_outRaw a.1 a.2).trans ?_
  rw [show Nat.ble (a.1.s.length + a.2.length) 9223372036854775807 = true from h]
  rfl
theorem q_outString (o : OutS) : evFn eNew 47 ((aOne (vAgg cOut)).enc o) (bNil.enc ()) some =
 some { v := V.str (OutS.s o), bx := [] } := by kernel_rfl
theorem ok_outString : FnOk Tryz.prog 47 dOutString := den_okF (env_ok (TOk.nil _)) (E := eNew) Tryz.func47 [] (by kernel_rfl) none0 fun s _ _ => q_outString s
noncomputable def eText : Env := env Tryz.prog [(46, dOutRaw), (44, dOutNum)] [] []
theorem q_outText (o : OutS) (s : Bytes) : evFn eText 72 ((aCons (vAgg cOut) (aOne vStr)).enc (o, s)) (bNil.enc ()) some =
 cond (ilt (65535 : Int) (↑(List.length s) : Int)) (cond (OutS.err o == (0 : Int)) (some { v := V.agg [V.str (OutS.s o), V.int IntKind.i64 (5 : Int)], bx := [] }) (some { v := V.agg [V.str (OutS.s o), V.int IntKind.i64 (OutS.err o)], bx := [] })) (cond (bif ilt (IntKind.wrap IntKind.u64 (↑(List.length s) : Int)) (18446744073709551616 : Int) then Nat.ble (List.length (OutS.s o)) (9223372036854775799 : Nat) else false) (cond (Nat.ble (List.length (OutS.s (N.outNum o (IntKind.wrap IntKind.u64 (↑(List.length s) : Int)) (2 : Int))) + List.length s) (9223372036854775807 : Nat)) (some { v := V.agg [V.str (OutS.s (N.outRaw (N.outNum o (IntKind.wrap IntKind.u64 (↑(List.length s) : Int)) (2 : Int)) s)), V.int IntKind.i64 (OutS.err (N.outRaw (N.outNum o (IntKind.wrap IntKind.u64 (↑(List.length s) : Int)) (2 : Int)) s))], bx := [] }) (none)) (none)) := by kernel_rfl
theorem ok_outText (hN : FnOk Tryz.prog 44 dOutNum) : FnOk Tryz.prog 72 dOutText := by
  refine den_okF (env_ok (((TOk.nil _).cons hN).cons ok_outRaw)) (E := eText) Tryz.func72 [] (by kernel_rfl) none0 fun a _ h => ?_
  refine (q_outText a.1 a.2).trans ?_
  have h : a.1.s.length + a.2.length ≤ 9223372036854775790 := Nat.le_of_ble_eq_true h
  show _ = some (⟨.agg [.str (N.outText a.1 a.2).s, .int .i64 (N.outText a.1 a.2).err], [], []⟩ : DRes)
  unfold N.outText
  cases h1 : ilt 65535 (a.2.length : Int) with
  | true => cases a.1.err == 0 <;> rfl
  | false =>
    rw [ilt_eq] at h1
    have h1 := of_decide_eq_false h1
    have hw : IntKind.wrap .u64 (a.2.length : Int) = a.2.length := wrap_u64 (by omega) (by omega)
    rw [hw]
    have e1 : ilt (a.2.length : Int) 18446744073709551616 = true := by rw [ilt_eq, decide_eq_true_iff]; omega
    have e2 : Nat.ble a.1.s.length 9223372036854775799 = true := Nat.ble_eq_true_of_le (by omega)
    have e3 : Nat.ble ((N.outNum a.1 (a.2.length : Int) 2).s.length + a.2.length) 9223372036854775807 = true := Nat.ble_eq_true_of_le (by
      have : (N.outNum a.1 (a.2.length : Int) 2).s.length = a.1.s.length + 2 := by
        show (a.1.s ++ N.numB _ (N.clamp 2)).length = _
        rw [List.length_append, N.numB_length]; rfl
      omega)
    simp only [e1, e2, e3, cond_true, cond_false]
end Go.Ev

/- The example of the chapter on bytes: lemmas; the function that writes numbers is a premise. -/
namespace Go.Ev
open Go Go.Proofs
set_option maxRecDepth 100000

noncomputable def eAw1 : Env := env Tryz.prog [(44, dOutNum), (72, dOutText), (47, dOutString), (7, dNew), (26, dNum)] [] []
theorem q_aw1  : evFn eAw1 94 [] [] some =
 some { v := V.bool true, bx := [] } := by kernel_rfl
def dTrue : Den := den aNil bNil (oV vBool) (fun _ _ => true) fun _ _ => (true, ())
theorem ok_aw1 (hN : FnOk Tryz.prog 44 dOutNum) : FnOk Tryz.prog 94 dTrue :=
  den_okF (env_ok ((((((TOk.nil _).cons ok_num).cons ok_new).cons ok_outString).cons (ok_outText hN)).cons hN)) (E := eAw1) Tryz.func94 [] (by kernel_rfl) none0 fun _ _ _ => q_aw1
noncomputable def eAw1' : Env := env Tryz.prog [(94, dTrue)] [] []
theorem q_aw1'  : evFn eAw1' 89 [] [] some =
 some { v := V.bool true, bx := [] } := by kernel_rfl
theorem ok_aw1' (hN : FnOk Tryz.prog 44 dOutNum) : FnOk Tryz.prog 89 dTrue :=
  den_okF (env_ok ((TOk.nil _).cons (ok_aw1 hN))) (E := eAw1') Tryz.func89 [] (by kernel_rfl) none0 fun _ _ _ => q_aw1'
end Go.Ev

/- The program's functions on heads answer what the plain ones do: lemmas; the function that writes numbers is a premise. -/
namespace Go.Ev
open Go Go.Proofs
set_option maxRecDepth 100000

def schEqP : SSch := { fr := [(0, .slc [.str, .int .u8, .int .i64, .str]), (1, .slc [.str, .int .u8, .int .i64, .str]), (12, .int .i64), (13, .int .i64)], tab := [] }
def gEqP : List Leaf → (Ex → St → Option R) → Option R
  | [.r r0, .r r1, .i i12, .i i13], K => cond (i12 == r0.length) (cond (Nat.beq r0.length r1.length) (cond (ile 0 i13) (cond (Nat.ble r0.length (LIM + 1)) (cond (N.samePs ((rowsP r0).drop i13.toNat) ((rowsP r1).drop i13.toNat)) (K (.exit 0) { fr := [], tab := [] }) (K .ret { fr := [(4, .bool false)], tab := [] })) none) none) none) none
  | _, _ => none
theorem samePs_len : ∀ a b : List HPair, a.length ≠ b.length → N.samePs a b = false
  | [], [], h => absurd rfl h
  | [], _ :: _, _ => rfl
  | _ :: _, [], _ => rfl
  | p :: a, q :: b, h => by
    unfold N.samePs
    rw [samePs_len a b (by simpa using h)]
    cases N.eqP p q <;> rfl
theorem samePs_cons (p q : HPair) (a b : List HPair) : N.samePs (p :: a) (q :: b) = cond (N.eqP p q) (N.samePs a b) false := rfl
def schRefSame : SSch := schEqP
noncomputable def eRefSame : Env := env Tryz.prog [] [(4, loopF schRefSame gEqP)] [(4, [(0, [0, 1, 12, 13]), (1, []), (1000, [4])])]
theorem q_refSame (a b : List HPair) : evFn eRefSame 57 ((aCons (vSl cPair) (aOne (vSl cPair))).enc (a, b)) ([]) some =
 cond ((↑(List.length (List.map (fun p => [V.str (HPair.key p), V.int IntKind.u8 (HPair.kind p), V.int IntKind.i64 (HPair.num p), V.str (HPair.text p)]) a)) : Int) != (↑(List.length (List.map (fun p => [V.str (HPair.key p), V.int IntKind.u8 (HPair.kind p), V.int IntKind.i64 (HPair.num p), V.str (HPair.text p)]) b)) : Int)) (some { v := V.bool false, bx := [] : DRes }) (cond ((↑(List.length (List.map (fun p => [V.str (HPair.key p), V.int IntKind.u8 (HPair.kind p), V.int IntKind.i64 (HPair.num p), V.str (HPair.text p)]) a)) : Int) == (↑(List.length (List.map (fun p => [V.str (HPair.key p), V.int IntKind.u8 (HPair.kind p), V.int IntKind.i64 (HPair.num p), V.str (HPair.text p)]) a)) : Int)) (cond (Nat.beq (List.length (List.map (fun p => [V.str (HPair.key p), V.int IntKind.u8 (HPair.kind p), V.int IntKind.i64 (HPair.num p), V.str (HPair.text p)]) a)) (List.length (List.map (fun p => [V.str (HPair.key p), V.int IntKind.u8 (HPair.kind p), V.int IntKind.i64 (HPair.num p), V.str (HPair.text p)]) b))) (cond (Nat.ble (List.length (List.map (fun p => [V.str (HPair.key p), V.int IntKind.u8 (HPair.kind p), V.int IntKind.i64 (HPair.num p), V.str (HPair.text p)]) a)) (1000001 : Nat)) (cond (N.samePs (List.drop (0 : Nat) (List.map (fun r => { key := V.toStr (List.getD r (0 : Nat) V.undef), kind := V.toInt (List.getD r (1 : Nat) V.undef), num := V.toInt (List.getD r (2 : Nat) V.undef), text := V.toStr (List.getD r (3 : Nat) V.undef) : HPair }) (List.map (fun p => [V.str (HPair.key p), V.int IntKind.u8 (HPair.kind p), V.int IntKind.i64 (HPair.num p), V.str (HPair.text p)]) a))) (List.drop (0 : Nat) (List.map (fun r => { key := V.toStr (List.getD r (0 : Nat) V.undef), kind := V.toInt (List.getD r (1 : Nat) V.undef), num := V.toInt (List.getD r (2 : Nat) V.undef), text := V.toStr (List.getD r (3 : Nat) V.undef) : HPair }) (List.map (fun p => [V.str (HPair.key p), V.int IntKind.u8 (HPair.kind p), V.int IntKind.i64 (HPair.num p), V.str (HPair.text p)]) b)))) (some { v := V.bool true, bx := [] : DRes }) (some { v := V.bool false, bx := [] : DRes })) (none)) (none)) (none)) := by kernel_rfl
theorem q_refSameR (r0 : List (List V)) (r1 : List (List V)) (i12 : Int) (i13 : Int) (K : Ex → St → Option R) : evRound eRefSame 57 4 { fr := [(0, .slc [.str, .int .u8, .int .i64, .str] r0), (1, .slc [.str, .int .u8, .int .i64, .str] r1), (12, .int .i64 i12), (13, .int .i64 i13)], tab := [] } K =
 cond (ilt i13 i12) (cond (decide ((0 : Int) ≤ i13 ∧ i13 < (↑(List.length r0) : Int))) (cond (decide ((0 : Int) ≤ i13 ∧ i13 < (↑(List.length r1) : Int))) (cond (!(V.toStr (List.getD (List.getD r0 (Int.toNat i13) []) (0 : Nat) V.undef) == V.toStr (List.getD (List.getD r1 (Int.toNat i13) []) (0 : Nat) V.undef) && (V.toInt (List.getD (List.getD r0 (Int.toNat i13) []) (1 : Nat) V.undef) == V.toInt (List.getD (List.getD r1 (Int.toNat i13) []) (1 : Nat) V.undef) && (V.toInt (List.getD (List.getD r0 (Int.toNat i13) []) (2 : Nat) V.undef) == V.toInt (List.getD (List.getD r1 (Int.toNat i13) []) (2 : Nat) V.undef) && (V.toStr (List.getD (List.getD r0 (Int.toNat i13) []) (3 : Nat) V.undef) == V.toStr (List.getD (List.getD r1 (Int.toNat i13) []) (3 : Nat) V.undef) && true))))) (K Ex.ret { fr := [((4 : Nat), V.bool false)], tab := [] : St }) (K Ex.normal { fr := [((0 : Nat), V.slc [Sh.str, Sh.int IntKind.u8, Sh.int IntKind.i64, Sh.str] r0), ((1 : Nat), V.slc [Sh.str, Sh.int IntKind.u8, Sh.int IntKind.i64, Sh.str] r1), ((12 : Nat), V.int IntKind.i64 i12), ((13 : Nat), V.int IntKind.i64 (IntKind.wrap IntKind.i64 (i13 + (1 : Int))))], tab := [] : St })) (none)) (none)) (K (Ex.exit (0 : Nat)) { fr := [], tab := [] : St }) := by kernel_rfl
theorem ok_refSame : FnOk Tryz.prog 57 dSameP := by
  refine den_okF (env_ok (TOk.nil _)) (E := eRefSame) Tryz.func57 [4] (by kernel_rfl) (one1 (rounds_of rfl fun l K q h => ?_)) fun a _ h => ?_
  · unfold gEqP at h
    split at h
    · rename_i r0 r1 n i
      have h1 := (cond_none h).1; replace h := (cond_none h).2; have h2 := (cond_none h).1; replace h := (cond_none h).2; have h3 := (cond_none h).1; replace h := (cond_none h).2; have h4 := (cond_none h).1; replace h := (cond_none h).2
      have e1 := ieq_of h1
      have h2 := Nat.eq_of_beq_eq_true h2
      subst e1
      have h4 : r0.length ≤ 1000001 := ble_of h4
      refine loop_ind (E := eRefSame) (f := 57) (id := 4) (fun i : Int => { fr := [(0, .slc [.str, .int .u8, .int .i64, .str] r0), (1, .slc [.str, .int .u8, .int .i64, .str] r1), (12, .int .i64 r0.length), (13, .int .i64 i)], tab := [] }) (fun i => 0 ≤ i) (fun i => r0.length - i.toNat)
        (fun i K => cond (N.samePs ((rowsP r0).drop i.toNat) ((rowsP r1).drop i.toNat)) (K (.exit 0) { fr := [], tab := [] }) (K .ret { fr := [(4, .bool false)], tab := [] })) (fun i hi => ?_) i (ile_of h3) K q (by assumption)
      by_cases hl : i < r0.length
      · rw [drop_pair (show i.toNat < r0.length by omega), drop_pair (show i.toNat < r1.length by omega), samePs_cons]
        cases hc : N.eqP (rowP (r0.getD i.toNat [])) (rowP (r1.getD i.toNat [])) with
        | true =>
          refine .inl ⟨i + 1, by omega, by omega, fun K => ?_, fun K => ?_⟩
          · rw [q_refSameR]
            unfold N.eqP rowP at hc
            simp (disch := omega) only [evs, hc, Bool.not_true]
          · rw [cond_true, show (i + 1).toNat = i.toNat + 1 by omega]
        | false =>
          refine .inr ⟨.ret, { fr := [(4, .bool false)], tab := [] }, by simp, fun K => ?_, fun K => rfl⟩
          rw [q_refSameR]
          unfold N.eqP rowP at hc
          simp (disch := omega) only [evs, hc, Bool.not_false]
      · refine .inr ⟨.exit 0, { fr := [], tab := [] }, by simp, fun K => ?_, fun K => ?_⟩
        · rw [q_refSameR]
          simp (disch := omega) only [evs]
        · rw [List.drop_eq_nil_of_le (by rw [rowsP_length]; omega), List.drop_eq_nil_of_le (by rw [rowsP_length]; omega)]; rfl
    · cases h
  · obtain ⟨a, b⟩ := a
    have h : a.length ≤ 1000000 := ble_of h
    refine (q_refSame a b).trans ?_
    show _ = some (⟨.bool (N.samePs a b), [], []⟩ : DRes)
    by_cases hl : a.length = b.length
    · simp (disch := omega) only [evs, pairs_enc, hl, List.drop_zero]
      cases N.samePs a b <;> rfl
    · rw [samePs_len a b hl]
      simp (disch := omega) only [evs]
def schLight : SSch := { fr := [(8, .slc [.str, .int .u8, .int .i64, .str]), (9, .int .i64), (10, .int .i64)], tab := [] }
def gLight : List Leaf → (Ex → St → Option R) → Option R
  | [.r r8, .i i9, .i i10], K => cond (i9 == r8.length) (cond (ile 0 i10) (cond (Nat.ble r8.length LIM) (cond (((rowsP r8).drop i10.toNat).all N.lightP) (K (.exit 0) { fr := [], tab := [] }) (K .ret { fr := [(2, .bool false)], tab := [] })) none) none) none
  | _, _ => none
noncomputable def eLight : Env := env Tryz.prog [] [(4, loopF schLight gLight)] [(4, [(0, [8, 9, 10]), (1, []), (1000, [2])])]
theorem q_light (h : List HPair) : evFn eLight 25 ((aOne (vSl cPair)).enc h) ([]) some =
 cond (ilt (12 : Int) (↑(List.length (List.map (fun p => [V.str (HPair.key p), V.int IntKind.u8 (HPair.kind p), V.int IntKind.i64 (HPair.num p), V.str (HPair.text p)]) h)) : Int)) (some { v := V.bool false, bx := [] : DRes }) (cond ((↑(List.length (List.map (fun p => [V.str (HPair.key p), V.int IntKind.u8 (HPair.kind p), V.int IntKind.i64 (HPair.num p), V.str (HPair.text p)]) h)) : Int) == (↑(List.length (List.map (fun p => [V.str (HPair.key p), V.int IntKind.u8 (HPair.kind p), V.int IntKind.i64 (HPair.num p), V.str (HPair.text p)]) h)) : Int)) (cond (Nat.ble (List.length (List.map (fun p => [V.str (HPair.key p), V.int IntKind.u8 (HPair.kind p), V.int IntKind.i64 (HPair.num p), V.str (HPair.text p)]) h)) (1000000 : Nat)) (cond (List.all (List.drop (0 : Nat) (List.map (fun r => { key := V.toStr (List.getD r (0 : Nat) V.undef), kind := V.toInt (List.getD r (1 : Nat) V.undef), num := V.toInt (List.getD r (2 : Nat) V.undef), text := V.toStr (List.getD r (3 : Nat) V.undef) : HPair }) (List.map (fun p => [V.str (HPair.key p), V.int IntKind.u8 (HPair.kind p), V.int IntKind.i64 (HPair.num p), V.str (HPair.text p)]) h))) N.lightP) (some { v := V.bool true, bx := [] : DRes }) (some { v := V.bool false, bx := [] : DRes })) (none)) (none)) := by kernel_rfl
theorem q_lightR (r8 : List (List V)) (i9 : Int) (i10 : Int) (K : Ex → St → Option R) : evRound eLight 25 4 { fr := [(8, .slc [.str, .int .u8, .int .i64, .str] r8), (9, .int .i64 i9), (10, .int .i64 i10)], tab := [] } K =
 cond (ilt i10 i9) (cond (decide ((0 : Int) ≤ i10 ∧ i10 < (↑(List.length r8) : Int))) (cond (ilt (40 : Int) (↑(List.length (V.toStr (List.getD (List.getD r8 (Int.toNat i10) []) (0 : Nat) V.undef))) : Int)) (K Ex.ret { fr := [((2 : Nat), V.bool false)], tab := [] : St }) (cond (ilt (100 : Int) (↑(List.length (V.toStr (List.getD (List.getD r8 (Int.toNat i10) []) (3 : Nat) V.undef))) : Int)) (K Ex.ret { fr := [((2 : Nat), V.bool false)], tab := [] : St }) (K Ex.normal { fr := [((8 : Nat), V.slc [Sh.str, Sh.int IntKind.u8, Sh.int IntKind.i64, Sh.str] r8), ((9 : Nat), V.int IntKind.i64 i9), ((10 : Nat), V.int IntKind.i64 (IntKind.wrap IntKind.i64 (i10 + (1 : Int))))], tab := [] : St }))) (none)) (K (Ex.exit (0 : Nat)) { fr := [], tab := [] : St }) := by kernel_rfl
theorem ok_light : FnOk Tryz.prog 25 dLight := by
  refine den_okF (env_ok (TOk.nil _)) (E := eLight) Tryz.func25 [4] (by kernel_rfl) (one1 (rounds_of rfl fun l K q h => ?_)) fun h _ _ => ?_
  · unfold gLight at h
    split at h
    · rename_i r n i
      have h1 := (cond_none h).1; replace h := (cond_none h).2; have h2 := (cond_none h).1; replace h := (cond_none h).2; have h3 := (cond_none h).1; replace h := (cond_none h).2
      have e1 := ieq_of h1
      subst e1
      have h3 : r.length ≤ 1000000 := ble_of h3
      refine loop_ind (E := eLight) (f := 25) (id := 4) (fun i : Int => { fr := [(8, .slc [.str, .int .u8, .int .i64, .str] r), (9, .int .i64 r.length), (10, .int .i64 i)], tab := [] }) (fun i => 0 ≤ i) (fun i => r.length - i.toNat)
        (fun i K => cond (((rowsP r).drop i.toNat).all N.lightP) (K (.exit 0) { fr := [], tab := [] }) (K .ret { fr := [(2, .bool false)], tab := [] })) (fun i hi => ?_) i (ile_of h2) K q (by assumption)
      by_cases hl : i < r.length
      · rw [drop_pair (show i.toNat < r.length by omega), List.all_cons]
        cases hc : N.lightP (rowP (r.getD i.toNat [])) with
        | true =>
          refine .inl ⟨i + 1, by omega, by omega, fun K => ?_, fun K => ?_⟩
          · rw [q_lightR]
            simp (disch := omega) only [evs]
            revert hc
            unfold N.lightP rowP
            cases ilt 40 (V.toStr (List.getD (List.getD r i.toNat []) 0 V.undef)).length <;> cases ilt 100 (V.toStr (List.getD (List.getD r i.toNat []) 3 V.undef)).length <;> intro hc <;> first | rfl | cases hc
          · rw [Bool.true_and, show (i + 1).toNat = i.toNat + 1 by omega]
        | false =>
          refine .inr ⟨.ret, { fr := [(2, .bool false)], tab := [] }, by simp, fun K => ?_, fun K => rfl⟩
          rw [q_lightR]
          simp (disch := omega) only [evs]
          revert hc
          unfold N.lightP rowP
          cases ilt 40 (V.toStr (List.getD (List.getD r i.toNat []) 0 V.undef)).length <;> cases ilt 100 (V.toStr (List.getD (List.getD r i.toNat []) 3 V.undef)).length <;> intro hc <;> first | rfl | cases hc
      · refine .inr ⟨.exit 0, { fr := [], tab := [] }, by simp, fun K => ?_, fun K => ?_⟩
        · rw [q_lightR]
          simp (disch := omega) only [evs]
        · rw [List.drop_eq_nil_of_le (by rw [rowsP_length]; omega)]; rfl
    · cases h
  · refine (q_light h).trans ?_
    show _ = some (⟨.bool (N.light h), [], []⟩ : DRes)
    unfold N.light
    by_cases hl : 12 < h.length
    · simp (disch := omega) only [evs]
    · simp (disch := omega) only [evs, pairs_enc, List.drop_zero]
      cases h.all N.lightP <;> rfl
noncomputable def eFindFn : Env := env Tryz.prog [] [] []
theorem q_findFn (p : HPair) (key : Bytes) : evFn eFindFn 92 ((aCons (vAgg cPair) (aOne (vPtr 0))).enc (p, ())) ((bOne rStr).enc key) some =
 some { v := V.bool (HPair.key p == key), bx := [[V.str key]] : DRes } := by kernel_rfl
theorem ok_findFn : FnOk Tryz.prog 92 dFindFn := den_okF (env_ok (TOk.nil _)) (E := eFindFn) Tryz.func92 [] (by kernel_rfl) none0 fun a key _ => q_findFn a.1 key
def schIxf : SSch := { fr := [(0, .slc [.str, .int .u8, .int .i64, .str]), (1, .fn 92 [] [.ptr 0 0 0]), (7, .int .i64), (8, .int .i64)], tab := [(0, .var [.str])] }
def gIxf : List Leaf → (Ex → St → Option R) → Option R
  | [.r r0, .i i7, .i i8, .s key], K => cond (i7 == r0.length) (cond (ile 0 i8) (cond (Nat.ble r0.length LIM)
      (cond (ile 0 (N.findIx key ((rowsP r0).drop i8.toNat) i8)) (K .ret { fr := [(4, .int .i64 (N.findIx key ((rowsP r0).drop i8.toNat) i8))], tab := [(0, .var [.str key])] }) (K (.exit 0) { fr := [], tab := [(0, .var [.str key])] })) none) none) none
  | _, _ => none
noncomputable def eIxf : Env := env Tryz.prog [(92, dFindFn)] [(2, loopF schIxf gIxf)] [(2, [(0, [0, 1, 7, 8]), (1, []), (1000, [4])])]
theorem q_ixf (h : List HPair) (key : Bytes) : evFn eIxf 91 ((aCons (vSl cPair) (aOne (vFn 92 0))).enc (h, ())) ((bOne rStr).enc key) some =
 cond ((↑(List.length (List.map (fun p => [V.str (HPair.key p), V.int IntKind.u8 (HPair.kind p), V.int IntKind.i64 (HPair.num p), V.str (HPair.text p)]) h)) : Int) == (↑(List.length (List.map (fun p => [V.str (HPair.key p), V.int IntKind.u8 (HPair.kind p), V.int IntKind.i64 (HPair.num p), V.str (HPair.text p)]) h)) : Int)) (cond (Nat.ble (List.length (List.map (fun p => [V.str (HPair.key p), V.int IntKind.u8 (HPair.kind p), V.int IntKind.i64 (HPair.num p), V.str (HPair.text p)]) h)) (1000000 : Nat)) (cond (ile (0 : Int) (N.findIx key (List.drop (0 : Nat) (List.map (fun r => { key := V.toStr (List.getD r (0 : Nat) V.undef), kind := V.toInt (List.getD r (1 : Nat) V.undef), num := V.toInt (List.getD r (2 : Nat) V.undef), text := V.toStr (List.getD r (3 : Nat) V.undef) : HPair }) (List.map (fun p => [V.str (HPair.key p), V.int IntKind.u8 (HPair.kind p), V.int IntKind.i64 (HPair.num p), V.str (HPair.text p)]) h))) (0 : Int))) (some { v := V.int IntKind.i64 (N.findIx key (List.drop (0 : Nat) (List.map (fun r => { key := V.toStr (List.getD r (0 : Nat) V.undef), kind := V.toInt (List.getD r (1 : Nat) V.undef), num := V.toInt (List.getD r (2 : Nat) V.undef), text := V.toStr (List.getD r (3 : Nat) V.undef) : HPair }) (List.map (fun p => [V.str (HPair.key p), V.int IntKind.u8 (HPair.kind p), V.int IntKind.i64 (HPair.num p), V.str (HPair.text p)]) h))) (0 : Int)), bx := [[V.str key]] : DRes }) (some { v := V.int IntKind.i64 (-1 : Int), bx := [[V.str key]] : DRes })) (none)) (none) := by kernel_rfl
theorem q_ixfR (r0 : List (List V)) (i7 : Int) (i8 : Int) (sx0 : Bytes) (K : Ex → St → Option R) : evRound eIxf 91 2 { fr := [(0, .slc [.str, .int .u8, .int .i64, .str] r0), (1, .fn 92 [] [.ptr 0 0 0 0]), (7, .int .i64 i7), (8, .int .i64 i8)], tab := [(0, .var [.str sx0])] } K =
 cond (ilt i8 i7) (cond (decide ((0 : Int) ≤ i8 ∧ i8 < (↑(List.length r0) : Int))) (cond (V.toStr (List.getD (List.getD r0 (Int.toNat i8) []) (0 : Nat) V.undef) == sx0) (K Ex.ret { fr := [((4 : Nat), V.int IntKind.i64 i8)], tab := [((0 : Nat), Box.var [V.str sx0])] : St }) (K Ex.normal { fr := [((0 : Nat), V.slc [Sh.str, Sh.int IntKind.u8, Sh.int IntKind.i64, Sh.str] r0), ((1 : Nat), V.fn 92 [] [V.ptr (0 : Nat) (0 : Nat) (0 : Nat) (0 : Nat)]), ((7 : Nat), V.int IntKind.i64 i7), ((8 : Nat), V.int IntKind.i64 (IntKind.wrap IntKind.i64 (i8 + (1 : Int))))], tab := [((0 : Nat), Box.var [V.str sx0])] : St })) (none)) (K (Ex.exit (0 : Nat)) { fr := [], tab := [((0 : Nat), Box.var [V.str sx0])] : St }) := by kernel_rfl
theorem ok_ixf : FnOk Tryz.prog 91 (dIndexFn 92) := by
  refine den_okF (env_ok ((TOk.nil _).cons ok_findFn)) (E := eIxf) Tryz.func91 [2] (by kernel_rfl) (one1 (rounds_of rfl fun l K q h => ?_)) fun a key h => ?_
  · unfold gIxf at h
    split at h
    · rename_i r n i key
      have h1 := (cond_none h).1; replace h := (cond_none h).2; have h2 := (cond_none h).1; replace h := (cond_none h).2; have h3 := (cond_none h).1; replace h := (cond_none h).2
      have e1 := ieq_of h1
      subst e1
      have h3 : r.length ≤ 1000000 := ble_of h3
      refine loop_ind (E := eIxf) (f := 91) (id := 2) (fun i : Int => { fr := [(0, .slc [.str, .int .u8, .int .i64, .str] r), (1, .fn 92 [] [.ptr 0 0 0 0]), (7, .int .i64 r.length), (8, .int .i64 i)], tab := [(0, .var [.str key])] }) (fun i => 0 ≤ i) (fun i => r.length - i.toNat)
        (fun i8 K => cond (ile 0 (N.findIx key ((rowsP r).drop i8.toNat) i8)) (K .ret { fr := [(4, .int .i64 (N.findIx key ((rowsP r).drop i8.toNat) i8))], tab := [(0, .var [.str key])] }) (K (.exit 0) { fr := [], tab := [(0, .var [.str key])] })) (fun i hi => ?_) i (ile_of h2) K q (by assumption)
      by_cases hl : i < r.length
      · rw [drop_pair (show i.toNat < r.length by omega)]
        have e : N.findIx key (rowP (r.getD i.toNat []) :: (rowsP r).drop (i.toNat + 1)) i = cond ((rowP (r.getD i.toNat [])).key == key) i (N.findIx key ((rowsP r).drop (i.toNat + 1)) (i + 1)) := rfl
        rw [e]
        cases hc : (rowP (r.getD i.toNat [])).key == key with
        | true =>
          rw [cond_true, ile_t hi]
          refine .inr ⟨.ret, _, by simp, fun K => ?_, fun K => rfl⟩
          rw [q_ixfR]
          unfold rowP at hc
          simp (disch := omega) only [evs, hc]
        | false =>
          refine .inl ⟨i + 1, by omega, by omega, fun K => ?_, fun K => ?_⟩
          · rw [q_ixfR]
            unfold rowP at hc
            simp (disch := omega) only [evs, hc]
          · rw [cond_false, show (i + 1).toNat = i.toNat + 1 by omega]
      · refine .inr ⟨.exit 0, { fr := [], tab := [(0, .var [.str key])] }, by simp, fun K => ?_, fun K => ?_⟩
        · rw [q_ixfR]
          simp (disch := omega) only [evs]
        · rw [List.drop_eq_nil_of_le (by rw [rowsP_length]; omega)]; rfl
    · cases h
  · obtain ⟨l, u⟩ := a
    have h : l.length ≤ 1000000 := ble_of h
    refine (q_ixf l key).trans ?_
    show _ = some (⟨.int .i64 (N.findIx key l 0), [[.str key]], []⟩ : DRes)
    simp (disch := omega) only [evs, pairs_enc, List.drop_zero]
    rcases findIx_lt key l 0 (Int.le_refl _) with e | ⟨e, _⟩
    · rw [e]; rfl
    · rw [ile_t e]; rfl
noncomputable def eFind : Env := env Tryz.prog [(91, dIndexFn 92)] [] []
theorem q_find (h : List HPair) (key : Bytes) : evFn eFind 86 ((aCons (vSl cPair) (aOne vStr)).enc (h, key)) ([]) some =
 cond (Nat.ble (List.length (List.map (fun r => { key := V.toStr (List.getD r (0 : Nat) V.undef), kind := V.toInt (List.getD r (1 : Nat) V.undef), num := V.toInt (List.getD r (2 : Nat) V.undef), text := V.toStr (List.getD r (3 : Nat) V.undef) : HPair }) (List.map (fun p => [V.str (HPair.key p), V.int IntKind.u8 (HPair.kind p), V.int IntKind.i64 (HPair.num p), V.str (HPair.text p)]) h))) (1000000 : Nat)) (cond (ilt (N.findIx key (List.map (fun r => { key := V.toStr (List.getD r (0 : Nat) V.undef), kind := V.toInt (List.getD r (1 : Nat) V.undef), num := V.toInt (List.getD r (2 : Nat) V.undef), text := V.toStr (List.getD r (3 : Nat) V.undef) : HPair }) (List.map (fun p => [V.str (HPair.key p), V.int IntKind.u8 (HPair.kind p), V.int IntKind.i64 (HPair.num p), V.str (HPair.text p)]) h)) (0 : Int)) (0 : Int)) (some { v := V.tup [V.agg [V.str [], V.int IntKind.u8 (0 : Int), V.int IntKind.i64 (0 : Int), V.str []], V.bool false], bx := [] : DRes }) (cond (decide ((0 : Int) ≤ N.findIx key (List.map (fun r => { key := V.toStr (List.getD r (0 : Nat) V.undef), kind := V.toInt (List.getD r (1 : Nat) V.undef), num := V.toInt (List.getD r (2 : Nat) V.undef), text := V.toStr (List.getD r (3 : Nat) V.undef) : HPair }) (List.map (fun p => [V.str (HPair.key p), V.int IntKind.u8 (HPair.kind p), V.int IntKind.i64 (HPair.num p), V.str (HPair.text p)]) h)) (0 : Int) ∧ N.findIx key (List.map (fun r => { key := V.toStr (List.getD r (0 : Nat) V.undef), kind := V.toInt (List.getD r (1 : Nat) V.undef), num := V.toInt (List.getD r (2 : Nat) V.undef), text := V.toStr (List.getD r (3 : Nat) V.undef) : HPair }) (List.map (fun p => [V.str (HPair.key p), V.int IntKind.u8 (HPair.kind p), V.int IntKind.i64 (HPair.num p), V.str (HPair.text p)]) h)) (0 : Int) < (↑(List.length (List.map (fun p => [V.str (HPair.key p), V.int IntKind.u8 (HPair.kind p), V.int IntKind.i64 (HPair.num p), V.str (HPair.text p)]) h)) : Int))) (some { v := V.tup [V.agg [V.str (V.toStr (List.getD (List.getD (List.map (fun p => [V.str (HPair.key p), V.int IntKind.u8 (HPair.kind p), V.int IntKind.i64 (HPair.num p), V.str (HPair.text p)]) h) (Int.toNat (N.findIx key (List.map (fun r => { key := V.toStr (List.getD r (0 : Nat) V.undef), kind := V.toInt (List.getD r (1 : Nat) V.undef), num := V.toInt (List.getD r (2 : Nat) V.undef), text := V.toStr (List.getD r (3 : Nat) V.undef) : HPair }) (List.map (fun p => [V.str (HPair.key p), V.int IntKind.u8 (HPair.kind p), V.int IntKind.i64 (HPair.num p), V.str (HPair.text p)]) h)) (0 : Int))) []) (0 : Nat) V.undef)), V.int IntKind.u8 (V.toInt (List.getD (List.getD (List.map (fun p => [V.str (HPair.key p), V.int IntKind.u8 (HPair.kind p), V.int IntKind.i64 (HPair.num p), V.str (HPair.text p)]) h) (Int.toNat (N.findIx key (List.map (fun r => { key := V.toStr (List.getD r (0 : Nat) V.undef), kind := V.toInt (List.getD r (1 : Nat) V.undef), num := V.toInt (List.getD r (2 : Nat) V.undef), text := V.toStr (List.getD r (3 : Nat) V.undef) : HPair }) (List.map (fun p => [V.str (HPair.key p), V.int IntKind.u8 (HPair.kind p), V.int IntKind.i64 (HPair.num p), V.str (HPair.text p)]) h)) (0 : Int))) []) (1 : Nat) V.undef)), V.int IntKind.i64 (V.toInt (List.getD (List.getD (List.map (fun p => [V.str (HPair.key p), V.int IntKind.u8 (HPair.kind p), V.int IntKind.i64 (HPair.num p), V.str (HPair.text p)]) h) (Int.toNat (N.findIx key (List.map (fun r => { key := V.toStr (List.getD r (0 : Nat) V.undef), kind := V.toInt (List.getD r (1 : Nat) V.undef), num := V.toInt (List.getD r (2 : Nat) V.undef), text := V.toStr (List.getD r (3 : Nat) V.undef) : HPair }) (List.map (fun p => [V.str (HPair.key p), V.int IntKind.u8 (HPair.kind p), V.int IntKind.i64 (HPair.num p), V.str (HPair.text p)]) h)) (0 : Int))) []) (2 : Nat) V.undef)), V.str (V.toStr (List.getD (List.getD (List.map (fun p => [V.str (HPair.key p), V.int IntKind.u8 (HPair.kind p), V.int IntKind.i64 (HPair.num p), V.str (HPair.text p)]) h) (Int.toNat (N.findIx key (List.map (fun r => { key := V.toStr (List.getD r (0 : Nat) V.undef), kind := V.toInt (List.getD r (1 : Nat) V.undef), num := V.toInt (List.getD r (2 : Nat) V.undef), text := V.toStr (List.getD r (3 : Nat) V.undef) : HPair }) (List.map (fun p => [V.str (HPair.key p), V.int IntKind.u8 (HPair.kind p), V.int IntKind.i64 (HPair.num p), V.str (HPair.text p)]) h)) (0 : Int))) []) (3 : Nat) V.undef))], V.bool true], bx := [] : DRes }) (none))) (none) := by kernel_rfl
theorem ok_find : FnOk Tryz.prog 86 dFind := by
  refine den_okF (env_ok ((TOk.nil _).cons ok_ixf)) (E := eFind) Tryz.func86 [] (by kernel_rfl) none0 fun a _ h => ?_
  obtain ⟨l, key⟩ := a
  have h : l.length ≤ 1000000 := ble_of h
  refine (q_find l key).trans ?_
  show _ = some (⟨.tup [.agg [.str (N.find l key).1.key, .int .u8 (N.find l key).1.kind, .int .i64 (N.find l key).1.num, .str (N.find l key).1.text], .bool (N.find l key).2], [], []⟩ : DRes)
  unfold N.find
  simp (disch := omega) only [evs, pairs_enc, pairs_get]
  rcases findIx_lt key l 0 (Int.le_refl _) with e | ⟨e1, e2⟩
  · rw [e]; rfl
  · simp (disch := omega) only [evs]
noncomputable def ePairE : Env := env Tryz.prog [(60, dName), (86, dFind)] [] []
theorem q_pairE (p : HPair) (l : List HPair) : evFn ePairE 77 ((aCons (vAgg cPair) (aOne (vSl cPair))).enc (p, l)) ([]) some =
 cond (N.name (HPair.key p) != (0 : Int)) (some { v := V.int IntKind.i64 (N.name (HPair.key p)), bx := [] : DRes }) (cond (Nat.ble (List.length (List.map (fun r => { key := V.toStr (List.getD r (0 : Nat) V.undef), kind := V.toInt (List.getD r (1 : Nat) V.undef), num := V.toInt (List.getD r (2 : Nat) V.undef), text := V.toStr (List.getD r (3 : Nat) V.undef) : HPair }) (List.map (fun p => [V.str (HPair.key p), V.int IntKind.u8 (HPair.kind p), V.int IntKind.i64 (HPair.num p), V.str (HPair.text p)]) l))) (1000000 : Nat)) (cond (ilt (2 : Int) (HPair.kind p)) (some { v := V.int IntKind.i64 (8 : Int), bx := [] : DRes }) (cond (HPair.kind p == (1 : Int)) (cond (ilt (64 : Int) (↑(List.length (HPair.text p)) : Int)) (some { v := V.int IntKind.i64 (5 : Int), bx := [] : DRes }) (cond (HPair.kind p == (2 : Int)) (cond (HPair.num p != (0 : Int)) (cond (HPair.num p != (1 : Int)) (some { v := V.int IntKind.i64 (7 : Int), bx := [] : DRes }) (cond (HPair.kind p == (1 : Int)) (cond (HPair.num p != (0 : Int)) (cond (HPair.num p != (0 : Int)) (some { v := V.int IntKind.i64 (4 : Int), bx := [] : DRes }) (cond (Prod.snd (N.find (List.map (fun r => { key := V.toStr (List.getD r (0 : Nat) V.undef), kind := V.toInt (List.getD r (1 : Nat) V.undef), num := V.toInt (List.getD r (2 : Nat) V.undef), text := V.toStr (List.getD r (3 : Nat) V.undef) : HPair }) (List.map (fun p => [V.str (HPair.key p), V.int IntKind.u8 (HPair.kind p), V.int IntKind.i64 (HPair.num p), V.str (HPair.text p)]) l)) (HPair.key p))) (some { v := V.int IntKind.i64 (9 : Int), bx := [] : DRes }) (some { v := V.int IntKind.i64 (0 : Int), bx := [] : DRes }))) (cond (HPair.kind p != (1 : Int)) (cond (!HPair.text p == []) (some { v := V.int IntKind.i64 (4 : Int), bx := [] : DRes }) (cond (Prod.snd (N.find (List.map (fun r => { key := V.toStr (List.getD r (0 : Nat) V.undef), kind := V.toInt (List.getD r (1 : Nat) V.undef), num := V.toInt (List.getD r (2 : Nat) V.undef), text := V.toStr (List.getD r (3 : Nat) V.undef) : HPair }) (List.map (fun p => [V.str (HPair.key p), V.int IntKind.u8 (HPair.kind p), V.int IntKind.i64 (HPair.num p), V.str (HPair.text p)]) l)) (HPair.key p))) (some { v := V.int IntKind.i64 (9 : Int), bx := [] : DRes }) (some { v := V.int IntKind.i64 (0 : Int), bx := [] : DRes }))) (cond (Prod.snd (N.find (List.map (fun r => { key := V.toStr (List.getD r (0 : Nat) V.undef), kind := V.toInt (List.getD r (1 : Nat) V.undef), num := V.toInt (List.getD r (2 : Nat) V.undef), text := V.toStr (List.getD r (3 : Nat) V.undef) : HPair }) (List.map (fun p => [V.str (HPair.key p), V.int IntKind.u8 (HPair.kind p), V.int IntKind.i64 (HPair.num p), V.str (HPair.text p)]) l)) (HPair.key p))) (some { v := V.int IntKind.i64 (9 : Int), bx := [] : DRes }) (some { v := V.int IntKind.i64 (0 : Int), bx := [] : DRes })))) (cond (HPair.kind p != (1 : Int)) (cond (!HPair.text p == []) (some { v := V.int IntKind.i64 (4 : Int), bx := [] : DRes }) (cond (Prod.snd (N.find (List.map (fun r => { key := V.toStr (List.getD r (0 : Nat) V.undef), kind := V.toInt (List.getD r (1 : Nat) V.undef), num := V.toInt (List.getD r (2 : Nat) V.undef), text := V.toStr (List.getD r (3 : Nat) V.undef) : HPair }) (List.map (fun p => [V.str (HPair.key p), V.int IntKind.u8 (HPair.kind p), V.int IntKind.i64 (HPair.num p), V.str (HPair.text p)]) l)) (HPair.key p))) (some { v := V.int IntKind.i64 (9 : Int), bx := [] : DRes }) (some { v := V.int IntKind.i64 (0 : Int), bx := [] : DRes }))) (cond (Prod.snd (N.find (List.map (fun r => { key := V.toStr (List.getD r (0 : Nat) V.undef), kind := V.toInt (List.getD r (1 : Nat) V.undef), num := V.toInt (List.getD r (2 : Nat) V.undef), text := V.toStr (List.getD r (3 : Nat) V.undef) : HPair }) (List.map (fun p => [V.str (HPair.key p), V.int IntKind.u8 (HPair.kind p), V.int IntKind.i64 (HPair.num p), V.str (HPair.text p)]) l)) (HPair.key p))) (some { v := V.int IntKind.i64 (9 : Int), bx := [] : DRes }) (some { v := V.int IntKind.i64 (0 : Int), bx := [] : DRes }))))) (cond (HPair.kind p == (1 : Int)) (cond (HPair.num p != (0 : Int)) (cond (HPair.num p != (0 : Int)) (some { v := V.int IntKind.i64 (4 : Int), bx := [] : DRes }) (cond (Prod.snd (N.find (List.map (fun r => { key := V.toStr (List.getD r (0 : Nat) V.undef), kind := V.toInt (List.getD r (1 : Nat) V.undef), num := V.toInt (List.getD r (2 : Nat) V.undef), text := V.toStr (List.getD r (3 : Nat) V.undef) : HPair }) (List.map (fun p => [V.str (HPair.key p), V.int IntKind.u8 (HPair.kind p), V.int IntKind.i64 (HPair.num p), V.str (HPair.text p)]) l)) (HPair.key p))) (some { v := V.int IntKind.i64 (9 : Int), bx := [] : DRes }) (some { v := V.int IntKind.i64 (0 : Int), bx := [] : DRes }))) (cond (HPair.kind p != (1 : Int)) (cond (!HPair.text p == []) (some { v := V.int IntKind.i64 (4 : Int), bx := [] : DRes }) (cond (Prod.snd (N.find (List.map (fun r => { key := V.toStr (List.getD r (0 : Nat) V.undef), kind := V.toInt (List.getD r (1 : Nat) V.undef), num := V.toInt (List.getD r (2 : Nat) V.undef), text := V.toStr (List.getD r (3 : Nat) V.undef) : HPair }) (List.map (fun p => [V.str (HPair.key p), V.int IntKind.u8 (HPair.kind p), V.int IntKind.i64 (HPair.num p), V.str (HPair.text p)]) l)) (HPair.key p))) (some { v := V.int IntKind.i64 (9 : Int), bx := [] : DRes }) (some { v := V.int IntKind.i64 (0 : Int), bx := [] : DRes }))) (cond (Prod.snd (N.find (List.map (fun r => { key := V.toStr (List.getD r (0 : Nat) V.undef), kind := V.toInt (List.getD r (1 : Nat) V.undef), num := V.toInt (List.getD r (2 : Nat) V.undef), text := V.toStr (List.getD r (3 : Nat) V.undef) : HPair }) (List.map (fun p => [V.str (HPair.key p), V.int IntKind.u8 (HPair.kind p), V.int IntKind.i64 (HPair.num p), V.str (HPair.text p)]) l)) (HPair.key p))) (some { v := V.int IntKind.i64 (9 : Int), bx := [] : DRes }) (some { v := V.int IntKind.i64 (0 : Int), bx := [] : DRes })))) (cond (HPair.kind p != (1 : Int)) (cond (!HPair.text p == []) (some { v := V.int IntKind.i64 (4 : Int), bx := [] : DRes }) (cond (Prod.snd (N.find (List.map (fun r => { key := V.toStr (List.getD r (0 : Nat) V.undef), kind := V.toInt (List.getD r (1 : Nat) V.undef), num := V.toInt (List.getD r (2 : Nat) V.undef), text := V.toStr (List.getD r (3 : Nat) V.undef) : HPair }) (List.map (fun p => [V.str (HPair.key p), V.int IntKind.u8 (HPair.kind p), V.int IntKind.i64 (HPair.num p), V.str (HPair.text p)]) l)) (HPair.key p))) (some { v := V.int IntKind.i64 (9 : Int), bx := [] : DRes }) (some { v := V.int IntKind.i64 (0 : Int), bx := [] : DRes }))) (cond (Prod.snd (N.find (List.map (fun r => { key := V.toStr (List.getD r (0 : Nat) V.undef), kind := V.toInt (List.getD r (1 : Nat) V.undef), num := V.toInt (List.getD r (2 : Nat) V.undef), text := V.toStr (List.getD r (3 : Nat) V.undef) : HPair }) (List.map (fun p => [V.str (HPair.key p), V.int IntKind.u8 (HPair.kind p), V.int IntKind.i64 (HPair.num p), V.str (HPair.text p)]) l)) (HPair.key p))) (some { v := V.int IntKind.i64 (9 : Int), bx := [] : DRes }) (some { v := V.int IntKind.i64 (0 : Int), bx := [] : DRes }))))) (cond (HPair.kind p == (1 : Int)) (cond (HPair.num p != (0 : Int)) (cond (HPair.num p != (0 : Int)) (some { v := V.int IntKind.i64 (4 : Int), bx := [] : DRes }) (cond (Prod.snd (N.find (List.map (fun r => { key := V.toStr (List.getD r (0 : Nat) V.undef), kind := V.toInt (List.getD r (1 : Nat) V.undef), num := V.toInt (List.getD r (2 : Nat) V.undef), text := V.toStr (List.getD r (3 : Nat) V.undef) : HPair }) (List.map (fun p => [V.str (HPair.key p), V.int IntKind.u8 (HPair.kind p), V.int IntKind.i64 (HPair.num p), V.str (HPair.text p)]) l)) (HPair.key p))) (some { v := V.int IntKind.i64 (9 : Int), bx := [] : DRes }) (some { v := V.int IntKind.i64 (0 : Int), bx := [] : DRes }))) (cond (HPair.kind p != (1 : Int)) (cond (!HPair.text p == []) (some { v := V.int IntKind.i64 (4 : Int), bx := [] : DRes }) (cond (Prod.snd (N.find (List.map (fun r => { key := V.toStr (List.getD r (0 : Nat) V.undef), kind := V.toInt (List.getD r (1 : Nat) V.undef), num := V.toInt (List.getD r (2 : Nat) V.undef), text := V.toStr (List.getD r (3 : Nat) V.undef) : HPair }) (List.map (fun p => [V.str (HPair.key p), V.int IntKind.u8 (HPair.kind p), V.int IntKind.i64 (HPair.num p), V.str (HPair.text p)]) l)) (HPair.key p))) (some { v := V.int IntKind.i64 (9 : Int), bx := [] : DRes }) (some { v := V.int IntKind.i64 (0 : Int), bx := [] : DRes }))) (cond (Prod.snd (N.find (List.map (fun r => { key := V.toStr (List.getD r (0 : Nat) V.undef), kind := V.toInt (List.getD r (1 : Nat) V.undef), num := V.toInt (List.getD r (2 : Nat) V.undef), text := V.toStr (List.getD r (3 : Nat) V.undef) : HPair }) (List.map (fun p => [V.str (HPair.key p), V.int IntKind.u8 (HPair.kind p), V.int IntKind.i64 (HPair.num p), V.str (HPair.text p)]) l)) (HPair.key p))) (some { v := V.int IntKind.i64 (9 : Int), bx := [] : DRes }) (some { v := V.int IntKind.i64 (0 : Int), bx := [] : DRes })))) (cond (HPair.kind p != (1 : Int)) (cond (!HPair.text p == []) (some { v := V.int IntKind.i64 (4 : Int), bx := [] : DRes }) (cond (Prod.snd (N.find (List.map (fun r => { key := V.toStr (List.getD r (0 : Nat) V.undef), kind := V.toInt (List.getD r (1 : Nat) V.undef), num := V.toInt (List.getD r (2 : Nat) V.undef), text := V.toStr (List.getD r (3 : Nat) V.undef) : HPair }) (List.map (fun p => [V.str (HPair.key p), V.int IntKind.u8 (HPair.kind p), V.int IntKind.i64 (HPair.num p), V.str (HPair.text p)]) l)) (HPair.key p))) (some { v := V.int IntKind.i64 (9 : Int), bx := [] : DRes }) (some { v := V.int IntKind.i64 (0 : Int), bx := [] : DRes }))) (cond (Prod.snd (N.find (List.map (fun r => { key := V.toStr (List.getD r (0 : Nat) V.undef), kind := V.toInt (List.getD r (1 : Nat) V.undef), num := V.toInt (List.getD r (2 : Nat) V.undef), text := V.toStr (List.getD r (3 : Nat) V.undef) : HPair }) (List.map (fun p => [V.str (HPair.key p), V.int IntKind.u8 (HPair.kind p), V.int IntKind.i64 (HPair.num p), V.str (HPair.text p)]) l)) (HPair.key p))) (some { v := V.int IntKind.i64 (9 : Int), bx := [] : DRes }) (some { v := V.int IntKind.i64 (0 : Int), bx := [] : DRes })))))) (cond (HPair.kind p == (2 : Int)) (cond (HPair.num p != (0 : Int)) (cond (HPair.num p != (1 : Int)) (some { v := V.int IntKind.i64 (7 : Int), bx := [] : DRes }) (cond (HPair.kind p == (1 : Int)) (cond (HPair.num p != (0 : Int)) (cond (HPair.num p != (0 : Int)) (some { v := V.int IntKind.i64 (4 : Int), bx := [] : DRes }) (cond (Prod.snd (N.find (List.map (fun r => { key := V.toStr (List.getD r (0 : Nat) V.undef), kind := V.toInt (List.getD r (1 : Nat) V.undef), num := V.toInt (List.getD r (2 : Nat) V.undef), text := V.toStr (List.getD r (3 : Nat) V.undef) : HPair }) (List.map (fun p => [V.str (HPair.key p), V.int IntKind.u8 (HPair.kind p), V.int IntKind.i64 (HPair.num p), V.str (HPair.text p)]) l)) (HPair.key p))) (some { v := V.int IntKind.i64 (9 : Int), bx := [] : DRes }) (some { v := V.int IntKind.i64 (0 : Int), bx := [] : DRes }))) (cond (HPair.kind p != (1 : Int)) (cond (!HPair.text p == []) (some { v := V.int IntKind.i64 (4 : Int), bx := [] : DRes }) (cond (Prod.snd (N.find (List.map (fun r => { key := V.toStr (List.getD r (0 : Nat) V.undef), kind := V.toInt (List.getD r (1 : Nat) V.undef), num := V.toInt (List.getD r (2 : Nat) V.undef), text := V.toStr (List.getD r (3 : Nat) V.undef) : HPair }) (List.map (fun p => [V.str (HPair.key p), V.int IntKind.u8 (HPair.kind p), V.int IntKind.i64 (HPair.num p), V.str (HPair.text p)]) l)) (HPair.key p))) (some { v := V.int IntKind.i64 (9 : Int), bx := [] : DRes }) (some { v := V.int IntKind.i64 (0 : Int), bx := [] : DRes }))) (cond (Prod.snd (N.find (List.map (fun r => { key := V.toStr (List.getD r (0 : Nat) V.undef), kind := V.toInt (List.getD r (1 : Nat) V.undef), num := V.toInt (List.getD r (2 : Nat) V.undef), text := V.toStr (List.getD r (3 : Nat) V.undef) : HPair }) (List.map (fun p => [V.str (HPair.key p), V.int IntKind.u8 (HPair.kind p), V.int IntKind.i64 (HPair.num p), V.str (HPair.text p)]) l)) (HPair.key p))) (some { v := V.int IntKind.i64 (9 : Int), bx := [] : DRes }) (some { v := V.int IntKind.i64 (0 : Int), bx := [] : DRes })))) (cond (HPair.kind p != (1 : Int)) (cond (!HPair.text p == []) (some { v := V.int IntKind.i64 (4 : Int), bx := [] : DRes }) (cond (Prod.snd (N.find (List.map (fun r => { key := V.toStr (List.getD r (0 : Nat) V.undef), kind := V.toInt (List.getD r (1 : Nat) V.undef), num := V.toInt (List.getD r (2 : Nat) V.undef), text := V.toStr (List.getD r (3 : Nat) V.undef) : HPair }) (List.map (fun p => [V.str (HPair.key p), V.int IntKind.u8 (HPair.kind p), V.int IntKind.i64 (HPair.num p), V.str (HPair.text p)]) l)) (HPair.key p))) (some { v := V.int IntKind.i64 (9 : Int), bx := [] : DRes }) (some { v := V.int IntKind.i64 (0 : Int), bx := [] : DRes }))) (cond (Prod.snd (N.find (List.map (fun r => { key := V.toStr (List.getD r (0 : Nat) V.undef), kind := V.toInt (List.getD r (1 : Nat) V.undef), num := V.toInt (List.getD r (2 : Nat) V.undef), text := V.toStr (List.getD r (3 : Nat) V.undef) : HPair }) (List.map (fun p => [V.str (HPair.key p), V.int IntKind.u8 (HPair.kind p), V.int IntKind.i64 (HPair.num p), V.str (HPair.text p)]) l)) (HPair.key p))) (some { v := V.int IntKind.i64 (9 : Int), bx := [] : DRes }) (some { v := V.int IntKind.i64 (0 : Int), bx := [] : DRes }))))) (cond (HPair.kind p == (1 : Int)) (cond (HPair.num p != (0 : Int)) (cond (HPair.num p != (0 : Int)) (some { v := V.int IntKind.i64 (4 : Int), bx := [] : DRes }) (cond (Prod.snd (N.find (List.map (fun r => { key := V.toStr (List.getD r (0 : Nat) V.undef), kind := V.toInt (List.getD r (1 : Nat) V.undef), num := V.toInt (List.getD r (2 : Nat) V.undef), text := V.toStr (List.getD r (3 : Nat) V.undef) : HPair }) (List.map (fun p => [V.str (HPair.key p), V.int IntKind.u8 (HPair.kind p), V.int IntKind.i64 (HPair.num p), V.str (HPair.text p)]) l)) (HPair.key p))) (some { v := V.int IntKind.i64 (9 : Int), bx := [] : DRes }) (some { v := V.int IntKind.i64 (0 : Int), bx := [] : DRes }))) (cond (HPair.kind p != (1 : Int)) (cond (!HPair.text p == []) (some { v := V.int IntKind.i64 (4 : Int), bx := [] : DRes }) (cond (Prod.snd (N.find (List.map (fun r => { key := V.toStr (List.getD r (0 : Nat) V.undef), kind := V.toInt (List.getD r (1 : Nat) V.undef), num := V.toInt (List.getD r (2 : Nat) V.undef), text := V.toStr (List.getD r (3 : Nat) V.undef) : HPair }) (List.map (fun p => [V.str (HPair.key p), V.int IntKind.u8 (HPair.kind p), V.int IntKind.i64 (HPair.num p), V.str (HPair.text p)]) l)) (HPair.key p))) (some { v := V.int IntKind.i64 (9 : Int), bx := [] : DRes }) (some { v := V.int IntKind.i64 (0 : Int), bx := [] : DRes }))) (cond (Prod.snd (N.find (List.map (fun r => { key := V.toStr (List.getD r (0 : Nat) V.undef), kind := V.toInt (List.getD r (1 : Nat) V.undef), num := V.toInt (List.getD r (2 : Nat) V.undef), text := V.toStr (List.getD r (3 : Nat) V.undef) : HPair }) (List.map (fun p => [V.str (HPair.key p), V.int IntKind.u8 (HPair.kind p), V.int IntKind.i64 (HPair.num p), V.str (HPair.text p)]) l)) (HPair.key p))) (some { v := V.int IntKind.i64 (9 : Int), bx := [] : DRes }) (some { v := V.int IntKind.i64 (0 : Int), bx := [] : DRes })))) (cond (HPair.kind p != (1 : Int)) (cond (!HPair.text p == []) (some { v := V.int IntKind.i64 (4 : Int), bx := [] : DRes }) (cond (Prod.snd (N.find (List.map (fun r => { key := V.toStr (List.getD r (0 : Nat) V.undef), kind := V.toInt (List.getD r (1 : Nat) V.undef), num := V.toInt (List.getD r (2 : Nat) V.undef), text := V.toStr (List.getD r (3 : Nat) V.undef) : HPair }) (List.map (fun p => [V.str (HPair.key p), V.int IntKind.u8 (HPair.kind p), V.int IntKind.i64 (HPair.num p), V.str (HPair.text p)]) l)) (HPair.key p))) (some { v := V.int IntKind.i64 (9 : Int), bx := [] : DRes }) (some { v := V.int IntKind.i64 (0 : Int), bx := [] : DRes }))) (cond (Prod.snd (N.find (List.map (fun r => { key := V.toStr (List.getD r (0 : Nat) V.undef), kind := V.toInt (List.getD r (1 : Nat) V.undef), num := V.toInt (List.getD r (2 : Nat) V.undef), text := V.toStr (List.getD r (3 : Nat) V.undef) : HPair }) (List.map (fun p => [V.str (HPair.key p), V.int IntKind.u8 (HPair.kind p), V.int IntKind.i64 (HPair.num p), V.str (HPair.text p)]) l)) (HPair.key p))) (some { v := V.int IntKind.i64 (9 : Int), bx := [] : DRes }) (some { v := V.int IntKind.i64 (0 : Int), bx := [] : DRes }))))) (cond (HPair.kind p == (1 : Int)) (cond (HPair.num p != (0 : Int)) (cond (HPair.num p != (0 : Int)) (some { v := V.int IntKind.i64 (4 : Int), bx := [] : DRes }) (cond (Prod.snd (N.find (List.map (fun r => { key := V.toStr (List.getD r (0 : Nat) V.undef), kind := V.toInt (List.getD r (1 : Nat) V.undef), num := V.toInt (List.getD r (2 : Nat) V.undef), text := V.toStr (List.getD r (3 : Nat) V.undef) : HPair }) (List.map (fun p => [V.str (HPair.key p), V.int IntKind.u8 (HPair.kind p), V.int IntKind.i64 (HPair.num p), V.str (HPair.text p)]) l)) (HPair.key p))) (some { v := V.int IntKind.i64 (9 : Int), bx := [] : DRes }) (some { v := V.int IntKind.i64 (0 : Int), bx := [] : DRes }))) (cond (HPair.kind p != (1 : Int)) (cond (!HPair.text p == []) (some { v := V.int IntKind.i64 (4 : Int), bx := [] : DRes }) (cond (Prod.snd (N.find (List.map (fun r => { key := V.toStr (List.getD r (0 : Nat) V.undef), kind := V.toInt (List.getD r (1 : Nat) V.undef), num := V.toInt (List.getD r (2 : Nat) V.undef), text := V.toStr (List.getD r (3 : Nat) V.undef) : HPair }) (List.map (fun p => [V.str (HPair.key p), V.int IntKind.u8 (HPair.kind p), V.int IntKind.i64 (HPair.num p), V.str (HPair.text p)]) l)) (HPair.key p))) (some { v := V.int IntKind.i64 (9 : Int), bx := [] : DRes }) (some { v := V.int IntKind.i64 (0 : Int), bx := [] : DRes }))) (cond (Prod.snd (N.find (List.map (fun r => { key := V.toStr (List.getD r (0 : Nat) V.undef), kind := V.toInt (List.getD r (1 : Nat) V.undef), num := V.toInt (List.getD r (2 : Nat) V.undef), text := V.toStr (List.getD r (3 : Nat) V.undef) : HPair }) (List.map (fun p => [V.str (HPair.key p), V.int IntKind.u8 (HPair.kind p), V.int IntKind.i64 (HPair.num p), V.str (HPair.text p)]) l)) (HPair.key p))) (some { v := V.int IntKind.i64 (9 : Int), bx := [] : DRes }) (some { v := V.int IntKind.i64 (0 : Int), bx := [] : DRes })))) (cond (HPair.kind p != (1 : Int)) (cond (!HPair.text p == []) (some { v := V.int IntKind.i64 (4 : Int), bx := [] : DRes }) (cond (Prod.snd (N.find (List.map (fun r => { key := V.toStr (List.getD r (0 : Nat) V.undef), kind := V.toInt (List.getD r (1 : Nat) V.undef), num := V.toInt (List.getD r (2 : Nat) V.undef), text := V.toStr (List.getD r (3 : Nat) V.undef) : HPair }) (List.map (fun p => [V.str (HPair.key p), V.int IntKind.u8 (HPair.kind p), V.int IntKind.i64 (HPair.num p), V.str (HPair.text p)]) l)) (HPair.key p))) (some { v := V.int IntKind.i64 (9 : Int), bx := [] : DRes }) (some { v := V.int IntKind.i64 (0 : Int), bx := [] : DRes }))) (cond (Prod.snd (N.find (List.map (fun r => { key := V.toStr (List.getD r (0 : Nat) V.undef), kind := V.toInt (List.getD r (1 : Nat) V.undef), num := V.toInt (List.getD r (2 : Nat) V.undef), text := V.toStr (List.getD r (3 : Nat) V.undef) : HPair }) (List.map (fun p => [V.str (HPair.key p), V.int IntKind.u8 (HPair.kind p), V.int IntKind.i64 (HPair.num p), V.str (HPair.text p)]) l)) (HPair.key p))) (some { v := V.int IntKind.i64 (9 : Int), bx := [] : DRes }) (some { v := V.int IntKind.i64 (0 : Int), bx := [] : DRes }))))))) (none)) := by kernel_rfl
theorem ok_pairE : FnOk Tryz.prog 77 dPairE := by
  refine den_okF (env_ok (((TOk.nil _).cons ok_find).cons ok_name)) (E := ePairE) Tryz.func77 [] (by kernel_rfl) none0 fun a _ h => ?_
  obtain ⟨p, l⟩ := a
  have h : l.length ≤ 1000000 := ble_of h
  refine (q_pairE p l).trans ?_
  show _ = some (⟨.int .i64 (N.pairE p l), [], []⟩ : DRes)
  unfold N.pairE
  simp (disch := omega) only [evs, pairs_enc, bne]
  cases N.name p.key == 0 with
  | false => rfl
  | true =>
    cases ilt 2 p.kind with
    | true => rfl
    | false =>
      cases h1 : p.kind == 1 <;> cases ilt 64 p.text.length <;> cases p.kind == 2 <;> cases p.num == 0 <;> cases p.num == 1 <;> cases p.text == [] <;> cases (N.find l p.key).2 <;> rfl
def schHeadCheck : SSch := { fr := [(0, .slc [.str, .int .u8, .int .i64, .str]), (9, .slc [.str, .int .u8, .int .i64, .str]), (10, .int .i64), (11, .int .i64)], tab := [] }
def gHeadCheck : List Leaf → (Ex → St → Option R) → Option R
  | [.r r0, .r r9, .i i10, .i i11], K => cond (i10 == r9.length) (cond (Nat.beq r0.length r9.length) (cond (ile 0 i11) (cond (Nat.ble r0.length LIM) (cond (N.samePs (rowsP r0) (rowsP r9))
      (cond (N.checkFrom (rowsP r9) (r9.length - i11.toNat) i11 != 0) (K .ret { fr := [(2, .int .i64 (N.checkFrom (rowsP r9) (r9.length - i11.toNat) i11))], tab := [] }) (K (.exit 0) { fr := [], tab := [] })) none) none) none) none) none
  | _, _ => none
noncomputable def eHeadCheck : Env := env Tryz.prog [(77, dPairE)] [(4, loopF schHeadCheck gHeadCheck)] [(4, [(0, [0, 9, 10, 11]), (1, []), (1000, [2])])]
theorem q_headCheck (h : List HPair) : evFn eHeadCheck 62 ((aOne (vSl cPair)).enc h) ([]) some =
 cond (ilt (8 : Int) (↑(List.length (List.map (fun p => [V.str (HPair.key p), V.int IntKind.u8 (HPair.kind p), V.int IntKind.i64 (HPair.num p), V.str (HPair.text p)]) h)) : Int)) (some { v := V.int IntKind.i64 (6 : Int), bx := [] : DRes }) (cond ((↑(List.length (List.map (fun p => [V.str (HPair.key p), V.int IntKind.u8 (HPair.kind p), V.int IntKind.i64 (HPair.num p), V.str (HPair.text p)]) h)) : Int) == (↑(List.length (List.map (fun p => [V.str (HPair.key p), V.int IntKind.u8 (HPair.kind p), V.int IntKind.i64 (HPair.num p), V.str (HPair.text p)]) h)) : Int)) (cond (Nat.beq (List.length (List.map (fun p => [V.str (HPair.key p), V.int IntKind.u8 (HPair.kind p), V.int IntKind.i64 (HPair.num p), V.str (HPair.text p)]) h)) (List.length (List.map (fun p => [V.str (HPair.key p), V.int IntKind.u8 (HPair.kind p), V.int IntKind.i64 (HPair.num p), V.str (HPair.text p)]) h))) (cond (Nat.ble (List.length (List.map (fun p => [V.str (HPair.key p), V.int IntKind.u8 (HPair.kind p), V.int IntKind.i64 (HPair.num p), V.str (HPair.text p)]) h)) (1000000 : Nat)) (cond (N.samePs (List.map (fun r => { key := V.toStr (List.getD r (0 : Nat) V.undef), kind := V.toInt (List.getD r (1 : Nat) V.undef), num := V.toInt (List.getD r (2 : Nat) V.undef), text := V.toStr (List.getD r (3 : Nat) V.undef) : HPair }) (List.map (fun p => [V.str (HPair.key p), V.int IntKind.u8 (HPair.kind p), V.int IntKind.i64 (HPair.num p), V.str (HPair.text p)]) h)) (List.map (fun r => { key := V.toStr (List.getD r (0 : Nat) V.undef), kind := V.toInt (List.getD r (1 : Nat) V.undef), num := V.toInt (List.getD r (2 : Nat) V.undef), text := V.toStr (List.getD r (3 : Nat) V.undef) : HPair }) (List.map (fun p => [V.str (HPair.key p), V.int IntKind.u8 (HPair.kind p), V.int IntKind.i64 (HPair.num p), V.str (HPair.text p)]) h))) (cond (N.checkFrom (List.map (fun r => { key := V.toStr (List.getD r (0 : Nat) V.undef), kind := V.toInt (List.getD r (1 : Nat) V.undef), num := V.toInt (List.getD r (2 : Nat) V.undef), text := V.toStr (List.getD r (3 : Nat) V.undef) : HPair }) (List.map (fun p => [V.str (HPair.key p), V.int IntKind.u8 (HPair.kind p), V.int IntKind.i64 (HPair.num p), V.str (HPair.text p)]) h)) (List.length (List.map (fun p => [V.str (HPair.key p), V.int IntKind.u8 (HPair.kind p), V.int IntKind.i64 (HPair.num p), V.str (HPair.text p)]) h) - (0 : Nat)) (0 : Int) != (0 : Int)) (some { v := V.int IntKind.i64 (N.checkFrom (List.map (fun r => { key := V.toStr (List.getD r (0 : Nat) V.undef), kind := V.toInt (List.getD r (1 : Nat) V.undef), num := V.toInt (List.getD r (2 : Nat) V.undef), text := V.toStr (List.getD r (3 : Nat) V.undef) : HPair }) (List.map (fun p => [V.str (HPair.key p), V.int IntKind.u8 (HPair.kind p), V.int IntKind.i64 (HPair.num p), V.str (HPair.text p)]) h)) (List.length (List.map (fun p => [V.str (HPair.key p), V.int IntKind.u8 (HPair.kind p), V.int IntKind.i64 (HPair.num p), V.str (HPair.text p)]) h) - (0 : Nat)) (0 : Int)), bx := [] : DRes }) (some { v := V.int IntKind.i64 (0 : Int), bx := [] : DRes })) (none)) (none)) (none)) (none)) := by kernel_rfl
theorem q_headCheckR (r0 : List (List V)) (r9 : List (List V)) (i11 : Int) (K : Ex → St → Option R) : evRound eHeadCheck 62 4 { fr := [(0, .slc [.str, .int .u8, .int .i64, .str] r0), (9, .slc [.str, .int .u8, .int .i64, .str] r9), (10, .int .i64 r9.length), (11, .int .i64 i11)], tab := [] } K =
 cond (ilt i11 (↑(List.length r9) : Int)) (cond (decide ((0 : Int) ≤ i11 ∧ i11 < (↑(List.length r9) : Int))) (cond (decide ((0 : Int) ≤ i11 ∧ i11 ≤ (↑(List.length r0) : Int))) (cond (Nat.ble (List.length (List.map (fun r => { key := V.toStr (List.getD r (0 : Nat) V.undef), kind := V.toInt (List.getD r (1 : Nat) V.undef), num := V.toInt (List.getD r (2 : Nat) V.undef), text := V.toStr (List.getD r (3 : Nat) V.undef) : HPair }) (List.drop (0 : Nat) (List.take (Int.toNat i11) r0)))) (1000000 : Nat)) (cond (N.pairE { key := V.toStr (List.getD (List.getD r9 (Int.toNat i11) []) (0 : Nat) V.undef), kind := V.toInt (List.getD (List.getD r9 (Int.toNat i11) []) (1 : Nat) V.undef), num := V.toInt (List.getD (List.getD r9 (Int.toNat i11) []) (2 : Nat) V.undef), text := V.toStr (List.getD (List.getD r9 (Int.toNat i11) []) (3 : Nat) V.undef) : HPair } (List.map (fun r => { key := V.toStr (List.getD r (0 : Nat) V.undef), kind := V.toInt (List.getD r (1 : Nat) V.undef), num := V.toInt (List.getD r (2 : Nat) V.undef), text := V.toStr (List.getD r (3 : Nat) V.undef) : HPair }) (List.drop (0 : Nat) (List.take (Int.toNat i11) r0))) != (0 : Int)) (K Ex.ret { fr := [((2 : Nat), V.int IntKind.i64 (N.pairE { key := V.toStr (List.getD (List.getD r9 (Int.toNat i11) []) (0 : Nat) V.undef), kind := V.toInt (List.getD (List.getD r9 (Int.toNat i11) []) (1 : Nat) V.undef), num := V.toInt (List.getD (List.getD r9 (Int.toNat i11) []) (2 : Nat) V.undef), text := V.toStr (List.getD (List.getD r9 (Int.toNat i11) []) (3 : Nat) V.undef) : HPair } (List.map (fun r => { key := V.toStr (List.getD r (0 : Nat) V.undef), kind := V.toInt (List.getD r (1 : Nat) V.undef), num := V.toInt (List.getD r (2 : Nat) V.undef), text := V.toStr (List.getD r (3 : Nat) V.undef) : HPair }) (List.drop (0 : Nat) (List.take (Int.toNat i11) r0)))))], tab := [] : St }) (K Ex.normal { fr := [((0 : Nat), V.slc [Sh.str, Sh.int IntKind.u8, Sh.int IntKind.i64, Sh.str] r0), ((9 : Nat), V.slc [Sh.str, Sh.int IntKind.u8, Sh.int IntKind.i64, Sh.str] r9), ((10 : Nat), V.int IntKind.i64 (↑(List.length r9) : Int)), ((11 : Nat), V.int IntKind.i64 (IntKind.wrap IntKind.i64 (i11 + (1 : Int))))], tab := [] : St })) (none)) (none)) (none)) (K (Ex.exit (0 : Nat)) { fr := [], tab := [] : St }) := by kernel_rfl
theorem samePs_refl : ∀ l, N.samePs l l = true
  | [] => rfl
  | p :: l => by
    unfold N.samePs N.eqP
    rw [samePs_refl l]; simp
theorem eqP_eq {p q : HPair} (h : N.eqP p q = true) : p = q := by
  unfold N.eqP at h
  simp only [Bool.and_eq_true, beq_iff_eq, and_true] at h
  cases p; cases q; simp_all
theorem samePs_eq : ∀ {a b : List HPair}, N.samePs a b = true → a = b
  | [], [], _ => rfl
  | [], _ :: _, h => by cases h
  | _ :: _, [], h => by cases h
  | p :: a, q :: b, h => by
    unfold N.samePs at h
    cases e : N.eqP p q with
    | true => rw [e, cond_true] at h; rw [eqP_eq e, samePs_eq h]
    | false => rw [e] at h; cases h
theorem ok_headCheck : FnOk Tryz.prog 62 dHeadCheck := by
  refine den_okF (env_ok ((TOk.nil _).cons ok_pairE)) (E := eHeadCheck) Tryz.func62 [4] (by kernel_rfl) (one1 (rounds_of rfl fun l K q h => ?_)) fun h _ _ => ?_
  · unfold gHeadCheck at h
    split at h
    · rename_i r0 r n i
      have h1 := (cond_none h).1; replace h := (cond_none h).2; have h2 := (cond_none h).1; replace h := (cond_none h).2; have h3 := (cond_none h).1; replace h := (cond_none h).2; have h4 := (cond_none h).1; replace h := (cond_none h).2; have h5 := (cond_none h).1; replace h := (cond_none h).2
      have e1 := ieq_of h1
      subst e1
      have h2 := Nat.eq_of_beq_eq_true h2
      have h4 : r0.length ≤ 1000000 := ble_of h4
      have h5 := samePs_eq h5
      refine loop_ind (E := eHeadCheck) (f := 62) (id := 4) (fun i : Int => { fr := [(0, .slc [.str, .int .u8, .int .i64, .str] r0), (9, .slc [.str, .int .u8, .int .i64, .str] r), (10, .int .i64 r.length), (11, .int .i64 i)], tab := [] }) (fun i => 0 ≤ i) (fun i => r.length - i.toNat)
        (fun i11 K => cond (N.checkFrom (rowsP r) (r.length - i11.toNat) i11 != 0) (K .ret { fr := [(2, .int .i64 (N.checkFrom (rowsP r) (r.length - i11.toNat) i11))], tab := [] }) (K (.exit 0) { fr := [], tab := [] })) (fun i hi => ?_) i (ile_of h3) K q (by assumption)
      by_cases hl : i < r.length
      · have e : N.checkFrom (rowsP r) (r.length - i.toNat) i = cond (N.pairE (rowP (r.getD i.toNat [])) ((rowsP r).take i.toNat) != 0) (N.pairE (rowP (r.getD i.toNat [])) ((rowsP r).take i.toNat)) (N.checkFrom (rowsP r) (r.length - (i + 1).toNat) (i + 1)) := by
          rw [show r.length - i.toNat = (r.length - (i + 1).toNat) + 1 by omega, N.checkFrom, rowsP_getD]
        rw [e]
        have hm : List.map rowP (List.take i.toNat r0) = (rowsP r).take i.toNat := by rw [← h5, rowsP, List.map_take]
        unfold rowP at hm
        cases hc : N.pairE (rowP (r.getD i.toNat [])) ((rowsP r).take i.toNat) != 0 with
        | true =>
          rw [cond_true, hc]
          refine .inr ⟨.ret, _, by simp, fun K => ?_, fun K => rfl⟩
          rw [q_headCheckR]
          unfold rowP at hc
          simp (disch := omega) only [evs, hc, hm, List.length_take, List.drop_zero]
          rfl
        | false =>
          refine .inl ⟨i + 1, by omega, by omega, fun K => ?_, fun K => ?_⟩
          · rw [q_headCheckR]
            unfold rowP at hc
            simp (disch := omega) only [evs, hc, hm, List.length_take, List.drop_zero]
          · rw [cond_false]
      · refine .inr ⟨.exit 0, { fr := [], tab := [] }, by simp, fun K => ?_, fun K => ?_⟩
        · rw [q_headCheckR]
          simp (disch := omega) only [evs]
        · rw [show r.length - i.toNat = 0 by omega]; rfl
    · cases h
  · refine (q_headCheck h).trans ?_
    show _ = some (⟨.int .i64 (N.headCheck h), [], []⟩ : DRes)
    unfold N.headCheck
    by_cases hl : 8 < h.length
    · simp (disch := omega) only [evs]
    · simp (disch := omega) only [evs, pairs_enc, samePs_refl, Nat.sub_zero]
      cases hc : N.checkFrom h h.length 0 != 0 with
      | true => rfl
      | false =>
        have : N.checkFrom h h.length 0 = 0 := by simpa using hc
        rw [this]; rfl
def schHeadBytes : SSch := { fr := [(5, .ptr 10000 0 0), (18, .slc [.str, .int .u8, .int .i64, .str]), (19, .int .i64), (20, .int .i64)], tab := [(10000, .var [.str, .int .i64])] }
def gHeadBytes : List Leaf → (Ex → St → Option R) → Option R
  | [.r r, .i n, .i i, .s s, .i e], K => cond (n == r.length) (cond (e == 0) (cond (ile 0 i) (cond (Nat.ble r.length 8) (cond ((rowsP r).all N.fitP) (cond (ile s.length (1 + 150 * i))
      (K (.exit 0) { fr := [(5, .ptr 10000 0 0 0)], tab := [(10000, .var [.str (s ++ N.pairsB ((rowsP r).drop i.toNat)), .int .i64 0])] }) none) none) none) none) none) none
  | _, _ => none
noncomputable def eHeadBytes : Env := env Tryz.prog [(62, dHeadCheck), (44, dOutNum), (72, dOutText), (47, dOutString)] [(6, loopF schHeadBytes gHeadBytes)] [(6, [(0, [5, 18, 19, 20]), (1, [5]), (1000, [2, 3])])]
theorem q_headBytes (h : List HPair) : evFn eHeadBytes 71 ((aOne (vSl cPair)).enc h) ([]) some =
 cond (N.headCheck (List.map (fun r => { key := V.toStr (List.getD r (0 : Nat) V.undef), kind := V.toInt (List.getD r (1 : Nat) V.undef), num := V.toInt (List.getD r (2 : Nat) V.undef), text := V.toStr (List.getD r (3 : Nat) V.undef) : HPair }) (List.map (fun p => [V.str (HPair.key p), V.int IntKind.u8 (HPair.kind p), V.int IntKind.i64 (HPair.num p), V.str (HPair.text p)]) h)) != (0 : Int)) (some { v := V.tup [V.str [], V.int IntKind.i64 (N.headCheck (List.map (fun r => { key := V.toStr (List.getD r (0 : Nat) V.undef), kind := V.toInt (List.getD r (1 : Nat) V.undef), num := V.toInt (List.getD r (2 : Nat) V.undef), text := V.toStr (List.getD r (3 : Nat) V.undef) : HPair }) (List.map (fun p => [V.str (HPair.key p), V.int IntKind.u8 (HPair.kind p), V.int IntKind.i64 (HPair.num p), V.str (HPair.text p)]) h)))], bx := [] : DRes }) (cond (bif ilt (IntKind.wrap IntKind.u64 (↑(List.length (List.map (fun p => [V.str (HPair.key p), V.int IntKind.u8 (HPair.kind p), V.int IntKind.i64 (HPair.num p), V.str (HPair.text p)]) h)) : Int)) (18446744073709551616 : Int) then true else false) (cond ((↑(List.length (List.map (fun p => [V.str (HPair.key p), V.int IntKind.u8 (HPair.kind p), V.int IntKind.i64 (HPair.num p), V.str (HPair.text p)]) h)) : Int) == (↑(List.length (List.map (fun p => [V.str (HPair.key p), V.int IntKind.u8 (HPair.kind p), V.int IntKind.i64 (HPair.num p), V.str (HPair.text p)]) h)) : Int)) (cond (Nat.ble (List.length (List.map (fun p => [V.str (HPair.key p), V.int IntKind.u8 (HPair.kind p), V.int IntKind.i64 (HPair.num p), V.str (HPair.text p)]) h)) (8 : Nat)) (cond (List.all (List.map (fun r => { key := V.toStr (List.getD r (0 : Nat) V.undef), kind := V.toInt (List.getD r (1 : Nat) V.undef), num := V.toInt (List.getD r (2 : Nat) V.undef), text := V.toStr (List.getD r (3 : Nat) V.undef) : HPair }) (List.map (fun p => [V.str (HPair.key p), V.int IntKind.u8 (HPair.kind p), V.int IntKind.i64 (HPair.num p), V.str (HPair.text p)]) h)) N.fitP) (some { v := V.tup [V.str (OutS.s (N.outNum { s := [], err := (0 : Int) : OutS } (IntKind.wrap IntKind.u64 (↑(List.length (List.map (fun p => [V.str (HPair.key p), V.int IntKind.u8 (HPair.kind p), V.int IntKind.i64 (HPair.num p), V.str (HPair.text p)]) h)) : Int)) (1 : Int)) ++ N.pairsB (List.drop (0 : Nat) (List.map (fun r => { key := V.toStr (List.getD r (0 : Nat) V.undef), kind := V.toInt (List.getD r (1 : Nat) V.undef), num := V.toInt (List.getD r (2 : Nat) V.undef), text := V.toStr (List.getD r (3 : Nat) V.undef) : HPair }) (List.map (fun p => [V.str (HPair.key p), V.int IntKind.u8 (HPair.kind p), V.int IntKind.i64 (HPair.num p), V.str (HPair.text p)]) h)))), V.int IntKind.i64 (0 : Int)], bx := [] : DRes }) (none)) (none)) (none)) (none)) := by kernel_rfl
theorem q_headBytesR (r : List (List V)) (i : Int) (s : Bytes) (K : Ex → St → Option R) : evRound eHeadBytes 71 6 { fr := [(5, .ptr 10000 0 0 0), (18, .slc [.str, .int .u8, .int .i64, .str] r), (19, .int .i64 r.length), (20, .int .i64 i)], tab := [(10000, .var [.str s, .int .i64 0])] } K =
 cond (ilt i (↑(List.length r) : Int)) (cond (decide ((0 : Int) ≤ i ∧ i < (↑(List.length r) : Int))) (cond (Nat.ble (List.length s + List.length (V.toStr (List.getD (List.getD r (Int.toNat i) []) (0 : Nat) V.undef))) (9223372036854775790 : Nat)) (cond (bif ile (0 : Int) (IntKind.wrap IntKind.u64 (V.toInt (List.getD (List.getD r (Int.toNat i) []) (1 : Nat) V.undef))) then bif ilt (IntKind.wrap IntKind.u64 (V.toInt (List.getD (List.getD r (Int.toNat i) []) (1 : Nat) V.undef))) (18446744073709551616 : Int) then Nat.ble (List.length (OutS.s (N.outText { s := s, err := (0 : Int) : OutS } (V.toStr (List.getD (List.getD r (Int.toNat i) []) (0 : Nat) V.undef))))) (9223372036854775799 : Nat) else false else false) (cond (V.toInt (List.getD (List.getD r (Int.toNat i) []) (1 : Nat) V.undef) == (0 : Int)) (cond (bif ile (0 : Int) (IntKind.wrap IntKind.u64 (V.toInt (List.getD (List.getD r (Int.toNat i) []) (2 : Nat) V.undef))) then bif ilt (IntKind.wrap IntKind.u64 (V.toInt (List.getD (List.getD r (Int.toNat i) []) (2 : Nat) V.undef))) (18446744073709551616 : Int) then Nat.ble (List.length (OutS.s (N.outNum (N.outText { s := s, err := (0 : Int) : OutS } (V.toStr (List.getD (List.getD r (Int.toNat i) []) (0 : Nat) V.undef))) (IntKind.wrap IntKind.u64 (V.toInt (List.getD (List.getD r (Int.toNat i) []) (1 : Nat) V.undef))) (1 : Int)))) (9223372036854775799 : Nat) else false else false) (K Ex.normal { fr := [((5 : Nat), V.ptr (10000 : Nat) (0 : Nat) (0 : Nat) (0 : Nat)), ((18 : Nat), V.slc [Sh.str, Sh.int IntKind.u8, Sh.int IntKind.i64, Sh.str] r), ((19 : Nat), V.int IntKind.i64 (↑(List.length r) : Int)), ((20 : Nat), V.int IntKind.i64 (IntKind.wrap IntKind.i64 (i + (1 : Int))))], tab := [((10000 : Nat), Box.var [V.str (OutS.s (N.outNum (N.outNum (N.outText { s := s, err := (0 : Int) : OutS } (V.toStr (List.getD (List.getD r (Int.toNat i) []) (0 : Nat) V.undef))) (IntKind.wrap IntKind.u64 (V.toInt (List.getD (List.getD r (Int.toNat i) []) (1 : Nat) V.undef))) (1 : Int)) (IntKind.wrap IntKind.u64 (V.toInt (List.getD (List.getD r (Int.toNat i) []) (2 : Nat) V.undef))) (8 : Int))), V.int IntKind.i64 (OutS.err (N.outNum (N.outNum (N.outText { s := s, err := (0 : Int) : OutS } (V.toStr (List.getD (List.getD r (Int.toNat i) []) (0 : Nat) V.undef))) (IntKind.wrap IntKind.u64 (V.toInt (List.getD (List.getD r (Int.toNat i) []) (1 : Nat) V.undef))) (1 : Int)) (IntKind.wrap IntKind.u64 (V.toInt (List.getD (List.getD r (Int.toNat i) []) (2 : Nat) V.undef))) (8 : Int)))])] : St }) (none)) (cond (V.toInt (List.getD (List.getD r (Int.toNat i) []) (1 : Nat) V.undef) == (1 : Int)) (cond (Nat.ble (List.length (OutS.s (N.outNum (N.outText { s := s, err := (0 : Int) : OutS } (V.toStr (List.getD (List.getD r (Int.toNat i) []) (0 : Nat) V.undef))) (IntKind.wrap IntKind.u64 (V.toInt (List.getD (List.getD r (Int.toNat i) []) (1 : Nat) V.undef))) (1 : Int))) + List.length (V.toStr (List.getD (List.getD r (Int.toNat i) []) (3 : Nat) V.undef))) (9223372036854775790 : Nat)) (K Ex.normal { fr := [((5 : Nat), V.ptr (10000 : Nat) (0 : Nat) (0 : Nat) (0 : Nat)), ((18 : Nat), V.slc [Sh.str, Sh.int IntKind.u8, Sh.int IntKind.i64, Sh.str] r), ((19 : Nat), V.int IntKind.i64 (↑(List.length r) : Int)), ((20 : Nat), V.int IntKind.i64 (IntKind.wrap IntKind.i64 (i + (1 : Int))))], tab := [((10000 : Nat), Box.var [V.str (OutS.s (N.outText (N.outNum (N.outText { s := s, err := (0 : Int) : OutS } (V.toStr (List.getD (List.getD r (Int.toNat i) []) (0 : Nat) V.undef))) (IntKind.wrap IntKind.u64 (V.toInt (List.getD (List.getD r (Int.toNat i) []) (1 : Nat) V.undef))) (1 : Int)) (V.toStr (List.getD (List.getD r (Int.toNat i) []) (3 : Nat) V.undef)))), V.int IntKind.i64 (OutS.err (N.outText (N.outNum (N.outText { s := s, err := (0 : Int) : OutS } (V.toStr (List.getD (List.getD r (Int.toNat i) []) (0 : Nat) V.undef))) (IntKind.wrap IntKind.u64 (V.toInt (List.getD (List.getD r (Int.toNat i) []) (1 : Nat) V.undef))) (1 : Int)) (V.toStr (List.getD (List.getD r (Int.toNat i) []) (3 : Nat) V.undef))))])] : St }) (none)) (cond (V.toInt (List.getD (List.getD r (Int.toNat i) []) (1 : Nat) V.undef) == (2 : Int)) (cond (bif ile (0 : Int) (IntKind.wrap IntKind.u64 (V.toInt (List.getD (List.getD r (Int.toNat i) []) (2 : Nat) V.undef))) then bif ilt (IntKind.wrap IntKind.u64 (V.toInt (List.getD (List.getD r (Int.toNat i) []) (2 : Nat) V.undef))) (18446744073709551616 : Int) then Nat.ble (List.length (OutS.s (N.outNum (N.outText { s := s, err := (0 : Int) : OutS } (V.toStr (List.getD (List.getD r (Int.toNat i) []) (0 : Nat) V.undef))) (IntKind.wrap IntKind.u64 (V.toInt (List.getD (List.getD r (Int.toNat i) []) (1 : Nat) V.undef))) (1 : Int)))) (9223372036854775799 : Nat) else false else false) (K Ex.normal { fr := [((5 : Nat), V.ptr (10000 : Nat) (0 : Nat) (0 : Nat) (0 : Nat)), ((18 : Nat), V.slc [Sh.str, Sh.int IntKind.u8, Sh.int IntKind.i64, Sh.str] r), ((19 : Nat), V.int IntKind.i64 (↑(List.length r) : Int)), ((20 : Nat), V.int IntKind.i64 (IntKind.wrap IntKind.i64 (i + (1 : Int))))], tab := [((10000 : Nat), Box.var [V.str (OutS.s (N.outNum (N.outNum (N.outText { s := s, err := (0 : Int) : OutS } (V.toStr (List.getD (List.getD r (Int.toNat i) []) (0 : Nat) V.undef))) (IntKind.wrap IntKind.u64 (V.toInt (List.getD (List.getD r (Int.toNat i) []) (1 : Nat) V.undef))) (1 : Int)) (IntKind.wrap IntKind.u64 (V.toInt (List.getD (List.getD r (Int.toNat i) []) (2 : Nat) V.undef))) (1 : Int))), V.int IntKind.i64 (OutS.err (N.outNum (N.outNum (N.outText { s := s, err := (0 : Int) : OutS } (V.toStr (List.getD (List.getD r (Int.toNat i) []) (0 : Nat) V.undef))) (IntKind.wrap IntKind.u64 (V.toInt (List.getD (List.getD r (Int.toNat i) []) (1 : Nat) V.undef))) (1 : Int)) (IntKind.wrap IntKind.u64 (V.toInt (List.getD (List.getD r (Int.toNat i) []) (2 : Nat) V.undef))) (1 : Int)))])] : St }) (none)) (K Ex.normal { fr := [((5 : Nat), V.ptr (10000 : Nat) (0 : Nat) (0 : Nat) (0 : Nat)), ((18 : Nat), V.slc [Sh.str, Sh.int IntKind.u8, Sh.int IntKind.i64, Sh.str] r), ((19 : Nat), V.int IntKind.i64 (↑(List.length r) : Int)), ((20 : Nat), V.int IntKind.i64 (IntKind.wrap IntKind.i64 (i + (1 : Int))))], tab := [((10000 : Nat), Box.var [V.str (OutS.s (N.outNum (N.outText { s := s, err := (0 : Int) : OutS } (V.toStr (List.getD (List.getD r (Int.toNat i) []) (0 : Nat) V.undef))) (IntKind.wrap IntKind.u64 (V.toInt (List.getD (List.getD r (Int.toNat i) []) (1 : Nat) V.undef))) (1 : Int))), V.int IntKind.i64 (OutS.err (N.outNum (N.outText { s := s, err := (0 : Int) : OutS } (V.toStr (List.getD (List.getD r (Int.toNat i) []) (0 : Nat) V.undef))) (IntKind.wrap IntKind.u64 (V.toInt (List.getD (List.getD r (Int.toNat i) []) (1 : Nat) V.undef))) (1 : Int)))])] : St })))) (none)) (none)) (none)) (K (Ex.exit (0 : Nat)) { fr := [((5 : Nat), V.ptr (10000 : Nat) (0 : Nat) (0 : Nat) (0 : Nat))], tab := [((10000 : Nat), Box.var [V.str s, V.int IntKind.i64 (0 : Int)])] : St }) := by kernel_rfl
theorem pairE_fit {p : HPair} {l : List HPair} (h : N.pairE p l = 0) : N.fitP p = true := by
  unfold N.pairE at h
  cases h1 : N.name p.key != 0 with
  | true => rw [h1, cond_true] at h; rw [h] at h1; cases h1
  | false =>
    have hk : p.key.length ≤ 16 := by
      unfold N.name at h1
      cases e1 : p.key == [] with
      | true => rw [e1] at h1; cases h1
      | false =>
        rw [e1] at h1
        cases e2 : ilt 16 p.key.length with
        | true => rw [e2] at h1; cases h1
        | false => have := ilt_nof e2; omega
    rw [h1] at h
    simp only [cond_false, bne] at h
    have ht : p.text.length ≤ 64 := by
      cases h2 : ilt 2 p.kind with
      | true => rw [h2] at h; cases h
      | false =>
        rw [h2] at h
        cases e1 : p.kind == 1 with
        | true =>
          rw [e1] at h
          cases e2 : ilt 64 p.text.length with
          | true => rw [e2] at h; cases h
          | false => have := ilt_nof e2; omega
        | false =>
          rw [e1] at h
          cases e2 : p.text == [] with
          | true => have : p.text = [] := by simpa using e2
                    rw [this]; exact Nat.zero_le _
          | false =>
            rw [e2] at h
            simp only [cond_false, cond_true, Bool.not_false] at h
            revert h
            cases (cond (cond (p.kind == 2) (!p.num == 0) false) (!p.num == 1) false) <;> intro h <;> cases h
    show cond (Nat.ble p.key.length 64) (Nat.ble p.text.length 64) false = true
    rw [ble_t (by omega), ble_t ht]; rfl
theorem checkFrom_fit (h : List HPair) : ∀ (f : Nat) (i : Int), 0 ≤ i → N.checkFrom h f i = 0 → ∀ j : Nat, i ≤ j → (j : Int) < i + f → N.fitP (h.getD j pair0) = true
  | 0, i, _, _, j, h1, h2 => by omega
  | f + 1, i, h0, hc, j, h1, h2 => by
    unfold N.checkFrom at hc
    cases e : N.pairE (h.getD i.toNat pair0) (h.take i.toNat) != 0 with
    | true => rw [e, cond_true] at hc; rw [hc] at e; cases e
    | false =>
      rw [e] at hc
      by_cases hj : (j : Int) = i
      · have : j = i.toNat := by omega
        rw [this]; exact pairE_fit (by simpa using e)
      · exact checkFrom_fit h f (i + 1) (by omega) hc j (by omega) (by omega)
theorem check_fit {h : List HPair} (hz : N.headCheck h = 0) : h.length ≤ 8 ∧ h.all N.fitP = true := by
  unfold N.headCheck at hz
  cases e : ilt 8 h.length with
  | true => rw [e] at hz; cases hz
  | false =>
    have e' := ilt_nof e
    rw [e] at hz
    refine ⟨by omega, List.all_eq_true.2 fun p hp => ?_⟩
    obtain ⟨j, hj, rfl⟩ := List.getElem_of_mem hp
    have := checkFrom_fit h h.length 0 (Int.le_refl _) hz j (by omega) (by omega)
    rwa [List.getD_eq_getElem?_getD, List.getElem?_eq_getElem hj] at this
theorem wu64 (x : Int) : 0 ≤ IntKind.wrap .u64 x ∧ IntKind.wrap .u64 x < 18446744073709551616 := by
  simp only [IntKind.wrap, IntKind.signed, IntKind.bits]
  simp
  omega
theorem numB_len (n : Int) : ∀ k, (N.numB n k).length = k
  | 0 => rfl
  | k + 1 => by simp [N.numB, numB_len n k]
theorem textB_len (s : Bytes) : (N.textB s).length = 2 + s.length := by unfold N.textB; rw [List.length_append, numB_len]
theorem outText_le {x s : Bytes} (h : s.length ≤ 65535) : N.outText ⟨x, 0⟩ s = ⟨x ++ N.textB s, 0⟩ := by
  unfold N.outText
  rw [ilt_f (by omega)]
  show (⟨x ++ N.numB s.length 2 ++ s, 0⟩ : OutS) = _
  unfold N.textB; rw [List.append_assoc]
theorem outNum_1 (x : Bytes) (n : Int) : N.outNum ⟨x, 0⟩ n 1 = ⟨x ++ N.numB n 1, 0⟩ := rfl
theorem outNum_8 (x : Bytes) (n : Int) : N.outNum ⟨x, 0⟩ n 8 = ⟨x ++ N.numB n 8, 0⟩ := rfl
theorem ok_headBytes (hN : FnOk Tryz.prog 44 dOutNum) : FnOk Tryz.prog 71 dHeadBytes := by
  refine den_okF (env_ok (((((TOk.nil _).cons ok_outString).cons (ok_outText hN)).cons hN).cons ok_headCheck)) (E := eHeadBytes) Tryz.func71 [6] (by kernel_rfl) (one1 (rounds_of rfl fun l K q h => ?_)) fun h _ _ => ?_
  · unfold gHeadBytes at h
    split at h
    · rename_i r n i s e
      have h1 := (cond_none h).1; replace h := (cond_none h).2; have h2 := (cond_none h).1; replace h := (cond_none h).2; have h3 := (cond_none h).1; replace h := (cond_none h).2; have h4 := (cond_none h).1; replace h := (cond_none h).2; have h5 := (cond_none h).1; replace h := (cond_none h).2; have h6 := (cond_none h).1; replace h := (cond_none h).2
      have e1 := ieq_of h1
      have e2 := ieq_of h2
      subst e1 e2
      have h4 : r.length ≤ 8 := ble_of h4
      refine loop_ind (E := eHeadBytes) (f := 71) (id := 6) (σ := Int × Bytes) (fun x => { fr := [(5, .ptr 10000 0 0 0), (18, .slc [.str, .int .u8, .int .i64, .str] r), (19, .int .i64 r.length), (20, .int .i64 x.1)], tab := [(10000, .var [.str x.2, .int .i64 0])] })
        (fun x => 0 ≤ x.1 ∧ (x.2.length : Int) ≤ 1 + 150 * x.1) (fun x => r.length - x.1.toNat)
        (fun x K => K (.exit 0) { fr := [(5, .ptr 10000 0 0 0)], tab := [(10000, .var [.str (x.2 ++ N.pairsB ((rowsP r).drop x.1.toNat)), .int .i64 0])] }) ?_ (i, s) ⟨ile_of h3, ile_of h6⟩ K q (by assumption)
      rintro ⟨i, s⟩ ⟨hi, hs⟩
      simp only at hi hs ⊢
      by_cases hl : i < r.length
      · have hlt : i.toNat < r.length := by omega
        have hfit : N.fitP (rowP (r.getD i.toNat [])) = true := List.all_eq_true.1 h5 _ (by
          rw [List.getD_eq_getElem?_getD, List.getElem?_eq_getElem hlt]; exact List.mem_map_of_mem (List.getElem_mem _))
        obtain ⟨f1, f2⟩ := bcond hfit
        have f1 : (V.toStr (List.getD (List.getD r i.toNat []) 0 V.undef)).length ≤ 64 := ble_of f1
        have f2 : (V.toStr (List.getD (List.getD r i.toNat []) 3 V.undef)).length ≤ 64 := ble_of f2
        have u1 := wu64 (V.toInt (List.getD (List.getD r i.toNat []) 1 V.undef))
        have u2 := wu64 (V.toInt (List.getD (List.getD r i.toNat []) 2 V.undef))
        have o1 : N.outText ⟨s, 0⟩ (V.toStr (List.getD (List.getD r i.toNat []) 0 V.undef)) = ⟨s ++ N.textB (V.toStr (List.getD (List.getD r i.toNat []) 0 V.undef)), 0⟩ := outText_le (by omega)
        have o2 : ∀ x : Bytes, N.outText ⟨x, 0⟩ (V.toStr (List.getD (List.getD r i.toNat []) 3 V.undef)) = ⟨x ++ N.textB (V.toStr (List.getD (List.getD r i.toNat []) 3 V.undef)), 0⟩ := fun x => outText_le (by omega)
        rw [drop_pair hlt]
        have e : N.pairsB (rowP (r.getD i.toNat []) :: (rowsP r).drop (i.toNat + 1)) = N.pairB (rowP (r.getD i.toNat [])) ++ N.pairsB ((rowsP r).drop (i.toNat + 1)) := rfl
        rw [e, ← List.append_assoc]
        have hlen : (N.pairB (rowP (r.getD i.toNat []))).length ≤ 150 := by
          unfold N.pairB rowP
          simp only [List.length_append, textB_len, numB_len]
          cases V.toInt (List.getD (List.getD r i.toNat []) 1 V.undef) == 0 <;> cases V.toInt (List.getD (List.getD r i.toNat []) 1 V.undef) == 1 <;> cases V.toInt (List.getD (List.getD r i.toNat []) 1 V.undef) == 2 <;> simp only [cond_true, cond_false, numB_len, textB_len, List.length_nil] <;> omega
        refine .inl ⟨(i + 1, s ++ N.pairB (rowP (r.getD i.toNat []))), ⟨by simp only; omega, by simp only [List.length_append]; omega⟩, by simp only; omega, fun K => ?_, fun K => ?_⟩
        · rw [q_headBytesR]
          unfold N.pairB rowP
          simp (disch := omega) only [evs, o1, o2, outNum_1, outNum_8, textB_len, numB_len, ← List.append_assoc]
          cases V.toInt (List.getD (List.getD r i.toNat []) 1 V.undef) == 0 <;> cases V.toInt (List.getD (List.getD r i.toNat []) 1 V.undef) == 1 <;> cases V.toInt (List.getD (List.getD r i.toNat []) 1 V.undef) == 2 <;> simp only [cond_true, cond_false, List.append_nil]
        · rw [show (i + 1).toNat = i.toNat + 1 by omega]
      · refine .inr ⟨.exit 0, { fr := [(5, .ptr 10000 0 0 0)], tab := [(10000, .var [.str s, .int .i64 0])] }, by simp, fun K => ?_, fun K => ?_⟩
        · rw [q_headBytesR]
          simp (disch := omega) only [evs]
        · rw [List.drop_eq_nil_of_le (by rw [rowsP_length]; omega)]
          show K _ { fr := _, tab := [(10000, .var [.str (s ++ []), .int .i64 0])] } = _
          rw [List.append_nil]
    · cases h
  · refine (q_headBytes h).trans ?_
    show _ = some (⟨.tup [.str (cond (N.headCheck h != 0) (([] : Bytes), N.headCheck h) (N.headBytes h, 0)).1, .int .i64 (cond (N.headCheck h != 0) (([] : Bytes), N.headCheck h) (N.headBytes h, 0)).2], [], []⟩ : DRes)
    cases hc : N.headCheck h != 0 with
    | true =>
      simp (disch := omega) only [evs, pairs_enc, hc]
    | false =>
      have hz : N.headCheck h = 0 := by simpa using hc
      obtain ⟨c1, c2⟩ := check_fit hz
      have u := wu64 (h.length : Int)
      have ul : IntKind.wrap .u64 (h.length : Int) = h.length := wrap_u64 (by omega) (by omega)
      simp (disch := omega) only [evs, pairs_enc, hc, ul, outNum_1, c2, List.drop_zero, List.nil_append]
      rfl
end Go.Ev

/- The program's functions that read heads answer what the plain ones do: lemmas. -/
namespace Go.Ev
open Go Go.Proofs
set_option maxRecDepth 100000

noncomputable def eInText : Env := env Tryz.prog [(26, dNum), (27, dFail), (51, dRaw)] [] []
theorem q_inText (i : InS) (n : Int) : evFn eInText 52 ((aCons (vPtr 0) (aOne (vInt .i64))).enc ((), n)) ((bOne cIn).enc i) some =
 cond (ilt n (IntKind.wrap IntKind.i64 (Prod.fst (N.inNum i (2 : Int))))) (some { v := V.str (Prod.fst (N.inRaw (N.inFail (Prod.snd (N.inNum i (2 : Int))) (5 : Int)) (IntKind.wrap IntKind.i64 (Prod.fst (N.inNum i (2 : Int)))))), bx := [[V.str (InS.s (Prod.snd (N.inRaw (N.inFail (Prod.snd (N.inNum i (2 : Int))) (5 : Int)) (IntKind.wrap IntKind.i64 (Prod.fst (N.inNum i (2 : Int))))))), V.int IntKind.i64 (InS.err (Prod.snd (N.inRaw (N.inFail (Prod.snd (N.inNum i (2 : Int))) (5 : Int)) (IntKind.wrap IntKind.i64 (Prod.fst (N.inNum i (2 : Int)))))))]] : DRes }) (some { v := V.str (Prod.fst (N.inRaw (Prod.snd (N.inNum i (2 : Int))) (IntKind.wrap IntKind.i64 (Prod.fst (N.inNum i (2 : Int)))))), bx := [[V.str (InS.s (Prod.snd (N.inRaw (Prod.snd (N.inNum i (2 : Int))) (IntKind.wrap IntKind.i64 (Prod.fst (N.inNum i (2 : Int))))))), V.int IntKind.i64 (InS.err (Prod.snd (N.inRaw (Prod.snd (N.inNum i (2 : Int))) (IntKind.wrap IntKind.i64 (Prod.fst (N.inNum i (2 : Int)))))))]] : DRes }) := by kernel_rfl
theorem ok_inText : FnOk Tryz.prog 52 dInText := by
  refine den_okF (env_ok ((((TOk.nil _).cons ok_raw).cons ok_fail).cons ok_num)) (E := eInText) Tryz.func52 [] (by kernel_rfl) none0 fun a i _ => ?_
  refine (q_inText i a.2).trans ?_
  show _ = some (⟨.str (N.inText i a.2).1, [[.str (N.inText i a.2).2.s, .int .i64 (N.inText i a.2).2.err]], []⟩ : DRes)
  unfold N.inText
  cases ilt a.2 (IntKind.wrap .i64 (N.inNum i 2).1) <;> rfl
noncomputable def eInErr : Env := env Tryz.prog [] [] []
theorem q_inErr (i : InS) : evFn eInErr 10 ((aOne (vPtr 0)).enc ()) ((bOne cIn).enc i) some =
 some { v := V.int IntKind.i64 (InS.err i), bx := [[V.str (InS.s i), V.int IntKind.i64 (InS.err i)]] : DRes } := by kernel_rfl
theorem ok_inErr : FnOk Tryz.prog 10 dInErr := den_okF (env_ok (TOk.nil _)) (E := eInErr) Tryz.func10 [] (by kernel_rfl) none0 fun _ i _ => q_inErr i
theorem q_inLeft (i : InS) : evFn eInErr 11 ((aOne (vPtr 0)).enc ()) ((bOne cIn).enc i) some =
 some { v := V.int IntKind.i64 (↑(List.length (InS.s i)) : Int), bx := [[V.str (InS.s i), V.int IntKind.i64 (InS.err i)]] : DRes } := by kernel_rfl
theorem ok_inLeft : FnOk Tryz.prog 11 dInLeft := den_okF (env_ok (TOk.nil _)) (E := eInErr) Tryz.func11 [] (by kernel_rfl) none0 fun _ i _ => q_inLeft i
noncomputable def eOne : Env := env Tryz.prog [(52, dInText), (26, dNum), (27, dFail)] [] []
theorem q_one (i : InS) : evFn eOne 76 ((aOne (vPtr 0)).enc ()) ((bOne cIn).enc i) some =
 cond (IntKind.wrap IntKind.u8 (Prod.fst (N.inNum (Prod.snd (N.inText i (16 : Int))) (1 : Int))) == (0 : Int)) (some { v := V.agg [V.str (Prod.fst (N.inText i (16 : Int))), V.int IntKind.u8 (IntKind.wrap IntKind.u8 (Prod.fst (N.inNum (Prod.snd (N.inText i (16 : Int))) (1 : Int)))), V.int IntKind.i64 (IntKind.wrap IntKind.i64 (Prod.fst (N.inNum (Prod.snd (N.inNum (Prod.snd (N.inText i (16 : Int))) (1 : Int))) (8 : Int)))), V.str []], bx := [[V.str (InS.s (Prod.snd (N.inNum (Prod.snd (N.inNum (Prod.snd (N.inText i (16 : Int))) (1 : Int))) (8 : Int)))), V.int IntKind.i64 (InS.err (Prod.snd (N.inNum (Prod.snd (N.inNum (Prod.snd (N.inText i (16 : Int))) (1 : Int))) (8 : Int))))]] : DRes }) (cond (IntKind.wrap IntKind.u8 (Prod.fst (N.inNum (Prod.snd (N.inText i (16 : Int))) (1 : Int))) == (1 : Int)) (some { v := V.agg [V.str (Prod.fst (N.inText i (16 : Int))), V.int IntKind.u8 (IntKind.wrap IntKind.u8 (Prod.fst (N.inNum (Prod.snd (N.inText i (16 : Int))) (1 : Int)))), V.int IntKind.i64 (0 : Int), V.str (Prod.fst (N.inText (Prod.snd (N.inNum (Prod.snd (N.inText i (16 : Int))) (1 : Int))) (64 : Int)))], bx := [[V.str (InS.s (Prod.snd (N.inText (Prod.snd (N.inNum (Prod.snd (N.inText i (16 : Int))) (1 : Int))) (64 : Int)))), V.int IntKind.i64 (InS.err (Prod.snd (N.inText (Prod.snd (N.inNum (Prod.snd (N.inText i (16 : Int))) (1 : Int))) (64 : Int))))]] : DRes }) (cond (IntKind.wrap IntKind.u8 (Prod.fst (N.inNum (Prod.snd (N.inText i (16 : Int))) (1 : Int))) == (2 : Int)) (some { v := V.agg [V.str (Prod.fst (N.inText i (16 : Int))), V.int IntKind.u8 (IntKind.wrap IntKind.u8 (Prod.fst (N.inNum (Prod.snd (N.inText i (16 : Int))) (1 : Int)))), V.int IntKind.i64 (IntKind.wrap IntKind.i64 (Prod.fst (N.inNum (Prod.snd (N.inNum (Prod.snd (N.inText i (16 : Int))) (1 : Int))) (1 : Int)))), V.str []], bx := [[V.str (InS.s (Prod.snd (N.inNum (Prod.snd (N.inNum (Prod.snd (N.inText i (16 : Int))) (1 : Int))) (1 : Int)))), V.int IntKind.i64 (InS.err (Prod.snd (N.inNum (Prod.snd (N.inNum (Prod.snd (N.inText i (16 : Int))) (1 : Int))) (1 : Int))))]] : DRes }) (some { v := V.agg [V.str (Prod.fst (N.inText i (16 : Int))), V.int IntKind.u8 (IntKind.wrap IntKind.u8 (Prod.fst (N.inNum (Prod.snd (N.inText i (16 : Int))) (1 : Int)))), V.int IntKind.i64 (0 : Int), V.str []], bx := [[V.str (InS.s (N.inFail (Prod.snd (N.inNum (Prod.snd (N.inText i (16 : Int))) (1 : Int))) (8 : Int))), V.int IntKind.i64 (InS.err (N.inFail (Prod.snd (N.inNum (Prod.snd (N.inText i (16 : Int))) (1 : Int))) (8 : Int)))]] : DRes }))) := by kernel_rfl
theorem ok_one : FnOk Tryz.prog 76 dOne := by
  refine den_okF (env_ok ((((TOk.nil _).cons ok_fail).cons ok_num).cons ok_inText)) (E := eOne) Tryz.func76 [] (by kernel_rfl) none0 fun _ i _ => ?_
  refine (q_one i).trans ?_
  show _ = some (⟨.agg [.str (N.one i).1.key, .int .u8 (N.one i).1.kind, .int .i64 (N.one i).1.num, .str (N.one i).1.text], [[.str (N.one i).2.s, .int .i64 (N.one i).2.err]], []⟩ : DRes)
  unfold N.one N.oneOf
  cases IntKind.wrap .u8 (N.inNum (N.inText i 16).2 1).1 == 0 <;> cases IntKind.wrap .u8 (N.inNum (N.inText i 16).2 1).1 == 1 <;> cases IntKind.wrap .u8 (N.inNum (N.inText i 16).2 1).1 == 2 <;> rfl
theorem drop_takeN {α : Type} (l : List α) (i n : Nat) : (l.take (i + n)).drop i = (l.drop i).take n := by rw [List.drop_take, Nat.add_sub_cancel_left]
noncomputable def eRFail : Env := env Tryz.prog [] [] []
theorem q_rFail (q : RIn) (n : Int) : evFn eRFail 30 ((aCons (vPtr 0) (aOne (vInt .i64))).enc ((), n)) ((bOne cRIn).enc q) some =
 cond (RIn.code q == (0 : Int)) (some { v := V.tup [], bx := [[V.str (RIn.s q), V.int IntKind.i64 (RIn.at' q), V.int IntKind.i64 n]] : DRes }) (some { v := V.tup [], bx := [[V.str (RIn.s q), V.int IntKind.i64 (RIn.at' q), V.int IntKind.i64 (RIn.code q)]] : DRes }) := by kernel_rfl
theorem ok_rFail : FnOk Tryz.prog 30 dRFail := by
  refine den_okF (env_ok (TOk.nil _)) (E := eRFail) Tryz.func30 [] (by kernel_rfl) none0 fun a q _ => ?_
  refine (q_rFail q a.2).trans ?_
  show _ = some (⟨.tup [], [[.str (N.rFail q a.2).s, .int .i64 (N.rFail q a.2).at', .int .i64 (N.rFail q a.2).code]], []⟩ : DRes)
  unfold N.rFail
  cases q.code == 0 <;> rfl
theorem goodR_of {q : RIn} (h : N.goodR q = true) : 0 ≤ q.at' ∧ q.at' ≤ q.s.length ∧ q.s.length ≤ 1000000 := by
  obtain ⟨h1, h⟩ := bcond h
  obtain ⟨h2, h3⟩ := bcond h
  exact ⟨ile_of h1, ile_of h2, ble_of h3⟩
noncomputable def eRLeft : Env := env Tryz.prog [(30, dRFail)] [] []
theorem q_rLeft (q : RIn) : evFn eRLeft 12 ((aOne (vPtr 0)).enc ()) ((bOne cRIn).enc q) some =
 cond (RIn.code q != (0 : Int)) (some { v := V.int IntKind.i64 (0 : Int), bx := [[V.str (RIn.s q), V.int IntKind.i64 (RIn.at' q), V.int IntKind.i64 (RIn.code q)]] : DRes }) (some { v := V.int IntKind.i64 (IntKind.wrap IntKind.i64 ((↑(List.length (RIn.s q)) : Int) - RIn.at' q)), bx := [[V.str (RIn.s q), V.int IntKind.i64 (RIn.at' q), V.int IntKind.i64 (RIn.code q)]] : DRes }) := by kernel_rfl
theorem ok_rLeft : FnOk Tryz.prog 12 dRLeft := by
  refine den_okF (env_ok ((TOk.nil _).cons ok_rFail)) (E := eRLeft) Tryz.func12 [] (by kernel_rfl) none0 fun _ q h => ?_
  obtain ⟨h1, h2, h3⟩ := goodR_of h
  refine (q_rLeft q).trans ?_
  show _ = some (⟨.int .i64 (N.rLeft q), [[.str q.s, .int .i64 q.at', .int .i64 q.code]], []⟩ : DRes)
  unfold N.rLeft
  simp (disch := omega) only [evs, bne]
  cases q.code == 0 <;> rfl
theorem q_rRaw (q : RIn) (n : Int) : evFn eRLeft 54 ((aCons (vPtr 0) (aOne (vInt .i64))).enc ((), n)) ((bOne cRIn).enc q) some =
 cond (RIn.code q != (0 : Int)) (some { v := V.str [], bx := [[V.str (RIn.s q), V.int IntKind.i64 (RIn.at' q), V.int IntKind.i64 (RIn.code q)]] : DRes }) (cond (ile n (0 : Int)) (some { v := V.str [], bx := [[V.str (RIn.s q), V.int IntKind.i64 (RIn.at' q), V.int IntKind.i64 (RIn.code q)]] : DRes }) (cond (ilt (IntKind.wrap IntKind.i64 ((↑(List.length (RIn.s q)) : Int) - RIn.at' q)) n) (some { v := V.str [], bx := [[V.str (RIn.s (N.rFail q (3 : Int))), V.int IntKind.i64 (RIn.at' (N.rFail q (3 : Int))), V.int IntKind.i64 (RIn.code (N.rFail q (3 : Int)))]] : DRes }) (cond (decide ((0 : Int) ≤ IntKind.wrap IntKind.i64 (RIn.at' q + n) ∧ IntKind.wrap IntKind.i64 (RIn.at' q + n) ≤ (↑(List.length (RIn.s q)) : Int))) (cond (decide ((0 : Int) ≤ IntKind.wrap IntKind.i64 (IntKind.wrap IntKind.i64 (RIn.at' q + n) - n) ∧ IntKind.wrap IntKind.i64 (IntKind.wrap IntKind.i64 (RIn.at' q + n) - n) ≤ (↑(Int.toNat (IntKind.wrap IntKind.i64 (RIn.at' q + n))) : Int))) (some { v := V.str (List.drop (Int.toNat (IntKind.wrap IntKind.i64 (IntKind.wrap IntKind.i64 (RIn.at' q + n) - n))) (List.take (Int.toNat (IntKind.wrap IntKind.i64 (RIn.at' q + n))) (RIn.s q))), bx := [[V.str (RIn.s q), V.int IntKind.i64 (IntKind.wrap IntKind.i64 (RIn.at' q + n)), V.int IntKind.i64 (RIn.code q)]] : DRes }) (none)) (none)))) := by kernel_rfl
theorem ok_rRaw : FnOk Tryz.prog 54 dRRaw := by
  refine den_okF (env_ok ((TOk.nil _).cons ok_rFail)) (E := eRLeft) Tryz.func54 [] (by kernel_rfl) none0 fun a q h => ?_
  obtain ⟨h1, h2, h3⟩ := goodR_of h
  refine (q_rRaw q a.2).trans ?_
  show _ = some (⟨.str (N.rRaw q a.2).1, [[.str (N.rRaw q a.2).2.s, .int .i64 (N.rRaw q a.2).2.at', .int .i64 (N.rRaw q a.2).2.code]], []⟩ : DRes)
  unfold N.rRaw
  simp (disch := omega) only [evs, bne]
  cases e1 : q.code == 0 with
  | false => rfl
  | true =>
    by_cases e2 : a.2 ≤ 0
    · simp (disch := omega) only [evs]
      rfl
    · by_cases e3 : q.s.length - q.at' < a.2
      · simp (disch := omega) only [evs]
        rfl
      · simp (disch := omega) only [evs]
        rw [show q.at' + a.2 - a.2 = q.at' by omega, show (q.at' + a.2).toNat = q.at'.toNat + a.2.toNat by omega, drop_takeN]
        rfl
end Go.Ev

/- The program's functions that read heads, those with loops, answer what the plain ones do: lemmas. -/
namespace Go.Ev
open Go Go.Proofs
set_option maxRecDepth 100000

namespace N
/-- The loop over a head's pairs: went through, what was read, the reader. -/
def hl : Nat → InS → List (List V) → Bool × List (List V) × InS
  | 0, i, rows => (true, rows, i)
  | k + 1, i, rows => cond ((bad (one i).1 (rowsP rows) (one i).2).err != 0) (false, [], bad (one i).1 (rowsP rows) (one i).2) (hl k (bad (one i).1 (rowsP rows) (one i).2) (rows ++ [cPair.enc (one i).1]))
def rhl : Nat → RIn → List (List V) → List (List V) × RIn
  | 0, q, rows => (rows, q)
  | k + 1, q, rows => cond (q.code == 0) (rhl k (rBad (rOne q).1 (rowsP rows) (rOne q).2) (rows ++ [cPair.enc (rOne q).1])) (rows, q)
end N
def schHeadRead : SSch := { fr := [(0, .ptr 0 0 0), (4, .own 10000), (13, .int .i64), (14, .int .i64)], tab := [(0, .var [.str, .int .i64]), (10000, .sl [.str, .int .u8, .int .i64, .str])] }
def gHeadRead : List Leaf → (Ex → St → Option R) → Option R
  | [.i n, .i j, .s s, .i e, .r rows], K => cond (ile 0 j) (cond (ile n 300) (cond (Nat.ble (rows.length + (n - j).toNat) LIM) (cond (N.hl (n - j).toNat ⟨s, e⟩ rows).1
      (K (.exit 0) { fr := [(4, .own 10000 0)], tab := [(0, .var [.str (N.hl (n - j).toNat ⟨s, e⟩ rows).2.2.s, .int .i64 (N.hl (n - j).toNat ⟨s, e⟩ rows).2.2.err]), (10000, .sl [.str, .int .u8, .int .i64, .str] (N.hl (n - j).toNat ⟨s, e⟩ rows).2.1 0)] })
      (K .ret { fr := [(2, .own 10000 0)], tab := [(0, .var [.str (N.hl (n - j).toNat ⟨s, e⟩ rows).2.2.s, .int .i64 (N.hl (n - j).toNat ⟨s, e⟩ rows).2.2.err]), (10000, .sl [.str, .int .u8, .int .i64, .str] [] 0)] })) none) none) none
  | _, _ => none
noncomputable def eHeadRead : Env := env Tryz.prog [(26, dNum), (27, dFail), (10, dInErr), (76, dOne), (77, dPairE)] [(6, loopF schHeadRead gHeadRead)] [(6, [(0, [0, 4, 13, 14]), (1, [4]), (1000, [2])])]
theorem q_headRead (i : InS) : evFn eHeadRead 53 (((aOne (vPtr 0)).enc ())) (((bOne cIn).enc i)) some =
 cond (ilt (8 : Int) (IntKind.wrap IntKind.i64 (Prod.fst (N.inNum i (1 : Int))))) (cond (ile (IntKind.wrap IntKind.i64 (Prod.fst (N.inNum i (1 : Int)))) (300 : Int)) (cond (Nat.ble ((0 : Nat) + Int.toNat (IntKind.wrap IntKind.i64 (Prod.fst (N.inNum i (1 : Int))) - (0 : Int))) (1000000 : Nat)) (cond (Prod.fst (N.hl (Int.toNat (IntKind.wrap IntKind.i64 (Prod.fst (N.inNum i (1 : Int))) - (0 : Int))) (N.inFail (Prod.snd (N.inNum i (1 : Int))) (6 : Int)) [])) (some { v := V.slc [Sh.str, Sh.int IntKind.u8, Sh.int IntKind.i64, Sh.str] (Prod.fst (Prod.snd (N.hl (Int.toNat (IntKind.wrap IntKind.i64 (Prod.fst (N.inNum i (1 : Int))) - (0 : Int))) (N.inFail (Prod.snd (N.inNum i (1 : Int))) (6 : Int)) []))), bx := [[V.str (InS.s (Prod.snd (Prod.snd (N.hl (Int.toNat (IntKind.wrap IntKind.i64 (Prod.fst (N.inNum i (1 : Int))) - (0 : Int))) (N.inFail (Prod.snd (N.inNum i (1 : Int))) (6 : Int)) [])))), V.int IntKind.i64 (InS.err (Prod.snd (Prod.snd (N.hl (Int.toNat (IntKind.wrap IntKind.i64 (Prod.fst (N.inNum i (1 : Int))) - (0 : Int))) (N.inFail (Prod.snd (N.inNum i (1 : Int))) (6 : Int)) []))))]] : DRes }) (some { v := V.slc [Sh.str, Sh.int IntKind.u8, Sh.int IntKind.i64, Sh.str] [], bx := [[V.str (InS.s (Prod.snd (Prod.snd (N.hl (Int.toNat (IntKind.wrap IntKind.i64 (Prod.fst (N.inNum i (1 : Int))) - (0 : Int))) (N.inFail (Prod.snd (N.inNum i (1 : Int))) (6 : Int)) [])))), V.int IntKind.i64 (InS.err (Prod.snd (Prod.snd (N.hl (Int.toNat (IntKind.wrap IntKind.i64 (Prod.fst (N.inNum i (1 : Int))) - (0 : Int))) (N.inFail (Prod.snd (N.inNum i (1 : Int))) (6 : Int)) []))))]] : DRes })) (none)) (none)) (cond (ile (IntKind.wrap IntKind.i64 (Prod.fst (N.inNum i (1 : Int)))) (300 : Int)) (cond (Nat.ble ((0 : Nat) + Int.toNat (IntKind.wrap IntKind.i64 (Prod.fst (N.inNum i (1 : Int))) - (0 : Int))) (1000000 : Nat)) (cond (Prod.fst (N.hl (Int.toNat (IntKind.wrap IntKind.i64 (Prod.fst (N.inNum i (1 : Int))) - (0 : Int))) (Prod.snd (N.inNum i (1 : Int))) [])) (some { v := V.slc [Sh.str, Sh.int IntKind.u8, Sh.int IntKind.i64, Sh.str] (Prod.fst (Prod.snd (N.hl (Int.toNat (IntKind.wrap IntKind.i64 (Prod.fst (N.inNum i (1 : Int))) - (0 : Int))) (Prod.snd (N.inNum i (1 : Int))) []))), bx := [[V.str (InS.s (Prod.snd (Prod.snd (N.hl (Int.toNat (IntKind.wrap IntKind.i64 (Prod.fst (N.inNum i (1 : Int))) - (0 : Int))) (Prod.snd (N.inNum i (1 : Int))) [])))), V.int IntKind.i64 (InS.err (Prod.snd (Prod.snd (N.hl (Int.toNat (IntKind.wrap IntKind.i64 (Prod.fst (N.inNum i (1 : Int))) - (0 : Int))) (Prod.snd (N.inNum i (1 : Int))) []))))]] : DRes }) (some { v := V.slc [Sh.str, Sh.int IntKind.u8, Sh.int IntKind.i64, Sh.str] [], bx := [[V.str (InS.s (Prod.snd (Prod.snd (N.hl (Int.toNat (IntKind.wrap IntKind.i64 (Prod.fst (N.inNum i (1 : Int))) - (0 : Int))) (Prod.snd (N.inNum i (1 : Int))) [])))), V.int IntKind.i64 (InS.err (Prod.snd (Prod.snd (N.hl (Int.toNat (IntKind.wrap IntKind.i64 (Prod.fst (N.inNum i (1 : Int))) - (0 : Int))) (Prod.snd (N.inNum i (1 : Int))) []))))]] : DRes })) (none)) (none)) := by kernel_rfl
theorem q_headReadR (i13 : Int) (i14 : Int) (sx0 : Bytes) (ix0 : Int) (rx0 : List (List V)) (K : Ex → St → Option R) : evRound eHeadRead 53 6 { fr := [(0, .ptr 0 0 0 0), (4, .own 10000 0), (13, .int .i64 i13), (14, .int .i64 i14)], tab := [(0, .var [.str sx0, .int .i64 ix0]), (10000, .sl [.str, .int .u8, .int .i64, .str] rx0 0)] } K =
 cond (ilt i14 i13) (cond (InS.err (Prod.snd (N.one { s := sx0, err := ix0 : InS })) == (0 : Int)) (cond (Nat.ble (List.length (List.map (fun r => { key := V.toStr (List.getD r (0 : Nat) V.undef), kind := V.toInt (List.getD r (1 : Nat) V.undef), num := V.toInt (List.getD r (2 : Nat) V.undef), text := V.toStr (List.getD r (3 : Nat) V.undef) : HPair }) rx0)) (1000000 : Nat)) (cond (InS.err (N.inFail (Prod.snd (N.one { s := sx0, err := ix0 : InS })) (N.pairE (Prod.fst (N.one { s := sx0, err := ix0 : InS })) (List.map (fun r => { key := V.toStr (List.getD r (0 : Nat) V.undef), kind := V.toInt (List.getD r (1 : Nat) V.undef), num := V.toInt (List.getD r (2 : Nat) V.undef), text := V.toStr (List.getD r (3 : Nat) V.undef) : HPair }) rx0))) != (0 : Int)) (K Ex.ret { fr := [((2 : Nat), V.own (10000 : Nat) (0 : Nat))], tab := [((0 : Nat), Box.var [V.str (InS.s (N.inFail (Prod.snd (N.one { s := sx0, err := ix0 : InS })) (N.pairE (Prod.fst (N.one { s := sx0, err := ix0 : InS })) (List.map (fun r => { key := V.toStr (List.getD r (0 : Nat) V.undef), kind := V.toInt (List.getD r (1 : Nat) V.undef), num := V.toInt (List.getD r (2 : Nat) V.undef), text := V.toStr (List.getD r (3 : Nat) V.undef) : HPair }) rx0)))), V.int IntKind.i64 (InS.err (N.inFail (Prod.snd (N.one { s := sx0, err := ix0 : InS })) (N.pairE (Prod.fst (N.one { s := sx0, err := ix0 : InS })) (List.map (fun r => { key := V.toStr (List.getD r (0 : Nat) V.undef), kind := V.toInt (List.getD r (1 : Nat) V.undef), num := V.toInt (List.getD r (2 : Nat) V.undef), text := V.toStr (List.getD r (3 : Nat) V.undef) : HPair }) rx0))))]), ((10000 : Nat), Box.sl [Sh.str, Sh.int IntKind.u8, Sh.int IntKind.i64, Sh.str] [] (0 : Nat))] : St }) (cond (decide ((List.length rx0 + (1 : Nat)) * (48 : Nat) ≤ (140737488355328 : Nat))) (K Ex.normal { fr := [((0 : Nat), V.ptr (0 : Nat) (0 : Nat) (0 : Nat) (0 : Nat)), ((4 : Nat), V.own (10000 : Nat) (0 : Nat)), ((13 : Nat), V.int IntKind.i64 i13), ((14 : Nat), V.int IntKind.i64 (IntKind.wrap IntKind.i64 (i14 + (1 : Int))))], tab := [((0 : Nat), Box.var [V.str (InS.s (N.inFail (Prod.snd (N.one { s := sx0, err := ix0 : InS })) (N.pairE (Prod.fst (N.one { s := sx0, err := ix0 : InS })) (List.map (fun r => { key := V.toStr (List.getD r (0 : Nat) V.undef), kind := V.toInt (List.getD r (1 : Nat) V.undef), num := V.toInt (List.getD r (2 : Nat) V.undef), text := V.toStr (List.getD r (3 : Nat) V.undef) : HPair }) rx0)))), V.int IntKind.i64 (InS.err (N.inFail (Prod.snd (N.one { s := sx0, err := ix0 : InS })) (N.pairE (Prod.fst (N.one { s := sx0, err := ix0 : InS })) (List.map (fun r => { key := V.toStr (List.getD r (0 : Nat) V.undef), kind := V.toInt (List.getD r (1 : Nat) V.undef), num := V.toInt (List.getD r (2 : Nat) V.undef), text := V.toStr (List.getD r (3 : Nat) V.undef) : HPair }) rx0))))]), ((10000 : Nat), Box.sl [Sh.str, Sh.int IntKind.u8, Sh.int IntKind.i64, Sh.str] (rx0 ++ [[V.str (HPair.key (Prod.fst (N.one { s := sx0, err := ix0 : InS }))), V.int IntKind.u8 (HPair.kind (Prod.fst (N.one { s := sx0, err := ix0 : InS }))), V.int IntKind.i64 (HPair.num (Prod.fst (N.one { s := sx0, err := ix0 : InS }))), V.str (HPair.text (Prod.fst (N.one { s := sx0, err := ix0 : InS })))]]) (0 : Nat))] : St }) (none))) (none)) (cond (InS.err (Prod.snd (N.one { s := sx0, err := ix0 : InS })) != (0 : Int)) (K Ex.ret { fr := [((2 : Nat), V.own (10000 : Nat) (0 : Nat))], tab := [((0 : Nat), Box.var [V.str (InS.s (Prod.snd (N.one { s := sx0, err := ix0 : InS }))), V.int IntKind.i64 (InS.err (Prod.snd (N.one { s := sx0, err := ix0 : InS })))]), ((10000 : Nat), Box.sl [Sh.str, Sh.int IntKind.u8, Sh.int IntKind.i64, Sh.str] [] (0 : Nat))] : St }) (cond (decide ((List.length rx0 + (1 : Nat)) * (48 : Nat) ≤ (140737488355328 : Nat))) (K Ex.normal { fr := [((0 : Nat), V.ptr (0 : Nat) (0 : Nat) (0 : Nat) (0 : Nat)), ((4 : Nat), V.own (10000 : Nat) (0 : Nat)), ((13 : Nat), V.int IntKind.i64 i13), ((14 : Nat), V.int IntKind.i64 (IntKind.wrap IntKind.i64 (i14 + (1 : Int))))], tab := [((0 : Nat), Box.var [V.str (InS.s (Prod.snd (N.one { s := sx0, err := ix0 : InS }))), V.int IntKind.i64 (InS.err (Prod.snd (N.one { s := sx0, err := ix0 : InS })))]), ((10000 : Nat), Box.sl [Sh.str, Sh.int IntKind.u8, Sh.int IntKind.i64, Sh.str] (rx0 ++ [[V.str (HPair.key (Prod.fst (N.one { s := sx0, err := ix0 : InS }))), V.int IntKind.u8 (HPair.kind (Prod.fst (N.one { s := sx0, err := ix0 : InS }))), V.int IntKind.i64 (HPair.num (Prod.fst (N.one { s := sx0, err := ix0 : InS }))), V.str (HPair.text (Prod.fst (N.one { s := sx0, err := ix0 : InS })))]]) (0 : Nat))] : St }) (none)))) (K (Ex.exit (0 : Nat)) { fr := [((4 : Nat), V.own (10000 : Nat) (0 : Nat))], tab := [((0 : Nat), Box.var [V.str sx0, V.int IntKind.i64 ix0]), ((10000 : Nat), Box.sl [Sh.str, Sh.int IntKind.u8, Sh.int IntKind.i64, Sh.str] rx0 (0 : Nat))] : St }) := by kernel_rfl
theorem hl_enc : ∀ (k : Nat) (i : InS) (l : List HPair), (N.hl k i (l.map cPair.enc)).2 = ((N.readFrom k i l).1.map cPair.enc, (N.readFrom k i l).2)
  | 0, _, _ => rfl
  | k + 1, i, l => by
    unfold N.hl N.readFrom
    rw [rowsP_enc]
    cases (N.bad (N.one i).1 l (N.one i).2).err != 0 with
    | true => rfl
    | false =>
      have := hl_enc k (N.bad (N.one i).1 l (N.one i).2) (l ++ [(N.one i).1])
      rw [List.map_append] at this
      exact this
theorem hl_none : ∀ (k : Nat) (i : InS) (rows : List (List V)), (N.hl k i rows).1 = false → (N.hl k i rows).2.1 = []
  | 0, _, _, h => by cases h
  | k + 1, i, rows, h => by
    unfold N.hl at h ⊢
    cases hc : (N.bad (N.one i).1 (rowsP rows) (N.one i).2).err != 0 with
    | true => rfl
    | false => rw [hc] at h; exact hl_none k _ _ h
theorem inNum1 (i : InS) : 0 ≤ (N.inNum i 1).1 ∧ (N.inNum i 1).1 < 256 := by
  have h := N.inRaw_len i (bif ilt 8 1 then (8 : Int) else 1) 1 (Int.le_refl 1)
  unfold N.inNum
  revert h
  cases (N.inRaw i (bif ilt 8 1 then (8 : Int) else 1)).1 with
  | nil => intro _; exact ⟨Int.le_refl 0, (by decide : (0 : Int) < 256)⟩
  | cons c r =>
    intro h
    cases r with
    | nil =>
      have := c.toNat_lt
      show 0 ≤ (0 * 256 + (c.toNat : Int)) ∧ (0 * 256 + (c.toNat : Int)) < 256
      omega
    | cons _ _ => simp at h
theorem ok_headRead : FnOk Tryz.prog 53 dHeadRead := by
  refine den_okF (env_ok ((((((TOk.nil _).cons ok_pairE).cons ok_one).cons ok_inErr).cons ok_fail).cons ok_num)) (E := eHeadRead) Tryz.func53 [6] (by kernel_rfl) (one1 (rounds_of rfl fun l K q h => ?_)) fun _ i _ => ?_
  · unfold gHeadRead at h
    split at h
    · rename_i n j s e rows
      have h1 := (cond_none h).1; replace h := (cond_none h).2; have h2 := (cond_none h).1; replace h := (cond_none h).2; have h3 := (cond_none h).1; replace h := (cond_none h).2
      have h2 := ile_of h2
      have h3 : rows.length + (n - j).toNat ≤ 1000000 := ble_of h3
      refine loop_ind (E := eHeadRead) (f := 53) (id := 6) (σ := Int × InS × List (List V)) (fun x => { fr := [(0, .ptr 0 0 0 0), (4, .own 10000 0), (13, .int .i64 n), (14, .int .i64 x.1)], tab := [(0, .var [.str x.2.1.s, .int .i64 x.2.1.err]), (10000, .sl [.str, .int .u8, .int .i64, .str] x.2.2 0)] })
        (fun x => 0 ≤ x.1 ∧ x.2.2.length + (n - x.1).toNat ≤ 1000000) (fun x => (n - x.1).toNat)
        (fun x K => cond (N.hl (n - x.1).toNat x.2.1 x.2.2).1
          (K (.exit 0) { fr := [(4, .own 10000 0)], tab := [(0, .var [.str (N.hl (n - x.1).toNat x.2.1 x.2.2).2.2.s, .int .i64 (N.hl (n - x.1).toNat x.2.1 x.2.2).2.2.err]), (10000, .sl [.str, .int .u8, .int .i64, .str] (N.hl (n - x.1).toNat x.2.1 x.2.2).2.1 0)] })
          (K .ret { fr := [(2, .own 10000 0)], tab := [(0, .var [.str (N.hl (n - x.1).toNat x.2.1 x.2.2).2.2.s, .int .i64 (N.hl (n - x.1).toNat x.2.1 x.2.2).2.2.err]), (10000, .sl [.str, .int .u8, .int .i64, .str] [] 0)] })) ?_ (j, ⟨s, e⟩, rows) ⟨ile_of h1, h3⟩ K q (by assumption)
      rintro ⟨j, ⟨s, e⟩, rows⟩ ⟨hj, hr⟩
      simp only at hj hr ⊢
      by_cases hl : j < n
      · rw [show (n - j).toNat = (n - (j + 1)).toNat + 1 by omega]
        simp only [N.hl]
        cases hc : ((N.bad (N.one ⟨s, e⟩).1 (rowsP rows) (N.one ⟨s, e⟩).2).err != 0) with
        | true =>
          refine .inr ⟨.ret, { fr := [(2, .own 10000 0)], tab := [(0, .var [.str (N.bad (N.one ⟨s, e⟩).1 (rowsP rows) (N.one ⟨s, e⟩).2).s, .int .i64 (N.bad (N.one ⟨s, e⟩).1 (rowsP rows) (N.one ⟨s, e⟩).2).err]), (10000, .sl [.str, .int .u8, .int .i64, .str] [] 0)] }, by simp, fun K => ?_, fun K => rfl⟩
          rw [q_headReadR]
          unfold N.bad rowsP rowP at hc ⊢
          cases hz : (N.one ⟨s, e⟩).2.err == 0 with
          | true => rw [hz, cond_true] at hc; simp (disch := omega) only [evs, hc]
          | false => rw [hz, cond_false] at hc; simp (disch := omega) only [evs, hc]
        | false =>
          refine .inl ⟨(j + 1, N.bad (N.one ⟨s, e⟩).1 (rowsP rows) (N.one ⟨s, e⟩).2, rows ++ [cPair.enc (N.one ⟨s, e⟩).1]), ⟨by simp only; omega, by simp only [List.length_append, List.length_cons, List.length_nil]; omega⟩, by simp only; omega, fun K => ?_, fun K => rfl⟩
          rw [q_headReadR]
          unfold N.bad rowsP rowP at hc ⊢
          cases hz : (N.one ⟨s, e⟩).2.err == 0 with
          | true => rw [hz, cond_true] at hc; simp (disch := omega) only [evs, hc]; rfl
          | false => rw [hz, cond_false] at hc; simp (disch := omega) only [evs, hc]; rfl
      · refine .inr ⟨.exit 0, { fr := [(4, .own 10000 0)], tab := [(0, .var [.str s, .int .i64 e]), (10000, .sl [.str, .int .u8, .int .i64, .str] rows 0)] }, by simp, fun K => ?_, fun K => ?_⟩
        · rw [q_headReadR]
          simp (disch := omega) only [evs]
        · rw [show (n - j).toNat = 0 by omega]; rfl
    · cases h
  · refine (q_headRead i).trans ?_
    obtain ⟨b1, b2⟩ := inNum1 i
    have w : IntKind.wrap .i64 (N.inNum i 1).1 = (N.inNum i 1).1 := wrap_i64 (by omega) (by omega)
    show _ = some (⟨.slc [.str, .int .u8, .int .i64, .str] ((N.headRead i).1.map cPair.enc), [[.str (N.headRead i).2.s, .int .i64 (N.headRead i).2.err]], []⟩ : DRes)
    unfold N.headRead
    rw [w]
    simp (disch := omega) only [evs, Int.sub_zero, Nat.zero_add]
    cases ilt 8 (N.inNum i 1).1 with
    | true =>
      have e1 := hl_enc (N.inNum i 1).1.toNat (N.inFail (N.inNum i 1).2 6) []
      have e2 := hl_none (N.inNum i 1).1.toNat (N.inFail (N.inNum i 1).2 6) []
      rw [List.map_nil] at e1
      cases hc : (N.hl (N.inNum i 1).1.toNat (N.inFail (N.inNum i 1).2 6) []).1 with
      | true => simp only [cond_true, e1]
      | false =>
        rw [e1] at e2
        have e3 : (N.readFrom (N.inNum i 1).1.toNat (N.inFail (N.inNum i 1).2 6) []).1.map cPair.enc = [] := e2 hc
        simp only [cond_true, cond_false, e1, e3]
    | false =>
      have e1 := hl_enc (N.inNum i 1).1.toNat (N.inNum i 1).2 []
      have e2 := hl_none (N.inNum i 1).1.toNat (N.inNum i 1).2 []
      rw [List.map_nil] at e1
      cases hc : (N.hl (N.inNum i 1).1.toNat (N.inNum i 1).2 []).1 with
      | true => simp only [cond_true, cond_false, e1]
      | false =>
        rw [e1] at e2
        have e3 : (N.readFrom (N.inNum i 1).1.toNat (N.inNum i 1).2 []).1.map cPair.enc = [] := e2 hc
        simp only [cond_false, e1, e3]
def schRNum : SSch := { fr := [(5, .str), (6, .int .u64), (7, .int .i64)], tab := [(0, .var [.str, .int .i64, .int .i64])] }
namespace N
def beW : Bytes → Int → Int
  | [], n => n
  | c :: r, n => beW r (IntKind.wrap .u64 (IntKind.wrap .u64 (n * 256) + IntKind.wrap .u64 c.toNat))
end N
def gRNum : List Leaf → (Ex → St → Option R) → Option R
  | [.s s5, .i i6, .i i7, .s sx0, .i ix0, .i ix0_1], K => cond (ile 0 i7) (cond (Nat.ble s5.length LIM) (K (.exit 0) { fr := [(6, .int .u64 (N.beW (s5.drop i7.toNat) i6))], tab := [(0, .var [.str sx0, .int .i64 ix0, .int .i64 ix0_1])] }) none) none
  | _, _ => none
noncomputable def eRNum : Env := env Tryz.prog [(54, dRRaw)] [(6, loopF schRNum gRNum)] [(6, [(0, [5, 6, 7]), (1, [6]), (1000, [4])])]
theorem q_rNum (q : RIn) (n : Int) : evFn eRNum 29 (((aCons (vPtr 0) (aOne (vInt .i64))).enc ((), n))) (((bOne cRIn).enc q)) some =
 cond (ilt (8 : Int) n) (cond (N.goodR q) (cond (Nat.ble (List.length (Prod.fst (N.rRaw q (8 : Int)))) (1000000 : Nat)) (some { v := V.int IntKind.u64 (N.beW (List.drop (0 : Nat) (Prod.fst (N.rRaw q (8 : Int)))) (0 : Int)), bx := [[V.str (RIn.s (Prod.snd (N.rRaw q (8 : Int)))), V.int IntKind.i64 (RIn.at' (Prod.snd (N.rRaw q (8 : Int)))), V.int IntKind.i64 (RIn.code (Prod.snd (N.rRaw q (8 : Int))))]] : DRes }) (none)) (none)) (cond (N.goodR q) (cond (Nat.ble (List.length (Prod.fst (N.rRaw q n))) (1000000 : Nat)) (some { v := V.int IntKind.u64 (N.beW (List.drop (0 : Nat) (Prod.fst (N.rRaw q n))) (0 : Int)), bx := [[V.str (RIn.s (Prod.snd (N.rRaw q n))), V.int IntKind.i64 (RIn.at' (Prod.snd (N.rRaw q n))), V.int IntKind.i64 (RIn.code (Prod.snd (N.rRaw q n)))]] : DRes }) (none)) (none)) := by kernel_rfl
theorem q_rNumR (s5 : Bytes) (i6 : Int) (i7 : Int) (sx0 : Bytes) (ix0 : Int) (ix0_1 : Int) (K : Ex → St → Option R) : evRound eRNum 29 6 { fr := [(5, .str s5), (6, .int .u64 i6), (7, .int .i64 i7)], tab := [(0, .var [.str sx0, .int .i64 ix0, .int .i64 ix0_1])] } K =
 cond (ilt i7 (↑(List.length s5) : Int)) (cond (decide ((0 : Int) ≤ i7 ∧ i7 < (↑(List.length s5) : Int))) (K Ex.normal { fr := [((5 : Nat), V.str s5), ((6 : Nat), V.int IntKind.u64 (IntKind.wrap IntKind.u64 (IntKind.wrap IntKind.u64 (i6 * (256 : Int)) + IntKind.wrap IntKind.u64 (↑(UInt8.toNat (List.getD s5 (Int.toNat i7) (0 : UInt8))) : Int)))), ((7 : Nat), V.int IntKind.i64 (IntKind.wrap IntKind.i64 (i7 + (1 : Int))))], tab := [((0 : Nat), Box.var [V.str sx0, V.int IntKind.i64 ix0, V.int IntKind.i64 ix0_1])] : St }) (none)) (K (Ex.exit (0 : Nat)) { fr := [((6 : Nat), V.int IntKind.u64 i6)], tab := [((0 : Nat), Box.var [V.str sx0, V.int IntKind.i64 ix0, V.int IntKind.i64 ix0_1])] : St }) := by kernel_rfl
theorem beW_eq : ∀ (l : Bytes) (n : Int) (k : Nat), 0 ≤ n → l.length ≤ k → k ≤ 8 → n < ((256 ^ (8 - k) : Nat) : Int) → N.beW l n = N.be l n
  | [], n, k, _, _, _, _ => rfl
  | c :: r, n, k, hn, hl, hk, h => by
    have hc : c.toNat < 256 := c.toNat_lt
    have hl' : r.length + 1 ≤ k := hl
    have h7 : n < 72057594037927936 := by
      have h1 : 256 ^ (8 - k) ≤ 256 ^ 7 := Nat.pow_le_pow_right (by decide) (by omega)
      have e : (256 : Nat) ^ 7 = 72057594037927936 := by decide
      rw [e] at h1
      omega
    show N.beW r (IntKind.wrap .u64 (IntKind.wrap .u64 (n * 256) + IntKind.wrap .u64 ((c.toNat : Nat) : Int))) = N.be r (n * 256 + c.toNat)
    rw [wrap_u64 (n := n * 256) (by omega) (by omega), wrap_u64 (n := (c.toNat : Int)) (by omega) (by omega), wrap_u64 (by omega) (by omega)]
    refine beW_eq r _ (k - 1) (by omega) (by omega) (by omega) ?_
    have : (256 : Nat) ^ (8 - (k - 1)) = 256 ^ (8 - k) * 256 := by
      rw [show 8 - (k - 1) = (8 - k) + 1 by omega, Nat.pow_succ]
    rw [this]; omega
theorem rRaw_len {q : RIn} (h : N.goodR q = true) (n : Int) (m : Nat) (hm : n ≤ m) : (N.rRaw q n).1.length ≤ m := by
  rw [← (rl_raw (good_rl h).1 n).1]; exact N.inRaw_len _ n m hm
theorem ok_rNum : FnOk Tryz.prog 29 dRNum := by
  refine den_okF (env_ok ((TOk.nil _).cons ok_rRaw)) (E := eRNum) Tryz.func29 [6] (by kernel_rfl) (one1 (rounds_of rfl fun l K q h => ?_)) fun a q h => ?_
  · unfold gRNum at h
    split at h
    · rename_i s n k x1 x2 x3
      have h1 := (cond_none h).1; replace h := (cond_none h).2; have h2 := (cond_none h).1; replace h := (cond_none h).2
      have h2 : s.length ≤ 1000000 := ble_of h2
      refine loop_ind (E := eRNum) (f := 29) (id := 6) (σ := Int × Int) (fun x => { fr := [(5, .str s), (6, .int .u64 x.1), (7, .int .i64 x.2)], tab := [(0, .var [.str x1, .int .i64 x2, .int .i64 x3])] })
        (fun x => 0 ≤ x.2) (fun x => s.length - x.2.toNat)
        (fun x K => K (.exit 0) { fr := [(6, .int .u64 (N.beW (s.drop x.2.toNat) x.1))], tab := [(0, .var [.str x1, .int .i64 x2, .int .i64 x3])] }) ?_ (n, k) (ile_of h1) K q (by assumption)
      rintro ⟨n, k⟩ hk
      simp only at hk ⊢
      by_cases hl : k < s.length
      · rw [drop_byte (show k.toNat < s.length by omega)]
        refine .inl ⟨(IntKind.wrap .u64 (IntKind.wrap .u64 (n * 256) + IntKind.wrap .u64 (s.getD k.toNat 0).toNat), k + 1), by simp only; omega, by simp only; omega, fun K => ?_, fun K => ?_⟩
        · rw [q_rNumR]
          simp (disch := omega) only [evs]
        · rw [show (k + 1).toNat = k.toNat + 1 by omega]; rfl
      · refine .inr ⟨.exit 0, { fr := [(6, .int .u64 n)], tab := [(0, .var [.str x1, .int .i64 x2, .int .i64 x3])] }, by simp, fun K => ?_, fun K => ?_⟩
        · rw [q_rNumR]
          simp (disch := omega) only [evs]
        · rw [List.drop_eq_nil_of_le (by omega)]; rfl
    · cases h
  · refine (q_rNum q a.2).trans ?_
    show _ = some (⟨.int .u64 (N.rNum q a.2).1, [[.str (N.rNum q a.2).2.s, .int .i64 (N.rNum q a.2).2.at', .int .i64 (N.rNum q a.2).2.code]], []⟩ : DRes)
    unfold N.rNum
    have h : N.goodR q = true := h
    by_cases e : 8 < a.2
    · have l := rRaw_len h 8 8 (Int.le_refl 8)
      have b := beW_eq (N.rRaw q 8).1 0 8 (by decide) l (by decide) (by decide)
      simp (disch := omega) only [evs, h, List.drop_zero, b]
    · have l := rRaw_len h a.2 8 (by omega)
      have b := beW_eq (N.rRaw q a.2).1 0 8 (by decide) l (by decide) (by decide)
      simp (disch := omega) only [evs, h, List.drop_zero, b]
noncomputable def eRText : Env := env Tryz.prog [(29, dRNum), (30, dRFail), (54, dRRaw)] [] []
theorem q_rText (q : RIn) (n : Int) : evFn eRText 55 ((aCons (vPtr 0) (aOne (vInt .i64))).enc ((), n)) ((bOne cRIn).enc q) some =
 cond (N.goodR q) (cond (ilt n (IntKind.wrap IntKind.i64 (Prod.fst (N.rNum q (2 : Int))))) (cond (N.goodR (N.rFail (Prod.snd (N.rNum q (2 : Int))) (5 : Int))) (some { v := V.str (Prod.fst (N.rRaw (N.rFail (Prod.snd (N.rNum q (2 : Int))) (5 : Int)) (IntKind.wrap IntKind.i64 (Prod.fst (N.rNum q (2 : Int)))))), bx := [[V.str (RIn.s (Prod.snd (N.rRaw (N.rFail (Prod.snd (N.rNum q (2 : Int))) (5 : Int)) (IntKind.wrap IntKind.i64 (Prod.fst (N.rNum q (2 : Int))))))), V.int IntKind.i64 (RIn.at' (Prod.snd (N.rRaw (N.rFail (Prod.snd (N.rNum q (2 : Int))) (5 : Int)) (IntKind.wrap IntKind.i64 (Prod.fst (N.rNum q (2 : Int))))))), V.int IntKind.i64 (RIn.code (Prod.snd (N.rRaw (N.rFail (Prod.snd (N.rNum q (2 : Int))) (5 : Int)) (IntKind.wrap IntKind.i64 (Prod.fst (N.rNum q (2 : Int)))))))]] : DRes }) (none)) (cond (N.goodR (Prod.snd (N.rNum q (2 : Int)))) (some { v := V.str (Prod.fst (N.rRaw (Prod.snd (N.rNum q (2 : Int))) (IntKind.wrap IntKind.i64 (Prod.fst (N.rNum q (2 : Int)))))), bx := [[V.str (RIn.s (Prod.snd (N.rRaw (Prod.snd (N.rNum q (2 : Int))) (IntKind.wrap IntKind.i64 (Prod.fst (N.rNum q (2 : Int))))))), V.int IntKind.i64 (RIn.at' (Prod.snd (N.rRaw (Prod.snd (N.rNum q (2 : Int))) (IntKind.wrap IntKind.i64 (Prod.fst (N.rNum q (2 : Int))))))), V.int IntKind.i64 (RIn.code (Prod.snd (N.rRaw (Prod.snd (N.rNum q (2 : Int))) (IntKind.wrap IntKind.i64 (Prod.fst (N.rNum q (2 : Int)))))))]] : DRes }) (none))) (none) := by kernel_rfl
theorem ok_rText : FnOk Tryz.prog 55 dRText := by
  refine den_okF (env_ok ((((TOk.nil _).cons ok_rRaw).cons ok_rFail).cons ok_rNum)) (E := eRText) Tryz.func55 [] (by kernel_rfl) none0 fun a q h => ?_
  refine (q_rText q a.2).trans ?_
  show _ = some (⟨.str (N.rText q a.2).1, [[.str (N.rText q a.2).2.s, .int .i64 (N.rText q a.2).2.at', .int .i64 (N.rText q a.2).2.code]], []⟩ : DRes)
  unfold N.rText
  have h : N.goodR q = true := h
  have h1 := good_num h 2
  have h2 := good_fail h1 5
  simp (disch := omega) only [evs, h, h1, h2]
  cases ilt a.2 (IntKind.wrap .i64 (N.rNum q 2).1) <;> rfl
def schRefPair : SSch := { fr := [(2, .ptr 10000 0 0), (57, .slc [.str, .int .u8, .int .i64, .str]), (58, .int .i64), (59, .int .i64)], tab := [(10000, .var [.str, .int .u8, .int .i64, .str])] }
def gRefPair : List Leaf → (Ex → St → Option R) → Option R
  | [.r r57, .i i58, .i i59, .s sx0, .i _, .i _, .s _], K => cond (i58 == r57.length) (cond (ile 0 i59) (cond (Nat.ble r57.length LIM)
      (cond (ile 0 (N.findIx sx0 ((rowsP r57).drop i59.toNat) i59)) (K .ret { fr := [(4, .int .i64 9)], tab := [] }) (K (.exit 0) { fr := [], tab := [] })) none) none) none
  | _, _ => none
noncomputable def eRefPair : Env := env Tryz.prog [(65, dName)] [(13, loopF schRefPair gRefPair)] [(13, [(0, [2, 57, 58, 59]), (1, []), (1000, [4])])]
theorem q_refPair (p : HPair) (l : List HPair) : evFn eRefPair 78 (((aCons (vAgg cPair) (aOne (vSl cPair))).enc (p, l))) ([]) some =
 cond (N.name (HPair.key p) != (0 : Int)) (some { v := V.int IntKind.i64 (N.name (HPair.key p)), bx := [] : DRes }) (cond (ilt (2 : Int) (HPair.kind p)) (some { v := V.int IntKind.i64 (8 : Int), bx := [] : DRes }) (cond (HPair.kind p == (1 : Int)) (cond (ilt (64 : Int) (↑(List.length (HPair.text p)) : Int)) (some { v := V.int IntKind.i64 (5 : Int), bx := [] : DRes }) (cond (HPair.kind p == (2 : Int)) (cond (ilt (HPair.num p) (0 : Int)) (some { v := V.int IntKind.i64 (7 : Int), bx := [] : DRes }) (cond (ilt (1 : Int) (HPair.num p)) (some { v := V.int IntKind.i64 (7 : Int), bx := [] : DRes }) (cond (HPair.kind p == (1 : Int)) (cond (HPair.num p != (0 : Int)) (some { v := V.int IntKind.i64 (4 : Int), bx := [] : DRes }) (cond (HPair.kind p != (1 : Int)) (cond (!HPair.text p == []) (some { v := V.int IntKind.i64 (4 : Int), bx := [] : DRes }) (cond ((↑(List.length (List.map (fun p => [V.str (HPair.key p), V.int IntKind.u8 (HPair.kind p), V.int IntKind.i64 (HPair.num p), V.str (HPair.text p)]) l)) : Int) == (↑(List.length (List.map (fun p => [V.str (HPair.key p), V.int IntKind.u8 (HPair.kind p), V.int IntKind.i64 (HPair.num p), V.str (HPair.text p)]) l)) : Int)) (cond (Nat.ble (List.length (List.map (fun p => [V.str (HPair.key p), V.int IntKind.u8 (HPair.kind p), V.int IntKind.i64 (HPair.num p), V.str (HPair.text p)]) l)) (1000000 : Nat)) (cond (ile (0 : Int) (N.findIx (HPair.key p) (List.drop (0 : Nat) (List.map (fun r => { key := V.toStr (List.getD r (0 : Nat) V.undef), kind := V.toInt (List.getD r (1 : Nat) V.undef), num := V.toInt (List.getD r (2 : Nat) V.undef), text := V.toStr (List.getD r (3 : Nat) V.undef) : HPair }) (List.map (fun p => [V.str (HPair.key p), V.int IntKind.u8 (HPair.kind p), V.int IntKind.i64 (HPair.num p), V.str (HPair.text p)]) l))) (0 : Int))) (some { v := V.int IntKind.i64 (9 : Int), bx := [] : DRes }) (some { v := V.int IntKind.i64 (0 : Int), bx := [] : DRes })) (none)) (none))) (cond ((↑(List.length (List.map (fun p => [V.str (HPair.key p), V.int IntKind.u8 (HPair.kind p), V.int IntKind.i64 (HPair.num p), V.str (HPair.text p)]) l)) : Int) == (↑(List.length (List.map (fun p => [V.str (HPair.key p), V.int IntKind.u8 (HPair.kind p), V.int IntKind.i64 (HPair.num p), V.str (HPair.text p)]) l)) : Int)) (cond (Nat.ble (List.length (List.map (fun p => [V.str (HPair.key p), V.int IntKind.u8 (HPair.kind p), V.int IntKind.i64 (HPair.num p), V.str (HPair.text p)]) l)) (1000000 : Nat)) (cond (ile (0 : Int) (N.findIx (HPair.key p) (List.drop (0 : Nat) (List.map (fun r => { key := V.toStr (List.getD r (0 : Nat) V.undef), kind := V.toInt (List.getD r (1 : Nat) V.undef), num := V.toInt (List.getD r (2 : Nat) V.undef), text := V.toStr (List.getD r (3 : Nat) V.undef) : HPair }) (List.map (fun p => [V.str (HPair.key p), V.int IntKind.u8 (HPair.kind p), V.int IntKind.i64 (HPair.num p), V.str (HPair.text p)]) l))) (0 : Int))) (some { v := V.int IntKind.i64 (9 : Int), bx := [] : DRes }) (some { v := V.int IntKind.i64 (0 : Int), bx := [] : DRes })) (none)) (none)))) (cond (HPair.kind p != (1 : Int)) (cond (!HPair.text p == []) (some { v := V.int IntKind.i64 (4 : Int), bx := [] : DRes }) (cond ((↑(List.length (List.map (fun p => [V.str (HPair.key p), V.int IntKind.u8 (HPair.kind p), V.int IntKind.i64 (HPair.num p), V.str (HPair.text p)]) l)) : Int) == (↑(List.length (List.map (fun p => [V.str (HPair.key p), V.int IntKind.u8 (HPair.kind p), V.int IntKind.i64 (HPair.num p), V.str (HPair.text p)]) l)) : Int)) (cond (Nat.ble (List.length (List.map (fun p => [V.str (HPair.key p), V.int IntKind.u8 (HPair.kind p), V.int IntKind.i64 (HPair.num p), V.str (HPair.text p)]) l)) (1000000 : Nat)) (cond (ile (0 : Int) (N.findIx (HPair.key p) (List.drop (0 : Nat) (List.map (fun r => { key := V.toStr (List.getD r (0 : Nat) V.undef), kind := V.toInt (List.getD r (1 : Nat) V.undef), num := V.toInt (List.getD r (2 : Nat) V.undef), text := V.toStr (List.getD r (3 : Nat) V.undef) : HPair }) (List.map (fun p => [V.str (HPair.key p), V.int IntKind.u8 (HPair.kind p), V.int IntKind.i64 (HPair.num p), V.str (HPair.text p)]) l))) (0 : Int))) (some { v := V.int IntKind.i64 (9 : Int), bx := [] : DRes }) (some { v := V.int IntKind.i64 (0 : Int), bx := [] : DRes })) (none)) (none))) (cond ((↑(List.length (List.map (fun p => [V.str (HPair.key p), V.int IntKind.u8 (HPair.kind p), V.int IntKind.i64 (HPair.num p), V.str (HPair.text p)]) l)) : Int) == (↑(List.length (List.map (fun p => [V.str (HPair.key p), V.int IntKind.u8 (HPair.kind p), V.int IntKind.i64 (HPair.num p), V.str (HPair.text p)]) l)) : Int)) (cond (Nat.ble (List.length (List.map (fun p => [V.str (HPair.key p), V.int IntKind.u8 (HPair.kind p), V.int IntKind.i64 (HPair.num p), V.str (HPair.text p)]) l)) (1000000 : Nat)) (cond (ile (0 : Int) (N.findIx (HPair.key p) (List.drop (0 : Nat) (List.map (fun r => { key := V.toStr (List.getD r (0 : Nat) V.undef), kind := V.toInt (List.getD r (1 : Nat) V.undef), num := V.toInt (List.getD r (2 : Nat) V.undef), text := V.toStr (List.getD r (3 : Nat) V.undef) : HPair }) (List.map (fun p => [V.str (HPair.key p), V.int IntKind.u8 (HPair.kind p), V.int IntKind.i64 (HPair.num p), V.str (HPair.text p)]) l))) (0 : Int))) (some { v := V.int IntKind.i64 (9 : Int), bx := [] : DRes }) (some { v := V.int IntKind.i64 (0 : Int), bx := [] : DRes })) (none)) (none)))))) (cond (HPair.kind p == (1 : Int)) (cond (HPair.num p != (0 : Int)) (some { v := V.int IntKind.i64 (4 : Int), bx := [] : DRes }) (cond (HPair.kind p != (1 : Int)) (cond (!HPair.text p == []) (some { v := V.int IntKind.i64 (4 : Int), bx := [] : DRes }) (cond ((↑(List.length (List.map (fun p => [V.str (HPair.key p), V.int IntKind.u8 (HPair.kind p), V.int IntKind.i64 (HPair.num p), V.str (HPair.text p)]) l)) : Int) == (↑(List.length (List.map (fun p => [V.str (HPair.key p), V.int IntKind.u8 (HPair.kind p), V.int IntKind.i64 (HPair.num p), V.str (HPair.text p)]) l)) : Int)) (cond (Nat.ble (List.length (List.map (fun p => [V.str (HPair.key p), V.int IntKind.u8 (HPair.kind p), V.int IntKind.i64 (HPair.num p), V.str (HPair.text p)]) l)) (1000000 : Nat)) (cond (ile (0 : Int) (N.findIx (HPair.key p) (List.drop (0 : Nat) (List.map (fun r => { key := V.toStr (List.getD r (0 : Nat) V.undef), kind := V.toInt (List.getD r (1 : Nat) V.undef), num := V.toInt (List.getD r (2 : Nat) V.undef), text := V.toStr (List.getD r (3 : Nat) V.undef) : HPair }) (List.map (fun p => [V.str (HPair.key p), V.int IntKind.u8 (HPair.kind p), V.int IntKind.i64 (HPair.num p), V.str (HPair.text p)]) l))) (0 : Int))) (some { v := V.int IntKind.i64 (9 : Int), bx := [] : DRes }) (some { v := V.int IntKind.i64 (0 : Int), bx := [] : DRes })) (none)) (none))) (cond ((↑(List.length (List.map (fun p => [V.str (HPair.key p), V.int IntKind.u8 (HPair.kind p), V.int IntKind.i64 (HPair.num p), V.str (HPair.text p)]) l)) : Int) == (↑(List.length (List.map (fun p => [V.str (HPair.key p), V.int IntKind.u8 (HPair.kind p), V.int IntKind.i64 (HPair.num p), V.str (HPair.text p)]) l)) : Int)) (cond (Nat.ble (List.length (List.map (fun p => [V.str (HPair.key p), V.int IntKind.u8 (HPair.kind p), V.int IntKind.i64 (HPair.num p), V.str (HPair.text p)]) l)) (1000000 : Nat)) (cond (ile (0 : Int) (N.findIx (HPair.key p) (List.drop (0 : Nat) (List.map (fun r => { key := V.toStr (List.getD r (0 : Nat) V.undef), kind := V.toInt (List.getD r (1 : Nat) V.undef), num := V.toInt (List.getD r (2 : Nat) V.undef), text := V.toStr (List.getD r (3 : Nat) V.undef) : HPair }) (List.map (fun p => [V.str (HPair.key p), V.int IntKind.u8 (HPair.kind p), V.int IntKind.i64 (HPair.num p), V.str (HPair.text p)]) l))) (0 : Int))) (some { v := V.int IntKind.i64 (9 : Int), bx := [] : DRes }) (some { v := V.int IntKind.i64 (0 : Int), bx := [] : DRes })) (none)) (none)))) (cond (HPair.kind p != (1 : Int)) (cond (!HPair.text p == []) (some { v := V.int IntKind.i64 (4 : Int), bx := [] : DRes }) (cond ((↑(List.length (List.map (fun p => [V.str (HPair.key p), V.int IntKind.u8 (HPair.kind p), V.int IntKind.i64 (HPair.num p), V.str (HPair.text p)]) l)) : Int) == (↑(List.length (List.map (fun p => [V.str (HPair.key p), V.int IntKind.u8 (HPair.kind p), V.int IntKind.i64 (HPair.num p), V.str (HPair.text p)]) l)) : Int)) (cond (Nat.ble (List.length (List.map (fun p => [V.str (HPair.key p), V.int IntKind.u8 (HPair.kind p), V.int IntKind.i64 (HPair.num p), V.str (HPair.text p)]) l)) (1000000 : Nat)) (cond (ile (0 : Int) (N.findIx (HPair.key p) (List.drop (0 : Nat) (List.map (fun r => { key := V.toStr (List.getD r (0 : Nat) V.undef), kind := V.toInt (List.getD r (1 : Nat) V.undef), num := V.toInt (List.getD r (2 : Nat) V.undef), text := V.toStr (List.getD r (3 : Nat) V.undef) : HPair }) (List.map (fun p => [V.str (HPair.key p), V.int IntKind.u8 (HPair.kind p), V.int IntKind.i64 (HPair.num p), V.str (HPair.text p)]) l))) (0 : Int))) (some { v := V.int IntKind.i64 (9 : Int), bx := [] : DRes }) (some { v := V.int IntKind.i64 (0 : Int), bx := [] : DRes })) (none)) (none))) (cond ((↑(List.length (List.map (fun p => [V.str (HPair.key p), V.int IntKind.u8 (HPair.kind p), V.int IntKind.i64 (HPair.num p), V.str (HPair.text p)]) l)) : Int) == (↑(List.length (List.map (fun p => [V.str (HPair.key p), V.int IntKind.u8 (HPair.kind p), V.int IntKind.i64 (HPair.num p), V.str (HPair.text p)]) l)) : Int)) (cond (Nat.ble (List.length (List.map (fun p => [V.str (HPair.key p), V.int IntKind.u8 (HPair.kind p), V.int IntKind.i64 (HPair.num p), V.str (HPair.text p)]) l)) (1000000 : Nat)) (cond (ile (0 : Int) (N.findIx (HPair.key p) (List.drop (0 : Nat) (List.map (fun r => { key := V.toStr (List.getD r (0 : Nat) V.undef), kind := V.toInt (List.getD r (1 : Nat) V.undef), num := V.toInt (List.getD r (2 : Nat) V.undef), text := V.toStr (List.getD r (3 : Nat) V.undef) : HPair }) (List.map (fun p => [V.str (HPair.key p), V.int IntKind.u8 (HPair.kind p), V.int IntKind.i64 (HPair.num p), V.str (HPair.text p)]) l))) (0 : Int))) (some { v := V.int IntKind.i64 (9 : Int), bx := [] : DRes }) (some { v := V.int IntKind.i64 (0 : Int), bx := [] : DRes })) (none)) (none)))))) (cond (HPair.kind p == (2 : Int)) (cond (ilt (HPair.num p) (0 : Int)) (some { v := V.int IntKind.i64 (7 : Int), bx := [] : DRes }) (cond (ilt (1 : Int) (HPair.num p)) (some { v := V.int IntKind.i64 (7 : Int), bx := [] : DRes }) (cond (HPair.kind p == (1 : Int)) (cond (HPair.num p != (0 : Int)) (some { v := V.int IntKind.i64 (4 : Int), bx := [] : DRes }) (cond (HPair.kind p != (1 : Int)) (cond (!HPair.text p == []) (some { v := V.int IntKind.i64 (4 : Int), bx := [] : DRes }) (cond ((↑(List.length (List.map (fun p => [V.str (HPair.key p), V.int IntKind.u8 (HPair.kind p), V.int IntKind.i64 (HPair.num p), V.str (HPair.text p)]) l)) : Int) == (↑(List.length (List.map (fun p => [V.str (HPair.key p), V.int IntKind.u8 (HPair.kind p), V.int IntKind.i64 (HPair.num p), V.str (HPair.text p)]) l)) : Int)) (cond (Nat.ble (List.length (List.map (fun p => [V.str (HPair.key p), V.int IntKind.u8 (HPair.kind p), V.int IntKind.i64 (HPair.num p), V.str (HPair.text p)]) l)) (1000000 : Nat)) (cond (ile (0 : Int) (N.findIx (HPair.key p) (List.drop (0 : Nat) (List.map (fun r => { key := V.toStr (List.getD r (0 : Nat) V.undef), kind := V.toInt (List.getD r (1 : Nat) V.undef), num := V.toInt (List.getD r (2 : Nat) V.undef), text := V.toStr (List.getD r (3 : Nat) V.undef) : HPair }) (List.map (fun p => [V.str (HPair.key p), V.int IntKind.u8 (HPair.kind p), V.int IntKind.i64 (HPair.num p), V.str (HPair.text p)]) l))) (0 : Int))) (some { v := V.int IntKind.i64 (9 : Int), bx := [] : DRes }) (some { v := V.int IntKind.i64 (0 : Int), bx := [] : DRes })) (none)) (none))) (cond ((↑(List.length (List.map (fun p => [V.str (HPair.key p), V.int IntKind.u8 (HPair.kind p), V.int IntKind.i64 (HPair.num p), V.str (HPair.text p)]) l)) : Int) == (↑(List.length (List.map (fun p => [V.str (HPair.key p), V.int IntKind.u8 (HPair.kind p), V.int IntKind.i64 (HPair.num p), V.str (HPair.text p)]) l)) : Int)) (cond (Nat.ble (List.length (List.map (fun p => [V.str (HPair.key p), V.int IntKind.u8 (HPair.kind p), V.int IntKind.i64 (HPair.num p), V.str (HPair.text p)]) l)) (1000000 : Nat)) (cond (ile (0 : Int) (N.findIx (HPair.key p) (List.drop (0 : Nat) (List.map (fun r => { key := V.toStr (List.getD r (0 : Nat) V.undef), kind := V.toInt (List.getD r (1 : Nat) V.undef), num := V.toInt (List.getD r (2 : Nat) V.undef), text := V.toStr (List.getD r (3 : Nat) V.undef) : HPair }) (List.map (fun p => [V.str (HPair.key p), V.int IntKind.u8 (HPair.kind p), V.int IntKind.i64 (HPair.num p), V.str (HPair.text p)]) l))) (0 : Int))) (some { v := V.int IntKind.i64 (9 : Int), bx := [] : DRes }) (some { v := V.int IntKind.i64 (0 : Int), bx := [] : DRes })) (none)) (none)))) (cond (HPair.kind p != (1 : Int)) (cond (!HPair.text p == []) (some { v := V.int IntKind.i64 (4 : Int), bx := [] : DRes }) (cond ((↑(List.length (List.map (fun p => [V.str (HPair.key p), V.int IntKind.u8 (HPair.kind p), V.int IntKind.i64 (HPair.num p), V.str (HPair.text p)]) l)) : Int) == (↑(List.length (List.map (fun p => [V.str (HPair.key p), V.int IntKind.u8 (HPair.kind p), V.int IntKind.i64 (HPair.num p), V.str (HPair.text p)]) l)) : Int)) (cond (Nat.ble (List.length (List.map (fun p => [V.str (HPair.key p), V.int IntKind.u8 (HPair.kind p), V.int IntKind.i64 (HPair.num p), V.str (HPair.text p)]) l)) (1000000 : Nat)) (cond (ile (0 : Int) (N.findIx (HPair.key p) (List.drop (0 : Nat) (List.map (fun r => { key := V.toStr (List.getD r (0 : Nat) V.undef), kind := V.toInt (List.getD r (1 : Nat) V.undef), num := V.toInt (List.getD r (2 : Nat) V.undef), text := V.toStr (List.getD r (3 : Nat) V.undef) : HPair }) (List.map (fun p => [V.str (HPair.key p), V.int IntKind.u8 (HPair.kind p), V.int IntKind.i64 (HPair.num p), V.str (HPair.text p)]) l))) (0 : Int))) (some { v := V.int IntKind.i64 (9 : Int), bx := [] : DRes }) (some { v := V.int IntKind.i64 (0 : Int), bx := [] : DRes })) (none)) (none))) (cond ((↑(List.length (List.map (fun p => [V.str (HPair.key p), V.int IntKind.u8 (HPair.kind p), V.int IntKind.i64 (HPair.num p), V.str (HPair.text p)]) l)) : Int) == (↑(List.length (List.map (fun p => [V.str (HPair.key p), V.int IntKind.u8 (HPair.kind p), V.int IntKind.i64 (HPair.num p), V.str (HPair.text p)]) l)) : Int)) (cond (Nat.ble (List.length (List.map (fun p => [V.str (HPair.key p), V.int IntKind.u8 (HPair.kind p), V.int IntKind.i64 (HPair.num p), V.str (HPair.text p)]) l)) (1000000 : Nat)) (cond (ile (0 : Int) (N.findIx (HPair.key p) (List.drop (0 : Nat) (List.map (fun r => { key := V.toStr (List.getD r (0 : Nat) V.undef), kind := V.toInt (List.getD r (1 : Nat) V.undef), num := V.toInt (List.getD r (2 : Nat) V.undef), text := V.toStr (List.getD r (3 : Nat) V.undef) : HPair }) (List.map (fun p => [V.str (HPair.key p), V.int IntKind.u8 (HPair.kind p), V.int IntKind.i64 (HPair.num p), V.str (HPair.text p)]) l))) (0 : Int))) (some { v := V.int IntKind.i64 (9 : Int), bx := [] : DRes }) (some { v := V.int IntKind.i64 (0 : Int), bx := [] : DRes })) (none)) (none)))))) (cond (HPair.kind p == (1 : Int)) (cond (HPair.num p != (0 : Int)) (some { v := V.int IntKind.i64 (4 : Int), bx := [] : DRes }) (cond (HPair.kind p != (1 : Int)) (cond (!HPair.text p == []) (some { v := V.int IntKind.i64 (4 : Int), bx := [] : DRes }) (cond ((↑(List.length (List.map (fun p => [V.str (HPair.key p), V.int IntKind.u8 (HPair.kind p), V.int IntKind.i64 (HPair.num p), V.str (HPair.text p)]) l)) : Int) == (↑(List.length (List.map (fun p => [V.str (HPair.key p), V.int IntKind.u8 (HPair.kind p), V.int IntKind.i64 (HPair.num p), V.str (HPair.text p)]) l)) : Int)) (cond (Nat.ble (List.length (List.map (fun p => [V.str (HPair.key p), V.int IntKind.u8 (HPair.kind p), V.int IntKind.i64 (HPair.num p), V.str (HPair.text p)]) l)) (1000000 : Nat)) (cond (ile (0 : Int) (N.findIx (HPair.key p) (List.drop (0 : Nat) (List.map (fun r => { key := V.toStr (List.getD r (0 : Nat) V.undef), kind := V.toInt (List.getD r (1 : Nat) V.undef), num := V.toInt (List.getD r (2 : Nat) V.undef), text := V.toStr (List.getD r (3 : Nat) V.undef) : HPair }) (List.map (fun p => [V.str (HPair.key p), V.int IntKind.u8 (HPair.kind p), V.int IntKind.i64 (HPair.num p), V.str (HPair.text p)]) l))) (0 : Int))) (some { v := V.int IntKind.i64 (9 : Int), bx := [] : DRes }) (some { v := V.int IntKind.i64 (0 : Int), bx := [] : DRes })) (none)) (none))) (cond ((↑(List.length (List.map (fun p => [V.str (HPair.key p), V.int IntKind.u8 (HPair.kind p), V.int IntKind.i64 (HPair.num p), V.str (HPair.text p)]) l)) : Int) == (↑(List.length (List.map (fun p => [V.str (HPair.key p), V.int IntKind.u8 (HPair.kind p), V.int IntKind.i64 (HPair.num p), V.str (HPair.text p)]) l)) : Int)) (cond (Nat.ble (List.length (List.map (fun p => [V.str (HPair.key p), V.int IntKind.u8 (HPair.kind p), V.int IntKind.i64 (HPair.num p), V.str (HPair.text p)]) l)) (1000000 : Nat)) (cond (ile (0 : Int) (N.findIx (HPair.key p) (List.drop (0 : Nat) (List.map (fun r => { key := V.toStr (List.getD r (0 : Nat) V.undef), kind := V.toInt (List.getD r (1 : Nat) V.undef), num := V.toInt (List.getD r (2 : Nat) V.undef), text := V.toStr (List.getD r (3 : Nat) V.undef) : HPair }) (List.map (fun p => [V.str (HPair.key p), V.int IntKind.u8 (HPair.kind p), V.int IntKind.i64 (HPair.num p), V.str (HPair.text p)]) l))) (0 : Int))) (some { v := V.int IntKind.i64 (9 : Int), bx := [] : DRes }) (some { v := V.int IntKind.i64 (0 : Int), bx := [] : DRes })) (none)) (none)))) (cond (HPair.kind p != (1 : Int)) (cond (!HPair.text p == []) (some { v := V.int IntKind.i64 (4 : Int), bx := [] : DRes }) (cond ((↑(List.length (List.map (fun p => [V.str (HPair.key p), V.int IntKind.u8 (HPair.kind p), V.int IntKind.i64 (HPair.num p), V.str (HPair.text p)]) l)) : Int) == (↑(List.length (List.map (fun p => [V.str (HPair.key p), V.int IntKind.u8 (HPair.kind p), V.int IntKind.i64 (HPair.num p), V.str (HPair.text p)]) l)) : Int)) (cond (Nat.ble (List.length (List.map (fun p => [V.str (HPair.key p), V.int IntKind.u8 (HPair.kind p), V.int IntKind.i64 (HPair.num p), V.str (HPair.text p)]) l)) (1000000 : Nat)) (cond (ile (0 : Int) (N.findIx (HPair.key p) (List.drop (0 : Nat) (List.map (fun r => { key := V.toStr (List.getD r (0 : Nat) V.undef), kind := V.toInt (List.getD r (1 : Nat) V.undef), num := V.toInt (List.getD r (2 : Nat) V.undef), text := V.toStr (List.getD r (3 : Nat) V.undef) : HPair }) (List.map (fun p => [V.str (HPair.key p), V.int IntKind.u8 (HPair.kind p), V.int IntKind.i64 (HPair.num p), V.str (HPair.text p)]) l))) (0 : Int))) (some { v := V.int IntKind.i64 (9 : Int), bx := [] : DRes }) (some { v := V.int IntKind.i64 (0 : Int), bx := [] : DRes })) (none)) (none))) (cond ((↑(List.length (List.map (fun p => [V.str (HPair.key p), V.int IntKind.u8 (HPair.kind p), V.int IntKind.i64 (HPair.num p), V.str (HPair.text p)]) l)) : Int) == (↑(List.length (List.map (fun p => [V.str (HPair.key p), V.int IntKind.u8 (HPair.kind p), V.int IntKind.i64 (HPair.num p), V.str (HPair.text p)]) l)) : Int)) (cond (Nat.ble (List.length (List.map (fun p => [V.str (HPair.key p), V.int IntKind.u8 (HPair.kind p), V.int IntKind.i64 (HPair.num p), V.str (HPair.text p)]) l)) (1000000 : Nat)) (cond (ile (0 : Int) (N.findIx (HPair.key p) (List.drop (0 : Nat) (List.map (fun r => { key := V.toStr (List.getD r (0 : Nat) V.undef), kind := V.toInt (List.getD r (1 : Nat) V.undef), num := V.toInt (List.getD r (2 : Nat) V.undef), text := V.toStr (List.getD r (3 : Nat) V.undef) : HPair }) (List.map (fun p => [V.str (HPair.key p), V.int IntKind.u8 (HPair.kind p), V.int IntKind.i64 (HPair.num p), V.str (HPair.text p)]) l))) (0 : Int))) (some { v := V.int IntKind.i64 (9 : Int), bx := [] : DRes }) (some { v := V.int IntKind.i64 (0 : Int), bx := [] : DRes })) (none)) (none))))))) := by kernel_rfl
theorem q_refPairR (r57 : List (List V)) (i58 : Int) (i59 : Int) (sx0 : Bytes) (ix0 : Int) (ix0_1 : Int) (sx0_1 : Bytes) (K : Ex → St → Option R) : evRound eRefPair 78 13 { fr := [(2, .ptr 10000 0 0 0), (57, .slc [.str, .int .u8, .int .i64, .str] r57), (58, .int .i64 i58), (59, .int .i64 i59)], tab := [(10000, .var [.str sx0, .int .u8 ix0, .int .i64 ix0_1, .str sx0_1])] } K =
 cond (ilt i59 i58) (cond (decide ((0 : Int) ≤ i59 ∧ i59 < (↑(List.length r57) : Int))) (cond (V.toStr (List.getD (List.getD r57 (Int.toNat i59) []) (0 : Nat) V.undef) == sx0) (K Ex.ret { fr := [((4 : Nat), V.int IntKind.i64 (9 : Int))], tab := [] : St }) (K Ex.normal { fr := [((2 : Nat), V.ptr (10000 : Nat) (0 : Nat) (0 : Nat) (0 : Nat)), ((57 : Nat), V.slc [Sh.str, Sh.int IntKind.u8, Sh.int IntKind.i64, Sh.str] r57), ((58 : Nat), V.int IntKind.i64 i58), ((59 : Nat), V.int IntKind.i64 (IntKind.wrap IntKind.i64 (i59 + (1 : Int))))], tab := [((10000 : Nat), Box.var [V.str sx0, V.int IntKind.u8 ix0, V.int IntKind.i64 ix0_1, V.str sx0_1])] : St })) (none)) (K (Ex.exit (0 : Nat)) { fr := [], tab := [] : St }) := by kernel_rfl
theorem ok_refPair : FnOk Tryz.prog 78 dPairE := by
  refine den_okF (env_ok ((TOk.nil _).cons ok_refName)) (E := eRefPair) Tryz.func78 [13] (by kernel_rfl) (one1 (rounds_of rfl fun l K q h => ?_)) fun a _ h => ?_
  · unfold gRefPair at h
    split at h
    · rename_i r n i key x1 x2 x3
      have h1 := (cond_none h).1; replace h := (cond_none h).2; have h2 := (cond_none h).1; replace h := (cond_none h).2; have h3 := (cond_none h).1; replace h := (cond_none h).2
      have e1 := ieq_of h1
      subst e1
      have h3 : r.length ≤ 1000000 := ble_of h3
      refine loop_ind (E := eRefPair) (f := 78) (id := 13) (fun i : Int => { fr := [(2, .ptr 10000 0 0 0), (57, .slc [.str, .int .u8, .int .i64, .str] r), (58, .int .i64 r.length), (59, .int .i64 i)], tab := [(10000, .var [.str key, .int .u8 x1, .int .i64 x2, .str x3])] }) (fun i => 0 ≤ i) (fun i => r.length - i.toNat)
        (fun i K => cond (ile 0 (N.findIx key ((rowsP r).drop i.toNat) i)) (K .ret { fr := [(4, .int .i64 9)], tab := [] }) (K (.exit 0) { fr := [], tab := [] })) (fun i hi => ?_) i (ile_of h2) K q (by assumption)
      by_cases hl : i < r.length
      · rw [drop_pair (show i.toNat < r.length by omega)]
        have e : N.findIx key (rowP (r.getD i.toNat []) :: (rowsP r).drop (i.toNat + 1)) i = cond ((rowP (r.getD i.toNat [])).key == key) i (N.findIx key ((rowsP r).drop (i.toNat + 1)) (i + 1)) := rfl
        rw [e]
        cases hc : (rowP (r.getD i.toNat [])).key == key with
        | true =>
          rw [cond_true, ile_t hi]
          refine .inr ⟨.ret, { fr := [(4, .int .i64 9)], tab := [] }, by simp, fun K => ?_, fun K => rfl⟩
          rw [q_refPairR]
          unfold rowP at hc
          simp (disch := omega) only [evs, hc]
        | false =>
          refine .inl ⟨i + 1, by omega, by omega, fun K => ?_, fun K => ?_⟩
          · rw [q_refPairR]
            unfold rowP at hc
            simp (disch := omega) only [evs, hc]
          · rw [cond_false, show (i + 1).toNat = i.toNat + 1 by omega]
      · refine .inr ⟨.exit 0, { fr := [], tab := [] }, by simp, fun K => ?_, fun K => ?_⟩
        · rw [q_refPairR]
          simp (disch := omega) only [evs]
        · rw [List.drop_eq_nil_of_le (by rw [rowsP_length]; omega)]; rfl
    · cases h
  · obtain ⟨p, l⟩ := a
    have h : l.length ≤ 1000000 := ble_of h
    refine (q_refPair p l).trans ?_
    show _ = some (⟨.int .i64 (N.pairE p l), [], []⟩ : DRes)
    unfold N.pairE N.find
    have en : (cond (p.num != 0) (p.num != 1) false) = cond (ilt p.num 0) true (ilt 1 p.num) := by
      rcases (by omega : p.num < 0 ∨ p.num = 0 ∨ p.num = 1 ∨ 1 < p.num) with h | h | h | h
      · simp (disch := omega) only [evs]
      · rw [h]; rfl
      · rw [h]; rfl
      · simp (disch := omega) only [evs]
    have en' : cond (cond (p.kind == 2) (p.num != 0) false) (p.num != 1) false = cond (p.kind == 2) (cond (ilt p.num 0) true (ilt 1 p.num)) false := by
      rw [← en]; cases p.kind == 2 <;> rfl
    rw [en']
    have ef : (cond (ilt (N.findIx p.key l 0) 0) (pair0, false) (l.getD (N.findIx p.key l 0).toNat pair0, true)).2 = ile 0 (N.findIx p.key l 0) := by
      by_cases h : N.findIx p.key l 0 < 0
      · simp (disch := omega) only [evs]
      · simp (disch := omega) only [evs]
    rw [ef]
    simp (disch := omega) only [evs, pairs_enc, List.drop_zero, bne]
    cases hn : N.name p.key == 0 with
    | false => rfl
    | true =>
      cases ilt 2 p.kind with
      | true => rfl
      | false =>
        cases p.kind == 1 <;> cases ilt 64 p.text.length <;> cases p.kind == 2 <;> cases ilt p.num 0 <;> cases ilt 1 p.num <;> cases p.num == 0 <;> cases p.text == [] <;> cases ile 0 (N.findIx p.key l 0) <;> rfl
end Go.Ev

/- The document's function that checks heads answers what the plain one does: lemmas. -/
namespace Go.Ev
open Go Go.Proofs
set_option maxRecDepth 100000

def schRefCheck : SSch := { fr := [(0, .slc [.str, .int .u8, .int .i64, .str]), (9, .slc [.str, .int .u8, .int .i64, .str]), (10, .int .i64), (11, .int .i64)], tab := [] }
def gRefCheck : List Leaf → (Ex → St → Option R) → Option R
  | [.r r0, .r r9, .i i10, .i i11], K => cond (i10 == r9.length) (cond (Nat.beq r0.length r9.length) (cond (ile 0 i11) (cond (Nat.ble r0.length LIM) (cond (N.samePs (rowsP r0) (rowsP r9))
      (cond (N.checkFrom (rowsP r9) (r9.length - i11.toNat) i11 != 0) (K .ret { fr := [(2, .int .i64 (N.checkFrom (rowsP r9) (r9.length - i11.toNat) i11))], tab := [] }) (K (.exit 0) { fr := [], tab := [] })) none) none) none) none) none
  | _, _ => none
noncomputable def eRefCheck : Env := env Tryz.prog [(78, dPairE)] [(4, loopF schRefCheck gRefCheck)] [(4, [(0, [0, 9, 10, 11]), (1, []), (1000, [2])])]
theorem q_refCheck (h : List HPair) : evFn eRefCheck 67 ((aOne (vSl cPair)).enc h) ([]) some =
 cond (ilt (8 : Int) (↑(List.length (List.map (fun p => [V.str (HPair.key p), V.int IntKind.u8 (HPair.kind p), V.int IntKind.i64 (HPair.num p), V.str (HPair.text p)]) h)) : Int)) (some { v := V.int IntKind.i64 (6 : Int), bx := [] : DRes }) (cond ((↑(List.length (List.map (fun p => [V.str (HPair.key p), V.int IntKind.u8 (HPair.kind p), V.int IntKind.i64 (HPair.num p), V.str (HPair.text p)]) h)) : Int) == (↑(List.length (List.map (fun p => [V.str (HPair.key p), V.int IntKind.u8 (HPair.kind p), V.int IntKind.i64 (HPair.num p), V.str (HPair.text p)]) h)) : Int)) (cond (Nat.beq (List.length (List.map (fun p => [V.str (HPair.key p), V.int IntKind.u8 (HPair.kind p), V.int IntKind.i64 (HPair.num p), V.str (HPair.text p)]) h)) (List.length (List.map (fun p => [V.str (HPair.key p), V.int IntKind.u8 (HPair.kind p), V.int IntKind.i64 (HPair.num p), V.str (HPair.text p)]) h))) (cond (Nat.ble (List.length (List.map (fun p => [V.str (HPair.key p), V.int IntKind.u8 (HPair.kind p), V.int IntKind.i64 (HPair.num p), V.str (HPair.text p)]) h)) (1000000 : Nat)) (cond (N.samePs (List.map (fun r => { key := V.toStr (List.getD r (0 : Nat) V.undef), kind := V.toInt (List.getD r (1 : Nat) V.undef), num := V.toInt (List.getD r (2 : Nat) V.undef), text := V.toStr (List.getD r (3 : Nat) V.undef) : HPair }) (List.map (fun p => [V.str (HPair.key p), V.int IntKind.u8 (HPair.kind p), V.int IntKind.i64 (HPair.num p), V.str (HPair.text p)]) h)) (List.map (fun r => { key := V.toStr (List.getD r (0 : Nat) V.undef), kind := V.toInt (List.getD r (1 : Nat) V.undef), num := V.toInt (List.getD r (2 : Nat) V.undef), text := V.toStr (List.getD r (3 : Nat) V.undef) : HPair }) (List.map (fun p => [V.str (HPair.key p), V.int IntKind.u8 (HPair.kind p), V.int IntKind.i64 (HPair.num p), V.str (HPair.text p)]) h))) (cond (N.checkFrom (List.map (fun r => { key := V.toStr (List.getD r (0 : Nat) V.undef), kind := V.toInt (List.getD r (1 : Nat) V.undef), num := V.toInt (List.getD r (2 : Nat) V.undef), text := V.toStr (List.getD r (3 : Nat) V.undef) : HPair }) (List.map (fun p => [V.str (HPair.key p), V.int IntKind.u8 (HPair.kind p), V.int IntKind.i64 (HPair.num p), V.str (HPair.text p)]) h)) (List.length (List.map (fun p => [V.str (HPair.key p), V.int IntKind.u8 (HPair.kind p), V.int IntKind.i64 (HPair.num p), V.str (HPair.text p)]) h) - (0 : Nat)) (0 : Int) != (0 : Int)) (some { v := V.int IntKind.i64 (N.checkFrom (List.map (fun r => { key := V.toStr (List.getD r (0 : Nat) V.undef), kind := V.toInt (List.getD r (1 : Nat) V.undef), num := V.toInt (List.getD r (2 : Nat) V.undef), text := V.toStr (List.getD r (3 : Nat) V.undef) : HPair }) (List.map (fun p => [V.str (HPair.key p), V.int IntKind.u8 (HPair.kind p), V.int IntKind.i64 (HPair.num p), V.str (HPair.text p)]) h)) (List.length (List.map (fun p => [V.str (HPair.key p), V.int IntKind.u8 (HPair.kind p), V.int IntKind.i64 (HPair.num p), V.str (HPair.text p)]) h) - (0 : Nat)) (0 : Int)), bx := [] : DRes }) (some { v := V.int IntKind.i64 (0 : Int), bx := [] : DRes })) (none)) (none)) (none)) (none)) := by kernel_rfl
theorem q_refCheckR (r0 : List (List V)) (r9 : List (List V)) (i11 : Int) (K : Ex → St → Option R) : evRound eRefCheck 67 4 { fr := [(0, .slc [.str, .int .u8, .int .i64, .str] r0), (9, .slc [.str, .int .u8, .int .i64, .str] r9), (10, .int .i64 r9.length), (11, .int .i64 i11)], tab := [] } K =
 cond (ilt i11 (↑(List.length r9) : Int)) (cond (decide ((0 : Int) ≤ i11 ∧ i11 < (↑(List.length r9) : Int))) (cond (decide ((0 : Int) ≤ i11 ∧ i11 ≤ (↑(List.length r0) : Int))) (cond (Nat.ble (List.length (List.map (fun r => { key := V.toStr (List.getD r (0 : Nat) V.undef), kind := V.toInt (List.getD r (1 : Nat) V.undef), num := V.toInt (List.getD r (2 : Nat) V.undef), text := V.toStr (List.getD r (3 : Nat) V.undef) : HPair }) (List.drop (0 : Nat) (List.take (Int.toNat i11) r0)))) (1000000 : Nat)) (cond (N.pairE { key := V.toStr (List.getD (List.getD r9 (Int.toNat i11) []) (0 : Nat) V.undef), kind := V.toInt (List.getD (List.getD r9 (Int.toNat i11) []) (1 : Nat) V.undef), num := V.toInt (List.getD (List.getD r9 (Int.toNat i11) []) (2 : Nat) V.undef), text := V.toStr (List.getD (List.getD r9 (Int.toNat i11) []) (3 : Nat) V.undef) : HPair } (List.map (fun r => { key := V.toStr (List.getD r (0 : Nat) V.undef), kind := V.toInt (List.getD r (1 : Nat) V.undef), num := V.toInt (List.getD r (2 : Nat) V.undef), text := V.toStr (List.getD r (3 : Nat) V.undef) : HPair }) (List.drop (0 : Nat) (List.take (Int.toNat i11) r0))) != (0 : Int)) (K Ex.ret { fr := [((2 : Nat), V.int IntKind.i64 (N.pairE { key := V.toStr (List.getD (List.getD r9 (Int.toNat i11) []) (0 : Nat) V.undef), kind := V.toInt (List.getD (List.getD r9 (Int.toNat i11) []) (1 : Nat) V.undef), num := V.toInt (List.getD (List.getD r9 (Int.toNat i11) []) (2 : Nat) V.undef), text := V.toStr (List.getD (List.getD r9 (Int.toNat i11) []) (3 : Nat) V.undef) : HPair } (List.map (fun r => { key := V.toStr (List.getD r (0 : Nat) V.undef), kind := V.toInt (List.getD r (1 : Nat) V.undef), num := V.toInt (List.getD r (2 : Nat) V.undef), text := V.toStr (List.getD r (3 : Nat) V.undef) : HPair }) (List.drop (0 : Nat) (List.take (Int.toNat i11) r0)))))], tab := [] : St }) (K Ex.normal { fr := [((0 : Nat), V.slc [Sh.str, Sh.int IntKind.u8, Sh.int IntKind.i64, Sh.str] r0), ((9 : Nat), V.slc [Sh.str, Sh.int IntKind.u8, Sh.int IntKind.i64, Sh.str] r9), ((10 : Nat), V.int IntKind.i64 (↑(List.length r9) : Int)), ((11 : Nat), V.int IntKind.i64 (IntKind.wrap IntKind.i64 (i11 + (1 : Int))))], tab := [] : St })) (none)) (none)) (none)) (K (Ex.exit (0 : Nat)) { fr := [], tab := [] : St }) := by kernel_rfl
theorem ok_refCheck : FnOk Tryz.prog 67 dHeadCheck := by
  refine den_okF (env_ok ((TOk.nil _).cons ok_refPair)) (E := eRefCheck) Tryz.func67 [4] (by kernel_rfl) (one1 (rounds_of rfl fun l K q h => ?_)) fun h _ _ => ?_
  · unfold gRefCheck at h
    split at h
    · rename_i r0 r n i
      have h1 := (cond_none h).1; replace h := (cond_none h).2; have h2 := (cond_none h).1; replace h := (cond_none h).2; have h3 := (cond_none h).1; replace h := (cond_none h).2; have h4 := (cond_none h).1; replace h := (cond_none h).2; have h5 := (cond_none h).1; replace h := (cond_none h).2
      have e1 := ieq_of h1
      subst e1
      have h2 := Nat.eq_of_beq_eq_true h2
      have h4 : r0.length ≤ 1000000 := ble_of h4
      have h5 := samePs_eq h5
      refine loop_ind (E := eRefCheck) (f := 67) (id := 4) (fun i : Int => { fr := [(0, .slc [.str, .int .u8, .int .i64, .str] r0), (9, .slc [.str, .int .u8, .int .i64, .str] r), (10, .int .i64 r.length), (11, .int .i64 i)], tab := [] }) (fun i => 0 ≤ i) (fun i => r.length - i.toNat)
        (fun i11 K => cond (N.checkFrom (rowsP r) (r.length - i11.toNat) i11 != 0) (K .ret { fr := [(2, .int .i64 (N.checkFrom (rowsP r) (r.length - i11.toNat) i11))], tab := [] }) (K (.exit 0) { fr := [], tab := [] })) (fun i hi => ?_) i (ile_of h3) K q (by assumption)
      by_cases hl : i < r.length
      · have e : N.checkFrom (rowsP r) (r.length - i.toNat) i = cond (N.pairE (rowP (r.getD i.toNat [])) ((rowsP r).take i.toNat) != 0) (N.pairE (rowP (r.getD i.toNat [])) ((rowsP r).take i.toNat)) (N.checkFrom (rowsP r) (r.length - (i + 1).toNat) (i + 1)) := by
          rw [show r.length - i.toNat = (r.length - (i + 1).toNat) + 1 by omega, N.checkFrom, rowsP_getD]
        rw [e]
        have hm : List.map rowP (List.take i.toNat r0) = (rowsP r).take i.toNat := by rw [← h5, rowsP, List.map_take]
        unfold rowP at hm
        cases hc : N.pairE (rowP (r.getD i.toNat [])) ((rowsP r).take i.toNat) != 0 with
        | true =>
          rw [cond_true, hc]
          refine .inr ⟨.ret, _, by simp, fun K => ?_, fun K => rfl⟩
          rw [q_refCheckR]
          unfold rowP at hc
          simp (disch := omega) only [evs, hc, hm, List.length_take, List.drop_zero]
          rfl
        | false =>
          refine .inl ⟨i + 1, by omega, by omega, fun K => ?_, fun K => ?_⟩
          · rw [q_refCheckR]
            unfold rowP at hc
            simp (disch := omega) only [evs, hc, hm, List.length_take, List.drop_zero]
          · rw [cond_false]
      · refine .inr ⟨.exit 0, { fr := [], tab := [] }, by simp, fun K => ?_, fun K => ?_⟩
        · rw [q_refCheckR]
          simp (disch := omega) only [evs]
        · rw [show r.length - i.toNat = 0 by omega]; rfl
    · cases h
  · refine (q_refCheck h).trans ?_
    show _ = some (⟨.int .i64 (N.headCheck h), [], []⟩ : DRes)
    unfold N.headCheck
    by_cases hl : 8 < h.length
    · simp (disch := omega) only [evs]
    · simp (disch := omega) only [evs, pairs_enc, samePs_refl, Nat.sub_zero]
      cases hc : N.checkFrom h h.length 0 != 0 with
      | true => rfl
      | false =>
        have : N.checkFrom h h.length 0 = 0 := by simpa using hc
        rw [this]; rfl
end Go.Ev

/- The functions on rules answer what the plain ones do: lemmas, no condition. -/
namespace Go.Ev
open Go Go.Proofs
set_option maxRecDepth 100000

end Go.Ev

/- The document's function that reads heads answers what the plain one does: lemmas. -/
namespace Go.Ev
open Go Go.Proofs
set_option maxRecDepth 100000

def schRHead : SSch := { fr := [(0, .ptr 0 0 0), (3, .int .i64), (4, .own 10000), (5, .int .i64)], tab := [(0, .var [.str, .int .i64, .int .i64]), (10000, .sl [.str, .int .u8, .int .i64, .str])] }
def gRHead : List Leaf → (Ex → St → Option R) → Option R
  | [.i n, .i j, .s s, .i a, .i c, .r rows], K => cond (ile 0 j) (cond (ile n 300) (cond (Nat.ble (rows.length + (n - j).toNat) LIM) (cond (N.goodR ⟨s, a, c⟩)
      (K (.exit 0) { fr := [(0, .ptr 0 0 0 0), (4, .own 10000 0)], tab := [(0, .var [.str (N.rhl (n - j).toNat ⟨s, a, c⟩ rows).2.s, .int .i64 (N.rhl (n - j).toNat ⟨s, a, c⟩ rows).2.at', .int .i64 (N.rhl (n - j).toNat ⟨s, a, c⟩ rows).2.code]), (10000, .sl [.str, .int .u8, .int .i64, .str] (N.rhl (n - j).toNat ⟨s, a, c⟩ rows).1 0)] }) none) none) none) none
  | _, _ => none
noncomputable def eRHead : Env := env Tryz.prog [(29, dRNum), (30, dRFail), (55, dRText), (78, dPairE)] [(6, loopF schRHead gRHead)] [(6, [(0, [0, 3, 4, 5]), (1, [0, 4]), (1000, [2])])]
theorem q_rHead (q : RIn) : evFn eRHead 56 (((aOne (vPtr 0)).enc ())) (((bOne cRIn).enc q)) some =
 cond (N.goodR q) (cond (ilt (8 : Int) (IntKind.wrap IntKind.i64 (Prod.fst (N.rNum q (1 : Int))))) (cond (ile (IntKind.wrap IntKind.i64 (Prod.fst (N.rNum q (1 : Int)))) (300 : Int)) (cond (Nat.ble ((0 : Nat) + Int.toNat (IntKind.wrap IntKind.i64 (Prod.fst (N.rNum q (1 : Int))) - (0 : Int))) (1000000 : Nat)) (cond (N.goodR (N.rFail (Prod.snd (N.rNum q (1 : Int))) (6 : Int))) (cond (RIn.code (Prod.snd (N.rhl (Int.toNat (IntKind.wrap IntKind.i64 (Prod.fst (N.rNum q (1 : Int))) - (0 : Int))) (N.rFail (Prod.snd (N.rNum q (1 : Int))) (6 : Int)) [])) != (0 : Int)) (some { v := V.slc [Sh.str, Sh.int IntKind.u8, Sh.int IntKind.i64, Sh.str] [], bx := [[V.str (RIn.s (Prod.snd (N.rhl (Int.toNat (IntKind.wrap IntKind.i64 (Prod.fst (N.rNum q (1 : Int))) - (0 : Int))) (N.rFail (Prod.snd (N.rNum q (1 : Int))) (6 : Int)) []))), V.int IntKind.i64 (RIn.at' (Prod.snd (N.rhl (Int.toNat (IntKind.wrap IntKind.i64 (Prod.fst (N.rNum q (1 : Int))) - (0 : Int))) (N.rFail (Prod.snd (N.rNum q (1 : Int))) (6 : Int)) []))), V.int IntKind.i64 (RIn.code (Prod.snd (N.rhl (Int.toNat (IntKind.wrap IntKind.i64 (Prod.fst (N.rNum q (1 : Int))) - (0 : Int))) (N.rFail (Prod.snd (N.rNum q (1 : Int))) (6 : Int)) [])))]] : DRes }) (some { v := V.slc [Sh.str, Sh.int IntKind.u8, Sh.int IntKind.i64, Sh.str] (Prod.fst (N.rhl (Int.toNat (IntKind.wrap IntKind.i64 (Prod.fst (N.rNum q (1 : Int))) - (0 : Int))) (N.rFail (Prod.snd (N.rNum q (1 : Int))) (6 : Int)) [])), bx := [[V.str (RIn.s (Prod.snd (N.rhl (Int.toNat (IntKind.wrap IntKind.i64 (Prod.fst (N.rNum q (1 : Int))) - (0 : Int))) (N.rFail (Prod.snd (N.rNum q (1 : Int))) (6 : Int)) []))), V.int IntKind.i64 (RIn.at' (Prod.snd (N.rhl (Int.toNat (IntKind.wrap IntKind.i64 (Prod.fst (N.rNum q (1 : Int))) - (0 : Int))) (N.rFail (Prod.snd (N.rNum q (1 : Int))) (6 : Int)) []))), V.int IntKind.i64 (RIn.code (Prod.snd (N.rhl (Int.toNat (IntKind.wrap IntKind.i64 (Prod.fst (N.rNum q (1 : Int))) - (0 : Int))) (N.rFail (Prod.snd (N.rNum q (1 : Int))) (6 : Int)) [])))]] : DRes })) (none)) (none)) (none)) (cond (ile (IntKind.wrap IntKind.i64 (Prod.fst (N.rNum q (1 : Int)))) (300 : Int)) (cond (Nat.ble ((0 : Nat) + Int.toNat (IntKind.wrap IntKind.i64 (Prod.fst (N.rNum q (1 : Int))) - (0 : Int))) (1000000 : Nat)) (cond (N.goodR (Prod.snd (N.rNum q (1 : Int)))) (cond (RIn.code (Prod.snd (N.rhl (Int.toNat (IntKind.wrap IntKind.i64 (Prod.fst (N.rNum q (1 : Int))) - (0 : Int))) (Prod.snd (N.rNum q (1 : Int))) [])) != (0 : Int)) (some { v := V.slc [Sh.str, Sh.int IntKind.u8, Sh.int IntKind.i64, Sh.str] [], bx := [[V.str (RIn.s (Prod.snd (N.rhl (Int.toNat (IntKind.wrap IntKind.i64 (Prod.fst (N.rNum q (1 : Int))) - (0 : Int))) (Prod.snd (N.rNum q (1 : Int))) []))), V.int IntKind.i64 (RIn.at' (Prod.snd (N.rhl (Int.toNat (IntKind.wrap IntKind.i64 (Prod.fst (N.rNum q (1 : Int))) - (0 : Int))) (Prod.snd (N.rNum q (1 : Int))) []))), V.int IntKind.i64 (RIn.code (Prod.snd (N.rhl (Int.toNat (IntKind.wrap IntKind.i64 (Prod.fst (N.rNum q (1 : Int))) - (0 : Int))) (Prod.snd (N.rNum q (1 : Int))) [])))]] : DRes }) (some { v := V.slc [Sh.str, Sh.int IntKind.u8, Sh.int IntKind.i64, Sh.str] (Prod.fst (N.rhl (Int.toNat (IntKind.wrap IntKind.i64 (Prod.fst (N.rNum q (1 : Int))) - (0 : Int))) (Prod.snd (N.rNum q (1 : Int))) [])), bx := [[V.str (RIn.s (Prod.snd (N.rhl (Int.toNat (IntKind.wrap IntKind.i64 (Prod.fst (N.rNum q (1 : Int))) - (0 : Int))) (Prod.snd (N.rNum q (1 : Int))) []))), V.int IntKind.i64 (RIn.at' (Prod.snd (N.rhl (Int.toNat (IntKind.wrap IntKind.i64 (Prod.fst (N.rNum q (1 : Int))) - (0 : Int))) (Prod.snd (N.rNum q (1 : Int))) []))), V.int IntKind.i64 (RIn.code (Prod.snd (N.rhl (Int.toNat (IntKind.wrap IntKind.i64 (Prod.fst (N.rNum q (1 : Int))) - (0 : Int))) (Prod.snd (N.rNum q (1 : Int))) [])))]] : DRes })) (none)) (none)) (none))) (none) := by kernel_rfl
theorem q_rHeadR (i3 : Int) (i5 : Int) (sx0 : Bytes) (ix0 : Int) (ix0_1 : Int) (rx0 : List (List V)) (K : Ex → St → Option R) : evRound eRHead 56 6 { fr := [(0, .ptr 0 0 0 0), (3, .int .i64 i3), (4, .own 10000 0), (5, .int .i64 i5)], tab := [(0, .var [.str sx0, .int .i64 ix0, .int .i64 ix0_1]), (10000, .sl [.str, .int .u8, .int .i64, .str] rx0 0)] } K =
 cond (ilt i5 i3) (cond (ix0_1 == (0 : Int)) (cond (N.goodR { s := sx0, at' := ix0, code := ix0_1 : RIn }) (cond (N.goodR (Prod.snd (N.rText { s := sx0, at' := ix0, code := ix0_1 : RIn } (16 : Int)))) (cond (IntKind.wrap IntKind.u8 (Prod.fst (N.rNum (Prod.snd (N.rText { s := sx0, at' := ix0, code := ix0_1 : RIn } (16 : Int))) (1 : Int))) == (0 : Int)) (cond (N.goodR (Prod.snd (N.rNum (Prod.snd (N.rText { s := sx0, at' := ix0, code := ix0_1 : RIn } (16 : Int))) (1 : Int)))) (cond (RIn.code (Prod.snd (N.rNum (Prod.snd (N.rNum (Prod.snd (N.rText { s := sx0, at' := ix0, code := ix0_1 : RIn } (16 : Int))) (1 : Int))) (8 : Int))) == (0 : Int)) (cond (Nat.ble (List.length (List.map (fun r => { key := V.toStr (List.getD r (0 : Nat) V.undef), kind := V.toInt (List.getD r (1 : Nat) V.undef), num := V.toInt (List.getD r (2 : Nat) V.undef), text := V.toStr (List.getD r (3 : Nat) V.undef) : HPair }) rx0)) (1000000 : Nat)) (cond (decide ((List.length rx0 + (1 : Nat)) * (48 : Nat) ≤ (140737488355328 : Nat))) (K Ex.normal { fr := [((0 : Nat), V.ptr (0 : Nat) (0 : Nat) (0 : Nat) (0 : Nat)), ((3 : Nat), V.int IntKind.i64 i3), ((4 : Nat), V.own (10000 : Nat) (0 : Nat)), ((5 : Nat), V.int IntKind.i64 (IntKind.wrap IntKind.i64 (i5 + (1 : Int))))], tab := [((0 : Nat), Box.var [V.str (RIn.s (N.rFail (Prod.snd (N.rNum (Prod.snd (N.rNum (Prod.snd (N.rText { s := sx0, at' := ix0, code := ix0_1 : RIn } (16 : Int))) (1 : Int))) (8 : Int))) (N.pairE { key := Prod.fst (N.rText { s := sx0, at' := ix0, code := ix0_1 : RIn } (16 : Int)), kind := IntKind.wrap IntKind.u8 (Prod.fst (N.rNum (Prod.snd (N.rText { s := sx0, at' := ix0, code := ix0_1 : RIn } (16 : Int))) (1 : Int))), num := IntKind.wrap IntKind.i64 (Prod.fst (N.rNum (Prod.snd (N.rNum (Prod.snd (N.rText { s := sx0, at' := ix0, code := ix0_1 : RIn } (16 : Int))) (1 : Int))) (8 : Int))), text := [] : HPair } (List.map (fun r => { key := V.toStr (List.getD r (0 : Nat) V.undef), kind := V.toInt (List.getD r (1 : Nat) V.undef), num := V.toInt (List.getD r (2 : Nat) V.undef), text := V.toStr (List.getD r (3 : Nat) V.undef) : HPair }) rx0)))), V.int IntKind.i64 (RIn.at' (N.rFail (Prod.snd (N.rNum (Prod.snd (N.rNum (Prod.snd (N.rText { s := sx0, at' := ix0, code := ix0_1 : RIn } (16 : Int))) (1 : Int))) (8 : Int))) (N.pairE { key := Prod.fst (N.rText { s := sx0, at' := ix0, code := ix0_1 : RIn } (16 : Int)), kind := IntKind.wrap IntKind.u8 (Prod.fst (N.rNum (Prod.snd (N.rText { s := sx0, at' := ix0, code := ix0_1 : RIn } (16 : Int))) (1 : Int))), num := IntKind.wrap IntKind.i64 (Prod.fst (N.rNum (Prod.snd (N.rNum (Prod.snd (N.rText { s := sx0, at' := ix0, code := ix0_1 : RIn } (16 : Int))) (1 : Int))) (8 : Int))), text := [] : HPair } (List.map (fun r => { key := V.toStr (List.getD r (0 : Nat) V.undef), kind := V.toInt (List.getD r (1 : Nat) V.undef), num := V.toInt (List.getD r (2 : Nat) V.undef), text := V.toStr (List.getD r (3 : Nat) V.undef) : HPair }) rx0)))), V.int IntKind.i64 (RIn.code (N.rFail (Prod.snd (N.rNum (Prod.snd (N.rNum (Prod.snd (N.rText { s := sx0, at' := ix0, code := ix0_1 : RIn } (16 : Int))) (1 : Int))) (8 : Int))) (N.pairE { key := Prod.fst (N.rText { s := sx0, at' := ix0, code := ix0_1 : RIn } (16 : Int)), kind := IntKind.wrap IntKind.u8 (Prod.fst (N.rNum (Prod.snd (N.rText { s := sx0, at' := ix0, code := ix0_1 : RIn } (16 : Int))) (1 : Int))), num := IntKind.wrap IntKind.i64 (Prod.fst (N.rNum (Prod.snd (N.rNum (Prod.snd (N.rText { s := sx0, at' := ix0, code := ix0_1 : RIn } (16 : Int))) (1 : Int))) (8 : Int))), text := [] : HPair } (List.map (fun r => { key := V.toStr (List.getD r (0 : Nat) V.undef), kind := V.toInt (List.getD r (1 : Nat) V.undef), num := V.toInt (List.getD r (2 : Nat) V.undef), text := V.toStr (List.getD r (3 : Nat) V.undef) : HPair }) rx0))))]), ((10000 : Nat), Box.sl [Sh.str, Sh.int IntKind.u8, Sh.int IntKind.i64, Sh.str] (rx0 ++ [[V.str (Prod.fst (N.rText { s := sx0, at' := ix0, code := ix0_1 : RIn } (16 : Int))), V.int IntKind.u8 (IntKind.wrap IntKind.u8 (Prod.fst (N.rNum (Prod.snd (N.rText { s := sx0, at' := ix0, code := ix0_1 : RIn } (16 : Int))) (1 : Int)))), V.int IntKind.i64 (IntKind.wrap IntKind.i64 (Prod.fst (N.rNum (Prod.snd (N.rNum (Prod.snd (N.rText { s := sx0, at' := ix0, code := ix0_1 : RIn } (16 : Int))) (1 : Int))) (8 : Int)))), V.str []]]) (0 : Nat))] : St }) (none)) (none)) (cond (decide ((List.length rx0 + (1 : Nat)) * (48 : Nat) ≤ (140737488355328 : Nat))) (K Ex.normal { fr := [((0 : Nat), V.ptr (0 : Nat) (0 : Nat) (0 : Nat) (0 : Nat)), ((3 : Nat), V.int IntKind.i64 i3), ((4 : Nat), V.own (10000 : Nat) (0 : Nat)), ((5 : Nat), V.int IntKind.i64 (IntKind.wrap IntKind.i64 (i5 + (1 : Int))))], tab := [((0 : Nat), Box.var [V.str (RIn.s (Prod.snd (N.rNum (Prod.snd (N.rNum (Prod.snd (N.rText { s := sx0, at' := ix0, code := ix0_1 : RIn } (16 : Int))) (1 : Int))) (8 : Int)))), V.int IntKind.i64 (RIn.at' (Prod.snd (N.rNum (Prod.snd (N.rNum (Prod.snd (N.rText { s := sx0, at' := ix0, code := ix0_1 : RIn } (16 : Int))) (1 : Int))) (8 : Int)))), V.int IntKind.i64 (RIn.code (Prod.snd (N.rNum (Prod.snd (N.rNum (Prod.snd (N.rText { s := sx0, at' := ix0, code := ix0_1 : RIn } (16 : Int))) (1 : Int))) (8 : Int))))]), ((10000 : Nat), Box.sl [Sh.str, Sh.int IntKind.u8, Sh.int IntKind.i64, Sh.str] (rx0 ++ [[V.str (Prod.fst (N.rText { s := sx0, at' := ix0, code := ix0_1 : RIn } (16 : Int))), V.int IntKind.u8 (IntKind.wrap IntKind.u8 (Prod.fst (N.rNum (Prod.snd (N.rText { s := sx0, at' := ix0, code := ix0_1 : RIn } (16 : Int))) (1 : Int)))), V.int IntKind.i64 (IntKind.wrap IntKind.i64 (Prod.fst (N.rNum (Prod.snd (N.rNum (Prod.snd (N.rText { s := sx0, at' := ix0, code := ix0_1 : RIn } (16 : Int))) (1 : Int))) (8 : Int)))), V.str []]]) (0 : Nat))] : St }) (none))) (none)) (cond (IntKind.wrap IntKind.u8 (Prod.fst (N.rNum (Prod.snd (N.rText { s := sx0, at' := ix0, code := ix0_1 : RIn } (16 : Int))) (1 : Int))) == (1 : Int)) (cond (N.goodR (Prod.snd (N.rNum (Prod.snd (N.rText { s := sx0, at' := ix0, code := ix0_1 : RIn } (16 : Int))) (1 : Int)))) (cond (RIn.code (Prod.snd (N.rText (Prod.snd (N.rNum (Prod.snd (N.rText { s := sx0, at' := ix0, code := ix0_1 : RIn } (16 : Int))) (1 : Int))) (64 : Int))) == (0 : Int)) (cond (Nat.ble (List.length (List.map (fun r => { key := V.toStr (List.getD r (0 : Nat) V.undef), kind := V.toInt (List.getD r (1 : Nat) V.undef), num := V.toInt (List.getD r (2 : Nat) V.undef), text := V.toStr (List.getD r (3 : Nat) V.undef) : HPair }) rx0)) (1000000 : Nat)) (cond (decide ((List.length rx0 + (1 : Nat)) * (48 : Nat) ≤ (140737488355328 : Nat))) (K Ex.normal { fr := [((0 : Nat), V.ptr (0 : Nat) (0 : Nat) (0 : Nat) (0 : Nat)), ((3 : Nat), V.int IntKind.i64 i3), ((4 : Nat), V.own (10000 : Nat) (0 : Nat)), ((5 : Nat), V.int IntKind.i64 (IntKind.wrap IntKind.i64 (i5 + (1 : Int))))], tab := [((0 : Nat), Box.var [V.str (RIn.s (N.rFail (Prod.snd (N.rText (Prod.snd (N.rNum (Prod.snd (N.rText { s := sx0, at' := ix0, code := ix0_1 : RIn } (16 : Int))) (1 : Int))) (64 : Int))) (N.pairE { key := Prod.fst (N.rText { s := sx0, at' := ix0, code := ix0_1 : RIn } (16 : Int)), kind := IntKind.wrap IntKind.u8 (Prod.fst (N.rNum (Prod.snd (N.rText { s := sx0, at' := ix0, code := ix0_1 : RIn } (16 : Int))) (1 : Int))), num := (0 : Int), text := Prod.fst (N.rText (Prod.snd (N.rNum (Prod.snd (N.rText { s := sx0, at' := ix0, code := ix0_1 : RIn } (16 : Int))) (1 : Int))) (64 : Int)) : HPair } (List.map (fun r => { key := V.toStr (List.getD r (0 : Nat) V.undef), kind := V.toInt (List.getD r (1 : Nat) V.undef), num := V.toInt (List.getD r (2 : Nat) V.undef), text := V.toStr (List.getD r (3 : Nat) V.undef) : HPair }) rx0)))), V.int IntKind.i64 (RIn.at' (N.rFail (Prod.snd (N.rText (Prod.snd (N.rNum (Prod.snd (N.rText { s := sx0, at' := ix0, code := ix0_1 : RIn } (16 : Int))) (1 : Int))) (64 : Int))) (N.pairE { key := Prod.fst (N.rText { s := sx0, at' := ix0, code := ix0_1 : RIn } (16 : Int)), kind := IntKind.wrap IntKind.u8 (Prod.fst (N.rNum (Prod.snd (N.rText { s := sx0, at' := ix0, code := ix0_1 : RIn } (16 : Int))) (1 : Int))), num := (0 : Int), text := Prod.fst (N.rText (Prod.snd (N.rNum (Prod.snd (N.rText { s := sx0, at' := ix0, code := ix0_1 : RIn } (16 : Int))) (1 : Int))) (64 : Int)) : HPair } (List.map (fun r => { key := V.toStr (List.getD r (0 : Nat) V.undef), kind := V.toInt (List.getD r (1 : Nat) V.undef), num := V.toInt (List.getD r (2 : Nat) V.undef), text := V.toStr (List.getD r (3 : Nat) V.undef) : HPair }) rx0)))), V.int IntKind.i64 (RIn.code (N.rFail (Prod.snd (N.rText (Prod.snd (N.rNum (Prod.snd (N.rText { s := sx0, at' := ix0, code := ix0_1 : RIn } (16 : Int))) (1 : Int))) (64 : Int))) (N.pairE { key := Prod.fst (N.rText { s := sx0, at' := ix0, code := ix0_1 : RIn } (16 : Int)), kind := IntKind.wrap IntKind.u8 (Prod.fst (N.rNum (Prod.snd (N.rText { s := sx0, at' := ix0, code := ix0_1 : RIn } (16 : Int))) (1 : Int))), num := (0 : Int), text := Prod.fst (N.rText (Prod.snd (N.rNum (Prod.snd (N.rText { s := sx0, at' := ix0, code := ix0_1 : RIn } (16 : Int))) (1 : Int))) (64 : Int)) : HPair } (List.map (fun r => { key := V.toStr (List.getD r (0 : Nat) V.undef), kind := V.toInt (List.getD r (1 : Nat) V.undef), num := V.toInt (List.getD r (2 : Nat) V.undef), text := V.toStr (List.getD r (3 : Nat) V.undef) : HPair }) rx0))))]), ((10000 : Nat), Box.sl [Sh.str, Sh.int IntKind.u8, Sh.int IntKind.i64, Sh.str] (rx0 ++ [[V.str (Prod.fst (N.rText { s := sx0, at' := ix0, code := ix0_1 : RIn } (16 : Int))), V.int IntKind.u8 (IntKind.wrap IntKind.u8 (Prod.fst (N.rNum (Prod.snd (N.rText { s := sx0, at' := ix0, code := ix0_1 : RIn } (16 : Int))) (1 : Int)))), V.int IntKind.i64 (0 : Int), V.str (Prod.fst (N.rText (Prod.snd (N.rNum (Prod.snd (N.rText { s := sx0, at' := ix0, code := ix0_1 : RIn } (16 : Int))) (1 : Int))) (64 : Int)))]]) (0 : Nat))] : St }) (none)) (none)) (cond (decide ((List.length rx0 + (1 : Nat)) * (48 : Nat) ≤ (140737488355328 : Nat))) (K Ex.normal { fr := [((0 : Nat), V.ptr (0 : Nat) (0 : Nat) (0 : Nat) (0 : Nat)), ((3 : Nat), V.int IntKind.i64 i3), ((4 : Nat), V.own (10000 : Nat) (0 : Nat)), ((5 : Nat), V.int IntKind.i64 (IntKind.wrap IntKind.i64 (i5 + (1 : Int))))], tab := [((0 : Nat), Box.var [V.str (RIn.s (Prod.snd (N.rText (Prod.snd (N.rNum (Prod.snd (N.rText { s := sx0, at' := ix0, code := ix0_1 : RIn } (16 : Int))) (1 : Int))) (64 : Int)))), V.int IntKind.i64 (RIn.at' (Prod.snd (N.rText (Prod.snd (N.rNum (Prod.snd (N.rText { s := sx0, at' := ix0, code := ix0_1 : RIn } (16 : Int))) (1 : Int))) (64 : Int)))), V.int IntKind.i64 (RIn.code (Prod.snd (N.rText (Prod.snd (N.rNum (Prod.snd (N.rText { s := sx0, at' := ix0, code := ix0_1 : RIn } (16 : Int))) (1 : Int))) (64 : Int))))]), ((10000 : Nat), Box.sl [Sh.str, Sh.int IntKind.u8, Sh.int IntKind.i64, Sh.str] (rx0 ++ [[V.str (Prod.fst (N.rText { s := sx0, at' := ix0, code := ix0_1 : RIn } (16 : Int))), V.int IntKind.u8 (IntKind.wrap IntKind.u8 (Prod.fst (N.rNum (Prod.snd (N.rText { s := sx0, at' := ix0, code := ix0_1 : RIn } (16 : Int))) (1 : Int)))), V.int IntKind.i64 (0 : Int), V.str (Prod.fst (N.rText (Prod.snd (N.rNum (Prod.snd (N.rText { s := sx0, at' := ix0, code := ix0_1 : RIn } (16 : Int))) (1 : Int))) (64 : Int)))]]) (0 : Nat))] : St }) (none))) (none)) (cond (IntKind.wrap IntKind.u8 (Prod.fst (N.rNum (Prod.snd (N.rText { s := sx0, at' := ix0, code := ix0_1 : RIn } (16 : Int))) (1 : Int))) == (2 : Int)) (cond (N.goodR (Prod.snd (N.rNum (Prod.snd (N.rText { s := sx0, at' := ix0, code := ix0_1 : RIn } (16 : Int))) (1 : Int)))) (cond (RIn.code (Prod.snd (N.rNum (Prod.snd (N.rNum (Prod.snd (N.rText { s := sx0, at' := ix0, code := ix0_1 : RIn } (16 : Int))) (1 : Int))) (1 : Int))) == (0 : Int)) (cond (Nat.ble (List.length (List.map (fun r => { key := V.toStr (List.getD r (0 : Nat) V.undef), kind := V.toInt (List.getD r (1 : Nat) V.undef), num := V.toInt (List.getD r (2 : Nat) V.undef), text := V.toStr (List.getD r (3 : Nat) V.undef) : HPair }) rx0)) (1000000 : Nat)) (cond (decide ((List.length rx0 + (1 : Nat)) * (48 : Nat) ≤ (140737488355328 : Nat))) (K Ex.normal { fr := [((0 : Nat), V.ptr (0 : Nat) (0 : Nat) (0 : Nat) (0 : Nat)), ((3 : Nat), V.int IntKind.i64 i3), ((4 : Nat), V.own (10000 : Nat) (0 : Nat)), ((5 : Nat), V.int IntKind.i64 (IntKind.wrap IntKind.i64 (i5 + (1 : Int))))], tab := [((0 : Nat), Box.var [V.str (RIn.s (N.rFail (Prod.snd (N.rNum (Prod.snd (N.rNum (Prod.snd (N.rText { s := sx0, at' := ix0, code := ix0_1 : RIn } (16 : Int))) (1 : Int))) (1 : Int))) (N.pairE { key := Prod.fst (N.rText { s := sx0, at' := ix0, code := ix0_1 : RIn } (16 : Int)), kind := IntKind.wrap IntKind.u8 (Prod.fst (N.rNum (Prod.snd (N.rText { s := sx0, at' := ix0, code := ix0_1 : RIn } (16 : Int))) (1 : Int))), num := IntKind.wrap IntKind.i64 (Prod.fst (N.rNum (Prod.snd (N.rNum (Prod.snd (N.rText { s := sx0, at' := ix0, code := ix0_1 : RIn } (16 : Int))) (1 : Int))) (1 : Int))), text := [] : HPair } (List.map (fun r => { key := V.toStr (List.getD r (0 : Nat) V.undef), kind := V.toInt (List.getD r (1 : Nat) V.undef), num := V.toInt (List.getD r (2 : Nat) V.undef), text := V.toStr (List.getD r (3 : Nat) V.undef) : HPair }) rx0)))), V.int IntKind.i64 (RIn.at' (N.rFail (Prod.snd (N.rNum (Prod.snd (N.rNum (Prod.snd (N.rText { s := sx0, at' := ix0, code := ix0_1 : RIn } (16 : Int))) (1 : Int))) (1 : Int))) (N.pairE { key := Prod.fst (N.rText { s := sx0, at' := ix0, code := ix0_1 : RIn } (16 : Int)), kind := IntKind.wrap IntKind.u8 (Prod.fst (N.rNum (Prod.snd (N.rText { s := sx0, at' := ix0, code := ix0_1 : RIn } (16 : Int))) (1 : Int))), num := IntKind.wrap IntKind.i64 (Prod.fst (N.rNum (Prod.snd (N.rNum (Prod.snd (N.rText { s := sx0, at' := ix0, code := ix0_1 : RIn } (16 : Int))) (1 : Int))) (1 : Int))), text := [] : HPair } (List.map (fun r => { key := V.toStr (List.getD r (0 : Nat) V.undef), kind := V.toInt (List.getD r (1 : Nat) V.undef), num := V.toInt (List.getD r (2 : Nat) V.undef), text := V.toStr (List.getD r (3 : Nat) V.undef) : HPair }) rx0)))), V.int IntKind.i64 (RIn.code (N.rFail (Prod.snd (N.rNum (Prod.snd (N.rNum (Prod.snd (N.rText { s := sx0, at' := ix0, code := ix0_1 : RIn } (16 : Int))) (1 : Int))) (1 : Int))) (N.pairE { key := Prod.fst (N.rText { s := sx0, at' := ix0, code := ix0_1 : RIn } (16 : Int)), kind := IntKind.wrap IntKind.u8 (Prod.fst (N.rNum (Prod.snd (N.rText { s := sx0, at' := ix0, code := ix0_1 : RIn } (16 : Int))) (1 : Int))), num := IntKind.wrap IntKind.i64 (Prod.fst (N.rNum (Prod.snd (N.rNum (Prod.snd (N.rText { s := sx0, at' := ix0, code := ix0_1 : RIn } (16 : Int))) (1 : Int))) (1 : Int))), text := [] : HPair } (List.map (fun r => { key := V.toStr (List.getD r (0 : Nat) V.undef), kind := V.toInt (List.getD r (1 : Nat) V.undef), num := V.toInt (List.getD r (2 : Nat) V.undef), text := V.toStr (List.getD r (3 : Nat) V.undef) : HPair }) rx0))))]), ((10000 : Nat), Box.sl [Sh.str, Sh.int IntKind.u8, Sh.int IntKind.i64, Sh.str] (rx0 ++ [[V.str (Prod.fst (N.rText { s := sx0, at' := ix0, code := ix0_1 : RIn } (16 : Int))), V.int IntKind.u8 (IntKind.wrap IntKind.u8 (Prod.fst (N.rNum (Prod.snd (N.rText { s := sx0, at' := ix0, code := ix0_1 : RIn } (16 : Int))) (1 : Int)))), V.int IntKind.i64 (IntKind.wrap IntKind.i64 (Prod.fst (N.rNum (Prod.snd (N.rNum (Prod.snd (N.rText { s := sx0, at' := ix0, code := ix0_1 : RIn } (16 : Int))) (1 : Int))) (1 : Int)))), V.str []]]) (0 : Nat))] : St }) (none)) (none)) (cond (decide ((List.length rx0 + (1 : Nat)) * (48 : Nat) ≤ (140737488355328 : Nat))) (K Ex.normal { fr := [((0 : Nat), V.ptr (0 : Nat) (0 : Nat) (0 : Nat) (0 : Nat)), ((3 : Nat), V.int IntKind.i64 i3), ((4 : Nat), V.own (10000 : Nat) (0 : Nat)), ((5 : Nat), V.int IntKind.i64 (IntKind.wrap IntKind.i64 (i5 + (1 : Int))))], tab := [((0 : Nat), Box.var [V.str (RIn.s (Prod.snd (N.rNum (Prod.snd (N.rNum (Prod.snd (N.rText { s := sx0, at' := ix0, code := ix0_1 : RIn } (16 : Int))) (1 : Int))) (1 : Int)))), V.int IntKind.i64 (RIn.at' (Prod.snd (N.rNum (Prod.snd (N.rNum (Prod.snd (N.rText { s := sx0, at' := ix0, code := ix0_1 : RIn } (16 : Int))) (1 : Int))) (1 : Int)))), V.int IntKind.i64 (RIn.code (Prod.snd (N.rNum (Prod.snd (N.rNum (Prod.snd (N.rText { s := sx0, at' := ix0, code := ix0_1 : RIn } (16 : Int))) (1 : Int))) (1 : Int))))]), ((10000 : Nat), Box.sl [Sh.str, Sh.int IntKind.u8, Sh.int IntKind.i64, Sh.str] (rx0 ++ [[V.str (Prod.fst (N.rText { s := sx0, at' := ix0, code := ix0_1 : RIn } (16 : Int))), V.int IntKind.u8 (IntKind.wrap IntKind.u8 (Prod.fst (N.rNum (Prod.snd (N.rText { s := sx0, at' := ix0, code := ix0_1 : RIn } (16 : Int))) (1 : Int)))), V.int IntKind.i64 (IntKind.wrap IntKind.i64 (Prod.fst (N.rNum (Prod.snd (N.rNum (Prod.snd (N.rText { s := sx0, at' := ix0, code := ix0_1 : RIn } (16 : Int))) (1 : Int))) (1 : Int)))), V.str []]]) (0 : Nat))] : St }) (none))) (none)) (cond (RIn.code (N.rFail (Prod.snd (N.rNum (Prod.snd (N.rText { s := sx0, at' := ix0, code := ix0_1 : RIn } (16 : Int))) (1 : Int))) (8 : Int)) == (0 : Int)) (cond (Nat.ble (List.length (List.map (fun r => { key := V.toStr (List.getD r (0 : Nat) V.undef), kind := V.toInt (List.getD r (1 : Nat) V.undef), num := V.toInt (List.getD r (2 : Nat) V.undef), text := V.toStr (List.getD r (3 : Nat) V.undef) : HPair }) rx0)) (1000000 : Nat)) (cond (decide ((List.length rx0 + (1 : Nat)) * (48 : Nat) ≤ (140737488355328 : Nat))) (K Ex.normal { fr := [((0 : Nat), V.ptr (0 : Nat) (0 : Nat) (0 : Nat) (0 : Nat)), ((3 : Nat), V.int IntKind.i64 i3), ((4 : Nat), V.own (10000 : Nat) (0 : Nat)), ((5 : Nat), V.int IntKind.i64 (IntKind.wrap IntKind.i64 (i5 + (1 : Int))))], tab := [((0 : Nat), Box.var [V.str (RIn.s (N.rFail (N.rFail (Prod.snd (N.rNum (Prod.snd (N.rText { s := sx0, at' := ix0, code := ix0_1 : RIn } (16 : Int))) (1 : Int))) (8 : Int)) (N.pairE { key := Prod.fst (N.rText { s := sx0, at' := ix0, code := ix0_1 : RIn } (16 : Int)), kind := IntKind.wrap IntKind.u8 (Prod.fst (N.rNum (Prod.snd (N.rText { s := sx0, at' := ix0, code := ix0_1 : RIn } (16 : Int))) (1 : Int))), num := (0 : Int), text := [] : HPair } (List.map (fun r => { key := V.toStr (List.getD r (0 : Nat) V.undef), kind := V.toInt (List.getD r (1 : Nat) V.undef), num := V.toInt (List.getD r (2 : Nat) V.undef), text := V.toStr (List.getD r (3 : Nat) V.undef) : HPair }) rx0)))), V.int IntKind.i64 (RIn.at' (N.rFail (N.rFail (Prod.snd (N.rNum (Prod.snd (N.rText { s := sx0, at' := ix0, code := ix0_1 : RIn } (16 : Int))) (1 : Int))) (8 : Int)) (N.pairE { key := Prod.fst (N.rText { s := sx0, at' := ix0, code := ix0_1 : RIn } (16 : Int)), kind := IntKind.wrap IntKind.u8 (Prod.fst (N.rNum (Prod.snd (N.rText { s := sx0, at' := ix0, code := ix0_1 : RIn } (16 : Int))) (1 : Int))), num := (0 : Int), text := [] : HPair } (List.map (fun r => { key := V.toStr (List.getD r (0 : Nat) V.undef), kind := V.toInt (List.getD r (1 : Nat) V.undef), num := V.toInt (List.getD r (2 : Nat) V.undef), text := V.toStr (List.getD r (3 : Nat) V.undef) : HPair }) rx0)))), V.int IntKind.i64 (RIn.code (N.rFail (N.rFail (Prod.snd (N.rNum (Prod.snd (N.rText { s := sx0, at' := ix0, code := ix0_1 : RIn } (16 : Int))) (1 : Int))) (8 : Int)) (N.pairE { key := Prod.fst (N.rText { s := sx0, at' := ix0, code := ix0_1 : RIn } (16 : Int)), kind := IntKind.wrap IntKind.u8 (Prod.fst (N.rNum (Prod.snd (N.rText { s := sx0, at' := ix0, code := ix0_1 : RIn } (16 : Int))) (1 : Int))), num := (0 : Int), text := [] : HPair } (List.map (fun r => { key := V.toStr (List.getD r (0 : Nat) V.undef), kind := V.toInt (List.getD r (1 : Nat) V.undef), num := V.toInt (List.getD r (2 : Nat) V.undef), text := V.toStr (List.getD r (3 : Nat) V.undef) : HPair }) rx0))))]), ((10000 : Nat), Box.sl [Sh.str, Sh.int IntKind.u8, Sh.int IntKind.i64, Sh.str] (rx0 ++ [[V.str (Prod.fst (N.rText { s := sx0, at' := ix0, code := ix0_1 : RIn } (16 : Int))), V.int IntKind.u8 (IntKind.wrap IntKind.u8 (Prod.fst (N.rNum (Prod.snd (N.rText { s := sx0, at' := ix0, code := ix0_1 : RIn } (16 : Int))) (1 : Int)))), V.int IntKind.i64 (0 : Int), V.str []]]) (0 : Nat))] : St }) (none)) (none)) (cond (decide ((List.length rx0 + (1 : Nat)) * (48 : Nat) ≤ (140737488355328 : Nat))) (K Ex.normal { fr := [((0 : Nat), V.ptr (0 : Nat) (0 : Nat) (0 : Nat) (0 : Nat)), ((3 : Nat), V.int IntKind.i64 i3), ((4 : Nat), V.own (10000 : Nat) (0 : Nat)), ((5 : Nat), V.int IntKind.i64 (IntKind.wrap IntKind.i64 (i5 + (1 : Int))))], tab := [((0 : Nat), Box.var [V.str (RIn.s (N.rFail (Prod.snd (N.rNum (Prod.snd (N.rText { s := sx0, at' := ix0, code := ix0_1 : RIn } (16 : Int))) (1 : Int))) (8 : Int))), V.int IntKind.i64 (RIn.at' (N.rFail (Prod.snd (N.rNum (Prod.snd (N.rText { s := sx0, at' := ix0, code := ix0_1 : RIn } (16 : Int))) (1 : Int))) (8 : Int))), V.int IntKind.i64 (RIn.code (N.rFail (Prod.snd (N.rNum (Prod.snd (N.rText { s := sx0, at' := ix0, code := ix0_1 : RIn } (16 : Int))) (1 : Int))) (8 : Int)))]), ((10000 : Nat), Box.sl [Sh.str, Sh.int IntKind.u8, Sh.int IntKind.i64, Sh.str] (rx0 ++ [[V.str (Prod.fst (N.rText { s := sx0, at' := ix0, code := ix0_1 : RIn } (16 : Int))), V.int IntKind.u8 (IntKind.wrap IntKind.u8 (Prod.fst (N.rNum (Prod.snd (N.rText { s := sx0, at' := ix0, code := ix0_1 : RIn } (16 : Int))) (1 : Int)))), V.int IntKind.i64 (0 : Int), V.str []]]) (0 : Nat))] : St }) (none)))))) (none)) (none)) (K (Ex.exit (0 : Nat)) { fr := [((0 : Nat), V.ptr (0 : Nat) (0 : Nat) (0 : Nat) (0 : Nat)), ((4 : Nat), V.own (10000 : Nat) (0 : Nat))], tab := [((0 : Nat), Box.var [V.str sx0, V.int IntKind.i64 ix0, V.int IntKind.i64 ix0_1]), ((10000 : Nat), Box.sl [Sh.str, Sh.int IntKind.u8, Sh.int IntKind.i64, Sh.str] rx0 (0 : Nat))] : St })) (K (Ex.exit (0 : Nat)) { fr := [((0 : Nat), V.ptr (0 : Nat) (0 : Nat) (0 : Nat) (0 : Nat)), ((4 : Nat), V.own (10000 : Nat) (0 : Nat))], tab := [((0 : Nat), Box.var [V.str sx0, V.int IntKind.i64 ix0, V.int IntKind.i64 ix0_1]), ((10000 : Nat), Box.sl [Sh.str, Sh.int IntKind.u8, Sh.int IntKind.i64, Sh.str] rx0 (0 : Nat))] : St }) := by kernel_rfl
theorem rhl_enc : ∀ (k : Nat) (q : RIn) (l : List HPair), N.rhl k q (l.map cPair.enc) = ((N.rReadFrom k q l).1.map cPair.enc, (N.rReadFrom k q l).2)
  | 0, _, _ => rfl
  | k + 1, q, l => by
    unfold N.rhl N.rReadFrom
    rw [rowsP_enc]
    cases q.code == 0 with
    | false => rfl
    | true =>
      have := rhl_enc k (N.rBad (N.rOne q).1 l (N.rOne q).2) (l ++ [(N.rOne q).1])
      rw [List.map_append] at this
      exact this
theorem rNum1 {q : RIn} (h : N.goodR q = true) : 0 ≤ (N.rNum q 1).1 ∧ (N.rNum q 1).1 < 256 := by
  rw [← (rl_num (good_rl h).1 1).1]; exact inNum1 _
theorem ok_rHead : FnOk Tryz.prog 56 dRHead := by
  refine den_okF (env_ok (((((TOk.nil _).cons ok_refPair).cons ok_rText).cons ok_rFail).cons ok_rNum)) (E := eRHead) Tryz.func56 [6] (by kernel_rfl) (one1 (rounds_of rfl fun l K q h => ?_)) fun _ q h => ?_
  · unfold gRHead at h
    split at h
    · rename_i n j s a c rows
      have h1 := (cond_none h).1; replace h := (cond_none h).2; have h2 := (cond_none h).1; replace h := (cond_none h).2; have h3 := (cond_none h).1; replace h := (cond_none h).2; have h4 := (cond_none h).1; replace h := (cond_none h).2
      have h2 := ile_of h2
      have h3 : rows.length + (n - j).toNat ≤ 1000000 := ble_of h3
      refine loop_ind (E := eRHead) (f := 56) (id := 6) (σ := Int × RIn × List (List V)) (fun x => { fr := [(0, .ptr 0 0 0 0), (3, .int .i64 n), (4, .own 10000 0), (5, .int .i64 x.1)], tab := [(0, .var [.str x.2.1.s, .int .i64 x.2.1.at', .int .i64 x.2.1.code]), (10000, .sl [.str, .int .u8, .int .i64, .str] x.2.2 0)] })
        (fun x => 0 ≤ x.1 ∧ x.2.2.length + (n - x.1).toNat ≤ 1000000 ∧ N.goodR x.2.1 = true) (fun x => (n - x.1).toNat)
        (fun x K => K (.exit 0) { fr := [(0, .ptr 0 0 0 0), (4, .own 10000 0)], tab := [(0, .var [.str (N.rhl (n - x.1).toNat x.2.1 x.2.2).2.s, .int .i64 (N.rhl (n - x.1).toNat x.2.1 x.2.2).2.at', .int .i64 (N.rhl (n - x.1).toNat x.2.1 x.2.2).2.code]), (10000, .sl [.str, .int .u8, .int .i64, .str] (N.rhl (n - x.1).toNat x.2.1 x.2.2).1 0)] }) ?_ (j, ⟨s, a, c⟩, rows) ⟨ile_of h1, h3, h4⟩ K q (by assumption)
      rintro ⟨j, ⟨s, a, c⟩, rows⟩ ⟨hj, hr, h0⟩
      simp only at hj hr h0 ⊢
      by_cases hl : j < n
      · rw [show (n - j).toNat = (n - (j + 1)).toNat + 1 by omega]
        have h1 := good_text h0 16
        have h2 := good_num h1 1
        cases hz : c == 0 with
        | true =>
          refine .inl ⟨(j + 1, N.rBad (N.rOne ⟨s, a, c⟩).1 (rowsP rows) (N.rOne ⟨s, a, c⟩).2, rows ++ [cPair.enc (N.rOne ⟨s, a, c⟩).1]), ⟨by simp only; omega, by simp only [List.length_append, List.length_cons, List.length_nil]; omega, good_bad (good_one h0) _ _⟩, by simp only; omega, fun K => ?_, fun K => ?_⟩
          · rw [q_rHeadR]
            unfold N.rBad N.rOne N.rOneOf rowsP rowP
            simp (disch := omega) only [evs, h0, h1, h2, hz]
            generalize (N.rText ⟨s, a, c⟩ 16).1 = key
            generalize hq : (N.rNum (N.rText ⟨s, a, c⟩ 16).2 1) = kq at *
            obtain ⟨x, q⟩ := kq
            simp only
            generalize IntKind.wrap .u8 x = kind
            cases kind == 0 with
            | true => cases hc : (N.rNum q 8).2.code == 0 <;> simp only [cond_true, cond_false, hc] <;> rfl
            | false =>
              cases kind == 1 with
              | true => cases hc : (N.rText q 64).2.code == 0 <;> simp only [cond_true, cond_false, hc] <;> rfl
              | false =>
                cases kind == 2 with
                | true => cases hc : (N.rNum q 1).2.code == 0 <;> simp only [cond_true, cond_false, hc] <;> rfl
                | false => cases hc : (N.rFail q 8).code == 0 <;> simp only [cond_true, cond_false, hc] <;> rfl
          · simp only [N.rhl, hz, cond_true]
        | false =>
          refine .inr ⟨.exit 0, { fr := [(0, .ptr 0 0 0 0), (4, .own 10000 0)], tab := [(0, .var [.str s, .int .i64 a, .int .i64 c]), (10000, .sl [.str, .int .u8, .int .i64, .str] rows 0)] }, by simp, fun K => ?_, fun K => ?_⟩
          · rw [q_rHeadR]
            simp (disch := omega) only [evs, hz]
          · simp only [N.rhl, hz, cond_false]
      · refine .inr ⟨.exit 0, { fr := [(0, .ptr 0 0 0 0), (4, .own 10000 0)], tab := [(0, .var [.str s, .int .i64 a, .int .i64 c]), (10000, .sl [.str, .int .u8, .int .i64, .str] rows 0)] }, by simp, fun K => ?_, fun K => ?_⟩
        · rw [q_rHeadR]
          simp (disch := omega) only [evs]
        · rw [show (n - j).toNat = 0 by omega]; rfl
    · cases h
  · refine (q_rHead q).trans ?_
    have h : N.goodR q = true := h
    obtain ⟨b1, b2⟩ := rNum1 h
    have g1 := good_num h 1
    have g2 := good_fail g1 6
    have w : IntKind.wrap .i64 (N.rNum q 1).1 = (N.rNum q 1).1 := wrap_i64 (by omega) (by omega)
    show _ = some (⟨.slc [.str, .int .u8, .int .i64, .str] ((N.rHead q).1.map cPair.enc), [[.str (N.rHead q).2.s, .int .i64 (N.rHead q).2.at', .int .i64 (N.rHead q).2.code]], []⟩ : DRes)
    unfold N.rHead N.rRead
    rw [w]
    simp (disch := omega) only [evs, Int.sub_zero, Nat.zero_add, h, g1, g2]
    cases ilt 8 (N.rNum q 1).1 with
    | true =>
      have e1 := rhl_enc (N.rNum q 1).1.toNat (N.rFail (N.rNum q 1).2 6) []
      rw [List.map_nil] at e1
      rw [e1]
      simp only [cond_true]
      cases (N.rReadFrom (N.rNum q 1).1.toNat (N.rFail (N.rNum q 1).2 6) []).2.code != 0 <;> rfl
    | false =>
      have e1 := rhl_enc (N.rNum q 1).1.toNat (N.rNum q 1).2 []
      rw [List.map_nil] at e1
      rw [e1]
      simp only [cond_false]
      cases (N.rReadFrom (N.rNum q 1).1.toNat (N.rNum q 1).2 []).2.code != 0 <;> rfl
end Go.Ev

/- What the statement on same heads reckons: lemmas; the function that writes numbers is a premise. -/
namespace Go.Ev
open Go Go.Proofs
set_option maxRecDepth 100000

noncomputable def eAw4' : Env := env Tryz.prog [(95, dTrueW)] [] []
theorem q_aw4'  : evFn eAw4' 90 [] [] some =
 some { v := V.bool true, bx := [] : DRes } := by kernel_rfl
theorem ok_aw4' : FnOk Tryz.prog 90 dTrue := den_okF (env_ok ((TOk.nil _).cons ok_awW)) (E := eAw4') Tryz.func90 [] (by kernel_rfl) none0 fun _ _ _ => q_aw4'
noncomputable def eAw9 : Env := env Tryz.prog [(71, dHeadBytes), (89, dTrue), (90, dTrue)] [] []
theorem q_aw9  : evFn eAw9 85 [] [] some =
 some { v := V.bool true, bx := [] : DRes } := by kernel_rfl
theorem ok_aw9 (hN : FnOk Tryz.prog 44 dOutNum) : FnOk Tryz.prog 85 dTrue :=
  den_okF (env_ok ((((TOk.nil _).cons ok_aw4').cons (ok_aw1' hN)).cons (ok_headBytes hN))) (E := eAw9) Tryz.func85 [] (by kernel_rfl) none0 fun _ _ _ => q_aw9
theorem light_small {h : List HPair} (hl : N.light h = true) : h.length ≤ 12 := by
  unfold N.light at hl
  cases e : ilt 12 h.length with
  | true => rw [e] at hl; cases hl
  | false => have := ilt_nof e; omega
end Go.Ev

/- What was written is read again: lemmas on the plain functions. -/
namespace Go.Ev
open Go

theorem numB_succ : ∀ (k : Nat) (n : Int), N.numB n (k + 1) = N.numB (n / 256) k ++ [UInt8.ofNat (n % 256).toNat]
  | 0, n => by
    show [UInt8.ofNat ((n / 2 ^ (8 * 0)) % 256).toNat] = [] ++ [UInt8.ofNat (n % 256).toNat]
    rw [show (2 : Int) ^ (8 * 0) = 1 from rfl, Int.ediv_one]; rfl
  | k + 1, n => by
    show UInt8.ofNat ((n / 2 ^ (8 * (k + 1))) % 256).toNat :: N.numB n (k + 1) = (UInt8.ofNat ((n / 256 / 2 ^ (8 * k)) % 256).toNat :: N.numB (n / 256) k) ++ [UInt8.ofNat (n % 256).toNat]
    rw [numB_succ k n, Int.ediv_ediv_of_nonneg (by decide), show (256 : Int) * 2 ^ (8 * k) = 2 ^ (8 * (k + 1)) by rw [show 8 * (k + 1) = 8 + 8 * k by omega, Int.pow_add]; rfl]
    rfl
/-- What a value of the pairs' type is. -/
def PairOk (p : HPair) : Prop := 0 ≤ p.kind ∧ p.kind < 256 ∧ -9223372036854775808 ≤ p.num ∧ p.num ≤ 9223372036854775807
theorem pairE_zero {p : HPair} {l : List HPair} (h : N.pairE p l = 0) : p.key.length ≤ 16 ∧ p.kind ≤ 2 ∧ (p.kind = 1 → p.text.length ≤ 64 ∧ p.num = 0) ∧ (p.kind = 2 → (p.num = 0 ∨ p.num = 1)) ∧ (p.kind ≠ 1 → p.text = []) := by
  unfold N.pairE at h
  cases h1 : N.name p.key == 0 with
  | false =>
    rw [bne, h1] at h
    simp only [Bool.not_false, cond_true] at h
    rw [h] at h1; cases h1
  | true =>
    rw [bne, h1] at h
    simp only [Bool.not_true, cond_false] at h
    have hk : p.key.length ≤ 16 := by
      unfold N.name at h1
      cases e1 : p.key == [] with
      | true => rw [e1] at h1; cases h1
      | false =>
        rw [e1] at h1
        cases e2 : ilt 16 p.key.length with
        | true => rw [e2] at h1; cases h1
        | false => have := ilt_nof e2; omega
    cases h2 : ilt 2 p.kind with
    | true => rw [h2] at h; cases h
    | false =>
      rw [h2] at h
      have h2 := ilt_nof h2
      simp only [cond_false] at h
      by_cases k1 : p.kind = 1
      · simp only [k1, beq_self_eq_true, cond_true, bne, show ((1 : Int) == 2) = false from rfl, cond_false, Bool.not_true] at h
        cases h3 : ilt 64 p.text.length with
        | true => rw [h3] at h; cases h
        | false =>
          rw [h3] at h
          have h3 := ilt_nof h3
          cases h4 : p.num == 0 with
          | false => rw [h4] at h; cases h
          | true => exact ⟨hk, by omega, fun _ => ⟨by omega, by simpa using h4⟩, fun e => by omega, fun e => absurd k1 e⟩
      · have e1 : (p.kind == 1) = false := by simpa using k1
        simp only [e1, cond_false, bne, Bool.not_false, cond_true] at h
        have ht : p.text = [] := by
          cases h4 : p.text == [] with
          | true => simpa using h4
          | false =>
            rw [h4] at h
            revert h
            cases (cond (cond (p.kind == 2) (!p.num == 0) false) (!p.num == 1) false) <;> intro h <;> cases h
        refine ⟨hk, by omega, fun e => absurd e k1, fun e => ?_, fun _ => ht⟩
        simp only [e, beq_self_eq_true, cond_true] at h
        by_cases z : p.num = 0
        · exact .inl z
        · by_cases o : p.num = 1
          · exact .inr o
          · rw [show (p.num == 0) = false by simpa using z, show (p.num == 1) = false by simpa using o] at h
            cases h
theorem checkFrom_all (h : List HPair) : ∀ (f : Nat) (i : Int), 0 ≤ i → N.checkFrom h f i = 0 → ∀ j : Nat, i ≤ j → (j : Int) < i + f → N.pairE (h.getD j pair0) (h.take j) = 0
  | 0, i, _, _, j, h1, h2 => by omega
  | f + 1, i, h0, hc, j, h1, h2 => by
    unfold N.checkFrom at hc
    cases e : N.pairE (h.getD i.toNat pair0) (h.take i.toNat) != 0 with
    | true => rw [e, cond_true] at hc; rw [hc] at e; cases e
    | false =>
      rw [e] at hc
      by_cases hj : (j : Int) = i
      · have : j = i.toNat := by omega
        rw [this]; simpa using e
      · exact checkFrom_all h f (i + 1) (by omega) hc j (by omega) (by omega)
end Go.Ev

/- The document's functions that write heads answer what the plain ones do: lemmas; its function that writes numbers is a premise. -/
namespace Go.Ev
open Go Go.Proofs
set_option maxRecDepth 100000

def N.fuelOk (k : Nat) (b : Int) : Bool := cond (ilt 8 b) (Nat.ble 8 k) (ile b k)
def dRefNum (k : Nat) : Den := den (aCons (vInt .u64) (aOne (vInt .i64))) bNil (oV vStr) (fun a _ => cond (ile 0 a.1) (cond (ilt a.1 18446744073709551616) (N.fuelOk k a.2) false) false) fun a _ => (N.numB a.1 (N.clamp a.2), ())
def dRefText : Den := den (aOne vStr) bNil (oV vStr) (fun s _ => Nat.ble s.length 65535) fun s _ => (N.textB s, ())
namespace N
def refPairB (p : HPair) : Bytes := cond (p.kind == 0) (textB p.key ++ numB (IntKind.wrap .u64 p.kind) 1 ++ numB (IntKind.wrap .u64 p.num) 8) (cond (p.kind == 1) (textB p.key ++ numB (IntKind.wrap .u64 p.kind) 1 ++ textB p.text) (textB p.key ++ numB (IntKind.wrap .u64 p.kind) 1 ++ numB (IntKind.wrap .u64 p.num) 1))
def refPairsB : List HPair → Bytes
  | [] => [] | p :: r => refPairB p ++ refPairsB r
def refHeadBytes (h : List HPair) : Bytes := numB (IntKind.wrap .u64 h.length) 1 ++ refPairsB h
end N
def dRefBytes : Den := den (aOne (vSl cPair)) bNil (oV vStr) (fun h _ => cond (Nat.ble h.length 8) (h.all N.fitP) false) fun h _ => (N.refHeadBytes h, ())
noncomputable def eRefText : Env := env Tryz.prog [(48, dRefNum 8)] [] []
theorem q_refText (s : Bytes) : evFn eRefText 73 ((aOne vStr).enc s) ([]) some =
 cond (bif ilt (IntKind.wrap IntKind.u64 (↑(List.length s) : Int)) (18446744073709551616 : Int) then N.fuelOk (8 : Nat) (2 : Int) else false) (cond (Nat.ble ((2 : Nat) + List.length s) (9223372036854775807 : Nat)) (some { v := V.str (N.numB (IntKind.wrap IntKind.u64 (↑(List.length s) : Int)) (N.clamp (2 : Int)) ++ s), bx := [] : DRes }) (none)) (none) := by kernel_rfl
theorem ok_refText (hR : FnOk Tryz.prog 48 (dRefNum 8)) : FnOk Tryz.prog 73 dRefText := by
  refine den_okF (env_ok ((TOk.nil _).cons hR)) (E := eRefText) Tryz.func73 [] (by kernel_rfl) none0 fun s _ h => ?_
  have h : s.length ≤ 65535 := ble_of h
  refine (q_refText s).trans ?_
  show _ = some (⟨.str (N.textB s), [], []⟩ : DRes)
  have w : IntKind.wrap .u64 (s.length : Int) = s.length := wrap_u64 (by omega) (by omega)
  rw [w]
  simp (disch := omega) only [evs, show N.fuelOk 8 2 = true from rfl]
  rfl
def schRefBytes : SSch := { fr := [(3, .str), (10, .slc [.str, .int .u8, .int .i64, .str]), (11, .int .i64), (12, .int .i64)], tab := [] }
def gRefBytes : List Leaf → (Ex → St → Option R) → Option R
  | [.s s, .r r, .i n, .i i], K => cond (n == r.length) (cond (ile 0 i) (cond (Nat.ble r.length 8) (cond ((rowsP r).all N.fitP) (cond (ile s.length (1 + 150 * i))
      (K (.exit 0) { fr := [(3, .str (s ++ N.refPairsB ((rowsP r).drop i.toNat)))], tab := [] }) none) none) none) none) none
  | _, _ => none
noncomputable def eRefBytes : Env := env Tryz.prog [(48, dRefNum 8), (73, dRefText)] [(3, loopF schRefBytes gRefBytes)] [(3, [(0, [3, 10, 11, 12]), (1, [3]), (1000, [2])])]
theorem q_refBytes (h : List HPair) : evFn eRefBytes 74 (((aOne (vSl cPair)).enc h)) ([]) some =
 cond (bif ilt (IntKind.wrap IntKind.u64 (↑(List.length (List.map (fun p => [V.str (HPair.key p), V.int IntKind.u8 (HPair.kind p), V.int IntKind.i64 (HPair.num p), V.str (HPair.text p)]) h)) : Int)) (18446744073709551616 : Int) then N.fuelOk (8 : Nat) (1 : Int) else false) (cond ((↑(List.length (List.map (fun p => [V.str (HPair.key p), V.int IntKind.u8 (HPair.kind p), V.int IntKind.i64 (HPair.num p), V.str (HPair.text p)]) h)) : Int) == (↑(List.length (List.map (fun p => [V.str (HPair.key p), V.int IntKind.u8 (HPair.kind p), V.int IntKind.i64 (HPair.num p), V.str (HPair.text p)]) h)) : Int)) (cond (Nat.ble (List.length (List.map (fun p => [V.str (HPair.key p), V.int IntKind.u8 (HPair.kind p), V.int IntKind.i64 (HPair.num p), V.str (HPair.text p)]) h)) (8 : Nat)) (cond (List.all (List.map (fun r => { key := V.toStr (List.getD r (0 : Nat) V.undef), kind := V.toInt (List.getD r (1 : Nat) V.undef), num := V.toInt (List.getD r (2 : Nat) V.undef), text := V.toStr (List.getD r (3 : Nat) V.undef) : HPair }) (List.map (fun p => [V.str (HPair.key p), V.int IntKind.u8 (HPair.kind p), V.int IntKind.i64 (HPair.num p), V.str (HPair.text p)]) h)) N.fitP) (some { v := V.str (N.numB (IntKind.wrap IntKind.u64 (↑(List.length (List.map (fun p => [V.str (HPair.key p), V.int IntKind.u8 (HPair.kind p), V.int IntKind.i64 (HPair.num p), V.str (HPair.text p)]) h)) : Int)) (N.clamp (1 : Int)) ++ N.refPairsB (List.drop (0 : Nat) (List.map (fun r => { key := V.toStr (List.getD r (0 : Nat) V.undef), kind := V.toInt (List.getD r (1 : Nat) V.undef), num := V.toInt (List.getD r (2 : Nat) V.undef), text := V.toStr (List.getD r (3 : Nat) V.undef) : HPair }) (List.map (fun p => [V.str (HPair.key p), V.int IntKind.u8 (HPair.kind p), V.int IntKind.i64 (HPair.num p), V.str (HPair.text p)]) h)))), bx := [] : DRes }) (none)) (none)) (none)) (none) := by kernel_rfl
theorem q_refBytesR (s3 : Bytes) (r10 : List (List V)) (i11 : Int) (i12 : Int) (K : Ex → St → Option R) : evRound eRefBytes 74 3 { fr := [(3, .str s3), (10, .slc [.str, .int .u8, .int .i64, .str] r10), (11, .int .i64 i11), (12, .int .i64 i12)], tab := [] } K =
 cond (ilt i12 i11) (cond (decide ((0 : Int) ≤ i12 ∧ i12 < (↑(List.length r10) : Int))) (cond (Nat.ble (List.length (V.toStr (List.getD (List.getD r10 (Int.toNat i12) []) (0 : Nat) V.undef))) (65535 : Nat)) (cond (Nat.ble (List.length s3 + List.length (N.textB (V.toStr (List.getD (List.getD r10 (Int.toNat i12) []) (0 : Nat) V.undef)))) (9223372036854775807 : Nat)) (cond (bif ile (0 : Int) (IntKind.wrap IntKind.u64 (V.toInt (List.getD (List.getD r10 (Int.toNat i12) []) (1 : Nat) V.undef))) then bif ilt (IntKind.wrap IntKind.u64 (V.toInt (List.getD (List.getD r10 (Int.toNat i12) []) (1 : Nat) V.undef))) (18446744073709551616 : Int) then N.fuelOk (8 : Nat) (1 : Int) else false else false) (cond (Nat.ble (List.length (s3 ++ N.textB (V.toStr (List.getD (List.getD r10 (Int.toNat i12) []) (0 : Nat) V.undef))) + (1 : Nat)) (9223372036854775807 : Nat)) (cond (V.toInt (List.getD (List.getD r10 (Int.toNat i12) []) (1 : Nat) V.undef) == (0 : Int)) (cond (bif ile (0 : Int) (IntKind.wrap IntKind.u64 (V.toInt (List.getD (List.getD r10 (Int.toNat i12) []) (2 : Nat) V.undef))) then bif ilt (IntKind.wrap IntKind.u64 (V.toInt (List.getD (List.getD r10 (Int.toNat i12) []) (2 : Nat) V.undef))) (18446744073709551616 : Int) then N.fuelOk (8 : Nat) (8 : Int) else false else false) (cond (Nat.ble (List.length (s3 ++ N.textB (V.toStr (List.getD (List.getD r10 (Int.toNat i12) []) (0 : Nat) V.undef)) ++ N.numB (IntKind.wrap IntKind.u64 (V.toInt (List.getD (List.getD r10 (Int.toNat i12) []) (1 : Nat) V.undef))) (N.clamp (1 : Int))) + (8 : Nat)) (9223372036854775807 : Nat)) (K Ex.normal { fr := [((3 : Nat), V.str (s3 ++ N.textB (V.toStr (List.getD (List.getD r10 (Int.toNat i12) []) (0 : Nat) V.undef)) ++ N.numB (IntKind.wrap IntKind.u64 (V.toInt (List.getD (List.getD r10 (Int.toNat i12) []) (1 : Nat) V.undef))) (N.clamp (1 : Int)) ++ N.numB (IntKind.wrap IntKind.u64 (V.toInt (List.getD (List.getD r10 (Int.toNat i12) []) (2 : Nat) V.undef))) (N.clamp (8 : Int)))), ((10 : Nat), V.slc [Sh.str, Sh.int IntKind.u8, Sh.int IntKind.i64, Sh.str] r10), ((11 : Nat), V.int IntKind.i64 i11), ((12 : Nat), V.int IntKind.i64 (IntKind.wrap IntKind.i64 (i12 + (1 : Int))))], tab := [] : St }) (none)) (none)) (cond (V.toInt (List.getD (List.getD r10 (Int.toNat i12) []) (1 : Nat) V.undef) == (1 : Int)) (cond (Nat.ble (List.length (V.toStr (List.getD (List.getD r10 (Int.toNat i12) []) (3 : Nat) V.undef))) (65535 : Nat)) (cond (Nat.ble (List.length (s3 ++ N.textB (V.toStr (List.getD (List.getD r10 (Int.toNat i12) []) (0 : Nat) V.undef)) ++ N.numB (IntKind.wrap IntKind.u64 (V.toInt (List.getD (List.getD r10 (Int.toNat i12) []) (1 : Nat) V.undef))) (N.clamp (1 : Int))) + List.length (N.textB (V.toStr (List.getD (List.getD r10 (Int.toNat i12) []) (3 : Nat) V.undef)))) (9223372036854775807 : Nat)) (K Ex.normal { fr := [((3 : Nat), V.str (s3 ++ N.textB (V.toStr (List.getD (List.getD r10 (Int.toNat i12) []) (0 : Nat) V.undef)) ++ N.numB (IntKind.wrap IntKind.u64 (V.toInt (List.getD (List.getD r10 (Int.toNat i12) []) (1 : Nat) V.undef))) (N.clamp (1 : Int)) ++ N.textB (V.toStr (List.getD (List.getD r10 (Int.toNat i12) []) (3 : Nat) V.undef)))), ((10 : Nat), V.slc [Sh.str, Sh.int IntKind.u8, Sh.int IntKind.i64, Sh.str] r10), ((11 : Nat), V.int IntKind.i64 i11), ((12 : Nat), V.int IntKind.i64 (IntKind.wrap IntKind.i64 (i12 + (1 : Int))))], tab := [] : St }) (none)) (none)) (cond (bif ile (0 : Int) (IntKind.wrap IntKind.u64 (V.toInt (List.getD (List.getD r10 (Int.toNat i12) []) (2 : Nat) V.undef))) then bif ilt (IntKind.wrap IntKind.u64 (V.toInt (List.getD (List.getD r10 (Int.toNat i12) []) (2 : Nat) V.undef))) (18446744073709551616 : Int) then N.fuelOk (8 : Nat) (1 : Int) else false else false) (cond (Nat.ble (List.length (s3 ++ N.textB (V.toStr (List.getD (List.getD r10 (Int.toNat i12) []) (0 : Nat) V.undef)) ++ N.numB (IntKind.wrap IntKind.u64 (V.toInt (List.getD (List.getD r10 (Int.toNat i12) []) (1 : Nat) V.undef))) (N.clamp (1 : Int))) + (1 : Nat)) (9223372036854775807 : Nat)) (K Ex.normal { fr := [((3 : Nat), V.str (s3 ++ N.textB (V.toStr (List.getD (List.getD r10 (Int.toNat i12) []) (0 : Nat) V.undef)) ++ N.numB (IntKind.wrap IntKind.u64 (V.toInt (List.getD (List.getD r10 (Int.toNat i12) []) (1 : Nat) V.undef))) (N.clamp (1 : Int)) ++ N.numB (IntKind.wrap IntKind.u64 (V.toInt (List.getD (List.getD r10 (Int.toNat i12) []) (2 : Nat) V.undef))) (N.clamp (1 : Int)))), ((10 : Nat), V.slc [Sh.str, Sh.int IntKind.u8, Sh.int IntKind.i64, Sh.str] r10), ((11 : Nat), V.int IntKind.i64 i11), ((12 : Nat), V.int IntKind.i64 (IntKind.wrap IntKind.i64 (i12 + (1 : Int))))], tab := [] : St }) (none)) (none)))) (none)) (none)) (none)) (none)) (none)) (K (Ex.exit (0 : Nat)) { fr := [((3 : Nat), V.str s3)], tab := [] : St }) := by kernel_rfl
theorem ok_refBytes (hR : FnOk Tryz.prog 48 (dRefNum 8)) : FnOk Tryz.prog 74 dRefBytes := by
  refine den_okF (env_ok (((TOk.nil _).cons (ok_refText hR)).cons hR)) (E := eRefBytes) Tryz.func74 [3] (by kernel_rfl) (one1 (rounds_of rfl fun l K q h => ?_)) fun h _ hp => ?_
  · unfold gRefBytes at h
    split at h
    · rename_i s r n i
      have h1 := (cond_none h).1; replace h := (cond_none h).2; have h3 := (cond_none h).1; replace h := (cond_none h).2; have h4 := (cond_none h).1; replace h := (cond_none h).2; have h5 := (cond_none h).1; replace h := (cond_none h).2; have h6 := (cond_none h).1; replace h := (cond_none h).2
      have e1 := ieq_of h1
      subst e1
      have h4 : r.length ≤ 8 := ble_of h4
      refine loop_ind (E := eRefBytes) (f := 74) (id := 3) (σ := Int × Bytes) (fun x => { fr := [(3, .str x.2), (10, .slc [.str, .int .u8, .int .i64, .str] r), (11, .int .i64 r.length), (12, .int .i64 x.1)], tab := [] })
        (fun x => 0 ≤ x.1 ∧ (x.2.length : Int) ≤ 1 + 150 * x.1) (fun x => r.length - x.1.toNat)
        (fun x K => K (.exit 0) { fr := [(3, .str (x.2 ++ N.refPairsB ((rowsP r).drop x.1.toNat)))], tab := [] }) ?_ (i, s) ⟨ile_of h3, ile_of h6⟩ K q (by assumption)
      rintro ⟨i, s⟩ ⟨hi, hs⟩
      simp only at hi hs ⊢
      by_cases hl : i < r.length
      · have hlt : i.toNat < r.length := by omega
        have hfit : N.fitP (rowP (r.getD i.toNat [])) = true := List.all_eq_true.1 h5 _ (by
          rw [List.getD_eq_getElem?_getD, List.getElem?_eq_getElem hlt]; exact List.mem_map_of_mem (List.getElem_mem _))
        obtain ⟨f1, f2⟩ := bcond hfit
        have f1 : (V.toStr (List.getD (List.getD r i.toNat []) 0 V.undef)).length ≤ 64 := ble_of f1
        have f2 : (V.toStr (List.getD (List.getD r i.toNat []) 3 V.undef)).length ≤ 64 := ble_of f2
        have u1 := wu64 (V.toInt (List.getD (List.getD r i.toNat []) 1 V.undef))
        have u2 := wu64 (V.toInt (List.getD (List.getD r i.toNat []) 2 V.undef))
        rw [drop_pair hlt]
        have e : N.refPairsB (rowP (r.getD i.toNat []) :: (rowsP r).drop (i.toNat + 1)) = N.refPairB (rowP (r.getD i.toNat [])) ++ N.refPairsB ((rowsP r).drop (i.toNat + 1)) := rfl
        rw [e, ← List.append_assoc]
        have hlen : (N.refPairB (rowP (r.getD i.toNat []))).length ≤ 150 := by
          unfold N.refPairB rowP
          cases V.toInt (List.getD (List.getD r i.toNat []) 1 V.undef) == 0 <;> cases V.toInt (List.getD (List.getD r i.toNat []) 1 V.undef) == 1 <;> simp only [cond_true, cond_false, numB_len, textB_len, List.length_append] <;> omega
        refine .inl ⟨(i + 1, s ++ N.refPairB (rowP (r.getD i.toNat []))), ⟨by simp only; omega, by simp only [List.length_append]; omega⟩, by simp only; omega, fun K => ?_, fun K => ?_⟩
        · rw [q_refBytesR]
          unfold N.refPairB rowP
          simp (disch := omega) only [evs, textB_len, numB_len, show N.fuelOk 8 1 = true from rfl, show N.fuelOk 8 8 = true from rfl, show N.clamp 1 = 1 from rfl, show N.clamp 8 = 8 from rfl]
          cases V.toInt (List.getD (List.getD r i.toNat []) 1 V.undef) == 0 <;> cases V.toInt (List.getD (List.getD r i.toNat []) 1 V.undef) == 1 <;> simp only [cond_true, cond_false, List.append_assoc]
        · rw [show (i + 1).toNat = i.toNat + 1 by omega]
      · refine .inr ⟨.exit 0, { fr := [(3, .str s)], tab := [] }, by simp, fun K => ?_, fun K => ?_⟩
        · rw [q_refBytesR]
          simp (disch := omega) only [evs]
        · rw [List.drop_eq_nil_of_le (by rw [rowsP_length]; omega)]
          show K _ { fr := [(3, .str (s ++ []))], tab := [] } = _
          rw [List.append_nil]
    · cases h
  · obtain ⟨c1, c2⟩ := bcond hp
    have c1 : h.length ≤ 8 := ble_of c1
    refine (q_refBytes h).trans ?_
    show _ = some (⟨.str (N.refHeadBytes h), [], []⟩ : DRes)
    have u := wu64 (h.length : Int)
    simp (disch := omega) only [evs, pairs_enc, c2, List.drop_zero, show N.fuelOk 8 1 = true from rfl, show N.clamp 1 = 1 from rfl]
    rfl
end Go.Ev

/- The document's function that writes numbers answers what the plain one does: lemmas, no condition. -/
namespace Go.Ev
open Go Go.Proofs
set_option maxRecDepth 100000

noncomputable def eRefNum0 : Env := env Tryz.prog [] [] []
noncomputable def eRefNum (k : Nat) : Env := env Tryz.prog [(48, dRefNum k)] [] []
theorem q_refNum0 (n b : Int) : evFn eRefNum0 48 ((aCons (vInt .u64) (aOne (vInt .i64))).enc (n, b)) ([]) some =
 cond (ilt (8 : Int) b) (none) (cond (ile b (0 : Int)) (some { v := V.str [], bx := [] : DRes }) (none)) := by kernel_rfl
theorem q_refNum (k : Nat) (n b : Int) : evFn (eRefNum k) 48 ((aCons (vInt .u64) (aOne (vInt .i64))).enc (n, b)) ([]) some =
 cond (ilt (8 : Int) b) (cond (bif bif bif ile (0 : Int) (IntKind.wrap IntKind.u64 (Int.tdiv n (256 : Int))) then bif ilt (IntKind.wrap IntKind.u64 (Int.tdiv n (256 : Int))) (18446744073709551616 : Int) then N.fuelOk k (IntKind.wrap IntKind.i64 ((8 : Int) - (1 : Int))) else false else false then true else false then true else false) (cond (bif bif bif ile (0 : Int) (IntKind.wrap IntKind.u64 (Int.tdiv n (256 : Int))) then bif ilt (IntKind.wrap IntKind.u64 (Int.tdiv n (256 : Int))) (18446744073709551616 : Int) then N.fuelOk k (IntKind.wrap IntKind.i64 ((8 : Int) - (1 : Int))) else false else false then true else false then true else false) (cond (bif ile (0 : Int) (IntKind.wrap IntKind.u64 (Int.tdiv n (256 : Int))) then bif ilt (IntKind.wrap IntKind.u64 (Int.tdiv n (256 : Int))) (18446744073709551616 : Int) then N.fuelOk k (IntKind.wrap IntKind.i64 ((8 : Int) - (1 : Int))) else false else false) (some { v := V.str (N.numB (IntKind.wrap IntKind.u64 (Int.tdiv n (256 : Int))) (N.clamp (IntKind.wrap IntKind.i64 ((8 : Int) - (1 : Int)))) ++ strOfBytes [[V.int IntKind.u8 (IntKind.wrap IntKind.u8 (Int.tmod n (256 : Int)))]]), bx := [] : DRes }) (none)) (none)) (none)) (cond (ile b (0 : Int)) (some { v := V.str [], bx := [] : DRes }) (cond (bif bif bif ile (0 : Int) (IntKind.wrap IntKind.u64 (Int.tdiv n (256 : Int))) then bif ilt (IntKind.wrap IntKind.u64 (Int.tdiv n (256 : Int))) (18446744073709551616 : Int) then N.fuelOk k (IntKind.wrap IntKind.i64 (b - (1 : Int))) else false else false then true else false then true else false) (cond (bif bif bif ile (0 : Int) (IntKind.wrap IntKind.u64 (Int.tdiv n (256 : Int))) then bif ilt (IntKind.wrap IntKind.u64 (Int.tdiv n (256 : Int))) (18446744073709551616 : Int) then N.fuelOk k (IntKind.wrap IntKind.i64 (b - (1 : Int))) else false else false then true else false then true else false) (cond (bif ile (0 : Int) (IntKind.wrap IntKind.u64 (Int.tdiv n (256 : Int))) then bif ilt (IntKind.wrap IntKind.u64 (Int.tdiv n (256 : Int))) (18446744073709551616 : Int) then N.fuelOk k (IntKind.wrap IntKind.i64 (b - (1 : Int))) else false else false) (cond (Nat.ble (List.length (N.numB (IntKind.wrap IntKind.u64 (Int.tdiv n (256 : Int))) (N.clamp (IntKind.wrap IntKind.i64 (b - (1 : Int))))) + (1 : Nat)) (9223372036854775807 : Nat)) (some { v := V.str (N.numB (IntKind.wrap IntKind.u64 (Int.tdiv n (256 : Int))) (N.clamp (IntKind.wrap IntKind.i64 (b - (1 : Int)))) ++ strOfBytes [[V.int IntKind.u8 (IntKind.wrap IntKind.u8 (Int.tmod n (256 : Int)))]]), bx := [] : DRes }) (none)) (none)) (none)) (none))) := by kernel_rfl
theorem clamp_mid {b : Int} (h1 : 1 ≤ b) (h2 : b ≤ 8) : N.clamp b = N.clamp (b - 1) + 1 := by
  unfold N.clamp
  by_cases h : b = 1
  · subst h; rfl
  · rw [ilt_t (show (0 : Int) < b by omega), ilt_f (show b ≤ 8 from h2), ilt_t (show (0 : Int) < b - 1 by omega), ilt_f (show b - 1 ≤ 8 by omega)]
    simp only [cond_true, cond_false]; omega
theorem tdiv_256 {n : Int} (h : 0 ≤ n) : Int.tdiv n 256 = n / 256 := Int.tdiv_eq_ediv_of_nonneg h
theorem tmod_256 {n : Int} (h : 0 ≤ n) : Int.tmod n 256 = n % 256 := Int.tmod_eq_emod_of_nonneg h
theorem wrap_u8' {n : Int} (h1 : 0 ≤ n) (h2 : n < 256) : IntKind.wrap .u8 n = n := by
  simp only [IntKind.wrap, IntKind.signed, IntKind.bits]
  simp
  omega
theorem ok_refNum0 : FnOk Tryz.prog 48 (dRefNum 0) := by
  refine den_okF (env_ok (TOk.nil _)) (E := eRefNum0) Tryz.func48 [] (by kernel_rfl) none0 fun a _ h => ?_
  obtain ⟨n, b⟩ := a
  obtain ⟨h1, h⟩ := bcond h
  obtain ⟨h2, h⟩ := bcond h
  have h : cond (ilt 8 b) (Nat.ble 8 0) (ile b 0) = true := h
  refine (q_refNum0 n b).trans ?_
  cases e : ilt 8 b with
  | true => rw [e] at h; cases h
  | false =>
    rw [e] at h
    have h : ile b 0 = true := h
    have h' := ile_of h
    show cond false none (cond (ile b 0) _ none) = some (⟨.str (N.numB n (N.clamp b)), [], []⟩ : DRes)
    rw [h]
    have : N.clamp b = 0 := by unfold N.clamp; rw [ilt_f h']; rfl
    rw [this]; rfl
theorem ok_refNumS (k : Nat) (hk : FnOk Tryz.prog 48 (dRefNum k)) : FnOk Tryz.prog 48 (dRefNum (k + 1)) := by
  refine den_okF (env_ok ((TOk.nil _).cons hk)) (E := eRefNum k) Tryz.func48 [] (by kernel_rfl) none0 fun a _ h => ?_
  obtain ⟨n, b⟩ := a
  obtain ⟨h1, h⟩ := bcond h
  obtain ⟨h2, h⟩ := bcond h
  have h : cond (ilt 8 b) (Nat.ble 8 (k + 1)) (ile b ((k + 1 : Nat) : Int)) = true := h
  have h1 : 0 ≤ n := ile_of h1
  have h2 : n < 18446744073709551616 := ilt_of h2
  refine (q_refNum k n b).trans ?_
  show _ = some (⟨.str (N.numB n (N.clamp b)), [], []⟩ : DRes)
  have w1 : IntKind.wrap .u64 (n / 256) = n / 256 := wrap_u64 (by omega) (by omega)
  have w2 : IntKind.wrap .u8 (n % 256) = n % 256 := wrap_u8' (by omega) (by omega)
  have w3 : IntKind.wrap .i64 ((8 : Int) - 1) = 7 := rfl
  have es : strOfBytes [[V.int .u8 (n % 256)]] = [UInt8.ofNat (n % 256).toNat] := rfl
  rw [tdiv_256 h1, tmod_256 h1, w1, w2, w3, es]
  have c1 : ile 0 (n / 256) = true := ile_t (by omega)
  have c2 : ilt (n / 256) 18446744073709551616 = true := ilt_t (by omega)
  rw [c1, c2]
  simp only [cond_true]
  cases e : ilt 8 b with
  | true =>
    rw [e] at h
    have h : 8 ≤ k + 1 := ble_of h
    have hb := ilt_of e
    have f7 : N.fuelOk k 7 = true := by unfold N.fuelOk; rw [ilt_f (by omega), cond_false]; exact ile_t (by omega)
    have hc : N.clamp b = 8 := by unfold N.clamp; rw [ilt_t (by omega), e]; rfl
    rw [f7, hc]
    simp only [cond_true]
    rw [show N.clamp 7 = 7 from rfl, ← numB_succ]
  | false =>
    rw [e] at h
    have h : b ≤ (k + 1 : Nat) := ile_of h
    have hb := ilt_nof e
    simp only [cond_false]
    cases e2 : ile b 0 with
    | true =>
      have h' := ile_of e2
      have : N.clamp b = 0 := by unfold N.clamp; rw [ilt_f h']; rfl
      rw [this]; rfl
    | false =>
      have h0 := ile_nof e2
      have w4 : IntKind.wrap .i64 (b - 1) = b - 1 := wr_i64 (by omega) (by omega)
      have f : N.fuelOk k (b - 1) = true := by unfold N.fuelOk; rw [ilt_f (by omega), cond_false]; exact ile_t (by omega)
      rw [w4, f, clamp_mid (by omega) hb, numB_succ]
      have hl : (N.numB (n / 256) (N.clamp (b - 1))).length ≤ 8 := by
        rw [numB_len]; unfold N.clamp
        rw [ilt_f (show b - 1 ≤ 8 by omega)]
        cases ilt 0 (b - 1) <;> simp only [cond_true, cond_false] <;> omega
      simp (disch := omega) only [evs]
theorem ok_refNum : ∀ k, FnOk Tryz.prog 48 (dRefNum k)
  | 0 => ok_refNum0
  | k + 1 => ok_refNumS k (ok_refNum k)
end Go.Ev
