/- The program's forms of words answer what the plain ones do: lemmas, no condition. -/
import Derived.Test.YtajdamefabfoaaaDoorL5
namespace Go.Ev
open Go Go.Proofs
set_option maxRecDepth 100000

def dEqS : Den := den (aCons (vSl rStr) (aOne (vSl rStr))) bNil (oV vBool) (fun a _ => small a.1) fun a _ => (a.1 == a.2, ())
def schEqS : SSch := { fr := [(0, .slc [.str]), (1, .slc [.str]), (12, .int .i64), (13, .int .i64)], tab := [] }
def gEqS : List Leaf → (Ex → St → Option R) → Option R
  | [.r r0, .r r1, .i i12, .i i13], K => cond (i12 == r0.length) (cond (Nat.beq r0.length r1.length) (cond (ile 0 i13) (cond (Nat.ble r0.length (LIM + 1)) (cond ((rowsS r0).drop i13.toNat == (rowsS r1).drop i13.toNat) (K (.exit 0) { fr := [], tab := [] }) (K .ret { fr := [(4, .bool false)], tab := [] })) none) none) none) none
  | _, _ => none
noncomputable def eEqS : Env := env Tryd.prog [] [(4, loopF schEqS gEqS)] [(4, [(0, [0, 1, 12, 13]), (1, []), (1000, [4])])]
theorem q_eqS (a b : List Bytes) : evFn eEqS 20 ((aCons (vSl rStr) (aOne (vSl rStr))).enc (a, b)) ([]) some =
    cond ((↑(List.length (List.map (fun n => [V.str n]) a)) : Int) != (↑(List.length (List.map (fun n => [V.str n]) b)) : Int))
      (some { v := V.bool false, bx := [] })
      (cond ((↑(List.length (List.map (fun n => [V.str n]) a)) : Int) == (↑(List.length (List.map (fun n => [V.str n]) a)) : Int))
        (cond (Nat.beq (List.length (List.map (fun n => [V.str n]) a)) (List.length (List.map (fun n => [V.str n]) b)))
          (cond (Nat.ble (List.length (List.map (fun n => [V.str n]) a)) (1000001 : Nat))
            (cond (List.drop (0 : Nat) (List.map (fun r => V.toStr (List.getD r (0 : Nat) V.undef)) (List.map (fun n => [V.str n]) a)) ==
      List.drop (0 : Nat) (List.map (fun r => V.toStr (List.getD r (0 : Nat) V.undef)) (List.map (fun n => [V.str n]) b)))
              (some { v := V.bool true, bx := [] })
              (some { v := V.bool false, bx := [] }))
            (none))
          (none))
        (none)) := by kernel_rfl
theorem q_eqSR (r0 : List (List V)) (r1 : List (List V)) (i12 : Int) (i13 : Int) (K : Ex → St → Option R) : evRound eEqS 20 4 { fr := [(0, .slc [.str] r0), (1, .slc [.str] r1), (12, .int .i64 i12), (13, .int .i64 i13)], tab := [] } K =
    cond (ilt i13 i12)
      (cond (decide ((0 : Int) ≤ i13 ∧ i13 < (↑(List.length r0) : Int)))
        (cond (decide ((0 : Int) ≤ i13 ∧ i13 < (↑(List.length r1) : Int)))
          (cond (!V.toStr (List.getD (List.getD r0 (Int.toNat i13) []) (0 : Nat) V.undef) ==
        V.toStr (List.getD (List.getD r1 (Int.toNat i13) []) (0 : Nat) V.undef))
            (K Ex.ret { fr := [((4 : Nat), V.bool false)], tab := [] })
            (K Ex.normal
      {
        fr :=
          [((0 : Nat), V.slc [Sh.str] r0), ((1 : Nat), V.slc [Sh.str] r1), ((12 : Nat), V.int IntKind.i64 i12),
            ((13 : Nat), V.int IntKind.i64 (IntKind.wrap IntKind.i64 (i13 + (1 : Int))))],
        tab := [] }))
          (none))
        (none))
      (K (Ex.exit (0 : Nat)) { fr := [], tab := [] }) := by kernel_rfl
theorem ok_eqS : FnOk Tryd.prog 20 dEqS := by
  refine den_okF (env_ok (TOk.nil _)) (E := eEqS) Tryd.func20 [4] (by kernel_rfl) (one1 (rounds_of rfl fun l K q h => ?_)) fun a _ h => ?_
  · unfold gEqS at h
    split at h
    · rename_i r0 r1 n i
      have h1 := (cond_none h).1; replace h := (cond_none h).2; have h2 := (cond_none h).1; replace h := (cond_none h).2; have h3 := (cond_none h).1; replace h := (cond_none h).2; have h4 := (cond_none h).1; replace h := (cond_none h).2
      have e1 := ieq_of h1
      have h2 := Nat.eq_of_beq_eq_true h2
      subst e1
      have h4 : r0.length ≤ 1000001 := ble_of h4
      refine loop_ind (E := eEqS) (f := 20) (id := 4) (fun i : Int => { fr := [(0, .slc [.str] r0), (1, .slc [.str] r1), (12, .int .i64 r0.length), (13, .int .i64 i)], tab := [] }) (fun i => 0 ≤ i) (fun i => r0.length - i.toNat)
        (fun i K => cond ((rowsS r0).drop i.toNat == (rowsS r1).drop i.toNat) (K (.exit 0) { fr := [], tab := [] }) (K .ret { fr := [(4, .bool false)], tab := [] })) (fun i hi => ?_) i (ile_of h3) K q h
      by_cases hl : i < r0.length
      · rw [drop_get (show i.toNat < r0.length by omega), drop_get (show i.toNat < r1.length by omega)]
        have e : ∀ (x y : Bytes) (u v : List Bytes), ((x :: u) == (y :: v)) = cond (x == y) (u == v) false := fun x y u v => by
          show (x == y && u == v) = _
          cases x == y <;> rfl
        rw [e]
        cases hc : rowS (r0.getD i.toNat []) == rowS (r1.getD i.toNat []) with
        | true =>
          refine .inl ⟨i + 1, by omega, by omega, fun K => ?_, fun K => ?_⟩
          · rw [q_eqSR]
            unfold rowS at hc
            simp (disch := omega) only [evs, hc, bne, Bool.not_true]
          · rw [cond_true, show (i + 1).toNat = i.toNat + 1 by omega]
        | false =>
          refine .inr ⟨.ret, { fr := [(4, .bool false)], tab := [] }, by simp, fun K => ?_, fun K => rfl⟩
          rw [q_eqSR]
          unfold rowS at hc
          simp (disch := omega) only [evs, hc, bne, Bool.not_false]
      · refine .inr ⟨.exit 0, { fr := [], tab := [] }, by simp, fun K => ?_, fun K => ?_⟩
        · rw [q_eqSR]
          simp (disch := omega) only [evs]
        · rw [List.drop_eq_nil_of_le (by rw [rowsS_length]; omega), List.drop_eq_nil_of_le (by rw [rowsS_length]; omega)]; rfl
    · cases h
  · obtain ⟨a, b⟩ := a
    have h : a.length ≤ 1000000 := ble_of h
    refine (q_eqS a b).trans ?_
    show _ = some (⟨.bool (a == b), [], []⟩ : DRes)
    have e : ∀ l : List Bytes, (l.map (fun n => [V.str n])).map (fun r => V.toStr (List.getD r 0 V.undef)) = l := fun l => rowsS_enc l
    by_cases hl : a.length = b.length
    · simp (disch := omega) only [evs, e, hl, List.drop_zero]
      cases a == b <;> rfl
    · have hab : (a == b) = false := by rw [beq_eq_false_iff_ne]; intro e; exact hl (by rw [e])
      simp (disch := omega) only [evs, hab]

def schKeyB4 : SSch := { fr := [(1, .slc [.str]), (13, .slc [.str]), (14, .int .i64), (15, .int .i64)], tab := [] }
def gKeyB4 : List Leaf → (Ex → St → Option R) → Option R
  | [.r r1, .r r13, .i i14, .i i15], K => cond (i14 == r13.length) (cond (ile 0 i15) (cond (Nat.ble r13.length (LIM + 1)) (cond (Nat.ble r1.length (LIM + 1)) (cond (r13.all fun r => Nat.ble (rowS r).length LIM)
      (cond (N.keyL (rowsS r1) ((rowsS r13).drop i15.toNat) == 0) (K (.exit 0) { fr := [], tab := [] }) (K .ret { fr := [(4, .int .i64 4)], tab := [] })) none) none) none) none) none
  | _, _ => none
def schKeyB7 : SSch := { fr := [(1, .slc [.str]), (6, .str), (13, .slc [.str]), (14, .int .i64), (15, .int .i64), (19, .slc [.str]), (20, .int .i64), (21, .int .i64)], tab := [] }
def gKeyB7 : List Leaf → (Ex → St → Option R) → Option R
  | [.r r1, .s s6, .r r13, .i i14, .i i15, .r r19, .i i20, .i i21], K => cond (i20 == r19.length) (cond (ile 0 i21) (cond (Nat.ble r19.length (LIM + 1))
      (cond (((rowsS r19).drop i21.toNat).any (s6 == ·)) (K (.exit 1) { fr := [(1, .slc [.str] r1), (13, .slc [.str] r13), (14, .int .i64 i14), (15, .int .i64 i15)], tab := [] })
        (K (.exit 2) { fr := [(1, .slc [.str] r1), (6, .str s6), (13, .slc [.str] r13), (14, .int .i64 i14), (15, .int .i64 i15)], tab := [] })) none) none) none
  | _, _ => none
noncomputable def eKeyB : Env := env Tryd.prog [(21, dWords), (46, dPlain)] [(7, loopF schKeyB7 gKeyB7), (4, loopF schKeyB4 gKeyB4)] [(4, [(0, [1, 13, 14, 15]), (1, []), (1000, [4])]), (7, [(0, [1, 6, 13, 14, 15, 19, 20, 21]), (2, [1, 13, 14, 15]), (3, [1, 6, 13, 14, 15]), (1000, [4])])]
theorem q_keyB (s : Bytes) (l : List Bytes) : evFn eKeyB 47 ((aCons vStr (aOne (vSl rStr))).enc (s, l)) ([]) some =
    cond (ilt (64 : Int) (↑(List.length s) : Int))
      (some { v := V.int IntKind.i64 (5 : Int), bx := [] })
      (cond (Nat.ble (List.length s) (1000000 : Nat))
        (cond ((↑(List.length (List.map (fun n => [V.str n]) (N.words s))) : Int) ==
      (↑(List.length (List.map (fun n => [V.str n]) (N.words s))) : Int))
          (cond (Nat.ble (List.length (List.map (fun n => [V.str n]) (N.words s))) (1000001 : Nat))
            (cond (Nat.ble (List.length (List.map (fun n => [V.str n]) l)) (1000001 : Nat))
              (cond (List.all (List.map (fun n => [V.str n]) (N.words s)) fun r =>
      Nat.ble (List.length (V.toStr (List.getD r (0 : Nat) V.undef))) (1000000 : Nat))
                (cond (N.keyL (List.map (fun r => V.toStr (List.getD r (0 : Nat) V.undef)) (List.map (fun n => [V.str n]) l))
        (List.drop (0 : Nat)
          (List.map (fun r => V.toStr (List.getD r (0 : Nat) V.undef)) (List.map (fun n => [V.str n]) (N.words s)))) ==
      (0 : Int))
                  (some { v := V.int IntKind.i64 (0 : Int), bx := [] })
                  (some { v := V.int IntKind.i64 (4 : Int), bx := [] }))
                (none))
              (none))
            (none))
          (none))
        (none)) := by kernel_rfl
theorem q_keyBR4 (r1 : List (List V)) (r13 : List (List V)) (i14 : Int) (i15 : Int) (K : Ex → St → Option R) : evRound eKeyB 47 4 { fr := [(1, .slc [.str] r1), (13, .slc [.str] r13), (14, .int .i64 i14), (15, .int .i64 i15)], tab := [] } K =
    cond (ilt i15 i14)
      (cond (decide ((0 : Int) ≤ i15 ∧ i15 < (↑(List.length r13) : Int)))
        (cond ((↑(List.length r1) : Int) == (↑(List.length r1) : Int))
          (cond (Nat.ble (List.length r1) (1000001 : Nat))
            (cond (List.any (List.drop (0 : Nat) (List.map (fun r => V.toStr (List.getD r (0 : Nat) V.undef)) r1)) fun x =>
      V.toStr (List.getD (List.getD r13 (Int.toNat i15) []) (0 : Nat) V.undef) == x)
              (K Ex.normal
      {
        fr :=
          [((1 : Nat), V.slc [Sh.str] r1), ((13 : Nat), V.slc [Sh.str] r13), ((14 : Nat), V.int IntKind.i64 i14),
            ((15 : Nat), V.int IntKind.i64 (IntKind.wrap IntKind.i64 (i15 + (1 : Int))))],
        tab := [] })
              (cond (V.toStr (List.getD (List.getD r13 (Int.toNat i15) []) (0 : Nat) V.undef) == [])
                (K Ex.ret { fr := [((4 : Nat), V.int IntKind.i64 (4 : Int))], tab := [] })
                (cond (Nat.ble (List.length (V.toStr (List.getD (List.getD r13 (Int.toNat i15) []) (0 : Nat) V.undef))) (1000000 : Nat))
                  (cond (!N.plain (V.toStr (List.getD (List.getD r13 (Int.toNat i15) []) (0 : Nat) V.undef)))
                    (K Ex.ret { fr := [((4 : Nat), V.int IntKind.i64 (4 : Int))], tab := [] })
                    (K Ex.normal
      {
        fr :=
          [((1 : Nat), V.slc [Sh.str] r1), ((13 : Nat), V.slc [Sh.str] r13), ((14 : Nat), V.int IntKind.i64 i14),
            ((15 : Nat), V.int IntKind.i64 (IntKind.wrap IntKind.i64 (i15 + (1 : Int))))],
        tab := [] }))
                  (none))))
            (none))
          (none))
        (none))
      (K (Ex.exit (0 : Nat)) { fr := [], tab := [] }) := by kernel_rfl
theorem q_keyBR7 (r1 : List (List V)) (s6 : Bytes) (r13 : List (List V)) (i14 : Int) (i15 : Int) (r19 : List (List V)) (i20 : Int) (i21 : Int) (K : Ex → St → Option R) : evRound eKeyB 47 7 { fr := [(1, .slc [.str] r1), (6, .str s6), (13, .slc [.str] r13), (14, .int .i64 i14), (15, .int .i64 i15), (19, .slc [.str] r19), (20, .int .i64 i20), (21, .int .i64 i21)], tab := [] } K =
    cond (ilt i21 i20)
      (cond (decide ((0 : Int) ≤ i21 ∧ i21 < (↑(List.length r19) : Int)))
        (cond (s6 == V.toStr (List.getD (List.getD r19 (Int.toNat i21) []) (0 : Nat) V.undef))
          (K (Ex.exit (1 : Nat))
      {
        fr :=
          [((1 : Nat), V.slc [Sh.str] r1), ((13 : Nat), V.slc [Sh.str] r13), ((14 : Nat), V.int IntKind.i64 i14),
            ((15 : Nat), V.int IntKind.i64 i15)],
        tab := [] })
          (K Ex.normal
      {
        fr :=
          [((1 : Nat), V.slc [Sh.str] r1), ((6 : Nat), V.str s6), ((13 : Nat), V.slc [Sh.str] r13),
            ((14 : Nat), V.int IntKind.i64 i14), ((15 : Nat), V.int IntKind.i64 i15), ((19 : Nat), V.slc [Sh.str] r19),
            ((20 : Nat), V.int IntKind.i64 i20),
            ((21 : Nat), V.int IntKind.i64 (IntKind.wrap IntKind.i64 (i21 + (1 : Int))))],
        tab := [] }))
        (none))
      (K (Ex.exit (2 : Nat))
      {
        fr :=
          [((1 : Nat), V.slc [Sh.str] r1), ((6 : Nat), V.str s6), ((13 : Nat), V.slc [Sh.str] r13),
            ((14 : Nat), V.int IntKind.i64 i14), ((15 : Nat), V.int IntKind.i64 i15)],
        tab := [] }) := by kernel_rfl
theorem keyL_or (b : List Bytes) : ∀ l, N.keyL b l = 0 ∨ N.keyL b l = 4
  | [] => .inl rfl
  | w :: r => by
    unfold N.keyL
    cases b.any (w == ·)
    · cases (cond (w == []) true (!N.plain w))
      · exact keyL_or b r
      · exact .inr rfl
    · exact keyL_or b r
theorem ok_keyB : FnOk Tryd.prog 47 dKeyB := by
  refine den_okF (env_ok (((TOk.nil _).cons ok_plain).cons ok_words)) (E := eKeyB) Tryd.func47 [4, 7] (by kernel_rfl) (two2 (rounds_of rfl fun l K q h => ?_) (rounds_of rfl fun l K q h => ?_)) fun a _ h => ?_
  · unfold gKeyB4 at h
    split at h
    · rename_i r1 r13 n i
      have h1 := (cond_none h).1; replace h := (cond_none h).2; have h2 := (cond_none h).1; replace h := (cond_none h).2; have h3 := (cond_none h).1; replace h := (cond_none h).2; have h4 := (cond_none h).1; replace h := (cond_none h).2; have h5 := (cond_none h).1; replace h := (cond_none h).2
      have e1 := ieq_of h1
      subst e1
      have h3 : r13.length ≤ 1000001 := ble_of h3
      have h4 : r1.length ≤ 1000001 := ble_of h4
      refine loop_ind (E := eKeyB) (f := 47) (id := 4) (σ := Int) (fun i => { fr := [(1, .slc [.str] r1), (13, .slc [.str] r13), (14, .int .i64 r13.length), (15, .int .i64 i)], tab := [] })
        (fun i => 0 ≤ i) (fun i => r13.length - i.toNat) (fun i K => cond (N.keyL (rowsS r1) ((rowsS r13).drop i.toNat) == 0) (K (.exit 0) { fr := [], tab := [] }) (K .ret { fr := [(4, .int .i64 4)], tab := [] })) (fun i hi => ?_) i (ile_of h2) K q (by assumption)
      by_cases hl : i < r13.length
      · have hlt : i.toNat < r13.length := by omega
        have hw' : (V.toStr (List.getD (List.getD r13 i.toNat []) 0 V.undef)).length ≤ 1000000 := ble_of (List.all_eq_true.1 h5 _ (by rw [List.getD_eq_getElem?_getD, List.getElem?_eq_getElem hlt]; exact List.getElem_mem _))
        rw [drop_get hlt]
        have e : N.keyL (rowsS r1) (rowS (r13.getD i.toNat []) :: (rowsS r13).drop (i.toNat + 1)) = cond ((rowsS r1).any (rowS (r13.getD i.toNat []) == ·)) (N.keyL (rowsS r1) ((rowsS r13).drop (i.toNat + 1))) (cond (cond (rowS (r13.getD i.toNat []) == []) true (!N.plain (rowS (r13.getD i.toNat [])))) 4 (N.keyL (rowsS r1) ((rowsS r13).drop (i.toNat + 1)))) := rfl
        rw [e]
        have stepOk : ∀ K : Ex → St → Option R, (cond ((rowsS r1).any (rowS (r13.getD i.toNat []) == ·)) true (!cond (rowS (r13.getD i.toNat []) == []) true (!N.plain (rowS (r13.getD i.toNat []))))) = true →
            evRound eKeyB 47 4 { fr := [(1, .slc [.str] r1), (13, .slc [.str] r13), (14, .int .i64 r13.length), (15, .int .i64 i)], tab := [] } K = K .normal { fr := [(1, .slc [.str] r1), (13, .slc [.str] r13), (14, .int .i64 r13.length), (15, .int .i64 (i + 1))], tab := [] } := fun K hc => by
          rw [q_keyBR4]
          unfold rowsS rowS at hc
          simp (disch := omega) only [evs, List.drop_zero]
          revert hc
          cases List.any (List.map (fun r => V.toStr (List.getD r 0 V.undef)) r1) (fun x => V.toStr (List.getD (List.getD r13 i.toNat []) 0 V.undef) == x) <;> cases V.toStr (List.getD (List.getD r13 i.toNat []) 0 V.undef) == [] <;> cases N.plain (V.toStr (List.getD (List.getD r13 i.toNat []) 0 V.undef)) <;> intro hc <;> first | rfl | cases hc
        cases h1 : (rowsS r1).any (rowS (r13.getD i.toNat []) == ·) with
        | true =>
          refine .inl ⟨i + 1, by omega, by omega, fun K => stepOk K (by rw [h1]; rfl), fun K => ?_⟩
          rw [cond_true, show (i + 1).toNat = i.toNat + 1 by omega]
        | false =>
          cases h2 : cond (rowS (r13.getD i.toNat []) == []) true (!N.plain (rowS (r13.getD i.toNat []))) with
          | false =>
            refine .inl ⟨i + 1, by omega, by omega, fun K => stepOk K (by rw [h1, h2]; rfl), fun K => ?_⟩
            rw [cond_false, cond_false, show (i + 1).toNat = i.toNat + 1 by omega]
          | true =>
            refine .inr ⟨.ret, { fr := [(4, .int .i64 4)], tab := [] }, by simp, fun K => ?_, fun K => rfl⟩
            rw [q_keyBR4]
            unfold rowsS rowS at h1
            simp (disch := omega) only [evs, List.drop_zero]
            revert h1 h2
            unfold rowS
            cases List.any (List.map (fun r => V.toStr (List.getD r 0 V.undef)) r1) (fun x => V.toStr (List.getD (List.getD r13 i.toNat []) 0 V.undef) == x) <;> cases V.toStr (List.getD (List.getD r13 i.toNat []) 0 V.undef) == [] <;> cases N.plain (V.toStr (List.getD (List.getD r13 i.toNat []) 0 V.undef)) <;> intro h1 h2 <;> first | rfl | (cases h1; done) | cases h2
      · refine .inr ⟨.exit 0, { fr := [], tab := [] }, by simp, fun K => ?_, fun K => ?_⟩
        · rw [q_keyBR4]
          simp (disch := omega) only [evs]
        · rw [List.drop_eq_nil_of_le (by rw [rowsS_length]; omega)]; rfl
    · cases h
  · unfold gKeyB7 at h
    split at h
    · rename_i r1 s r13 i14 i15 r19 n i
      have h1 := (cond_none h).1; replace h := (cond_none h).2; have h2 := (cond_none h).1; replace h := (cond_none h).2; have h3 := (cond_none h).1; replace h := (cond_none h).2
      have e1 := ieq_of h1
      subst e1
      have h3 : r19.length ≤ 1000001 := ble_of h3
      refine loop_ind (E := eKeyB) (f := 47) (id := 7) (σ := Int) (fun i => { fr := [(1, .slc [.str] r1), (6, .str s), (13, .slc [.str] r13), (14, .int .i64 i14), (15, .int .i64 i15), (19, .slc [.str] r19), (20, .int .i64 r19.length), (21, .int .i64 i)], tab := [] })
        (fun i => 0 ≤ i) (fun i => r19.length - i.toNat) (fun i K => cond (((rowsS r19).drop i.toNat).any (s == ·)) (K (.exit 1) { fr := [(1, .slc [.str] r1), (13, .slc [.str] r13), (14, .int .i64 i14), (15, .int .i64 i15)], tab := [] })
        (K (.exit 2) { fr := [(1, .slc [.str] r1), (6, .str s), (13, .slc [.str] r13), (14, .int .i64 i14), (15, .int .i64 i15)], tab := [] })) (fun i hi => ?_) i (ile_of h2) K q (by assumption)
      by_cases hl : i < r19.length
      · rw [drop_get (show i.toNat < r19.length by omega), List.any_cons]
        cases hc : s == rowS (r19.getD i.toNat []) with
        | true =>
          refine .inr ⟨.exit 1, _, by simp, fun K => ?_, fun K => rfl⟩
          rw [q_keyBR7]
          unfold rowS at hc
          simp (disch := omega) only [evs, hc]
        | false =>
          refine .inl ⟨i + 1, by omega, by omega, fun K => ?_, fun K => ?_⟩
          · rw [q_keyBR7]
            unfold rowS at hc
            simp (disch := omega) only [evs, hc]
          · rw [Bool.false_or, show (i + 1).toNat = i.toNat + 1 by omega]
      · refine .inr ⟨.exit 2, { fr := [(1, .slc [.str] r1), (6, .str s), (13, .slc [.str] r13), (14, .int .i64 i14), (15, .int .i64 i15)], tab := [] }, by simp, fun K => ?_, fun K => ?_⟩
        · rw [q_keyBR7]
          simp (disch := omega) only [evs]
        · rw [List.drop_eq_nil_of_le (by rw [rowsS_length]; omega)]; rfl
    · cases h
  · obtain ⟨s, l⟩ := a
    have h : l.length ≤ 1000000 := ble_of h
    refine (q_keyB s l).trans ?_
    show _ = some (⟨.int .i64 (N.key s l), [], []⟩ : DRes)
    unfold N.key
    cases hl : ilt 64 s.length with
    | true => rfl
    | false =>
      have hl := ilt_nof hl
      obtain ⟨w1, w2⟩ := words_small s
      have hall : ((N.words s).map (fun n => [V.str n])).all (fun r => Nat.ble (V.toStr (List.getD r 0 V.undef)).length 1000000) = true := List.all_eq_true.2 fun r hr => by
        obtain ⟨w, hw, rfl⟩ := List.mem_map.1 hr
        exact ble_t (show w.length ≤ 1000000 from by have := w2 w hw; omega)
      have e : ∀ l : List Bytes, (l.map (fun n => [V.str n])).map (fun r => V.toStr (List.getD r 0 V.undef)) = l := fun l => rowsS_enc l
      simp (disch := omega) only [evs, hall, e, List.drop_zero]
      rcases keyL_or l (N.words s) with e | e <;> rw [e] <;> rfl
noncomputable def eKey : Env := env Tryd.prog [(47, dKeyB)] [] []
theorem q_key (s : Bytes) : evFn eKey 18 ((aOne vStr).enc s) ([]) some =
    some { v := V.int IntKind.i64 (N.key s []), bx := [] } := by kernel_rfl
theorem ok_key : FnOk Tryd.prog 18 dKey := den_okF (env_ok ((TOk.nil _).cons ok_keyB)) (E := eKey) Tryd.func18 [] (by kernel_rfl) none0 fun s _ _ => q_key s
theorem q_pattern (s : Bytes) : evFn eKey 19 ((aOne vStr).enc s) ([]) some =
    some { v := V.int IntKind.i64 (N.key s [[(42 : UInt8)], [(35 : UInt8)]]), bx := [] } := by kernel_rfl
theorem ok_pattern : FnOk Tryd.prog 19 dPattern := den_okF (env_ok ((TOk.nil _).cons ok_keyB)) (E := eKey) Tryd.func19 [] (by kernel_rfl) none0 fun s _ _ => q_pattern s
def schRefName : SSch := { fr := [(0, .str), (3, .int .i64)], tab := [] }
def gRefName : List Leaf → (Ex → St → Option R) → Option R
  | [.s s0, .i i3], K => cond (ile 0 i3) (cond (Nat.ble s0.length LIM) (cond (N.plain (s0.drop i3.toNat)) (K (.exit 0) { fr := [], tab := [] }) (K .ret { fr := [(2, .int .i64 4)], tab := [] })) none) none
  | _, _ => none
noncomputable def eRefName : Env := env Tryd.prog [(45, dLetter)] [(6, loopF schRefName gRefName)] [(6, [(0, [0, 3]), (1, []), (1000, [2])])]
theorem q_refName (s : Bytes) : evFn eRefName 17 ((aOne vStr).enc s) ([]) some =
    cond ((↑(List.length s) : Int) == (0 : Int))
      (some { v := V.int IntKind.i64 (15 : Int), bx := [] })
      (cond (ilt (16 : Int) (↑(List.length s) : Int))
        (some { v := V.int IntKind.i64 (5 : Int), bx := [] })
        (cond (Nat.ble (List.length s) (1000000 : Nat))
          (cond (N.plain (List.drop (0 : Nat) s))
            (some { v := V.int IntKind.i64 (0 : Int), bx := [] })
            (some { v := V.int IntKind.i64 (4 : Int), bx := [] }))
          (none))) := by kernel_rfl
theorem q_refNameR (s0 : Bytes) (i3 : Int) (K : Ex → St → Option R) : evRound eRefName 17 6 { fr := [(0, .str s0), (3, .int .i64 i3)], tab := [] } K =
    cond (ilt i3 (↑(List.length s0) : Int))
      (cond (decide ((0 : Int) ≤ i3 ∧ i3 < (↑(List.length s0) : Int)))
        (cond (!N.letterI (↑(UInt8.toNat (List.getD s0 (Int.toNat i3) (0 : UInt8))) : Int))
          (K Ex.ret { fr := [((2 : Nat), V.int IntKind.i64 (4 : Int))], tab := [] })
          (K Ex.normal
      { fr := [((0 : Nat), V.str s0), ((3 : Nat), V.int IntKind.i64 (IntKind.wrap IntKind.i64 (i3 + (1 : Int))))],
        tab := [] }))
        (none))
      (K (Ex.exit (0 : Nat)) { fr := [], tab := [] }) := by kernel_rfl
theorem ok_refName : FnOk Tryd.prog 17 dName := by
  refine den_okF (env_ok ((TOk.nil _).cons ok_letter)) (E := eRefName) Tryd.func17 [6] (by kernel_rfl) (one1 (rounds_of rfl fun l K q h => ?_)) fun s _ h => ?_
  · unfold gRefName at h
    split at h
    · rename_i s i
      have h1 := (cond_none h).1; replace h := (cond_none h).2; have h2 := (cond_none h).1; replace h := (cond_none h).2
      have h2 : s.length ≤ 1000000 := ble_of h2
      refine loop_ind (E := eRefName) (f := 17) (id := 6) (fun i : Int => { fr := [(0, .str s), (3, .int .i64 i)], tab := [] }) (fun i => 0 ≤ i) (fun i => s.length - i.toNat)
        (fun i K => cond (N.plain (s.drop i.toNat)) (K (.exit 0) { fr := [], tab := [] }) (K .ret { fr := [(2, .int .i64 4)], tab := [] })) (fun i hi => ?_) i (ile_of h1) K q h
      by_cases hl : i < s.length
      · rw [drop_byte (show i.toNat < s.length by omega), plain_cons]
        cases hc : N.letterI (s.getD i.toNat 0).toNat with
        | true =>
          refine .inl ⟨i + 1, by omega, by omega, fun K => ?_, fun K => ?_⟩
          · rw [q_refNameR]
            simp (disch := omega) only [evs, hc, Bool.not_true]
          · rw [cond_true, show (i + 1).toNat = i.toNat + 1 by omega]
        | false =>
          refine .inr ⟨.ret, { fr := [(2, .int .i64 4)], tab := [] }, by simp, fun K => ?_, fun K => rfl⟩
          rw [q_refNameR]
          simp (disch := omega) only [evs, hc, Bool.not_false]
      · refine .inr ⟨.exit 0, { fr := [], tab := [] }, by simp, fun K => ?_, fun K => ?_⟩
        · rw [q_refNameR]
          simp (disch := omega) only [evs]
        · rw [List.drop_eq_nil_of_le (by omega)]; rfl
    · cases h
  · refine (q_refName s).trans ?_
    show _ = some (⟨.int .i64 (N.name s), [], []⟩ : DRes)
    unfold N.name
    cases s with
    | nil => rfl
    | cons c r =>
      generalize hs : c :: r = s at *
      have h0 : (s == []) = false := by rw [← hs]; rfl
      have h1 : 0 < s.length := by rw [← hs]; simp
      rw [h0]
      cases h : ilt 16 s.length with
      | true => simp (disch := omega) only [evs]
      | false =>
        have h := ilt_nof h
        simp (disch := omega) only [evs, List.drop_zero]
        cases N.plain s <;> rfl
/-! ### The statement on forms -/
theorem key_eq (s : Bytes) : N.key s [] = N.refKey s false := by
  have e : ∀ l, N.keyL [] l = N.refKeyL false l := fun l => by
    induction l with
    | nil => rfl
    | cons w r ih =>
      unfold N.keyL N.refKeyL
      rw [ih, List.any_nil]
      cases w with
      | nil => rfl
      | cons c w => simp only [cond_false, List.length_cons]; simp (disch := omega) only [evs]; rw [show ((c :: w) == []) = false from rfl]; cases N.plain (c :: w) <;> rfl
  unfold N.key N.refKey
  rw [e]
theorem pattern_eq (s : Bytes) : N.key s [[42], [35]] = N.refKey s true := by
  have e : ∀ l, N.keyL [[42], [35]] l = N.refKeyL true l := fun l => by
    induction l with
    | nil => rfl
    | cons w r ih =>
      unfold N.keyL N.refKeyL
      rw [ih, show List.any [[42], [35]] (w == ·) = cond (w == [42]) true (w == [35]) from by
        show ((w == [42]) || ((w == [35]) || false)) = _
        cases w == [42] <;> cases w == [35] <;> rfl]
      cases h : cond (w == [42]) true (w == [35]) with
      | true => simp only [cond_true, Bool.not_true]; cases (cond ((w.length : Int) == 0) true (!N.plain w)) <;> rfl
      | false =>
        cases w with
        | nil => rfl
        | cons c w => simp only [cond_true, cond_false, List.length_cons]; simp (disch := omega) only [evs]; rw [show ((c :: w) == []) = false from rfl]; cases N.plain (c :: w) <;> rfl
  unfold N.key N.refKey
  rw [e]
noncomputable def eWF : Env := env Tryd.prog [(11, dTrueW), (16, dName), (17, dName), (18, dKey), (19, dPattern), (12, dRefKey), (21, dWords), (15, dWords), (20, dEqS)] [] []
theorem q_lawWF (s : Bytes) : evFn eWF 4 ((aOne vStr).enc s) ([]) some =
    cond (ilt (200 : Int) (↑(List.length s) : Int))
      (some { v := V.bool true, bx := [] })
      (cond (N.name s == N.name s)
        (cond (N.key s [] == N.refKey s false)
          (cond (N.key s [[(42 : UInt8)], [(35 : UInt8)]] == N.refKey s true)
            (cond (Nat.ble (List.length s) (1000000 : Nat))
              (cond (Nat.ble (List.length s) (1000000 : Nat))
                (cond (Nat.ble
      (List.length
        (List.map (fun r => V.toStr (List.getD r (0 : Nat) V.undef)) (List.map (fun n => [V.str n]) (N.words s))))
      (1000000 : Nat))
                  (some
      {
        v :=
          V.bool
            (List.map (fun r => V.toStr (List.getD r (0 : Nat) V.undef)) (List.map (fun n => [V.str n]) (N.words s)) ==
              List.map (fun r => V.toStr (List.getD r (0 : Nat) V.undef)) (List.map (fun n => [V.str n]) (N.words s))),
        bx := [] })
                  (none))
                (none))
              (none))
            (some { v := V.bool false, bx := [] }))
          (some { v := V.bool false, bx := [] }))
        (some { v := V.bool false, bx := [] })) := by kernel_rfl
theorem ok_lawWF : FnOk Tryd.prog 4 (den (aOne vStr) bNil (oV vBool) (fun _ _ => true) fun _ _ => (true, ())) := by
  refine den_okF (env_ok ((((((((((TOk.nil _).cons ok_eqS).cons ok_refSplit).cons ok_words).cons ok_refKey).cons ok_pattern).cons ok_key).cons ok_refName).cons ok_name).cons ok_awW)) (E := eWF) Tryd.func4 [] (by kernel_rfl) none0 fun s _ _ => ?_
  refine (q_lawWF s).trans ?_
  show _ = some (⟨.bool true, [], []⟩ : DRes)
  cases h : ilt 200 s.length with
  | true => rfl
  | false =>
    have h := ilt_nof h
    have w1 := (words_small s).1
    have e : ∀ l : List Bytes, (l.map (fun n => [V.str n])).map (fun r => V.toStr (List.getD r 0 V.undef)) = l := fun l => rowsS_enc l
    simp (disch := omega) only [evs, e, key_eq, pattern_eq, beq_self_eq_true]
end Go.Ev
