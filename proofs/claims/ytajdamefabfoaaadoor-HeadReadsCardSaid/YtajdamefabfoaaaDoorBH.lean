/- The program's functions on heads answer what the plain ones do: lemmas; the function that writes numbers is a premise. -/
import Derived.Test.YtajdamefabfoaaaDoorPH
import Derived.Test.YtajdamefabfoaaaDoorL5
import Derived.Test.YtajdamefabfoaaaDoorA1
namespace Go.Ev
open Go Go.Proofs
set_option maxRecDepth 100000

def schEqP : SSch := { fr := [(0, .slc [.str, .int .u8, .int .i64, .str]), (1, .slc [.str, .int .u8, .int .i64, .str]), (12, .int .i64), (13, .int .i64)], tab := [] }
def gEqP : List Leaf → (Ex → St → Option R) → Option R
  | [.r r0, .r r1, .i i12, .i i13], K => cond (i12 == r0.length) (cond (Nat.beq r0.length r1.length) (cond (ile 0 i13) (cond (Nat.ble r0.length (LIM + 1)) (cond (N.samePs ((rowsP r0).drop i13.toNat) ((rowsP r1).drop i13.toNat)) (K (.exit 0) { fr := [], tab := [] }) (K .ret { fr := [(4, .bool false)], tab := [] })) none) none) none) none
  | _, _ => none
noncomputable def eEqP : Env := env Tryd.prog [] [(4, loopF schEqP gEqP)] [(4, [(0, [0, 1, 12, 13]), (1, []), (1000, [4])])]
theorem q_eqP (a b : List HPair) : evFn eEqP 63 ((aCons (vSl cPair) (aOne (vSl cPair))).enc (a, b)) ([]) some =
    cond ((↑(List.length
            (List.map
              (fun p =>
                [V.str (HPair.key p), V.int IntKind.u8 (HPair.kind p), V.int IntKind.i64 (HPair.num p),
                  V.str (HPair.text p)])
              a)) :
        Int) !=
      (↑(List.length
            (List.map
              (fun p =>
                [V.str (HPair.key p), V.int IntKind.u8 (HPair.kind p), V.int IntKind.i64 (HPair.num p),
                  V.str (HPair.text p)])
              b)) :
        Int))
      (some { v := V.bool false, bx := [] : DRes })
      (cond ((↑(List.length
            (List.map
              (fun p =>
                [V.str (HPair.key p), V.int IntKind.u8 (HPair.kind p), V.int IntKind.i64 (HPair.num p),
                  V.str (HPair.text p)])
              a)) :
        Int) ==
      (↑(List.length
            (List.map
              (fun p =>
                [V.str (HPair.key p), V.int IntKind.u8 (HPair.kind p), V.int IntKind.i64 (HPair.num p),
                  V.str (HPair.text p)])
              a)) :
        Int))
        (cond (Nat.beq
      (List.length
        (List.map
          (fun p =>
            [V.str (HPair.key p), V.int IntKind.u8 (HPair.kind p), V.int IntKind.i64 (HPair.num p), V.str (HPair.text p)])
          a))
      (List.length
        (List.map
          (fun p =>
            [V.str (HPair.key p), V.int IntKind.u8 (HPair.kind p), V.int IntKind.i64 (HPair.num p), V.str (HPair.text p)])
          b)))
          (cond (Nat.ble
      (List.length
        (List.map
          (fun p =>
            [V.str (HPair.key p), V.int IntKind.u8 (HPair.kind p), V.int IntKind.i64 (HPair.num p), V.str (HPair.text p)])
          a))
      (1000001 : Nat))
            (cond (N.samePs
      (List.drop (0 : Nat)
        (List.map
          (fun r =>
            { key := V.toStr (List.getD r (0 : Nat) V.undef), kind := V.toInt (List.getD r (1 : Nat) V.undef),
              num := V.toInt (List.getD r (2 : Nat) V.undef), text := V.toStr (List.getD r (3 : Nat) V.undef) : HPair })
          (List.map
            (fun p =>
              [V.str (HPair.key p), V.int IntKind.u8 (HPair.kind p), V.int IntKind.i64 (HPair.num p), V.str (HPair.text p)])
            a)))
      (List.drop (0 : Nat)
        (List.map
          (fun r =>
            { key := V.toStr (List.getD r (0 : Nat) V.undef), kind := V.toInt (List.getD r (1 : Nat) V.undef),
              num := V.toInt (List.getD r (2 : Nat) V.undef), text := V.toStr (List.getD r (3 : Nat) V.undef) : HPair })
          (List.map
            (fun p =>
              [V.str (HPair.key p), V.int IntKind.u8 (HPair.kind p), V.int IntKind.i64 (HPair.num p), V.str (HPair.text p)])
            b))))
              (some { v := V.bool true, bx := [] : DRes })
              (some { v := V.bool false, bx := [] : DRes }))
            (none))
          (none))
        (none)) := by kernel_rfl
theorem q_eqPR (r0 : List (List V)) (r1 : List (List V)) (i12 : Int) (i13 : Int) (K : Ex → St → Option R) : evRound eEqP 63 4 { fr := [(0, .slc [.str, .int .u8, .int .i64, .str] r0), (1, .slc [.str, .int .u8, .int .i64, .str] r1), (12, .int .i64 i12), (13, .int .i64 i13)], tab := [] } K =
    cond (ilt i13 i12)
      (cond (decide ((0 : Int) ≤ i13 ∧ i13 < (↑(List.length r0) : Int)))
        (cond (decide ((0 : Int) ≤ i13 ∧ i13 < (↑(List.length r1) : Int)))
          (cond (!(V.toStr (List.getD (List.getD r0 (Int.toNat i13) []) (0 : Nat) V.undef) ==
          V.toStr (List.getD (List.getD r1 (Int.toNat i13) []) (0 : Nat) V.undef) &&
        (V.toInt (List.getD (List.getD r0 (Int.toNat i13) []) (1 : Nat) V.undef) ==
            V.toInt (List.getD (List.getD r1 (Int.toNat i13) []) (1 : Nat) V.undef) &&
          (V.toInt (List.getD (List.getD r0 (Int.toNat i13) []) (2 : Nat) V.undef) ==
              V.toInt (List.getD (List.getD r1 (Int.toNat i13) []) (2 : Nat) V.undef) &&
            (V.toStr (List.getD (List.getD r0 (Int.toNat i13) []) (3 : Nat) V.undef) ==
                V.toStr (List.getD (List.getD r1 (Int.toNat i13) []) (3 : Nat) V.undef) &&
              true)))))
            (K Ex.ret { fr := [((4 : Nat), V.bool false)], tab := [] : St })
            (K Ex.normal
      {
        fr :=
          [((0 : Nat), V.slc [Sh.str, Sh.int IntKind.u8, Sh.int IntKind.i64, Sh.str] r0),
            ((1 : Nat), V.slc [Sh.str, Sh.int IntKind.u8, Sh.int IntKind.i64, Sh.str] r1),
            ((12 : Nat), V.int IntKind.i64 i12),
            ((13 : Nat), V.int IntKind.i64 (IntKind.wrap IntKind.i64 (i13 + (1 : Int))))],
        tab := [] : St }))
          (none))
        (none))
      (K (Ex.exit (0 : Nat)) { fr := [], tab := [] : St }) := by kernel_rfl
theorem samePs_len : ∀ a b : List HPair, a.length ≠ b.length → N.samePs a b = false
  | [], [], h => absurd rfl h
  | [], _ :: _, _ => rfl
  | _ :: _, [], _ => rfl
  | p :: a, q :: b, h => by
    unfold N.samePs
    rw [samePs_len a b (by simpa using h)]
    cases N.eqP p q <;> rfl
theorem samePs_cons (p q : HPair) (a b : List HPair) : N.samePs (p :: a) (q :: b) = cond (N.eqP p q) (N.samePs a b) false := rfl
theorem ok_eqP : FnOk Tryd.prog 63 dSameP := by
  refine den_okF (env_ok (TOk.nil _)) (E := eEqP) Tryd.func63 [4] (by kernel_rfl) (one1 (rounds_of rfl fun l K q h => ?_)) fun a _ h => ?_
  · unfold gEqP at h
    split at h
    · rename_i r0 r1 n i
      have h1 := (cond_none h).1; replace h := (cond_none h).2; have h2 := (cond_none h).1; replace h := (cond_none h).2; have h3 := (cond_none h).1; replace h := (cond_none h).2; have h4 := (cond_none h).1; replace h := (cond_none h).2
      have e1 := ieq_of h1
      have h2 := Nat.eq_of_beq_eq_true h2
      subst e1
      have h4 : r0.length ≤ 1000001 := ble_of h4
      refine loop_ind (E := eEqP) (f := 63) (id := 4) (fun i : Int => { fr := [(0, .slc [.str, .int .u8, .int .i64, .str] r0), (1, .slc [.str, .int .u8, .int .i64, .str] r1), (12, .int .i64 r0.length), (13, .int .i64 i)], tab := [] }) (fun i => 0 ≤ i) (fun i => r0.length - i.toNat)
        (fun i K => cond (N.samePs ((rowsP r0).drop i.toNat) ((rowsP r1).drop i.toNat)) (K (.exit 0) { fr := [], tab := [] }) (K .ret { fr := [(4, .bool false)], tab := [] })) (fun i hi => ?_) i (ile_of h3) K q (by assumption)
      by_cases hl : i < r0.length
      · rw [drop_pair (show i.toNat < r0.length by omega), drop_pair (show i.toNat < r1.length by omega), samePs_cons]
        cases hc : N.eqP (rowP (r0.getD i.toNat [])) (rowP (r1.getD i.toNat [])) with
        | true =>
          refine .inl ⟨i + 1, by omega, by omega, fun K => ?_, fun K => ?_⟩
          · rw [q_eqPR]
            unfold N.eqP rowP at hc
            simp (disch := omega) only [evs, hc, bne, Bool.not_true]
          · rw [cond_true, show (i + 1).toNat = i.toNat + 1 by omega]
        | false =>
          refine .inr ⟨.ret, { fr := [(4, .bool false)], tab := [] }, by simp, fun K => ?_, fun K => rfl⟩
          rw [q_eqPR]
          unfold N.eqP rowP at hc
          simp (disch := omega) only [evs, hc, bne, Bool.not_false]
      · refine .inr ⟨.exit 0, { fr := [], tab := [] }, by simp, fun K => ?_, fun K => ?_⟩
        · rw [q_eqPR]
          simp (disch := omega) only [evs]
        · rw [List.drop_eq_nil_of_le (by rw [rowsP_length]; omega), List.drop_eq_nil_of_le (by rw [rowsP_length]; omega)]; rfl
    · cases h
  · obtain ⟨a, b⟩ := a
    have h : a.length ≤ 1000000 := ble_of h
    refine (q_eqP a b).trans ?_
    show _ = some (⟨.bool (N.samePs a b), [], []⟩ : DRes)
    by_cases hl : a.length = b.length
    · simp (disch := omega) only [evs, pairs_enc, hl, List.drop_zero]
      cases N.samePs a b <;> rfl
    · rw [samePs_len a b hl]
      simp (disch := omega) only [evs]
def schRefSame : SSch := schEqP
noncomputable def eRefSame : Env := env Tryd.prog [] [(4, loopF schRefSame gEqP)] [(4, [(0, [0, 1, 12, 13]), (1, []), (1000, [4])])]
theorem q_refSame (a b : List HPair) : evFn eRefSame 32 ((aCons (vSl cPair) (aOne (vSl cPair))).enc (a, b)) ([]) some =
    cond ((↑(List.length
            (List.map
              (fun p =>
                [V.str (HPair.key p), V.int IntKind.u8 (HPair.kind p), V.int IntKind.i64 (HPair.num p),
                  V.str (HPair.text p)])
              a)) :
        Int) !=
      (↑(List.length
            (List.map
              (fun p =>
                [V.str (HPair.key p), V.int IntKind.u8 (HPair.kind p), V.int IntKind.i64 (HPair.num p),
                  V.str (HPair.text p)])
              b)) :
        Int))
      (some { v := V.bool false, bx := [] : DRes })
      (cond ((↑(List.length
            (List.map
              (fun p =>
                [V.str (HPair.key p), V.int IntKind.u8 (HPair.kind p), V.int IntKind.i64 (HPair.num p),
                  V.str (HPair.text p)])
              a)) :
        Int) ==
      (↑(List.length
            (List.map
              (fun p =>
                [V.str (HPair.key p), V.int IntKind.u8 (HPair.kind p), V.int IntKind.i64 (HPair.num p),
                  V.str (HPair.text p)])
              a)) :
        Int))
        (cond (Nat.beq
      (List.length
        (List.map
          (fun p =>
            [V.str (HPair.key p), V.int IntKind.u8 (HPair.kind p), V.int IntKind.i64 (HPair.num p), V.str (HPair.text p)])
          a))
      (List.length
        (List.map
          (fun p =>
            [V.str (HPair.key p), V.int IntKind.u8 (HPair.kind p), V.int IntKind.i64 (HPair.num p), V.str (HPair.text p)])
          b)))
          (cond (Nat.ble
      (List.length
        (List.map
          (fun p =>
            [V.str (HPair.key p), V.int IntKind.u8 (HPair.kind p), V.int IntKind.i64 (HPair.num p), V.str (HPair.text p)])
          a))
      (1000001 : Nat))
            (cond (N.samePs
      (List.drop (0 : Nat)
        (List.map
          (fun r =>
            { key := V.toStr (List.getD r (0 : Nat) V.undef), kind := V.toInt (List.getD r (1 : Nat) V.undef),
              num := V.toInt (List.getD r (2 : Nat) V.undef), text := V.toStr (List.getD r (3 : Nat) V.undef) : HPair })
          (List.map
            (fun p =>
              [V.str (HPair.key p), V.int IntKind.u8 (HPair.kind p), V.int IntKind.i64 (HPair.num p), V.str (HPair.text p)])
            a)))
      (List.drop (0 : Nat)
        (List.map
          (fun r =>
            { key := V.toStr (List.getD r (0 : Nat) V.undef), kind := V.toInt (List.getD r (1 : Nat) V.undef),
              num := V.toInt (List.getD r (2 : Nat) V.undef), text := V.toStr (List.getD r (3 : Nat) V.undef) : HPair })
          (List.map
            (fun p =>
              [V.str (HPair.key p), V.int IntKind.u8 (HPair.kind p), V.int IntKind.i64 (HPair.num p), V.str (HPair.text p)])
            b))))
              (some { v := V.bool true, bx := [] : DRes })
              (some { v := V.bool false, bx := [] : DRes }))
            (none))
          (none))
        (none)) := by kernel_rfl
theorem q_refSameR (r0 : List (List V)) (r1 : List (List V)) (i12 : Int) (i13 : Int) (K : Ex → St → Option R) : evRound eRefSame 32 4 { fr := [(0, .slc [.str, .int .u8, .int .i64, .str] r0), (1, .slc [.str, .int .u8, .int .i64, .str] r1), (12, .int .i64 i12), (13, .int .i64 i13)], tab := [] } K =
    cond (ilt i13 i12)
      (cond (decide ((0 : Int) ≤ i13 ∧ i13 < (↑(List.length r0) : Int)))
        (cond (decide ((0 : Int) ≤ i13 ∧ i13 < (↑(List.length r1) : Int)))
          (cond (!(V.toStr (List.getD (List.getD r0 (Int.toNat i13) []) (0 : Nat) V.undef) ==
          V.toStr (List.getD (List.getD r1 (Int.toNat i13) []) (0 : Nat) V.undef) &&
        (V.toInt (List.getD (List.getD r0 (Int.toNat i13) []) (1 : Nat) V.undef) ==
            V.toInt (List.getD (List.getD r1 (Int.toNat i13) []) (1 : Nat) V.undef) &&
          (V.toInt (List.getD (List.getD r0 (Int.toNat i13) []) (2 : Nat) V.undef) ==
              V.toInt (List.getD (List.getD r1 (Int.toNat i13) []) (2 : Nat) V.undef) &&
            (V.toStr (List.getD (List.getD r0 (Int.toNat i13) []) (3 : Nat) V.undef) ==
                V.toStr (List.getD (List.getD r1 (Int.toNat i13) []) (3 : Nat) V.undef) &&
              true)))))
            (K Ex.ret { fr := [((4 : Nat), V.bool false)], tab := [] : St })
            (K Ex.normal
      {
        fr :=
          [((0 : Nat), V.slc [Sh.str, Sh.int IntKind.u8, Sh.int IntKind.i64, Sh.str] r0),
            ((1 : Nat), V.slc [Sh.str, Sh.int IntKind.u8, Sh.int IntKind.i64, Sh.str] r1),
            ((12 : Nat), V.int IntKind.i64 i12),
            ((13 : Nat), V.int IntKind.i64 (IntKind.wrap IntKind.i64 (i13 + (1 : Int))))],
        tab := [] : St }))
          (none))
        (none))
      (K (Ex.exit (0 : Nat)) { fr := [], tab := [] : St }) := by kernel_rfl
theorem ok_refSame : FnOk Tryd.prog 32 dSameP := by
  refine den_okF (env_ok (TOk.nil _)) (E := eRefSame) Tryd.func32 [4] (by kernel_rfl) (one1 (rounds_of rfl fun l K q h => ?_)) fun a _ h => ?_
  · unfold gEqP at h
    split at h
    · rename_i r0 r1 n i
      have h1 := (cond_none h).1; replace h := (cond_none h).2; have h2 := (cond_none h).1; replace h := (cond_none h).2; have h3 := (cond_none h).1; replace h := (cond_none h).2; have h4 := (cond_none h).1; replace h := (cond_none h).2
      have e1 := ieq_of h1
      have h2 := Nat.eq_of_beq_eq_true h2
      subst e1
      have h4 : r0.length ≤ 1000001 := ble_of h4
      refine loop_ind (E := eRefSame) (f := 32) (id := 4) (fun i : Int => { fr := [(0, .slc [.str, .int .u8, .int .i64, .str] r0), (1, .slc [.str, .int .u8, .int .i64, .str] r1), (12, .int .i64 r0.length), (13, .int .i64 i)], tab := [] }) (fun i => 0 ≤ i) (fun i => r0.length - i.toNat)
        (fun i K => cond (N.samePs ((rowsP r0).drop i.toNat) ((rowsP r1).drop i.toNat)) (K (.exit 0) { fr := [], tab := [] }) (K .ret { fr := [(4, .bool false)], tab := [] })) (fun i hi => ?_) i (ile_of h3) K q (by assumption)
      by_cases hl : i < r0.length
      · rw [drop_pair (show i.toNat < r0.length by omega), drop_pair (show i.toNat < r1.length by omega), samePs_cons]
        cases hc : N.eqP (rowP (r0.getD i.toNat [])) (rowP (r1.getD i.toNat [])) with
        | true =>
          refine .inl ⟨i + 1, by omega, by omega, fun K => ?_, fun K => ?_⟩
          · rw [q_refSameR]
            unfold N.eqP rowP at hc
            simp (disch := omega) only [evs, hc, bne, Bool.not_true]
          · rw [cond_true, show (i + 1).toNat = i.toNat + 1 by omega]
        | false =>
          refine .inr ⟨.ret, { fr := [(4, .bool false)], tab := [] }, by simp, fun K => ?_, fun K => rfl⟩
          rw [q_refSameR]
          unfold N.eqP rowP at hc
          simp (disch := omega) only [evs, hc, bne, Bool.not_false]
      · refine .inr ⟨.exit 0, { fr := [], tab := [] }, by simp, fun K => ?_, fun K => ?_⟩
        · rw [q_refSameR]
          simp (disch := omega) only [evs]
        · rw [List.drop_eq_nil_of_le (by rw [rowsP_length]; omega), List.drop_eq_nil_of_le (by rw [rowsP_length]; omega)]; rfl
    · cases h
  · obtain ⟨a, b⟩ := a
    have h : a.length ≤ 1000000 := ble_of h
    refine (q_refSame a b).trans ?_
    show _ = some (⟨.bool (N.samePs a b), [], []⟩ : DRes)
    by_cases hl : a.length = b.length
    · simp (disch := omega) only [evs, pairs_enc, hl, List.drop_zero]
      cases N.samePs a b <;> rfl
    · rw [samePs_len a b hl]
      simp (disch := omega) only [evs]
def schLight : SSch := { fr := [(8, .slc [.str, .int .u8, .int .i64, .str]), (9, .int .i64), (10, .int .i64)], tab := [] }
def gLight : List Leaf → (Ex → St → Option R) → Option R
  | [.r r8, .i i9, .i i10], K => cond (i9 == r8.length) (cond (ile 0 i10) (cond (Nat.ble r8.length LIM) (cond (((rowsP r8).drop i10.toNat).all N.lightP) (K (.exit 0) { fr := [], tab := [] }) (K .ret { fr := [(2, .bool false)], tab := [] })) none) none) none
  | _, _ => none
noncomputable def eLight : Env := env Tryd.prog [] [(4, loopF schLight gLight)] [(4, [(0, [8, 9, 10]), (1, []), (1000, [2])])]
theorem q_light (h : List HPair) : evFn eLight 30 ((aOne (vSl cPair)).enc h) ([]) some =
    cond (ilt (12 : Int)
      (↑(List.length
            (List.map
              (fun p =>
                [V.str (HPair.key p), V.int IntKind.u8 (HPair.kind p), V.int IntKind.i64 (HPair.num p),
                  V.str (HPair.text p)])
              h)) :
        Int))
      (some { v := V.bool false, bx := [] : DRes })
      (cond ((↑(List.length
            (List.map
              (fun p =>
                [V.str (HPair.key p), V.int IntKind.u8 (HPair.kind p), V.int IntKind.i64 (HPair.num p),
                  V.str (HPair.text p)])
              h)) :
        Int) ==
      (↑(List.length
            (List.map
              (fun p =>
                [V.str (HPair.key p), V.int IntKind.u8 (HPair.kind p), V.int IntKind.i64 (HPair.num p),
                  V.str (HPair.text p)])
              h)) :
        Int))
        (cond (Nat.ble
      (List.length
        (List.map
          (fun p =>
            [V.str (HPair.key p), V.int IntKind.u8 (HPair.kind p), V.int IntKind.i64 (HPair.num p), V.str (HPair.text p)])
          h))
      (1000000 : Nat))
          (cond (List.all
      (List.drop (0 : Nat)
        (List.map
          (fun r =>
            { key := V.toStr (List.getD r (0 : Nat) V.undef), kind := V.toInt (List.getD r (1 : Nat) V.undef),
              num := V.toInt (List.getD r (2 : Nat) V.undef), text := V.toStr (List.getD r (3 : Nat) V.undef) : HPair })
          (List.map
            (fun p =>
              [V.str (HPair.key p), V.int IntKind.u8 (HPair.kind p), V.int IntKind.i64 (HPair.num p), V.str (HPair.text p)])
            h)))
      N.lightP)
            (some { v := V.bool true, bx := [] : DRes })
            (some { v := V.bool false, bx := [] : DRes }))
          (none))
        (none)) := by kernel_rfl
theorem q_lightR (r8 : List (List V)) (i9 : Int) (i10 : Int) (K : Ex → St → Option R) : evRound eLight 30 4 { fr := [(8, .slc [.str, .int .u8, .int .i64, .str] r8), (9, .int .i64 i9), (10, .int .i64 i10)], tab := [] } K =
    cond (ilt i10 i9)
      (cond (decide ((0 : Int) ≤ i10 ∧ i10 < (↑(List.length r8) : Int)))
        (cond (ilt (40 : Int) (↑(List.length (V.toStr (List.getD (List.getD r8 (Int.toNat i10) []) (0 : Nat) V.undef))) : Int))
          (K Ex.ret { fr := [((2 : Nat), V.bool false)], tab := [] : St })
          (cond (ilt (100 : Int) (↑(List.length (V.toStr (List.getD (List.getD r8 (Int.toNat i10) []) (3 : Nat) V.undef))) : Int))
            (K Ex.ret { fr := [((2 : Nat), V.bool false)], tab := [] : St })
            (K Ex.normal
      {
        fr :=
          [((8 : Nat), V.slc [Sh.str, Sh.int IntKind.u8, Sh.int IntKind.i64, Sh.str] r8), ((9 : Nat), V.int IntKind.i64 i9),
            ((10 : Nat), V.int IntKind.i64 (IntKind.wrap IntKind.i64 (i10 + (1 : Int))))],
        tab := [] : St })))
        (none))
      (K (Ex.exit (0 : Nat)) { fr := [], tab := [] : St }) := by kernel_rfl
theorem ok_light : FnOk Tryd.prog 30 dLight := by
  refine den_okF (env_ok (TOk.nil _)) (E := eLight) Tryd.func30 [4] (by kernel_rfl) (one1 (rounds_of rfl fun l K q h => ?_)) fun h _ _ => ?_
  · unfold gLight at h
    split at h
    · rename_i r n i
      have h1 := (cond_none h).1; replace h := (cond_none h).2; have h2 := (cond_none h).1; replace h := (cond_none h).2; have h3 := (cond_none h).1; replace h := (cond_none h).2
      have e1 := ieq_of h1
      subst e1
      have h3 : r.length ≤ 1000000 := ble_of h3
      refine loop_ind (E := eLight) (f := 30) (id := 4) (fun i : Int => { fr := [(8, .slc [.str, .int .u8, .int .i64, .str] r), (9, .int .i64 r.length), (10, .int .i64 i)], tab := [] }) (fun i => 0 ≤ i) (fun i => r.length - i.toNat)
        (fun i K => cond (((rowsP r).drop i.toNat).all N.lightP) (K (.exit 0) { fr := [], tab := [] }) (K .ret { fr := [(2, .bool false)], tab := [] })) (fun i hi => ?_) i (ile_of h2) K q (by assumption)
      by_cases hl : i < r.length
      · rw [drop_pair (show i.toNat < r.length by omega), List.all_cons]
        cases hc : N.lightP (rowP (r.getD i.toNat [])) with
        | true =>
          refine .inl ⟨i + 1, by omega, by omega, fun K => ?_, fun K => ?_⟩
          · rw [q_lightR]
            simp (disch := omega) only [evs]
            revert hc
            unfold N.lightP rowP
            cases ilt 40 (V.toStr (List.getD (List.getD r i.toNat []) 0 V.undef)).length <;> cases ilt 100 (V.toStr (List.getD (List.getD r i.toNat []) 3 V.undef)).length <;> intro hc <;> first | rfl | cases hc
          · rw [Bool.true_and, show (i + 1).toNat = i.toNat + 1 by omega]
        | false =>
          refine .inr ⟨.ret, { fr := [(2, .bool false)], tab := [] }, by simp, fun K => ?_, fun K => rfl⟩
          rw [q_lightR]
          simp (disch := omega) only [evs]
          revert hc
          unfold N.lightP rowP
          cases ilt 40 (V.toStr (List.getD (List.getD r i.toNat []) 0 V.undef)).length <;> cases ilt 100 (V.toStr (List.getD (List.getD r i.toNat []) 3 V.undef)).length <;> intro hc <;> first | rfl | cases hc
      · refine .inr ⟨.exit 0, { fr := [], tab := [] }, by simp, fun K => ?_, fun K => ?_⟩
        · rw [q_lightR]
          simp (disch := omega) only [evs]
        · rw [List.drop_eq_nil_of_le (by rw [rowsP_length]; omega)]; rfl
    · cases h
  · refine (q_light h).trans ?_
    show _ = some (⟨.bool (N.light h), [], []⟩ : DRes)
    unfold N.light
    by_cases hl : 12 < h.length
    · simp (disch := omega) only [evs]
    · simp (disch := omega) only [evs, pairs_enc, List.drop_zero]
      cases h.all N.lightP <;> rfl
noncomputable def eFindFn : Env := env Tryd.prog [] [] []
theorem q_findFn (p : HPair) (key : Bytes) : evFn eFindFn 76 ((aCons (vAgg cPair) (aOne (vPtr 0))).enc (p, ())) ((bOne rStr).enc key) some =
    some { v := V.bool (HPair.key p == key), bx := [[V.str key]] : DRes } := by kernel_rfl
theorem ok_findFn : FnOk Tryd.prog 76 dFindFn := den_okF (env_ok (TOk.nil _)) (E := eFindFn) Tryd.func76 [] (by kernel_rfl) none0 fun a key _ => q_findFn a.1 key
def schIxf : SSch := { fr := [(0, .slc [.str, .int .u8, .int .i64, .str]), (1, .fn 76 [] [.ptr 0 0 0]), (7, .int .i64), (8, .int .i64)], tab := [(0, .var [.str])] }
def gIxf : List Leaf → (Ex → St → Option R) → Option R
  | [.r r0, .i i7, .i i8, .s key], K => cond (i7 == r0.length) (cond (ile 0 i8) (cond (Nat.ble r0.length LIM)
      (cond (ile 0 (N.findIx key ((rowsP r0).drop i8.toNat) i8)) (K .ret { fr := [(4, .int .i64 (N.findIx key ((rowsP r0).drop i8.toNat) i8))], tab := [(0, .var [.str key])] }) (K (.exit 0) { fr := [], tab := [(0, .var [.str key])] })) none) none) none
  | _, _ => none
noncomputable def eIxf : Env := env Tryd.prog [(76, dFindFn)] [(2, loopF schIxf gIxf)] [(2, [(0, [0, 1, 7, 8]), (1, []), (1000, [4])])]
theorem q_ixf (h : List HPair) (key : Bytes) : evFn eIxf 75 ((aCons (vSl cPair) (aOne (vFn 76 0))).enc (h, ())) ((bOne rStr).enc key) some =
    cond ((↑(List.length
            (List.map
              (fun p =>
                [V.str (HPair.key p), V.int IntKind.u8 (HPair.kind p), V.int IntKind.i64 (HPair.num p),
                  V.str (HPair.text p)])
              h)) :
        Int) ==
      (↑(List.length
            (List.map
              (fun p =>
                [V.str (HPair.key p), V.int IntKind.u8 (HPair.kind p), V.int IntKind.i64 (HPair.num p),
                  V.str (HPair.text p)])
              h)) :
        Int))
      (cond (Nat.ble
      (List.length
        (List.map
          (fun p =>
            [V.str (HPair.key p), V.int IntKind.u8 (HPair.kind p), V.int IntKind.i64 (HPair.num p), V.str (HPair.text p)])
          h))
      (1000000 : Nat))
        (cond (ile (0 : Int)
      (N.findIx key
        (List.drop (0 : Nat)
          (List.map
            (fun r =>
              { key := V.toStr (List.getD r (0 : Nat) V.undef), kind := V.toInt (List.getD r (1 : Nat) V.undef),
                num := V.toInt (List.getD r (2 : Nat) V.undef), text := V.toStr (List.getD r (3 : Nat) V.undef) : HPair })
            (List.map
              (fun p =>
                [V.str (HPair.key p), V.int IntKind.u8 (HPair.kind p), V.int IntKind.i64 (HPair.num p),
                  V.str (HPair.text p)])
              h)))
        (0 : Int)))
          (some
      {
        v :=
          V.int IntKind.i64
            (N.findIx key
              (List.drop (0 : Nat)
                (List.map
                  (fun r =>
                    { key := V.toStr (List.getD r (0 : Nat) V.undef), kind := V.toInt (List.getD r (1 : Nat) V.undef),
                      num := V.toInt (List.getD r (2 : Nat) V.undef), text := V.toStr (List.getD r (3 : Nat) V.undef) :
                      HPair })
                  (List.map
                    (fun p =>
                      [V.str (HPair.key p), V.int IntKind.u8 (HPair.kind p), V.int IntKind.i64 (HPair.num p),
                        V.str (HPair.text p)])
                    h)))
              (0 : Int)),
        bx := [[V.str key]] : DRes })
          (some { v := V.int IntKind.i64 (-1 : Int), bx := [[V.str key]] : DRes }))
        (none))
      (none) := by kernel_rfl
theorem q_ixfR (r0 : List (List V)) (i7 : Int) (i8 : Int) (sx0 : Bytes) (K : Ex → St → Option R) : evRound eIxf 75 2 { fr := [(0, .slc [.str, .int .u8, .int .i64, .str] r0), (1, .fn 76 [] [.ptr 0 0 0 0]), (7, .int .i64 i7), (8, .int .i64 i8)], tab := [(0, .var [.str sx0])] } K =
    cond (ilt i8 i7)
      (cond (decide ((0 : Int) ≤ i8 ∧ i8 < (↑(List.length r0) : Int)))
        (cond (V.toStr (List.getD (List.getD r0 (Int.toNat i8) []) (0 : Nat) V.undef) == sx0)
          (K Ex.ret { fr := [((4 : Nat), V.int IntKind.i64 i8)], tab := [((0 : Nat), Box.var [V.str sx0])] : St })
          (K Ex.normal
      {
        fr :=
          [((0 : Nat), V.slc [Sh.str, Sh.int IntKind.u8, Sh.int IntKind.i64, Sh.str] r0),
            ((1 : Nat), V.fn (76 : Nat) [] [V.ptr (0 : Nat) (0 : Nat) (0 : Nat) (0 : Nat)]),
            ((7 : Nat), V.int IntKind.i64 i7), ((8 : Nat), V.int IntKind.i64 (IntKind.wrap IntKind.i64 (i8 + (1 : Int))))],
        tab := [((0 : Nat), Box.var [V.str sx0])] : St }))
        (none))
      (K (Ex.exit (0 : Nat)) { fr := [], tab := [((0 : Nat), Box.var [V.str sx0])] : St }) := by kernel_rfl
theorem ok_ixf : FnOk Tryd.prog 75 (dIndexFn 76) := by
  refine den_okF (env_ok ((TOk.nil _).cons ok_findFn)) (E := eIxf) Tryd.func75 [2] (by kernel_rfl) (one1 (rounds_of rfl fun l K q h => ?_)) fun a key h => ?_
  · unfold gIxf at h
    split at h
    · rename_i r n i key
      have h1 := (cond_none h).1; replace h := (cond_none h).2; have h2 := (cond_none h).1; replace h := (cond_none h).2; have h3 := (cond_none h).1; replace h := (cond_none h).2
      have e1 := ieq_of h1
      subst e1
      have h3 : r.length ≤ 1000000 := ble_of h3
      refine loop_ind (E := eIxf) (f := 75) (id := 2) (fun i : Int => { fr := [(0, .slc [.str, .int .u8, .int .i64, .str] r), (1, .fn 76 [] [.ptr 0 0 0 0]), (7, .int .i64 r.length), (8, .int .i64 i)], tab := [(0, .var [.str key])] }) (fun i => 0 ≤ i) (fun i => r.length - i.toNat)
        (fun i8 K => cond (ile 0 (N.findIx key ((rowsP r).drop i8.toNat) i8)) (K .ret { fr := [(4, .int .i64 (N.findIx key ((rowsP r).drop i8.toNat) i8))], tab := [(0, .var [.str key])] }) (K (.exit 0) { fr := [], tab := [(0, .var [.str key])] })) (fun i hi => ?_) i (ile_of h2) K q (by assumption)
      by_cases hl : i < r.length
      · rw [drop_pair (show i.toNat < r.length by omega)]
        have e : N.findIx key (rowP (r.getD i.toNat []) :: (rowsP r).drop (i.toNat + 1)) i = cond ((rowP (r.getD i.toNat [])).key == key) i (N.findIx key ((rowsP r).drop (i.toNat + 1)) (i + 1)) := rfl
        rw [e]
        cases hc : (rowP (r.getD i.toNat [])).key == key with
        | true =>
          rw [cond_true, ile_t hi]
          refine .inr ⟨.ret, _, by simp, fun K => ?_, fun K => rfl⟩
          rw [q_ixfR]
          unfold rowP at hc
          simp (disch := omega) only [evs, hc]
        | false =>
          refine .inl ⟨i + 1, by omega, by omega, fun K => ?_, fun K => ?_⟩
          · rw [q_ixfR]
            unfold rowP at hc
            simp (disch := omega) only [evs, hc]
          · rw [cond_false, show (i + 1).toNat = i.toNat + 1 by omega]
      · refine .inr ⟨.exit 0, { fr := [], tab := [(0, .var [.str key])] }, by simp, fun K => ?_, fun K => ?_⟩
        · rw [q_ixfR]
          simp (disch := omega) only [evs]
        · rw [List.drop_eq_nil_of_le (by rw [rowsP_length]; omega)]; rfl
    · cases h
  · obtain ⟨l, u⟩ := a
    have h : l.length ≤ 1000000 := ble_of h
    refine (q_ixf l key).trans ?_
    show _ = some (⟨.int .i64 (N.findIx key l 0), [[.str key]], []⟩ : DRes)
    simp (disch := omega) only [evs, pairs_enc, List.drop_zero]
    rcases findIx_lt key l 0 (Int.le_refl _) with e | ⟨e, _⟩
    · rw [e]; rfl
    · rw [ile_t e]; rfl
noncomputable def eFind : Env := env Tryd.prog [(75, dIndexFn 76)] [] []
theorem q_find (h : List HPair) (key : Bytes) : evFn eFind 42 ((aCons (vSl cPair) (aOne vStr)).enc (h, key)) ([]) some =
    cond (Nat.ble
      (List.length
        (List.map
          (fun r =>
            { key := V.toStr (List.getD r (0 : Nat) V.undef), kind := V.toInt (List.getD r (1 : Nat) V.undef),
              num := V.toInt (List.getD r (2 : Nat) V.undef), text := V.toStr (List.getD r (3 : Nat) V.undef) : HPair })
          (List.map
            (fun p =>
              [V.str (HPair.key p), V.int IntKind.u8 (HPair.kind p), V.int IntKind.i64 (HPair.num p), V.str (HPair.text p)])
            h)))
      (1000000 : Nat))
      (cond (ilt
      (N.findIx key
        (List.map
          (fun r =>
            { key := V.toStr (List.getD r (0 : Nat) V.undef), kind := V.toInt (List.getD r (1 : Nat) V.undef),
              num := V.toInt (List.getD r (2 : Nat) V.undef), text := V.toStr (List.getD r (3 : Nat) V.undef) : HPair })
          (List.map
            (fun p =>
              [V.str (HPair.key p), V.int IntKind.u8 (HPair.kind p), V.int IntKind.i64 (HPair.num p), V.str (HPair.text p)])
            h))
        (0 : Int))
      (0 : Int))
        (some
      { v := V.tup [V.agg [V.str [], V.int IntKind.u8 (0 : Int), V.int IntKind.i64 (0 : Int), V.str []], V.bool false],
        bx := [] : DRes })
        (cond (decide
      ((0 : Int) ≤
          N.findIx key
            (List.map
              (fun r =>
                { key := V.toStr (List.getD r (0 : Nat) V.undef), kind := V.toInt (List.getD r (1 : Nat) V.undef),
                  num := V.toInt (List.getD r (2 : Nat) V.undef), text := V.toStr (List.getD r (3 : Nat) V.undef) : HPair })
              (List.map
                (fun p =>
                  [V.str (HPair.key p), V.int IntKind.u8 (HPair.kind p), V.int IntKind.i64 (HPair.num p),
                    V.str (HPair.text p)])
                h))
            (0 : Int) ∧
        N.findIx key
            (List.map
              (fun r =>
                { key := V.toStr (List.getD r (0 : Nat) V.undef), kind := V.toInt (List.getD r (1 : Nat) V.undef),
                  num := V.toInt (List.getD r (2 : Nat) V.undef), text := V.toStr (List.getD r (3 : Nat) V.undef) : HPair })
              (List.map
                (fun p =>
                  [V.str (HPair.key p), V.int IntKind.u8 (HPair.kind p), V.int IntKind.i64 (HPair.num p),
                    V.str (HPair.text p)])
                h))
            (0 : Int) <
          (↑(List.length
                (List.map
                  (fun p =>
                    [V.str (HPair.key p), V.int IntKind.u8 (HPair.kind p), V.int IntKind.i64 (HPair.num p),
                      V.str (HPair.text p)])
                  h)) :
            Int)))
          (some
      {
        v :=
          V.tup
            [V.agg
                [V.str
                    (V.toStr
                      (List.getD
                        (List.getD
                          (List.map
                            (fun p =>
                              [V.str (HPair.key p), V.int IntKind.u8 (HPair.kind p), V.int IntKind.i64 (HPair.num p),
                                V.str (HPair.text p)])
                            h)
                          (Int.toNat
                            (N.findIx key
                              (List.map
                                (fun r =>
                                  { key := V.toStr (List.getD r (0 : Nat) V.undef),
                                    kind := V.toInt (List.getD r (1 : Nat) V.undef),
                                    num := V.toInt (List.getD r (2 : Nat) V.undef),
                                    text := V.toStr (List.getD r (3 : Nat) V.undef) : HPair })
                                (List.map
                                  (fun p =>
                                    [V.str (HPair.key p), V.int IntKind.u8 (HPair.kind p), V.int IntKind.i64 (HPair.num p),
                                      V.str (HPair.text p)])
                                  h))
                              (0 : Int)))
                          [])
                        (0 : Nat) V.undef)),
                  V.int IntKind.u8
                    (V.toInt
                      (List.getD
                        (List.getD
                          (List.map
                            (fun p =>
                              [V.str (HPair.key p), V.int IntKind.u8 (HPair.kind p), V.int IntKind.i64 (HPair.num p),
                                V.str (HPair.text p)])
                            h)
                          (Int.toNat
                            (N.findIx key
                              (List.map
                                (fun r =>
                                  { key := V.toStr (List.getD r (0 : Nat) V.undef),
                                    kind := V.toInt (List.getD r (1 : Nat) V.undef),
                                    num := V.toInt (List.getD r (2 : Nat) V.undef),
                                    text := V.toStr (List.getD r (3 : Nat) V.undef) : HPair })
                                (List.map
                                  (fun p =>
                                    [V.str (HPair.key p), V.int IntKind.u8 (HPair.kind p), V.int IntKind.i64 (HPair.num p),
                                      V.str (HPair.text p)])
                                  h))
                              (0 : Int)))
                          [])
                        (1 : Nat) V.undef)),
                  V.int IntKind.i64
                    (V.toInt
                      (List.getD
                        (List.getD
                          (List.map
                            (fun p =>
                              [V.str (HPair.key p), V.int IntKind.u8 (HPair.kind p), V.int IntKind.i64 (HPair.num p),
                                V.str (HPair.text p)])
                            h)
                          (Int.toNat
                            (N.findIx key
                              (List.map
                                (fun r =>
                                  { key := V.toStr (List.getD r (0 : Nat) V.undef),
                                    kind := V.toInt (List.getD r (1 : Nat) V.undef),
                                    num := V.toInt (List.getD r (2 : Nat) V.undef),
                                    text := V.toStr (List.getD r (3 : Nat) V.undef) : HPair })
                                (List.map
                                  (fun p =>
                                    [V.str (HPair.key p), V.int IntKind.u8 (HPair.kind p), V.int IntKind.i64 (HPair.num p),
                                      V.str (HPair.text p)])
                                  h))
                              (0 : Int)))
                          [])
                        (2 : Nat) V.undef)),
                  V.str
                    (V.toStr
                      (List.getD
                        (List.getD
                          (List.map
                            (fun p =>
                              [V.str (HPair.key p), V.int IntKind.u8 (HPair.kind p), V.int IntKind.i64 (HPair.num p),
                                V.str (HPair.text p)])
                            h)
                          (Int.toNat
                            (N.findIx key
                              (List.map
                                (fun r =>
                                  { key := V.toStr (List.getD r (0 : Nat) V.undef),
                                    kind := V.toInt (List.getD r (1 : Nat) V.undef),
                                    num := V.toInt (List.getD r (2 : Nat) V.undef),
                                    text := V.toStr (List.getD r (3 : Nat) V.undef) : HPair })
                                (List.map
                                  (fun p =>
                                    [V.str (HPair.key p), V.int IntKind.u8 (HPair.kind p), V.int IntKind.i64 (HPair.num p),
                                      V.str (HPair.text p)])
                                  h))
                              (0 : Int)))
                          [])
                        (3 : Nat) V.undef))],
              V.bool true],
        bx := [] : DRes })
          (none)))
      (none) := by kernel_rfl
theorem ok_find : FnOk Tryd.prog 42 dFind := by
  refine den_okF (env_ok ((TOk.nil _).cons ok_ixf)) (E := eFind) Tryd.func42 [] (by kernel_rfl) none0 fun a _ h => ?_
  obtain ⟨l, key⟩ := a
  have h : l.length ≤ 1000000 := ble_of h
  refine (q_find l key).trans ?_
  show _ = some (⟨.tup [.agg [.str (N.find l key).1.key, .int .u8 (N.find l key).1.kind, .int .i64 (N.find l key).1.num, .str (N.find l key).1.text], .bool (N.find l key).2], [], []⟩ : DRes)
  unfold N.find
  simp (disch := omega) only [evs, pairs_enc, pairs_get]
  rcases findIx_lt key l 0 (Int.le_refl _) with e | ⟨e1, e2⟩
  · rw [e]; rfl
  · simp (disch := omega) only [evs]
noncomputable def ePairE : Env := env Tryd.prog [(16, dName), (42, dFind)] [] []
theorem q_pairE (p : HPair) (l : List HPair) : evFn ePairE 67 ((aCons (vAgg cPair) (aOne (vSl cPair))).enc (p, l)) ([]) some =
    cond (N.name (HPair.key p) != (0 : Int))
      (some { v := V.int IntKind.i64 (N.name (HPair.key p)), bx := [] : DRes })
      (cond (Nat.ble
      (List.length
        (List.map
          (fun r =>
            { key := V.toStr (List.getD r (0 : Nat) V.undef), kind := V.toInt (List.getD r (1 : Nat) V.undef),
              num := V.toInt (List.getD r (2 : Nat) V.undef), text := V.toStr (List.getD r (3 : Nat) V.undef) : HPair })
          (List.map
            (fun p =>
              [V.str (HPair.key p), V.int IntKind.u8 (HPair.kind p), V.int IntKind.i64 (HPair.num p), V.str (HPair.text p)])
            l)))
      (1000000 : Nat))
        (cond (ilt (2 : Int) (HPair.kind p))
          (some { v := V.int IntKind.i64 (8 : Int), bx := [] : DRes })
          (cond (HPair.kind p == (1 : Int))
            (cond (ilt (64 : Int) (↑(List.length (HPair.text p)) : Int))
              (some { v := V.int IntKind.i64 (5 : Int), bx := [] : DRes })
              (cond (HPair.kind p == (2 : Int))
                (cond (HPair.num p != (0 : Int))
                  (cond (HPair.num p != (1 : Int))
                    (some { v := V.int IntKind.i64 (7 : Int), bx := [] : DRes })
                    (cond (HPair.kind p == (1 : Int))
                      (cond (HPair.num p != (0 : Int))
                        (cond (HPair.num p != (0 : Int))
                          (some { v := V.int IntKind.i64 (4 : Int), bx := [] : DRes })
                          (cond (Prod.snd
      (N.find
        (List.map
          (fun r =>
            { key := V.toStr (List.getD r (0 : Nat) V.undef), kind := V.toInt (List.getD r (1 : Nat) V.undef),
              num := V.toInt (List.getD r (2 : Nat) V.undef), text := V.toStr (List.getD r (3 : Nat) V.undef) : HPair })
          (List.map
            (fun p =>
              [V.str (HPair.key p), V.int IntKind.u8 (HPair.kind p), V.int IntKind.i64 (HPair.num p), V.str (HPair.text p)])
            l))
        (HPair.key p)))
                            (some { v := V.int IntKind.i64 (9 : Int), bx := [] : DRes })
                            (some { v := V.int IntKind.i64 (0 : Int), bx := [] : DRes })))
                        (cond (HPair.kind p != (1 : Int))
                          (cond (!HPair.text p == [])
                            (some { v := V.int IntKind.i64 (4 : Int), bx := [] : DRes })
                            (cond (Prod.snd
      (N.find
        (List.map
          (fun r =>
            { key := V.toStr (List.getD r (0 : Nat) V.undef), kind := V.toInt (List.getD r (1 : Nat) V.undef),
              num := V.toInt (List.getD r (2 : Nat) V.undef), text := V.toStr (List.getD r (3 : Nat) V.undef) : HPair })
          (List.map
            (fun p =>
              [V.str (HPair.key p), V.int IntKind.u8 (HPair.kind p), V.int IntKind.i64 (HPair.num p), V.str (HPair.text p)])
            l))
        (HPair.key p)))
                              (some { v := V.int IntKind.i64 (9 : Int), bx := [] : DRes })
                              (some { v := V.int IntKind.i64 (0 : Int), bx := [] : DRes })))
                          (cond (Prod.snd
      (N.find
        (List.map
          (fun r =>
            { key := V.toStr (List.getD r (0 : Nat) V.undef), kind := V.toInt (List.getD r (1 : Nat) V.undef),
              num := V.toInt (List.getD r (2 : Nat) V.undef), text := V.toStr (List.getD r (3 : Nat) V.undef) : HPair })
          (List.map
            (fun p =>
              [V.str (HPair.key p), V.int IntKind.u8 (HPair.kind p), V.int IntKind.i64 (HPair.num p), V.str (HPair.text p)])
            l))
        (HPair.key p)))
                            (some { v := V.int IntKind.i64 (9 : Int), bx := [] : DRes })
                            (some { v := V.int IntKind.i64 (0 : Int), bx := [] : DRes }))))
                      (cond (HPair.kind p != (1 : Int))
                        (cond (!HPair.text p == [])
                          (some { v := V.int IntKind.i64 (4 : Int), bx := [] : DRes })
                          (cond (Prod.snd
      (N.find
        (List.map
          (fun r =>
            { key := V.toStr (List.getD r (0 : Nat) V.undef), kind := V.toInt (List.getD r (1 : Nat) V.undef),
              num := V.toInt (List.getD r (2 : Nat) V.undef), text := V.toStr (List.getD r (3 : Nat) V.undef) : HPair })
          (List.map
            (fun p =>
              [V.str (HPair.key p), V.int IntKind.u8 (HPair.kind p), V.int IntKind.i64 (HPair.num p), V.str (HPair.text p)])
            l))
        (HPair.key p)))
                            (some { v := V.int IntKind.i64 (9 : Int), bx := [] : DRes })
                            (some { v := V.int IntKind.i64 (0 : Int), bx := [] : DRes })))
                        (cond (Prod.snd
      (N.find
        (List.map
          (fun r =>
            { key := V.toStr (List.getD r (0 : Nat) V.undef), kind := V.toInt (List.getD r (1 : Nat) V.undef),
              num := V.toInt (List.getD r (2 : Nat) V.undef), text := V.toStr (List.getD r (3 : Nat) V.undef) : HPair })
          (List.map
            (fun p =>
              [V.str (HPair.key p), V.int IntKind.u8 (HPair.kind p), V.int IntKind.i64 (HPair.num p), V.str (HPair.text p)])
            l))
        (HPair.key p)))
                          (some { v := V.int IntKind.i64 (9 : Int), bx := [] : DRes })
                          (some { v := V.int IntKind.i64 (0 : Int), bx := [] : DRes })))))
                  (cond (HPair.kind p == (1 : Int))
                    (cond (HPair.num p != (0 : Int))
                      (cond (HPair.num p != (0 : Int))
                        (some { v := V.int IntKind.i64 (4 : Int), bx := [] : DRes })
                        (cond (Prod.snd
      (N.find
        (List.map
          (fun r =>
            { key := V.toStr (List.getD r (0 : Nat) V.undef), kind := V.toInt (List.getD r (1 : Nat) V.undef),
              num := V.toInt (List.getD r (2 : Nat) V.undef), text := V.toStr (List.getD r (3 : Nat) V.undef) : HPair })
          (List.map
            (fun p =>
              [V.str (HPair.key p), V.int IntKind.u8 (HPair.kind p), V.int IntKind.i64 (HPair.num p), V.str (HPair.text p)])
            l))
        (HPair.key p)))
                          (some { v := V.int IntKind.i64 (9 : Int), bx := [] : DRes })
                          (some { v := V.int IntKind.i64 (0 : Int), bx := [] : DRes })))
                      (cond (HPair.kind p != (1 : Int))
                        (cond (!HPair.text p == [])
                          (some { v := V.int IntKind.i64 (4 : Int), bx := [] : DRes })
                          (cond (Prod.snd
      (N.find
        (List.map
          (fun r =>
            { key := V.toStr (List.getD r (0 : Nat) V.undef), kind := V.toInt (List.getD r (1 : Nat) V.undef),
              num := V.toInt (List.getD r (2 : Nat) V.undef), text := V.toStr (List.getD r (3 : Nat) V.undef) : HPair })
          (List.map
            (fun p =>
              [V.str (HPair.key p), V.int IntKind.u8 (HPair.kind p), V.int IntKind.i64 (HPair.num p), V.str (HPair.text p)])
            l))
        (HPair.key p)))
                            (some { v := V.int IntKind.i64 (9 : Int), bx := [] : DRes })
                            (some { v := V.int IntKind.i64 (0 : Int), bx := [] : DRes })))
                        (cond (Prod.snd
      (N.find
        (List.map
          (fun r =>
            { key := V.toStr (List.getD r (0 : Nat) V.undef), kind := V.toInt (List.getD r (1 : Nat) V.undef),
              num := V.toInt (List.getD r (2 : Nat) V.undef), text := V.toStr (List.getD r (3 : Nat) V.undef) : HPair })
          (List.map
            (fun p =>
              [V.str (HPair.key p), V.int IntKind.u8 (HPair.kind p), V.int IntKind.i64 (HPair.num p), V.str (HPair.text p)])
            l))
        (HPair.key p)))
                          (some { v := V.int IntKind.i64 (9 : Int), bx := [] : DRes })
                          (some { v := V.int IntKind.i64 (0 : Int), bx := [] : DRes }))))
                    (cond (HPair.kind p != (1 : Int))
                      (cond (!HPair.text p == [])
                        (some { v := V.int IntKind.i64 (4 : Int), bx := [] : DRes })
                        (cond (Prod.snd
      (N.find
        (List.map
          (fun r =>
            { key := V.toStr (List.getD r (0 : Nat) V.undef), kind := V.toInt (List.getD r (1 : Nat) V.undef),
              num := V.toInt (List.getD r (2 : Nat) V.undef), text := V.toStr (List.getD r (3 : Nat) V.undef) : HPair })
          (List.map
            (fun p =>
              [V.str (HPair.key p), V.int IntKind.u8 (HPair.kind p), V.int IntKind.i64 (HPair.num p), V.str (HPair.text p)])
            l))
        (HPair.key p)))
                          (some { v := V.int IntKind.i64 (9 : Int), bx := [] : DRes })
                          (some { v := V.int IntKind.i64 (0 : Int), bx := [] : DRes })))
                      (cond (Prod.snd
      (N.find
        (List.map
          (fun r =>
            { key := V.toStr (List.getD r (0 : Nat) V.undef), kind := V.toInt (List.getD r (1 : Nat) V.undef),
              num := V.toInt (List.getD r (2 : Nat) V.undef), text := V.toStr (List.getD r (3 : Nat) V.undef) : HPair })
          (List.map
            (fun p =>
              [V.str (HPair.key p), V.int IntKind.u8 (HPair.kind p), V.int IntKind.i64 (HPair.num p), V.str (HPair.text p)])
            l))
        (HPair.key p)))
                        (some { v := V.int IntKind.i64 (9 : Int), bx := [] : DRes })
                        (some { v := V.int IntKind.i64 (0 : Int), bx := [] : DRes })))))
                (cond (HPair.kind p == (1 : Int))
                  (cond (HPair.num p != (0 : Int))
                    (cond (HPair.num p != (0 : Int))
                      (some { v := V.int IntKind.i64 (4 : Int), bx := [] : DRes })
                      (cond (Prod.snd
      (N.find
        (List.map
          (fun r =>
            { key := V.toStr (List.getD r (0 : Nat) V.undef), kind := V.toInt (List.getD r (1 : Nat) V.undef),
              num := V.toInt (List.getD r (2 : Nat) V.undef), text := V.toStr (List.getD r (3 : Nat) V.undef) : HPair })
          (List.map
            (fun p =>
              [V.str (HPair.key p), V.int IntKind.u8 (HPair.kind p), V.int IntKind.i64 (HPair.num p), V.str (HPair.text p)])
            l))
        (HPair.key p)))
                        (some { v := V.int IntKind.i64 (9 : Int), bx := [] : DRes })
                        (some { v := V.int IntKind.i64 (0 : Int), bx := [] : DRes })))
                    (cond (HPair.kind p != (1 : Int))
                      (cond (!HPair.text p == [])
                        (some { v := V.int IntKind.i64 (4 : Int), bx := [] : DRes })
                        (cond (Prod.snd
      (N.find
        (List.map
          (fun r =>
            { key := V.toStr (List.getD r (0 : Nat) V.undef), kind := V.toInt (List.getD r (1 : Nat) V.undef),
              num := V.toInt (List.getD r (2 : Nat) V.undef), text := V.toStr (List.getD r (3 : Nat) V.undef) : HPair })
          (List.map
            (fun p =>
              [V.str (HPair.key p), V.int IntKind.u8 (HPair.kind p), V.int IntKind.i64 (HPair.num p), V.str (HPair.text p)])
            l))
        (HPair.key p)))
                          (some { v := V.int IntKind.i64 (9 : Int), bx := [] : DRes })
                          (some { v := V.int IntKind.i64 (0 : Int), bx := [] : DRes })))
                      (cond (Prod.snd
      (N.find
        (List.map
          (fun r =>
            { key := V.toStr (List.getD r (0 : Nat) V.undef), kind := V.toInt (List.getD r (1 : Nat) V.undef),
              num := V.toInt (List.getD r (2 : Nat) V.undef), text := V.toStr (List.getD r (3 : Nat) V.undef) : HPair })
          (List.map
            (fun p =>
              [V.str (HPair.key p), V.int IntKind.u8 (HPair.kind p), V.int IntKind.i64 (HPair.num p), V.str (HPair.text p)])
            l))
        (HPair.key p)))
                        (some { v := V.int IntKind.i64 (9 : Int), bx := [] : DRes })
                        (some { v := V.int IntKind.i64 (0 : Int), bx := [] : DRes }))))
                  (cond (HPair.kind p != (1 : Int))
                    (cond (!HPair.text p == [])
                      (some { v := V.int IntKind.i64 (4 : Int), bx := [] : DRes })
                      (cond (Prod.snd
      (N.find
        (List.map
          (fun r =>
            { key := V.toStr (List.getD r (0 : Nat) V.undef), kind := V.toInt (List.getD r (1 : Nat) V.undef),
              num := V.toInt (List.getD r (2 : Nat) V.undef), text := V.toStr (List.getD r (3 : Nat) V.undef) : HPair })
          (List.map
            (fun p =>
              [V.str (HPair.key p), V.int IntKind.u8 (HPair.kind p), V.int IntKind.i64 (HPair.num p), V.str (HPair.text p)])
            l))
        (HPair.key p)))
                        (some { v := V.int IntKind.i64 (9 : Int), bx := [] : DRes })
                        (some { v := V.int IntKind.i64 (0 : Int), bx := [] : DRes })))
                    (cond (Prod.snd
      (N.find
        (List.map
          (fun r =>
            { key := V.toStr (List.getD r (0 : Nat) V.undef), kind := V.toInt (List.getD r (1 : Nat) V.undef),
              num := V.toInt (List.getD r (2 : Nat) V.undef), text := V.toStr (List.getD r (3 : Nat) V.undef) : HPair })
          (List.map
            (fun p =>
              [V.str (HPair.key p), V.int IntKind.u8 (HPair.kind p), V.int IntKind.i64 (HPair.num p), V.str (HPair.text p)])
            l))
        (HPair.key p)))
                      (some { v := V.int IntKind.i64 (9 : Int), bx := [] : DRes })
                      (some { v := V.int IntKind.i64 (0 : Int), bx := [] : DRes }))))))
            (cond (HPair.kind p == (2 : Int))
              (cond (HPair.num p != (0 : Int))
                (cond (HPair.num p != (1 : Int))
                  (some { v := V.int IntKind.i64 (7 : Int), bx := [] : DRes })
                  (cond (HPair.kind p == (1 : Int))
                    (cond (HPair.num p != (0 : Int))
                      (cond (HPair.num p != (0 : Int))
                        (some { v := V.int IntKind.i64 (4 : Int), bx := [] : DRes })
                        (cond (Prod.snd
      (N.find
        (List.map
          (fun r =>
            { key := V.toStr (List.getD r (0 : Nat) V.undef), kind := V.toInt (List.getD r (1 : Nat) V.undef),
              num := V.toInt (List.getD r (2 : Nat) V.undef), text := V.toStr (List.getD r (3 : Nat) V.undef) : HPair })
          (List.map
            (fun p =>
              [V.str (HPair.key p), V.int IntKind.u8 (HPair.kind p), V.int IntKind.i64 (HPair.num p), V.str (HPair.text p)])
            l))
        (HPair.key p)))
                          (some { v := V.int IntKind.i64 (9 : Int), bx := [] : DRes })
                          (some { v := V.int IntKind.i64 (0 : Int), bx := [] : DRes })))
                      (cond (HPair.kind p != (1 : Int))
                        (cond (!HPair.text p == [])
                          (some { v := V.int IntKind.i64 (4 : Int), bx := [] : DRes })
                          (cond (Prod.snd
      (N.find
        (List.map
          (fun r =>
            { key := V.toStr (List.getD r (0 : Nat) V.undef), kind := V.toInt (List.getD r (1 : Nat) V.undef),
              num := V.toInt (List.getD r (2 : Nat) V.undef), text := V.toStr (List.getD r (3 : Nat) V.undef) : HPair })
          (List.map
            (fun p =>
              [V.str (HPair.key p), V.int IntKind.u8 (HPair.kind p), V.int IntKind.i64 (HPair.num p), V.str (HPair.text p)])
            l))
        (HPair.key p)))
                            (some { v := V.int IntKind.i64 (9 : Int), bx := [] : DRes })
                            (some { v := V.int IntKind.i64 (0 : Int), bx := [] : DRes })))
                        (cond (Prod.snd
      (N.find
        (List.map
          (fun r =>
            { key := V.toStr (List.getD r (0 : Nat) V.undef), kind := V.toInt (List.getD r (1 : Nat) V.undef),
              num := V.toInt (List.getD r (2 : Nat) V.undef), text := V.toStr (List.getD r (3 : Nat) V.undef) : HPair })
          (List.map
            (fun p =>
              [V.str (HPair.key p), V.int IntKind.u8 (HPair.kind p), V.int IntKind.i64 (HPair.num p), V.str (HPair.text p)])
            l))
        (HPair.key p)))
                          (some { v := V.int IntKind.i64 (9 : Int), bx := [] : DRes })
                          (some { v := V.int IntKind.i64 (0 : Int), bx := [] : DRes }))))
                    (cond (HPair.kind p != (1 : Int))
                      (cond (!HPair.text p == [])
                        (some { v := V.int IntKind.i64 (4 : Int), bx := [] : DRes })
                        (cond (Prod.snd
      (N.find
        (List.map
          (fun r =>
            { key := V.toStr (List.getD r (0 : Nat) V.undef), kind := V.toInt (List.getD r (1 : Nat) V.undef),
              num := V.toInt (List.getD r (2 : Nat) V.undef), text := V.toStr (List.getD r (3 : Nat) V.undef) : HPair })
          (List.map
            (fun p =>
              [V.str (HPair.key p), V.int IntKind.u8 (HPair.kind p), V.int IntKind.i64 (HPair.num p), V.str (HPair.text p)])
            l))
        (HPair.key p)))
                          (some { v := V.int IntKind.i64 (9 : Int), bx := [] : DRes })
                          (some { v := V.int IntKind.i64 (0 : Int), bx := [] : DRes })))
                      (cond (Prod.snd
      (N.find
        (List.map
          (fun r =>
            { key := V.toStr (List.getD r (0 : Nat) V.undef), kind := V.toInt (List.getD r (1 : Nat) V.undef),
              num := V.toInt (List.getD r (2 : Nat) V.undef), text := V.toStr (List.getD r (3 : Nat) V.undef) : HPair })
          (List.map
            (fun p =>
              [V.str (HPair.key p), V.int IntKind.u8 (HPair.kind p), V.int IntKind.i64 (HPair.num p), V.str (HPair.text p)])
            l))
        (HPair.key p)))
                        (some { v := V.int IntKind.i64 (9 : Int), bx := [] : DRes })
                        (some { v := V.int IntKind.i64 (0 : Int), bx := [] : DRes })))))
                (cond (HPair.kind p == (1 : Int))
                  (cond (HPair.num p != (0 : Int))
                    (cond (HPair.num p != (0 : Int))
                      (some { v := V.int IntKind.i64 (4 : Int), bx := [] : DRes })
                      (cond (Prod.snd
      (N.find
        (List.map
          (fun r =>
            { key := V.toStr (List.getD r (0 : Nat) V.undef), kind := V.toInt (List.getD r (1 : Nat) V.undef),
              num := V.toInt (List.getD r (2 : Nat) V.undef), text := V.toStr (List.getD r (3 : Nat) V.undef) : HPair })
          (List.map
            (fun p =>
              [V.str (HPair.key p), V.int IntKind.u8 (HPair.kind p), V.int IntKind.i64 (HPair.num p), V.str (HPair.text p)])
            l))
        (HPair.key p)))
                        (some { v := V.int IntKind.i64 (9 : Int), bx := [] : DRes })
                        (some { v := V.int IntKind.i64 (0 : Int), bx := [] : DRes })))
                    (cond (HPair.kind p != (1 : Int))
                      (cond (!HPair.text p == [])
                        (some { v := V.int IntKind.i64 (4 : Int), bx := [] : DRes })
                        (cond (Prod.snd
      (N.find
        (List.map
          (fun r =>
            { key := V.toStr (List.getD r (0 : Nat) V.undef), kind := V.toInt (List.getD r (1 : Nat) V.undef),
              num := V.toInt (List.getD r (2 : Nat) V.undef), text := V.toStr (List.getD r (3 : Nat) V.undef) : HPair })
          (List.map
            (fun p =>
              [V.str (HPair.key p), V.int IntKind.u8 (HPair.kind p), V.int IntKind.i64 (HPair.num p), V.str (HPair.text p)])
            l))
        (HPair.key p)))
                          (some { v := V.int IntKind.i64 (9 : Int), bx := [] : DRes })
                          (some { v := V.int IntKind.i64 (0 : Int), bx := [] : DRes })))
                      (cond (Prod.snd
      (N.find
        (List.map
          (fun r =>
            { key := V.toStr (List.getD r (0 : Nat) V.undef), kind := V.toInt (List.getD r (1 : Nat) V.undef),
              num := V.toInt (List.getD r (2 : Nat) V.undef), text := V.toStr (List.getD r (3 : Nat) V.undef) : HPair })
          (List.map
            (fun p =>
              [V.str (HPair.key p), V.int IntKind.u8 (HPair.kind p), V.int IntKind.i64 (HPair.num p), V.str (HPair.text p)])
            l))
        (HPair.key p)))
                        (some { v := V.int IntKind.i64 (9 : Int), bx := [] : DRes })
                        (some { v := V.int IntKind.i64 (0 : Int), bx := [] : DRes }))))
                  (cond (HPair.kind p != (1 : Int))
                    (cond (!HPair.text p == [])
                      (some { v := V.int IntKind.i64 (4 : Int), bx := [] : DRes })
                      (cond (Prod.snd
      (N.find
        (List.map
          (fun r =>
            { key := V.toStr (List.getD r (0 : Nat) V.undef), kind := V.toInt (List.getD r (1 : Nat) V.undef),
              num := V.toInt (List.getD r (2 : Nat) V.undef), text := V.toStr (List.getD r (3 : Nat) V.undef) : HPair })
          (List.map
            (fun p =>
              [V.str (HPair.key p), V.int IntKind.u8 (HPair.kind p), V.int IntKind.i64 (HPair.num p), V.str (HPair.text p)])
            l))
        (HPair.key p)))
                        (some { v := V.int IntKind.i64 (9 : Int), bx := [] : DRes })
                        (some { v := V.int IntKind.i64 (0 : Int), bx := [] : DRes })))
                    (cond (Prod.snd
      (N.find
        (List.map
          (fun r =>
            { key := V.toStr (List.getD r (0 : Nat) V.undef), kind := V.toInt (List.getD r (1 : Nat) V.undef),
              num := V.toInt (List.getD r (2 : Nat) V.undef), text := V.toStr (List.getD r (3 : Nat) V.undef) : HPair })
          (List.map
            (fun p =>
              [V.str (HPair.key p), V.int IntKind.u8 (HPair.kind p), V.int IntKind.i64 (HPair.num p), V.str (HPair.text p)])
            l))
        (HPair.key p)))
                      (some { v := V.int IntKind.i64 (9 : Int), bx := [] : DRes })
                      (some { v := V.int IntKind.i64 (0 : Int), bx := [] : DRes })))))
              (cond (HPair.kind p == (1 : Int))
                (cond (HPair.num p != (0 : Int))
                  (cond (HPair.num p != (0 : Int))
                    (some { v := V.int IntKind.i64 (4 : Int), bx := [] : DRes })
                    (cond (Prod.snd
      (N.find
        (List.map
          (fun r =>
            { key := V.toStr (List.getD r (0 : Nat) V.undef), kind := V.toInt (List.getD r (1 : Nat) V.undef),
              num := V.toInt (List.getD r (2 : Nat) V.undef), text := V.toStr (List.getD r (3 : Nat) V.undef) : HPair })
          (List.map
            (fun p =>
              [V.str (HPair.key p), V.int IntKind.u8 (HPair.kind p), V.int IntKind.i64 (HPair.num p), V.str (HPair.text p)])
            l))
        (HPair.key p)))
                      (some { v := V.int IntKind.i64 (9 : Int), bx := [] : DRes })
                      (some { v := V.int IntKind.i64 (0 : Int), bx := [] : DRes })))
                  (cond (HPair.kind p != (1 : Int))
                    (cond (!HPair.text p == [])
                      (some { v := V.int IntKind.i64 (4 : Int), bx := [] : DRes })
                      (cond (Prod.snd
      (N.find
        (List.map
          (fun r =>
            { key := V.toStr (List.getD r (0 : Nat) V.undef), kind := V.toInt (List.getD r (1 : Nat) V.undef),
              num := V.toInt (List.getD r (2 : Nat) V.undef), text := V.toStr (List.getD r (3 : Nat) V.undef) : HPair })
          (List.map
            (fun p =>
              [V.str (HPair.key p), V.int IntKind.u8 (HPair.kind p), V.int IntKind.i64 (HPair.num p), V.str (HPair.text p)])
            l))
        (HPair.key p)))
                        (some { v := V.int IntKind.i64 (9 : Int), bx := [] : DRes })
                        (some { v := V.int IntKind.i64 (0 : Int), bx := [] : DRes })))
                    (cond (Prod.snd
      (N.find
        (List.map
          (fun r =>
            { key := V.toStr (List.getD r (0 : Nat) V.undef), kind := V.toInt (List.getD r (1 : Nat) V.undef),
              num := V.toInt (List.getD r (2 : Nat) V.undef), text := V.toStr (List.getD r (3 : Nat) V.undef) : HPair })
          (List.map
            (fun p =>
              [V.str (HPair.key p), V.int IntKind.u8 (HPair.kind p), V.int IntKind.i64 (HPair.num p), V.str (HPair.text p)])
            l))
        (HPair.key p)))
                      (some { v := V.int IntKind.i64 (9 : Int), bx := [] : DRes })
                      (some { v := V.int IntKind.i64 (0 : Int), bx := [] : DRes }))))
                (cond (HPair.kind p != (1 : Int))
                  (cond (!HPair.text p == [])
                    (some { v := V.int IntKind.i64 (4 : Int), bx := [] : DRes })
                    (cond (Prod.snd
      (N.find
        (List.map
          (fun r =>
            { key := V.toStr (List.getD r (0 : Nat) V.undef), kind := V.toInt (List.getD r (1 : Nat) V.undef),
              num := V.toInt (List.getD r (2 : Nat) V.undef), text := V.toStr (List.getD r (3 : Nat) V.undef) : HPair })
          (List.map
            (fun p =>
              [V.str (HPair.key p), V.int IntKind.u8 (HPair.kind p), V.int IntKind.i64 (HPair.num p), V.str (HPair.text p)])
            l))
        (HPair.key p)))
                      (some { v := V.int IntKind.i64 (9 : Int), bx := [] : DRes })
                      (some { v := V.int IntKind.i64 (0 : Int), bx := [] : DRes })))
                  (cond (Prod.snd
      (N.find
        (List.map
          (fun r =>
            { key := V.toStr (List.getD r (0 : Nat) V.undef), kind := V.toInt (List.getD r (1 : Nat) V.undef),
              num := V.toInt (List.getD r (2 : Nat) V.undef), text := V.toStr (List.getD r (3 : Nat) V.undef) : HPair })
          (List.map
            (fun p =>
              [V.str (HPair.key p), V.int IntKind.u8 (HPair.kind p), V.int IntKind.i64 (HPair.num p), V.str (HPair.text p)])
            l))
        (HPair.key p)))
                    (some { v := V.int IntKind.i64 (9 : Int), bx := [] : DRes })
                    (some { v := V.int IntKind.i64 (0 : Int), bx := [] : DRes })))))))
        (none)) := by kernel_rfl
theorem ok_pairE : FnOk Tryd.prog 67 dPairE := by
  refine den_okF (env_ok (((TOk.nil _).cons ok_find).cons ok_name)) (E := ePairE) Tryd.func67 [] (by kernel_rfl) none0 fun a _ h => ?_
  obtain ⟨p, l⟩ := a
  have h : l.length ≤ 1000000 := ble_of h
  refine (q_pairE p l).trans ?_
  show _ = some (⟨.int .i64 (N.pairE p l), [], []⟩ : DRes)
  unfold N.pairE
  simp (disch := omega) only [evs, pairs_enc, bne]
  cases N.name p.key == 0 with
  | false => rfl
  | true =>
    cases ilt 2 p.kind with
    | true => rfl
    | false =>
      cases h1 : p.kind == 1 <;> cases ilt 64 p.text.length <;> cases p.kind == 2 <;> cases p.num == 0 <;> cases p.num == 1 <;> cases p.text == [] <;> cases (N.find l p.key).2 <;> rfl
def schHeadCheck : SSch := { fr := [(0, .slc [.str, .int .u8, .int .i64, .str]), (9, .slc [.str, .int .u8, .int .i64, .str]), (10, .int .i64), (11, .int .i64)], tab := [] }
def gHeadCheck : List Leaf → (Ex → St → Option R) → Option R
  | [.r r0, .r r9, .i i10, .i i11], K => cond (i10 == r9.length) (cond (Nat.beq r0.length r9.length) (cond (ile 0 i11) (cond (Nat.ble r0.length LIM) (cond (N.samePs (rowsP r0) (rowsP r9))
      (cond (N.checkFrom (rowsP r9) (r9.length - i11.toNat) i11 != 0) (K .ret { fr := [(2, .int .i64 (N.checkFrom (rowsP r9) (r9.length - i11.toNat) i11))], tab := [] }) (K (.exit 0) { fr := [], tab := [] })) none) none) none) none) none
  | _, _ => none
noncomputable def eHeadCheck : Env := env Tryd.prog [(67, dPairE)] [(4, loopF schHeadCheck gHeadCheck)] [(4, [(0, [0, 9, 10, 11]), (1, []), (1000, [2])])]
theorem q_headCheck (h : List HPair) : evFn eHeadCheck 41 ((aOne (vSl cPair)).enc h) ([]) some =
    cond (ilt (8 : Int)
      (↑(List.length
            (List.map
              (fun p =>
                [V.str (HPair.key p), V.int IntKind.u8 (HPair.kind p), V.int IntKind.i64 (HPair.num p),
                  V.str (HPair.text p)])
              h)) :
        Int))
      (some { v := V.int IntKind.i64 (6 : Int), bx := [] : DRes })
      (cond ((↑(List.length
            (List.map
              (fun p =>
                [V.str (HPair.key p), V.int IntKind.u8 (HPair.kind p), V.int IntKind.i64 (HPair.num p),
                  V.str (HPair.text p)])
              h)) :
        Int) ==
      (↑(List.length
            (List.map
              (fun p =>
                [V.str (HPair.key p), V.int IntKind.u8 (HPair.kind p), V.int IntKind.i64 (HPair.num p),
                  V.str (HPair.text p)])
              h)) :
        Int))
        (cond (Nat.beq
      (List.length
        (List.map
          (fun p =>
            [V.str (HPair.key p), V.int IntKind.u8 (HPair.kind p), V.int IntKind.i64 (HPair.num p), V.str (HPair.text p)])
          h))
      (List.length
        (List.map
          (fun p =>
            [V.str (HPair.key p), V.int IntKind.u8 (HPair.kind p), V.int IntKind.i64 (HPair.num p), V.str (HPair.text p)])
          h)))
          (cond (Nat.ble
      (List.length
        (List.map
          (fun p =>
            [V.str (HPair.key p), V.int IntKind.u8 (HPair.kind p), V.int IntKind.i64 (HPair.num p), V.str (HPair.text p)])
          h))
      (1000000 : Nat))
            (cond (N.samePs
      (List.map
        (fun r =>
          { key := V.toStr (List.getD r (0 : Nat) V.undef), kind := V.toInt (List.getD r (1 : Nat) V.undef),
            num := V.toInt (List.getD r (2 : Nat) V.undef), text := V.toStr (List.getD r (3 : Nat) V.undef) : HPair })
        (List.map
          (fun p =>
            [V.str (HPair.key p), V.int IntKind.u8 (HPair.kind p), V.int IntKind.i64 (HPair.num p), V.str (HPair.text p)])
          h))
      (List.map
        (fun r =>
          { key := V.toStr (List.getD r (0 : Nat) V.undef), kind := V.toInt (List.getD r (1 : Nat) V.undef),
            num := V.toInt (List.getD r (2 : Nat) V.undef), text := V.toStr (List.getD r (3 : Nat) V.undef) : HPair })
        (List.map
          (fun p =>
            [V.str (HPair.key p), V.int IntKind.u8 (HPair.kind p), V.int IntKind.i64 (HPair.num p), V.str (HPair.text p)])
          h)))
              (cond (N.checkFrom
        (List.map
          (fun r =>
            { key := V.toStr (List.getD r (0 : Nat) V.undef), kind := V.toInt (List.getD r (1 : Nat) V.undef),
              num := V.toInt (List.getD r (2 : Nat) V.undef), text := V.toStr (List.getD r (3 : Nat) V.undef) : HPair })
          (List.map
            (fun p =>
              [V.str (HPair.key p), V.int IntKind.u8 (HPair.kind p), V.int IntKind.i64 (HPair.num p), V.str (HPair.text p)])
            h))
        (List.length
            (List.map
              (fun p =>
                [V.str (HPair.key p), V.int IntKind.u8 (HPair.kind p), V.int IntKind.i64 (HPair.num p),
                  V.str (HPair.text p)])
              h) -
          (0 : Nat))
        (0 : Int) !=
      (0 : Int))
                (some
      {
        v :=
          V.int IntKind.i64
            (N.checkFrom
              (List.map
                (fun r =>
                  { key := V.toStr (List.getD r (0 : Nat) V.undef), kind := V.toInt (List.getD r (1 : Nat) V.undef),
                    num := V.toInt (List.getD r (2 : Nat) V.undef), text := V.toStr (List.getD r (3 : Nat) V.undef) :
                    HPair })
                (List.map
                  (fun p =>
                    [V.str (HPair.key p), V.int IntKind.u8 (HPair.kind p), V.int IntKind.i64 (HPair.num p),
                      V.str (HPair.text p)])
                  h))
              (List.length
                  (List.map
                    (fun p =>
                      [V.str (HPair.key p), V.int IntKind.u8 (HPair.kind p), V.int IntKind.i64 (HPair.num p),
                        V.str (HPair.text p)])
                    h) -
                (0 : Nat))
              (0 : Int)),
        bx := [] : DRes })
                (some { v := V.int IntKind.i64 (0 : Int), bx := [] : DRes }))
              (none))
            (none))
          (none))
        (none)) := by kernel_rfl
theorem q_headCheckR (r0 : List (List V)) (r9 : List (List V)) (i11 : Int) (K : Ex → St → Option R) : evRound eHeadCheck 41 4 { fr := [(0, .slc [.str, .int .u8, .int .i64, .str] r0), (9, .slc [.str, .int .u8, .int .i64, .str] r9), (10, .int .i64 r9.length), (11, .int .i64 i11)], tab := [] } K =
    cond (ilt i11 (↑(List.length r9) : Int))
      (cond (decide ((0 : Int) ≤ i11 ∧ i11 < (↑(List.length r9) : Int)))
        (cond (decide ((0 : Int) ≤ i11 ∧ i11 ≤ (↑(List.length r0) : Int)))
          (cond (Nat.ble
      (List.length
        (List.map
          (fun r =>
            { key := V.toStr (List.getD r (0 : Nat) V.undef), kind := V.toInt (List.getD r (1 : Nat) V.undef),
              num := V.toInt (List.getD r (2 : Nat) V.undef), text := V.toStr (List.getD r (3 : Nat) V.undef) : HPair })
          (List.drop (0 : Nat) (List.take (Int.toNat i11) r0))))
      (1000000 : Nat))
            (cond (N.pairE
        { key := V.toStr (List.getD (List.getD r9 (Int.toNat i11) []) (0 : Nat) V.undef),
          kind := V.toInt (List.getD (List.getD r9 (Int.toNat i11) []) (1 : Nat) V.undef),
          num := V.toInt (List.getD (List.getD r9 (Int.toNat i11) []) (2 : Nat) V.undef),
          text := V.toStr (List.getD (List.getD r9 (Int.toNat i11) []) (3 : Nat) V.undef) : HPair }
        (List.map
          (fun r =>
            { key := V.toStr (List.getD r (0 : Nat) V.undef), kind := V.toInt (List.getD r (1 : Nat) V.undef),
              num := V.toInt (List.getD r (2 : Nat) V.undef), text := V.toStr (List.getD r (3 : Nat) V.undef) : HPair })
          (List.drop (0 : Nat) (List.take (Int.toNat i11) r0))) !=
      (0 : Int))
              (K Ex.ret
      {
        fr :=
          [((2 : Nat),
              V.int IntKind.i64
                (N.pairE
                  { key := V.toStr (List.getD (List.getD r9 (Int.toNat i11) []) (0 : Nat) V.undef),
                    kind := V.toInt (List.getD (List.getD r9 (Int.toNat i11) []) (1 : Nat) V.undef),
                    num := V.toInt (List.getD (List.getD r9 (Int.toNat i11) []) (2 : Nat) V.undef),
                    text := V.toStr (List.getD (List.getD r9 (Int.toNat i11) []) (3 : Nat) V.undef) : HPair }
                  (List.map
                    (fun r =>
                      { key := V.toStr (List.getD r (0 : Nat) V.undef), kind := V.toInt (List.getD r (1 : Nat) V.undef),
                        num := V.toInt (List.getD r (2 : Nat) V.undef), text := V.toStr (List.getD r (3 : Nat) V.undef) :
                        HPair })
                    (List.drop (0 : Nat) (List.take (Int.toNat i11) r0)))))],
        tab := [] : St })
              (K Ex.normal
      {
        fr :=
          [((0 : Nat), V.slc [Sh.str, Sh.int IntKind.u8, Sh.int IntKind.i64, Sh.str] r0),
            ((9 : Nat), V.slc [Sh.str, Sh.int IntKind.u8, Sh.int IntKind.i64, Sh.str] r9),
            ((10 : Nat), V.int IntKind.i64 (↑(List.length r9) : Int)),
            ((11 : Nat), V.int IntKind.i64 (IntKind.wrap IntKind.i64 (i11 + (1 : Int))))],
        tab := [] : St }))
            (none))
          (none))
        (none))
      (K (Ex.exit (0 : Nat)) { fr := [], tab := [] : St }) := by kernel_rfl
theorem samePs_refl : ∀ l, N.samePs l l = true
  | [] => rfl
  | p :: l => by
    unfold N.samePs N.eqP
    rw [samePs_refl l]; simp
theorem eqP_eq {p q : HPair} (h : N.eqP p q = true) : p = q := by
  unfold N.eqP at h
  simp only [Bool.and_eq_true, beq_iff_eq, and_true] at h
  cases p; cases q; simp_all
theorem samePs_eq : ∀ {a b : List HPair}, N.samePs a b = true → a = b
  | [], [], _ => rfl
  | [], _ :: _, h => by cases h
  | _ :: _, [], h => by cases h
  | p :: a, q :: b, h => by
    unfold N.samePs at h
    cases e : N.eqP p q with
    | true => rw [e, cond_true] at h; rw [eqP_eq e, samePs_eq h]
    | false => rw [e] at h; cases h
theorem ok_headCheck : FnOk Tryd.prog 41 dHeadCheck := by
  refine den_okF (env_ok ((TOk.nil _).cons ok_pairE)) (E := eHeadCheck) Tryd.func41 [4] (by kernel_rfl) (one1 (rounds_of rfl fun l K q h => ?_)) fun h _ _ => ?_
  · unfold gHeadCheck at h
    split at h
    · rename_i r0 r n i
      have h1 := (cond_none h).1; replace h := (cond_none h).2; have h2 := (cond_none h).1; replace h := (cond_none h).2; have h3 := (cond_none h).1; replace h := (cond_none h).2; have h4 := (cond_none h).1; replace h := (cond_none h).2; have h5 := (cond_none h).1; replace h := (cond_none h).2
      have e1 := ieq_of h1
      subst e1
      have h2 := Nat.eq_of_beq_eq_true h2
      have h4 : r0.length ≤ 1000000 := ble_of h4
      have h5 := samePs_eq h5
      refine loop_ind (E := eHeadCheck) (f := 41) (id := 4) (fun i : Int => { fr := [(0, .slc [.str, .int .u8, .int .i64, .str] r0), (9, .slc [.str, .int .u8, .int .i64, .str] r), (10, .int .i64 r.length), (11, .int .i64 i)], tab := [] }) (fun i => 0 ≤ i) (fun i => r.length - i.toNat)
        (fun i11 K => cond (N.checkFrom (rowsP r) (r.length - i11.toNat) i11 != 0) (K .ret { fr := [(2, .int .i64 (N.checkFrom (rowsP r) (r.length - i11.toNat) i11))], tab := [] }) (K (.exit 0) { fr := [], tab := [] })) (fun i hi => ?_) i (ile_of h3) K q (by assumption)
      by_cases hl : i < r.length
      · have e : N.checkFrom (rowsP r) (r.length - i.toNat) i = cond (N.pairE (rowP (r.getD i.toNat [])) ((rowsP r).take i.toNat) != 0) (N.pairE (rowP (r.getD i.toNat [])) ((rowsP r).take i.toNat)) (N.checkFrom (rowsP r) (r.length - (i + 1).toNat) (i + 1)) := by
          rw [show r.length - i.toNat = (r.length - (i + 1).toNat) + 1 by omega, N.checkFrom, rowsP_getD]
        rw [e]
        have hm : List.map rowP (List.take i.toNat r0) = (rowsP r).take i.toNat := by rw [← h5, rowsP, List.map_take]
        unfold rowP at hm
        cases hc : N.pairE (rowP (r.getD i.toNat [])) ((rowsP r).take i.toNat) != 0 with
        | true =>
          rw [cond_true, hc]
          refine .inr ⟨.ret, _, by simp, fun K => ?_, fun K => rfl⟩
          rw [q_headCheckR]
          unfold rowP at hc
          simp (disch := omega) only [evs, hc, hm, List.length_take, List.drop_zero]
          rfl
        | false =>
          refine .inl ⟨i + 1, by omega, by omega, fun K => ?_, fun K => ?_⟩
          · rw [q_headCheckR]
            unfold rowP at hc
            simp (disch := omega) only [evs, hc, hm, List.length_take, List.drop_zero]
          · rw [cond_false]
      · refine .inr ⟨.exit 0, { fr := [], tab := [] }, by simp, fun K => ?_, fun K => ?_⟩
        · rw [q_headCheckR]
          simp (disch := omega) only [evs]
        · rw [show r.length - i.toNat = 0 by omega]; rfl
    · cases h
  · refine (q_headCheck h).trans ?_
    show _ = some (⟨.int .i64 (N.headCheck h), [], []⟩ : DRes)
    unfold N.headCheck
    by_cases hl : 8 < h.length
    · simp (disch := omega) only [evs]
    · simp (disch := omega) only [evs, pairs_enc, samePs_refl, Nat.sub_zero]
      cases hc : N.checkFrom h h.length 0 != 0 with
      | true => rfl
      | false =>
        have : N.checkFrom h h.length 0 = 0 := by simpa using hc
        rw [this]; rfl
def schHeadBytes : SSch := { fr := [(5, .ptr 10000 0 0), (18, .slc [.str, .int .u8, .int .i64, .str]), (19, .int .i64), (20, .int .i64)], tab := [(10000, .var [.str, .int .i64])] }
def gHeadBytes : List Leaf → (Ex → St → Option R) → Option R
  | [.r r, .i n, .i i, .s s, .i e], K => cond (n == r.length) (cond (e == 0) (cond (ile 0 i) (cond (Nat.ble r.length 8) (cond ((rowsP r).all N.fitP) (cond (ile s.length (1 + 150 * i))
      (K (.exit 0) { fr := [(5, .ptr 10000 0 0 0)], tab := [(10000, .var [.str (s ++ N.pairsB ((rowsP r).drop i.toNat)), .int .i64 0])] }) none) none) none) none) none) none
  | _, _ => none
noncomputable def eHeadBytes : Env := env Tryd.prog [(41, dHeadCheck), (72, dOutNum), (73, dOutText), (74, dOutString)] [(6, loopF schHeadBytes gHeadBytes)] [(6, [(0, [5, 18, 19, 20]), (1, [5]), (1000, [2, 3])])]
theorem q_headBytes (h : List HPair) : evFn eHeadBytes 40 ((aOne (vSl cPair)).enc h) ([]) some =
    cond (N.headCheck
        (List.map
          (fun r =>
            { key := V.toStr (List.getD r (0 : Nat) V.undef), kind := V.toInt (List.getD r (1 : Nat) V.undef),
              num := V.toInt (List.getD r (2 : Nat) V.undef), text := V.toStr (List.getD r (3 : Nat) V.undef) : HPair })
          (List.map
            (fun p =>
              [V.str (HPair.key p), V.int IntKind.u8 (HPair.kind p), V.int IntKind.i64 (HPair.num p), V.str (HPair.text p)])
            h)) !=
      (0 : Int))
      (some
      {
        v :=
          V.tup
            [V.str [],
              V.int IntKind.i64
                (N.headCheck
                  (List.map
                    (fun r =>
                      { key := V.toStr (List.getD r (0 : Nat) V.undef), kind := V.toInt (List.getD r (1 : Nat) V.undef),
                        num := V.toInt (List.getD r (2 : Nat) V.undef), text := V.toStr (List.getD r (3 : Nat) V.undef) :
                        HPair })
                    (List.map
                      (fun p =>
                        [V.str (HPair.key p), V.int IntKind.u8 (HPair.kind p), V.int IntKind.i64 (HPair.num p),
                          V.str (HPair.text p)])
                      h)))],
        bx := [] : DRes })
      (cond (bif
        ilt
          (IntKind.wrap IntKind.u64
            (↑(List.length
                  (List.map
                    (fun p =>
                      [V.str (HPair.key p), V.int IntKind.u8 (HPair.kind p), V.int IntKind.i64 (HPair.num p),
                        V.str (HPair.text p)])
                    h)) :
              Int))
          (18446744073709551616 : Int) then
      true
    else false)
        (cond ((↑(List.length
            (List.map
              (fun p =>
                [V.str (HPair.key p), V.int IntKind.u8 (HPair.kind p), V.int IntKind.i64 (HPair.num p),
                  V.str (HPair.text p)])
              h)) :
        Int) ==
      (↑(List.length
            (List.map
              (fun p =>
                [V.str (HPair.key p), V.int IntKind.u8 (HPair.kind p), V.int IntKind.i64 (HPair.num p),
                  V.str (HPair.text p)])
              h)) :
        Int))
          (cond (Nat.ble
      (List.length
        (List.map
          (fun p =>
            [V.str (HPair.key p), V.int IntKind.u8 (HPair.kind p), V.int IntKind.i64 (HPair.num p), V.str (HPair.text p)])
          h))
      (8 : Nat))
            (cond (List.all
      (List.map
        (fun r =>
          { key := V.toStr (List.getD r (0 : Nat) V.undef), kind := V.toInt (List.getD r (1 : Nat) V.undef),
            num := V.toInt (List.getD r (2 : Nat) V.undef), text := V.toStr (List.getD r (3 : Nat) V.undef) : HPair })
        (List.map
          (fun p =>
            [V.str (HPair.key p), V.int IntKind.u8 (HPair.kind p), V.int IntKind.i64 (HPair.num p), V.str (HPair.text p)])
          h))
      N.fitP)
              (some
      {
        v :=
          V.tup
            [V.str
                (OutS.s
                    (N.outNum { s := [], err := (0 : Int) : OutS }
                      (IntKind.wrap IntKind.u64
                        (↑(List.length
                              (List.map
                                (fun p =>
                                  [V.str (HPair.key p), V.int IntKind.u8 (HPair.kind p), V.int IntKind.i64 (HPair.num p),
                                    V.str (HPair.text p)])
                                h)) :
                          Int))
                      (1 : Int)) ++
                  N.pairsB
                    (List.drop (0 : Nat)
                      (List.map
                        (fun r =>
                          { key := V.toStr (List.getD r (0 : Nat) V.undef), kind := V.toInt (List.getD r (1 : Nat) V.undef),
                            num := V.toInt (List.getD r (2 : Nat) V.undef),
                            text := V.toStr (List.getD r (3 : Nat) V.undef) : HPair })
                        (List.map
                          (fun p =>
                            [V.str (HPair.key p), V.int IntKind.u8 (HPair.kind p), V.int IntKind.i64 (HPair.num p),
                              V.str (HPair.text p)])
                          h)))),
              V.int IntKind.i64 (0 : Int)],
        bx := [] : DRes })
              (none))
            (none))
          (none))
        (none)) := by kernel_rfl
theorem q_headBytesR (r : List (List V)) (i : Int) (s : Bytes) (K : Ex → St → Option R) : evRound eHeadBytes 40 6 { fr := [(5, .ptr 10000 0 0 0), (18, .slc [.str, .int .u8, .int .i64, .str] r), (19, .int .i64 r.length), (20, .int .i64 i)], tab := [(10000, .var [.str s, .int .i64 0])] } K =
    cond (ilt i (↑(List.length r) : Int))
      (cond (decide ((0 : Int) ≤ i ∧ i < (↑(List.length r) : Int)))
        (cond (Nat.ble (List.length s + List.length (V.toStr (List.getD (List.getD r (Int.toNat i) []) (0 : Nat) V.undef)))
      (9223372036854775790 : Nat))
          (cond (bif ile (0 : Int) (IntKind.wrap IntKind.u64 (V.toInt (List.getD (List.getD r (Int.toNat i) []) (1 : Nat) V.undef))) then
      bif
          ilt (IntKind.wrap IntKind.u64 (V.toInt (List.getD (List.getD r (Int.toNat i) []) (1 : Nat) V.undef)))
            (18446744073709551616 : Int) then
        Nat.ble
          (List.length
            (OutS.s
              (N.outText { s := s, err := (0 : Int) : OutS }
                (V.toStr (List.getD (List.getD r (Int.toNat i) []) (0 : Nat) V.undef)))))
          (9223372036854775799 : Nat)
      else false
    else false)
            (cond (V.toInt (List.getD (List.getD r (Int.toNat i) []) (1 : Nat) V.undef) == (0 : Int))
              (cond (bif ile (0 : Int) (IntKind.wrap IntKind.u64 (V.toInt (List.getD (List.getD r (Int.toNat i) []) (2 : Nat) V.undef))) then
      bif
          ilt (IntKind.wrap IntKind.u64 (V.toInt (List.getD (List.getD r (Int.toNat i) []) (2 : Nat) V.undef)))
            (18446744073709551616 : Int) then
        Nat.ble
          (List.length
            (OutS.s
              (N.outNum
                (N.outText { s := s, err := (0 : Int) : OutS }
                  (V.toStr (List.getD (List.getD r (Int.toNat i) []) (0 : Nat) V.undef)))
                (IntKind.wrap IntKind.u64 (V.toInt (List.getD (List.getD r (Int.toNat i) []) (1 : Nat) V.undef)))
                (1 : Int))))
          (9223372036854775799 : Nat)
      else false
    else false)
                (K Ex.normal
      {
        fr :=
          [((5 : Nat), V.ptr (10000 : Nat) (0 : Nat) (0 : Nat) (0 : Nat)),
            ((18 : Nat), V.slc [Sh.str, Sh.int IntKind.u8, Sh.int IntKind.i64, Sh.str] r),
            ((19 : Nat), V.int IntKind.i64 (↑(List.length r) : Int)),
            ((20 : Nat), V.int IntKind.i64 (IntKind.wrap IntKind.i64 (i + (1 : Int))))],
        tab :=
          [((10000 : Nat),
              Box.var
                [V.str
                    (OutS.s
                      (N.outNum
                        (N.outNum
                          (N.outText { s := s, err := (0 : Int) : OutS }
                            (V.toStr (List.getD (List.getD r (Int.toNat i) []) (0 : Nat) V.undef)))
                          (IntKind.wrap IntKind.u64 (V.toInt (List.getD (List.getD r (Int.toNat i) []) (1 : Nat) V.undef)))
                          (1 : Int))
                        (IntKind.wrap IntKind.u64 (V.toInt (List.getD (List.getD r (Int.toNat i) []) (2 : Nat) V.undef)))
                        (8 : Int))),
                  V.int IntKind.i64
                    (OutS.err
                      (N.outNum
                        (N.outNum
                          (N.outText { s := s, err := (0 : Int) : OutS }
                            (V.toStr (List.getD (List.getD r (Int.toNat i) []) (0 : Nat) V.undef)))
                          (IntKind.wrap IntKind.u64 (V.toInt (List.getD (List.getD r (Int.toNat i) []) (1 : Nat) V.undef)))
                          (1 : Int))
                        (IntKind.wrap IntKind.u64 (V.toInt (List.getD (List.getD r (Int.toNat i) []) (2 : Nat) V.undef)))
                        (8 : Int)))])] :
        St })
                (none))
              (cond (V.toInt (List.getD (List.getD r (Int.toNat i) []) (1 : Nat) V.undef) == (1 : Int))
                (cond (Nat.ble
      (List.length
          (OutS.s
            (N.outNum
              (N.outText { s := s, err := (0 : Int) : OutS }
                (V.toStr (List.getD (List.getD r (Int.toNat i) []) (0 : Nat) V.undef)))
              (IntKind.wrap IntKind.u64 (V.toInt (List.getD (List.getD r (Int.toNat i) []) (1 : Nat) V.undef)))
              (1 : Int))) +
        List.length (V.toStr (List.getD (List.getD r (Int.toNat i) []) (3 : Nat) V.undef)))
      (9223372036854775790 : Nat))
                  (K Ex.normal
      {
        fr :=
          [((5 : Nat), V.ptr (10000 : Nat) (0 : Nat) (0 : Nat) (0 : Nat)),
            ((18 : Nat), V.slc [Sh.str, Sh.int IntKind.u8, Sh.int IntKind.i64, Sh.str] r),
            ((19 : Nat), V.int IntKind.i64 (↑(List.length r) : Int)),
            ((20 : Nat), V.int IntKind.i64 (IntKind.wrap IntKind.i64 (i + (1 : Int))))],
        tab :=
          [((10000 : Nat),
              Box.var
                [V.str
                    (OutS.s
                      (N.outText
                        (N.outNum
                          (N.outText { s := s, err := (0 : Int) : OutS }
                            (V.toStr (List.getD (List.getD r (Int.toNat i) []) (0 : Nat) V.undef)))
                          (IntKind.wrap IntKind.u64 (V.toInt (List.getD (List.getD r (Int.toNat i) []) (1 : Nat) V.undef)))
                          (1 : Int))
                        (V.toStr (List.getD (List.getD r (Int.toNat i) []) (3 : Nat) V.undef)))),
                  V.int IntKind.i64
                    (OutS.err
                      (N.outText
                        (N.outNum
                          (N.outText { s := s, err := (0 : Int) : OutS }
                            (V.toStr (List.getD (List.getD r (Int.toNat i) []) (0 : Nat) V.undef)))
                          (IntKind.wrap IntKind.u64 (V.toInt (List.getD (List.getD r (Int.toNat i) []) (1 : Nat) V.undef)))
                          (1 : Int))
                        (V.toStr (List.getD (List.getD r (Int.toNat i) []) (3 : Nat) V.undef))))])] :
        St })
                  (none))
                (cond (V.toInt (List.getD (List.getD r (Int.toNat i) []) (1 : Nat) V.undef) == (2 : Int))
                  (cond (bif ile (0 : Int) (IntKind.wrap IntKind.u64 (V.toInt (List.getD (List.getD r (Int.toNat i) []) (2 : Nat) V.undef))) then
      bif
          ilt (IntKind.wrap IntKind.u64 (V.toInt (List.getD (List.getD r (Int.toNat i) []) (2 : Nat) V.undef)))
            (18446744073709551616 : Int) then
        Nat.ble
          (List.length
            (OutS.s
              (N.outNum
                (N.outText { s := s, err := (0 : Int) : OutS }
                  (V.toStr (List.getD (List.getD r (Int.toNat i) []) (0 : Nat) V.undef)))
                (IntKind.wrap IntKind.u64 (V.toInt (List.getD (List.getD r (Int.toNat i) []) (1 : Nat) V.undef)))
                (1 : Int))))
          (9223372036854775799 : Nat)
      else false
    else false)
                    (K Ex.normal
      {
        fr :=
          [((5 : Nat), V.ptr (10000 : Nat) (0 : Nat) (0 : Nat) (0 : Nat)),
            ((18 : Nat), V.slc [Sh.str, Sh.int IntKind.u8, Sh.int IntKind.i64, Sh.str] r),
            ((19 : Nat), V.int IntKind.i64 (↑(List.length r) : Int)),
            ((20 : Nat), V.int IntKind.i64 (IntKind.wrap IntKind.i64 (i + (1 : Int))))],
        tab :=
          [((10000 : Nat),
              Box.var
                [V.str
                    (OutS.s
                      (N.outNum
                        (N.outNum
                          (N.outText { s := s, err := (0 : Int) : OutS }
                            (V.toStr (List.getD (List.getD r (Int.toNat i) []) (0 : Nat) V.undef)))
                          (IntKind.wrap IntKind.u64 (V.toInt (List.getD (List.getD r (Int.toNat i) []) (1 : Nat) V.undef)))
                          (1 : Int))
                        (IntKind.wrap IntKind.u64 (V.toInt (List.getD (List.getD r (Int.toNat i) []) (2 : Nat) V.undef)))
                        (1 : Int))),
                  V.int IntKind.i64
                    (OutS.err
                      (N.outNum
                        (N.outNum
                          (N.outText { s := s, err := (0 : Int) : OutS }
                            (V.toStr (List.getD (List.getD r (Int.toNat i) []) (0 : Nat) V.undef)))
                          (IntKind.wrap IntKind.u64 (V.toInt (List.getD (List.getD r (Int.toNat i) []) (1 : Nat) V.undef)))
                          (1 : Int))
                        (IntKind.wrap IntKind.u64 (V.toInt (List.getD (List.getD r (Int.toNat i) []) (2 : Nat) V.undef)))
                        (1 : Int)))])] :
        St })
                    (none))
                  (K Ex.normal
      {
        fr :=
          [((5 : Nat), V.ptr (10000 : Nat) (0 : Nat) (0 : Nat) (0 : Nat)),
            ((18 : Nat), V.slc [Sh.str, Sh.int IntKind.u8, Sh.int IntKind.i64, Sh.str] r),
            ((19 : Nat), V.int IntKind.i64 (↑(List.length r) : Int)),
            ((20 : Nat), V.int IntKind.i64 (IntKind.wrap IntKind.i64 (i + (1 : Int))))],
        tab :=
          [((10000 : Nat),
              Box.var
                [V.str
                    (OutS.s
                      (N.outNum
                        (N.outText { s := s, err := (0 : Int) : OutS }
                          (V.toStr (List.getD (List.getD r (Int.toNat i) []) (0 : Nat) V.undef)))
                        (IntKind.wrap IntKind.u64 (V.toInt (List.getD (List.getD r (Int.toNat i) []) (1 : Nat) V.undef)))
                        (1 : Int))),
                  V.int IntKind.i64
                    (OutS.err
                      (N.outNum
                        (N.outText { s := s, err := (0 : Int) : OutS }
                          (V.toStr (List.getD (List.getD r (Int.toNat i) []) (0 : Nat) V.undef)))
                        (IntKind.wrap IntKind.u64 (V.toInt (List.getD (List.getD r (Int.toNat i) []) (1 : Nat) V.undef)))
                        (1 : Int)))])] :
        St }))))
            (none))
          (none))
        (none))
      (K (Ex.exit (0 : Nat))
      { fr := [((5 : Nat), V.ptr (10000 : Nat) (0 : Nat) (0 : Nat) (0 : Nat))],
        tab := [((10000 : Nat), Box.var [V.str s, V.int IntKind.i64 (0 : Int)])] : St }) := by kernel_rfl
theorem pairE_fit {p : HPair} {l : List HPair} (h : N.pairE p l = 0) : N.fitP p = true := by
  unfold N.pairE at h
  cases h1 : N.name p.key != 0 with
  | true => rw [h1, cond_true] at h; rw [h] at h1; cases h1
  | false =>
    have hk : p.key.length ≤ 16 := by
      unfold N.name at h1
      cases e1 : p.key == [] with
      | true => rw [e1] at h1; cases h1
      | false =>
        rw [e1] at h1
        cases e2 : ilt 16 p.key.length with
        | true => rw [e2] at h1; cases h1
        | false => have := ilt_nof e2; omega
    rw [h1] at h
    simp only [cond_false, bne] at h
    have ht : p.text.length ≤ 64 := by
      cases h2 : ilt 2 p.kind with
      | true => rw [h2] at h; cases h
      | false =>
        rw [h2] at h
        cases e1 : p.kind == 1 with
        | true =>
          rw [e1] at h
          cases e2 : ilt 64 p.text.length with
          | true => rw [e2] at h; cases h
          | false => have := ilt_nof e2; omega
        | false =>
          rw [e1] at h
          cases e2 : p.text == [] with
          | true => have : p.text = [] := by simpa using e2
                    rw [this]; exact Nat.zero_le _
          | false =>
            rw [e2] at h
            simp only [cond_false, cond_true, Bool.not_false] at h
            revert h
            cases (cond (cond (p.kind == 2) (!p.num == 0) false) (!p.num == 1) false) <;> intro h <;> cases h
    show cond (Nat.ble p.key.length 64) (Nat.ble p.text.length 64) false = true
    rw [ble_t (by omega), ble_t ht]; rfl
theorem checkFrom_fit (h : List HPair) : ∀ (f : Nat) (i : Int), 0 ≤ i → N.checkFrom h f i = 0 → ∀ j : Nat, i ≤ j → (j : Int) < i + f → N.fitP (h.getD j pair0) = true
  | 0, i, _, _, j, h1, h2 => by omega
  | f + 1, i, h0, hc, j, h1, h2 => by
    unfold N.checkFrom at hc
    cases e : N.pairE (h.getD i.toNat pair0) (h.take i.toNat) != 0 with
    | true => rw [e, cond_true] at hc; rw [hc] at e; cases e
    | false =>
      rw [e] at hc
      by_cases hj : (j : Int) = i
      · have : j = i.toNat := by omega
        rw [this]; exact pairE_fit (by simpa using e)
      · exact checkFrom_fit h f (i + 1) (by omega) hc j (by omega) (by omega)
theorem check_fit {h : List HPair} (hz : N.headCheck h = 0) : h.length ≤ 8 ∧ h.all N.fitP = true := by
  unfold N.headCheck at hz
  cases e : ilt 8 h.length with
  | true => rw [e] at hz; cases hz
  | false =>
    have e' := ilt_nof e
    rw [e] at hz
    refine ⟨by omega, List.all_eq_true.2 fun p hp => ?_⟩
    obtain ⟨j, hj, rfl⟩ := List.getElem_of_mem hp
    have := checkFrom_fit h h.length 0 (Int.le_refl _) hz j (by omega) (by omega)
    rwa [List.getD_eq_getElem?_getD, List.getElem?_eq_getElem hj] at this
theorem wu64 (x : Int) : 0 ≤ IntKind.wrap .u64 x ∧ IntKind.wrap .u64 x < 18446744073709551616 := by
  simp only [IntKind.wrap, IntKind.signed, IntKind.bits]
  simp
  omega
theorem numB_len (n : Int) : ∀ k, (N.numB n k).length = k
  | 0 => rfl
  | k + 1 => by simp [N.numB, numB_len n k]
theorem textB_len (s : Bytes) : (N.textB s).length = 2 + s.length := by unfold N.textB; rw [List.length_append, numB_len]
theorem outText_le {x s : Bytes} (h : s.length ≤ 65535) : N.outText ⟨x, 0⟩ s = ⟨x ++ N.textB s, 0⟩ := by
  unfold N.outText
  rw [ilt_f (by omega)]
  show (⟨x ++ N.numB s.length 2 ++ s, 0⟩ : OutS) = _
  unfold N.textB; rw [List.append_assoc]
theorem outNum_1 (x : Bytes) (n : Int) : N.outNum ⟨x, 0⟩ n 1 = ⟨x ++ N.numB n 1, 0⟩ := rfl
theorem outNum_8 (x : Bytes) (n : Int) : N.outNum ⟨x, 0⟩ n 8 = ⟨x ++ N.numB n 8, 0⟩ := rfl
theorem ok_headBytes (hN : FnOk Tryd.prog 72 dOutNum) : FnOk Tryd.prog 40 dHeadBytes := by
  refine den_okF (env_ok (((((TOk.nil _).cons ok_outString).cons (ok_outText hN)).cons hN).cons ok_headCheck)) (E := eHeadBytes) Tryd.func40 [6] (by kernel_rfl) (one1 (rounds_of rfl fun l K q h => ?_)) fun h _ _ => ?_
  · unfold gHeadBytes at h
    split at h
    · rename_i r n i s e
      have h1 := (cond_none h).1; replace h := (cond_none h).2; have h2 := (cond_none h).1; replace h := (cond_none h).2; have h3 := (cond_none h).1; replace h := (cond_none h).2; have h4 := (cond_none h).1; replace h := (cond_none h).2; have h5 := (cond_none h).1; replace h := (cond_none h).2; have h6 := (cond_none h).1; replace h := (cond_none h).2
      have e1 := ieq_of h1
      have e2 := ieq_of h2
      subst e1 e2
      have h4 : r.length ≤ 8 := ble_of h4
      refine loop_ind (E := eHeadBytes) (f := 40) (id := 6) (σ := Int × Bytes) (fun x => { fr := [(5, .ptr 10000 0 0 0), (18, .slc [.str, .int .u8, .int .i64, .str] r), (19, .int .i64 r.length), (20, .int .i64 x.1)], tab := [(10000, .var [.str x.2, .int .i64 0])] })
        (fun x => 0 ≤ x.1 ∧ (x.2.length : Int) ≤ 1 + 150 * x.1) (fun x => r.length - x.1.toNat)
        (fun x K => K (.exit 0) { fr := [(5, .ptr 10000 0 0 0)], tab := [(10000, .var [.str (x.2 ++ N.pairsB ((rowsP r).drop x.1.toNat)), .int .i64 0])] }) ?_ (i, s) ⟨ile_of h3, ile_of h6⟩ K q (by assumption)
      rintro ⟨i, s⟩ ⟨hi, hs⟩
      simp only at hi hs ⊢
      by_cases hl : i < r.length
      · have hlt : i.toNat < r.length := by omega
        have hfit : N.fitP (rowP (r.getD i.toNat [])) = true := List.all_eq_true.1 h5 _ (by
          rw [List.getD_eq_getElem?_getD, List.getElem?_eq_getElem hlt]; exact List.mem_map_of_mem (List.getElem_mem _))
        obtain ⟨f1, f2⟩ := bcond hfit
        have f1 : (V.toStr (List.getD (List.getD r i.toNat []) 0 V.undef)).length ≤ 64 := ble_of f1
        have f2 : (V.toStr (List.getD (List.getD r i.toNat []) 3 V.undef)).length ≤ 64 := ble_of f2
        have u1 := wu64 (V.toInt (List.getD (List.getD r i.toNat []) 1 V.undef))
        have u2 := wu64 (V.toInt (List.getD (List.getD r i.toNat []) 2 V.undef))
        have o1 : N.outText ⟨s, 0⟩ (V.toStr (List.getD (List.getD r i.toNat []) 0 V.undef)) = ⟨s ++ N.textB (V.toStr (List.getD (List.getD r i.toNat []) 0 V.undef)), 0⟩ := outText_le (by omega)
        have o2 : ∀ x : Bytes, N.outText ⟨x, 0⟩ (V.toStr (List.getD (List.getD r i.toNat []) 3 V.undef)) = ⟨x ++ N.textB (V.toStr (List.getD (List.getD r i.toNat []) 3 V.undef)), 0⟩ := fun x => outText_le (by omega)
        rw [drop_pair hlt]
        have e : N.pairsB (rowP (r.getD i.toNat []) :: (rowsP r).drop (i.toNat + 1)) = N.pairB (rowP (r.getD i.toNat [])) ++ N.pairsB ((rowsP r).drop (i.toNat + 1)) := rfl
        rw [e, ← List.append_assoc]
        have hlen : (N.pairB (rowP (r.getD i.toNat []))).length ≤ 150 := by
          unfold N.pairB rowP
          simp only [List.length_append, textB_len, numB_len]
          cases V.toInt (List.getD (List.getD r i.toNat []) 1 V.undef) == 0 <;> cases V.toInt (List.getD (List.getD r i.toNat []) 1 V.undef) == 1 <;> cases V.toInt (List.getD (List.getD r i.toNat []) 1 V.undef) == 2 <;> simp only [cond_true, cond_false, numB_len, textB_len, List.length_nil] <;> omega
        refine .inl ⟨(i + 1, s ++ N.pairB (rowP (r.getD i.toNat []))), ⟨by simp only; omega, by simp only [List.length_append]; omega⟩, by simp only; omega, fun K => ?_, fun K => ?_⟩
        · rw [q_headBytesR]
          unfold N.pairB rowP
          simp (disch := omega) only [evs, o1, o2, outNum_1, outNum_8, textB_len, numB_len, ← List.append_assoc]
          cases V.toInt (List.getD (List.getD r i.toNat []) 1 V.undef) == 0 <;> cases V.toInt (List.getD (List.getD r i.toNat []) 1 V.undef) == 1 <;> cases V.toInt (List.getD (List.getD r i.toNat []) 1 V.undef) == 2 <;> simp only [cond_true, cond_false, List.append_nil]
        · rw [show (i + 1).toNat = i.toNat + 1 by omega]
      · refine .inr ⟨.exit 0, { fr := [(5, .ptr 10000 0 0 0)], tab := [(10000, .var [.str s, .int .i64 0])] }, by simp, fun K => ?_, fun K => ?_⟩
        · rw [q_headBytesR]
          simp (disch := omega) only [evs]
        · rw [List.drop_eq_nil_of_le (by rw [rowsP_length]; omega)]
          show K _ { fr := _, tab := [(10000, .var [.str (s ++ []), .int .i64 0])] } = _
          rw [List.append_nil]
    · cases h
  · refine (q_headBytes h).trans ?_
    show _ = some (⟨.tup [.str (cond (N.headCheck h != 0) (([] : Bytes), N.headCheck h) (N.headBytes h, 0)).1, .int .i64 (cond (N.headCheck h != 0) (([] : Bytes), N.headCheck h) (N.headBytes h, 0)).2], [], []⟩ : DRes)
    cases hc : N.headCheck h != 0 with
    | true =>
      simp (disch := omega) only [evs, pairs_enc, hc]
    | false =>
      have hz : N.headCheck h = 0 := by simpa using hc
      obtain ⟨c1, c2⟩ := check_fit hz
      have u := wu64 (h.length : Int)
      have ul : IntKind.wrap .u64 (h.length : Int) = h.length := wrap_u64 (by omega) (by omega)
      simp (disch := omega) only [evs, pairs_enc, hc, ul, outNum_1, numB_len, c2, List.drop_zero, List.length_nil, Nat.zero_add, List.nil_append]
      rfl
end Go.Ev
