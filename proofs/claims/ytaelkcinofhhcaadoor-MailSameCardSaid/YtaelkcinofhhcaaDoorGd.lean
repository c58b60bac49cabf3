/- The program's functions on heads answer what the plain ones do: lemmas; the function that writes numbers is a premise. -/
import Derived.Test.YtaelkcinofhhcaaDoorGc
import Derived.Test.YtaelkcinofhhcaaDoorProg
import Derived.KernelRfl
import Derived.Shelf.Strings.Builder1
import Derived.RegionTactic
import Derived.Deep.RegionWith
namespace Go.Ev
open Go Go.Proofs
set_option maxRecDepth 100000

def schEqP : SSch := { fr := [(0, .slc [.str, .int .u8, .int .i64, .str]), (1, .slc [.str, .int .u8, .int .i64, .str]), (12, .int .i64), (13, .int .i64)], tab := [] }
def gEqP : List Leaf → (Ex → St → Option R) → Option R
  | [.r r0, .r r1, .i i12, .i i13], K => cond (i12 == r0.length) (cond (Nat.beq r0.length r1.length) (cond (ile 0 i13) (cond (Nat.ble r0.length (LIM + 1)) (cond (N.samePs ((rowsP r0).drop i13.toNat) ((rowsP r1).drop i13.toNat)) (K (.exit 0) { fr := [], tab := [] }) (K .ret { fr := [(4, .bool false)], tab := [] })) none) none) none) none
  | _, _ => none
noncomputable def eEqP : Env := env Tryd.prog [] [(4, loopF schEqP gEqP)] [(4, [(0, [0, 1, 12, 13]), (1, []), (1000, [4])])]
theorem q_eqP (a b : List HPair) : evFn eEqP 62 ((aCons (vSl cPair) (aOne (vSl cPair))).enc (a, b)) ([]) some =
 cond ((↑(List.length (List.map (fun p => [V.str (HPair.key p), V.int IntKind.u8 (HPair.kind p), V.int IntKind.i64 (HPair.num p), V.str (HPair.text p)]) a)) : Int) != (↑(List.length (List.map (fun p => [V.str (HPair.key p), V.int IntKind.u8 (HPair.kind p), V.int IntKind.i64 (HPair.num p), V.str (HPair.text p)]) b)) : Int)) (some { v := V.bool false, bx := [] : DRes }) (cond ((↑(List.length (List.map (fun p => [V.str (HPair.key p), V.int IntKind.u8 (HPair.kind p), V.int IntKind.i64 (HPair.num p), V.str (HPair.text p)]) a)) : Int) == (↑(List.length (List.map (fun p => [V.str (HPair.key p), V.int IntKind.u8 (HPair.kind p), V.int IntKind.i64 (HPair.num p), V.str (HPair.text p)]) a)) : Int)) (cond (Nat.beq (List.length (List.map (fun p => [V.str (HPair.key p), V.int IntKind.u8 (HPair.kind p), V.int IntKind.i64 (HPair.num p), V.str (HPair.text p)]) a)) (List.length (List.map (fun p => [V.str (HPair.key p), V.int IntKind.u8 (HPair.kind p), V.int IntKind.i64 (HPair.num p), V.str (HPair.text p)]) b))) (cond (Nat.ble (List.length (List.map (fun p => [V.str (HPair.key p), V.int IntKind.u8 (HPair.kind p), V.int IntKind.i64 (HPair.num p), V.str (HPair.text p)]) a)) (1000001 : Nat)) (cond (N.samePs (List.drop (0 : Nat) (List.map (fun r => { key := V.toStr (List.getD r (0 : Nat) V.undef), kind := V.toInt (List.getD r (1 : Nat) V.undef), num := V.toInt (List.getD r (2 : Nat) V.undef), text := V.toStr (List.getD r (3 : Nat) V.undef) : HPair }) (List.map (fun p => [V.str (HPair.key p), V.int IntKind.u8 (HPair.kind p), V.int IntKind.i64 (HPair.num p), V.str (HPair.text p)]) a))) (List.drop (0 : Nat) (List.map (fun r => { key := V.toStr (List.getD r (0 : Nat) V.undef), kind := V.toInt (List.getD r (1 : Nat) V.undef), num := V.toInt (List.getD r (2 : Nat) V.undef), text := V.toStr (List.getD r (3 : Nat) V.undef) : HPair }) (List.map (fun p => [V.str (HPair.key p), V.int IntKind.u8 (HPair.kind p), V.int IntKind.i64 (HPair.num p), V.str (HPair.text p)]) b)))) (some { v := V.bool true, bx := [] : DRes }) (some { v := V.bool false, bx := [] : DRes })) (none)) (none)) (none)) := by kernel_rfl
theorem q_eqPR (r0 : List (List V)) (r1 : List (List V)) (i12 : Int) (i13 : Int) (K : Ex → St → Option R) : evRound eEqP 62 4 { fr := [(0, .slc [.str, .int .u8, .int .i64, .str] r0), (1, .slc [.str, .int .u8, .int .i64, .str] r1), (12, .int .i64 i12), (13, .int .i64 i13)], tab := [] } K =
 cond (ilt i13 i12) (cond (decide ((0 : Int) ≤ i13 ∧ i13 < (↑(List.length r0) : Int))) (cond (decide ((0 : Int) ≤ i13 ∧ i13 < (↑(List.length r1) : Int))) (cond (!(V.toStr (List.getD (List.getD r0 (Int.toNat i13) []) (0 : Nat) V.undef) == V.toStr (List.getD (List.getD r1 (Int.toNat i13) []) (0 : Nat) V.undef) && (V.toInt (List.getD (List.getD r0 (Int.toNat i13) []) (1 : Nat) V.undef) == V.toInt (List.getD (List.getD r1 (Int.toNat i13) []) (1 : Nat) V.undef) && (V.toInt (List.getD (List.getD r0 (Int.toNat i13) []) (2 : Nat) V.undef) == V.toInt (List.getD (List.getD r1 (Int.toNat i13) []) (2 : Nat) V.undef) && (V.toStr (List.getD (List.getD r0 (Int.toNat i13) []) (3 : Nat) V.undef) == V.toStr (List.getD (List.getD r1 (Int.toNat i13) []) (3 : Nat) V.undef) && true))))) (K Ex.ret { fr := [((4 : Nat), V.bool false)], tab := [] : St }) (K Ex.normal { fr := [((0 : Nat), V.slc [Sh.str, Sh.int IntKind.u8, Sh.int IntKind.i64, Sh.str] r0), ((1 : Nat), V.slc [Sh.str, Sh.int IntKind.u8, Sh.int IntKind.i64, Sh.str] r1), ((12 : Nat), V.int IntKind.i64 i12), ((13 : Nat), V.int IntKind.i64 (IntKind.wrap IntKind.i64 (i13 + (1 : Int))))], tab := [] : St })) (none)) (none)) (K (Ex.exit (0 : Nat)) { fr := [], tab := [] : St }) := by kernel_rfl
theorem samePs_len : ∀ a b : List HPair, a.length ≠ b.length → N.samePs a b = false
  | [], [], h => absurd rfl h
  | [], _ :: _, _ => rfl
  | _ :: _, [], _ => rfl
  | p :: a, q :: b, h => by
    unfold N.samePs
    rw [samePs_len a b (by simpa using h)]
    cases N.eqP p q <;> rfl
theorem samePs_cons (p q : HPair) (a b : List HPair) : N.samePs (p :: a) (q :: b) = cond (N.eqP p q) (N.samePs a b) false := rfl
theorem ok_eqP : FnOk Tryd.prog 62 dSameP := by
  refine den_okF (env_ok (TOk.nil _)) (E := eEqP) Tryd.func62 [4] (by kernel_rfl) (one1 (rounds_of rfl fun l K q h => ?_)) fun a _ h => ?_
  · unfold gEqP at h
    split at h
    · rename_i r0 r1 n i
      have h1 := (cond_none h).1; replace h := (cond_none h).2; have h2 := (cond_none h).1; replace h := (cond_none h).2; have h3 := (cond_none h).1; replace h := (cond_none h).2; have h4 := (cond_none h).1; replace h := (cond_none h).2
      have e1 := ieq_of h1
      have h2 := Nat.eq_of_beq_eq_true h2
      subst e1
      have h4 : r0.length ≤ 1000001 := ble_of h4
      refine loop_ind (E := eEqP) (f := 62) (id := 4) (fun i : Int => { fr := [(0, .slc [.str, .int .u8, .int .i64, .str] r0), (1, .slc [.str, .int .u8, .int .i64, .str] r1), (12, .int .i64 r0.length), (13, .int .i64 i)], tab := [] }) (fun i => 0 ≤ i) (fun i => r0.length - i.toNat)
        (fun i K => cond (N.samePs ((rowsP r0).drop i.toNat) ((rowsP r1).drop i.toNat)) (K (.exit 0) { fr := [], tab := [] }) (K .ret { fr := [(4, .bool false)], tab := [] })) (fun i hi => ?_) i (ile_of h3) K q (by assumption)
      by_cases hl : i < r0.length
      · rw [drop_pair (show i.toNat < r0.length by omega), drop_pair (show i.toNat < r1.length by omega), samePs_cons]
        cases hc : N.eqP (rowP (r0.getD i.toNat [])) (rowP (r1.getD i.toNat [])) with
        | true =>
          refine .inl ⟨i + 1, by omega, by omega, fun K => ?_, fun K => ?_⟩
          · rw [q_eqPR]
            unfold N.eqP rowP at hc
            simp (disch := omega) only [evs, hc, Bool.not_true]
          · rw [cond_true, show (i + 1).toNat = i.toNat + 1 by omega]
        | false =>
          refine .inr ⟨.ret, { fr := [(4, .bool false)], tab := [] }, by simp, fun K => ?_, fun K => rfl⟩
          rw [q_eqPR]
          unfold N.eqP rowP at hc
          simp (disch := omega) only [evs, hc, Bool.not_false]
      · refine .inr ⟨.exit 0, { fr := [], tab := [] }, by simp, fun K => ?_, fun K => ?_⟩
        · rw [q_eqPR]
          simp (disch := omega) only [evs]
        · rw [List.drop_eq_nil_of_le (by rw [rowsP_length]; omega), List.drop_eq_nil_of_le (by rw [rowsP_length]; omega)]; rfl
    · cases h
  · obtain ⟨a, b⟩ := a
    have h : a.length ≤ 1000000 := ble_of h
    refine (q_eqP a b).trans ?_
    show _ = some (⟨.bool (N.samePs a b), [], []⟩ : DRes)
    by_cases hl : a.length = b.length
    · simp (disch := omega) only [evs, pairs_enc, hl, List.drop_zero]
      cases N.samePs a b <;> rfl
    · rw [samePs_len a b hl]
      simp (disch := omega) only [evs]
def schRefSame : SSch := schEqP
noncomputable def eRefSame : Env := env Tryd.prog [] [(4, loopF schRefSame gEqP)] [(4, [(0, [0, 1, 12, 13]), (1, []), (1000, [4])])]
theorem q_refSame (a b : List HPair) : evFn eRefSame 61 ((aCons (vSl cPair) (aOne (vSl cPair))).enc (a, b)) ([]) some =
 cond ((↑(List.length (List.map (fun p => [V.str (HPair.key p), V.int IntKind.u8 (HPair.kind p), V.int IntKind.i64 (HPair.num p), V.str (HPair.text p)]) a)) : Int) != (↑(List.length (List.map (fun p => [V.str (HPair.key p), V.int IntKind.u8 (HPair.kind p), V.int IntKind.i64 (HPair.num p), V.str (HPair.text p)]) b)) : Int)) (some { v := V.bool false, bx := [] : DRes }) (cond ((↑(List.length (List.map (fun p => [V.str (HPair.key p), V.int IntKind.u8 (HPair.kind p), V.int IntKind.i64 (HPair.num p), V.str (HPair.text p)]) a)) : Int) == (↑(List.length (List.map (fun p => [V.str (HPair.key p), V.int IntKind.u8 (HPair.kind p), V.int IntKind.i64 (HPair.num p), V.str (HPair.text p)]) a)) : Int)) (cond (Nat.beq (List.length (List.map (fun p => [V.str (HPair.key p), V.int IntKind.u8 (HPair.kind p), V.int IntKind.i64 (HPair.num p), V.str (HPair.text p)]) a)) (List.length (List.map (fun p => [V.str (HPair.key p), V.int IntKind.u8 (HPair.kind p), V.int IntKind.i64 (HPair.num p), V.str (HPair.text p)]) b))) (cond (Nat.ble (List.length (List.map (fun p => [V.str (HPair.key p), V.int IntKind.u8 (HPair.kind p), V.int IntKind.i64 (HPair.num p), V.str (HPair.text p)]) a)) (1000001 : Nat)) (cond (N.samePs (List.drop (0 : Nat) (List.map (fun r => { key := V.toStr (List.getD r (0 : Nat) V.undef), kind := V.toInt (List.getD r (1 : Nat) V.undef), num := V.toInt (List.getD r (2 : Nat) V.undef), text := V.toStr (List.getD r (3 : Nat) V.undef) : HPair }) (List.map (fun p => [V.str (HPair.key p), V.int IntKind.u8 (HPair.kind p), V.int IntKind.i64 (HPair.num p), V.str (HPair.text p)]) a))) (List.drop (0 : Nat) (List.map (fun r => { key := V.toStr (List.getD r (0 : Nat) V.undef), kind := V.toInt (List.getD r (1 : Nat) V.undef), num := V.toInt (List.getD r (2 : Nat) V.undef), text := V.toStr (List.getD r (3 : Nat) V.undef) : HPair }) (List.map (fun p => [V.str (HPair.key p), V.int IntKind.u8 (HPair.kind p), V.int IntKind.i64 (HPair.num p), V.str (HPair.text p)]) b)))) (some { v := V.bool true, bx := [] : DRes }) (some { v := V.bool false, bx := [] : DRes })) (none)) (none)) (none)) := by kernel_rfl
theorem q_refSameR (r0 : List (List V)) (r1 : List (List V)) (i12 : Int) (i13 : Int) (K : Ex → St → Option R) : evRound eRefSame 61 4 { fr := [(0, .slc [.str, .int .u8, .int .i64, .str] r0), (1, .slc [.str, .int .u8, .int .i64, .str] r1), (12, .int .i64 i12), (13, .int .i64 i13)], tab := [] } K =
 cond (ilt i13 i12) (cond (decide ((0 : Int) ≤ i13 ∧ i13 < (↑(List.length r0) : Int))) (cond (decide ((0 : Int) ≤ i13 ∧ i13 < (↑(List.length r1) : Int))) (cond (!(V.toStr (List.getD (List.getD r0 (Int.toNat i13) []) (0 : Nat) V.undef) == V.toStr (List.getD (List.getD r1 (Int.toNat i13) []) (0 : Nat) V.undef) && (V.toInt (List.getD (List.getD r0 (Int.toNat i13) []) (1 : Nat) V.undef) == V.toInt (List.getD (List.getD r1 (Int.toNat i13) []) (1 : Nat) V.undef) && (V.toInt (List.getD (List.getD r0 (Int.toNat i13) []) (2 : Nat) V.undef) == V.toInt (List.getD (List.getD r1 (Int.toNat i13) []) (2 : Nat) V.undef) && (V.toStr (List.getD (List.getD r0 (Int.toNat i13) []) (3 : Nat) V.undef) == V.toStr (List.getD (List.getD r1 (Int.toNat i13) []) (3 : Nat) V.undef) && true))))) (K Ex.ret { fr := [((4 : Nat), V.bool false)], tab := [] : St }) (K Ex.normal { fr := [((0 : Nat), V.slc [Sh.str, Sh.int IntKind.u8, Sh.int IntKind.i64, Sh.str] r0), ((1 : Nat), V.slc [Sh.str, Sh.int IntKind.u8, Sh.int IntKind.i64, Sh.str] r1), ((12 : Nat), V.int IntKind.i64 i12), ((13 : Nat), V.int IntKind.i64 (IntKind.wrap IntKind.i64 (i13 + (1 : Int))))], tab := [] : St })) (none)) (none)) (K (Ex.exit (0 : Nat)) { fr := [], tab := [] : St }) := by kernel_rfl
theorem ok_refSame : FnOk Tryd.prog 61 dSameP := by
  refine den_okF (env_ok (TOk.nil _)) (E := eRefSame) Tryd.func61 [4] (by kernel_rfl) (one1 (rounds_of rfl fun l K q h => ?_)) fun a _ h => ?_
  · unfold gEqP at h
    split at h
    · rename_i r0 r1 n i
      have h1 := (cond_none h).1; replace h := (cond_none h).2; have h2 := (cond_none h).1; replace h := (cond_none h).2; have h3 := (cond_none h).1; replace h := (cond_none h).2; have h4 := (cond_none h).1; replace h := (cond_none h).2
      have e1 := ieq_of h1
      have h2 := Nat.eq_of_beq_eq_true h2
      subst e1
      have h4 : r0.length ≤ 1000001 := ble_of h4
      refine loop_ind (E := eRefSame) (f := 61) (id := 4) (fun i : Int => { fr := [(0, .slc [.str, .int .u8, .int .i64, .str] r0), (1, .slc [.str, .int .u8, .int .i64, .str] r1), (12, .int .i64 r0.length), (13, .int .i64 i)], tab := [] }) (fun i => 0 ≤ i) (fun i => r0.length - i.toNat)
        (fun i K => cond (N.samePs ((rowsP r0).drop i.toNat) ((rowsP r1).drop i.toNat)) (K (.exit 0) { fr := [], tab := [] }) (K .ret { fr := [(4, .bool false)], tab := [] })) (fun i hi => ?_) i (ile_of h3) K q (by assumption)
      by_cases hl : i < r0.length
      · rw [drop_pair (show i.toNat < r0.length by omega), drop_pair (show i.toNat < r1.length by omega), samePs_cons]
        cases hc : N.eqP (rowP (r0.getD i.toNat [])) (rowP (r1.getD i.toNat [])) with
        | true =>
          refine .inl ⟨i + 1, by omega, by omega, fun K => ?_, fun K => ?_⟩
          · rw [q_refSameR]
            unfold N.eqP rowP at hc
            simp (disch := omega) only [evs, hc, Bool.not_true]
          · rw [cond_true, show (i + 1).toNat = i.toNat + 1 by omega]
        | false =>
          refine .inr ⟨.ret, { fr := [(4, .bool false)], tab := [] }, by simp, fun K => ?_, fun K => rfl⟩
          rw [q_refSameR]
          unfold N.eqP rowP at hc
          simp (disch := omega) only [evs, hc, Bool.not_false]
      · refine .inr ⟨.exit 0, { fr := [], tab := [] }, by simp, fun K => ?_, fun K => ?_⟩
        · rw [q_refSameR]
          simp (disch := omega) only [evs]
        · rw [List.drop_eq_nil_of_le (by rw [rowsP_length]; omega), List.drop_eq_nil_of_le (by rw [rowsP_length]; omega)]; rfl
    · cases h
  · obtain ⟨a, b⟩ := a
    have h : a.length ≤ 1000000 := ble_of h
    refine (q_refSame a b).trans ?_
    show _ = some (⟨.bool (N.samePs a b), [], []⟩ : DRes)
    by_cases hl : a.length = b.length
    · simp (disch := omega) only [evs, pairs_enc, hl, List.drop_zero]
      cases N.samePs a b <;> rfl
    · rw [samePs_len a b hl]
      simp (disch := omega) only [evs]
def schLight : SSch := { fr := [(8, .slc [.str, .int .u8, .int .i64, .str]), (9, .int .i64), (10, .int .i64)], tab := [] }
def gLight : List Leaf → (Ex → St → Option R) → Option R
  | [.r r8, .i i9, .i i10], K => cond (i9 == r8.length) (cond (ile 0 i10) (cond (Nat.ble r8.length LIM) (cond (((rowsP r8).drop i10.toNat).all N.lightP) (K (.exit 0) { fr := [], tab := [] }) (K .ret { fr := [(2, .bool false)], tab := [] })) none) none) none
  | _, _ => none
noncomputable def eLight : Env := env Tryd.prog [] [(4, loopF schLight gLight)] [(4, [(0, [8, 9, 10]), (1, []), (1000, [2])])]
theorem q_light (h : List HPair) : evFn eLight 13 ((aOne (vSl cPair)).enc h) ([]) some =
 cond (ilt (12 : Int) (↑(List.length (List.map (fun p => [V.str (HPair.key p), V.int IntKind.u8 (HPair.kind p), V.int IntKind.i64 (HPair.num p), V.str (HPair.text p)]) h)) : Int)) (some { v := V.bool false, bx := [] : DRes }) (cond ((↑(List.length (List.map (fun p => [V.str (HPair.key p), V.int IntKind.u8 (HPair.kind p), V.int IntKind.i64 (HPair.num p), V.str (HPair.text p)]) h)) : Int) == (↑(List.length (List.map (fun p => [V.str (HPair.key p), V.int IntKind.u8 (HPair.kind p), V.int IntKind.i64 (HPair.num p), V.str (HPair.text p)]) h)) : Int)) (cond (Nat.ble (List.length (List.map (fun p => [V.str (HPair.key p), V.int IntKind.u8 (HPair.kind p), V.int IntKind.i64 (HPair.num p), V.str (HPair.text p)]) h)) (1000000 : Nat)) (cond (List.all (List.drop (0 : Nat) (List.map (fun r => { key := V.toStr (List.getD r (0 : Nat) V.undef), kind := V.toInt (List.getD r (1 : Nat) V.undef), num := V.toInt (List.getD r (2 : Nat) V.undef), text := V.toStr (List.getD r (3 : Nat) V.undef) : HPair }) (List.map (fun p => [V.str (HPair.key p), V.int IntKind.u8 (HPair.kind p), V.int IntKind.i64 (HPair.num p), V.str (HPair.text p)]) h))) N.lightP) (some { v := V.bool true, bx := [] : DRes }) (some { v := V.bool false, bx := [] : DRes })) (none)) (none)) := by kernel_rfl
theorem q_lightR (r8 : List (List V)) (i9 : Int) (i10 : Int) (K : Ex → St → Option R) : evRound eLight 13 4 { fr := [(8, .slc [.str, .int .u8, .int .i64, .str] r8), (9, .int .i64 i9), (10, .int .i64 i10)], tab := [] } K =
 cond (ilt i10 i9) (cond (decide ((0 : Int) ≤ i10 ∧ i10 < (↑(List.length r8) : Int))) (cond (ilt (40 : Int) (↑(List.length (V.toStr (List.getD (List.getD r8 (Int.toNat i10) []) (0 : Nat) V.undef))) : Int)) (K Ex.ret { fr := [((2 : Nat), V.bool false)], tab := [] : St }) (cond (ilt (100 : Int) (↑(List.length (V.toStr (List.getD (List.getD r8 (Int.toNat i10) []) (3 : Nat) V.undef))) : Int)) (K Ex.ret { fr := [((2 : Nat), V.bool false)], tab := [] : St }) (K Ex.normal { fr := [((8 : Nat), V.slc [Sh.str, Sh.int IntKind.u8, Sh.int IntKind.i64, Sh.str] r8), ((9 : Nat), V.int IntKind.i64 i9), ((10 : Nat), V.int IntKind.i64 (IntKind.wrap IntKind.i64 (i10 + (1 : Int))))], tab := [] : St }))) (none)) (K (Ex.exit (0 : Nat)) { fr := [], tab := [] : St }) := by kernel_rfl
theorem ok_light : FnOk Tryd.prog 13 dLight := by
  refine den_okF (env_ok (TOk.nil _)) (E := eLight) Tryd.func13 [4] (by kernel_rfl) (one1 (rounds_of rfl fun l K q h => ?_)) fun h _ _ => ?_
  · unfold gLight at h
    split at h
    · rename_i r n i
      have h1 := (cond_none h).1; replace h := (cond_none h).2; have h2 := (cond_none h).1; replace h := (cond_none h).2; have h3 := (cond_none h).1; replace h := (cond_none h).2
      have e1 := ieq_of h1
      subst e1
      have h3 : r.length ≤ 1000000 := ble_of h3
      refine loop_ind (E := eLight) (f := 13) (id := 4) (fun i : Int => { fr := [(8, .slc [.str, .int .u8, .int .i64, .str] r), (9, .int .i64 r.length), (10, .int .i64 i)], tab := [] }) (fun i => 0 ≤ i) (fun i => r.length - i.toNat)
        (fun i K => cond (((rowsP r).drop i.toNat).all N.lightP) (K (.exit 0) { fr := [], tab := [] }) (K .ret { fr := [(2, .bool false)], tab := [] })) (fun i hi => ?_) i (ile_of h2) K q (by assumption)
      by_cases hl : i < r.length
      · rw [drop_pair (show i.toNat < r.length by omega), List.all_cons]
        cases hc : N.lightP (rowP (r.getD i.toNat [])) with
        | true =>
          refine .inl ⟨i + 1, by omega, by omega, fun K => ?_, fun K => ?_⟩
          · rw [q_lightR]
            simp (disch := omega) only [evs]
            revert hc
            unfold N.lightP rowP
            cases ilt 40 (V.toStr (List.getD (List.getD r i.toNat []) 0 V.undef)).length <;> cases ilt 100 (V.toStr (List.getD (List.getD r i.toNat []) 3 V.undef)).length <;> intro hc <;> first | rfl | cases hc
          · rw [Bool.true_and, show (i + 1).toNat = i.toNat + 1 by omega]
        | false =>
          refine .inr ⟨.ret, { fr := [(2, .bool false)], tab := [] }, by simp, fun K => ?_, fun K => rfl⟩
          rw [q_lightR]
          simp (disch := omega) only [evs]
          revert hc
          unfold N.lightP rowP
          cases ilt 40 (V.toStr (List.getD (List.getD r i.toNat []) 0 V.undef)).length <;> cases ilt 100 (V.toStr (List.getD (List.getD r i.toNat []) 3 V.undef)).length <;> intro hc <;> first | rfl | cases hc
      · refine .inr ⟨.exit 0, { fr := [], tab := [] }, by simp, fun K => ?_, fun K => ?_⟩
        · rw [q_lightR]
          simp (disch := omega) only [evs]
        · rw [List.drop_eq_nil_of_le (by rw [rowsP_length]; omega)]; rfl
    · cases h
  · refine (q_light h).trans ?_
    show _ = some (⟨.bool (N.light h), [], []⟩ : DRes)
    unfold N.light
    by_cases hl : 12 < h.length
    · simp (disch := omega) only [evs]
    · simp (disch := omega) only [evs, pairs_enc, List.drop_zero]
      cases h.all N.lightP <;> rfl
noncomputable def eFindFn : Env := env Tryd.prog [] [] []
theorem q_findFn (p : HPair) (key : Bytes) : evFn eFindFn 99 ((aCons (vAgg cPair) (aOne (vPtr 0))).enc (p, ())) ((bOne rStr).enc key) some =
 some { v := V.bool (HPair.key p == key), bx := [[V.str key]] : DRes } := by kernel_rfl
theorem ok_findFn : FnOk Tryd.prog 99 dFindFn := den_okF (env_ok (TOk.nil _)) (E := eFindFn) Tryd.func99 [] (by kernel_rfl) none0 fun a key _ => q_findFn a.1 key
def schIxf : SSch := { fr := [(0, .slc [.str, .int .u8, .int .i64, .str]), (1, .fn 99 [] [.ptr 0 0 0]), (7, .int .i64), (8, .int .i64)], tab := [(0, .var [.str])] }
def gIxf : List Leaf → (Ex → St → Option R) → Option R
  | [.r r0, .i i7, .i i8, .s key], K => cond (i7 == r0.length) (cond (ile 0 i8) (cond (Nat.ble r0.length LIM)
      (cond (ile 0 (N.findIx key ((rowsP r0).drop i8.toNat) i8)) (K .ret { fr := [(4, .int .i64 (N.findIx key ((rowsP r0).drop i8.toNat) i8))], tab := [(0, .var [.str key])] }) (K (.exit 0) { fr := [], tab := [(0, .var [.str key])] })) none) none) none
  | _, _ => none
noncomputable def eIxf : Env := env Tryd.prog [(99, dFindFn)] [(2, loopF schIxf gIxf)] [(2, [(0, [0, 1, 7, 8]), (1, []), (1000, [4])])]
theorem q_ixf (h : List HPair) (key : Bytes) : evFn eIxf 98 ((aCons (vSl cPair) (aOne (vFn 99 0))).enc (h, ())) ((bOne rStr).enc key) some =
 cond ((↑(List.length (List.map (fun p => [V.str (HPair.key p), V.int IntKind.u8 (HPair.kind p), V.int IntKind.i64 (HPair.num p), V.str (HPair.text p)]) h)) : Int) == (↑(List.length (List.map (fun p => [V.str (HPair.key p), V.int IntKind.u8 (HPair.kind p), V.int IntKind.i64 (HPair.num p), V.str (HPair.text p)]) h)) : Int)) (cond (Nat.ble (List.length (List.map (fun p => [V.str (HPair.key p), V.int IntKind.u8 (HPair.kind p), V.int IntKind.i64 (HPair.num p), V.str (HPair.text p)]) h)) (1000000 : Nat)) (cond (ile (0 : Int) (N.findIx key (List.drop (0 : Nat) (List.map (fun r => { key := V.toStr (List.getD r (0 : Nat) V.undef), kind := V.toInt (List.getD r (1 : Nat) V.undef), num := V.toInt (List.getD r (2 : Nat) V.undef), text := V.toStr (List.getD r (3 : Nat) V.undef) : HPair }) (List.map (fun p => [V.str (HPair.key p), V.int IntKind.u8 (HPair.kind p), V.int IntKind.i64 (HPair.num p), V.str (HPair.text p)]) h))) (0 : Int))) (some { v := V.int IntKind.i64 (N.findIx key (List.drop (0 : Nat) (List.map (fun r => { key := V.toStr (List.getD r (0 : Nat) V.undef), kind := V.toInt (List.getD r (1 : Nat) V.undef), num := V.toInt (List.getD r (2 : Nat) V.undef), text := V.toStr (List.getD r (3 : Nat) V.undef) : HPair }) (List.map (fun p => [V.str (HPair.key p), V.int IntKind.u8 (HPair.kind p), V.int IntKind.i64 (HPair.num p), V.str (HPair.text p)]) h))) (0 : Int)), bx := [[V.str key]] : DRes }) (some { v := V.int IntKind.i64 (-1 : Int), bx := [[V.str key]] : DRes })) (none)) (none) := by kernel_rfl
theorem q_ixfR (r0 : List (List V)) (i7 : Int) (i8 : Int) (sx0 : Bytes) (K : Ex → St → Option R) : evRound eIxf 98 2 { fr := [(0, .slc [.str, .int .u8, .int .i64, .str] r0), (1, .fn 99 [] [.ptr 0 0 0 0]), (7, .int .i64 i7), (8, .int .i64 i8)], tab := [(0, .var [.str sx0])] } K =
 cond (ilt i8 i7) (cond (decide ((0 : Int) ≤ i8 ∧ i8 < (↑(List.length r0) : Int))) (cond (V.toStr (List.getD (List.getD r0 (Int.toNat i8) []) (0 : Nat) V.undef) == sx0) (K Ex.ret { fr := [((4 : Nat), V.int IntKind.i64 i8)], tab := [((0 : Nat), Box.var [V.str sx0])] : St }) (K Ex.normal { fr := [((0 : Nat), V.slc [Sh.str, Sh.int IntKind.u8, Sh.int IntKind.i64, Sh.str] r0), ((1 : Nat), V.fn 99 [] [V.ptr (0 : Nat) (0 : Nat) (0 : Nat) (0 : Nat)]), ((7 : Nat), V.int IntKind.i64 i7), ((8 : Nat), V.int IntKind.i64 (IntKind.wrap IntKind.i64 (i8 + (1 : Int))))], tab := [((0 : Nat), Box.var [V.str sx0])] : St })) (none)) (K (Ex.exit (0 : Nat)) { fr := [], tab := [((0 : Nat), Box.var [V.str sx0])] : St }) := by kernel_rfl
theorem ok_ixf : FnOk Tryd.prog 98 (dIndexFn 99) := by
  refine den_okF (env_ok ((TOk.nil _).cons ok_findFn)) (E := eIxf) Tryd.func98 [2] (by kernel_rfl) (one1 (rounds_of rfl fun l K q h => ?_)) fun a key h => ?_
  · unfold gIxf at h
    split at h
    · rename_i r n i key
      have h1 := (cond_none h).1; replace h := (cond_none h).2; have h2 := (cond_none h).1; replace h := (cond_none h).2; have h3 := (cond_none h).1; replace h := (cond_none h).2
      have e1 := ieq_of h1
      subst e1
      have h3 : r.length ≤ 1000000 := ble_of h3
      refine loop_ind (E := eIxf) (f := 98) (id := 2) (fun i : Int => { fr := [(0, .slc [.str, .int .u8, .int .i64, .str] r), (1, .fn 99 [] [.ptr 0 0 0 0]), (7, .int .i64 r.length), (8, .int .i64 i)], tab := [(0, .var [.str key])] }) (fun i => 0 ≤ i) (fun i => r.length - i.toNat)
        (fun i8 K => cond (ile 0 (N.findIx key ((rowsP r).drop i8.toNat) i8)) (K .ret { fr := [(4, .int .i64 (N.findIx key ((rowsP r).drop i8.toNat) i8))], tab := [(0, .var [.str key])] }) (K (.exit 0) { fr := [], tab := [(0, .var [.str key])] })) (fun i hi => ?_) i (ile_of h2) K q (by assumption)
      by_cases hl : i < r.length
      · rw [drop_pair (show i.toNat < r.length by omega)]
        have e : N.findIx key (rowP (r.getD i.toNat []) :: (rowsP r).drop (i.toNat + 1)) i = cond ((rowP (r.getD i.toNat [])).key == key) i (N.findIx key ((rowsP r).drop (i.toNat + 1)) (i + 1)) := rfl
        rw [e]
        cases hc : (rowP (r.getD i.toNat [])).key == key with
        | true =>
          rw [cond_true, ile_t hi]
          refine .inr ⟨.ret, _, by simp, fun K => ?_, fun K => rfl⟩
          rw [q_ixfR]
          unfold rowP at hc
          simp (disch := omega) only [evs, hc]
        | false =>
          refine .inl ⟨i + 1, by omega, by omega, fun K => ?_, fun K => ?_⟩
          · rw [q_ixfR]
            unfold rowP at hc
            simp (disch := omega) only [evs, hc]
          · rw [cond_false, show (i + 1).toNat = i.toNat + 1 by omega]
      · refine .inr ⟨.exit 0, { fr := [], tab := [(0, .var [.str key])] }, by simp, fun K => ?_, fun K => ?_⟩
        · rw [q_ixfR]
          simp (disch := omega) only [evs]
        · rw [List.drop_eq_nil_of_le (by rw [rowsP_length]; omega)]; rfl
    · cases h
  · obtain ⟨l, u⟩ := a
    have h : l.length ≤ 1000000 := ble_of h
    refine (q_ixf l key).trans ?_
    show _ = some (⟨.int .i64 (N.findIx key l 0), [[.str key]], []⟩ : DRes)
    simp (disch := omega) only [evs, pairs_enc, List.drop_zero]
    rcases findIx_lt key l 0 (Int.le_refl _) with e | ⟨e, _⟩
    · rw [e]; rfl
    · rw [ile_t e]; rfl
noncomputable def eFind : Env := env Tryd.prog [(98, dIndexFn 99)] [] []
theorem q_find (h : List HPair) (key : Bytes) : evFn eFind 88 ((aCons (vSl cPair) (aOne vStr)).enc (h, key)) ([]) some =
 cond (Nat.ble (List.length (List.map (fun r => { key := V.toStr (List.getD r (0 : Nat) V.undef), kind := V.toInt (List.getD r (1 : Nat) V.undef), num := V.toInt (List.getD r (2 : Nat) V.undef), text := V.toStr (List.getD r (3 : Nat) V.undef) : HPair }) (List.map (fun p => [V.str (HPair.key p), V.int IntKind.u8 (HPair.kind p), V.int IntKind.i64 (HPair.num p), V.str (HPair.text p)]) h))) (1000000 : Nat)) (cond (ilt (N.findIx key (List.map (fun r => { key := V.toStr (List.getD r (0 : Nat) V.undef), kind := V.toInt (List.getD r (1 : Nat) V.undef), num := V.toInt (List.getD r (2 : Nat) V.undef), text := V.toStr (List.getD r (3 : Nat) V.undef) : HPair }) (List.map (fun p => [V.str (HPair.key p), V.int IntKind.u8 (HPair.kind p), V.int IntKind.i64 (HPair.num p), V.str (HPair.text p)]) h)) (0 : Int)) (0 : Int)) (some { v := V.tup [V.agg [V.str [], V.int IntKind.u8 (0 : Int), V.int IntKind.i64 (0 : Int), V.str []], V.bool false], bx := [] : DRes }) (cond (decide ((0 : Int) ≤ N.findIx key (List.map (fun r => { key := V.toStr (List.getD r (0 : Nat) V.undef), kind := V.toInt (List.getD r (1 : Nat) V.undef), num := V.toInt (List.getD r (2 : Nat) V.undef), text := V.toStr (List.getD r (3 : Nat) V.undef) : HPair }) (List.map (fun p => [V.str (HPair.key p), V.int IntKind.u8 (HPair.kind p), V.int IntKind.i64 (HPair.num p), V.str (HPair.text p)]) h)) (0 : Int) ∧ N.findIx key (List.map (fun r => { key := V.toStr (List.getD r (0 : Nat) V.undef), kind := V.toInt (List.getD r (1 : Nat) V.undef), num := V.toInt (List.getD r (2 : Nat) V.undef), text := V.toStr (List.getD r (3 : Nat) V.undef) : HPair }) (List.map (fun p => [V.str (HPair.key p), V.int IntKind.u8 (HPair.kind p), V.int IntKind.i64 (HPair.num p), V.str (HPair.text p)]) h)) (0 : Int) < (↑(List.length (List.map (fun p => [V.str (HPair.key p), V.int IntKind.u8 (HPair.kind p), V.int IntKind.i64 (HPair.num p), V.str (HPair.text p)]) h)) : Int))) (some { v := V.tup [V.agg [V.str (V.toStr (List.getD (List.getD (List.map (fun p => [V.str (HPair.key p), V.int IntKind.u8 (HPair.kind p), V.int IntKind.i64 (HPair.num p), V.str (HPair.text p)]) h) (Int.toNat (N.findIx key (List.map (fun r => { key := V.toStr (List.getD r (0 : Nat) V.undef), kind := V.toInt (List.getD r (1 : Nat) V.undef), num := V.toInt (List.getD r (2 : Nat) V.undef), text := V.toStr (List.getD r (3 : Nat) V.undef) : HPair }) (List.map (fun p => [V.str (HPair.key p), V.int IntKind.u8 (HPair.kind p), V.int IntKind.i64 (HPair.num p), V.str (HPair.text p)]) h)) (0 : Int))) []) (0 : Nat) V.undef)), V.int IntKind.u8 (V.toInt (List.getD (List.getD (List.map (fun p => [V.str (HPair.key p), V.int IntKind.u8 (HPair.kind p), V.int IntKind.i64 (HPair.num p), V.str (HPair.text p)]) h) (Int.toNat (N.findIx key (List.map (fun r => { key := V.toStr (List.getD r (0 : Nat) V.undef), kind := V.toInt (List.getD r (1 : Nat) V.undef), num := V.toInt (List.getD r (2 : Nat) V.undef), text := V.toStr (List.getD r (3 : Nat) V.undef) : HPair }) (List.map (fun p => [V.str (HPair.key p), V.int IntKind.u8 (HPair.kind p), V.int IntKind.i64 (HPair.num p), V.str (HPair.text p)]) h)) (0 : Int))) []) (1 : Nat) V.undef)), V.int IntKind.i64 (V.toInt (List.getD (List.getD (List.map (fun p => [V.str (HPair.key p), V.int IntKind.u8 (HPair.kind p), V.int IntKind.i64 (HPair.num p), V.str (HPair.text p)]) h) (Int.toNat (N.findIx key (List.map (fun r => { key := V.toStr (List.getD r (0 : Nat) V.undef), kind := V.toInt (List.getD r (1 : Nat) V.undef), num := V.toInt (List.getD r (2 : Nat) V.undef), text := V.toStr (List.getD r (3 : Nat) V.undef) : HPair }) (List.map (fun p => [V.str (HPair.key p), V.int IntKind.u8 (HPair.kind p), V.int IntKind.i64 (HPair.num p), V.str (HPair.text p)]) h)) (0 : Int))) []) (2 : Nat) V.undef)), V.str (V.toStr (List.getD (List.getD (List.map (fun p => [V.str (HPair.key p), V.int IntKind.u8 (HPair.kind p), V.int IntKind.i64 (HPair.num p), V.str (HPair.text p)]) h) (Int.toNat (N.findIx key (List.map (fun r => { key := V.toStr (List.getD r (0 : Nat) V.undef), kind := V.toInt (List.getD r (1 : Nat) V.undef), num := V.toInt (List.getD r (2 : Nat) V.undef), text := V.toStr (List.getD r (3 : Nat) V.undef) : HPair }) (List.map (fun p => [V.str (HPair.key p), V.int IntKind.u8 (HPair.kind p), V.int IntKind.i64 (HPair.num p), V.str (HPair.text p)]) h)) (0 : Int))) []) (3 : Nat) V.undef))], V.bool true], bx := [] : DRes }) (none))) (none) := by kernel_rfl
theorem ok_find : FnOk Tryd.prog 88 dFind := by
  refine den_okF (env_ok ((TOk.nil _).cons ok_ixf)) (E := eFind) Tryd.func88 [] (by kernel_rfl) none0 fun a _ h => ?_
  obtain ⟨l, key⟩ := a
  have h : l.length ≤ 1000000 := ble_of h
  refine (q_find l key).trans ?_
  show _ = some (⟨.tup [.agg [.str (N.find l key).1.key, .int .u8 (N.find l key).1.kind, .int .i64 (N.find l key).1.num, .str (N.find l key).1.text], .bool (N.find l key).2], [], []⟩ : DRes)
  unfold N.find
  simp (disch := omega) only [evs, pairs_enc, pairs_get]
  rcases findIx_lt key l 0 (Int.le_refl _) with e | ⟨e1, e2⟩
  · rw [e]; rfl
  · simp (disch := omega) only [evs]
noncomputable def ePairE : Env := env Tryd.prog [(79, dName), (88, dFind)] [] []
theorem q_pairE (p : HPair) (l : List HPair) : evFn ePairE 86 ((aCons (vAgg cPair) (aOne (vSl cPair))).enc (p, l)) ([]) some =
 cond (N.name (HPair.key p) != (0 : Int)) (some { v := V.int IntKind.i64 (N.name (HPair.key p)), bx := [] : DRes }) (cond (Nat.ble (List.length (List.map (fun r => { key := V.toStr (List.getD r (0 : Nat) V.undef), kind := V.toInt (List.getD r (1 : Nat) V.undef), num := V.toInt (List.getD r (2 : Nat) V.undef), text := V.toStr (List.getD r (3 : Nat) V.undef) : HPair }) (List.map (fun p => [V.str (HPair.key p), V.int IntKind.u8 (HPair.kind p), V.int IntKind.i64 (HPair.num p), V.str (HPair.text p)]) l))) (1000000 : Nat)) (cond (ilt (2 : Int) (HPair.kind p)) (some { v := V.int IntKind.i64 (8 : Int), bx := [] : DRes }) (cond (HPair.kind p == (1 : Int)) (cond (ilt (64 : Int) (↑(List.length (HPair.text p)) : Int)) (some { v := V.int IntKind.i64 (5 : Int), bx := [] : DRes }) (cond (HPair.kind p == (2 : Int)) (cond (HPair.num p != (0 : Int)) (cond (HPair.num p != (1 : Int)) (some { v := V.int IntKind.i64 (7 : Int), bx := [] : DRes }) (cond (HPair.kind p == (1 : Int)) (cond (HPair.num p != (0 : Int)) (cond (HPair.num p != (0 : Int)) (some { v := V.int IntKind.i64 (4 : Int), bx := [] : DRes }) (cond (Prod.snd (N.find (List.map (fun r => { key := V.toStr (List.getD r (0 : Nat) V.undef), kind := V.toInt (List.getD r (1 : Nat) V.undef), num := V.toInt (List.getD r (2 : Nat) V.undef), text := V.toStr (List.getD r (3 : Nat) V.undef) : HPair }) (List.map (fun p => [V.str (HPair.key p), V.int IntKind.u8 (HPair.kind p), V.int IntKind.i64 (HPair.num p), V.str (HPair.text p)]) l)) (HPair.key p))) (some { v := V.int IntKind.i64 (9 : Int), bx := [] : DRes }) (some { v := V.int IntKind.i64 (0 : Int), bx := [] : DRes }))) (cond (HPair.kind p != (1 : Int)) (cond (!HPair.text p == []) (some { v := V.int IntKind.i64 (4 : Int), bx := [] : DRes }) (cond (Prod.snd (N.find (List.map (fun r => { key := V.toStr (List.getD r (0 : Nat) V.undef), kind := V.toInt (List.getD r (1 : Nat) V.undef), num := V.toInt (List.getD r (2 : Nat) V.undef), text := V.toStr (List.getD r (3 : Nat) V.undef) : HPair }) (List.map (fun p => [V.str (HPair.key p), V.int IntKind.u8 (HPair.kind p), V.int IntKind.i64 (HPair.num p), V.str (HPair.text p)]) l)) (HPair.key p))) (some { v := V.int IntKind.i64 (9 : Int), bx := [] : DRes }) (some { v := V.int IntKind.i64 (0 : Int), bx := [] : DRes }))) (cond (Prod.snd (N.find (List.map (fun r => { key := V.toStr (List.getD r (0 : Nat) V.undef), kind := V.toInt (List.getD r (1 : Nat) V.undef), num := V.toInt (List.getD r (2 : Nat) V.undef), text := V.toStr (List.getD r (3 : Nat) V.undef) : HPair }) (List.map (fun p => [V.str (HPair.key p), V.int IntKind.u8 (HPair.kind p), V.int IntKind.i64 (HPair.num p), V.str (HPair.text p)]) l)) (HPair.key p))) (some { v := V.int IntKind.i64 (9 : Int), bx := [] : DRes }) (some { v := V.int IntKind.i64 (0 : Int), bx := [] : DRes })))) (cond (HPair.kind p != (1 : Int)) (cond (!HPair.text p == []) (some { v := V.int IntKind.i64 (4 : Int), bx := [] : DRes }) (cond (Prod.snd (N.find (List.map (fun r => { key := V.toStr (List.getD r (0 : Nat) V.undef), kind := V.toInt (List.getD r (1 : Nat) V.undef), num := V.toInt (List.getD r (2 : Nat) V.undef), text := V.toStr (List.getD r (3 : Nat) V.undef) : HPair }) (List.map (fun p => [V.str (HPair.key p), V.int IntKind.u8 (HPair.kind p), V.int IntKind.i64 (HPair.num p), V.str (HPair.text p)]) l)) (HPair.key p))) (some { v := V.int IntKind.i64 (9 : Int), bx := [] : DRes }) (some { v := V.int IntKind.i64 (0 : Int), bx := [] : DRes }))) (cond (Prod.snd (N.find (List.map (fun r => { key := V.toStr (List.getD r (0 : Nat) V.undef), kind := V.toInt (List.getD r (1 : Nat) V.undef), num := V.toInt (List.getD r (2 : Nat) V.undef), text := V.toStr (List.getD r (3 : Nat) V.undef) : HPair }) (List.map (fun p => [V.str (HPair.key p), V.int IntKind.u8 (HPair.kind p), V.int IntKind.i64 (HPair.num p), V.str (HPair.text p)]) l)) (HPair.key p))) (some { v := V.int IntKind.i64 (9 : Int), bx := [] : DRes }) (some { v := V.int IntKind.i64 (0 : Int), bx := [] : DRes }))))) (cond (HPair.kind p == (1 : Int)) (cond (HPair.num p != (0 : Int)) (cond (HPair.num p != (0 : Int)) (some { v := V.int IntKind.i64 (4 : Int), bx := [] : DRes }) (cond (Prod.snd (N.find (List.map (fun r => { key := V.toStr (List.getD r (0 : Nat) V.undef), kind := V.toInt (List.getD r (1 : Nat) V.undef), num := V.toInt (List.getD r (2 : Nat) V.undef), text := V.toStr (List.getD r (3 : Nat) V.undef) : HPair }) (List.map (fun p => [V.str (HPair.key p), V.int IntKind.u8 (HPair.kind p), V.int IntKind.i64 (HPair.num p), V.str (HPair.text p)]) l)) (HPair.key p))) (some { v := V.int IntKind.i64 (9 : Int), bx := [] : DRes }) (some { v := V.int IntKind.i64 (0 : Int), bx := [] : DRes }))) (cond (HPair.kind p != (1 : Int)) (cond (!HPair.text p == []) (some { v := V.int IntKind.i64 (4 : Int), bx := [] : DRes }) (cond (Prod.snd (N.find (List.map (fun r => { key := V.toStr (List.getD r (0 : Nat) V.undef), kind := V.toInt (List.getD r (1 : Nat) V.undef), num := V.toInt (List.getD r (2 : Nat) V.undef), text := V.toStr (List.getD r (3 : Nat) V.undef) : HPair }) (List.map (fun p => [V.str (HPair.key p), V.int IntKind.u8 (HPair.kind p), V.int IntKind.i64 (HPair.num p), V.str (HPair.text p)]) l)) (HPair.key p))) (some { v := V.int IntKind.i64 (9 : Int), bx := [] : DRes }) (some { v := V.int IntKind.i64 (0 : Int), bx := [] : DRes }))) (cond (Prod.snd (N.find (List.map (fun r => { key := V.toStr (List.getD r (0 : Nat) V.undef), kind := V.toInt (List.getD r (1 : Nat) V.undef), num := V.toInt (List.getD r (2 : Nat) V.undef), text := V.toStr (List.getD r (3 : Nat) V.undef) : HPair }) (List.map (fun p => [V.str (HPair.key p), V.int IntKind.u8 (HPair.kind p), V.int IntKind.i64 (HPair.num p), V.str (HPair.text p)]) l)) (HPair.key p))) (some { v := V.int IntKind.i64 (9 : Int), bx := [] : DRes }) (some { v := V.int IntKind.i64 (0 : Int), bx := [] : DRes })))) (cond (HPair.kind p != (1 : Int)) (cond (!HPair.text p == []) (some { v := V.int IntKind.i64 (4 : Int), bx := [] : DRes }) (cond (Prod.snd (N.find (List.map (fun r => { key := V.toStr (List.getD r (0 : Nat) V.undef), kind := V.toInt (List.getD r (1 : Nat) V.undef), num := V.toInt (List.getD r (2 : Nat) V.undef), text := V.toStr (List.getD r (3 : Nat) V.undef) : HPair }) (List.map (fun p => [V.str (HPair.key p), V.int IntKind.u8 (HPair.kind p), V.int IntKind.i64 (HPair.num p), V.str (HPair.text p)]) l)) (HPair.key p))) (some { v := V.int IntKind.i64 (9 : Int), bx := [] : DRes }) (some { v := V.int IntKind.i64 (0 : Int), bx := [] : DRes }))) (cond (Prod.snd (N.find (List.map (fun r => { key := V.toStr (List.getD r (0 : Nat) V.undef), kind := V.toInt (List.getD r (1 : Nat) V.undef), num := V.toInt (List.getD r (2 : Nat) V.undef), text := V.toStr (List.getD r (3 : Nat) V.undef) : HPair }) (List.map (fun p => [V.str (HPair.key p), V.int IntKind.u8 (HPair.kind p), V.int IntKind.i64 (HPair.num p), V.str (HPair.text p)]) l)) (HPair.key p))) (some { v := V.int IntKind.i64 (9 : Int), bx := [] : DRes }) (some { v := V.int IntKind.i64 (0 : Int), bx := [] : DRes }))))) (cond (HPair.kind p == (1 : Int)) (cond (HPair.num p != (0 : Int)) (cond (HPair.num p != (0 : Int)) (some { v := V.int IntKind.i64 (4 : Int), bx := [] : DRes }) (cond (Prod.snd (N.find (List.map (fun r => { key := V.toStr (List.getD r (0 : Nat) V.undef), kind := V.toInt (List.getD r (1 : Nat) V.undef), num := V.toInt (List.getD r (2 : Nat) V.undef), text := V.toStr (List.getD r (3 : Nat) V.undef) : HPair }) (List.map (fun p => [V.str (HPair.key p), V.int IntKind.u8 (HPair.kind p), V.int IntKind.i64 (HPair.num p), V.str (HPair.text p)]) l)) (HPair.key p))) (some { v := V.int IntKind.i64 (9 : Int), bx := [] : DRes }) (some { v := V.int IntKind.i64 (0 : Int), bx := [] : DRes }))) (cond (HPair.kind p != (1 : Int)) (cond (!HPair.text p == []) (some { v := V.int IntKind.i64 (4 : Int), bx := [] : DRes }) (cond (Prod.snd (N.find (List.map (fun r => { key := V.toStr (List.getD r (0 : Nat) V.undef), kind := V.toInt (List.getD r (1 : Nat) V.undef), num := V.toInt (List.getD r (2 : Nat) V.undef), text := V.toStr (List.getD r (3 : Nat) V.undef) : HPair }) (List.map (fun p => [V.str (HPair.key p), V.int IntKind.u8 (HPair.kind p), V.int IntKind.i64 (HPair.num p), V.str (HPair.text p)]) l)) (HPair.key p))) (some { v := V.int IntKind.i64 (9 : Int), bx := [] : DRes }) (some { v := V.int IntKind.i64 (0 : Int), bx := [] : DRes }))) (cond (Prod.snd (N.find (List.map (fun r => { key := V.toStr (List.getD r (0 : Nat) V.undef), kind := V.toInt (List.getD r (1 : Nat) V.undef), num := V.toInt (List.getD r (2 : Nat) V.undef), text := V.toStr (List.getD r (3 : Nat) V.undef) : HPair }) (List.map (fun p => [V.str (HPair.key p), V.int IntKind.u8 (HPair.kind p), V.int IntKind.i64 (HPair.num p), V.str (HPair.text p)]) l)) (HPair.key p))) (some { v := V.int IntKind.i64 (9 : Int), bx := [] : DRes }) (some { v := V.int IntKind.i64 (0 : Int), bx := [] : DRes })))) (cond (HPair.kind p != (1 : Int)) (cond (!HPair.text p == []) (some { v := V.int IntKind.i64 (4 : Int), bx := [] : DRes }) (cond (Prod.snd (N.find (List.map (fun r => { key := V.toStr (List.getD r (0 : Nat) V.undef), kind := V.toInt (List.getD r (1 : Nat) V.undef), num := V.toInt (List.getD r (2 : Nat) V.undef), text := V.toStr (List.getD r (3 : Nat) V.undef) : HPair }) (List.map (fun p => [V.str (HPair.key p), V.int IntKind.u8 (HPair.kind p), V.int IntKind.i64 (HPair.num p), V.str (HPair.text p)]) l)) (HPair.key p))) (some { v := V.int IntKind.i64 (9 : Int), bx := [] : DRes }) (some { v := V.int IntKind.i64 (0 : Int), bx := [] : DRes }))) (cond (Prod.snd (N.find (List.map (fun r => { key := V.toStr (List.getD r (0 : Nat) V.undef), kind := V.toInt (List.getD r (1 : Nat) V.undef), num := V.toInt (List.getD r (2 : Nat) V.undef), text := V.toStr (List.getD r (3 : Nat) V.undef) : HPair }) (List.map (fun p => [V.str (HPair.key p), V.int IntKind.u8 (HPair.kind p), V.int IntKind.i64 (HPair.num p), V.str (HPair.text p)]) l)) (HPair.key p))) (some { v := V.int IntKind.i64 (9 : Int), bx := [] : DRes }) (some { v := V.int IntKind.i64 (0 : Int), bx := [] : DRes })))))) (cond (HPair.kind p == (2 : Int)) (cond (HPair.num p != (0 : Int)) (cond (HPair.num p != (1 : Int)) (some { v := V.int IntKind.i64 (7 : Int), bx := [] : DRes }) (cond (HPair.kind p == (1 : Int)) (cond (HPair.num p != (0 : Int)) (cond (HPair.num p != (0 : Int)) (some { v := V.int IntKind.i64 (4 : Int), bx := [] : DRes }) (cond (Prod.snd (N.find (List.map (fun r => { key := V.toStr (List.getD r (0 : Nat) V.undef), kind := V.toInt (List.getD r (1 : Nat) V.undef), num := V.toInt (List.getD r (2 : Nat) V.undef), text := V.toStr (List.getD r (3 : Nat) V.undef) : HPair }) (List.map (fun p => [V.str (HPair.key p), V.int IntKind.u8 (HPair.kind p), V.int IntKind.i64 (HPair.num p), V.str (HPair.text p)]) l)) (HPair.key p))) (some { v := V.int IntKind.i64 (9 : Int), bx := [] : DRes }) (some { v := V.int IntKind.i64 (0 : Int), bx := [] : DRes }))) (cond (HPair.kind p != (1 : Int)) (cond (!HPair.text p == []) (some { v := V.int IntKind.i64 (4 : Int), bx := [] : DRes }) (cond (Prod.snd (N.find (List.map (fun r => { key := V.toStr (List.getD r (0 : Nat) V.undef), kind := V.toInt (List.getD r (1 : Nat) V.undef), num := V.toInt (List.getD r (2 : Nat) V.undef), text := V.toStr (List.getD r (3 : Nat) V.undef) : HPair }) (List.map (fun p => [V.str (HPair.key p), V.int IntKind.u8 (HPair.kind p), V.int IntKind.i64 (HPair.num p), V.str (HPair.text p)]) l)) (HPair.key p))) (some { v := V.int IntKind.i64 (9 : Int), bx := [] : DRes }) (some { v := V.int IntKind.i64 (0 : Int), bx := [] : DRes }))) (cond (Prod.snd (N.find (List.map (fun r => { key := V.toStr (List.getD r (0 : Nat) V.undef), kind := V.toInt (List.getD r (1 : Nat) V.undef), num := V.toInt (List.getD r (2 : Nat) V.undef), text := V.toStr (List.getD r (3 : Nat) V.undef) : HPair }) (List.map (fun p => [V.str (HPair.key p), V.int IntKind.u8 (HPair.kind p), V.int IntKind.i64 (HPair.num p), V.str (HPair.text p)]) l)) (HPair.key p))) (some { v := V.int IntKind.i64 (9 : Int), bx := [] : DRes }) (some { v := V.int IntKind.i64 (0 : Int), bx := [] : DRes })))) (cond (HPair.kind p != (1 : Int)) (cond (!HPair.text p == []) (some { v := V.int IntKind.i64 (4 : Int), bx := [] : DRes }) (cond (Prod.snd (N.find (List.map (fun r => { key := V.toStr (List.getD r (0 : Nat) V.undef), kind := V.toInt (List.getD r (1 : Nat) V.undef), num := V.toInt (List.getD r (2 : Nat) V.undef), text := V.toStr (List.getD r (3 : Nat) V.undef) : HPair }) (List.map (fun p => [V.str (HPair.key p), V.int IntKind.u8 (HPair.kind p), V.int IntKind.i64 (HPair.num p), V.str (HPair.text p)]) l)) (HPair.key p))) (some { v := V.int IntKind.i64 (9 : Int), bx := [] : DRes }) (some { v := V.int IntKind.i64 (0 : Int), bx := [] : DRes }))) (cond (Prod.snd (N.find (List.map (fun r => { key := V.toStr (List.getD r (0 : Nat) V.undef), kind := V.toInt (List.getD r (1 : Nat) V.undef), num := V.toInt (List.getD r (2 : Nat) V.undef), text := V.toStr (List.getD r (3 : Nat) V.undef) : HPair }) (List.map (fun p => [V.str (HPair.key p), V.int IntKind.u8 (HPair.kind p), V.int IntKind.i64 (HPair.num p), V.str (HPair.text p)]) l)) (HPair.key p))) (some { v := V.int IntKind.i64 (9 : Int), bx := [] : DRes }) (some { v := V.int IntKind.i64 (0 : Int), bx := [] : DRes }))))) (cond (HPair.kind p == (1 : Int)) (cond (HPair.num p != (0 : Int)) (cond (HPair.num p != (0 : Int)) (some { v := V.int IntKind.i64 (4 : Int), bx := [] : DRes }) (cond (Prod.snd (N.find (List.map (fun r => { key := V.toStr (List.getD r (0 : Nat) V.undef), kind := V.toInt (List.getD r (1 : Nat) V.undef), num := V.toInt (List.getD r (2 : Nat) V.undef), text := V.toStr (List.getD r (3 : Nat) V.undef) : HPair }) (List.map (fun p => [V.str (HPair.key p), V.int IntKind.u8 (HPair.kind p), V.int IntKind.i64 (HPair.num p), V.str (HPair.text p)]) l)) (HPair.key p))) (some { v := V.int IntKind.i64 (9 : Int), bx := [] : DRes }) (some { v := V.int IntKind.i64 (0 : Int), bx := [] : DRes }))) (cond (HPair.kind p != (1 : Int)) (cond (!HPair.text p == []) (some { v := V.int IntKind.i64 (4 : Int), bx := [] : DRes }) (cond (Prod.snd (N.find (List.map (fun r => { key := V.toStr (List.getD r (0 : Nat) V.undef), kind := V.toInt (List.getD r (1 : Nat) V.undef), num := V.toInt (List.getD r (2 : Nat) V.undef), text := V.toStr (List.getD r (3 : Nat) V.undef) : HPair }) (List.map (fun p => [V.str (HPair.key p), V.int IntKind.u8 (HPair.kind p), V.int IntKind.i64 (HPair.num p), V.str (HPair.text p)]) l)) (HPair.key p))) (some { v := V.int IntKind.i64 (9 : Int), bx := [] : DRes }) (some { v := V.int IntKind.i64 (0 : Int), bx := [] : DRes }))) (cond (Prod.snd (N.find (List.map (fun r => { key := V.toStr (List.getD r (0 : Nat) V.undef), kind := V.toInt (List.getD r (1 : Nat) V.undef), num := V.toInt (List.getD r (2 : Nat) V.undef), text := V.toStr (List.getD r (3 : Nat) V.undef) : HPair }) (List.map (fun p => [V.str (HPair.key p), V.int IntKind.u8 (HPair.kind p), V.int IntKind.i64 (HPair.num p), V.str (HPair.text p)]) l)) (HPair.key p))) (some { v := V.int IntKind.i64 (9 : Int), bx := [] : DRes }) (some { v := V.int IntKind.i64 (0 : Int), bx := [] : DRes })))) (cond (HPair.kind p != (1 : Int)) (cond (!HPair.text p == []) (some { v := V.int IntKind.i64 (4 : Int), bx := [] : DRes }) (cond (Prod.snd (N.find (List.map (fun r => { key := V.toStr (List.getD r (0 : Nat) V.undef), kind := V.toInt (List.getD r (1 : Nat) V.undef), num := V.toInt (List.getD r (2 : Nat) V.undef), text := V.toStr (List.getD r (3 : Nat) V.undef) : HPair }) (List.map (fun p => [V.str (HPair.key p), V.int IntKind.u8 (HPair.kind p), V.int IntKind.i64 (HPair.num p), V.str (HPair.text p)]) l)) (HPair.key p))) (some { v := V.int IntKind.i64 (9 : Int), bx := [] : DRes }) (some { v := V.int IntKind.i64 (0 : Int), bx := [] : DRes }))) (cond (Prod.snd (N.find (List.map (fun r => { key := V.toStr (List.getD r (0 : Nat) V.undef), kind := V.toInt (List.getD r (1 : Nat) V.undef), num := V.toInt (List.getD r (2 : Nat) V.undef), text := V.toStr (List.getD r (3 : Nat) V.undef) : HPair }) (List.map (fun p => [V.str (HPair.key p), V.int IntKind.u8 (HPair.kind p), V.int IntKind.i64 (HPair.num p), V.str (HPair.text p)]) l)) (HPair.key p))) (some { v := V.int IntKind.i64 (9 : Int), bx := [] : DRes }) (some { v := V.int IntKind.i64 (0 : Int), bx := [] : DRes }))))) (cond (HPair.kind p == (1 : Int)) (cond (HPair.num p != (0 : Int)) (cond (HPair.num p != (0 : Int)) (some { v := V.int IntKind.i64 (4 : Int), bx := [] : DRes }) (cond (Prod.snd (N.find (List.map (fun r => { key := V.toStr (List.getD r (0 : Nat) V.undef), kind := V.toInt (List.getD r (1 : Nat) V.undef), num := V.toInt (List.getD r (2 : Nat) V.undef), text := V.toStr (List.getD r (3 : Nat) V.undef) : HPair }) (List.map (fun p => [V.str (HPair.key p), V.int IntKind.u8 (HPair.kind p), V.int IntKind.i64 (HPair.num p), V.str (HPair.text p)]) l)) (HPair.key p))) (some { v := V.int IntKind.i64 (9 : Int), bx := [] : DRes }) (some { v := V.int IntKind.i64 (0 : Int), bx := [] : DRes }))) (cond (HPair.kind p != (1 : Int)) (cond (!HPair.text p == []) (some { v := V.int IntKind.i64 (4 : Int), bx := [] : DRes }) (cond (Prod.snd (N.find (List.map (fun r => { key := V.toStr (List.getD r (0 : Nat) V.undef), kind := V.toInt (List.getD r (1 : Nat) V.undef), num := V.toInt (List.getD r (2 : Nat) V.undef), text := V.toStr (List.getD r (3 : Nat) V.undef) : HPair }) (List.map (fun p => [V.str (HPair.key p), V.int IntKind.u8 (HPair.kind p), V.int IntKind.i64 (HPair.num p), V.str (HPair.text p)]) l)) (HPair.key p))) (some { v := V.int IntKind.i64 (9 : Int), bx := [] : DRes }) (some { v := V.int IntKind.i64 (0 : Int), bx := [] : DRes }))) (cond (Prod.snd (N.find (List.map (fun r => { key := V.toStr (List.getD r (0 : Nat) V.undef), kind := V.toInt (List.getD r (1 : Nat) V.undef), num := V.toInt (List.getD r (2 : Nat) V.undef), text := V.toStr (List.getD r (3 : Nat) V.undef) : HPair }) (List.map (fun p => [V.str (HPair.key p), V.int IntKind.u8 (HPair.kind p), V.int IntKind.i64 (HPair.num p), V.str (HPair.text p)]) l)) (HPair.key p))) (some { v := V.int IntKind.i64 (9 : Int), bx := [] : DRes }) (some { v := V.int IntKind.i64 (0 : Int), bx := [] : DRes })))) (cond (HPair.kind p != (1 : Int)) (cond (!HPair.text p == []) (some { v := V.int IntKind.i64 (4 : Int), bx := [] : DRes }) (cond (Prod.snd (N.find (List.map (fun r => { key := V.toStr (List.getD r (0 : Nat) V.undef), kind := V.toInt (List.getD r (1 : Nat) V.undef), num := V.toInt (List.getD r (2 : Nat) V.undef), text := V.toStr (List.getD r (3 : Nat) V.undef) : HPair }) (List.map (fun p => [V.str (HPair.key p), V.int IntKind.u8 (HPair.kind p), V.int IntKind.i64 (HPair.num p), V.str (HPair.text p)]) l)) (HPair.key p))) (some { v := V.int IntKind.i64 (9 : Int), bx := [] : DRes }) (some { v := V.int IntKind.i64 (0 : Int), bx := [] : DRes }))) (cond (Prod.snd (N.find (List.map (fun r => { key := V.toStr (List.getD r (0 : Nat) V.undef), kind := V.toInt (List.getD r (1 : Nat) V.undef), num := V.toInt (List.getD r (2 : Nat) V.undef), text := V.toStr (List.getD r (3 : Nat) V.undef) : HPair }) (List.map (fun p => [V.str (HPair.key p), V.int IntKind.u8 (HPair.kind p), V.int IntKind.i64 (HPair.num p), V.str (HPair.text p)]) l)) (HPair.key p))) (some { v := V.int IntKind.i64 (9 : Int), bx := [] : DRes }) (some { v := V.int IntKind.i64 (0 : Int), bx := [] : DRes }))))))) (none)) := by kernel_rfl
theorem ok_pairE : FnOk Tryd.prog 86 dPairE := by
  refine den_okF (env_ok (((TOk.nil _).cons ok_find).cons ok_name)) (E := ePairE) Tryd.func86 [] (by kernel_rfl) none0 fun a _ h => ?_
  obtain ⟨p, l⟩ := a
  have h : l.length ≤ 1000000 := ble_of h
  refine (q_pairE p l).trans ?_
  show _ = some (⟨.int .i64 (N.pairE p l), [], []⟩ : DRes)
  unfold N.pairE
  simp (disch := omega) only [evs, pairs_enc, bne]
  cases N.name p.key == 0 with
  | false => rfl
  | true =>
    cases ilt 2 p.kind with
    | true => rfl
    | false =>
      cases h1 : p.kind == 1 <;> cases ilt 64 p.text.length <;> cases p.kind == 2 <;> cases p.num == 0 <;> cases p.num == 1 <;> cases p.text == [] <;> cases (N.find l p.key).2 <;> rfl
def schHeadCheck : SSch := { fr := [(0, .slc [.str, .int .u8, .int .i64, .str]), (9, .slc [.str, .int .u8, .int .i64, .str]), (10, .int .i64), (11, .int .i64)], tab := [] }
def gHeadCheck : List Leaf → (Ex → St → Option R) → Option R
  | [.r r0, .r r9, .i i10, .i i11], K => cond (i10 == r9.length) (cond (Nat.beq r0.length r9.length) (cond (ile 0 i11) (cond (Nat.ble r0.length LIM) (cond (N.samePs (rowsP r0) (rowsP r9))
      (cond (N.checkFrom (rowsP r9) (r9.length - i11.toNat) i11 != 0) (K .ret { fr := [(2, .int .i64 (N.checkFrom (rowsP r9) (r9.length - i11.toNat) i11))], tab := [] }) (K (.exit 0) { fr := [], tab := [] })) none) none) none) none) none
  | _, _ => none
noncomputable def eHeadCheck : Env := env Tryd.prog [(86, dPairE)] [(4, loopF schHeadCheck gHeadCheck)] [(4, [(0, [0, 9, 10, 11]), (1, []), (1000, [2])])]
theorem q_headCheck (h : List HPair) : evFn eHeadCheck 51 ((aOne (vSl cPair)).enc h) ([]) some =
 cond (ilt (8 : Int) (↑(List.length (List.map (fun p => [V.str (HPair.key p), V.int IntKind.u8 (HPair.kind p), V.int IntKind.i64 (HPair.num p), V.str (HPair.text p)]) h)) : Int)) (some { v := V.int IntKind.i64 (6 : Int), bx := [] : DRes }) (cond ((↑(List.length (List.map (fun p => [V.str (HPair.key p), V.int IntKind.u8 (HPair.kind p), V.int IntKind.i64 (HPair.num p), V.str (HPair.text p)]) h)) : Int) == (↑(List.length (List.map (fun p => [V.str (HPair.key p), V.int IntKind.u8 (HPair.kind p), V.int IntKind.i64 (HPair.num p), V.str (HPair.text p)]) h)) : Int)) (cond (Nat.beq (List.length (List.map (fun p => [V.str (HPair.key p), V.int IntKind.u8 (HPair.kind p), V.int IntKind.i64 (HPair.num p), V.str (HPair.text p)]) h)) (List.length (List.map (fun p => [V.str (HPair.key p), V.int IntKind.u8 (HPair.kind p), V.int IntKind.i64 (HPair.num p), V.str (HPair.text p)]) h))) (cond (Nat.ble (List.length (List.map (fun p => [V.str (HPair.key p), V.int IntKind.u8 (HPair.kind p), V.int IntKind.i64 (HPair.num p), V.str (HPair.text p)]) h)) (1000000 : Nat)) (cond (N.samePs (List.map (fun r => { key := V.toStr (List.getD r (0 : Nat) V.undef), kind := V.toInt (List.getD r (1 : Nat) V.undef), num := V.toInt (List.getD r (2 : Nat) V.undef), text := V.toStr (List.getD r (3 : Nat) V.undef) : HPair }) (List.map (fun p => [V.str (HPair.key p), V.int IntKind.u8 (HPair.kind p), V.int IntKind.i64 (HPair.num p), V.str (HPair.text p)]) h)) (List.map (fun r => { key := V.toStr (List.getD r (0 : Nat) V.undef), kind := V.toInt (List.getD r (1 : Nat) V.undef), num := V.toInt (List.getD r (2 : Nat) V.undef), text := V.toStr (List.getD r (3 : Nat) V.undef) : HPair }) (List.map (fun p => [V.str (HPair.key p), V.int IntKind.u8 (HPair.kind p), V.int IntKind.i64 (HPair.num p), V.str (HPair.text p)]) h))) (cond (N.checkFrom (List.map (fun r => { key := V.toStr (List.getD r (0 : Nat) V.undef), kind := V.toInt (List.getD r (1 : Nat) V.undef), num := V.toInt (List.getD r (2 : Nat) V.undef), text := V.toStr (List.getD r (3 : Nat) V.undef) : HPair }) (List.map (fun p => [V.str (HPair.key p), V.int IntKind.u8 (HPair.kind p), V.int IntKind.i64 (HPair.num p), V.str (HPair.text p)]) h)) (List.length (List.map (fun p => [V.str (HPair.key p), V.int IntKind.u8 (HPair.kind p), V.int IntKind.i64 (HPair.num p), V.str (HPair.text p)]) h) - (0 : Nat)) (0 : Int) != (0 : Int)) (some { v := V.int IntKind.i64 (N.checkFrom (List.map (fun r => { key := V.toStr (List.getD r (0 : Nat) V.undef), kind := V.toInt (List.getD r (1 : Nat) V.undef), num := V.toInt (List.getD r (2 : Nat) V.undef), text := V.toStr (List.getD r (3 : Nat) V.undef) : HPair }) (List.map (fun p => [V.str (HPair.key p), V.int IntKind.u8 (HPair.kind p), V.int IntKind.i64 (HPair.num p), V.str (HPair.text p)]) h)) (List.length (List.map (fun p => [V.str (HPair.key p), V.int IntKind.u8 (HPair.kind p), V.int IntKind.i64 (HPair.num p), V.str (HPair.text p)]) h) - (0 : Nat)) (0 : Int)), bx := [] : DRes }) (some { v := V.int IntKind.i64 (0 : Int), bx := [] : DRes })) (none)) (none)) (none)) (none)) := by kernel_rfl
theorem q_headCheckR (r0 : List (List V)) (r9 : List (List V)) (i11 : Int) (K : Ex → St → Option R) : evRound eHeadCheck 51 4 { fr := [(0, .slc [.str, .int .u8, .int .i64, .str] r0), (9, .slc [.str, .int .u8, .int .i64, .str] r9), (10, .int .i64 r9.length), (11, .int .i64 i11)], tab := [] } K =
 cond (ilt i11 (↑(List.length r9) : Int)) (cond (decide ((0 : Int) ≤ i11 ∧ i11 < (↑(List.length r9) : Int))) (cond (decide ((0 : Int) ≤ i11 ∧ i11 ≤ (↑(List.length r0) : Int))) (cond (Nat.ble (List.length (List.map (fun r => { key := V.toStr (List.getD r (0 : Nat) V.undef), kind := V.toInt (List.getD r (1 : Nat) V.undef), num := V.toInt (List.getD r (2 : Nat) V.undef), text := V.toStr (List.getD r (3 : Nat) V.undef) : HPair }) (List.drop (0 : Nat) (List.take (Int.toNat i11) r0)))) (1000000 : Nat)) (cond (N.pairE { key := V.toStr (List.getD (List.getD r9 (Int.toNat i11) []) (0 : Nat) V.undef), kind := V.toInt (List.getD (List.getD r9 (Int.toNat i11) []) (1 : Nat) V.undef), num := V.toInt (List.getD (List.getD r9 (Int.toNat i11) []) (2 : Nat) V.undef), text := V.toStr (List.getD (List.getD r9 (Int.toNat i11) []) (3 : Nat) V.undef) : HPair } (List.map (fun r => { key := V.toStr (List.getD r (0 : Nat) V.undef), kind := V.toInt (List.getD r (1 : Nat) V.undef), num := V.toInt (List.getD r (2 : Nat) V.undef), text := V.toStr (List.getD r (3 : Nat) V.undef) : HPair }) (List.drop (0 : Nat) (List.take (Int.toNat i11) r0))) != (0 : Int)) (K Ex.ret { fr := [((2 : Nat), V.int IntKind.i64 (N.pairE { key := V.toStr (List.getD (List.getD r9 (Int.toNat i11) []) (0 : Nat) V.undef), kind := V.toInt (List.getD (List.getD r9 (Int.toNat i11) []) (1 : Nat) V.undef), num := V.toInt (List.getD (List.getD r9 (Int.toNat i11) []) (2 : Nat) V.undef), text := V.toStr (List.getD (List.getD r9 (Int.toNat i11) []) (3 : Nat) V.undef) : HPair } (List.map (fun r => { key := V.toStr (List.getD r (0 : Nat) V.undef), kind := V.toInt (List.getD r (1 : Nat) V.undef), num := V.toInt (List.getD r (2 : Nat) V.undef), text := V.toStr (List.getD r (3 : Nat) V.undef) : HPair }) (List.drop (0 : Nat) (List.take (Int.toNat i11) r0)))))], tab := [] : St }) (K Ex.normal { fr := [((0 : Nat), V.slc [Sh.str, Sh.int IntKind.u8, Sh.int IntKind.i64, Sh.str] r0), ((9 : Nat), V.slc [Sh.str, Sh.int IntKind.u8, Sh.int IntKind.i64, Sh.str] r9), ((10 : Nat), V.int IntKind.i64 (↑(List.length r9) : Int)), ((11 : Nat), V.int IntKind.i64 (IntKind.wrap IntKind.i64 (i11 + (1 : Int))))], tab := [] : St })) (none)) (none)) (none)) (K (Ex.exit (0 : Nat)) { fr := [], tab := [] : St }) := by kernel_rfl
theorem samePs_refl : ∀ l, N.samePs l l = true
  | [] => rfl
  | p :: l => by
    unfold N.samePs N.eqP
    rw [samePs_refl l]; simp
theorem eqP_eq {p q : HPair} (h : N.eqP p q = true) : p = q := by
  unfold N.eqP at h
  simp only [Bool.and_eq_true, beq_iff_eq, and_true] at h
  cases p; cases q; simp_all
theorem samePs_eq : ∀ {a b : List HPair}, N.samePs a b = true → a = b
  | [], [], _ => rfl
  | [], _ :: _, h => by cases h
  | _ :: _, [], h => by cases h
  | p :: a, q :: b, h => by
    unfold N.samePs at h
    cases e : N.eqP p q with
    | true => rw [e, cond_true] at h; rw [eqP_eq e, samePs_eq h]
    | false => rw [e] at h; cases h
theorem ok_headCheck : FnOk Tryd.prog 51 dHeadCheck := by
  refine den_okF (env_ok ((TOk.nil _).cons ok_pairE)) (E := eHeadCheck) Tryd.func51 [4] (by kernel_rfl) (one1 (rounds_of rfl fun l K q h => ?_)) fun h _ _ => ?_
  · unfold gHeadCheck at h
    split at h
    · rename_i r0 r n i
      have h1 := (cond_none h).1; replace h := (cond_none h).2; have h2 := (cond_none h).1; replace h := (cond_none h).2; have h3 := (cond_none h).1; replace h := (cond_none h).2; have h4 := (cond_none h).1; replace h := (cond_none h).2; have h5 := (cond_none h).1; replace h := (cond_none h).2
      have e1 := ieq_of h1
      subst e1
      have h2 := Nat.eq_of_beq_eq_true h2
      have h4 : r0.length ≤ 1000000 := ble_of h4
      have h5 := samePs_eq h5
      refine loop_ind (E := eHeadCheck) (f := 51) (id := 4) (fun i : Int => { fr := [(0, .slc [.str, .int .u8, .int .i64, .str] r0), (9, .slc [.str, .int .u8, .int .i64, .str] r), (10, .int .i64 r.length), (11, .int .i64 i)], tab := [] }) (fun i => 0 ≤ i) (fun i => r.length - i.toNat)
        (fun i11 K => cond (N.checkFrom (rowsP r) (r.length - i11.toNat) i11 != 0) (K .ret { fr := [(2, .int .i64 (N.checkFrom (rowsP r) (r.length - i11.toNat) i11))], tab := [] }) (K (.exit 0) { fr := [], tab := [] })) (fun i hi => ?_) i (ile_of h3) K q (by assumption)
      by_cases hl : i < r.length
      · have e : N.checkFrom (rowsP r) (r.length - i.toNat) i = cond (N.pairE (rowP (r.getD i.toNat [])) ((rowsP r).take i.toNat) != 0) (N.pairE (rowP (r.getD i.toNat [])) ((rowsP r).take i.toNat)) (N.checkFrom (rowsP r) (r.length - (i + 1).toNat) (i + 1)) := by
          rw [show r.length - i.toNat = (r.length - (i + 1).toNat) + 1 by omega, N.checkFrom, rowsP_getD]
        rw [e]
        have hm : List.map rowP (List.take i.toNat r0) = (rowsP r).take i.toNat := by rw [← h5, rowsP, List.map_take]
        unfold rowP at hm
        cases hc : N.pairE (rowP (r.getD i.toNat [])) ((rowsP r).take i.toNat) != 0 with
        | true =>
          rw [cond_true, hc]
          refine .inr ⟨.ret, _, by simp, fun K => ?_, fun K => rfl⟩
          rw [q_headCheckR]
          unfold rowP at hc
          simp (disch := omega) only [evs, hc, hm, List.length_take, List.drop_zero]
          rfl
        | false =>
          refine .inl ⟨i + 1, by omega, by omega, fun K => ?_, fun K => ?_⟩
          · rw [q_headCheckR]
            unfold rowP at hc
            simp (disch := omega) only [evs, hc, hm, List.length_take, List.drop_zero]
          · rw [cond_false]
      · refine .inr ⟨.exit 0, { fr := [], tab := [] }, by simp, fun K => ?_, fun K => ?_⟩
        · rw [q_headCheckR]
          simp (disch := omega) only [evs]
        · rw [show r.length - i.toNat = 0 by omega]; rfl
    · cases h
  · refine (q_headCheck h).trans ?_
    show _ = some (⟨.int .i64 (N.headCheck h), [], []⟩ : DRes)
    unfold N.headCheck
    by_cases hl : 8 < h.length
    · simp (disch := omega) only [evs]
    · simp (disch := omega) only [evs, pairs_enc, samePs_refl, Nat.sub_zero]
      cases hc : N.checkFrom h h.length 0 != 0 with
      | true => rfl
      | false =>
        have : N.checkFrom h h.length 0 = 0 := by simpa using hc
        rw [this]; rfl
def schHeadBytes : SSch := { fr := [(5, .ptr 10000 0 0), (18, .slc [.str, .int .u8, .int .i64, .str]), (19, .int .i64), (20, .int .i64)], tab := [(10000, .var [.str, .int .i64])] }
def gHeadBytes : List Leaf → (Ex → St → Option R) → Option R
  | [.r r, .i n, .i i, .s s, .i e], K => cond (n == r.length) (cond (e == 0) (cond (ile 0 i) (cond (Nat.ble r.length 8) (cond ((rowsP r).all N.fitP) (cond (ile s.length (1 + 150 * i))
      (K (.exit 0) { fr := [(5, .ptr 10000 0 0 0)], tab := [(10000, .var [.str (s ++ N.pairsB ((rowsP r).drop i.toNat)), .int .i64 0])] }) none) none) none) none) none) none
  | _, _ => none
noncomputable def eHeadBytes : Env := env Tryd.prog [(51, dHeadCheck), (75, dOutNum), (76, dOutText), (78, dOutString)] [(6, loopF schHeadBytes gHeadBytes)] [(6, [(0, [5, 18, 19, 20]), (1, [5]), (1000, [2, 3])])]
theorem q_headBytes (h : List HPair) : evFn eHeadBytes 74 ((aOne (vSl cPair)).enc h) ([]) some =
 cond (N.headCheck (List.map (fun r => { key := V.toStr (List.getD r (0 : Nat) V.undef), kind := V.toInt (List.getD r (1 : Nat) V.undef), num := V.toInt (List.getD r (2 : Nat) V.undef), text := V.toStr (List.getD r (3 : Nat) V.undef) : HPair }) (List.map (fun p => [V.str (HPair.key p), V.int IntKind.u8 (HPair.kind p), V.int IntKind.i64 (HPair.num p), V.str (HPair.text p)]) h)) != (0 : Int)) (some { v := V.tup [V.str [], V.int IntKind.i64 (N.headCheck (List.map (fun r => { key := V.toStr (List.getD r (0 : Nat) V.undef), kind := V.toInt (List.getD r (1 : Nat) V.undef), num := V.toInt (List.getD r (2 : Nat) V.undef), text := V.toStr (List.getD r (3 : Nat) V.undef) : HPair }) (List.map (fun p => [V.str (HPair.key p), V.int IntKind.u8 (HPair.kind p), V.int IntKind.i64 (HPair.num p), V.str (HPair.text p)]) h)))], bx := [] : DRes }) (cond (bif ilt (IntKind.wrap IntKind.u64 (↑(List.length (List.map (fun p => [V.str (HPair.key p), V.int IntKind.u8 (HPair.kind p), V.int IntKind.i64 (HPair.num p), V.str (HPair.text p)]) h)) : Int)) (18446744073709551616 : Int) then true else false) (cond ((↑(List.length (List.map (fun p => [V.str (HPair.key p), V.int IntKind.u8 (HPair.kind p), V.int IntKind.i64 (HPair.num p), V.str (HPair.text p)]) h)) : Int) == (↑(List.length (List.map (fun p => [V.str (HPair.key p), V.int IntKind.u8 (HPair.kind p), V.int IntKind.i64 (HPair.num p), V.str (HPair.text p)]) h)) : Int)) (cond (Nat.ble (List.length (List.map (fun p => [V.str (HPair.key p), V.int IntKind.u8 (HPair.kind p), V.int IntKind.i64 (HPair.num p), V.str (HPair.text p)]) h)) (8 : Nat)) (cond (List.all (List.map (fun r => { key := V.toStr (List.getD r (0 : Nat) V.undef), kind := V.toInt (List.getD r (1 : Nat) V.undef), num := V.toInt (List.getD r (2 : Nat) V.undef), text := V.toStr (List.getD r (3 : Nat) V.undef) : HPair }) (List.map (fun p => [V.str (HPair.key p), V.int IntKind.u8 (HPair.kind p), V.int IntKind.i64 (HPair.num p), V.str (HPair.text p)]) h)) N.fitP) (some { v := V.tup [V.str (OutS.s (N.outNum { s := [], err := (0 : Int) : OutS } (IntKind.wrap IntKind.u64 (↑(List.length (List.map (fun p => [V.str (HPair.key p), V.int IntKind.u8 (HPair.kind p), V.int IntKind.i64 (HPair.num p), V.str (HPair.text p)]) h)) : Int)) (1 : Int)) ++ N.pairsB (List.drop (0 : Nat) (List.map (fun r => { key := V.toStr (List.getD r (0 : Nat) V.undef), kind := V.toInt (List.getD r (1 : Nat) V.undef), num := V.toInt (List.getD r (2 : Nat) V.undef), text := V.toStr (List.getD r (3 : Nat) V.undef) : HPair }) (List.map (fun p => [V.str (HPair.key p), V.int IntKind.u8 (HPair.kind p), V.int IntKind.i64 (HPair.num p), V.str (HPair.text p)]) h)))), V.int IntKind.i64 (0 : Int)], bx := [] : DRes }) (none)) (none)) (none)) (none)) := by kernel_rfl
theorem q_headBytesR (r : List (List V)) (i : Int) (s : Bytes) (K : Ex → St → Option R) : evRound eHeadBytes 74 6 { fr := [(5, .ptr 10000 0 0 0), (18, .slc [.str, .int .u8, .int .i64, .str] r), (19, .int .i64 r.length), (20, .int .i64 i)], tab := [(10000, .var [.str s, .int .i64 0])] } K =
 cond (ilt i (↑(List.length r) : Int)) (cond (decide ((0 : Int) ≤ i ∧ i < (↑(List.length r) : Int))) (cond (Nat.ble (List.length s + List.length (V.toStr (List.getD (List.getD r (Int.toNat i) []) (0 : Nat) V.undef))) (9223372036854775790 : Nat)) (cond (bif ile (0 : Int) (IntKind.wrap IntKind.u64 (V.toInt (List.getD (List.getD r (Int.toNat i) []) (1 : Nat) V.undef))) then bif ilt (IntKind.wrap IntKind.u64 (V.toInt (List.getD (List.getD r (Int.toNat i) []) (1 : Nat) V.undef))) (18446744073709551616 : Int) then Nat.ble (List.length (OutS.s (N.outText { s := s, err := (0 : Int) : OutS } (V.toStr (List.getD (List.getD r (Int.toNat i) []) (0 : Nat) V.undef))))) (9223372036854775799 : Nat) else false else false) (cond (V.toInt (List.getD (List.getD r (Int.toNat i) []) (1 : Nat) V.undef) == (0 : Int)) (cond (bif ile (0 : Int) (IntKind.wrap IntKind.u64 (V.toInt (List.getD (List.getD r (Int.toNat i) []) (2 : Nat) V.undef))) then bif ilt (IntKind.wrap IntKind.u64 (V.toInt (List.getD (List.getD r (Int.toNat i) []) (2 : Nat) V.undef))) (18446744073709551616 : Int) then Nat.ble (List.length (OutS.s (N.outNum (N.outText { s := s, err := (0 : Int) : OutS } (V.toStr (List.getD (List.getD r (Int.toNat i) []) (0 : Nat) V.undef))) (IntKind.wrap IntKind.u64 (V.toInt (List.getD (List.getD r (Int.toNat i) []) (1 : Nat) V.undef))) (1 : Int)))) (9223372036854775799 : Nat) else false else false) (K Ex.normal { fr := [((5 : Nat), V.ptr (10000 : Nat) (0 : Nat) (0 : Nat) (0 : Nat)), ((18 : Nat), V.slc [Sh.str, Sh.int IntKind.u8, Sh.int IntKind.i64, Sh.str] r), ((19 : Nat), V.int IntKind.i64 (↑(List.length r) : Int)), ((20 : Nat), V.int IntKind.i64 (IntKind.wrap IntKind.i64 (i + (1 : Int))))], tab := [((10000 : Nat), Box.var [V.str (OutS.s (N.outNum (N.outNum (N.outText { s := s, err := (0 : Int) : OutS } (V.toStr (List.getD (List.getD r (Int.toNat i) []) (0 : Nat) V.undef))) (IntKind.wrap IntKind.u64 (V.toInt (List.getD (List.getD r (Int.toNat i) []) (1 : Nat) V.undef))) (1 : Int)) (IntKind.wrap IntKind.u64 (V.toInt (List.getD (List.getD r (Int.toNat i) []) (2 : Nat) V.undef))) (8 : Int))), V.int IntKind.i64 (OutS.err (N.outNum (N.outNum (N.outText { s := s, err := (0 : Int) : OutS } (V.toStr (List.getD (List.getD r (Int.toNat i) []) (0 : Nat) V.undef))) (IntKind.wrap IntKind.u64 (V.toInt (List.getD (List.getD r (Int.toNat i) []) (1 : Nat) V.undef))) (1 : Int)) (IntKind.wrap IntKind.u64 (V.toInt (List.getD (List.getD r (Int.toNat i) []) (2 : Nat) V.undef))) (8 : Int)))])] : St }) (none)) (cond (V.toInt (List.getD (List.getD r (Int.toNat i) []) (1 : Nat) V.undef) == (1 : Int)) (cond (Nat.ble (List.length (OutS.s (N.outNum (N.outText { s := s, err := (0 : Int) : OutS } (V.toStr (List.getD (List.getD r (Int.toNat i) []) (0 : Nat) V.undef))) (IntKind.wrap IntKind.u64 (V.toInt (List.getD (List.getD r (Int.toNat i) []) (1 : Nat) V.undef))) (1 : Int))) + List.length (V.toStr (List.getD (List.getD r (Int.toNat i) []) (3 : Nat) V.undef))) (9223372036854775790 : Nat)) (K Ex.normal { fr := [((5 : Nat), V.ptr (10000 : Nat) (0 : Nat) (0 : Nat) (0 : Nat)), ((18 : Nat), V.slc [Sh.str, Sh.int IntKind.u8, Sh.int IntKind.i64, Sh.str] r), ((19 : Nat), V.int IntKind.i64 (↑(List.length r) : Int)), ((20 : Nat), V.int IntKind.i64 (IntKind.wrap IntKind.i64 (i + (1 : Int))))], tab := [((10000 : Nat), Box.var [V.str (OutS.s (N.outText (N.outNum (N.outText { s := s, err := (0 : Int) : OutS } (V.toStr (List.getD (List.getD r (Int.toNat i) []) (0 : Nat) V.undef))) (IntKind.wrap IntKind.u64 (V.toInt (List.getD (List.getD r (Int.toNat i) []) (1 : Nat) V.undef))) (1 : Int)) (V.toStr (List.getD (List.getD r (Int.toNat i) []) (3 : Nat) V.undef)))), V.int IntKind.i64 (OutS.err (N.outText (N.outNum (N.outText { s := s, err := (0 : Int) : OutS } (V.toStr (List.getD (List.getD r (Int.toNat i) []) (0 : Nat) V.undef))) (IntKind.wrap IntKind.u64 (V.toInt (List.getD (List.getD r (Int.toNat i) []) (1 : Nat) V.undef))) (1 : Int)) (V.toStr (List.getD (List.getD r (Int.toNat i) []) (3 : Nat) V.undef))))])] : St }) (none)) (cond (V.toInt (List.getD (List.getD r (Int.toNat i) []) (1 : Nat) V.undef) == (2 : Int)) (cond (bif ile (0 : Int) (IntKind.wrap IntKind.u64 (V.toInt (List.getD (List.getD r (Int.toNat i) []) (2 : Nat) V.undef))) then bif ilt (IntKind.wrap IntKind.u64 (V.toInt (List.getD (List.getD r (Int.toNat i) []) (2 : Nat) V.undef))) (18446744073709551616 : Int) then Nat.ble (List.length (OutS.s (N.outNum (N.outText { s := s, err := (0 : Int) : OutS } (V.toStr (List.getD (List.getD r (Int.toNat i) []) (0 : Nat) V.undef))) (IntKind.wrap IntKind.u64 (V.toInt (List.getD (List.getD r (Int.toNat i) []) (1 : Nat) V.undef))) (1 : Int)))) (9223372036854775799 : Nat) else false else false) (K Ex.normal { fr := [((5 : Nat), V.ptr (10000 : Nat) (0 : Nat) (0 : Nat) (0 : Nat)), ((18 : Nat), V.slc [Sh.str, Sh.int IntKind.u8, Sh.int IntKind.i64, Sh.str] r), ((19 : Nat), V.int IntKind.i64 (↑(List.length r) : Int)), ((20 : Nat), V.int IntKind.i64 (IntKind.wrap IntKind.i64 (i + (1 : Int))))], tab := [((10000 : Nat), Box.var [V.str (OutS.s (N.outNum (N.outNum (N.outText { s := s, err := (0 : Int) : OutS } (V.toStr (List.getD (List.getD r (Int.toNat i) []) (0 : Nat) V.undef))) (IntKind.wrap IntKind.u64 (V.toInt (List.getD (List.getD r (Int.toNat i) []) (1 : Nat) V.undef))) (1 : Int)) (IntKind.wrap IntKind.u64 (V.toInt (List.getD (List.getD r (Int.toNat i) []) (2 : Nat) V.undef))) (1 : Int))), V.int IntKind.i64 (OutS.err (N.outNum (N.outNum (N.outText { s := s, err := (0 : Int) : OutS } (V.toStr (List.getD (List.getD r (Int.toNat i) []) (0 : Nat) V.undef))) (IntKind.wrap IntKind.u64 (V.toInt (List.getD (List.getD r (Int.toNat i) []) (1 : Nat) V.undef))) (1 : Int)) (IntKind.wrap IntKind.u64 (V.toInt (List.getD (List.getD r (Int.toNat i) []) (2 : Nat) V.undef))) (1 : Int)))])] : St }) (none)) (K Ex.normal { fr := [((5 : Nat), V.ptr (10000 : Nat) (0 : Nat) (0 : Nat) (0 : Nat)), ((18 : Nat), V.slc [Sh.str, Sh.int IntKind.u8, Sh.int IntKind.i64, Sh.str] r), ((19 : Nat), V.int IntKind.i64 (↑(List.length r) : Int)), ((20 : Nat), V.int IntKind.i64 (IntKind.wrap IntKind.i64 (i + (1 : Int))))], tab := [((10000 : Nat), Box.var [V.str (OutS.s (N.outNum (N.outText { s := s, err := (0 : Int) : OutS } (V.toStr (List.getD (List.getD r (Int.toNat i) []) (0 : Nat) V.undef))) (IntKind.wrap IntKind.u64 (V.toInt (List.getD (List.getD r (Int.toNat i) []) (1 : Nat) V.undef))) (1 : Int))), V.int IntKind.i64 (OutS.err (N.outNum (N.outText { s := s, err := (0 : Int) : OutS } (V.toStr (List.getD (List.getD r (Int.toNat i) []) (0 : Nat) V.undef))) (IntKind.wrap IntKind.u64 (V.toInt (List.getD (List.getD r (Int.toNat i) []) (1 : Nat) V.undef))) (1 : Int)))])] : St })))) (none)) (none)) (none)) (K (Ex.exit (0 : Nat)) { fr := [((5 : Nat), V.ptr (10000 : Nat) (0 : Nat) (0 : Nat) (0 : Nat))], tab := [((10000 : Nat), Box.var [V.str s, V.int IntKind.i64 (0 : Int)])] : St }) := by kernel_rfl
theorem pairE_fit {p : HPair} {l : List HPair} (h : N.pairE p l = 0) : N.fitP p = true := by
  unfold N.pairE at h
  cases h1 : N.name p.key != 0 with
  | true => rw [h1, cond_true] at h; rw [h] at h1; cases h1
  | false =>
    have hk : p.key.length ≤ 16 := by
      unfold N.name at h1
      cases e1 : p.key == [] with
      | true => rw [e1] at h1; cases h1
      | false =>
        rw [e1] at h1
        cases e2 : ilt 16 p.key.length with
        | true => rw [e2] at h1; cases h1
        | false => have := ilt_nof e2; omega
    rw [h1] at h
    simp only [cond_false, bne] at h
    have ht : p.text.length ≤ 64 := by
      cases h2 : ilt 2 p.kind with
      | true => rw [h2] at h; cases h
      | false =>
        rw [h2] at h
        cases e1 : p.kind == 1 with
        | true =>
          rw [e1] at h
          cases e2 : ilt 64 p.text.length with
          | true => rw [e2] at h; cases h
          | false => have := ilt_nof e2; omega
        | false =>
          rw [e1] at h
          cases e2 : p.text == [] with
          | true => have : p.text = [] := by simpa using e2
                    rw [this]; exact Nat.zero_le _
          | false =>
            rw [e2] at h
            simp only [cond_false, cond_true, Bool.not_false] at h
            revert h
            cases (cond (cond (p.kind == 2) (!p.num == 0) false) (!p.num == 1) false) <;> intro h <;> cases h
    show cond (Nat.ble p.key.length 64) (Nat.ble p.text.length 64) false = true
    rw [ble_t (by omega), ble_t ht]; rfl
theorem checkFrom_fit (h : List HPair) : ∀ (f : Nat) (i : Int), 0 ≤ i → N.checkFrom h f i = 0 → ∀ j : Nat, i ≤ j → (j : Int) < i + f → N.fitP (h.getD j pair0) = true
  | 0, i, _, _, j, h1, h2 => by omega
  | f + 1, i, h0, hc, j, h1, h2 => by
    unfold N.checkFrom at hc
    cases e : N.pairE (h.getD i.toNat pair0) (h.take i.toNat) != 0 with
    | true => rw [e, cond_true] at hc; rw [hc] at e; cases e
    | false =>
      rw [e] at hc
      by_cases hj : (j : Int) = i
      · have : j = i.toNat := by omega
        rw [this]; exact pairE_fit (by simpa using e)
      · exact checkFrom_fit h f (i + 1) (by omega) hc j (by omega) (by omega)
theorem check_fit {h : List HPair} (hz : N.headCheck h = 0) : h.length ≤ 8 ∧ h.all N.fitP = true := by
  unfold N.headCheck at hz
  cases e : ilt 8 h.length with
  | true => rw [e] at hz; cases hz
  | false =>
    have e' := ilt_nof e
    rw [e] at hz
    refine ⟨by omega, List.all_eq_true.2 fun p hp => ?_⟩
    obtain ⟨j, hj, rfl⟩ := List.getElem_of_mem hp
    have := checkFrom_fit h h.length 0 (Int.le_refl _) hz j (by omega) (by omega)
    rwa [List.getD_eq_getElem?_getD, List.getElem?_eq_getElem hj] at this
theorem wu64 (x : Int) : 0 ≤ IntKind.wrap .u64 x ∧ IntKind.wrap .u64 x < 18446744073709551616 := by
  simp only [IntKind.wrap, IntKind.signed, IntKind.bits]
  simp
  omega
theorem numB_len (n : Int) : ∀ k, (N.numB n k).length = k
  | 0 => rfl
  | k + 1 => by simp [N.numB, numB_len n k]
theorem textB_len (s : Bytes) : (N.textB s).length = 2 + s.length := by unfold N.textB; rw [List.length_append, numB_len]
theorem outText_le {x s : Bytes} (h : s.length ≤ 65535) : N.outText ⟨x, 0⟩ s = ⟨x ++ N.textB s, 0⟩ := by
  unfold N.outText
  rw [ilt_f (by omega)]
  show (⟨x ++ N.numB s.length 2 ++ s, 0⟩ : OutS) = _
  unfold N.textB; rw [List.append_assoc]
theorem outNum_1 (x : Bytes) (n : Int) : N.outNum ⟨x, 0⟩ n 1 = ⟨x ++ N.numB n 1, 0⟩ := rfl
theorem outNum_8 (x : Bytes) (n : Int) : N.outNum ⟨x, 0⟩ n 8 = ⟨x ++ N.numB n 8, 0⟩ := rfl
theorem ok_headBytes (hN : FnOk Tryd.prog 75 dOutNum) : FnOk Tryd.prog 74 dHeadBytes := by
  refine den_okF (env_ok (((((TOk.nil _).cons ok_outString).cons (ok_outText hN)).cons hN).cons ok_headCheck)) (E := eHeadBytes) Tryd.func74 [6] (by kernel_rfl) (one1 (rounds_of rfl fun l K q h => ?_)) fun h _ _ => ?_
  · unfold gHeadBytes at h
    split at h
    · rename_i r n i s e
      have h1 := (cond_none h).1; replace h := (cond_none h).2; have h2 := (cond_none h).1; replace h := (cond_none h).2; have h3 := (cond_none h).1; replace h := (cond_none h).2; have h4 := (cond_none h).1; replace h := (cond_none h).2; have h5 := (cond_none h).1; replace h := (cond_none h).2; have h6 := (cond_none h).1; replace h := (cond_none h).2
      have e1 := ieq_of h1
      have e2 := ieq_of h2
      subst e1 e2
      have h4 : r.length ≤ 8 := ble_of h4
      refine loop_ind (E := eHeadBytes) (f := 74) (id := 6) (σ := Int × Bytes) (fun x => { fr := [(5, .ptr 10000 0 0 0), (18, .slc [.str, .int .u8, .int .i64, .str] r), (19, .int .i64 r.length), (20, .int .i64 x.1)], tab := [(10000, .var [.str x.2, .int .i64 0])] })
        (fun x => 0 ≤ x.1 ∧ (x.2.length : Int) ≤ 1 + 150 * x.1) (fun x => r.length - x.1.toNat)
        (fun x K => K (.exit 0) { fr := [(5, .ptr 10000 0 0 0)], tab := [(10000, .var [.str (x.2 ++ N.pairsB ((rowsP r).drop x.1.toNat)), .int .i64 0])] }) ?_ (i, s) ⟨ile_of h3, ile_of h6⟩ K q (by assumption)
      rintro ⟨i, s⟩ ⟨hi, hs⟩
      simp only at hi hs ⊢
      by_cases hl : i < r.length
      · have hlt : i.toNat < r.length := by omega
        have hfit : N.fitP (rowP (r.getD i.toNat [])) = true := List.all_eq_true.1 h5 _ (by
          rw [List.getD_eq_getElem?_getD, List.getElem?_eq_getElem hlt]; exact List.mem_map_of_mem (List.getElem_mem _))
        obtain ⟨f1, f2⟩ := bcond hfit
        have f1 : (V.toStr (List.getD (List.getD r i.toNat []) 0 V.undef)).length ≤ 64 := ble_of f1
        have f2 : (V.toStr (List.getD (List.getD r i.toNat []) 3 V.undef)).length ≤ 64 := ble_of f2
        have u1 := wu64 (V.toInt (List.getD (List.getD r i.toNat []) 1 V.undef))
        have u2 := wu64 (V.toInt (List.getD (List.getD r i.toNat []) 2 V.undef))
        have o1 : N.outText ⟨s, 0⟩ (V.toStr (List.getD (List.getD r i.toNat []) 0 V.undef)) = ⟨s ++ N.textB (V.toStr (List.getD (List.getD r i.toNat []) 0 V.undef)), 0⟩ := outText_le (by omega)
        have o2 : ∀ x : Bytes, N.outText ⟨x, 0⟩ (V.toStr (List.getD (List.getD r i.toNat []) 3 V.undef)) = ⟨x ++ N.textB (V.toStr (List.getD (List.getD r i.toNat []) 3 V.undef)), 0⟩ := fun x => outText_le (by omega)
        rw [drop_pair hlt]
        have e : N.pairsB (rowP (r.getD i.toNat []) :: (rowsP r).drop (i.toNat + 1)) = N.pairB (rowP (r.getD i.toNat [])) ++ N.pairsB ((rowsP r).drop (i.toNat + 1)) := rfl
        rw [e, ← List.append_assoc]
        have hlen : (N.pairB (rowP (r.getD i.toNat []))).length ≤ 150 := by
          unfold N.pairB rowP
          simp only [List.length_append, textB_len, numB_len]
          cases V.toInt (List.getD (List.getD r i.toNat []) 1 V.undef) == 0 <;> cases V.toInt (List.getD (List.getD r i.toNat []) 1 V.undef) == 1 <;> cases V.toInt (List.getD (List.getD r i.toNat []) 1 V.undef) == 2 <;> simp only [cond_true, cond_false, numB_len, textB_len, List.length_nil] <;> omega
        refine .inl ⟨(i + 1, s ++ N.pairB (rowP (r.getD i.toNat []))), ⟨by simp only; omega, by simp only [List.length_append]; omega⟩, by simp only; omega, fun K => ?_, fun K => ?_⟩
        · rw [q_headBytesR]
          unfold N.pairB rowP
          simp (disch := omega) only [evs, o1, o2, outNum_1, outNum_8, textB_len, numB_len, ← List.append_assoc]
          cases V.toInt (List.getD (List.getD r i.toNat []) 1 V.undef) == 0 <;> cases V.toInt (List.getD (List.getD r i.toNat []) 1 V.undef) == 1 <;> cases V.toInt (List.getD (List.getD r i.toNat []) 1 V.undef) == 2 <;> simp only [cond_true, cond_false, List.append_nil]
        · rw [show (i + 1).toNat = i.toNat + 1 by omega]
      · refine .inr ⟨.exit 0, { fr := [(5, .ptr 10000 0 0 0)], tab := [(10000, .var [.str s, .int .i64 0])] }, by simp, fun K => ?_, fun K => ?_⟩
        · rw [q_headBytesR]
          simp (disch := omega) only [evs]
        · rw [List.drop_eq_nil_of_le (by rw [rowsP_length]; omega)]
          show K _ { fr := _, tab := [(10000, .var [.str (s ++ []), .int .i64 0])] } = _
          rw [List.append_nil]
    · cases h
  · refine (q_headBytes h).trans ?_
    show _ = some (⟨.tup [.str (cond (N.headCheck h != 0) (([] : Bytes), N.headCheck h) (N.headBytes h, 0)).1, .int .i64 (cond (N.headCheck h != 0) (([] : Bytes), N.headCheck h) (N.headBytes h, 0)).2], [], []⟩ : DRes)
    cases hc : N.headCheck h != 0 with
    | true =>
      simp (disch := omega) only [evs, pairs_enc, hc]
    | false =>
      have hz : N.headCheck h = 0 := by simpa using hc
      obtain ⟨c1, c2⟩ := check_fit hz
      have u := wu64 (h.length : Int)
      have ul : IntKind.wrap .u64 (h.length : Int) = h.length := wrap_u64 (by omega) (by omega)
      simp (disch := omega) only [evs, pairs_enc, hc, ul, outNum_1, c2, List.drop_zero, List.nil_append]
      rfl
end Go.Ev

/- The program's functions that read heads answer what the plain ones do: lemmas. -/
namespace Go.Ev
open Go Go.Proofs
set_option maxRecDepth 100000

end Go.Ev

/- The program's functions that read heads, those with loops, answer what the plain ones do: lemmas. -/
namespace Go.Ev
open Go Go.Proofs
set_option maxRecDepth 100000

namespace N
/-- The loop over a head's pairs: went through, what was read, the reader. -/
def hl : Nat → InS → List (List V) → Bool × List (List V) × InS
  | 0, i, rows => (true, rows, i)
  | k + 1, i, rows => cond ((bad (one i).1 (rowsP rows) (one i).2).err != 0) (false, [], bad (one i).1 (rowsP rows) (one i).2) (hl k (bad (one i).1 (rowsP rows) (one i).2) (rows ++ [cPair.enc (one i).1]))
end N
namespace N
end N
end Go.Ev

/- The document's function that checks heads answers what the plain one does: lemmas. -/
namespace Go.Ev
open Go Go.Proofs
set_option maxRecDepth 100000

end Go.Ev

/- The functions on rules answer what the plain ones do: lemmas, no condition. -/
namespace Go.Ev
open Go Go.Proofs
set_option maxRecDepth 100000

end Go.Ev

/- The document's function that reads heads answers what the plain one does: lemmas. -/
namespace Go.Ev
open Go Go.Proofs
set_option maxRecDepth 100000

end Go.Ev

/- What the statement on same heads reckons: lemmas; the function that writes numbers is a premise. -/
namespace Go.Ev
open Go Go.Proofs
set_option maxRecDepth 100000

noncomputable def eAw4' : Env := env Tryd.prog [(83, dTrueW)] [] []
theorem q_aw4'  : evFn eAw4' 47 [] [] some =
 some { v := V.bool true, bx := [] : DRes } := by kernel_rfl
theorem ok_aw4' : FnOk Tryd.prog 47 dTrue := den_okF (env_ok ((TOk.nil _).cons ok_awW)) (E := eAw4') Tryd.func47 [] (by kernel_rfl) none0 fun _ _ _ => q_aw4'
noncomputable def eAw9 : Env := env Tryd.prog [(74, dHeadBytes), (96, dTrue), (47, dTrue)] [] []
theorem q_aw9  : evFn eAw9 84 [] [] some =
 some { v := V.bool true, bx := [] : DRes } := by kernel_rfl
theorem ok_aw9 (hN : FnOk Tryd.prog 75 dOutNum) : FnOk Tryd.prog 84 dTrue :=
  den_okF (env_ok ((((TOk.nil _).cons ok_aw4').cons (ok_aw1' hN)).cons (ok_headBytes hN))) (E := eAw9) Tryd.func84 [] (by kernel_rfl) none0 fun _ _ _ => q_aw9
noncomputable def eHSame : Env := env Tryd.prog [(62, dSameP)] [] []
theorem q_hsame (a b : List HPair) : evFn eHSame 60 ((aCons (vSl cPair) (aOne (vSl cPair))).enc (a, b)) ([]) some =
 cond (Nat.ble (List.length (List.map (fun r => { key := V.toStr (List.getD r (0 : Nat) V.undef), kind := V.toInt (List.getD r (1 : Nat) V.undef), num := V.toInt (List.getD r (2 : Nat) V.undef), text := V.toStr (List.getD r (3 : Nat) V.undef) : HPair }) (List.map (fun p => [V.str (HPair.key p), V.int IntKind.u8 (HPair.kind p), V.int IntKind.i64 (HPair.num p), V.str (HPair.text p)]) a))) (1000000 : Nat)) (some { v := V.bool (N.samePs (List.map (fun r => { key := V.toStr (List.getD r (0 : Nat) V.undef), kind := V.toInt (List.getD r (1 : Nat) V.undef), num := V.toInt (List.getD r (2 : Nat) V.undef), text := V.toStr (List.getD r (3 : Nat) V.undef) : HPair }) (List.map (fun p => [V.str (HPair.key p), V.int IntKind.u8 (HPair.kind p), V.int IntKind.i64 (HPair.num p), V.str (HPair.text p)]) a)) (List.map (fun r => { key := V.toStr (List.getD r (0 : Nat) V.undef), kind := V.toInt (List.getD r (1 : Nat) V.undef), num := V.toInt (List.getD r (2 : Nat) V.undef), text := V.toStr (List.getD r (3 : Nat) V.undef) : HPair }) (List.map (fun p => [V.str (HPair.key p), V.int IntKind.u8 (HPair.kind p), V.int IntKind.i64 (HPair.num p), V.str (HPair.text p)]) b))), bx := [] : DRes }) (none) := by kernel_rfl
theorem ok_hsame : FnOk Tryd.prog 60 dSameP := by
  refine den_okF (env_ok ((TOk.nil _).cons ok_eqP)) (E := eHSame) Tryd.func60 [] (by kernel_rfl) none0 fun a _ h => ?_
  obtain ⟨a, b⟩ := a
  have h : a.length ≤ 1000000 := ble_of h
  refine (q_hsame a b).trans ?_
  show _ = some (⟨.bool (N.samePs a b), [], []⟩ : DRes)
  simp (disch := omega) only [evs, pairs_enc]
theorem light_small {h : List HPair} (hl : N.light h = true) : h.length ≤ 12 := by
  unfold N.light at hl
  cases e : ilt 12 h.length with
  | true => rw [e] at hl; cases hl
  | false => have := ilt_nof e; omega
end Go.Ev

/- What was written is read again: lemmas on the plain functions. -/
namespace Go.Ev
open Go

end Go.Ev

/- The document's functions that write heads answer what the plain ones do: lemmas; its function that writes numbers is a premise. -/
namespace Go.Ev
open Go Go.Proofs
set_option maxRecDepth 100000

namespace N
end N
end Go.Ev

/- The document's function that writes numbers answers what the plain one does: lemmas, no condition. -/
namespace Go.Ev
open Go Go.Proofs
set_option maxRecDepth 100000

end Go.Ev

/- The functions on messages answer what the plain ones do: lemmas; the function that writes numbers is a premise. -/
namespace Go.Ev
open Go Go.Proofs
set_option maxRecDepth 100000

noncomputable def eClone : Env := env Tryd.prog [] [] []
theorem q_clone (l : List HPair) : evFn eClone 59 ((aOne (vSl cPair)).enc l) ([]) some =
 cond (!Nat.beq (List.length (List.map (fun p => [V.str (HPair.key p), V.int IntKind.u8 (HPair.kind p), V.int IntKind.i64 (HPair.num p), V.str (HPair.text p)]) l)) (0 : Nat)) (cond (Nat.beq (List.length (List.map (fun p => [V.str (HPair.key p), V.int IntKind.u8 (HPair.kind p), V.int IntKind.i64 (HPair.num p), V.str (HPair.text p)]) l)) (0 : Nat)) (some { v := V.slc [Sh.str, Sh.int IntKind.u8, Sh.int IntKind.i64, Sh.str] [], bx := [] : DRes }) (cond (decide (List.length (List.map (fun p => [V.str (HPair.key p), V.int IntKind.u8 (HPair.kind p), V.int IntKind.i64 (HPair.num p), V.str (HPair.text p)]) l) * (48 : Nat) ≤ (140737488355328 : Nat))) (some { v := V.slc [Sh.str, Sh.int IntKind.u8, Sh.int IntKind.i64, Sh.str] (List.map (fun p => [V.str (HPair.key p), V.int IntKind.u8 (HPair.kind p), V.int IntKind.i64 (HPair.num p), V.str (HPair.text p)]) l), bx := [] : DRes }) (none))) (none) := by kernel_rfl
theorem q_cloneN  : evFn eClone 59 [.nils [.str, .int .u8, .int .i64, .str]] ([]) some =
 some { v := V.slc [Sh.str, Sh.int IntKind.u8, Sh.int IntKind.i64, Sh.str] [], bx := [] : DRes } := by kernel_rfl
theorem q_cloneE  : evFn eClone 59 [.nn [.str, .int .u8, .int .i64, .str]] ([]) some =
 some { v := V.slc [Sh.str, Sh.int IntKind.u8, Sh.int IntKind.i64, Sh.str] [], bx := [] : DRes } := by kernel_rfl
theorem ok_clone : FnOk Tryd.prog 59 dClone := by
  refine den_of fun l b h => ?_
  have h : l.length ≤ 1000000 := ble_of h
  have fo := fun a r => fn_okF (E := eClone) (env_ok (TOk.nil _)) Tryd.func59 [] (by kernel_rfl) none0 a [] r
  cases l with
  | nil => exact FnOk.empty (fo _ _ q_cloneN) (fo _ _ q_cloneE)
  | cons p r =>
    refine fo _ _ ((q_clone (p :: r)).trans ?_)
    show _ = some (⟨.slc [.str, .int .u8, .int .i64, .str] ((p :: r).map fun p => [V.str p.key, V.int .u8 p.kind, V.int .i64 p.num, V.str p.text]), [], []⟩ : DRes)
    rw [show Nat.beq (List.length ((p :: r).map fun p => [V.str p.key, V.int .u8 p.kind, V.int .i64 p.num, V.str p.text])) 0 = false from rfl]
    simp (disch := omega) only [evs, Bool.not_false]
noncomputable def eMailCopy : Env := env Tryd.prog [(59, dClone)] [] []
theorem q_mailCopy (m : HMail) : evFn eMailCopy 23 ((aOne (vAgg cMail)).enc m) ([]) some =
 cond (Nat.ble (List.length (List.map (fun r => { key := V.toStr (List.getD r (0 : Nat) V.undef), kind := V.toInt (List.getD r (1 : Nat) V.undef), num := V.toInt (List.getD r (2 : Nat) V.undef), text := V.toStr (List.getD r (3 : Nat) V.undef) : HPair }) (List.map (fun p => [V.str (HPair.key p), V.int IntKind.u8 (HPair.kind p), V.int IntKind.i64 (HPair.num p), V.str (HPair.text p)]) (HMail.head m)))) (1000000 : Nat)) (some { v := V.agg [V.int IntKind.u64 (HMail.id m), V.str (HMail.shop m), V.str (HMail.key m), V.slc [Sh.str, Sh.int IntKind.u8, Sh.int IntKind.i64, Sh.str] (List.map (fun p => [V.str (HPair.key p), V.int IntKind.u8 (HPair.kind p), V.int IntKind.i64 (HPair.num p), V.str (HPair.text p)]) (List.map (fun r => { key := V.toStr (List.getD r (0 : Nat) V.undef), kind := V.toInt (List.getD r (1 : Nat) V.undef), num := V.toInt (List.getD r (2 : Nat) V.undef), text := V.toStr (List.getD r (3 : Nat) V.undef) : HPair }) (List.map (fun p => [V.str (HPair.key p), V.int IntKind.u8 (HPair.kind p), V.int IntKind.i64 (HPair.num p), V.str (HPair.text p)]) (HMail.head m)))), V.str (HMail.body m), V.int IntKind.u64 (HMail.due m), V.int IntKind.u8 (HMail.hops m)], bx := [] : DRes }) (none) := by kernel_rfl
theorem ok_mailCopy : FnOk Tryd.prog 23 dMailCopy := by
  refine den_okF (env_ok ((TOk.nil _).cons ok_clone)) (E := eMailCopy) Tryd.func23 [] (by kernel_rfl) none0 fun m _ h => ?_
  have h : m.head.length ≤ 1000000 := ble_of h
  refine (q_mailCopy m).trans ?_
  simp (disch := omega) only [evs, pairs_enc]
  rfl
noncomputable def eMailCheck : Env := env Tryd.prog [(79, dName), (49, dKey), (51, dHeadCheck)] [] []
theorem q_mailCheck (m : HMail) : evFn eMailCheck 42 ((aOne (vAgg cMail)).enc m) ([]) some =
 cond (N.name (HMail.shop m) != (0 : Int)) (some { v := V.int IntKind.i64 (N.name (HMail.shop m)), bx := [] : DRes }) (cond (N.key (HMail.key m) [] != (0 : Int)) (some { v := V.int IntKind.i64 (N.key (HMail.key m) []), bx := [] : DRes }) (cond (N.headCheck (List.map (fun r => { key := V.toStr (List.getD r (0 : Nat) V.undef), kind := V.toInt (List.getD r (1 : Nat) V.undef), num := V.toInt (List.getD r (2 : Nat) V.undef), text := V.toStr (List.getD r (3 : Nat) V.undef) : HPair }) (List.map (fun p => [V.str (HPair.key p), V.int IntKind.u8 (HPair.kind p), V.int IntKind.i64 (HPair.num p), V.str (HPair.text p)]) (HMail.head m))) != (0 : Int)) (some { v := V.int IntKind.i64 (N.headCheck (List.map (fun r => { key := V.toStr (List.getD r (0 : Nat) V.undef), kind := V.toInt (List.getD r (1 : Nat) V.undef), num := V.toInt (List.getD r (2 : Nat) V.undef), text := V.toStr (List.getD r (3 : Nat) V.undef) : HPair }) (List.map (fun p => [V.str (HPair.key p), V.int IntKind.u8 (HPair.kind p), V.int IntKind.i64 (HPair.num p), V.str (HPair.text p)]) (HMail.head m)))), bx := [] : DRes }) (cond (ilt (256 : Int) (↑(List.length (HMail.body m)) : Int)) (some { v := V.int IntKind.i64 (5 : Int), bx := [] : DRes }) (cond (ilt (4 : Int) (HMail.hops m)) (some { v := V.int IntKind.i64 (7 : Int), bx := [] : DRes }) (some { v := V.int IntKind.i64 (0 : Int), bx := [] : DRes }))))) := by kernel_rfl
theorem ok_mailCheck : FnOk Tryd.prog 42 dMailCheck := by
  refine den_okF (env_ok ((((TOk.nil _).cons ok_headCheck).cons ok_key).cons ok_name)) (E := eMailCheck) Tryd.func42 [] (by kernel_rfl) none0 fun m _ _ => ?_
  refine (q_mailCheck m).trans ?_
  show _ = some (⟨.int .i64 (N.mailCheck m), [], []⟩ : DRes)
  unfold N.mailCheck
  simp only [pairs_enc]
  cases h1 : N.name m.shop != 0 <;> cases h2 : N.key m.key [] != 0 <;> cases h3 : N.headCheck m.head != 0 <;> cases h4 : ilt 256 (m.body.length : Int) <;> cases h5 : ilt 4 m.hops <;> simp only [cond_true, cond_false]
noncomputable def eMailSame : Env := env Tryd.prog [(60, dSameP)] [] []
theorem q_mailSame (a b : HMail) : evFn eMailSame 24 ((aCons (vAgg cMail) (aOne (vAgg cMail))).enc (a, b)) ([]) some =
 cond (HMail.id a == HMail.id b) (cond (HMail.shop a == HMail.shop b) (cond (HMail.key a == HMail.key b) (cond (Nat.ble (List.length (List.map (fun r => { key := V.toStr (List.getD r (0 : Nat) V.undef), kind := V.toInt (List.getD r (1 : Nat) V.undef), num := V.toInt (List.getD r (2 : Nat) V.undef), text := V.toStr (List.getD r (3 : Nat) V.undef) : HPair }) (List.map (fun p => [V.str (HPair.key p), V.int IntKind.u8 (HPair.kind p), V.int IntKind.i64 (HPair.num p), V.str (HPair.text p)]) (HMail.head a)))) (1000000 : Nat)) (cond (N.samePs (List.map (fun r => { key := V.toStr (List.getD r (0 : Nat) V.undef), kind := V.toInt (List.getD r (1 : Nat) V.undef), num := V.toInt (List.getD r (2 : Nat) V.undef), text := V.toStr (List.getD r (3 : Nat) V.undef) : HPair }) (List.map (fun p => [V.str (HPair.key p), V.int IntKind.u8 (HPair.kind p), V.int IntKind.i64 (HPair.num p), V.str (HPair.text p)]) (HMail.head a))) (List.map (fun r => { key := V.toStr (List.getD r (0 : Nat) V.undef), kind := V.toInt (List.getD r (1 : Nat) V.undef), num := V.toInt (List.getD r (2 : Nat) V.undef), text := V.toStr (List.getD r (3 : Nat) V.undef) : HPair }) (List.map (fun p => [V.str (HPair.key p), V.int IntKind.u8 (HPair.kind p), V.int IntKind.i64 (HPair.num p), V.str (HPair.text p)]) (HMail.head b)))) (cond (HMail.body a == HMail.body b) (cond (HMail.due a == HMail.due b) (some { v := V.bool (HMail.hops a == HMail.hops b), bx := [] : DRes }) (some { v := V.bool false, bx := [] : DRes })) (some { v := V.bool false, bx := [] : DRes })) (some { v := V.bool false, bx := [] : DRes })) (none)) (some { v := V.bool false, bx := [] : DRes })) (some { v := V.bool false, bx := [] : DRes })) (some { v := V.bool false, bx := [] : DRes }) := by kernel_rfl
noncomputable def eRefMailSame : Env := env Tryd.prog [(61, dSameP)] [] []
theorem q_refMailSame (a b : HMail) : evFn eRefMailSame 25 ((aCons (vAgg cMail) (aOne (vAgg cMail))).enc (a, b)) ([]) some =
 cond (HMail.id a == HMail.id b) (cond (HMail.shop a == HMail.shop b) (cond (HMail.key a == HMail.key b) (cond (Nat.ble (List.length (List.map (fun r => { key := V.toStr (List.getD r (0 : Nat) V.undef), kind := V.toInt (List.getD r (1 : Nat) V.undef), num := V.toInt (List.getD r (2 : Nat) V.undef), text := V.toStr (List.getD r (3 : Nat) V.undef) : HPair }) (List.map (fun p => [V.str (HPair.key p), V.int IntKind.u8 (HPair.kind p), V.int IntKind.i64 (HPair.num p), V.str (HPair.text p)]) (HMail.head a)))) (1000000 : Nat)) (cond (N.samePs (List.map (fun r => { key := V.toStr (List.getD r (0 : Nat) V.undef), kind := V.toInt (List.getD r (1 : Nat) V.undef), num := V.toInt (List.getD r (2 : Nat) V.undef), text := V.toStr (List.getD r (3 : Nat) V.undef) : HPair }) (List.map (fun p => [V.str (HPair.key p), V.int IntKind.u8 (HPair.kind p), V.int IntKind.i64 (HPair.num p), V.str (HPair.text p)]) (HMail.head a))) (List.map (fun r => { key := V.toStr (List.getD r (0 : Nat) V.undef), kind := V.toInt (List.getD r (1 : Nat) V.undef), num := V.toInt (List.getD r (2 : Nat) V.undef), text := V.toStr (List.getD r (3 : Nat) V.undef) : HPair }) (List.map (fun p => [V.str (HPair.key p), V.int IntKind.u8 (HPair.kind p), V.int IntKind.i64 (HPair.num p), V.str (HPair.text p)]) (HMail.head b)))) (cond (HMail.body a == HMail.body b) (cond (HMail.due a == HMail.due b) (some { v := V.bool (HMail.hops a == HMail.hops b), bx := [] : DRes }) (some { v := V.bool false, bx := [] : DRes })) (some { v := V.bool false, bx := [] : DRes })) (some { v := V.bool false, bx := [] : DRes })) (none)) (some { v := V.bool false, bx := [] : DRes })) (some { v := V.bool false, bx := [] : DRes })) (some { v := V.bool false, bx := [] : DRes }) := by kernel_rfl
theorem ok_mailSame : FnOk Tryd.prog 24 dMailSame := by
  refine den_okF (env_ok ((TOk.nil _).cons ok_hsame)) (E := eMailSame) Tryd.func24 [] (by kernel_rfl) none0 fun a _ h => ?_
  obtain ⟨a, b⟩ := a
  have h : a.head.length ≤ 1000000 := ble_of h
  refine (q_mailSame a b).trans ?_
  show _ = some (⟨.bool (N.mailSame a b), [], []⟩ : DRes)
  unfold N.mailSame
  cases a.id == b.id <;> cases a.shop == b.shop <;> cases a.key == b.key <;> first | rfl | skip
  simp (disch := omega) only [evs, pairs_enc]
  cases N.samePs a.head b.head <;> cases a.body == b.body <;> cases a.due == b.due <;> rfl
theorem ok_refMailSame : FnOk Tryd.prog 25 dMailSame := by
  refine den_okF (env_ok ((TOk.nil _).cons ok_refSame)) (E := eRefMailSame) Tryd.func25 [] (by kernel_rfl) none0 fun a _ h => ?_
  obtain ⟨a, b⟩ := a
  have h : a.head.length ≤ 1000000 := ble_of h
  refine (q_refMailSame a b).trans ?_
  show _ = some (⟨.bool (N.mailSame a b), [], []⟩ : DRes)
  unfold N.mailSame
  cases a.id == b.id <;> cases a.shop == b.shop <;> cases a.key == b.key <;> first | rfl | skip
  simp (disch := omega) only [evs, pairs_enc]
  cases N.samePs a.head b.head <;> cases a.body == b.body <;> cases a.due == b.due <;> rfl
noncomputable def eLightM : Env := env Tryd.prog [(13, dLight)] [] []
theorem q_lightM (m : HMail) : evFn eLightM 22 ((aOne (vAgg cMail)).enc m) ([]) some =
 cond (ile (↑(List.length (HMail.shop m)) : Int) (40 : Int)) (cond (ile (↑(List.length (HMail.key m)) : Int) (100 : Int)) (cond (N.light (List.map (fun r => { key := V.toStr (List.getD r (0 : Nat) V.undef), kind := V.toInt (List.getD r (1 : Nat) V.undef), num := V.toInt (List.getD r (2 : Nat) V.undef), text := V.toStr (List.getD r (3 : Nat) V.undef) : HPair }) (List.map (fun p => [V.str (HPair.key p), V.int IntKind.u8 (HPair.kind p), V.int IntKind.i64 (HPair.num p), V.str (HPair.text p)]) (HMail.head m)))) (some { v := V.bool (ile (↑(List.length (HMail.body m)) : Int) (300 : Int)), bx := [] : DRes }) (some { v := V.bool false, bx := [] : DRes })) (some { v := V.bool false, bx := [] : DRes })) (some { v := V.bool false, bx := [] : DRes }) := by kernel_rfl
theorem ok_lightM : FnOk Tryd.prog 22 dLightM := by
  refine den_okF (env_ok ((TOk.nil _).cons ok_light)) (E := eLightM) Tryd.func22 [] (by kernel_rfl) none0 fun m _ _ => ?_
  refine (q_lightM m).trans ?_
  show _ = some (⟨.bool (N.lightM m), [], []⟩ : DRes)
  unfold N.lightM
  simp only [pairs_enc]
  cases ile (m.shop.length : Int) 40 <;> cases ile (m.key.length : Int) 100 <;> cases N.light m.head <;> rfl
theorem nrm_rows (h : List HPair) : (h.map (fun p => [V.str p.key, V.int .u8 p.kind, V.int .i64 p.num, V.str p.text])).map (fun r => ({ key := V.toStr (List.getD r 0 .undef), kind := V.toInt (List.getD r 1 .undef), num := V.toInt (List.getD r 2 .undef), text := V.toStr (List.getD r 3 .undef) } : HPair)) = h := rowsP_enc h
theorem raw_le (x s : Bytes) : N.outRaw ⟨x, 0⟩ s = ⟨x ++ s, 0⟩ := rfl
noncomputable def eMailBytes : Env := env Tryd.prog [(42, dMailCheck), (74, dHeadBytes), (75, dOutNum), (76, dOutText), (77, dOutRaw), (78, dOutString)] [] []
theorem q_mailBytes (m : HMail) : evFn eMailBytes 41 ((aOne (vAgg cMail)).enc m) ([]) some =
 cond (N.mailCheck { id := HMail.id m, shop := HMail.shop m, key := HMail.key m, head := List.map (fun r => { key := V.toStr (List.getD r (0 : Nat) V.undef), kind := V.toInt (List.getD r (1 : Nat) V.undef), num := V.toInt (List.getD r (2 : Nat) V.undef), text := V.toStr (List.getD r (3 : Nat) V.undef) : HPair }) (List.map (fun p => [V.str (HPair.key p), V.int IntKind.u8 (HPair.kind p), V.int IntKind.i64 (HPair.num p), V.str (HPair.text p)]) (HMail.head m)), body := HMail.body m, due := HMail.due m, hops := HMail.hops m : HMail } != (0 : Int)) (some { v := V.tup [V.str [], V.int IntKind.i64 (N.mailCheck { id := HMail.id m, shop := HMail.shop m, key := HMail.key m, head := List.map (fun r => { key := V.toStr (List.getD r (0 : Nat) V.undef), kind := V.toInt (List.getD r (1 : Nat) V.undef), num := V.toInt (List.getD r (2 : Nat) V.undef), text := V.toStr (List.getD r (3 : Nat) V.undef) : HPair }) (List.map (fun p => [V.str (HPair.key p), V.int IntKind.u8 (HPair.kind p), V.int IntKind.i64 (HPair.num p), V.str (HPair.text p)]) (HMail.head m)), body := HMail.body m, due := HMail.due m, hops := HMail.hops m : HMail })], bx := [] : DRes }) (cond (bif ile (0 : Int) (HMail.id m) then bif ilt (HMail.id m) (18446744073709551616 : Int) then true else false else false) (cond (Nat.ble ((8 : Nat) + List.length (HMail.shop m)) (9223372036854775790 : Nat)) (cond (Nat.ble (List.length (OutS.s (N.outText (N.outNum { s := [], err := (0 : Int) : OutS } (HMail.id m) (8 : Int)) (HMail.shop m))) + List.length (HMail.key m)) (9223372036854775790 : Nat)) (cond (Nat.ble (List.length (OutS.s (N.outText (N.outText (N.outNum { s := [], err := (0 : Int) : OutS } (HMail.id m) (8 : Int)) (HMail.shop m)) (HMail.key m))) + List.length (Prod.fst (bif N.headCheck (List.map (fun r => { key := V.toStr (List.getD r (0 : Nat) V.undef), kind := V.toInt (List.getD r (1 : Nat) V.undef), num := V.toInt (List.getD r (2 : Nat) V.undef), text := V.toStr (List.getD r (3 : Nat) V.undef) : HPair }) (List.map (fun p => [V.str (HPair.key p), V.int IntKind.u8 (HPair.kind p), V.int IntKind.i64 (HPair.num p), V.str (HPair.text p)]) (HMail.head m))) != (0 : Int) then ([], N.headCheck (List.map (fun r => { key := V.toStr (List.getD r (0 : Nat) V.undef), kind := V.toInt (List.getD r (1 : Nat) V.undef), num := V.toInt (List.getD r (2 : Nat) V.undef), text := V.toStr (List.getD r (3 : Nat) V.undef) : HPair }) (List.map (fun p => [V.str (HPair.key p), V.int IntKind.u8 (HPair.kind p), V.int IntKind.i64 (HPair.num p), V.str (HPair.text p)]) (HMail.head m)))) else (N.headBytes (List.map (fun r => { key := V.toStr (List.getD r (0 : Nat) V.undef), kind := V.toInt (List.getD r (1 : Nat) V.undef), num := V.toInt (List.getD r (2 : Nat) V.undef), text := V.toStr (List.getD r (3 : Nat) V.undef) : HPair }) (List.map (fun p => [V.str (HPair.key p), V.int IntKind.u8 (HPair.kind p), V.int IntKind.i64 (HPair.num p), V.str (HPair.text p)]) (HMail.head m))), (0 : Int))))) (9223372036854775807 : Nat)) (cond (Nat.ble (List.length (OutS.s (N.outRaw (N.outText (N.outText (N.outNum { s := [], err := (0 : Int) : OutS } (HMail.id m) (8 : Int)) (HMail.shop m)) (HMail.key m)) (Prod.fst (bif N.headCheck (List.map (fun r => { key := V.toStr (List.getD r (0 : Nat) V.undef), kind := V.toInt (List.getD r (1 : Nat) V.undef), num := V.toInt (List.getD r (2 : Nat) V.undef), text := V.toStr (List.getD r (3 : Nat) V.undef) : HPair }) (List.map (fun p => [V.str (HPair.key p), V.int IntKind.u8 (HPair.kind p), V.int IntKind.i64 (HPair.num p), V.str (HPair.text p)]) (HMail.head m))) != (0 : Int) then ([], N.headCheck (List.map (fun r => { key := V.toStr (List.getD r (0 : Nat) V.undef), kind := V.toInt (List.getD r (1 : Nat) V.undef), num := V.toInt (List.getD r (2 : Nat) V.undef), text := V.toStr (List.getD r (3 : Nat) V.undef) : HPair }) (List.map (fun p => [V.str (HPair.key p), V.int IntKind.u8 (HPair.kind p), V.int IntKind.i64 (HPair.num p), V.str (HPair.text p)]) (HMail.head m)))) else (N.headBytes (List.map (fun r => { key := V.toStr (List.getD r (0 : Nat) V.undef), kind := V.toInt (List.getD r (1 : Nat) V.undef), num := V.toInt (List.getD r (2 : Nat) V.undef), text := V.toStr (List.getD r (3 : Nat) V.undef) : HPair }) (List.map (fun p => [V.str (HPair.key p), V.int IntKind.u8 (HPair.kind p), V.int IntKind.i64 (HPair.num p), V.str (HPair.text p)]) (HMail.head m))), (0 : Int)))))) + List.length (HMail.body m)) (9223372036854775790 : Nat)) (cond (bif ile (0 : Int) (HMail.due m) then bif ilt (HMail.due m) (18446744073709551616 : Int) then Nat.ble (List.length (OutS.s (N.outText (N.outRaw (N.outText (N.outText (N.outNum { s := [], err := (0 : Int) : OutS } (HMail.id m) (8 : Int)) (HMail.shop m)) (HMail.key m)) (Prod.fst (bif N.headCheck (List.map (fun r => { key := V.toStr (List.getD r (0 : Nat) V.undef), kind := V.toInt (List.getD r (1 : Nat) V.undef), num := V.toInt (List.getD r (2 : Nat) V.undef), text := V.toStr (List.getD r (3 : Nat) V.undef) : HPair }) (List.map (fun p => [V.str (HPair.key p), V.int IntKind.u8 (HPair.kind p), V.int IntKind.i64 (HPair.num p), V.str (HPair.text p)]) (HMail.head m))) != (0 : Int) then ([], N.headCheck (List.map (fun r => { key := V.toStr (List.getD r (0 : Nat) V.undef), kind := V.toInt (List.getD r (1 : Nat) V.undef), num := V.toInt (List.getD r (2 : Nat) V.undef), text := V.toStr (List.getD r (3 : Nat) V.undef) : HPair }) (List.map (fun p => [V.str (HPair.key p), V.int IntKind.u8 (HPair.kind p), V.int IntKind.i64 (HPair.num p), V.str (HPair.text p)]) (HMail.head m)))) else (N.headBytes (List.map (fun r => { key := V.toStr (List.getD r (0 : Nat) V.undef), kind := V.toInt (List.getD r (1 : Nat) V.undef), num := V.toInt (List.getD r (2 : Nat) V.undef), text := V.toStr (List.getD r (3 : Nat) V.undef) : HPair }) (List.map (fun p => [V.str (HPair.key p), V.int IntKind.u8 (HPair.kind p), V.int IntKind.i64 (HPair.num p), V.str (HPair.text p)]) (HMail.head m))), (0 : Int))))) (HMail.body m)))) (9223372036854775799 : Nat) else false else false) (cond (bif ile (0 : Int) (IntKind.wrap IntKind.u64 (HMail.hops m)) then bif ilt (IntKind.wrap IntKind.u64 (HMail.hops m)) (18446744073709551616 : Int) then Nat.ble (List.length (OutS.s (N.outNum (N.outText (N.outRaw (N.outText (N.outText (N.outNum { s := [], err := (0 : Int) : OutS } (HMail.id m) (8 : Int)) (HMail.shop m)) (HMail.key m)) (Prod.fst (bif N.headCheck (List.map (fun r => { key := V.toStr (List.getD r (0 : Nat) V.undef), kind := V.toInt (List.getD r (1 : Nat) V.undef), num := V.toInt (List.getD r (2 : Nat) V.undef), text := V.toStr (List.getD r (3 : Nat) V.undef) : HPair }) (List.map (fun p => [V.str (HPair.key p), V.int IntKind.u8 (HPair.kind p), V.int IntKind.i64 (HPair.num p), V.str (HPair.text p)]) (HMail.head m))) != (0 : Int) then ([], N.headCheck (List.map (fun r => { key := V.toStr (List.getD r (0 : Nat) V.undef), kind := V.toInt (List.getD r (1 : Nat) V.undef), num := V.toInt (List.getD r (2 : Nat) V.undef), text := V.toStr (List.getD r (3 : Nat) V.undef) : HPair }) (List.map (fun p => [V.str (HPair.key p), V.int IntKind.u8 (HPair.kind p), V.int IntKind.i64 (HPair.num p), V.str (HPair.text p)]) (HMail.head m)))) else (N.headBytes (List.map (fun r => { key := V.toStr (List.getD r (0 : Nat) V.undef), kind := V.toInt (List.getD r (1 : Nat) V.undef), num := V.toInt (List.getD r (2 : Nat) V.undef), text := V.toStr (List.getD r (3 : Nat) V.undef) : HPair }) (List.map (fun p => [V.str (HPair.key p), V.int IntKind.u8 (HPair.kind p), V.int IntKind.i64 (HPair.num p), V.str (HPair.text p)]) (HMail.head m))), (0 : Int))))) (HMail.body m)) (HMail.due m) (8 : Int)))) (9223372036854775799 : Nat) else false else false) (some { v := V.tup [V.str (OutS.s (N.outNum (N.outNum (N.outText (N.outRaw (N.outText (N.outText (N.outNum { s := [], err := (0 : Int) : OutS } (HMail.id m) (8 : Int)) (HMail.shop m)) (HMail.key m)) (Prod.fst (bif N.headCheck (List.map (fun r => { key := V.toStr (List.getD r (0 : Nat) V.undef), kind := V.toInt (List.getD r (1 : Nat) V.undef), num := V.toInt (List.getD r (2 : Nat) V.undef), text := V.toStr (List.getD r (3 : Nat) V.undef) : HPair }) (List.map (fun p => [V.str (HPair.key p), V.int IntKind.u8 (HPair.kind p), V.int IntKind.i64 (HPair.num p), V.str (HPair.text p)]) (HMail.head m))) != (0 : Int) then ([], N.headCheck (List.map (fun r => { key := V.toStr (List.getD r (0 : Nat) V.undef), kind := V.toInt (List.getD r (1 : Nat) V.undef), num := V.toInt (List.getD r (2 : Nat) V.undef), text := V.toStr (List.getD r (3 : Nat) V.undef) : HPair }) (List.map (fun p => [V.str (HPair.key p), V.int IntKind.u8 (HPair.kind p), V.int IntKind.i64 (HPair.num p), V.str (HPair.text p)]) (HMail.head m)))) else (N.headBytes (List.map (fun r => { key := V.toStr (List.getD r (0 : Nat) V.undef), kind := V.toInt (List.getD r (1 : Nat) V.undef), num := V.toInt (List.getD r (2 : Nat) V.undef), text := V.toStr (List.getD r (3 : Nat) V.undef) : HPair }) (List.map (fun p => [V.str (HPair.key p), V.int IntKind.u8 (HPair.kind p), V.int IntKind.i64 (HPair.num p), V.str (HPair.text p)]) (HMail.head m))), (0 : Int))))) (HMail.body m)) (HMail.due m) (8 : Int)) (IntKind.wrap IntKind.u64 (HMail.hops m)) (1 : Int))), V.int IntKind.i64 (0 : Int)], bx := [] : DRes }) (none)) (none)) (none)) (none)) (none)) (none)) (none)) := by kernel_rfl
theorem mailCheck_fit {m : HMail} (h : N.mailCheck m = 0) : m.shop.length ≤ 16 ∧ m.key.length ≤ 64 ∧ N.headCheck m.head = 0 ∧ m.body.length ≤ 256 ∧ m.hops ≤ 4 ∧ N.name m.shop = 0 ∧ N.key m.key [] = 0 := by
  unfold N.mailCheck at h
  have key : ∀ x y : Int, cond (x != 0) x y = 0 → x = 0 ∧ y = 0 := fun x y h => by
    cases e : x != 0 with
    | true => rw [e, cond_true] at h; rw [h] at e; cases e
    | false => rw [e, cond_false] at h; exact ⟨by simpa using e, h⟩
  obtain ⟨h1, h⟩ := key _ _ h
  obtain ⟨h2, h⟩ := key _ _ h
  obtain ⟨h3, h⟩ := key _ _ h
  cases h4 : ilt 256 (m.body.length : Int) with
  | true => rw [h4] at h; cases h
  | false =>
    rw [h4] at h
    cases h5 : ilt 4 m.hops with
    | true => rw [h5] at h; cases h
    | false =>
      have a4 := ilt_nof h4
      have a5 := ilt_nof h5
      have a1 : m.shop.length ≤ 16 := by
        unfold N.name at h1
        cases e1 : m.shop == [] with
        | true => rw [e1] at h1; cases h1
        | false =>
          rw [e1] at h1
          cases e2 : ilt 16 m.shop.length with
          | true => rw [e2] at h1; cases h1
          | false => have := ilt_nof e2; omega
      have a2 : m.key.length ≤ 64 := by
        rw [key_eq] at h2
        exact refKey_len (b := false) (by rw [h2]; rfl)
      exact ⟨a1, a2, h3, by omega, a5, h1, h2⟩
theorem pairsB_len : ∀ {l : List HPair}, l.all N.fitP = true → (N.pairsB l).length ≤ 150 * l.length
  | [], _ => Nat.le_refl _
  | p :: r, h => by
    rw [List.all_cons, Bool.and_eq_true] at h
    have ih := pairsB_len h.2
    obtain ⟨f1, f2⟩ := bcond h.1
    have f1 := ble_of f1
    have f2 := ble_of f2
    have hlen : (N.pairB p).length ≤ 150 := by
      unfold N.pairB
      simp only [List.length_append, textB_len, numB_len]
      cases p.kind == 0 <;> cases p.kind == 1 <;> cases p.kind == 2 <;> simp only [cond_true, cond_false, numB_len, textB_len, List.length_nil] <;> omega
    show (N.pairB p ++ N.pairsB r).length ≤ _
    rw [List.length_append, List.length_cons]; omega
theorem headB_len {h : List HPair} (hz : N.headCheck h = 0) : (N.headBytes h).length ≤ 1201 := by
  obtain ⟨c1, c2⟩ := check_fit hz
  have := pairsB_len c2
  unfold N.headBytes
  rw [List.length_append, numB_len]; omega
theorem ok_mailBytes (hN : FnOk Tryd.prog 75 dOutNum) : FnOk Tryd.prog 41 dMailBytes := by
  refine den_okF (env_ok (((((((TOk.nil _).cons ok_outString).cons ok_outRaw).cons (ok_outText hN)).cons hN).cons (ok_headBytes hN)).cons ok_mailCheck)) (E := eMailBytes) Tryd.func41 [] (by kernel_rfl) none0 fun m _ h => ?_
  obtain ⟨id, shop, key, head, body, due, hops⟩ := m
  obtain ⟨b1, h⟩ := bcond h
  obtain ⟨b2, h⟩ := bcond h
  obtain ⟨i1, i2⟩ := bcond b1
  obtain ⟨i3, i4⟩ := bcond b2
  obtain ⟨i5, i6⟩ := bcond h
  simp only at i1 i2 i3 i4 i5 i6
  refine (q_mailBytes ⟨id, shop, key, head, body, due, hops⟩).trans ?_
  simp only [nrm_rows]
  show _ = some (⟨.tup [.str (cond (N.mailCheck ⟨id, shop, key, head, body, due, hops⟩ != 0) (([] : Bytes), N.mailCheck ⟨id, shop, key, head, body, due, hops⟩) (N.mailB ⟨id, shop, key, head, body, due, hops⟩, 0)).1,
    .int .i64 (cond (N.mailCheck ⟨id, shop, key, head, body, due, hops⟩ != 0) (([] : Bytes), N.mailCheck ⟨id, shop, key, head, body, due, hops⟩) (N.mailB ⟨id, shop, key, head, body, due, hops⟩, 0)).2], [], []⟩ : DRes)
  cases hc : N.mailCheck ⟨id, shop, key, head, body, due, hops⟩ != 0 with
  | true => rfl
  | false =>
    have hz : N.mailCheck ⟨id, shop, key, head, body, due, hops⟩ = 0 := by simpa using hc
    obtain ⟨c1, c2, c3, c4, c5, _⟩ := mailCheck_fit hz
    simp only at c1 c2 c3 c4 c5
    have hl := headB_len c3
    have wh : IntKind.wrap .u64 hops = hops := wrap_u64 (by have := ile_of i5; omega) (by omega)
    have i5' := ile_of i5
    have hb : cond (N.headCheck head != 0) (([] : Bytes), N.headCheck head) (N.headBytes head, 0) = (N.headBytes head, 0) := by rw [c3]; rfl
    have o1 : ∀ (x s : Bytes), s.length ≤ 65535 → N.outText ⟨x, 0⟩ s = ⟨x ++ N.textB s, 0⟩ := fun x s hs => outText_le hs
    unfold N.mailB
    simp only
    simp (disch := omega) only [evs, raw_le, i1, i2, i3, i4, o1, outNum_8, outNum_1, numB_len, textB_len, wh, List.nil_append]
end Go.Ev

/- What the statement on heads that are read reckons: lemmas; the function that writes numbers is a premise. -/
namespace Go.Ev
open Go Go.Proofs
set_option maxRecDepth 100000

end Go.Ev

/- What the statement on heads' bytes reckons: lemmas; the functions that write numbers are premises. -/
namespace Go.Ev
open Go Go.Proofs
set_option maxRecDepth 100000

/-- The search from behind. -/
def N.back (key : Bytes) (l : List HPair) : Nat → HPair × Bool → HPair × Bool
  | 0, w => w
  | k + 1, w => back key l k (cond ((l.getD k pair0).key == key) (l.getD k pair0, true) w)
end Go.Ev

/- What the statement on heads' bytes reckons: it is true; the functions that write numbers are premises. -/
namespace Go.Ev
open Go Go.Proofs
set_option maxRecDepth 100000

end Go.Ev

/- Messages: what was written is read again; the program's reader and the document's go together: lemmas on the plain functions. -/
namespace Go.Ev
open Go

theorem mailSame_refl (m : HMail) : N.mailSame m m = true := by
  unfold N.mailSame
  simp only [beq_self_eq_true, samePs_refl, cond_true]
end Go.Ev

/- Rules: the program's way and the document's are one: lemmas on the plain functions. -/
namespace Go.Ev
open Go

end Go.Ev

/- The functions that tell which messages go by a rule answer what the plain ones do: lemmas, no condition. -/
namespace Go.Ev
open Go Go.Proofs
set_option maxRecDepth 100000

end Go.Ev

/- Words joined again, patterns of stars: plain lemmas, no condition. -/
namespace Go.Ev
open Go
namespace N
end N
/-! ### Keys as patterns -/
end Go.Ev

/- What the statements on rules reckon: each is true; lemmas; the function that writes numbers is a premise. -/
namespace Go.Ev
open Go Go.Proofs
set_option maxRecDepth 100000

noncomputable def eAw9' : Env := env Tryd.prog [(84, dTrue)] [] []
theorem q_aw9'  : evFn eAw9' 48 [] [] some =
 some { v := V.bool true, bx := [] : DRes } := by kernel_rfl
theorem ok_aw9' (hN : FnOk Tryd.prog 75 dOutNum) : FnOk Tryd.prog 48 dTrue := den_okF (env_ok ((TOk.nil _).cons (ok_aw9 hN))) (E := eAw9') Tryd.func48 [] (by kernel_rfl) none0 fun _ _ _ => q_aw9'
end Go.Ev

/- The statement on heads' bytes: what it reckons is true of what comes in; lemmas, no condition. -/
namespace Go.Ev
open Go Go.Proofs
set_option maxRecDepth 100000

end Go.Ev

/- What the statements on messages' bytes reckon: each is true; lemmas; the function that writes numbers is a premise. -/
namespace Go.Ev
open Go Go.Proofs
set_option maxRecDepth 100000

noncomputable def eAw13 : Env := env Tryd.prog [(48, dTrue), (41, dMailBytes)] [] []
theorem q_aw13 : evFn eAw13 21 [] [] some = some { v := .bool true, bx := [] } := by kernel_rfl
theorem ok_aw13 (hN : FnOk Tryd.prog 75 dOutNum) : FnOk Tryd.prog 21 dTrue :=
  den_okF (env_ok (((TOk.nil _).cons (ok_mailBytes hN)).cons (ok_aw9' hN))) (E := eAw13) Tryd.func21 [] (by kernel_rfl) none0 fun _ _ _ => q_aw13
end Go.Ev

/- What the statement on same messages reckons: it is true; lemmas; the function that writes numbers is a premise. -/
namespace Go.Ev
open Go Go.Proofs
set_option maxRecDepth 100000

def filledP (l : List HPair) : Bool := cond (Nat.beq l.length 0) false (smallP l)
def dCloneO : Den := den (aOne (vSl cPair)) bNil (oOwn cPair) (fun l _ => filledP l) fun l _ => (l, ())
def oMailO (m : HMail) : Out := { v := .agg [.int .u64 m.id, .str m.shop, .str m.key, .own NEW 0, .str m.body, .int .u64 m.due, .int .u8 m.hops], nb := [.sl [.str, .int .u8, .int .i64, .str] (m.head.map fun p => [V.str p.key, V.int .u8 p.kind, V.int .i64 p.num, V.str p.text]) 0] }
def dCopyO : Den := den (aOne (vAgg cMail)) bNil oMailO (fun m _ => filledP m.head) fun m _ => (m, ())
noncomputable def eCloneO : Env := env Tryd.prog [] [] [] [59]
theorem q_cloneO (l : List HPair) : evFn eCloneO 59 ((aOne (vSl cPair)).enc l) ([]) some =
 cond (!Nat.beq (List.length (List.map (fun p => [V.str (HPair.key p), V.int IntKind.u8 (HPair.kind p), V.int IntKind.i64 (HPair.num p), V.str (HPair.text p)]) l)) (0 : Nat)) (cond (Nat.beq (List.length (List.map (fun p => [V.str (HPair.key p), V.int IntKind.u8 (HPair.kind p), V.int IntKind.i64 (HPair.num p), V.str (HPair.text p)]) l)) (0 : Nat)) (some { v := V.slc [Sh.str, Sh.int IntKind.u8, Sh.int IntKind.i64, Sh.str] [], bx := [] : DRes }) (cond (decide (List.length (List.map (fun p => [V.str (HPair.key p), V.int IntKind.u8 (HPair.kind p), V.int IntKind.i64 (HPair.num p), V.str (HPair.text p)]) l) * (48 : Nat) ≤ (140737488355328 : Nat))) (some { v := V.own (1000 : Nat) (0 : Nat), bx := [], nb := [Box.sl [Sh.str, Sh.int IntKind.u8, Sh.int IntKind.i64, Sh.str] (List.map (fun p => [V.str (HPair.key p), V.int IntKind.u8 (HPair.kind p), V.int IntKind.i64 (HPair.num p), V.str (HPair.text p)]) l) (0 : Nat)] : DRes }) (none))) (none) := by kernel_rfl
theorem filled_of {l : List HPair} (h : filledP l = true) : l.length ≠ 0 ∧ l.length ≤ 1000000 := by
  unfold filledP at h
  cases e : Nat.beq l.length 0 with
  | true => rw [e] at h; cases h
  | false =>
    rw [e] at h
    exact ⟨fun h0 => (by rw [h0] at e; cases e), ble_of h⟩
theorem ok_cloneO : FnOk Tryd.prog 59 dCloneO := by
  refine den_okF (env_ok (TOk.nil _)) (E := eCloneO) Tryd.func59 [] (by kernel_rfl) none0 fun l _ h => ?_
  obtain ⟨h1, h2⟩ := filled_of h
  refine (q_cloneO l).trans ?_
  show _ = some (⟨.own NEW 0, [], [.sl [.str, .int .u8, .int .i64, .str] (l.map fun p => [V.str p.key, V.int .u8 p.kind, V.int .i64 p.num, V.str p.text]) 0]⟩ : DRes)
  have e : Nat.beq l.length 0 = false := by rw [Bool.eq_false_iff]; exact fun e => h1 (by simpa using e)
  simp (disch := omega) only [evs, e, Bool.not_false]
  rfl
noncomputable def eCopyO : Env := env Tryd.prog [(59, dCloneO)] [] [] [23]
theorem q_copyO (m : HMail) : evFn eCopyO 23 ((aOne (vAgg cMail)).enc m) ([]) some =
 cond (bif Nat.beq (List.length (List.map (fun r => { key := V.toStr (List.getD r (0 : Nat) V.undef), kind := V.toInt (List.getD r (1 : Nat) V.undef), num := V.toInt (List.getD r (2 : Nat) V.undef), text := V.toStr (List.getD r (3 : Nat) V.undef) : HPair }) (List.map (fun p => [V.str (HPair.key p), V.int IntKind.u8 (HPair.kind p), V.int IntKind.i64 (HPair.num p), V.str (HPair.text p)]) (HMail.head m)))) (0 : Nat) then false else Nat.ble (List.length (List.map (fun r => { key := V.toStr (List.getD r (0 : Nat) V.undef), kind := V.toInt (List.getD r (1 : Nat) V.undef), num := V.toInt (List.getD r (2 : Nat) V.undef), text := V.toStr (List.getD r (3 : Nat) V.undef) : HPair }) (List.map (fun p => [V.str (HPair.key p), V.int IntKind.u8 (HPair.kind p), V.int IntKind.i64 (HPair.num p), V.str (HPair.text p)]) (HMail.head m)))) (1000000 : Nat)) (some { v := V.agg [V.int IntKind.u64 (HMail.id m), V.str (HMail.shop m), V.str (HMail.key m), V.own (1000 : Nat) (0 : Nat), V.str (HMail.body m), V.int IntKind.u64 (HMail.due m), V.int IntKind.u8 (HMail.hops m)], bx := [], nb := [Box.sl [Sh.str, Sh.int IntKind.u8, Sh.int IntKind.i64, Sh.str] (List.map (fun p => [V.str (HPair.key p), V.int IntKind.u8 (HPair.kind p), V.int IntKind.i64 (HPair.num p), V.str (HPair.text p)]) (List.map (fun r => { key := V.toStr (List.getD r (0 : Nat) V.undef), kind := V.toInt (List.getD r (1 : Nat) V.undef), num := V.toInt (List.getD r (2 : Nat) V.undef), text := V.toStr (List.getD r (3 : Nat) V.undef) : HPair }) (List.map (fun p => [V.str (HPair.key p), V.int IntKind.u8 (HPair.kind p), V.int IntKind.i64 (HPair.num p), V.str (HPair.text p)]) (HMail.head m)))) (0 : Nat)] : DRes }) (none) := by kernel_rfl
theorem ok_copyO : FnOk Tryd.prog 23 dCopyO := by
  refine den_okF (env_ok ((TOk.nil _).cons ok_cloneO)) (E := eCopyO) Tryd.func23 [] (by kernel_rfl) none0 fun m _ h => ?_
  obtain ⟨h1, h2⟩ := filled_of h
  refine (q_copyO m).trans ?_
  simp only [nrm_rows]
  have e : Nat.beq m.head.length 0 = false := by rw [Bool.eq_false_iff]; exact fun e => h1 (by simpa using e)
  simp (disch := omega) only [evs, e]
  rfl
/-- A row with a longer key. -/
def addX (r : List V) : List V := [.str ((r.getD 0 .undef).toStr ++ [120]), .int .u8 (r.getD 1 .undef).toInt, .int .i64 (r.getD 2 .undef).toInt, .str (r.getD 3 .undef).toStr]
def schLawMSm : SSch := { fr := [(2, .ptr 10000 0 0), (5, .ptr 10001 0 0), (40, .int .i64), (41, .int .i64)], tab := [(10000, .var [.int .u64, .str, .str, .slc [.str, .int .u8, .int .i64, .str], .str, .int .u64, .int .u8]), (10002, .sl [.str, .int .u8, .int .i64, .str]), (10001, .var [.int .u64, .str, .str, .own 10002, .str, .int .u64, .int .u8])] }
def gLawMSm : List Leaf → (Ex → St → Option R) → Option R
  | [.i i40, .i i41, .i ix0, .s sx0, .s sx0_1, .r rx0, .s sx0_2, .i ix0_1, .i ix0_2, .r rx2, .i ix1, .s sx1, .s sx1_1, .s sx1_2, .i ix1_1, .i ix1_2], K => cond (i40 == rx2.length) (cond (i41 == 0) (cond (Nat.ble rx2.length LIM) (cond (rx2.all fun r => Nat.ble (V.toStr (List.getD r 0 .undef)).length LIM)
      (K (.exit 0) { fr := [(2, .ptr 10000 0 0 0), (5, .ptr 10001 0 0 0)], tab := [(10000, .var [.int .u64 ix0, .str sx0, .str sx0_1, .slc [.str, .int .u8, .int .i64, .str] rx0, .str sx0_2, .int .u64 ix0_1, .int .u8 ix0_2]), (10002, .sl [.str, .int .u8, .int .i64, .str] (rx2.map addX) 0), (10001, .var [.int .u64 ix1, .str sx1, .str sx1_1, .own 10002 0, .str sx1_2, .int .u64 ix1_1, .int .u8 ix1_2])] }) none) none) none) none
  | _, _ => none
noncomputable def eLawMSm : Env := env Tryd.prog [(21, dTrue), (22, dLightM), (23, dCopyO), (24, dMailSame), (25, dMailSame)] [(9, loopF schLawMSm gLawMSm)] [(9, [(0, [2, 5, 40, 41]), (1, [2, 5]), (1000, [4])])]
theorem q_lawMSm (a b : HMail) : evFn eLawMSm 5 ((aCons (vAgg cMail) (aOne (vAgg cMail))).enc (a, b)) ([]) some =
 cond (!N.lightM { id := HMail.id a, shop := HMail.shop a, key := HMail.key a, head := List.map (fun r => { key := V.toStr (List.getD r (0 : Nat) V.undef), kind := V.toInt (List.getD r (1 : Nat) V.undef), num := V.toInt (List.getD r (2 : Nat) V.undef), text := V.toStr (List.getD r (3 : Nat) V.undef) : HPair }) (List.map (fun p => [V.str (HPair.key p), V.int IntKind.u8 (HPair.kind p), V.int IntKind.i64 (HPair.num p), V.str (HPair.text p)]) (HMail.head a)), body := HMail.body a, due := HMail.due a, hops := HMail.hops a : HMail }) (some { v := V.bool true, bx := [] : DRes }) (cond (!N.lightM { id := HMail.id b, shop := HMail.shop b, key := HMail.key b, head := List.map (fun r => { key := V.toStr (List.getD r (0 : Nat) V.undef), kind := V.toInt (List.getD r (1 : Nat) V.undef), num := V.toInt (List.getD r (2 : Nat) V.undef), text := V.toStr (List.getD r (3 : Nat) V.undef) : HPair }) (List.map (fun p => [V.str (HPair.key p), V.int IntKind.u8 (HPair.kind p), V.int IntKind.i64 (HPair.num p), V.str (HPair.text p)]) (HMail.head b)), body := HMail.body b, due := HMail.due b, hops := HMail.hops b : HMail }) (some { v := V.bool true, bx := [] : DRes }) (cond (bif Nat.beq (List.length (List.map (fun r => { key := V.toStr (List.getD r (0 : Nat) V.undef), kind := V.toInt (List.getD r (1 : Nat) V.undef), num := V.toInt (List.getD r (2 : Nat) V.undef), text := V.toStr (List.getD r (3 : Nat) V.undef) : HPair }) (List.map (fun p => [V.str (HPair.key p), V.int IntKind.u8 (HPair.kind p), V.int IntKind.i64 (HPair.num p), V.str (HPair.text p)]) (HMail.head a)))) (0 : Nat) then false else Nat.ble (List.length (List.map (fun r => { key := V.toStr (List.getD r (0 : Nat) V.undef), kind := V.toInt (List.getD r (1 : Nat) V.undef), num := V.toInt (List.getD r (2 : Nat) V.undef), text := V.toStr (List.getD r (3 : Nat) V.undef) : HPair }) (List.map (fun p => [V.str (HPair.key p), V.int IntKind.u8 (HPair.kind p), V.int IntKind.i64 (HPair.num p), V.str (HPair.text p)]) (HMail.head a)))) (1000000 : Nat)) (cond (Nat.ble (List.length (List.map (fun r => { key := V.toStr (List.getD r (0 : Nat) V.undef), kind := V.toInt (List.getD r (1 : Nat) V.undef), num := V.toInt (List.getD r (2 : Nat) V.undef), text := V.toStr (List.getD r (3 : Nat) V.undef) : HPair }) (List.map (fun p => [V.str (HPair.key p), V.int IntKind.u8 (HPair.kind p), V.int IntKind.i64 (HPair.num p), V.str (HPair.text p)]) (HMail.head a)))) (1000000 : Nat)) (cond (Nat.ble (List.length (List.map (fun r => { key := V.toStr (List.getD r (0 : Nat) V.undef), kind := V.toInt (List.getD r (1 : Nat) V.undef), num := V.toInt (List.getD r (2 : Nat) V.undef), text := V.toStr (List.getD r (3 : Nat) V.undef) : HPair }) (List.map (fun p => [V.str (HPair.key p), V.int IntKind.u8 (HPair.kind p), V.int IntKind.i64 (HPair.num p), V.str (HPair.text p)]) (HMail.head a)))) (1000000 : Nat)) (cond (!N.mailSame { id := HMail.id a, shop := HMail.shop a, key := HMail.key a, head := List.map (fun r => { key := V.toStr (List.getD r (0 : Nat) V.undef), kind := V.toInt (List.getD r (1 : Nat) V.undef), num := V.toInt (List.getD r (2 : Nat) V.undef), text := V.toStr (List.getD r (3 : Nat) V.undef) : HPair }) (List.map (fun p => [V.str (HPair.key p), V.int IntKind.u8 (HPair.kind p), V.int IntKind.i64 (HPair.num p), V.str (HPair.text p)]) (HMail.head a)), body := HMail.body a, due := HMail.due a, hops := HMail.hops a : HMail } { id := HMail.id b, shop := HMail.shop b, key := HMail.key b, head := List.map (fun r => { key := V.toStr (List.getD r (0 : Nat) V.undef), kind := V.toInt (List.getD r (1 : Nat) V.undef), num := V.toInt (List.getD r (2 : Nat) V.undef), text := V.toStr (List.getD r (3 : Nat) V.undef) : HPair }) (List.map (fun p => [V.str (HPair.key p), V.int IntKind.u8 (HPair.kind p), V.int IntKind.i64 (HPair.num p), V.str (HPair.text p)]) (HMail.head b)), body := HMail.body b, due := HMail.due b, hops := HMail.hops b : HMail } == N.mailSame { id := HMail.id a, shop := HMail.shop a, key := HMail.key a, head := List.map (fun r => { key := V.toStr (List.getD r (0 : Nat) V.undef), kind := V.toInt (List.getD r (1 : Nat) V.undef), num := V.toInt (List.getD r (2 : Nat) V.undef), text := V.toStr (List.getD r (3 : Nat) V.undef) : HPair }) (List.map (fun p => [V.str (HPair.key p), V.int IntKind.u8 (HPair.kind p), V.int IntKind.i64 (HPair.num p), V.str (HPair.text p)]) (HMail.head a)), body := HMail.body a, due := HMail.due a, hops := HMail.hops a : HMail } { id := HMail.id b, shop := HMail.shop b, key := HMail.key b, head := List.map (fun r => { key := V.toStr (List.getD r (0 : Nat) V.undef), kind := V.toInt (List.getD r (1 : Nat) V.undef), num := V.toInt (List.getD r (2 : Nat) V.undef), text := V.toStr (List.getD r (3 : Nat) V.undef) : HPair }) (List.map (fun p => [V.str (HPair.key p), V.int IntKind.u8 (HPair.kind p), V.int IntKind.i64 (HPair.num p), V.str (HPair.text p)]) (HMail.head b)), body := HMail.body b, due := HMail.due b, hops := HMail.hops b : HMail }) (some { v := V.bool false, bx := [] : DRes }) (cond (Nat.ble (List.length (List.map (fun r => { key := V.toStr (List.getD r (0 : Nat) V.undef), kind := V.toInt (List.getD r (1 : Nat) V.undef), num := V.toInt (List.getD r (2 : Nat) V.undef), text := V.toStr (List.getD r (3 : Nat) V.undef) : HPair }) (List.map (fun p => [V.str (HPair.key p), V.int IntKind.u8 (HPair.kind p), V.int IntKind.i64 (HPair.num p), V.str (HPair.text p)]) (HMail.head a)))) (1000000 : Nat)) (cond (!N.mailSame { id := HMail.id a, shop := HMail.shop a, key := HMail.key a, head := List.map (fun r => { key := V.toStr (List.getD r (0 : Nat) V.undef), kind := V.toInt (List.getD r (1 : Nat) V.undef), num := V.toInt (List.getD r (2 : Nat) V.undef), text := V.toStr (List.getD r (3 : Nat) V.undef) : HPair }) (List.map (fun p => [V.str (HPair.key p), V.int IntKind.u8 (HPair.kind p), V.int IntKind.i64 (HPair.num p), V.str (HPair.text p)]) (HMail.head a)), body := HMail.body a, due := HMail.due a, hops := HMail.hops a : HMail } { id := HMail.id a, shop := HMail.shop a, key := HMail.key a, head := List.map (fun r => { key := V.toStr (List.getD r (0 : Nat) V.undef), kind := V.toInt (List.getD r (1 : Nat) V.undef), num := V.toInt (List.getD r (2 : Nat) V.undef), text := V.toStr (List.getD r (3 : Nat) V.undef) : HPair }) (List.map (fun p => [V.str (HPair.key p), V.int IntKind.u8 (HPair.kind p), V.int IntKind.i64 (HPair.num p), V.str (HPair.text p)]) (HMail.head a)), body := HMail.body a, due := HMail.due a, hops := HMail.hops a : HMail }) (some { v := V.bool false, bx := [] : DRes }) (cond (Nat.ble (List.length (List.map (fun r => { key := V.toStr (List.getD r (0 : Nat) V.undef), kind := V.toInt (List.getD r (1 : Nat) V.undef), num := V.toInt (List.getD r (2 : Nat) V.undef), text := V.toStr (List.getD r (3 : Nat) V.undef) : HPair }) (List.map (fun p => [V.str (HPair.key p), V.int IntKind.u8 (HPair.kind p), V.int IntKind.i64 (HPair.num p), V.str (HPair.text p)]) (HMail.head a)))) (1000000 : Nat)) (cond (!N.mailSame { id := HMail.id a, shop := HMail.shop a, key := HMail.key a, head := List.map (fun r => { key := V.toStr (List.getD r (0 : Nat) V.undef), kind := V.toInt (List.getD r (1 : Nat) V.undef), num := V.toInt (List.getD r (2 : Nat) V.undef), text := V.toStr (List.getD r (3 : Nat) V.undef) : HPair }) (List.map (fun p => [V.str (HPair.key p), V.int IntKind.u8 (HPair.kind p), V.int IntKind.i64 (HPair.num p), V.str (HPair.text p)]) (HMail.head a)), body := HMail.body a, due := HMail.due a, hops := HMail.hops a : HMail } { id := HMail.id a, shop := HMail.shop a, key := HMail.key a, head := List.map (fun r => { key := V.toStr (List.getD r (0 : Nat) V.undef), kind := V.toInt (List.getD r (1 : Nat) V.undef), num := V.toInt (List.getD r (2 : Nat) V.undef), text := V.toStr (List.getD r (3 : Nat) V.undef) : HPair }) (List.map (fun p => [V.str (HPair.key p), V.int IntKind.u8 (HPair.kind p), V.int IntKind.i64 (HPair.num p), V.str (HPair.text p)]) (List.map (fun r => { key := V.toStr (List.getD r (0 : Nat) V.undef), kind := V.toInt (List.getD r (1 : Nat) V.undef), num := V.toInt (List.getD r (2 : Nat) V.undef), text := V.toStr (List.getD r (3 : Nat) V.undef) : HPair }) (List.map (fun p => [V.str (HPair.key p), V.int IntKind.u8 (HPair.kind p), V.int IntKind.i64 (HPair.num p), V.str (HPair.text p)]) (HMail.head a)))), body := HMail.body a, due := HMail.due a, hops := HMail.hops a : HMail }) (some { v := V.bool false, bx := [] : DRes }) (cond ((↑(List.length (List.map (fun p => [V.str (HPair.key p), V.int IntKind.u8 (HPair.kind p), V.int IntKind.i64 (HPair.num p), V.str (HPair.text p)]) (List.map (fun r => { key := V.toStr (List.getD r (0 : Nat) V.undef), kind := V.toInt (List.getD r (1 : Nat) V.undef), num := V.toInt (List.getD r (2 : Nat) V.undef), text := V.toStr (List.getD r (3 : Nat) V.undef) : HPair }) (List.map (fun p => [V.str (HPair.key p), V.int IntKind.u8 (HPair.kind p), V.int IntKind.i64 (HPair.num p), V.str (HPair.text p)]) (HMail.head a))))) : Int) == (↑(List.length (List.map (fun p => [V.str (HPair.key p), V.int IntKind.u8 (HPair.kind p), V.int IntKind.i64 (HPair.num p), V.str (HPair.text p)]) (List.map (fun r => { key := V.toStr (List.getD r (0 : Nat) V.undef), kind := V.toInt (List.getD r (1 : Nat) V.undef), num := V.toInt (List.getD r (2 : Nat) V.undef), text := V.toStr (List.getD r (3 : Nat) V.undef) : HPair }) (List.map (fun p => [V.str (HPair.key p), V.int IntKind.u8 (HPair.kind p), V.int IntKind.i64 (HPair.num p), V.str (HPair.text p)]) (HMail.head a))))) : Int)) (cond (Nat.ble (List.length (List.map (fun p => [V.str (HPair.key p), V.int IntKind.u8 (HPair.kind p), V.int IntKind.i64 (HPair.num p), V.str (HPair.text p)]) (List.map (fun r => { key := V.toStr (List.getD r (0 : Nat) V.undef), kind := V.toInt (List.getD r (1 : Nat) V.undef), num := V.toInt (List.getD r (2 : Nat) V.undef), text := V.toStr (List.getD r (3 : Nat) V.undef) : HPair }) (List.map (fun p => [V.str (HPair.key p), V.int IntKind.u8 (HPair.kind p), V.int IntKind.i64 (HPair.num p), V.str (HPair.text p)]) (HMail.head a))))) (1000000 : Nat)) (cond (List.all (List.map (fun p => [V.str (HPair.key p), V.int IntKind.u8 (HPair.kind p), V.int IntKind.i64 (HPair.num p), V.str (HPair.text p)]) (List.map (fun r => { key := V.toStr (List.getD r (0 : Nat) V.undef), kind := V.toInt (List.getD r (1 : Nat) V.undef), num := V.toInt (List.getD r (2 : Nat) V.undef), text := V.toStr (List.getD r (3 : Nat) V.undef) : HPair }) (List.map (fun p => [V.str (HPair.key p), V.int IntKind.u8 (HPair.kind p), V.int IntKind.i64 (HPair.num p), V.str (HPair.text p)]) (HMail.head a)))) fun r => Nat.ble (List.length (V.toStr (List.getD r (0 : Nat) V.undef))) (1000000 : Nat)) (cond ((↑(List.length (List.map (fun p => [V.str (HPair.key p), V.int IntKind.u8 (HPair.kind p), V.int IntKind.i64 (HPair.num p), V.str (HPair.text p)]) (HMail.head a))) : Int) == (0 : Int)) (some { v := V.bool true, bx := [] : DRes }) (cond (Nat.ble (List.length (List.map (fun r => { key := V.toStr (List.getD r (0 : Nat) V.undef), kind := V.toInt (List.getD r (1 : Nat) V.undef), num := V.toInt (List.getD r (2 : Nat) V.undef), text := V.toStr (List.getD r (3 : Nat) V.undef) : HPair }) (List.map (fun p => [V.str (HPair.key p), V.int IntKind.u8 (HPair.kind p), V.int IntKind.i64 (HPair.num p), V.str (HPair.text p)]) (HMail.head a)))) (1000000 : Nat)) (some { v := V.bool !N.mailSame { id := HMail.id a, shop := HMail.shop a, key := HMail.key a, head := List.map (fun r => { key := V.toStr (List.getD r (0 : Nat) V.undef), kind := V.toInt (List.getD r (1 : Nat) V.undef), num := V.toInt (List.getD r (2 : Nat) V.undef), text := V.toStr (List.getD r (3 : Nat) V.undef) : HPair }) (List.map (fun p => [V.str (HPair.key p), V.int IntKind.u8 (HPair.kind p), V.int IntKind.i64 (HPair.num p), V.str (HPair.text p)]) (HMail.head a)), body := HMail.body a, due := HMail.due a, hops := HMail.hops a : HMail } { id := HMail.id a, shop := HMail.shop a, key := HMail.key a, head := List.map (fun r => { key := V.toStr (List.getD r (0 : Nat) V.undef), kind := V.toInt (List.getD r (1 : Nat) V.undef), num := V.toInt (List.getD r (2 : Nat) V.undef), text := V.toStr (List.getD r (3 : Nat) V.undef) : HPair }) (List.map (fun r => [V.str (V.toStr (List.getD r (0 : Nat) V.undef) ++ [(120 : UInt8)]), V.int IntKind.u8 (V.toInt (List.getD r (1 : Nat) V.undef)), V.int IntKind.i64 (V.toInt (List.getD r (2 : Nat) V.undef)), V.str (V.toStr (List.getD r (3 : Nat) V.undef))]) (List.map (fun p => [V.str (HPair.key p), V.int IntKind.u8 (HPair.kind p), V.int IntKind.i64 (HPair.num p), V.str (HPair.text p)]) (List.map (fun r => { key := V.toStr (List.getD r (0 : Nat) V.undef), kind := V.toInt (List.getD r (1 : Nat) V.undef), num := V.toInt (List.getD r (2 : Nat) V.undef), text := V.toStr (List.getD r (3 : Nat) V.undef) : HPair }) (List.map (fun p => [V.str (HPair.key p), V.int IntKind.u8 (HPair.kind p), V.int IntKind.i64 (HPair.num p), V.str (HPair.text p)]) (HMail.head a))))), body := HMail.body a, due := HMail.due a, hops := HMail.hops a : HMail }, bx := [] : DRes }) (none))) (none)) (none)) (none))) (none))) (none))) (none)) (none)) (none))) := by kernel_rfl
theorem q_lawMSmR (i40 : Int) (i41 : Int) (ix0 : Int) (sx0 : Bytes) (sx0_1 : Bytes) (rx0 : List (List V)) (sx0_2 : Bytes) (ix0_1 : Int) (ix0_2 : Int) (rx2 : List (List V)) (ix1 : Int) (sx1 : Bytes) (sx1_1 : Bytes) (sx1_2 : Bytes) (ix1_1 : Int) (ix1_2 : Int) (K : Ex → St → Option R) : evRound eLawMSm 5 9 { fr := [(2, .ptr 10000 0 0 0), (5, .ptr 10001 0 0 0), (40, .int .i64 i40), (41, .int .i64 i41)], tab := [(10000, .var [.int .u64 ix0, .str sx0, .str sx0_1, .slc [.str, .int .u8, .int .i64, .str] rx0, .str sx0_2, .int .u64 ix0_1, .int .u8 ix0_2]), (10002, .sl [.str, .int .u8, .int .i64, .str] rx2 0), (10001, .var [.int .u64 ix1, .str sx1, .str sx1_1, .own 10002 0, .str sx1_2, .int .u64 ix1_1, .int .u8 ix1_2])] } K =
 cond (ilt i41 i40) (cond (decide ((0 : Int) ≤ i41 ∧ i41 < (↑(List.length rx2) : Int))) (cond (Nat.ble (List.length (V.toStr (List.getD (List.getD rx2 (Int.toNat i41) []) (0 : Nat) V.undef)) + (1 : Nat)) (9223372036854775807 : Nat)) (cond (decide ((0 : Int) ≤ i41 ∧ i41 < (↑(List.length rx2) : Int))) (K Ex.normal { fr := [((2 : Nat), V.ptr (10000 : Nat) (0 : Nat) (0 : Nat) (0 : Nat)), ((5 : Nat), V.ptr (10001 : Nat) (0 : Nat) (0 : Nat) (0 : Nat)), ((40 : Nat), V.int IntKind.i64 i40), ((41 : Nat), V.int IntKind.i64 (IntKind.wrap IntKind.i64 (i41 + (1 : Int))))], tab := [((10000 : Nat), Box.var [V.int IntKind.u64 ix0, V.str sx0, V.str sx0_1, V.slc [Sh.str, Sh.int IntKind.u8, Sh.int IntKind.i64, Sh.str] rx0, V.str sx0_2, V.int IntKind.u64 ix0_1, V.int IntKind.u8 ix0_2]), ((10002 : Nat), Box.sl [Sh.str, Sh.int IntKind.u8, Sh.int IntKind.i64, Sh.str] (List.set rx2 (Int.toNat i41) [V.str (V.toStr (List.getD (List.getD rx2 (Int.toNat i41) []) (0 : Nat) V.undef) ++ [(120 : UInt8)]), V.int IntKind.u8 (V.toInt (List.getD (List.getD rx2 (Int.toNat i41) []) (1 : Nat) V.undef)), V.int IntKind.i64 (V.toInt (List.getD (List.getD rx2 (Int.toNat i41) []) (2 : Nat) V.undef)), V.str (V.toStr (List.getD (List.getD rx2 (Int.toNat i41) []) (3 : Nat) V.undef))]) (0 : Nat)), ((10001 : Nat), Box.var [V.int IntKind.u64 ix1, V.str sx1, V.str sx1_1, V.own (10002 : Nat) (0 : Nat), V.str sx1_2, V.int IntKind.u64 ix1_1, V.int IntKind.u8 ix1_2])] : St }) (none)) (none)) (none)) (K (Ex.exit (0 : Nat)) { fr := [((2 : Nat), V.ptr (10000 : Nat) (0 : Nat) (0 : Nat) (0 : Nat)), ((5 : Nat), V.ptr (10001 : Nat) (0 : Nat) (0 : Nat) (0 : Nat))], tab := [((10000 : Nat), Box.var [V.int IntKind.u64 ix0, V.str sx0, V.str sx0_1, V.slc [Sh.str, Sh.int IntKind.u8, Sh.int IntKind.i64, Sh.str] rx0, V.str sx0_2, V.int IntKind.u64 ix0_1, V.int IntKind.u8 ix0_2]), ((10002 : Nat), Box.sl [Sh.str, Sh.int IntKind.u8, Sh.int IntKind.i64, Sh.str] rx2 (0 : Nat)), ((10001 : Nat), Box.var [V.int IntKind.u64 ix1, V.str sx1, V.str sx1_1, V.own (10002 : Nat) (0 : Nat), V.str sx1_2, V.int IntKind.u64 ix1_1, V.int IntKind.u8 ix1_2])] : St }) := by kernel_rfl
def mixed (r : List (List V)) (i : Nat) : List (List V) := (r.take i).map addX ++ r.drop i
theorem mixed_len (r : List (List V)) (i : Nat) : (mixed r i).length = r.length := by unfold mixed; simp; omega
theorem mixed_get {r : List (List V)} {i : Nat} (hi : i < r.length) : (mixed r i).getD i [] = r.getD i [] := by
  unfold mixed
  rw [List.getD_eq_getElem?_getD, List.getD_eq_getElem?_getD, List.getElem?_append_right (by simp; omega), List.getElem?_drop]
  simp only [List.length_map, List.length_take]
  rw [show i + (i - min i r.length) = i by omega]
theorem mixed_set {r : List (List V)} {i : Nat} (hi : i < r.length) : (mixed r i).set i (addX (r.getD i [])) = mixed r (i + 1) := by
  unfold mixed
  have hl : ((r.take i).map addX).length = i := by simp; omega
  rw [List.set_append, if_neg (by omega), hl, Nat.sub_self, drop_row hi, List.set_cons_zero, List.take_add_one, List.getElem?_eq_getElem hi]
  have e : r.getD i [] = r[i] := by rw [List.getD_eq_getElem?_getD, List.getElem?_eq_getElem hi]; rfl
  rw [e]
  simp only [Option.toList_some, List.map_append, List.map_cons, List.map_nil, List.append_assoc, List.cons_append, List.nil_append]
theorem mixed_end (r : List (List V)) : mixed r r.length = r.map addX := by unfold mixed; simp
theorem ok_roundsMS : RoundsOk eLawMSm 5 9 := by
  refine rounds_of rfl fun l K q h => ?_
  unfold gLawMSm at h
  split at h
  · rename_i n i x1 x2 x3 x4 x5 x6 x7 r y1 y2 y3 y4 y5 y6
    have h1 := (cond_none h).1; replace h := (cond_none h).2; have h2 := (cond_none h).1; replace h := (cond_none h).2; have h3 := (cond_none h).1; replace h := (cond_none h).2; have h4 := (cond_none h).1; replace h := (cond_none h).2
    have e1 := ieq_of h1
    have e2 := ieq_of h2
    subst e1 e2
    have h3 : r.length ≤ 1000000 := ble_of h3
    have h4 : ∀ i, i < r.length → (V.toStr (List.getD (r.getD i []) 0 .undef)).length ≤ 1000000 := fun i hi => by
      have := List.all_eq_true.1 h4 (r.getD i []) (by rw [List.getD_eq_getElem?_getD, List.getElem?_eq_getElem hi]; exact List.getElem_mem _)
      exact ble_of this
    have main := range_ind (E := eLawMSm) (f := 5) (id := 9) (A := Unit) r (fun _ i => { fr := [(2, .ptr 10000 0 0 0), (5, .ptr 10001 0 0 0), (40, .int .i64 r.length), (41, .int .i64 i)], tab := [(10000, .var [.int .u64 x1, .str x2, .str x3, .slc [.str, .int .u8, .int .i64, .str] x4, .str x5, .int .u64 x6, .int .u8 x7]), (10002, .sl [.str, .int .u8, .int .i64, .str] (mixed r i.toNat) 0), (10001, .var [.int .u64 y1, .str y2, .str y3, .own 10002 0, .str y4, .int .u64 y5, .int .u8 y6])] }) (fun _ _ => True)
      (fun _ _ K => K (.exit 0) { fr := [(2, .ptr 10000 0 0 0), (5, .ptr 10001 0 0 0)], tab := [(10000, .var [.int .u64 x1, .str x2, .str x3, .slc [.str, .int .u8, .int .i64, .str] x4, .str x5, .int .u64 x6, .int .u8 x7]), (10002, .sl [.str, .int .u8, .int .i64, .str] (r.map addX) 0), (10001, .var [.int .u64 y1, .str y2, .str y3, .own 10002 0, .str y4, .int .u64 y5, .int .u8 y6])] }) (fun _ i _ hi => ?_) (fun _ _ => ?_) () 0 (Int.le_refl _) (by omega) trivial K q (by assumption)
    · exact main
    · refine .inl ⟨(), trivial, fun K => ?_, fun K => rfl⟩
      rw [q_lawMSmR]
      have hk := h4 i hi
      have hs := mixed_set hi
      have hg := mixed_get hi
      unfold addX at hs
      simp (disch := omega) only [evs, Int.toNat_natCast, mixed_len, hg, hs]
      rfl
    · refine ⟨.exit 0, _, by simp, fun K => ?_, fun K => rfl⟩
      rw [q_lawMSmR]
      simp (disch := omega) only [evs, Int.toNat_natCast, mixed_end]
  · cases h
theorem addX_enc (l : List HPair) : (l.map fun p => [V.str p.key, V.int .u8 p.kind, V.int .i64 p.num, V.str p.text]).map addX = (l.map fun p => (⟨p.key ++ [120], p.kind, p.num, p.text⟩ : HPair)).map fun p => [V.str p.key, V.int .u8 p.kind, V.int .i64 p.num, V.str p.text] := by
  rw [List.map_map, List.map_map]; rfl
theorem addX_enc' (l : List HPair) : (l.map fun p => [V.str p.key, V.int .u8 p.kind, V.int .i64 p.num, V.str p.text]).map (fun r => [V.str (V.toStr (List.getD r 0 .undef) ++ [120]), V.int .u8 (V.toInt (List.getD r 1 .undef)), V.int .i64 (V.toInt (List.getD r 2 .undef)), V.str (V.toStr (List.getD r 3 .undef))]) = (l.map fun p => (⟨p.key ++ [120], p.kind, p.num, p.text⟩ : HPair)).map fun p => [V.str p.key, V.int .u8 p.kind, V.int .i64 p.num, V.str p.text] := addX_enc l
theorem addX_ne (l : List HPair) (h : l ≠ []) : N.samePs l (l.map fun p => (⟨p.key ++ [120], p.kind, p.num, p.text⟩ : HPair)) = false := by
  cases l with
  | nil => exact absurd rfl h
  | cons p r =>
    have e : N.eqP p ⟨p.key ++ [120], p.kind, p.num, p.text⟩ = false := by
      unfold N.eqP
      have : (p.key == p.key ++ [120]) = false := by
        rw [beq_eq_false_iff_ne]
        intro e
        have := congrArg List.length e
        simp at this
      rw [this]; rfl
    show cond (N.eqP p _) _ false = false
    rw [e]; rfl
theorem light_all {h : List HPair} (hl : N.light h = true) : (h.map fun p => [V.str p.key, V.int .u8 p.kind, V.int .i64 p.num, V.str p.text]).all (fun r => Nat.ble (V.toStr (List.getD r 0 .undef)).length 1000000) = true := by
  unfold N.light at hl
  cases e : ilt 12 h.length with
  | true => rw [e] at hl; cases hl
  | false =>
    rw [e, cond_false] at hl
    rw [List.all_map, List.all_eq_true]
    intro p hp
    have := List.all_eq_true.1 hl p hp
    unfold N.lightP at this
    cases e1 : ilt 40 p.key.length with
    | true => rw [e1] at this; cases this
    | false =>
      have := ilt_nof e1
      exact ble_t (by show p.key.length ≤ 1000000; omega)
theorem mailSame_head {a : HMail} {h : List HPair} (hh : N.samePs a.head h = false) : N.mailSame a ⟨a.id, a.shop, a.key, h, a.body, a.due, a.hops⟩ = false := by
  unfold N.mailSame
  simp only [beq_self_eq_true, hh, cond_true, cond_false]
theorem ok_lawMSf (hN : FnOk Tryd.prog 75 dOutNum) : FnOk Tryd.prog 5 (den (aCons (vAgg cMail) (aOne (vAgg cMail))) bNil (oV vBool) (fun a _ => !(Nat.beq a.1.head.length 0)) fun _ _ => (true, ())) := by
  refine den_okF (env_ok ((((((TOk.nil _).cons ok_refMailSame).cons ok_mailSame).cons ok_copyO).cons ok_lightM).cons (ok_aw13 hN))) (E := eLawMSm) Tryd.func5 [9] (by kernel_rfl) (one1 ok_roundsMS) fun a _ hp => ?_
  obtain ⟨⟨id, shop, key, head, body, due, hops⟩, ⟨id', shop', key', head', body', due', hops'⟩⟩ := a
  have hp : (!(Nat.beq head.length 0)) = true := hp
  have hp0 : Nat.beq head.length 0 = false := by simpa using hp
  have hne : head ≠ [] := fun e => by rw [e] at hp0; cases hp0
  have hn0 : head.length ≠ 0 := fun e => by rw [e] at hp0; cases hp0
  refine (q_lawMSm ⟨id, shop, key, head, body, due, hops⟩ ⟨id', shop', key', head', body', due', hops'⟩).trans ?_
  show _ = some (⟨.bool true, [], []⟩ : DRes)
  simp only [nrm_rows]
  cases hl : N.lightM ⟨id, shop, key, head, body, due, hops⟩ with
  | false => rfl
  | true =>
    cases hl' : N.lightM ⟨id', shop', key', head', body', due', hops'⟩ with
    | false => rfl
    | true =>
      have hlh : N.light head = true := by
        obtain ⟨_, h1⟩ := bcond hl
        obtain ⟨_, h1⟩ := bcond h1
        obtain ⟨h1, _⟩ := bcond h1
        exact h1
      have hs := light_small hlh
      have ha := light_all hlh
      have e1 := mailSame_refl ⟨id, shop, key, head, body, due, hops⟩
      have e2 := mailSame_head (a := ⟨id, shop, key, head, body, due, hops⟩) (addX_ne head hne)
      simp only at e2
      simp (disch := omega) only [evs, hp0, e1, ha, addX_enc', nrm_rows, e2, Bool.not_true, Bool.not_false, beq_self_eq_true]
def schLawMSe : SSch := { fr := [(2, .ptr 10000 0 0), (5, .ptr 10001 0 0), (40, .int .i64), (41, .int .i64)], tab := [(10000, .var [.int .u64, .str, .str, .slc [.str, .int .u8, .int .i64, .str], .str, .int .u64, .int .u8]), (10001, .var [.int .u64, .str, .str, .slc [.str, .int .u8, .int .i64, .str], .str, .int .u64, .int .u8])] }
def gLawMSe : List Leaf → (Ex → St → Option R) → Option R
  | [.i i40, .i i41, .i ix0, .s sx0, .s sx0_1, .r rx0, .s sx0_2, .i ix0_1, .i ix0_2, .i ix1, .s sx1, .s sx1_1, .r rx1, .s sx1_2, .i ix1_1, .i ix1_2], K => cond (i40 == 0) (cond (i41 == 0)
      (K (.exit 0) { fr := [(2, .ptr 10000 0 0 0), (5, .ptr 10001 0 0 0)], tab := [(10000, .var [.int .u64 ix0, .str sx0, .str sx0_1, .slc [.str, .int .u8, .int .i64, .str] rx0, .str sx0_2, .int .u64 ix0_1, .int .u8 ix0_2]), (10001, .var [.int .u64 ix1, .str sx1, .str sx1_1, .slc [.str, .int .u8, .int .i64, .str] rx1, .str sx1_2, .int .u64 ix1_1, .int .u8 ix1_2])] }) none) none
  | _, _ => none
noncomputable def eLawMSe : Env := env Tryd.prog [(21, dTrue), (22, dLightM), (23, dMailCopy), (24, dMailSame), (25, dMailSame)] [(9, loopF schLawMSe gLawMSe)] [(9, [(0, [2, 5, 40, 41]), (1, [2, 5]), (1000, [4])])]
theorem q_lawMSe (a b : HMail) : evFn eLawMSe 5 ((aCons (vAgg cMail) (aOne (vAgg cMail))).enc (a, b)) ([]) some =
 cond (!N.lightM { id := HMail.id a, shop := HMail.shop a, key := HMail.key a, head := List.map (fun r => { key := V.toStr (List.getD r (0 : Nat) V.undef), kind := V.toInt (List.getD r (1 : Nat) V.undef), num := V.toInt (List.getD r (2 : Nat) V.undef), text := V.toStr (List.getD r (3 : Nat) V.undef) : HPair }) (List.map (fun p => [V.str (HPair.key p), V.int IntKind.u8 (HPair.kind p), V.int IntKind.i64 (HPair.num p), V.str (HPair.text p)]) (HMail.head a)), body := HMail.body a, due := HMail.due a, hops := HMail.hops a : HMail }) (some { v := V.bool true, bx := [] : DRes }) (cond (!N.lightM { id := HMail.id b, shop := HMail.shop b, key := HMail.key b, head := List.map (fun r => { key := V.toStr (List.getD r (0 : Nat) V.undef), kind := V.toInt (List.getD r (1 : Nat) V.undef), num := V.toInt (List.getD r (2 : Nat) V.undef), text := V.toStr (List.getD r (3 : Nat) V.undef) : HPair }) (List.map (fun p => [V.str (HPair.key p), V.int IntKind.u8 (HPair.kind p), V.int IntKind.i64 (HPair.num p), V.str (HPair.text p)]) (HMail.head b)), body := HMail.body b, due := HMail.due b, hops := HMail.hops b : HMail }) (some { v := V.bool true, bx := [] : DRes }) (cond (Nat.ble (List.length (List.map (fun r => { key := V.toStr (List.getD r (0 : Nat) V.undef), kind := V.toInt (List.getD r (1 : Nat) V.undef), num := V.toInt (List.getD r (2 : Nat) V.undef), text := V.toStr (List.getD r (3 : Nat) V.undef) : HPair }) (List.map (fun p => [V.str (HPair.key p), V.int IntKind.u8 (HPair.kind p), V.int IntKind.i64 (HPair.num p), V.str (HPair.text p)]) (HMail.head a)))) (1000000 : Nat)) (cond (Nat.ble (List.length (List.map (fun r => { key := V.toStr (List.getD r (0 : Nat) V.undef), kind := V.toInt (List.getD r (1 : Nat) V.undef), num := V.toInt (List.getD r (2 : Nat) V.undef), text := V.toStr (List.getD r (3 : Nat) V.undef) : HPair }) (List.map (fun p => [V.str (HPair.key p), V.int IntKind.u8 (HPair.kind p), V.int IntKind.i64 (HPair.num p), V.str (HPair.text p)]) (HMail.head a)))) (1000000 : Nat)) (cond (Nat.ble (List.length (List.map (fun r => { key := V.toStr (List.getD r (0 : Nat) V.undef), kind := V.toInt (List.getD r (1 : Nat) V.undef), num := V.toInt (List.getD r (2 : Nat) V.undef), text := V.toStr (List.getD r (3 : Nat) V.undef) : HPair }) (List.map (fun p => [V.str (HPair.key p), V.int IntKind.u8 (HPair.kind p), V.int IntKind.i64 (HPair.num p), V.str (HPair.text p)]) (HMail.head a)))) (1000000 : Nat)) (cond (!N.mailSame { id := HMail.id a, shop := HMail.shop a, key := HMail.key a, head := List.map (fun r => { key := V.toStr (List.getD r (0 : Nat) V.undef), kind := V.toInt (List.getD r (1 : Nat) V.undef), num := V.toInt (List.getD r (2 : Nat) V.undef), text := V.toStr (List.getD r (3 : Nat) V.undef) : HPair }) (List.map (fun p => [V.str (HPair.key p), V.int IntKind.u8 (HPair.kind p), V.int IntKind.i64 (HPair.num p), V.str (HPair.text p)]) (HMail.head a)), body := HMail.body a, due := HMail.due a, hops := HMail.hops a : HMail } { id := HMail.id b, shop := HMail.shop b, key := HMail.key b, head := List.map (fun r => { key := V.toStr (List.getD r (0 : Nat) V.undef), kind := V.toInt (List.getD r (1 : Nat) V.undef), num := V.toInt (List.getD r (2 : Nat) V.undef), text := V.toStr (List.getD r (3 : Nat) V.undef) : HPair }) (List.map (fun p => [V.str (HPair.key p), V.int IntKind.u8 (HPair.kind p), V.int IntKind.i64 (HPair.num p), V.str (HPair.text p)]) (HMail.head b)), body := HMail.body b, due := HMail.due b, hops := HMail.hops b : HMail } == N.mailSame { id := HMail.id a, shop := HMail.shop a, key := HMail.key a, head := List.map (fun r => { key := V.toStr (List.getD r (0 : Nat) V.undef), kind := V.toInt (List.getD r (1 : Nat) V.undef), num := V.toInt (List.getD r (2 : Nat) V.undef), text := V.toStr (List.getD r (3 : Nat) V.undef) : HPair }) (List.map (fun p => [V.str (HPair.key p), V.int IntKind.u8 (HPair.kind p), V.int IntKind.i64 (HPair.num p), V.str (HPair.text p)]) (HMail.head a)), body := HMail.body a, due := HMail.due a, hops := HMail.hops a : HMail } { id := HMail.id b, shop := HMail.shop b, key := HMail.key b, head := List.map (fun r => { key := V.toStr (List.getD r (0 : Nat) V.undef), kind := V.toInt (List.getD r (1 : Nat) V.undef), num := V.toInt (List.getD r (2 : Nat) V.undef), text := V.toStr (List.getD r (3 : Nat) V.undef) : HPair }) (List.map (fun p => [V.str (HPair.key p), V.int IntKind.u8 (HPair.kind p), V.int IntKind.i64 (HPair.num p), V.str (HPair.text p)]) (HMail.head b)), body := HMail.body b, due := HMail.due b, hops := HMail.hops b : HMail }) (some { v := V.bool false, bx := [] : DRes }) (cond (Nat.ble (List.length (List.map (fun r => { key := V.toStr (List.getD r (0 : Nat) V.undef), kind := V.toInt (List.getD r (1 : Nat) V.undef), num := V.toInt (List.getD r (2 : Nat) V.undef), text := V.toStr (List.getD r (3 : Nat) V.undef) : HPair }) (List.map (fun p => [V.str (HPair.key p), V.int IntKind.u8 (HPair.kind p), V.int IntKind.i64 (HPair.num p), V.str (HPair.text p)]) (HMail.head a)))) (1000000 : Nat)) (cond (!N.mailSame { id := HMail.id a, shop := HMail.shop a, key := HMail.key a, head := List.map (fun r => { key := V.toStr (List.getD r (0 : Nat) V.undef), kind := V.toInt (List.getD r (1 : Nat) V.undef), num := V.toInt (List.getD r (2 : Nat) V.undef), text := V.toStr (List.getD r (3 : Nat) V.undef) : HPair }) (List.map (fun p => [V.str (HPair.key p), V.int IntKind.u8 (HPair.kind p), V.int IntKind.i64 (HPair.num p), V.str (HPair.text p)]) (HMail.head a)), body := HMail.body a, due := HMail.due a, hops := HMail.hops a : HMail } { id := HMail.id a, shop := HMail.shop a, key := HMail.key a, head := List.map (fun r => { key := V.toStr (List.getD r (0 : Nat) V.undef), kind := V.toInt (List.getD r (1 : Nat) V.undef), num := V.toInt (List.getD r (2 : Nat) V.undef), text := V.toStr (List.getD r (3 : Nat) V.undef) : HPair }) (List.map (fun p => [V.str (HPair.key p), V.int IntKind.u8 (HPair.kind p), V.int IntKind.i64 (HPair.num p), V.str (HPair.text p)]) (HMail.head a)), body := HMail.body a, due := HMail.due a, hops := HMail.hops a : HMail }) (some { v := V.bool false, bx := [] : DRes }) (cond (Nat.ble (List.length (List.map (fun r => { key := V.toStr (List.getD r (0 : Nat) V.undef), kind := V.toInt (List.getD r (1 : Nat) V.undef), num := V.toInt (List.getD r (2 : Nat) V.undef), text := V.toStr (List.getD r (3 : Nat) V.undef) : HPair }) (List.map (fun p => [V.str (HPair.key p), V.int IntKind.u8 (HPair.kind p), V.int IntKind.i64 (HPair.num p), V.str (HPair.text p)]) (HMail.head a)))) (1000000 : Nat)) (cond (!N.mailSame { id := HMail.id a, shop := HMail.shop a, key := HMail.key a, head := List.map (fun r => { key := V.toStr (List.getD r (0 : Nat) V.undef), kind := V.toInt (List.getD r (1 : Nat) V.undef), num := V.toInt (List.getD r (2 : Nat) V.undef), text := V.toStr (List.getD r (3 : Nat) V.undef) : HPair }) (List.map (fun p => [V.str (HPair.key p), V.int IntKind.u8 (HPair.kind p), V.int IntKind.i64 (HPair.num p), V.str (HPair.text p)]) (HMail.head a)), body := HMail.body a, due := HMail.due a, hops := HMail.hops a : HMail } { id := HMail.id a, shop := HMail.shop a, key := HMail.key a, head := List.map (fun r => { key := V.toStr (List.getD r (0 : Nat) V.undef), kind := V.toInt (List.getD r (1 : Nat) V.undef), num := V.toInt (List.getD r (2 : Nat) V.undef), text := V.toStr (List.getD r (3 : Nat) V.undef) : HPair }) (List.map (fun p => [V.str (HPair.key p), V.int IntKind.u8 (HPair.kind p), V.int IntKind.i64 (HPair.num p), V.str (HPair.text p)]) (List.map (fun r => { key := V.toStr (List.getD r (0 : Nat) V.undef), kind := V.toInt (List.getD r (1 : Nat) V.undef), num := V.toInt (List.getD r (2 : Nat) V.undef), text := V.toStr (List.getD r (3 : Nat) V.undef) : HPair }) (List.map (fun p => [V.str (HPair.key p), V.int IntKind.u8 (HPair.kind p), V.int IntKind.i64 (HPair.num p), V.str (HPair.text p)]) (HMail.head a)))), body := HMail.body a, due := HMail.due a, hops := HMail.hops a : HMail }) (some { v := V.bool false, bx := [] : DRes }) (cond ((↑(List.length (List.map (fun p => [V.str (HPair.key p), V.int IntKind.u8 (HPair.kind p), V.int IntKind.i64 (HPair.num p), V.str (HPair.text p)]) (List.map (fun r => { key := V.toStr (List.getD r (0 : Nat) V.undef), kind := V.toInt (List.getD r (1 : Nat) V.undef), num := V.toInt (List.getD r (2 : Nat) V.undef), text := V.toStr (List.getD r (3 : Nat) V.undef) : HPair }) (List.map (fun p => [V.str (HPair.key p), V.int IntKind.u8 (HPair.kind p), V.int IntKind.i64 (HPair.num p), V.str (HPair.text p)]) (HMail.head a))))) : Int) == (0 : Int)) (cond ((↑(List.length (List.map (fun p => [V.str (HPair.key p), V.int IntKind.u8 (HPair.kind p), V.int IntKind.i64 (HPair.num p), V.str (HPair.text p)]) (HMail.head a))) : Int) == (0 : Int)) (some { v := V.bool true, bx := [] : DRes }) (cond (Nat.ble (List.length (List.map (fun r => { key := V.toStr (List.getD r (0 : Nat) V.undef), kind := V.toInt (List.getD r (1 : Nat) V.undef), num := V.toInt (List.getD r (2 : Nat) V.undef), text := V.toStr (List.getD r (3 : Nat) V.undef) : HPair }) (List.map (fun p => [V.str (HPair.key p), V.int IntKind.u8 (HPair.kind p), V.int IntKind.i64 (HPair.num p), V.str (HPair.text p)]) (HMail.head a)))) (1000000 : Nat)) (some { v := V.bool !N.mailSame { id := HMail.id a, shop := HMail.shop a, key := HMail.key a, head := List.map (fun r => { key := V.toStr (List.getD r (0 : Nat) V.undef), kind := V.toInt (List.getD r (1 : Nat) V.undef), num := V.toInt (List.getD r (2 : Nat) V.undef), text := V.toStr (List.getD r (3 : Nat) V.undef) : HPair }) (List.map (fun p => [V.str (HPair.key p), V.int IntKind.u8 (HPair.kind p), V.int IntKind.i64 (HPair.num p), V.str (HPair.text p)]) (HMail.head a)), body := HMail.body a, due := HMail.due a, hops := HMail.hops a : HMail } { id := HMail.id a, shop := HMail.shop a, key := HMail.key a, head := List.map (fun r => { key := V.toStr (List.getD r (0 : Nat) V.undef), kind := V.toInt (List.getD r (1 : Nat) V.undef), num := V.toInt (List.getD r (2 : Nat) V.undef), text := V.toStr (List.getD r (3 : Nat) V.undef) : HPair }) (List.map (fun p => [V.str (HPair.key p), V.int IntKind.u8 (HPair.kind p), V.int IntKind.i64 (HPair.num p), V.str (HPair.text p)]) (List.map (fun r => { key := V.toStr (List.getD r (0 : Nat) V.undef), kind := V.toInt (List.getD r (1 : Nat) V.undef), num := V.toInt (List.getD r (2 : Nat) V.undef), text := V.toStr (List.getD r (3 : Nat) V.undef) : HPair }) (List.map (fun p => [V.str (HPair.key p), V.int IntKind.u8 (HPair.kind p), V.int IntKind.i64 (HPair.num p), V.str (HPair.text p)]) (HMail.head a)))), body := HMail.body a, due := HMail.due a, hops := HMail.hops a : HMail }, bx := [] : DRes }) (none))) (none))) (none))) (none))) (none)) (none)) (none))) := by kernel_rfl
theorem q_lawMSeR (i40 : Int) (i41 : Int) (ix0 : Int) (sx0 : Bytes) (sx0_1 : Bytes) (rx0 : List (List V)) (sx0_2 : Bytes) (ix0_1 : Int) (ix0_2 : Int) (ix1 : Int) (sx1 : Bytes) (sx1_1 : Bytes) (rx1 : List (List V)) (sx1_2 : Bytes) (ix1_1 : Int) (ix1_2 : Int) (K : Ex → St → Option R) : evRound eLawMSe 5 9 { fr := [(2, .ptr 10000 0 0 0), (5, .ptr 10001 0 0 0), (40, .int .i64 i40), (41, .int .i64 i41)], tab := [(10000, .var [.int .u64 ix0, .str sx0, .str sx0_1, .slc [.str, .int .u8, .int .i64, .str] rx0, .str sx0_2, .int .u64 ix0_1, .int .u8 ix0_2]), (10001, .var [.int .u64 ix1, .str sx1, .str sx1_1, .slc [.str, .int .u8, .int .i64, .str] rx1, .str sx1_2, .int .u64 ix1_1, .int .u8 ix1_2])] } K =
 cond (ilt i41 i40) (cond (decide ((0 : Int) ≤ i41 ∧ i41 < (↑(List.length rx1) : Int))) (cond (Nat.ble (List.length (V.toStr (List.getD (List.getD rx1 (Int.toNat i41) []) (0 : Nat) V.undef)) + (1 : Nat)) (9223372036854775807 : Nat)) (cond (decide ((0 : Int) ≤ i41 ∧ i41 < (↑(List.length rx1) : Int))) (none) (none)) (none)) (none)) (K (Ex.exit (0 : Nat)) { fr := [((2 : Nat), V.ptr (10000 : Nat) (0 : Nat) (0 : Nat) (0 : Nat)), ((5 : Nat), V.ptr (10001 : Nat) (0 : Nat) (0 : Nat) (0 : Nat))], tab := [((10000 : Nat), Box.var [V.int IntKind.u64 ix0, V.str sx0, V.str sx0_1, V.slc [Sh.str, Sh.int IntKind.u8, Sh.int IntKind.i64, Sh.str] rx0, V.str sx0_2, V.int IntKind.u64 ix0_1, V.int IntKind.u8 ix0_2]), ((10001 : Nat), Box.var [V.int IntKind.u64 ix1, V.str sx1, V.str sx1_1, V.slc [Sh.str, Sh.int IntKind.u8, Sh.int IntKind.i64, Sh.str] rx1, V.str sx1_2, V.int IntKind.u64 ix1_1, V.int IntKind.u8 ix1_2])] : St }) := by kernel_rfl
theorem ok_lawMSe (hN : FnOk Tryd.prog 75 dOutNum) : FnOk Tryd.prog 5 (den (aCons (vAgg cMail) (aOne (vAgg cMail))) bNil (oV vBool) (fun a _ => Nat.beq a.1.head.length 0) fun _ _ => (true, ())) := by
  refine den_okF (env_ok ((((((TOk.nil _).cons ok_refMailSame).cons ok_mailSame).cons ok_mailCopy).cons ok_lightM).cons (ok_aw13 hN))) (E := eLawMSe) Tryd.func5 [9] (by kernel_rfl) (one1 (rounds_of rfl fun l K q h => ?_)) fun a _ hp => ?_
  · unfold gLawMSe at h
    split at h
    · rename_i n i x1 x2 x3 x4 x5 x6 x7 y1 y2 y3 r y4 y5 y6
      have h1 := (cond_none h).1; replace h := (cond_none h).2; have h2 := (cond_none h).1; replace h := (cond_none h).2
      have e1 := ieq_of h1
      have e2 := ieq_of h2
      subst e1 e2
      exact loop_ind (E := eLawMSe) (f := 5) (id := 9) (σ := Unit) (fun _ => _) (fun _ => True) (fun _ => 0) (fun _ K => K (.exit 0) _) (fun _ _ => .inr ⟨.exit 0, _, by simp, fun K => q_lawMSeR 0 0 x1 x2 x3 x4 x5 x6 x7 y1 y2 y3 r y4 y5 y6 K, fun K => rfl⟩) () trivial K q h
    · cases h
  · obtain ⟨⟨id, shop, key, head, body, due, hops⟩, ⟨id', shop', key', head', body', due', hops'⟩⟩ := a
    have hp : Nat.beq head.length 0 = true := hp
    have hh : head = [] := List.eq_nil_of_length_eq_zero (by simpa using hp)
    subst hh
    refine (q_lawMSe ⟨id, shop, key, [], body, due, hops⟩ ⟨id', shop', key', head', body', due', hops'⟩).trans ?_
    show _ = some (⟨.bool true, [], []⟩ : DRes)
    simp only [nrm_rows]
    cases hl : N.lightM ⟨id, shop, key, [], body, due, hops⟩ with
    | false => simp only [List.map_nil]; rfl
    | true =>
      cases hl' : N.lightM ⟨id', shop', key', head', body', due', hops'⟩ with
      | false => simp only [List.map_nil]; rfl
      | true =>
        have e1 := mailSame_refl ⟨id, shop, key, [], body, due, hops⟩
        simp (disch := omega) only [evs, List.map_nil, List.length_nil, e1, Bool.not_true, beq_self_eq_true]
/-- Two parts of what a function answers. -/
theorem FnOk.both {P : Program} {f : FuncId} {α β γ : Type} {A : ACod α} {B : BCod β} {O : γ → Out} {c p : α → β → Bool} {g : α → β → γ × β} (h1 : FnOk P f (den A B O (fun a b => c a b) g)) (h2 : FnOk P f (den A B O (fun a b => !c a b) g)) : FnOk P f (den A B O p g) := by
  intro args bx hpre
  have hp : cond (A.ok args) (cond (B.ok bx) (p (A.dec args) (B.dec bx)) false) false = true := hpre
  obtain ⟨ha, hp⟩ := bcond hp
  obtain ⟨hb, _⟩ := bcond hp
  cases hc : c (A.dec args) (B.dec bx) with
  | true => exact h1 args bx (by show cond (A.ok args) (cond (B.ok bx) (c (A.dec args) (B.dec bx)) false) false = true; rw [ha, hb, hc]; rfl)
  | false => exact h2 args bx (by show cond (A.ok args) (cond (B.ok bx) (!c (A.dec args) (B.dec bx)) false) false = true; rw [ha, hb, hc]; rfl)
theorem ok_lawMSm (hN : FnOk Tryd.prog 75 dOutNum) : FnOk Tryd.prog 5 (den (aCons (vAgg cMail) (aOne (vAgg cMail))) bNil (oV vBool) (fun _ _ => true) fun _ _ => (true, ())) :=
  FnOk.both (c := fun a _ => Nat.beq a.1.head.length 0) (ok_lawMSe hN) (ok_lawMSf hN)
end Go.Ev

/- The library's text builder in this program, and the function that writes a number's bytes with it: lemmas, no condition but the text's length. -/
namespace Go.Ev
open Go Go.Proofs Go.RowKit Go.Shelf

theorem bSize : (Tryd.prog.info? 115).map (·.size) = some 2 := by kernel_rfl
theorem bLies : liesAt Tryd.prog Tryd.prog.depth 115 (2 / Tryd.prog.cellsOf 115) 0 115 1 = true := by kernel_rfl
theorem bByte : (Tryd.prog.info? 5).map (fun i => (i.zero, i.size, i.bytes)) = some (some (.int .u8 0), 1, 1) := by kernel_rfl

set_option maxHeartbeats 1000000 in
set_option maxRecDepth 100000 in
theorem cc_used (b : Nat) (w : World) (h0 : w.cell? ⟨b, 0, none⟩ = some (.pointer (some ⟨b, 0, none⟩))) :
    Calls Tryd.prog 100 #[.pointer (some ⟨b, 0, none⟩)] w fun e w' => e = .returned (.tuple #[]) ∧ w' = w := by
  obtain ⟨j, hj, _⟩ := Option.map_eq_some_iff.1 bSize
  go_enter Tryd.func100, Tryd.ntmps100
  go_wp2
  rw [Lib.run_neq_ptr_same w _ Tryd.underlying113 hj]
  go_wp2
  go_end0
  exact ⟨rfl, rfl⟩
set_option maxHeartbeats 1000000 in
set_option maxRecDepth 100000 in
theorem cc_fresh (b : Nat) (w : World) (h0 : w.cell? ⟨b, 0, none⟩ = some (.pointer none)) (hsh : w.shape? b = some (115, 2)) (hfz : w.frozen? ⟨b, 0, none⟩ = false) :
    Calls Tryd.prog 100 #[.pointer (some ⟨b, 0, none⟩)] w fun e w' => e = .returned (.tuple #[]) ∧ w' = w.setCell ⟨b, 0, none⟩ (.pointer (some ⟨b, 0, none⟩)) := by
  obtain ⟨j, hj, hjs⟩ := Option.map_eq_some_iff.1 bSize
  go_enter Tryd.func100, Tryd.ntmps100
  go_wp2
  rw [Lib.run_to_unsafe w ⟨b, 0, none⟩ Tryd.underlying113 Tryd.underlying124 hj (by rw [hjs]; decide) hsh (Nat.zero_lt_succ 1)]
  simp only [Result.andThen]
  rw [Oper.upon_value]
  go_wp2
  rw [run_callFunc_extern Tryd.func103 (by kernel_rfl) (by kernel_rfl) (by kernel_rfl) (e := Extern.AbiNoEscape.same) (by kernel_rfl)]
  rw [Lib.run_noEscape]
  simp only [Result.andThen]
  rw [Oper.upon_value]
  go_wp2
  rw [Lib.run_from_unsafe w ⟨b, 0, none⟩ Tryd.underlying124 Tryd.underlying113 hj hsh bLies]
  simp only [Result.andThen]
  rw [Oper.upon_value]
  go_wp2
  go_end0
  exact ⟨rfl, rfl⟩
theorem cc (B b : Nat) (bs : List Value) (w : World) (h : Lib.IsBuilder 115 5 B b bs w) :
    Calls Tryd.prog 100 #[.pointer (some ⟨b, 0, none⟩)] w fun e w' => e = .returned (.tuple #[]) ∧ (Lib.BuilderAt 115 5 B b (.pointer (some ⟨b, 0, none⟩)) bs w' ∧ Below B w w') := by
  rcases h with h | h
  · refine (cc_fresh b w h.cell0 h.shape h.frozen0).mono ?_
    rintro e w' ⟨rfl, rfl⟩
    exact ⟨rfl, h.used _, (Below.refl B w).setCell (p := ⟨b, 0, none⟩) h.1 _⟩
  · refine (cc_used b w h.cell0).mono ?_
    rintro e w' ⟨rfl, rfl⟩
    exact ⟨rfl, h, Below.refl B _⟩
set_option maxHeartbeats 2000000 in
set_option maxRecDepth 100000 in
theorem writeByte (B b : Nat) (bs : List Value) (c : Int) (w : World) (h : Lib.IsBuilder 115 5 B b bs w) (hlen : bs.length + 1 ≤ 140737488355328) (hBw : B ≤ w.heap.size) :
    Calls Tryd.prog 93 #[.pointer (some ⟨b, 0, none⟩), .int .u8 c] w fun e w' => e = .returned .nilIface ∧ (Lib.BuilderAt 115 5 B b (.pointer (some ⟨b, 0, none⟩)) (bs ++ [.int .u8 c]) w' ∧ Below B w w') := by
  obtain ⟨i0, hi, hz0, hz1, hz2⟩ := info_parts bByte
  go_enter Tryd.func93, Tryd.ntmps93
  go_wp2_with (go_at_call 100; refine (cc B b bs _ h).mono ?_)
  rintro e w1 ⟨rfl, h1, hb1⟩
  obtain ⟨hB, v, hbk, hown, hne⟩ := h1
  have c0 : w1.cell? ⟨b, 0, none⟩ = some (.pointer (some ⟨b, 0, none⟩)) := by rw [Lib.cell_of_heap hbk]; rfl
  have c1 : w1.cell? ⟨b, 1, none⟩ = some v := by rw [Lib.cell_of_heap hbk]; rfl
  go_wp2_with (at_builtin; refine wpList_append_own _ rfl _ _ 50 rfl B 5 i0 (.int .u8 0) 1 1 Tryd.underlying50 hi hz0 hz1 hz2 rfl (by decide) _ _ _ rfl (hown.alloc _) ⟨w1.heap.size, 0, none⟩ 1 1 [.int .u8 c] rfl rfl ?c1 ?c2 ?c3 ?c4 ?c5 ?_)
  case c1 =>
    intro j u hj
    match j, hj with
    | 0, hj => simp at hj; subst hj; simp [Addr.add]
  case c2 => intro u hu; simp at hu; subst hu; rfl
  case c3 => unfold maxLen; omega
  case c4 => omega
  case c5 => have := hb1.size; simp; omega
  intro v' w2 hown' hgrow _
  have hlt : b < w1.heap.size := by
    rcases Nat.lt_or_ge b w1.heap.size with h' | h'
    · exact h'
    · simp [Array.getElem?_eq_none h'] at hbk
  have hb2 : w2.heap[b]? = some (.cells #[.pointer (some ⟨b, 0, none⟩), v] 115 (0, 0)) := by
    rw [hgrow.block b (by simp; omega) (fun e => hne e.symm), Lib.alloc_old w1 _ b hlt]
    exact hbk
  have d0 : w2.cell? ⟨b, 0, none⟩ = some (.pointer (some ⟨b, 0, none⟩)) := by rw [Lib.cell_of_heap hb2]; rfl
  have d1 : w2.cell? ⟨b, 1, none⟩ = some v := by rw [Lib.cell_of_heap hb2]; rfl
  have f1 : w2.frozen? ⟨b, 1, none⟩ = false := Lib.frozen_of_heap hb2 1
  obtain ⟨g, cap, rfl⟩ : ∃ g cap, v' = .slice (some ⟨g, 0, none⟩) (bs.length + 1) cap := by
    rcases hown'.2 with ⟨_, h0⟩ | ⟨g, cap, cur, hv, _⟩
    · omega
    · exact ⟨g, cap, hv⟩
  go_wp2
  go_ret
  refine ⟨rfl, ?_, ?_⟩
  · exact Lib.BuilderAt.put (T := 115) (e := 5) hB hb2 (bs' := bs ++ [.int .u8 c]) (by simpa using hown') (by decide)
  · exact ((hb1.alloc (by have := hb1.size; omega) _).grown hgrow (by have := hb1.size; simp; omega) (fun k hk => (hown.lt k hk).1)).setCell (p := ⟨b, 1, none⟩) hB _
/-! ### The text of a builder: the library's contract at this program -/
def lays169_ren : Go.Shelf.Ren := ⟨fun | 169 => 94 | n => n, fun | 70 => 113 | 9 => 9 | 0 => 0 | 72 => 115 | 37 => 50 | 127 => 122 | 3 => 3 | 5 => 5 | n => n, fun | n => n⟩
theorem lays169 : Go.Proofs.Lays.n169 Tryd.prog lays169_ren := {
  mixed := by kernel_rfl
  f169 := Tryd.func94.trans (congrArg some (by kernel_rfl))
  t0 := Tryd.underlying0
  a0 := Tryd.isAgg0
  z0 := Tryd.sizeOf0
  v0 := Tryd.zeroValue0
  t3 := Tryd.underlying3
  a3 := Tryd.isAgg3
  z3 := Tryd.sizeOf3
  v3 := Tryd.zeroValue3
  t9 := Tryd.underlying9
  a9 := Tryd.isAgg9
  z9 := Tryd.sizeOf9
  v9 := Tryd.zeroValue9
  t37 := Tryd.underlying50
  a37 := Tryd.isAgg50
  z37 := Tryd.sizeOf50
  v37 := Tryd.zeroValue50
  t70 := Tryd.underlying113
  a70 := Tryd.isAgg113
  z70 := Tryd.sizeOf113
  v70 := Tryd.zeroValue113
  t72 := Tryd.underlying115
  a72 := Tryd.isAgg115
  z72 := Tryd.sizeOf115
  v72 := Tryd.zeroValue115
  t127 := Tryd.underlying122
  a127 := Tryd.isAgg122
  z127 := Tryd.sizeOf122
  v127 := Tryd.zeroValue122 }
theorem extra169 : Builder.Extra Tryd.prog lays169_ren := {
  sizeBuilder := by kernel_rfl
  liesBuilder := by kernel_rfl
  t5 := Tryd.underlying5
  a5 := Tryd.isAgg5
  z5 := Tryd.sizeOf5
  v5 := Tryd.zeroValue5
  infoByte := by kernel_rfl
  cellsByte := by kernel_rfl
  sizeByte := by kernel_rfl
  neB5 := by decide }
theorem bString (B b : Nat) (l : List UInt8) (w : World) (h : Lib.IsBuilder 115 5 B b (Lib.byteCells l) w) (hBw : B ≤ w.heap.size) :
    Calls Tryd.prog 94 #[.pointer (some ⟨b, 0, none⟩)] w fun e w' => e = .returned (.string ⟨l.toArray⟩) ∧ Below B w w' := Any.Builder_String_any lays169 extra169 B b l w h hBw
end Go.Ev

/- The function that writes a number's bytes: its walk. -/
namespace Go.Ev
open Go Go.Proofs Go.RowKit Go.Shelf

theorem clamp_eq {bytes : Int} : min (max bytes 0) 8 = (N.clamp bytes : Int) ∧ N.clamp bytes ≤ 8 := by
  unfold N.clamp
  rw [ilt_eq, ilt_eq]
  by_cases h1 : 0 < bytes
  · by_cases h2 : 8 < bytes
    · simp [h1, h2]; omega
    · simp [h1, h2]; omega
  · simp [h1]; omega

theorem two_blocks {w wr : World} {o1 o2 : Obj} (h : Below (w.heap.size + 1 + 1) ((w.alloc o1).alloc o2) wr) : wr.heap[w.heap.size]? = some o1 ∧ wr.heap[w.heap.size + 1]? = some o2 := by
  have e : (w.alloc o1).heap.size = w.heap.size + 1 := by simp
  refine ⟨?_, ?_⟩
  · rw [h.block _ (by omega), Below.heap_alloc _ _ _ (by omega)]; exact Go.heap_alloc_new w o1
  · rw [h.block _ (by omega), ← e]; exact Go.heap_alloc_new _ o2

set_option maxHeartbeats 4000000 in
set_option maxRecDepth 1000000 in
theorem outNum_walk (s : ByteArray) (er n bytes : Int) (w : World) (hs : (s.size : Int) ≤ 9223372036854775799) :
    Calls Tryd.prog 75 #[.agg #[.string s, .int .i64 er], .int .u64 n, .int .i64 bytes] w fun e w' =>
      e = .returned (.agg #[.string ⟨(s.data.toList ++ N.numB n (N.clamp bytes)).toArray⟩, .int .i64 er]) ∧ Below w.heap.size w w' := by
  go_enter Tryd.func75, Tryd.ntmps75
  go_wp2
  go_loopw [8] (fun i wr => ∃ (k : Int) (acc : List UInt8), i = .int .i64 k ∧ Lib.IsBuilder 115 5 (w.heap.size + 1 + 1) (w.heap.size + 1 + 1) (Lib.byteCells acc) wr ∧
      Below (w.heap.size + 1 + 1) ((w.alloc (Obj.cells #[Value.string s, Value.int IntKind.i64 er] 97)).alloc (Obj.cells #[Value.string { data := #[] }, Value.int IntKind.i64 0] 97)) wr ∧
      -1 ≤ k ∧ acc ++ N.numB n (k + 1).toNat = N.numB n (N.clamp bytes) ∧ acc.length + (k + 1).toNat ≤ 8) (fun i _ => (intOf i + 1).toNat)
  case atStart =>
    obtain ⟨hcl, hc8⟩ := clamp_eq (bytes := bytes)
    have hf := Lib.fresh_isBuilder 115 5 ((w.alloc (Obj.cells #[Value.string s, Value.int IntKind.i64 er] 97)).alloc (Obj.cells #[Value.string { data := #[] }, Value.int IntKind.i64 0] 97))
    have e0 : ((w.alloc (Obj.cells #[Value.string s, Value.int IntKind.i64 er] 97)).alloc (Obj.cells #[Value.string { data := #[] }, Value.int IntKind.i64 0] 97)).heap.size = w.heap.size + 1 + 1 := by simp
    rw [e0] at hf
    refine ⟨(N.clamp bytes : Int) - 1, [], by rw [hcl], hf, (Below.refl _ _).alloc (by simp) _, by omega, ?_, ?_⟩
    · rw [show ((N.clamp bytes : Int) - 1 + 1).toNat = N.clamp bytes by omega]; rfl
    · simp only [List.length_nil]; omega
  case round =>
    obtain ⟨k, acc, rfl, hI, hB, hk, hacc, hal⟩ := hrel
    by_cases hk0 : 0 ≤ k
    · go_wp2_with (go_at_call 93; refine (writeByte (w.heap.size + 1 + 1) (w.heap.size + 1 + 1) _ _ _ hI (by rw [Lib.byteCells_length]; omega) (by have := hB.size; simp at this; omega)).mono ?_)
      rintro e w1 ⟨rfl, h1, b1⟩
      go_wp2
      go_roundw
      case rel =>
        have e1 : N.numB n (k + 1).toNat = UInt8.ofNat ((n / 2 ^ (8 * k.toNat)) % 256).toNat :: N.numB n k.toNat := by
          rw [show (k + 1).toNat = k.toNat + 1 by omega]; rfl
        have e2 : ((UInt8.ofNat ((n / 2 ^ (8 * k.toNat)) % 256).toNat).toNat : Int) = n / 2 ^ (8 * k).toNat % 256 := by
          rw [show (8 * k).toNat = 8 * k.toNat by omega]
          have h0 : 0 ≤ (n / 2 ^ (8 * k.toNat)) % 256 := Int.emod_nonneg _ (by decide)
          have h1 : (n / 2 ^ (8 * k.toNat)) % 256 < 256 := Int.emod_lt_of_pos _ (by decide)
          have h2 : (UInt8.ofNat ((n / 2 ^ (8 * k.toNat)) % 256).toNat).toNat = ((n / 2 ^ (8 * k.toNat)) % 256).toNat := UInt8.toNat_ofNat_of_lt' (by
            show ((n / 2 ^ (8 * k.toNat)) % 256).toNat < 256
            omega)
          rw [h2]; omega
        refine ⟨k - 1, acc ++ [UInt8.ofNat ((n / 2 ^ (8 * k.toNat)) % 256).toNat], rfl, ?_, hB.trans b1, by omega, ?_, ?_⟩
        · rw [Lib.byteCells_append]
          have e3 : Lib.byteCells [UInt8.ofNat ((n / 2 ^ (8 * k.toNat)) % 256).toNat] = [Value.int .u8 (n / 2 ^ (8 * k).toNat % 256)] := by
            rw [← e2]; rfl
          rw [e3]; exact Or.inr h1
        · rw [e1] at hacc
          rw [← hacc, show (k - 1 + 1).toNat = k.toNat by omega, List.append_assoc]; rfl
        · rw [List.length_append]; simp only [List.length_cons, List.length_nil]; omega
      case measure => simp [intOf]; omega
    · have hk1 : k = -1 := by omega
      subst hk1
      have hfin : N.numB n (N.clamp bytes) = acc := by rw [← hacc]; show acc ++ [] = acc; simp
      have hal : acc.length ≤ 8 := by omega
      clear hacc
      rw [hfin]
      obtain ⟨hb0, hb1⟩ := two_blocks hB
      have c0 : wr.cell? ⟨w.heap.size, 0, none⟩ = some (.string s) := by rw [Lib.cell_of_heap hb0]; rfl
      have c1 : wr.cell? ⟨w.heap.size, 1, none⟩ = some (.int .i64 er) := by rw [Lib.cell_of_heap hb0]; rfl
      have c2 : wr.cell? ⟨w.heap.size + 1, 0, none⟩ = some (.string ⟨#[]⟩) := by rw [Lib.cell_of_heap hb1]; rfl
      have c3 : wr.cell? ⟨w.heap.size + 1, 1, none⟩ = some (.int .i64 0) := by rw [Lib.cell_of_heap hb1]; rfl
      have f0 : wr.frozen? ⟨w.heap.size, 0, none⟩ = false := Lib.frozen_of_heap hb0 0
      have f1 : wr.frozen? ⟨w.heap.size, 1, none⟩ = false := Lib.frozen_of_heap hb0 1
      have f2 : wr.frozen? ⟨w.heap.size + 1, 0, none⟩ = false := Lib.frozen_of_heap hb1 0
      have f3 : wr.frozen? ⟨w.heap.size + 1, 1, none⟩ = false := Lib.frozen_of_heap hb1 1
      have hBw : w.heap.size + 1 + 1 ≤ wr.heap.size := by have := hB.size; simp at this; omega
      have hadd : ¬ 9223372036854775807 < s.size + acc.length := by omega
      have hadd2 : ¬ 9223372036854775807 < s.size + (⟨acc.toArray⟩ : ByteArray).size := by
        show ¬ 9223372036854775807 < s.size + acc.toArray.size
        rw [List.size_toArray]; exact hadd
      have hadd3 : ¬ (s.size + (⟨acc.toArray⟩ : ByteArray).size > 9223372036854775807) := hadd2
      have hadd4 : s.size + (⟨acc.toArray⟩ : ByteArray).size ≤ 9223372036854775807 := Nat.not_lt.1 hadd2
      have hadd5 : s.size + acc.length ≤ 9223372036854775807 := Nat.not_lt.1 hadd
      go_wp2
      go_region_with (go_at_call 94; refine (bString (w.heap.size + 1 + 1) (w.heap.size + 1 + 1) acc _ (by exact hI) (by exact hBw)).mono ?_; rintro e w2 ⟨rfl, b2⟩
                      have d0 : w2.cell? ⟨w.heap.size, 0, none⟩ = some (.string s) := by rw [b2.cell (by show w.heap.size < w.heap.size + 1 + 1; omega)]; exact c0
                      have d1 : w2.cell? ⟨w.heap.size, 1, none⟩ = some (.int .i64 er) := by rw [b2.cell (by show w.heap.size < w.heap.size + 1 + 1; omega)]; exact c1
                      have d2 : w2.cell? ⟨w.heap.size + 1, 0, none⟩ = some (.string ⟨#[]⟩) := by rw [b2.cell (by show w.heap.size + 1 < w.heap.size + 1 + 1; omega)]; exact c2
                      have d3 : w2.cell? ⟨w.heap.size + 1, 1, none⟩ = some (.int .i64 0) := by rw [b2.cell (by show w.heap.size + 1 < w.heap.size + 1 + 1; omega)]; exact c3
                      have e0 : w2.frozen? ⟨w.heap.size, 0, none⟩ = false := by rw [b2.frozen (by show w.heap.size < w.heap.size + 1 + 1; omega)]; exact f0
                      have e1 : w2.frozen? ⟨w.heap.size, 1, none⟩ = false := by rw [b2.frozen (by show w.heap.size < w.heap.size + 1 + 1; omega)]; exact f1
                      have e2 : w2.frozen? ⟨w.heap.size + 1, 0, none⟩ = false := by rw [b2.frozen (by show w.heap.size + 1 < w.heap.size + 1 + 1; omega)]; exact f2
                      have e3 : w2.frozen? ⟨w.heap.size + 1, 1, none⟩ = false := by rw [b2.frozen (by show w.heap.size + 1 < w.heap.size + 1 + 1; omega)]; exact f3)
      all_goals go_wp2
      all_goals
        refine ⟨rfl, .agg #[.string (s ++ ⟨acc.toArray⟩), .int .i64 er], ?_, ?_, ?_⟩
        · simp [results, Tryd.results75, go_sem, d2, d3]
        · rw [hfin, ← bytes_append]
        · have b0 : Below w.heap.size w wr := (((Below.refl _ w).alloc (Nat.le_refl _) _).alloc (by simp) _).trans (hB.mono (by omega))
          exact (((b0.drew.trans (b2.mono (by omega))).setCell (p := ⟨w.heap.size, 0, none⟩) (Nat.le_refl _) _).setCell (p := ⟨w.heap.size + 1, 0, none⟩) (Nat.le_succ _) _).setCell (p := ⟨w.heap.size + 1, 1, none⟩) (Nat.le_succ _) _

/-- What leaves the memory at hand as it is keeps it. -/
theorem keeps_below {w w' : World} (X : Nat → Nat → Prop) (h : Below w.heap.size w w') : Keeps X w w' :=
  ⟨h.os, h.tape, h.output, h.size, fun b hb => ObjOk.same (h.block b hb)⟩
theorem outNum_ok : FnOk Tryd.prog 75 dOutNum := by
  refine den_of fun a b hp => ?_
  obtain ⟨o, n, bytes⟩ := a
  intro x y hxy w J locs xs hlen hJ hx _ _ _
  have hxy : x = (aCons (vAgg cOut) (aCons (vInt .u64) (aOne (vInt .i64)))).enc (o, n, bytes) ∧ y = bNil.enc b := by simpa using hxy
  obtain ⟨rfl, rfl⟩ := hxy
  have hlen : locs = [] := List.eq_nil_of_length_eq_zero hlen
  subst hlen
  obtain ⟨hp1, hp⟩ := bcond hp
  obtain ⟨hp2, hp3⟩ := bcond hp
  have hp3 : o.s.length ≤ 9223372036854775799 := Nat.le_of_ble_eq_true hp3
  obtain ⟨x0, xs1, rfl, hx0, hx⟩ := hx.uncons
  obtain ⟨x1, xs2, rfl, hx1, hx⟩ := hx.uncons
  obtain ⟨x2, rfl, hx2⟩ := hx.one
  obtain ⟨cs, rfl, hc1, hc2⟩ := Rv.agg_inv (show Rv w J _ (.agg [.str o.s, .int .i64 o.err]) x0 from hx0)
  have hx1 := Rv.int_inv (show Rv w J _ (.int .u64 n) x1 from hx1)
  have hx2 := Rv.int_inv (show Rv w J _ (.int .i64 bytes) x2 from hx2)
  subst hx1 hx2
  match cs, hc1, hc2 with
  | [c0, c1], _, hc2 =>
    have h0 := Rv.str_inv (show Rv w J _ (.str o.s) c0 from hc2 0 (by simp))
    have h1 := Rv.int_inv (show Rv w J _ (.int .i64 o.err) c1 from hc2 1 (by simp))
    subst h0 h1
    refine .inl ⟨?_, ?_⟩
    · have hnm : ¬ (Tryd.f75).name = "runtime.NumGoroutine" := by
        intro e
        have : ((Tryd.f75).name == "runtime.NumGoroutine") = false := by kernel_rfl
        rw [e] at this; cases this
      obtain ⟨c, hc⟩ := Option.isSome_iff_exists.1 (show (Tryd.f75).body.isSome = true by kernel_rfl)
      simp [callFunc, Tryd.func75, hnm, hc]
    · refine (outNum_walk ⟨o.s.toArray⟩ o.err n bytes w (by rw [bytes_size]; omega)).mono fun e w' ⟨he, hb⟩ => ⟨_, he, J, ?_⟩
      refine ⟨keeps_below _ hb, fun _ _ h => h, fun b o' h => Nat.lt_of_lt_of_le (hJ b o' h) hb.size, fun _ _ h _ => h, rfl, (fun j cs cs' p hj => by cases hj), .inl ⟨rfl, ?_⟩⟩
      refine .agg [.str (N.outNum o n bytes).s, .int .i64 (N.outNum o n bytes).err] [.string ⟨(o.s ++ N.numB n (N.clamp bytes)).toArray⟩, .int .i64 o.err] rfl fun i hi => ?_
      match i, hi with
      | 0, _ => exact .dat (.str _)
      | 1, _ => exact .dat (.int _ _)
end Go.Ev
