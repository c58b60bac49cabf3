/- The program's functions on heads answer what the plain ones do: lemmas; the function that writes numbers is a premise. -/
import Derived.Test.YtaelkcinofhhcaaDoorGc
namespace Go.Ev
open Go Go.Proofs
set_option maxRecDepth 100000

def schEqP : SSch := { fr := [(0, .slc [.str, .int .u8, .int .i64, .str]), (1, .slc [.str, .int .u8, .int .i64, .str]), (12, .int .i64), (13, .int .i64)], tab := [] }
def gEqP : List Leaf → (Ex → St → Option R) → Option R
  | [.r r0, .r r1, .i i12, .i i13], K => cond (i12 == r0.length) (cond (Nat.beq r0.length r1.length) (cond (ile 0 i13) (cond (Nat.ble r0.length (LIM + 1)) (cond (N.samePs ((rowsP r0).drop i13.toNat) ((rowsP r1).drop i13.toNat)) (K (.exit 0) { fr := [], tab := [] }) (K .ret { fr := [(4, .bool false)], tab := [] })) none) none) none) none
  | _, _ => none
theorem samePs_len : ∀ a b : List HPair, a.length ≠ b.length → N.samePs a b = false
  | [], [], h => absurd rfl h
  | [], _ :: _, _ => rfl
  | _ :: _, [], _ => rfl
  | p :: a, q :: b, h => by
    unfold N.samePs
    rw [samePs_len a b (by simpa using h)]
    cases N.eqP p q <;> rfl
theorem samePs_cons (p q : HPair) (a b : List HPair) : N.samePs (p :: a) (q :: b) = cond (N.eqP p q) (N.samePs a b) false := rfl
def schRefSame : SSch := schEqP
noncomputable def eRefSame : Env := env Tryd.prog [] [(4, loopF schRefSame gEqP)] [(4, [(0, [0, 1, 12, 13]), (1, []), (1000, [4])])]
theorem q_refSame (a b : List HPair) : evFn eRefSame 61 ((aCons (vSl cPair) (aOne (vSl cPair))).enc (a, b)) ([]) some =
 cond ((↑(List.length (List.map (fun p => [V.str (HPair.key p), V.int IntKind.u8 (HPair.kind p), V.int IntKind.i64 (HPair.num p), V.str (HPair.text p)]) a)) : Int) != (↑(List.length (List.map (fun p => [V.str (HPair.key p), V.int IntKind.u8 (HPair.kind p), V.int IntKind.i64 (HPair.num p), V.str (HPair.text p)]) b)) : Int)) (some { v := V.bool false, bx := [] : DRes }) (cond ((↑(List.length (List.map (fun p => [V.str (HPair.key p), V.int IntKind.u8 (HPair.kind p), V.int IntKind.i64 (HPair.num p), V.str (HPair.text p)]) a)) : Int) == (↑(List.length (List.map (fun p => [V.str (HPair.key p), V.int IntKind.u8 (HPair.kind p), V.int IntKind.i64 (HPair.num p), V.str (HPair.text p)]) a)) : Int)) (cond (Nat.beq (List.length (List.map (fun p => [V.str (HPair.key p), V.int IntKind.u8 (HPair.kind p), V.int IntKind.i64 (HPair.num p), V.str (HPair.text p)]) a)) (List.length (List.map (fun p => [V.str (HPair.key p), V.int IntKind.u8 (HPair.kind p), V.int IntKind.i64 (HPair.num p), V.str (HPair.text p)]) b))) (cond (Nat.ble (List.length (List.map (fun p => [V.str (HPair.key p), V.int IntKind.u8 (HPair.kind p), V.int IntKind.i64 (HPair.num p), V.str (HPair.text p)]) a)) (1000001 : Nat)) (cond (N.samePs (List.drop (0 : Nat) (List.map (fun r => { key := V.toStr (List.getD r (0 : Nat) V.undef), kind := V.toInt (List.getD r (1 : Nat) V.undef), num := V.toInt (List.getD r (2 : Nat) V.undef), text := V.toStr (List.getD r (3 : Nat) V.undef) : HPair }) (List.map (fun p => [V.str (HPair.key p), V.int IntKind.u8 (HPair.kind p), V.int IntKind.i64 (HPair.num p), V.str (HPair.text p)]) a))) (List.drop (0 : Nat) (List.map (fun r => { key := V.toStr (List.getD r (0 : Nat) V.undef), kind := V.toInt (List.getD r (1 : Nat) V.undef), num := V.toInt (List.getD r (2 : Nat) V.undef), text := V.toStr (List.getD r (3 : Nat) V.undef) : HPair }) (List.map (fun p => [V.str (HPair.key p), V.int IntKind.u8 (HPair.kind p), V.int IntKind.i64 (HPair.num p), V.str (HPair.text p)]) b)))) (some { v := V.bool true, bx := [] : DRes }) (some { v := V.bool false, bx := [] : DRes })) (none)) (none)) (none)) := by kernel_rfl
theorem q_refSameR (r0 : List (List V)) (r1 : List (List V)) (i12 : Int) (i13 : Int) (K : Ex → St → Option R) : evRound eRefSame 61 4 { fr := [(0, .slc [.str, .int .u8, .int .i64, .str] r0), (1, .slc [.str, .int .u8, .int .i64, .str] r1), (12, .int .i64 i12), (13, .int .i64 i13)], tab := [] } K =
 cond (ilt i13 i12) (cond (decide ((0 : Int) ≤ i13 ∧ i13 < (↑(List.length r0) : Int))) (cond (decide ((0 : Int) ≤ i13 ∧ i13 < (↑(List.length r1) : Int))) (cond (!(V.toStr (List.getD (List.getD r0 (Int.toNat i13) []) (0 : Nat) V.undef) == V.toStr (List.getD (List.getD r1 (Int.toNat i13) []) (0 : Nat) V.undef) && (V.toInt (List.getD (List.getD r0 (Int.toNat i13) []) (1 : Nat) V.undef) == V.toInt (List.getD (List.getD r1 (Int.toNat i13) []) (1 : Nat) V.undef) && (V.toInt (List.getD (List.getD r0 (Int.toNat i13) []) (2 : Nat) V.undef) == V.toInt (List.getD (List.getD r1 (Int.toNat i13) []) (2 : Nat) V.undef) && (V.toStr (List.getD (List.getD r0 (Int.toNat i13) []) (3 : Nat) V.undef) == V.toStr (List.getD (List.getD r1 (Int.toNat i13) []) (3 : Nat) V.undef) && true))))) (K Ex.ret { fr := [((4 : Nat), V.bool false)], tab := [] : St }) (K Ex.normal { fr := [((0 : Nat), V.slc [Sh.str, Sh.int IntKind.u8, Sh.int IntKind.i64, Sh.str] r0), ((1 : Nat), V.slc [Sh.str, Sh.int IntKind.u8, Sh.int IntKind.i64, Sh.str] r1), ((12 : Nat), V.int IntKind.i64 i12), ((13 : Nat), V.int IntKind.i64 (IntKind.wrap IntKind.i64 (i13 + (1 : Int))))], tab := [] : St })) (none)) (none)) (K (Ex.exit (0 : Nat)) { fr := [], tab := [] : St }) := by kernel_rfl
theorem ok_refSame : FnOk Tryd.prog 61 dSameP := by
  refine den_okF (env_ok (TOk.nil _)) (E := eRefSame) Tryd.func61 [4] (by kernel_rfl) (one1 (rounds_of rfl fun l K q h => ?_)) fun a _ h => ?_
  · unfold gEqP at h
    split at h
    · rename_i r0 r1 n i
      have h1 := (cond_none h).1; replace h := (cond_none h).2; have h2 := (cond_none h).1; replace h := (cond_none h).2; have h3 := (cond_none h).1; replace h := (cond_none h).2; have h4 := (cond_none h).1; replace h := (cond_none h).2
      have e1 := ieq_of h1
      have h2 := Nat.eq_of_beq_eq_true h2
      subst e1
      have h4 : r0.length ≤ 1000001 := ble_of h4
      refine loop_ind (E := eRefSame) (f := 61) (id := 4) (fun i : Int => { fr := [(0, .slc [.str, .int .u8, .int .i64, .str] r0), (1, .slc [.str, .int .u8, .int .i64, .str] r1), (12, .int .i64 r0.length), (13, .int .i64 i)], tab := [] }) (fun i => 0 ≤ i) (fun i => r0.length - i.toNat)
        (fun i K => cond (N.samePs ((rowsP r0).drop i.toNat) ((rowsP r1).drop i.toNat)) (K (.exit 0) { fr := [], tab := [] }) (K .ret { fr := [(4, .bool false)], tab := [] })) (fun i hi => ?_) i (ile_of h3) K q (by assumption)
      by_cases hl : i < r0.length
      · rw [drop_pair (show i.toNat < r0.length by omega), drop_pair (show i.toNat < r1.length by omega), samePs_cons]
        cases hc : N.eqP (rowP (r0.getD i.toNat [])) (rowP (r1.getD i.toNat [])) with
        | true =>
          refine .inl ⟨i + 1, by omega, by omega, fun K => ?_, fun K => ?_⟩
          · rw [q_refSameR]
            unfold N.eqP rowP at hc
            simp (disch := omega) only [evs, hc, Bool.not_true]
          · rw [cond_true, show (i + 1).toNat = i.toNat + 1 by omega]
        | false =>
          refine .inr ⟨.ret, { fr := [(4, .bool false)], tab := [] }, by simp, fun K => ?_, fun K => rfl⟩
          rw [q_refSameR]
          unfold N.eqP rowP at hc
          simp (disch := omega) only [evs, hc, Bool.not_false]
      · refine .inr ⟨.exit 0, { fr := [], tab := [] }, by simp, fun K => ?_, fun K => ?_⟩
        · rw [q_refSameR]
          simp (disch := omega) only [evs]
        · rw [List.drop_eq_nil_of_le (by rw [rowsP_length]; omega), List.drop_eq_nil_of_le (by rw [rowsP_length]; omega)]; rfl
    · cases h
  · obtain ⟨a, b⟩ := a
    have h : a.length ≤ 1000000 := ble_of h
    refine (q_refSame a b).trans ?_
    show _ = some (⟨.bool (N.samePs a b), [], []⟩ : DRes)
    by_cases hl : a.length = b.length
    · simp (disch := omega) only [evs, pairs_enc, hl, List.drop_zero]
      cases N.samePs a b <;> rfl
    · rw [samePs_len a b hl]
      simp (disch := omega) only [evs]
def schLight : SSch := { fr := [(8, .slc [.str, .int .u8, .int .i64, .str]), (9, .int .i64), (10, .int .i64)], tab := [] }
def gLight : List Leaf → (Ex → St → Option R) → Option R
  | [.r r8, .i i9, .i i10], K => cond (i9 == r8.length) (cond (ile 0 i10) (cond (Nat.ble r8.length LIM) (cond (((rowsP r8).drop i10.toNat).all N.lightP) (K (.exit 0) { fr := [], tab := [] }) (K .ret { fr := [(2, .bool false)], tab := [] })) none) none) none
  | _, _ => none
noncomputable def eLight : Env := env Tryd.prog [] [(4, loopF schLight gLight)] [(4, [(0, [8, 9, 10]), (1, []), (1000, [2])])]
theorem q_light (h : List HPair) : evFn eLight 13 ((aOne (vSl cPair)).enc h) ([]) some =
 cond (ilt (12 : Int) (↑(List.length (List.map (fun p => [V.str (HPair.key p), V.int IntKind.u8 (HPair.kind p), V.int IntKind.i64 (HPair.num p), V.str (HPair.text p)]) h)) : Int)) (some { v := V.bool false, bx := [] : DRes }) (cond ((↑(List.length (List.map (fun p => [V.str (HPair.key p), V.int IntKind.u8 (HPair.kind p), V.int IntKind.i64 (HPair.num p), V.str (HPair.text p)]) h)) : Int) == (↑(List.length (List.map (fun p => [V.str (HPair.key p), V.int IntKind.u8 (HPair.kind p), V.int IntKind.i64 (HPair.num p), V.str (HPair.text p)]) h)) : Int)) (cond (Nat.ble (List.length (List.map (fun p => [V.str (HPair.key p), V.int IntKind.u8 (HPair.kind p), V.int IntKind.i64 (HPair.num p), V.str (HPair.text p)]) h)) (1000000 : Nat)) (cond (List.all (List.drop (0 : Nat) (List.map (fun r => { key := V.toStr (List.getD r (0 : Nat) V.undef), kind := V.toInt (List.getD r (1 : Nat) V.undef), num := V.toInt (List.getD r (2 : Nat) V.undef), text := V.toStr (List.getD r (3 : Nat) V.undef) : HPair }) (List.map (fun p => [V.str (HPair.key p), V.int IntKind.u8 (HPair.kind p), V.int IntKind.i64 (HPair.num p), V.str (HPair.text p)]) h))) N.lightP) (some { v := V.bool true, bx := [] : DRes }) (some { v := V.bool false, bx := [] : DRes })) (none)) (none)) := by kernel_rfl
theorem q_lightR (r8 : List (List V)) (i9 : Int) (i10 : Int) (K : Ex → St → Option R) : evRound eLight 13 4 { fr := [(8, .slc [.str, .int .u8, .int .i64, .str] r8), (9, .int .i64 i9), (10, .int .i64 i10)], tab := [] } K =
 cond (ilt i10 i9) (cond (decide ((0 : Int) ≤ i10 ∧ i10 < (↑(List.length r8) : Int))) (cond (ilt (40 : Int) (↑(List.length (V.toStr (List.getD (List.getD r8 (Int.toNat i10) []) (0 : Nat) V.undef))) : Int)) (K Ex.ret { fr := [((2 : Nat), V.bool false)], tab := [] : St }) (cond (ilt (100 : Int) (↑(List.length (V.toStr (List.getD (List.getD r8 (Int.toNat i10) []) (3 : Nat) V.undef))) : Int)) (K Ex.ret { fr := [((2 : Nat), V.bool false)], tab := [] : St }) (K Ex.normal { fr := [((8 : Nat), V.slc [Sh.str, Sh.int IntKind.u8, Sh.int IntKind.i64, Sh.str] r8), ((9 : Nat), V.int IntKind.i64 i9), ((10 : Nat), V.int IntKind.i64 (IntKind.wrap IntKind.i64 (i10 + (1 : Int))))], tab := [] : St }))) (none)) (K (Ex.exit (0 : Nat)) { fr := [], tab := [] : St }) := by kernel_rfl
theorem ok_light : FnOk Tryd.prog 13 dLight := by
  refine den_okF (env_ok (TOk.nil _)) (E := eLight) Tryd.func13 [4] (by kernel_rfl) (one1 (rounds_of rfl fun l K q h => ?_)) fun h _ _ => ?_
  · unfold gLight at h
    split at h
    · rename_i r n i
      have h1 := (cond_none h).1; replace h := (cond_none h).2; have h2 := (cond_none h).1; replace h := (cond_none h).2; have h3 := (cond_none h).1; replace h := (cond_none h).2
      have e1 := ieq_of h1
      subst e1
      have h3 : r.length ≤ 1000000 := ble_of h3
      refine loop_ind (E := eLight) (f := 13) (id := 4) (fun i : Int => { fr := [(8, .slc [.str, .int .u8, .int .i64, .str] r), (9, .int .i64 r.length), (10, .int .i64 i)], tab := [] }) (fun i => 0 ≤ i) (fun i => r.length - i.toNat)
        (fun i K => cond (((rowsP r).drop i.toNat).all N.lightP) (K (.exit 0) { fr := [], tab := [] }) (K .ret { fr := [(2, .bool false)], tab := [] })) (fun i hi => ?_) i (ile_of h2) K q (by assumption)
      by_cases hl : i < r.length
      · rw [drop_pair (show i.toNat < r.length by omega), List.all_cons]
        cases hc : N.lightP (rowP (r.getD i.toNat [])) with
        | true =>
          refine .inl ⟨i + 1, by omega, by omega, fun K => ?_, fun K => ?_⟩
          · rw [q_lightR]
            simp (disch := omega) only [evs]
            revert hc
            unfold N.lightP rowP
            cases ilt 40 (V.toStr (List.getD (List.getD r i.toNat []) 0 V.undef)).length <;> cases ilt 100 (V.toStr (List.getD (List.getD r i.toNat []) 3 V.undef)).length <;> intro hc <;> first | rfl | cases hc
          · rw [Bool.true_and, show (i + 1).toNat = i.toNat + 1 by omega]
        | false =>
          refine .inr ⟨.ret, { fr := [(2, .bool false)], tab := [] }, by simp, fun K => ?_, fun K => rfl⟩
          rw [q_lightR]
          simp (disch := omega) only [evs]
          revert hc
          unfold N.lightP rowP
          cases ilt 40 (V.toStr (List.getD (List.getD r i.toNat []) 0 V.undef)).length <;> cases ilt 100 (V.toStr (List.getD (List.getD r i.toNat []) 3 V.undef)).length <;> intro hc <;> first | rfl | cases hc
      · refine .inr ⟨.exit 0, { fr := [], tab := [] }, by simp, fun K => ?_, fun K => ?_⟩
        · rw [q_lightR]
          simp (disch := omega) only [evs]
        · rw [List.drop_eq_nil_of_le (by rw [rowsP_length]; omega)]; rfl
    · cases h
  · refine (q_light h).trans ?_
    show _ = some (⟨.bool (N.light h), [], []⟩ : DRes)
    unfold N.light
    by_cases hl : 12 < h.length
    · simp (disch := omega) only [evs]
    · simp (disch := omega) only [evs, pairs_enc, List.drop_zero]
      cases h.all N.lightP <;> rfl
noncomputable def eFindFn : Env := env Tryd.prog [] [] []
theorem q_findFn (p : HPair) (key : Bytes) : evFn eFindFn 99 ((aCons (vAgg cPair) (aOne (vPtr 0))).enc (p, ())) ((bOne rStr).enc key) some =
 some { v := V.bool (HPair.key p == key), bx := [[V.str key]] : DRes } := by kernel_rfl
theorem ok_findFn : FnOk Tryd.prog 99 dFindFn := den_okF (env_ok (TOk.nil _)) (E := eFindFn) Tryd.func99 [] (by kernel_rfl) none0 fun a key _ => q_findFn a.1 key
def schIxf : SSch := { fr := [(0, .slc [.str, .int .u8, .int .i64, .str]), (1, .fn 99 [] [.ptr 0 0 0]), (7, .int .i64), (8, .int .i64)], tab := [(0, .var [.str])] }
def gIxf : List Leaf → (Ex → St → Option R) → Option R
  | [.r r0, .i i7, .i i8, .s key], K => cond (i7 == r0.length) (cond (ile 0 i8) (cond (Nat.ble r0.length LIM)
      (cond (ile 0 (N.findIx key ((rowsP r0).drop i8.toNat) i8)) (K .ret { fr := [(4, .int .i64 (N.findIx key ((rowsP r0).drop i8.toNat) i8))], tab := [(0, .var [.str key])] }) (K (.exit 0) { fr := [], tab := [(0, .var [.str key])] })) none) none) none
  | _, _ => none
noncomputable def eIxf : Env := env Tryd.prog [(99, dFindFn)] [(2, loopF schIxf gIxf)] [(2, [(0, [0, 1, 7, 8]), (1, []), (1000, [4])])]
theorem q_ixf (h : List HPair) (key : Bytes) : evFn eIxf 98 ((aCons (vSl cPair) (aOne (vFn 99 0))).enc (h, ())) ((bOne rStr).enc key) some =
 cond ((↑(List.length (List.map (fun p => [V.str (HPair.key p), V.int IntKind.u8 (HPair.kind p), V.int IntKind.i64 (HPair.num p), V.str (HPair.text p)]) h)) : Int) == (↑(List.length (List.map (fun p => [V.str (HPair.key p), V.int IntKind.u8 (HPair.kind p), V.int IntKind.i64 (HPair.num p), V.str (HPair.text p)]) h)) : Int)) (cond (Nat.ble (List.length (List.map (fun p => [V.str (HPair.key p), V.int IntKind.u8 (HPair.kind p), V.int IntKind.i64 (HPair.num p), V.str (HPair.text p)]) h)) (1000000 : Nat)) (cond (ile (0 : Int) (N.findIx key (List.drop (0 : Nat) (List.map (fun r => { key := V.toStr (List.getD r (0 : Nat) V.undef), kind := V.toInt (List.getD r (1 : Nat) V.undef), num := V.toInt (List.getD r (2 : Nat) V.undef), text := V.toStr (List.getD r (3 : Nat) V.undef) : HPair }) (List.map (fun p => [V.str (HPair.key p), V.int IntKind.u8 (HPair.kind p), V.int IntKind.i64 (HPair.num p), V.str (HPair.text p)]) h))) (0 : Int))) (some { v := V.int IntKind.i64 (N.findIx key (List.drop (0 : Nat) (List.map (fun r => { key := V.toStr (List.getD r (0 : Nat) V.undef), kind := V.toInt (List.getD r (1 : Nat) V.undef), num := V.toInt (List.getD r (2 : Nat) V.undef), text := V.toStr (List.getD r (3 : Nat) V.undef) : HPair }) (List.map (fun p => [V.str (HPair.key p), V.int IntKind.u8 (HPair.kind p), V.int IntKind.i64 (HPair.num p), V.str (HPair.text p)]) h))) (0 : Int)), bx := [[V.str key]] : DRes }) (some { v := V.int IntKind.i64 (-1 : Int), bx := [[V.str key]] : DRes })) (none)) (none) := by kernel_rfl
theorem q_ixfR (r0 : List (List V)) (i7 : Int) (i8 : Int) (sx0 : Bytes) (K : Ex → St → Option R) : evRound eIxf 98 2 { fr := [(0, .slc [.str, .int .u8, .int .i64, .str] r0), (1, .fn 99 [] [.ptr 0 0 0 0]), (7, .int .i64 i7), (8, .int .i64 i8)], tab := [(0, .var [.str sx0])] } K =
 cond (ilt i8 i7) (cond (decide ((0 : Int) ≤ i8 ∧ i8 < (↑(List.length r0) : Int))) (cond (V.toStr (List.getD (List.getD r0 (Int.toNat i8) []) (0 : Nat) V.undef) == sx0) (K Ex.ret { fr := [((4 : Nat), V.int IntKind.i64 i8)], tab := [((0 : Nat), Box.var [V.str sx0])] : St }) (K Ex.normal { fr := [((0 : Nat), V.slc [Sh.str, Sh.int IntKind.u8, Sh.int IntKind.i64, Sh.str] r0), ((1 : Nat), V.fn 99 [] [V.ptr (0 : Nat) (0 : Nat) (0 : Nat) (0 : Nat)]), ((7 : Nat), V.int IntKind.i64 i7), ((8 : Nat), V.int IntKind.i64 (IntKind.wrap IntKind.i64 (i8 + (1 : Int))))], tab := [((0 : Nat), Box.var [V.str sx0])] : St })) (none)) (K (Ex.exit (0 : Nat)) { fr := [], tab := [((0 : Nat), Box.var [V.str sx0])] : St }) := by kernel_rfl
theorem ok_ixf : FnOk Tryd.prog 98 (dIndexFn 99) := by
  refine den_okF (env_ok ((TOk.nil _).cons ok_findFn)) (E := eIxf) Tryd.func98 [2] (by kernel_rfl) (one1 (rounds_of rfl fun l K q h => ?_)) fun a key h => ?_
  · unfold gIxf at h
    split at h
    · rename_i r n i key
      have h1 := (cond_none h).1; replace h := (cond_none h).2; have h2 := (cond_none h).1; replace h := (cond_none h).2; have h3 := (cond_none h).1; replace h := (cond_none h).2
      have e1 := ieq_of h1
      subst e1
      have h3 : r.length ≤ 1000000 := ble_of h3
      refine loop_ind (E := eIxf) (f := 98) (id := 2) (fun i : Int => { fr := [(0, .slc [.str, .int .u8, .int .i64, .str] r), (1, .fn 99 [] [.ptr 0 0 0 0]), (7, .int .i64 r.length), (8, .int .i64 i)], tab := [(0, .var [.str key])] }) (fun i => 0 ≤ i) (fun i => r.length - i.toNat)
        (fun i8 K => cond (ile 0 (N.findIx key ((rowsP r).drop i8.toNat) i8)) (K .ret { fr := [(4, .int .i64 (N.findIx key ((rowsP r).drop i8.toNat) i8))], tab := [(0, .var [.str key])] }) (K (.exit 0) { fr := [], tab := [(0, .var [.str key])] })) (fun i hi => ?_) i (ile_of h2) K q (by assumption)
      by_cases hl : i < r.length
      · rw [drop_pair (show i.toNat < r.length by omega)]
        have e : N.findIx key (rowP (r.getD i.toNat []) :: (rowsP r).drop (i.toNat + 1)) i = cond ((rowP (r.getD i.toNat [])).key == key) i (N.findIx key ((rowsP r).drop (i.toNat + 1)) (i + 1)) := rfl
        rw [e]
        cases hc : (rowP (r.getD i.toNat [])).key == key with
        | true =>
          rw [cond_true, ile_t hi]
          refine .inr ⟨.ret, _, by simp, fun K => ?_, fun K => rfl⟩
          rw [q_ixfR]
          unfold rowP at hc
          simp (disch := omega) only [evs, hc]
        | false =>
          refine .inl ⟨i + 1, by omega, by omega, fun K => ?_, fun K => ?_⟩
          · rw [q_ixfR]
            unfold rowP at hc
            simp (disch := omega) only [evs, hc]
          · rw [cond_false, show (i + 1).toNat = i.toNat + 1 by omega]
      · refine .inr ⟨.exit 0, { fr := [], tab := [(0, .var [.str key])] }, by simp, fun K => ?_, fun K => ?_⟩
        · rw [q_ixfR]
          simp (disch := omega) only [evs]
        · rw [List.drop_eq_nil_of_le (by rw [rowsP_length]; omega)]; rfl
    · cases h
  · obtain ⟨l, u⟩ := a
    have h : l.length ≤ 1000000 := ble_of h
    refine (q_ixf l key).trans ?_
    show _ = some (⟨.int .i64 (N.findIx key l 0), [[.str key]], []⟩ : DRes)
    simp (disch := omega) only [evs, pairs_enc, List.drop_zero]
    rcases findIx_lt key l 0 (Int.le_refl _) with e | ⟨e, _⟩
    · rw [e]; rfl
    · rw [ile_t e]; rfl
noncomputable def eFind : Env := env Tryd.prog [(98, dIndexFn 99)] [] []
theorem q_find (h : List HPair) (key : Bytes) : evFn eFind 88 ((aCons (vSl cPair) (aOne vStr)).enc (h, key)) ([]) some =
 cond (Nat.ble (List.length (List.map (fun r => { key := V.toStr (List.getD r (0 : Nat) V.undef), kind := V.toInt (List.getD r (1 : Nat) V.undef), num := V.toInt (List.getD r (2 : Nat) V.undef), text := V.toStr (List.getD r (3 : Nat) V.undef) : HPair }) (List.map (fun p => [V.str (HPair.key p), V.int IntKind.u8 (HPair.kind p), V.int IntKind.i64 (HPair.num p), V.str (HPair.text p)]) h))) (1000000 : Nat)) (cond (ilt (N.findIx key (List.map (fun r => { key := V.toStr (List.getD r (0 : Nat) V.undef), kind := V.toInt (List.getD r (1 : Nat) V.undef), num := V.toInt (List.getD r (2 : Nat) V.undef), text := V.toStr (List.getD r (3 : Nat) V.undef) : HPair }) (List.map (fun p => [V.str (HPair.key p), V.int IntKind.u8 (HPair.kind p), V.int IntKind.i64 (HPair.num p), V.str (HPair.text p)]) h)) (0 : Int)) (0 : Int)) (some { v := V.tup [V.agg [V.str [], V.int IntKind.u8 (0 : Int), V.int IntKind.i64 (0 : Int), V.str []], V.bool false], bx := [] : DRes }) (cond (decide ((0 : Int) ≤ N.findIx key (List.map (fun r => { key := V.toStr (List.getD r (0 : Nat) V.undef), kind := V.toInt (List.getD r (1 : Nat) V.undef), num := V.toInt (List.getD r (2 : Nat) V.undef), text := V.toStr (List.getD r (3 : Nat) V.undef) : HPair }) (List.map (fun p => [V.str (HPair.key p), V.int IntKind.u8 (HPair.kind p), V.int IntKind.i64 (HPair.num p), V.str (HPair.text p)]) h)) (0 : Int) ∧ N.findIx key (List.map (fun r => { key := V.toStr (List.getD r (0 : Nat) V.undef), kind := V.toInt (List.getD r (1 : Nat) V.undef), num := V.toInt (List.getD r (2 : Nat) V.undef), text := V.toStr (List.getD r (3 : Nat) V.undef) : HPair }) (List.map (fun p => [V.str (HPair.key p), V.int IntKind.u8 (HPair.kind p), V.int IntKind.i64 (HPair.num p), V.str (HPair.text p)]) h)) (0 : Int) < (↑(List.length (List.map (fun p => [V.str (HPair.key p), V.int IntKind.u8 (HPair.kind p), V.int IntKind.i64 (HPair.num p), V.str (HPair.text p)]) h)) : Int))) (some { v := V.tup [V.agg [V.str (V.toStr (List.getD (List.getD (List.map (fun p => [V.str (HPair.key p), V.int IntKind.u8 (HPair.kind p), V.int IntKind.i64 (HPair.num p), V.str (HPair.text p)]) h) (Int.toNat (N.findIx key (List.map (fun r => { key := V.toStr (List.getD r (0 : Nat) V.undef), kind := V.toInt (List.getD r (1 : Nat) V.undef), num := V.toInt (List.getD r (2 : Nat) V.undef), text := V.toStr (List.getD r (3 : Nat) V.undef) : HPair }) (List.map (fun p => [V.str (HPair.key p), V.int IntKind.u8 (HPair.kind p), V.int IntKind.i64 (HPair.num p), V.str (HPair.text p)]) h)) (0 : Int))) []) (0 : Nat) V.undef)), V.int IntKind.u8 (V.toInt (List.getD (List.getD (List.map (fun p => [V.str (HPair.key p), V.int IntKind.u8 (HPair.kind p), V.int IntKind.i64 (HPair.num p), V.str (HPair.text p)]) h) (Int.toNat (N.findIx key (List.map (fun r => { key := V.toStr (List.getD r (0 : Nat) V.undef), kind := V.toInt (List.getD r (1 : Nat) V.undef), num := V.toInt (List.getD r (2 : Nat) V.undef), text := V.toStr (List.getD r (3 : Nat) V.undef) : HPair }) (List.map (fun p => [V.str (HPair.key p), V.int IntKind.u8 (HPair.kind p), V.int IntKind.i64 (HPair.num p), V.str (HPair.text p)]) h)) (0 : Int))) []) (1 : Nat) V.undef)), V.int IntKind.i64 (V.toInt (List.getD (List.getD (List.map (fun p => [V.str (HPair.key p), V.int IntKind.u8 (HPair.kind p), V.int IntKind.i64 (HPair.num p), V.str (HPair.text p)]) h) (Int.toNat (N.findIx key (List.map (fun r => { key := V.toStr (List.getD r (0 : Nat) V.undef), kind := V.toInt (List.getD r (1 : Nat) V.undef), num := V.toInt (List.getD r (2 : Nat) V.undef), text := V.toStr (List.getD r (3 : Nat) V.undef) : HPair }) (List.map (fun p => [V.str (HPair.key p), V.int IntKind.u8 (HPair.kind p), V.int IntKind.i64 (HPair.num p), V.str (HPair.text p)]) h)) (0 : Int))) []) (2 : Nat) V.undef)), V.str (V.toStr (List.getD (List.getD (List.map (fun p => [V.str (HPair.key p), V.int IntKind.u8 (HPair.kind p), V.int IntKind.i64 (HPair.num p), V.str (HPair.text p)]) h) (Int.toNat (N.findIx key (List.map (fun r => { key := V.toStr (List.getD r (0 : Nat) V.undef), kind := V.toInt (List.getD r (1 : Nat) V.undef), num := V.toInt (List.getD r (2 : Nat) V.undef), text := V.toStr (List.getD r (3 : Nat) V.undef) : HPair }) (List.map (fun p => [V.str (HPair.key p), V.int IntKind.u8 (HPair.kind p), V.int IntKind.i64 (HPair.num p), V.str (HPair.text p)]) h)) (0 : Int))) []) (3 : Nat) V.undef))], V.bool true], bx := [] : DRes }) (none))) (none) := by kernel_rfl
theorem ok_find : FnOk Tryd.prog 88 dFind := by
  refine den_okF (env_ok ((TOk.nil _).cons ok_ixf)) (E := eFind) Tryd.func88 [] (by kernel_rfl) none0 fun a _ h => ?_
  obtain ⟨l, key⟩ := a
  have h : l.length ≤ 1000000 := ble_of h
  refine (q_find l key).trans ?_
  show _ = some (⟨.tup [.agg [.str (N.find l key).1.key, .int .u8 (N.find l key).1.kind, .int .i64 (N.find l key).1.num, .str (N.find l key).1.text], .bool (N.find l key).2], [], []⟩ : DRes)
  unfold N.find
  simp (disch := omega) only [evs, pairs_enc, pairs_get]
  rcases findIx_lt key l 0 (Int.le_refl _) with e | ⟨e1, e2⟩
  · rw [e]; rfl
  · simp (disch := omega) only [evs]
noncomputable def ePairE : Env := env Tryd.prog [(79, dName), (88, dFind)] [] []
theorem q_pairE (p : HPair) (l : List HPair) : evFn ePairE 86 ((aCons (vAgg cPair) (aOne (vSl cPair))).enc (p, l)) ([]) some =
 cond (N.name (HPair.key p) != (0 : Int)) (some { v := V.int IntKind.i64 (N.name (HPair.key p)), bx := [] : DRes }) (cond (Nat.ble (List.length (List.map (fun r => { key := V.toStr (List.getD r (0 : Nat) V.undef), kind := V.toInt (List.getD r (1 : Nat) V.undef), num := V.toInt (List.getD r (2 : Nat) V.undef), text := V.toStr (List.getD r (3 : Nat) V.undef) : HPair }) (List.map (fun p => [V.str (HPair.key p), V.int IntKind.u8 (HPair.kind p), V.int IntKind.i64 (HPair.num p), V.str (HPair.text p)]) l))) (1000000 : Nat)) (cond (ilt (2 : Int) (HPair.kind p)) (some { v := V.int IntKind.i64 (8 : Int), bx := [] : DRes }) (cond (HPair.kind p == (1 : Int)) (cond (ilt (64 : Int) (↑(List.length (HPair.text p)) : Int)) (some { v := V.int IntKind.i64 (5 : Int), bx := [] : DRes }) (cond (HPair.kind p == (2 : Int)) (cond (HPair.num p != (0 : Int)) (cond (HPair.num p != (1 : Int)) (some { v := V.int IntKind.i64 (7 : Int), bx := [] : DRes }) (cond (HPair.kind p == (1 : Int)) (cond (HPair.num p != (0 : Int)) (cond (HPair.num p != (0 : Int)) (some { v := V.int IntKind.i64 (4 : Int), bx := [] : DRes }) (cond (Prod.snd (N.find (List.map (fun r => { key := V.toStr (List.getD r (0 : Nat) V.undef), kind := V.toInt (List.getD r (1 : Nat) V.undef), num := V.toInt (List.getD r (2 : Nat) V.undef), text := V.toStr (List.getD r (3 : Nat) V.undef) : HPair }) (List.map (fun p => [V.str (HPair.key p), V.int IntKind.u8 (HPair.kind p), V.int IntKind.i64 (HPair.num p), V.str (HPair.text p)]) l)) (HPair.key p))) (some { v := V.int IntKind.i64 (9 : Int), bx := [] : DRes }) (some { v := V.int IntKind.i64 (0 : Int), bx := [] : DRes }))) (cond (HPair.kind p != (1 : Int)) (cond (!HPair.text p == []) (some { v := V.int IntKind.i64 (4 : Int), bx := [] : DRes }) (cond (Prod.snd (N.find (List.map (fun r => { key := V.toStr (List.getD r (0 : Nat) V.undef), kind := V.toInt (List.getD r (1 : Nat) V.undef), num := V.toInt (List.getD r (2 : Nat) V.undef), text := V.toStr (List.getD r (3 : Nat) V.undef) : HPair }) (List.map (fun p => [V.str (HPair.key p), V.int IntKind.u8 (HPair.kind p), V.int IntKind.i64 (HPair.num p), V.str (HPair.text p)]) l)) (HPair.key p))) (some { v := V.int IntKind.i64 (9 : Int), bx := [] : DRes }) (some { v := V.int IntKind.i64 (0 : Int), bx := [] : DRes }))) (cond (Prod.snd (N.find (List.map (fun r => { key := V.toStr (List.getD r (0 : Nat) V.undef), kind := V.toInt (List.getD r (1 : Nat) V.undef), num := V.toInt (List.getD r (2 : Nat) V.undef), text := V.toStr (List.getD r (3 : Nat) V.undef) : HPair }) (List.map (fun p => [V.str (HPair.key p), V.int IntKind.u8 (HPair.kind p), V.int IntKind.i64 (HPair.num p), V.str (HPair.text p)]) l)) (HPair.key p))) (some { v := V.int IntKind.i64 (9 : Int), bx := [] : DRes }) (some { v := V.int IntKind.i64 (0 : Int), bx := [] : DRes })))) (cond (HPair.kind p != (1 : Int)) (cond (!HPair.text p == []) (some { v := V.int IntKind.i64 (4 : Int), bx := [] : DRes }) (cond (Prod.snd (N.find (List.map (fun r => { key := V.toStr (List.getD r (0 : Nat) V.undef), kind := V.toInt (List.getD r (1 : Nat) V.undef), num := V.toInt (List.getD r (2 : Nat) V.undef), text := V.toStr (List.getD r (3 : Nat) V.undef) : HPair }) (List.map (fun p => [V.str (HPair.key p), V.int IntKind.u8 (HPair.kind p), V.int IntKind.i64 (HPair.num p), V.str (HPair.text p)]) l)) (HPair.key p))) (some { v := V.int IntKind.i64 (9 : Int), bx := [] : DRes }) (some { v := V.int IntKind.i64 (0 : Int), bx := [] : DRes }))) (cond (Prod.snd (N.find (List.map (fun r => { key := V.toStr (List.getD r (0 : Nat) V.undef), kind := V.toInt (List.getD r (1 : Nat) V.undef), num := V.toInt (List.getD r (2 : Nat) V.undef), text := V.toStr (List.getD r (3 : Nat) V.undef) : HPair }) (List.map (fun p => [V.str (HPair.key p), V.int IntKind.u8 (HPair.kind p), V.int IntKind.i64 (HPair.num p), V.str (HPair.text p)]) l)) (HPair.key p))) (some { v := V.int IntKind.i64 (9 : Int), bx := [] : DRes }) (some { v := V.int IntKind.i64 (0 : Int), bx := [] : DRes }))))) (cond (HPair.kind p == (1 : Int)) (cond (HPair.num p != (0 : Int)) (cond (HPair.num p != (0 : Int)) (some { v := V.int IntKind.i64 (4 : Int), bx := [] : DRes }) (cond (Prod.snd (N.find (List.map (fun r => { key := V.toStr (List.getD r (0 : Nat) V.undef), kind := V.toInt (List.getD r (1 : Nat) V.undef), num := V.toInt (List.getD r (2 : Nat) V.undef), text := V.toStr (List.getD r (3 : Nat) V.undef) : HPair }) (List.map (fun p => [V.str (HPair.key p), V.int IntKind.u8 (HPair.kind p), V.int IntKind.i64 (HPair.num p), V.str (HPair.text p)]) l)) (HPair.key p))) (some { v := V.int IntKind.i64 (9 : Int), bx := [] : DRes }) (some { v := V.int IntKind.i64 (0 : Int), bx := [] : DRes }))) (cond (HPair.kind p != (1 : Int)) (cond (!HPair.text p == []) (some { v := V.int IntKind.i64 (4 : Int), bx := [] : DRes }) (cond (Prod.snd (N.find (List.map (fun r => { key := V.toStr (List.getD r (0 : Nat) V.undef), kind := V.toInt (List.getD r (1 : Nat) V.undef), num := V.toInt (List.getD r (2 : Nat) V.undef), text := V.toStr (List.getD r (3 : Nat) V.undef) : HPair }) (List.map (fun p => [V.str (HPair.key p), V.int IntKind.u8 (HPair.kind p), V.int IntKind.i64 (HPair.num p), V.str (HPair.text p)]) l)) (HPair.key p))) (some { v := V.int IntKind.i64 (9 : Int), bx := [] : DRes }) (some { v := V.int IntKind.i64 (0 : Int), bx := [] : DRes }))) (cond (Prod.snd (N.find (List.map (fun r => { key := V.toStr (List.getD r (0 : Nat) V.undef), kind := V.toInt (List.getD r (1 : Nat) V.undef), num := V.toInt (List.getD r (2 : Nat) V.undef), text := V.toStr (List.getD r (3 : Nat) V.undef) : HPair }) (List.map (fun p => [V.str (HPair.key p), V.int IntKind.u8 (HPair.kind p), V.int IntKind.i64 (HPair.num p), V.str (HPair.text p)]) l)) (HPair.key p))) (some { v := V.int IntKind.i64 (9 : Int), bx := [] : DRes }) (some { v := V.int IntKind.i64 (0 : Int), bx := [] : DRes })))) (cond (HPair.kind p != (1 : Int)) (cond (!HPair.text p == []) (some { v := V.int IntKind.i64 (4 : Int), bx := [] : DRes }) (cond (Prod.snd (N.find (List.map (fun r => { key := V.toStr (List.getD r (0 : Nat) V.undef), kind := V.toInt (List.getD r (1 : Nat) V.undef), num := V.toInt (List.getD r (2 : Nat) V.undef), text := V.toStr (List.getD r (3 : Nat) V.undef) : HPair }) (List.map (fun p => [V.str (HPair.key p), V.int IntKind.u8 (HPair.kind p), V.int IntKind.i64 (HPair.num p), V.str (HPair.text p)]) l)) (HPair.key p))) (some { v := V.int IntKind.i64 (9 : Int), bx := [] : DRes }) (some { v := V.int IntKind.i64 (0 : Int), bx := [] : DRes }))) (cond (Prod.snd (N.find (List.map (fun r => { key := V.toStr (List.getD r (0 : Nat) V.undef), kind := V.toInt (List.getD r (1 : Nat) V.undef), num := V.toInt (List.getD r (2 : Nat) V.undef), text := V.toStr (List.getD r (3 : Nat) V.undef) : HPair }) (List.map (fun p => [V.str (HPair.key p), V.int IntKind.u8 (HPair.kind p), V.int IntKind.i64 (HPair.num p), V.str (HPair.text p)]) l)) (HPair.key p))) (some { v := V.int IntKind.i64 (9 : Int), bx := [] : DRes }) (some { v := V.int IntKind.i64 (0 : Int), bx := [] : DRes }))))) (cond (HPair.kind p == (1 : Int)) (cond (HPair.num p != (0 : Int)) (cond (HPair.num p != (0 : Int)) (some { v := V.int IntKind.i64 (4 : Int), bx := [] : DRes }) (cond (Prod.snd (N.find (List.map (fun r => { key := V.toStr (List.getD r (0 : Nat) V.undef), kind := V.toInt (List.getD r (1 : Nat) V.undef), num := V.toInt (List.getD r (2 : Nat) V.undef), text := V.toStr (List.getD r (3 : Nat) V.undef) : HPair }) (List.map (fun p => [V.str (HPair.key p), V.int IntKind.u8 (HPair.kind p), V.int IntKind.i64 (HPair.num p), V.str (HPair.text p)]) l)) (HPair.key p))) (some { v := V.int IntKind.i64 (9 : Int), bx := [] : DRes }) (some { v := V.int IntKind.i64 (0 : Int), bx := [] : DRes }))) (cond (HPair.kind p != (1 : Int)) (cond (!HPair.text p == []) (some { v := V.int IntKind.i64 (4 : Int), bx := [] : DRes }) (cond (Prod.snd (N.find (List.map (fun r => { key := V.toStr (List.getD r (0 : Nat) V.undef), kind := V.toInt (List.getD r (1 : Nat) V.undef), num := V.toInt (List.getD r (2 : Nat) V.undef), text := V.toStr (List.getD r (3 : Nat) V.undef) : HPair }) (List.map (fun p => [V.str (HPair.key p), V.int IntKind.u8 (HPair.kind p), V.int IntKind.i64 (HPair.num p), V.str (HPair.text p)]) l)) (HPair.key p))) (some { v := V.int IntKind.i64 (9 : Int), bx := [] : DRes }) (some { v := V.int IntKind.i64 (0 : Int), bx := [] : DRes }))) (cond (Prod.snd (N.find (List.map (fun r => { key := V.toStr (List.getD r (0 : Nat) V.undef), kind := V.toInt (List.getD r (1 : Nat) V.undef), num := V.toInt (List.getD r (2 : Nat) V.undef), text := V.toStr (List.getD r (3 : Nat) V.undef) : HPair }) (List.map (fun p => [V.str (HPair.key p), V.int IntKind.u8 (HPair.kind p), V.int IntKind.i64 (HPair.num p), V.str (HPair.text p)]) l)) (HPair.key p))) (some { v := V.int IntKind.i64 (9 : Int), bx := [] : DRes }) (some { v := V.int IntKind.i64 (0 : Int), bx := [] : DRes })))) (cond (HPair.kind p != (1 : Int)) (cond (!HPair.text p == []) (some { v := V.int IntKind.i64 (4 : Int), bx := [] : DRes }) (cond (Prod.snd (N.find (List.map (fun r => { key := V.toStr (List.getD r (0 : Nat) V.undef), kind := V.toInt (List.getD r (1 : Nat) V.undef), num := V.toInt (List.getD r (2 : Nat) V.undef), text := V.toStr (List.getD r (3 : Nat) V.undef) : HPair }) (List.map (fun p => [V.str (HPair.key p), V.int IntKind.u8 (HPair.kind p), V.int IntKind.i64 (HPair.num p), V.str (HPair.text p)]) l)) (HPair.key p))) (some { v := V.int IntKind.i64 (9 : Int), bx := [] : DRes }) (some { v := V.int IntKind.i64 (0 : Int), bx := [] : DRes }))) (cond (Prod.snd (N.find (List.map (fun r => { key := V.toStr (List.getD r (0 : Nat) V.undef), kind := V.toInt (List.getD r (1 : Nat) V.undef), num := V.toInt (List.getD r (2 : Nat) V.undef), text := V.toStr (List.getD r (3 : Nat) V.undef) : HPair }) (List.map (fun p => [V.str (HPair.key p), V.int IntKind.u8 (HPair.kind p), V.int IntKind.i64 (HPair.num p), V.str (HPair.text p)]) l)) (HPair.key p))) (some { v := V.int IntKind.i64 (9 : Int), bx := [] : DRes }) (some { v := V.int IntKind.i64 (0 : Int), bx := [] : DRes })))))) (cond (HPair.kind p == (2 : Int)) (cond (HPair.num p != (0 : Int)) (cond (HPair.num p != (1 : Int)) (some { v := V.int IntKind.i64 (7 : Int), bx := [] : DRes }) (cond (HPair.kind p == (1 : Int)) (cond (HPair.num p != (0 : Int)) (cond (HPair.num p != (0 : Int)) (some { v := V.int IntKind.i64 (4 : Int), bx := [] : DRes }) (cond (Prod.snd (N.find (List.map (fun r => { key := V.toStr (List.getD r (0 : Nat) V.undef), kind := V.toInt (List.getD r (1 : Nat) V.undef), num := V.toInt (List.getD r (2 : Nat) V.undef), text := V.toStr (List.getD r (3 : Nat) V.undef) : HPair }) (List.map (fun p => [V.str (HPair.key p), V.int IntKind.u8 (HPair.kind p), V.int IntKind.i64 (HPair.num p), V.str (HPair.text p)]) l)) (HPair.key p))) (some { v := V.int IntKind.i64 (9 : Int), bx := [] : DRes }) (some { v := V.int IntKind.i64 (0 : Int), bx := [] : DRes }))) (cond (HPair.kind p != (1 : Int)) (cond (!HPair.text p == []) (some { v := V.int IntKind.i64 (4 : Int), bx := [] : DRes }) (cond (Prod.snd (N.find (List.map (fun r => { key := V.toStr (List.getD r (0 : Nat) V.undef), kind := V.toInt (List.getD r (1 : Nat) V.undef), num := V.toInt (List.getD r (2 : Nat) V.undef), text := V.toStr (List.getD r (3 : Nat) V.undef) : HPair }) (List.map (fun p => [V.str (HPair.key p), V.int IntKind.u8 (HPair.kind p), V.int IntKind.i64 (HPair.num p), V.str (HPair.text p)]) l)) (HPair.key p))) (some { v := V.int IntKind.i64 (9 : Int), bx := [] : DRes }) (some { v := V.int IntKind.i64 (0 : Int), bx := [] : DRes }))) (cond (Prod.snd (N.find (List.map (fun r => { key := V.toStr (List.getD r (0 : Nat) V.undef), kind := V.toInt (List.getD r (1 : Nat) V.undef), num := V.toInt (List.getD r (2 : Nat) V.undef), text := V.toStr (List.getD r (3 : Nat) V.undef) : HPair }) (List.map (fun p => [V.str (HPair.key p), V.int IntKind.u8 (HPair.kind p), V.int IntKind.i64 (HPair.num p), V.str (HPair.text p)]) l)) (HPair.key p))) (some { v := V.int IntKind.i64 (9 : Int), bx := [] : DRes }) (some { v := V.int IntKind.i64 (0 : Int), bx := [] : DRes })))) (cond (HPair.kind p != (1 : Int)) (cond (!HPair.text p == []) (some { v := V.int IntKind.i64 (4 : Int), bx := [] : DRes }) (cond (Prod.snd (N.find (List.map (fun r => { key := V.toStr (List.getD r (0 : Nat) V.undef), kind := V.toInt (List.getD r (1 : Nat) V.undef), num := V.toInt (List.getD r (2 : Nat) V.undef), text := V.toStr (List.getD r (3 : Nat) V.undef) : HPair }) (List.map (fun p => [V.str (HPair.key p), V.int IntKind.u8 (HPair.kind p), V.int IntKind.i64 (HPair.num p), V.str (HPair.text p)]) l)) (HPair.key p))) (some { v := V.int IntKind.i64 (9 : Int), bx := [] : DRes }) (some { v := V.int IntKind.i64 (0 : Int), bx := [] : DRes }))) (cond (Prod.snd (N.find (List.map (fun r => { key := V.toStr (List.getD r (0 : Nat) V.undef), kind := V.toInt (List.getD r (1 : Nat) V.undef), num := V.toInt (List.getD r (2 : Nat) V.undef), text := V.toStr (List.getD r (3 : Nat) V.undef) : HPair }) (List.map (fun p => [V.str (HPair.key p), V.int IntKind.u8 (HPair.kind p), V.int IntKind.i64 (HPair.num p), V.str (HPair.text p)]) l)) (HPair.key p))) (some { v := V.int IntKind.i64 (9 : Int), bx := [] : DRes }) (some { v := V.int IntKind.i64 (0 : Int), bx := [] : DRes }))))) (cond (HPair.kind p == (1 : Int)) (cond (HPair.num p != (0 : Int)) (cond (HPair.num p != (0 : Int)) (some { v := V.int IntKind.i64 (4 : Int), bx := [] : DRes }) (cond (Prod.snd (N.find (List.map (fun r => { key := V.toStr (List.getD r (0 : Nat) V.undef), kind := V.toInt (List.getD r (1 : Nat) V.undef), num := V.toInt (List.getD r (2 : Nat) V.undef), text := V.toStr (List.getD r (3 : Nat) V.undef) : HPair }) (List.map (fun p => [V.str (HPair.key p), V.int IntKind.u8 (HPair.kind p), V.int IntKind.i64 (HPair.num p), V.str (HPair.text p)]) l)) (HPair.key p))) (some { v := V.int IntKind.i64 (9 : Int), bx := [] : DRes }) (some { v := V.int IntKind.i64 (0 : Int), bx := [] : DRes }))) (cond (HPair.kind p != (1 : Int)) (cond (!HPair.text p == []) (some { v := V.int IntKind.i64 (4 : Int), bx := [] : DRes }) (cond (Prod.snd (N.find (List.map (fun r => { key := V.toStr (List.getD r (0 : Nat) V.undef), kind := V.toInt (List.getD r (1 : Nat) V.undef), num := V.toInt (List.getD r (2 : Nat) V.undef), text := V.toStr (List.getD r (3 : Nat) V.undef) : HPair }) (List.map (fun p => [V.str (HPair.key p), V.int IntKind.u8 (HPair.kind p), V.int IntKind.i64 (HPair.num p), V.str (HPair.text p)]) l)) (HPair.key p))) (some { v := V.int IntKind.i64 (9 : Int), bx := [] : DRes }) (some { v := V.int IntKind.i64 (0 : Int), bx := [] : DRes }))) (cond (Prod.snd (N.find (List.map (fun r => { key := V.toStr (List.getD r (0 : Nat) V.undef), kind := V.toInt (List.getD r (1 : Nat) V.undef), num := V.toInt (List.getD r (2 : Nat) V.undef), text := V.toStr (List.getD r (3 : Nat) V.undef) : HPair }) (List.map (fun p => [V.str (HPair.key p), V.int IntKind.u8 (HPair.kind p), V.int IntKind.i64 (HPair.num p), V.str (HPair.text p)]) l)) (HPair.key p))) (some { v := V.int IntKind.i64 (9 : Int), bx := [] : DRes }) (some { v := V.int IntKind.i64 (0 : Int), bx := [] : DRes })))) (cond (HPair.kind p != (1 : Int)) (cond (!HPair.text p == []) (some { v := V.int IntKind.i64 (4 : Int), bx := [] : DRes }) (cond (Prod.snd (N.find (List.map (fun r => { key := V.toStr (List.getD r (0 : Nat) V.undef), kind := V.toInt (List.getD r (1 : Nat) V.undef), num := V.toInt (List.getD r (2 : Nat) V.undef), text := V.toStr (List.getD r (3 : Nat) V.undef) : HPair }) (List.map (fun p => [V.str (HPair.key p), V.int IntKind.u8 (HPair.kind p), V.int IntKind.i64 (HPair.num p), V.str (HPair.text p)]) l)) (HPair.key p))) (some { v := V.int IntKind.i64 (9 : Int), bx := [] : DRes }) (some { v := V.int IntKind.i64 (0 : Int), bx := [] : DRes }))) (cond (Prod.snd (N.find (List.map (fun r => { key := V.toStr (List.getD r (0 : Nat) V.undef), kind := V.toInt (List.getD r (1 : Nat) V.undef), num := V.toInt (List.getD r (2 : Nat) V.undef), text := V.toStr (List.getD r (3 : Nat) V.undef) : HPair }) (List.map (fun p => [V.str (HPair.key p), V.int IntKind.u8 (HPair.kind p), V.int IntKind.i64 (HPair.num p), V.str (HPair.text p)]) l)) (HPair.key p))) (some { v := V.int IntKind.i64 (9 : Int), bx := [] : DRes }) (some { v := V.int IntKind.i64 (0 : Int), bx := [] : DRes }))))) (cond (HPair.kind p == (1 : Int)) (cond (HPair.num p != (0 : Int)) (cond (HPair.num p != (0 : Int)) (some { v := V.int IntKind.i64 (4 : Int), bx := [] : DRes }) (cond (Prod.snd (N.find (List.map (fun r => { key := V.toStr (List.getD r (0 : Nat) V.undef), kind := V.toInt (List.getD r (1 : Nat) V.undef), num := V.toInt (List.getD r (2 : Nat) V.undef), text := V.toStr (List.getD r (3 : Nat) V.undef) : HPair }) (List.map (fun p => [V.str (HPair.key p), V.int IntKind.u8 (HPair.kind p), V.int IntKind.i64 (HPair.num p), V.str (HPair.text p)]) l)) (HPair.key p))) (some { v := V.int IntKind.i64 (9 : Int), bx := [] : DRes }) (some { v := V.int IntKind.i64 (0 : Int), bx := [] : DRes }))) (cond (HPair.kind p != (1 : Int)) (cond (!HPair.text p == []) (some { v := V.int IntKind.i64 (4 : Int), bx := [] : DRes }) (cond (Prod.snd (N.find (List.map (fun r => { key := V.toStr (List.getD r (0 : Nat) V.undef), kind := V.toInt (List.getD r (1 : Nat) V.undef), num := V.toInt (List.getD r (2 : Nat) V.undef), text := V.toStr (List.getD r (3 : Nat) V.undef) : HPair }) (List.map (fun p => [V.str (HPair.key p), V.int IntKind.u8 (HPair.kind p), V.int IntKind.i64 (HPair.num p), V.str (HPair.text p)]) l)) (HPair.key p))) (some { v := V.int IntKind.i64 (9 : Int), bx := [] : DRes }) (some { v := V.int IntKind.i64 (0 : Int), bx := [] : DRes }))) (cond (Prod.snd (N.find (List.map (fun r => { key := V.toStr (List.getD r (0 : Nat) V.undef), kind := V.toInt (List.getD r (1 : Nat) V.undef), num := V.toInt (List.getD r (2 : Nat) V.undef), text := V.toStr (List.getD r (3 : Nat) V.undef) : HPair }) (List.map (fun p => [V.str (HPair.key p), V.int IntKind.u8 (HPair.kind p), V.int IntKind.i64 (HPair.num p), V.str (HPair.text p)]) l)) (HPair.key p))) (some { v := V.int IntKind.i64 (9 : Int), bx := [] : DRes }) (some { v := V.int IntKind.i64 (0 : Int), bx := [] : DRes })))) (cond (HPair.kind p != (1 : Int)) (cond (!HPair.text p == []) (some { v := V.int IntKind.i64 (4 : Int), bx := [] : DRes }) (cond (Prod.snd (N.find (List.map (fun r => { key := V.toStr (List.getD r (0 : Nat) V.undef), kind := V.toInt (List.getD r (1 : Nat) V.undef), num := V.toInt (List.getD r (2 : Nat) V.undef), text := V.toStr (List.getD r (3 : Nat) V.undef) : HPair }) (List.map (fun p => [V.str (HPair.key p), V.int IntKind.u8 (HPair.kind p), V.int IntKind.i64 (HPair.num p), V.str (HPair.text p)]) l)) (HPair.key p))) (some { v := V.int IntKind.i64 (9 : Int), bx := [] : DRes }) (some { v := V.int IntKind.i64 (0 : Int), bx := [] : DRes }))) (cond (Prod.snd (N.find (List.map (fun r => { key := V.toStr (List.getD r (0 : Nat) V.undef), kind := V.toInt (List.getD r (1 : Nat) V.undef), num := V.toInt (List.getD r (2 : Nat) V.undef), text := V.toStr (List.getD r (3 : Nat) V.undef) : HPair }) (List.map (fun p => [V.str (HPair.key p), V.int IntKind.u8 (HPair.kind p), V.int IntKind.i64 (HPair.num p), V.str (HPair.text p)]) l)) (HPair.key p))) (some { v := V.int IntKind.i64 (9 : Int), bx := [] : DRes }) (some { v := V.int IntKind.i64 (0 : Int), bx := [] : DRes }))))))) (none)) := by kernel_rfl
theorem ok_pairE : FnOk Tryd.prog 86 dPairE := by
  refine den_okF (env_ok (((TOk.nil _).cons ok_find).cons ok_name)) (E := ePairE) Tryd.func86 [] (by kernel_rfl) none0 fun a _ h => ?_
  obtain ⟨p, l⟩ := a
  have h : l.length ≤ 1000000 := ble_of h
  refine (q_pairE p l).trans ?_
  show _ = some (⟨.int .i64 (N.pairE p l), [], []⟩ : DRes)
  unfold N.pairE
  simp (disch := omega) only [evs, pairs_enc, bne]
  cases N.name p.key == 0 with
  | false => rfl
  | true =>
    cases ilt 2 p.kind with
    | true => rfl
    | false =>
      cases h1 : p.kind == 1 <;> cases ilt 64 p.text.length <;> cases p.kind == 2 <;> cases p.num == 0 <;> cases p.num == 1 <;> cases p.text == [] <;> cases (N.find l p.key).2 <;> rfl
def schHeadCheck : SSch := { fr := [(0, .slc [.str, .int .u8, .int .i64, .str]), (9, .slc [.str, .int .u8, .int .i64, .str]), (10, .int .i64), (11, .int .i64)], tab := [] }
def gHeadCheck : List Leaf → (Ex → St → Option R) → Option R
  | [.r r0, .r r9, .i i10, .i i11], K => cond (i10 == r9.length) (cond (Nat.beq r0.length r9.length) (cond (ile 0 i11) (cond (Nat.ble r0.length LIM) (cond (N.samePs (rowsP r0) (rowsP r9))
      (cond (N.checkFrom (rowsP r9) (r9.length - i11.toNat) i11 != 0) (K .ret { fr := [(2, .int .i64 (N.checkFrom (rowsP r9) (r9.length - i11.toNat) i11))], tab := [] }) (K (.exit 0) { fr := [], tab := [] })) none) none) none) none) none
  | _, _ => none
noncomputable def eHeadCheck : Env := env Tryd.prog [(86, dPairE)] [(4, loopF schHeadCheck gHeadCheck)] [(4, [(0, [0, 9, 10, 11]), (1, []), (1000, [2])])]
theorem q_headCheck (h : List HPair) : evFn eHeadCheck 51 ((aOne (vSl cPair)).enc h) ([]) some =
 cond (ilt (8 : Int) (↑(List.length (List.map (fun p => [V.str (HPair.key p), V.int IntKind.u8 (HPair.kind p), V.int IntKind.i64 (HPair.num p), V.str (HPair.text p)]) h)) : Int)) (some { v := V.int IntKind.i64 (6 : Int), bx := [] : DRes }) (cond ((↑(List.length (List.map (fun p => [V.str (HPair.key p), V.int IntKind.u8 (HPair.kind p), V.int IntKind.i64 (HPair.num p), V.str (HPair.text p)]) h)) : Int) == (↑(List.length (List.map (fun p => [V.str (HPair.key p), V.int IntKind.u8 (HPair.kind p), V.int IntKind.i64 (HPair.num p), V.str (HPair.text p)]) h)) : Int)) (cond (Nat.beq (List.length (List.map (fun p => [V.str (HPair.key p), V.int IntKind.u8 (HPair.kind p), V.int IntKind.i64 (HPair.num p), V.str (HPair.text p)]) h)) (List.length (List.map (fun p => [V.str (HPair.key p), V.int IntKind.u8 (HPair.kind p), V.int IntKind.i64 (HPair.num p), V.str (HPair.text p)]) h))) (cond (Nat.ble (List.length (List.map (fun p => [V.str (HPair.key p), V.int IntKind.u8 (HPair.kind p), V.int IntKind.i64 (HPair.num p), V.str (HPair.text p)]) h)) (1000000 : Nat)) (cond (N.samePs (List.map (fun r => { key := V.toStr (List.getD r (0 : Nat) V.undef), kind := V.toInt (List.getD r (1 : Nat) V.undef), num := V.toInt (List.getD r (2 : Nat) V.undef), text := V.toStr (List.getD r (3 : Nat) V.undef) : HPair }) (List.map (fun p => [V.str (HPair.key p), V.int IntKind.u8 (HPair.kind p), V.int IntKind.i64 (HPair.num p), V.str (HPair.text p)]) h)) (List.map (fun r => { key := V.toStr (List.getD r (0 : Nat) V.undef), kind := V.toInt (List.getD r (1 : Nat) V.undef), num := V.toInt (List.getD r (2 : Nat) V.undef), text := V.toStr (List.getD r (3 : Nat) V.undef) : HPair }) (List.map (fun p => [V.str (HPair.key p), V.int IntKind.u8 (HPair.kind p), V.int IntKind.i64 (HPair.num p), V.str (HPair.text p)]) h))) (cond (N.checkFrom (List.map (fun r => { key := V.toStr (List.getD r (0 : Nat) V.undef), kind := V.toInt (List.getD r (1 : Nat) V.undef), num := V.toInt (List.getD r (2 : Nat) V.undef), text := V.toStr (List.getD r (3 : Nat) V.undef) : HPair }) (List.map (fun p => [V.str (HPair.key p), V.int IntKind.u8 (HPair.kind p), V.int IntKind.i64 (HPair.num p), V.str (HPair.text p)]) h)) (List.length (List.map (fun p => [V.str (HPair.key p), V.int IntKind.u8 (HPair.kind p), V.int IntKind.i64 (HPair.num p), V.str (HPair.text p)]) h) - (0 : Nat)) (0 : Int) != (0 : Int)) (some { v := V.int IntKind.i64 (N.checkFrom (List.map (fun r => { key := V.toStr (List.getD r (0 : Nat) V.undef), kind := V.toInt (List.getD r (1 : Nat) V.undef), num := V.toInt (List.getD r (2 : Nat) V.undef), text := V.toStr (List.getD r (3 : Nat) V.undef) : HPair }) (List.map (fun p => [V.str (HPair.key p), V.int IntKind.u8 (HPair.kind p), V.int IntKind.i64 (HPair.num p), V.str (HPair.text p)]) h)) (List.length (List.map (fun p => [V.str (HPair.key p), V.int IntKind.u8 (HPair.kind p), V.int IntKind.i64 (HPair.num p), V.str (HPair.text p)]) h) - (0 : Nat)) (0 : Int)), bx := [] : DRes }) (some { v := V.int IntKind.i64 (0 : Int), bx := [] : DRes })) (none)) (none)) (none)) (none)) := by kernel_rfl
theorem q_headCheckR (r0 : List (List V)) (r9 : List (List V)) (i11 : Int) (K : Ex → St → Option R) : evRound eHeadCheck 51 4 { fr := [(0, .slc [.str, .int .u8, .int .i64, .str] r0), (9, .slc [.str, .int .u8, .int .i64, .str] r9), (10, .int .i64 r9.length), (11, .int .i64 i11)], tab := [] } K =
 cond (ilt i11 (↑(List.length r9) : Int)) (cond (decide ((0 : Int) ≤ i11 ∧ i11 < (↑(List.length r9) : Int))) (cond (decide ((0 : Int) ≤ i11 ∧ i11 ≤ (↑(List.length r0) : Int))) (cond (Nat.ble (List.length (List.map (fun r => { key := V.toStr (List.getD r (0 : Nat) V.undef), kind := V.toInt (List.getD r (1 : Nat) V.undef), num := V.toInt (List.getD r (2 : Nat) V.undef), text := V.toStr (List.getD r (3 : Nat) V.undef) : HPair }) (List.drop (0 : Nat) (List.take (Int.toNat i11) r0)))) (1000000 : Nat)) (cond (N.pairE { key := V.toStr (List.getD (List.getD r9 (Int.toNat i11) []) (0 : Nat) V.undef), kind := V.toInt (List.getD (List.getD r9 (Int.toNat i11) []) (1 : Nat) V.undef), num := V.toInt (List.getD (List.getD r9 (Int.toNat i11) []) (2 : Nat) V.undef), text := V.toStr (List.getD (List.getD r9 (Int.toNat i11) []) (3 : Nat) V.undef) : HPair } (List.map (fun r => { key := V.toStr (List.getD r (0 : Nat) V.undef), kind := V.toInt (List.getD r (1 : Nat) V.undef), num := V.toInt (List.getD r (2 : Nat) V.undef), text := V.toStr (List.getD r (3 : Nat) V.undef) : HPair }) (List.drop (0 : Nat) (List.take (Int.toNat i11) r0))) != (0 : Int)) (K Ex.ret { fr := [((2 : Nat), V.int IntKind.i64 (N.pairE { key := V.toStr (List.getD (List.getD r9 (Int.toNat i11) []) (0 : Nat) V.undef), kind := V.toInt (List.getD (List.getD r9 (Int.toNat i11) []) (1 : Nat) V.undef), num := V.toInt (List.getD (List.getD r9 (Int.toNat i11) []) (2 : Nat) V.undef), text := V.toStr (List.getD (List.getD r9 (Int.toNat i11) []) (3 : Nat) V.undef) : HPair } (List.map (fun r => { key := V.toStr (List.getD r (0 : Nat) V.undef), kind := V.toInt (List.getD r (1 : Nat) V.undef), num := V.toInt (List.getD r (2 : Nat) V.undef), text := V.toStr (List.getD r (3 : Nat) V.undef) : HPair }) (List.drop (0 : Nat) (List.take (Int.toNat i11) r0)))))], tab := [] : St }) (K Ex.normal { fr := [((0 : Nat), V.slc [Sh.str, Sh.int IntKind.u8, Sh.int IntKind.i64, Sh.str] r0), ((9 : Nat), V.slc [Sh.str, Sh.int IntKind.u8, Sh.int IntKind.i64, Sh.str] r9), ((10 : Nat), V.int IntKind.i64 (↑(List.length r9) : Int)), ((11 : Nat), V.int IntKind.i64 (IntKind.wrap IntKind.i64 (i11 + (1 : Int))))], tab := [] : St })) (none)) (none)) (none)) (K (Ex.exit (0 : Nat)) { fr := [], tab := [] : St }) := by kernel_rfl
theorem samePs_refl : ∀ l, N.samePs l l = true
  | [] => rfl
  | p :: l => by
    unfold N.samePs N.eqP
    rw [samePs_refl l]; simp
theorem eqP_eq {p q : HPair} (h : N.eqP p q = true) : p = q := by
  unfold N.eqP at h
  simp only [Bool.and_eq_true, beq_iff_eq, and_true] at h
  cases p; cases q; simp_all
theorem samePs_eq : ∀ {a b : List HPair}, N.samePs a b = true → a = b
  | [], [], _ => rfl
  | [], _ :: _, h => by cases h
  | _ :: _, [], h => by cases h
  | p :: a, q :: b, h => by
    unfold N.samePs at h
    cases e : N.eqP p q with
    | true => rw [e, cond_true] at h; rw [eqP_eq e, samePs_eq h]
    | false => rw [e] at h; cases h
theorem ok_headCheck : FnOk Tryd.prog 51 dHeadCheck := by
  refine den_okF (env_ok ((TOk.nil _).cons ok_pairE)) (E := eHeadCheck) Tryd.func51 [4] (by kernel_rfl) (one1 (rounds_of rfl fun l K q h => ?_)) fun h _ _ => ?_
  · unfold gHeadCheck at h
    split at h
    · rename_i r0 r n i
      have h1 := (cond_none h).1; replace h := (cond_none h).2; have h2 := (cond_none h).1; replace h := (cond_none h).2; have h3 := (cond_none h).1; replace h := (cond_none h).2; have h4 := (cond_none h).1; replace h := (cond_none h).2; have h5 := (cond_none h).1; replace h := (cond_none h).2
      have e1 := ieq_of h1
      subst e1
      have h2 := Nat.eq_of_beq_eq_true h2
      have h4 : r0.length ≤ 1000000 := ble_of h4
      have h5 := samePs_eq h5
      refine loop_ind (E := eHeadCheck) (f := 51) (id := 4) (fun i : Int => { fr := [(0, .slc [.str, .int .u8, .int .i64, .str] r0), (9, .slc [.str, .int .u8, .int .i64, .str] r), (10, .int .i64 r.length), (11, .int .i64 i)], tab := [] }) (fun i => 0 ≤ i) (fun i => r.length - i.toNat)
        (fun i11 K => cond (N.checkFrom (rowsP r) (r.length - i11.toNat) i11 != 0) (K .ret { fr := [(2, .int .i64 (N.checkFrom (rowsP r) (r.length - i11.toNat) i11))], tab := [] }) (K (.exit 0) { fr := [], tab := [] })) (fun i hi => ?_) i (ile_of h3) K q (by assumption)
      by_cases hl : i < r.length
      · have e : N.checkFrom (rowsP r) (r.length - i.toNat) i = cond (N.pairE (rowP (r.getD i.toNat [])) ((rowsP r).take i.toNat) != 0) (N.pairE (rowP (r.getD i.toNat [])) ((rowsP r).take i.toNat)) (N.checkFrom (rowsP r) (r.length - (i + 1).toNat) (i + 1)) := by
          rw [show r.length - i.toNat = (r.length - (i + 1).toNat) + 1 by omega, N.checkFrom, rowsP_getD]
        rw [e]
        have hm : List.map rowP (List.take i.toNat r0) = (rowsP r).take i.toNat := by rw [← h5, rowsP, List.map_take]
        unfold rowP at hm
        cases hc : N.pairE (rowP (r.getD i.toNat [])) ((rowsP r).take i.toNat) != 0 with
        | true =>
          rw [cond_true, hc]
          refine .inr ⟨.ret, _, by simp, fun K => ?_, fun K => rfl⟩
          rw [q_headCheckR]
          unfold rowP at hc
          simp (disch := omega) only [evs, hc, hm, List.length_take, List.drop_zero]
          rfl
        | false =>
          refine .inl ⟨i + 1, by omega, by omega, fun K => ?_, fun K => ?_⟩
          · rw [q_headCheckR]
            unfold rowP at hc
            simp (disch := omega) only [evs, hc, hm, List.length_take, List.drop_zero]
          · rw [cond_false]
      · refine .inr ⟨.exit 0, { fr := [], tab := [] }, by simp, fun K => ?_, fun K => ?_⟩
        · rw [q_headCheckR]
          simp (disch := omega) only [evs]
        · rw [show r.length - i.toNat = 0 by omega]; rfl
    · cases h
  · refine (q_headCheck h).trans ?_
    show _ = some (⟨.int .i64 (N.headCheck h), [], []⟩ : DRes)
    unfold N.headCheck
    by_cases hl : 8 < h.length
    · simp (disch := omega) only [evs]
    · simp (disch := omega) only [evs, pairs_enc, samePs_refl, Nat.sub_zero]
      cases hc : N.checkFrom h h.length 0 != 0 with
      | true => rfl
      | false =>
        have : N.checkFrom h h.length 0 = 0 := by simpa using hc
        rw [this]; rfl
def schHeadBytes : SSch := { fr := [(5, .ptr 10000 0 0), (18, .slc [.str, .int .u8, .int .i64, .str]), (19, .int .i64), (20, .int .i64)], tab := [(10000, .var [.str, .int .i64])] }
def gHeadBytes : List Leaf → (Ex → St → Option R) → Option R
  | [.r r, .i n, .i i, .s s, .i e], K => cond (n == r.length) (cond (e == 0) (cond (ile 0 i) (cond (Nat.ble r.length 8) (cond ((rowsP r).all N.fitP) (cond (ile s.length (1 + 150 * i))
      (K (.exit 0) { fr := [(5, .ptr 10000 0 0 0)], tab := [(10000, .var [.str (s ++ N.pairsB ((rowsP r).drop i.toNat)), .int .i64 0])] }) none) none) none) none) none) none
  | _, _ => none
noncomputable def eHeadBytes : Env := env Tryd.prog [(51, dHeadCheck), (75, dOutNum), (76, dOutText), (78, dOutString)] [(6, loopF schHeadBytes gHeadBytes)] [(6, [(0, [5, 18, 19, 20]), (1, [5]), (1000, [2, 3])])]
theorem q_headBytes (h : List HPair) : evFn eHeadBytes 74 ((aOne (vSl cPair)).enc h) ([]) some =
 cond (N.headCheck (List.map (fun r => { key := V.toStr (List.getD r (0 : Nat) V.undef), kind := V.toInt (List.getD r (1 : Nat) V.undef), num := V.toInt (List.getD r (2 : Nat) V.undef), text := V.toStr (List.getD r (3 : Nat) V.undef) : HPair }) (List.map (fun p => [V.str (HPair.key p), V.int IntKind.u8 (HPair.kind p), V.int IntKind.i64 (HPair.num p), V.str (HPair.text p)]) h)) != (0 : Int)) (some { v := V.tup [V.str [], V.int IntKind.i64 (N.headCheck (List.map (fun r => { key := V.toStr (List.getD r (0 : Nat) V.undef), kind := V.toInt (List.getD r (1 : Nat) V.undef), num := V.toInt (List.getD r (2 : Nat) V.undef), text := V.toStr (List.getD r (3 : Nat) V.undef) : HPair }) (List.map (fun p => [V.str (HPair.key p), V.int IntKind.u8 (HPair.kind p), V.int IntKind.i64 (HPair.num p), V.str (HPair.text p)]) h)))], bx := [] : DRes }) (cond (bif ilt (IntKind.wrap IntKind.u64 (↑(List.length (List.map (fun p => [V.str (HPair.key p), V.int IntKind.u8 (HPair.kind p), V.int IntKind.i64 (HPair.num p), V.str (HPair.text p)]) h)) : Int)) (18446744073709551616 : Int) then true else false) (cond ((↑(List.length (List.map (fun p => [V.str (HPair.key p), V.int IntKind.u8 (HPair.kind p), V.int IntKind.i64 (HPair.num p), V.str (HPair.text p)]) h)) : Int) == (↑(List.length (List.map (fun p => [V.str (HPair.key p), V.int IntKind.u8 (HPair.kind p), V.int IntKind.i64 (HPair.num p), V.str (HPair.text p)]) h)) : Int)) (cond (Nat.ble (List.length (List.map (fun p => [V.str (HPair.key p), V.int IntKind.u8 (HPair.kind p), V.int IntKind.i64 (HPair.num p), V.str (HPair.text p)]) h)) (8 : Nat)) (cond (List.all (List.map (fun r => { key := V.toStr (List.getD r (0 : Nat) V.undef), kind := V.toInt (List.getD r (1 : Nat) V.undef), num := V.toInt (List.getD r (2 : Nat) V.undef), text := V.toStr (List.getD r (3 : Nat) V.undef) : HPair }) (List.map (fun p => [V.str (HPair.key p), V.int IntKind.u8 (HPair.kind p), V.int IntKind.i64 (HPair.num p), V.str (HPair.text p)]) h)) N.fitP) (some { v := V.tup [V.str (OutS.s (N.outNum { s := [], err := (0 : Int) : OutS } (IntKind.wrap IntKind.u64 (↑(List.length (List.map (fun p => [V.str (HPair.key p), V.int IntKind.u8 (HPair.kind p), V.int IntKind.i64 (HPair.num p), V.str (HPair.text p)]) h)) : Int)) (1 : Int)) ++ N.pairsB (List.drop (0 : Nat) (List.map (fun r => { key := V.toStr (List.getD r (0 : Nat) V.undef), kind := V.toInt (List.getD r (1 : Nat) V.undef), num := V.toInt (List.getD r (2 : Nat) V.undef), text := V.toStr (List.getD r (3 : Nat) V.undef) : HPair }) (List.map (fun p => [V.str (HPair.key p), V.int IntKind.u8 (HPair.kind p), V.int IntKind.i64 (HPair.num p), V.str (HPair.text p)]) h)))), V.int IntKind.i64 (0 : Int)], bx := [] : DRes }) (none)) (none)) (none)) (none)) := by kernel_rfl
theorem q_headBytesR (r : List (List V)) (i : Int) (s : Bytes) (K : Ex → St → Option R) : evRound eHeadBytes 74 6 { fr := [(5, .ptr 10000 0 0 0), (18, .slc [.str, .int .u8, .int .i64, .str] r), (19, .int .i64 r.length), (20, .int .i64 i)], tab := [(10000, .var [.str s, .int .i64 0])] } K =
 cond (ilt i (↑(List.length r) : Int)) (cond (decide ((0 : Int) ≤ i ∧ i < (↑(List.length r) : Int))) (cond (Nat.ble (List.length s + List.length (V.toStr (List.getD (List.getD r (Int.toNat i) []) (0 : Nat) V.undef))) (9223372036854775790 : Nat)) (cond (bif ile (0 : Int) (IntKind.wrap IntKind.u64 (V.toInt (List.getD (List.getD r (Int.toNat i) []) (1 : Nat) V.undef))) then bif ilt (IntKind.wrap IntKind.u64 (V.toInt (List.getD (List.getD r (Int.toNat i) []) (1 : Nat) V.undef))) (18446744073709551616 : Int) then Nat.ble (List.length (OutS.s (N.outText { s := s, err := (0 : Int) : OutS } (V.toStr (List.getD (List.getD r (Int.toNat i) []) (0 : Nat) V.undef))))) (9223372036854775799 : Nat) else false else false) (cond (V.toInt (List.getD (List.getD r (Int.toNat i) []) (1 : Nat) V.undef) == (0 : Int)) (cond (bif ile (0 : Int) (IntKind.wrap IntKind.u64 (V.toInt (List.getD (List.getD r (Int.toNat i) []) (2 : Nat) V.undef))) then bif ilt (IntKind.wrap IntKind.u64 (V.toInt (List.getD (List.getD r (Int.toNat i) []) (2 : Nat) V.undef))) (18446744073709551616 : Int) then Nat.ble (List.length (OutS.s (N.outNum (N.outText { s := s, err := (0 : Int) : OutS } (V.toStr (List.getD (List.getD r (Int.toNat i) []) (0 : Nat) V.undef))) (IntKind.wrap IntKind.u64 (V.toInt (List.getD (List.getD r (Int.toNat i) []) (1 : Nat) V.undef))) (1 : Int)))) (9223372036854775799 : Nat) else false else false) (K Ex.normal { fr := [((5 : Nat), V.ptr (10000 : Nat) (0 : Nat) (0 : Nat) (0 : Nat)), ((18 : Nat), V.slc [Sh.str, Sh.int IntKind.u8, Sh.int IntKind.i64, Sh.str] r), ((19 : Nat), V.int IntKind.i64 (↑(List.length r) : Int)), ((20 : Nat), V.int IntKind.i64 (IntKind.wrap IntKind.i64 (i + (1 : Int))))], tab := [((10000 : Nat), Box.var [V.str (OutS.s (N.outNum (N.outNum (N.outText { s := s, err := (0 : Int) : OutS } (V.toStr (List.getD (List.getD r (Int.toNat i) []) (0 : Nat) V.undef))) (IntKind.wrap IntKind.u64 (V.toInt (List.getD (List.getD r (Int.toNat i) []) (1 : Nat) V.undef))) (1 : Int)) (IntKind.wrap IntKind.u64 (V.toInt (List.getD (List.getD r (Int.toNat i) []) (2 : Nat) V.undef))) (8 : Int))), V.int IntKind.i64 (OutS.err (N.outNum (N.outNum (N.outText { s := s, err := (0 : Int) : OutS } (V.toStr (List.getD (List.getD r (Int.toNat i) []) (0 : Nat) V.undef))) (IntKind.wrap IntKind.u64 (V.toInt (List.getD (List.getD r (Int.toNat i) []) (1 : Nat) V.undef))) (1 : Int)) (IntKind.wrap IntKind.u64 (V.toInt (List.getD (List.getD r (Int.toNat i) []) (2 : Nat) V.undef))) (8 : Int)))])] : St }) (none)) (cond (V.toInt (List.getD (List.getD r (Int.toNat i) []) (1 : Nat) V.undef) == (1 : Int)) (cond (Nat.ble (List.length (OutS.s (N.outNum (N.outText { s := s, err := (0 : Int) : OutS } (V.toStr (List.getD (List.getD r (Int.toNat i) []) (0 : Nat) V.undef))) (IntKind.wrap IntKind.u64 (V.toInt (List.getD (List.getD r (Int.toNat i) []) (1 : Nat) V.undef))) (1 : Int))) + List.length (V.toStr (List.getD (List.getD r (Int.toNat i) []) (3 : Nat) V.undef))) (9223372036854775790 : Nat)) (K Ex.normal { fr := [((5 : Nat), V.ptr (10000 : Nat) (0 : Nat) (0 : Nat) (0 : Nat)), ((18 : Nat), V.slc [Sh.str, Sh.int IntKind.u8, Sh.int IntKind.i64, Sh.str] r), ((19 : Nat), V.int IntKind.i64 (↑(List.length r) : Int)), ((20 : Nat), V.int IntKind.i64 (IntKind.wrap IntKind.i64 (i + (1 : Int))))], tab := [((10000 : Nat), Box.var [V.str (OutS.s (N.outText (N.outNum (N.outText { s := s, err := (0 : Int) : OutS } (V.toStr (List.getD (List.getD r (Int.toNat i) []) (0 : Nat) V.undef))) (IntKind.wrap IntKind.u64 (V.toInt (List.getD (List.getD r (Int.toNat i) []) (1 : Nat) V.undef))) (1 : Int)) (V.toStr (List.getD (List.getD r (Int.toNat i) []) (3 : Nat) V.undef)))), V.int IntKind.i64 (OutS.err (N.outText (N.outNum (N.outText { s := s, err := (0 : Int) : OutS } (V.toStr (List.getD (List.getD r (Int.toNat i) []) (0 : Nat) V.undef))) (IntKind.wrap IntKind.u64 (V.toInt (List.getD (List.getD r (Int.toNat i) []) (1 : Nat) V.undef))) (1 : Int)) (V.toStr (List.getD (List.getD r (Int.toNat i) []) (3 : Nat) V.undef))))])] : St }) (none)) (cond (V.toInt (List.getD (List.getD r (Int.toNat i) []) (1 : Nat) V.undef) == (2 : Int)) (cond (bif ile (0 : Int) (IntKind.wrap IntKind.u64 (V.toInt (List.getD (List.getD r (Int.toNat i) []) (2 : Nat) V.undef))) then bif ilt (IntKind.wrap IntKind.u64 (V.toInt (List.getD (List.getD r (Int.toNat i) []) (2 : Nat) V.undef))) (18446744073709551616 : Int) then Nat.ble (List.length (OutS.s (N.outNum (N.outText { s := s, err := (0 : Int) : OutS } (V.toStr (List.getD (List.getD r (Int.toNat i) []) (0 : Nat) V.undef))) (IntKind.wrap IntKind.u64 (V.toInt (List.getD (List.getD r (Int.toNat i) []) (1 : Nat) V.undef))) (1 : Int)))) (9223372036854775799 : Nat) else false else false) (K Ex.normal { fr := [((5 : Nat), V.ptr (10000 : Nat) (0 : Nat) (0 : Nat) (0 : Nat)), ((18 : Nat), V.slc [Sh.str, Sh.int IntKind.u8, Sh.int IntKind.i64, Sh.str] r), ((19 : Nat), V.int IntKind.i64 (↑(List.length r) : Int)), ((20 : Nat), V.int IntKind.i64 (IntKind.wrap IntKind.i64 (i + (1 : Int))))], tab := [((10000 : Nat), Box.var [V.str (OutS.s (N.outNum (N.outNum (N.outText { s := s, err := (0 : Int) : OutS } (V.toStr (List.getD (List.getD r (Int.toNat i) []) (0 : Nat) V.undef))) (IntKind.wrap IntKind.u64 (V.toInt (List.getD (List.getD r (Int.toNat i) []) (1 : Nat) V.undef))) (1 : Int)) (IntKind.wrap IntKind.u64 (V.toInt (List.getD (List.getD r (Int.toNat i) []) (2 : Nat) V.undef))) (1 : Int))), V.int IntKind.i64 (OutS.err (N.outNum (N.outNum (N.outText { s := s, err := (0 : Int) : OutS } (V.toStr (List.getD (List.getD r (Int.toNat i) []) (0 : Nat) V.undef))) (IntKind.wrap IntKind.u64 (V.toInt (List.getD (List.getD r (Int.toNat i) []) (1 : Nat) V.undef))) (1 : Int)) (IntKind.wrap IntKind.u64 (V.toInt (List.getD (List.getD r (Int.toNat i) []) (2 : Nat) V.undef))) (1 : Int)))])] : St }) (none)) (K Ex.normal { fr := [((5 : Nat), V.ptr (10000 : Nat) (0 : Nat) (0 : Nat) (0 : Nat)), ((18 : Nat), V.slc [Sh.str, Sh.int IntKind.u8, Sh.int IntKind.i64, Sh.str] r), ((19 : Nat), V.int IntKind.i64 (↑(List.length r) : Int)), ((20 : Nat), V.int IntKind.i64 (IntKind.wrap IntKind.i64 (i + (1 : Int))))], tab := [((10000 : Nat), Box.var [V.str (OutS.s (N.outNum (N.outText { s := s, err := (0 : Int) : OutS } (V.toStr (List.getD (List.getD r (Int.toNat i) []) (0 : Nat) V.undef))) (IntKind.wrap IntKind.u64 (V.toInt (List.getD (List.getD r (Int.toNat i) []) (1 : Nat) V.undef))) (1 : Int))), V.int IntKind.i64 (OutS.err (N.outNum (N.outText { s := s, err := (0 : Int) : OutS } (V.toStr (List.getD (List.getD r (Int.toNat i) []) (0 : Nat) V.undef))) (IntKind.wrap IntKind.u64 (V.toInt (List.getD (List.getD r (Int.toNat i) []) (1 : Nat) V.undef))) (1 : Int)))])] : St })))) (none)) (none)) (none)) (K (Ex.exit (0 : Nat)) { fr := [((5 : Nat), V.ptr (10000 : Nat) (0 : Nat) (0 : Nat) (0 : Nat))], tab := [((10000 : Nat), Box.var [V.str s, V.int IntKind.i64 (0 : Int)])] : St }) := by kernel_rfl
theorem pairE_fit {p : HPair} {l : List HPair} (h : N.pairE p l = 0) : N.fitP p = true := by
  unfold N.pairE at h
  cases h1 : N.name p.key != 0 with
  | true => rw [h1, cond_true] at h; rw [h] at h1; cases h1
  | false =>
    have hk : p.key.length ≤ 16 := by
      unfold N.name at h1
      cases e1 : p.key == [] with
      | true => rw [e1] at h1; cases h1
      | false =>
        rw [e1] at h1
        cases e2 : ilt 16 p.key.length with
        | true => rw [e2] at h1; cases h1
        | false => have := ilt_nof e2; omega
    rw [h1] at h
    simp only [cond_false, bne] at h
    have ht : p.text.length ≤ 64 := by
      cases h2 : ilt 2 p.kind with
      | true => rw [h2] at h; cases h
      | false =>
        rw [h2] at h
        cases e1 : p.kind == 1 with
        | true =>
          rw [e1] at h
          cases e2 : ilt 64 p.text.length with
          | true => rw [e2] at h; cases h
          | false => have := ilt_nof e2; omega
        | false =>
          rw [e1] at h
          cases e2 : p.text == [] with
          | true => have : p.text = [] := by simpa using e2
                    rw [this]; exact Nat.zero_le _
          | false =>
            rw [e2] at h
            simp only [cond_false, cond_true, Bool.not_false] at h
            revert h
            cases (cond (cond (p.kind == 2) (!p.num == 0) false) (!p.num == 1) false) <;> intro h <;> cases h
    show cond (Nat.ble p.key.length 64) (Nat.ble p.text.length 64) false = true
    rw [ble_t (by omega), ble_t ht]; rfl
theorem checkFrom_fit (h : List HPair) : ∀ (f : Nat) (i : Int), 0 ≤ i → N.checkFrom h f i = 0 → ∀ j : Nat, i ≤ j → (j : Int) < i + f → N.fitP (h.getD j pair0) = true
  | 0, i, _, _, j, h1, h2 => by omega
  | f + 1, i, h0, hc, j, h1, h2 => by
    unfold N.checkFrom at hc
    cases e : N.pairE (h.getD i.toNat pair0) (h.take i.toNat) != 0 with
    | true => rw [e, cond_true] at hc; rw [hc] at e; cases e
    | false =>
      rw [e] at hc
      by_cases hj : (j : Int) = i
      · have : j = i.toNat := by omega
        rw [this]; exact pairE_fit (by simpa using e)
      · exact checkFrom_fit h f (i + 1) (by omega) hc j (by omega) (by omega)
theorem check_fit {h : List HPair} (hz : N.headCheck h = 0) : h.length ≤ 8 ∧ h.all N.fitP = true := by
  unfold N.headCheck at hz
  cases e : ilt 8 h.length with
  | true => rw [e] at hz; cases hz
  | false =>
    have e' := ilt_nof e
    rw [e] at hz
    refine ⟨by omega, List.all_eq_true.2 fun p hp => ?_⟩
    obtain ⟨j, hj, rfl⟩ := List.getElem_of_mem hp
    have := checkFrom_fit h h.length 0 (Int.le_refl _) hz j (by omega) (by omega)
    rwa [List.getD_eq_getElem?_getD, List.getElem?_eq_getElem hj] at this
theorem wu64 (x : Int) : 0 ≤ IntKind.wrap .u64 x ∧ IntKind.wrap .u64 x < 18446744073709551616 := by
  simp only [IntKind.wrap, IntKind.signed, IntKind.bits]
  simp
  omega
theorem numB_len (n : Int) : ∀ k, (N.numB n k).length = k
  | 0 => rfl
  | k + 1 => by simp [N.numB, numB_len n k]
theorem textB_len (s : Bytes) : (N.textB s).length = 2 + s.length := by unfold N.textB; rw [List.length_append, numB_len]
theorem outText_le {x s : Bytes} (h : s.length ≤ 65535) : N.outText ⟨x, 0⟩ s = ⟨x ++ N.textB s, 0⟩ := by
  unfold N.outText
  rw [ilt_f (by omega)]
  show (⟨x ++ N.numB s.length 2 ++ s, 0⟩ : OutS) = _
  unfold N.textB; rw [List.append_assoc]
theorem outNum_1 (x : Bytes) (n : Int) : N.outNum ⟨x, 0⟩ n 1 = ⟨x ++ N.numB n 1, 0⟩ := rfl
theorem outNum_8 (x : Bytes) (n : Int) : N.outNum ⟨x, 0⟩ n 8 = ⟨x ++ N.numB n 8, 0⟩ := rfl
theorem ok_headBytes (hN : FnOk Tryd.prog 75 dOutNum) : FnOk Tryd.prog 74 dHeadBytes := by
  refine den_okF (env_ok (((((TOk.nil _).cons ok_outString).cons (ok_outText hN)).cons hN).cons ok_headCheck)) (E := eHeadBytes) Tryd.func74 [6] (by kernel_rfl) (one1 (rounds_of rfl fun l K q h => ?_)) fun h _ _ => ?_
  · unfold gHeadBytes at h
    split at h
    · rename_i r n i s e
      have h1 := (cond_none h).1; replace h := (cond_none h).2; have h2 := (cond_none h).1; replace h := (cond_none h).2; have h3 := (cond_none h).1; replace h := (cond_none h).2; have h4 := (cond_none h).1; replace h := (cond_none h).2; have h5 := (cond_none h).1; replace h := (cond_none h).2; have h6 := (cond_none h).1; replace h := (cond_none h).2
      have e1 := ieq_of h1
      have e2 := ieq_of h2
      subst e1 e2
      have h4 : r.length ≤ 8 := ble_of h4
      refine loop_ind (E := eHeadBytes) (f := 74) (id := 6) (σ := Int × Bytes) (fun x => { fr := [(5, .ptr 10000 0 0 0), (18, .slc [.str, .int .u8, .int .i64, .str] r), (19, .int .i64 r.length), (20, .int .i64 x.1)], tab := [(10000, .var [.str x.2, .int .i64 0])] })
        (fun x => 0 ≤ x.1 ∧ (x.2.length : Int) ≤ 1 + 150 * x.1) (fun x => r.length - x.1.toNat)
        (fun x K => K (.exit 0) { fr := [(5, .ptr 10000 0 0 0)], tab := [(10000, .var [.str (x.2 ++ N.pairsB ((rowsP r).drop x.1.toNat)), .int .i64 0])] }) ?_ (i, s) ⟨ile_of h3, ile_of h6⟩ K q (by assumption)
      rintro ⟨i, s⟩ ⟨hi, hs⟩
      simp only at hi hs ⊢
      by_cases hl : i < r.length
      · have hlt : i.toNat < r.length := by omega
        have hfit : N.fitP (rowP (r.getD i.toNat [])) = true := List.all_eq_true.1 h5 _ (by
          rw [List.getD_eq_getElem?_getD, List.getElem?_eq_getElem hlt]; exact List.mem_map_of_mem (List.getElem_mem _))
        obtain ⟨f1, f2⟩ := bcond hfit
        have f1 : (V.toStr (List.getD (List.getD r i.toNat []) 0 V.undef)).length ≤ 64 := ble_of f1
        have f2 : (V.toStr (List.getD (List.getD r i.toNat []) 3 V.undef)).length ≤ 64 := ble_of f2
        have u1 := wu64 (V.toInt (List.getD (List.getD r i.toNat []) 1 V.undef))
        have u2 := wu64 (V.toInt (List.getD (List.getD r i.toNat []) 2 V.undef))
        have o1 : N.outText ⟨s, 0⟩ (V.toStr (List.getD (List.getD r i.toNat []) 0 V.undef)) = ⟨s ++ N.textB (V.toStr (List.getD (List.getD r i.toNat []) 0 V.undef)), 0⟩ := outText_le (by omega)
        have o2 : ∀ x : Bytes, N.outText ⟨x, 0⟩ (V.toStr (List.getD (List.getD r i.toNat []) 3 V.undef)) = ⟨x ++ N.textB (V.toStr (List.getD (List.getD r i.toNat []) 3 V.undef)), 0⟩ := fun x => outText_le (by omega)
        rw [drop_pair hlt]
        have e : N.pairsB (rowP (r.getD i.toNat []) :: (rowsP r).drop (i.toNat + 1)) = N.pairB (rowP (r.getD i.toNat [])) ++ N.pairsB ((rowsP r).drop (i.toNat + 1)) := rfl
        rw [e, ← List.append_assoc]
        have hlen : (N.pairB (rowP (r.getD i.toNat []))).length ≤ 150 := by
          unfold N.pairB rowP
          simp only [List.length_append, textB_len, numB_len]
          cases V.toInt (List.getD (List.getD r i.toNat []) 1 V.undef) == 0 <;> cases V.toInt (List.getD (List.getD r i.toNat []) 1 V.undef) == 1 <;> cases V.toInt (List.getD (List.getD r i.toNat []) 1 V.undef) == 2 <;> simp only [cond_true, cond_false, numB_len, textB_len, List.length_nil] <;> omega
        refine .inl ⟨(i + 1, s ++ N.pairB (rowP (r.getD i.toNat []))), ⟨by simp only; omega, by simp only [List.length_append]; omega⟩, by simp only; omega, fun K => ?_, fun K => ?_⟩
        · rw [q_headBytesR]
          unfold N.pairB rowP
          simp (disch := omega) only [evs, o1, o2, outNum_1, outNum_8, textB_len, numB_len, ← List.append_assoc]
          cases V.toInt (List.getD (List.getD r i.toNat []) 1 V.undef) == 0 <;> cases V.toInt (List.getD (List.getD r i.toNat []) 1 V.undef) == 1 <;> cases V.toInt (List.getD (List.getD r i.toNat []) 1 V.undef) == 2 <;> simp only [cond_true, cond_false, List.append_nil]
        · rw [show (i + 1).toNat = i.toNat + 1 by omega]
      · refine .inr ⟨.exit 0, { fr := [(5, .ptr 10000 0 0 0)], tab := [(10000, .var [.str s, .int .i64 0])] }, by simp, fun K => ?_, fun K => ?_⟩
        · rw [q_headBytesR]
          simp (disch := omega) only [evs]
        · rw [List.drop_eq_nil_of_le (by rw [rowsP_length]; omega)]
          show K _ { fr := _, tab := [(10000, .var [.str (s ++ []), .int .i64 0])] } = _
          rw [List.append_nil]
    · cases h
  · refine (q_headBytes h).trans ?_
    show _ = some (⟨.tup [.str (cond (N.headCheck h != 0) (([] : Bytes), N.headCheck h) (N.headBytes h, 0)).1, .int .i64 (cond (N.headCheck h != 0) (([] : Bytes), N.headCheck h) (N.headBytes h, 0)).2], [], []⟩ : DRes)
    cases hc : N.headCheck h != 0 with
    | true =>
      simp (disch := omega) only [evs, pairs_enc, hc]
    | false =>
      have hz : N.headCheck h = 0 := by simpa using hc
      obtain ⟨c1, c2⟩ := check_fit hz
      have u := wu64 (h.length : Int)
      have ul : IntKind.wrap .u64 (h.length : Int) = h.length := wrap_u64 (by omega) (by omega)
      simp (disch := omega) only [evs, pairs_enc, hc, ul, outNum_1, c2, List.drop_zero, List.nil_append]
      rfl
end Go.Ev

/- The program's functions that read heads answer what the plain ones do: lemmas. -/
namespace Go.Ev
open Go Go.Proofs
set_option maxRecDepth 100000

end Go.Ev

/- The program's functions that read heads, those with loops, answer what the plain ones do: lemmas. -/
namespace Go.Ev
open Go Go.Proofs
set_option maxRecDepth 100000

namespace N
/-- The loop over a head's pairs: went through, what was read, the reader. -/
def hl : Nat → InS → List (List V) → Bool × List (List V) × InS
  | 0, i, rows => (true, rows, i)
  | k + 1, i, rows => cond ((bad (one i).1 (rowsP rows) (one i).2).err != 0) (false, [], bad (one i).1 (rowsP rows) (one i).2) (hl k (bad (one i).1 (rowsP rows) (one i).2) (rows ++ [cPair.enc (one i).1]))
end N
namespace N
end N
end Go.Ev

/- The document's function that checks heads answers what the plain one does: lemmas. -/
namespace Go.Ev
open Go Go.Proofs
set_option maxRecDepth 100000

end Go.Ev

/- The functions on rules answer what the plain ones do: lemmas, no condition. -/
namespace Go.Ev
open Go Go.Proofs
set_option maxRecDepth 100000

end Go.Ev

/- The document's function that reads heads answers what the plain one does: lemmas. -/
namespace Go.Ev
open Go Go.Proofs
set_option maxRecDepth 100000

end Go.Ev

/- What the statement on same heads reckons: lemmas; the function that writes numbers is a premise. -/
namespace Go.Ev
open Go Go.Proofs
set_option maxRecDepth 100000

noncomputable def eAw4' : Env := env Tryd.prog [(83, dTrueW)] [] []
theorem q_aw4'  : evFn eAw4' 47 [] [] some =
 some { v := V.bool true, bx := [] : DRes } := by kernel_rfl
theorem ok_aw4' : FnOk Tryd.prog 47 dTrue := den_okF (env_ok ((TOk.nil _).cons ok_awW)) (E := eAw4') Tryd.func47 [] (by kernel_rfl) none0 fun _ _ _ => q_aw4'
noncomputable def eAw9 : Env := env Tryd.prog [(74, dHeadBytes), (96, dTrue), (47, dTrue)] [] []
theorem q_aw9  : evFn eAw9 84 [] [] some =
 some { v := V.bool true, bx := [] : DRes } := by kernel_rfl
theorem ok_aw9 (hN : FnOk Tryd.prog 75 dOutNum) : FnOk Tryd.prog 84 dTrue :=
  den_okF (env_ok ((((TOk.nil _).cons ok_aw4').cons (ok_aw1' hN)).cons (ok_headBytes hN))) (E := eAw9) Tryd.func84 [] (by kernel_rfl) none0 fun _ _ _ => q_aw9
theorem light_small {h : List HPair} (hl : N.light h = true) : h.length ≤ 12 := by
  unfold N.light at hl
  cases e : ilt 12 h.length with
  | true => rw [e] at hl; cases hl
  | false => have := ilt_nof e; omega
end Go.Ev

/- What was written is read again: lemmas on the plain functions. -/
namespace Go.Ev
open Go

end Go.Ev

/- The document's functions that write heads answer what the plain ones do: lemmas; its function that writes numbers is a premise. -/
namespace Go.Ev
open Go Go.Proofs
set_option maxRecDepth 100000

namespace N
end N
end Go.Ev

/- The document's function that writes numbers answers what the plain one does: lemmas, no condition. -/
namespace Go.Ev
open Go Go.Proofs
set_option maxRecDepth 100000

end Go.Ev

/- The functions on messages answer what the plain ones do: lemmas; the function that writes numbers is a premise. -/
namespace Go.Ev
open Go Go.Proofs
set_option maxRecDepth 100000

noncomputable def eClone : Env := env Tryd.prog [] [] []
theorem q_clone (l : List HPair) : evFn eClone 59 ((aOne (vSl cPair)).enc l) ([]) some =
 cond (!Nat.beq (List.length (List.map (fun p => [V.str (HPair.key p), V.int IntKind.u8 (HPair.kind p), V.int IntKind.i64 (HPair.num p), V.str (HPair.text p)]) l)) (0 : Nat)) (cond (Nat.beq (List.length (List.map (fun p => [V.str (HPair.key p), V.int IntKind.u8 (HPair.kind p), V.int IntKind.i64 (HPair.num p), V.str (HPair.text p)]) l)) (0 : Nat)) (some { v := V.slc [Sh.str, Sh.int IntKind.u8, Sh.int IntKind.i64, Sh.str] [], bx := [] : DRes }) (cond (decide (List.length (List.map (fun p => [V.str (HPair.key p), V.int IntKind.u8 (HPair.kind p), V.int IntKind.i64 (HPair.num p), V.str (HPair.text p)]) l) * (48 : Nat) ≤ (140737488355328 : Nat))) (some { v := V.slc [Sh.str, Sh.int IntKind.u8, Sh.int IntKind.i64, Sh.str] (List.map (fun p => [V.str (HPair.key p), V.int IntKind.u8 (HPair.kind p), V.int IntKind.i64 (HPair.num p), V.str (HPair.text p)]) l), bx := [] : DRes }) (none))) (none) := by kernel_rfl
theorem q_cloneN  : evFn eClone 59 [.nils [.str, .int .u8, .int .i64, .str]] ([]) some =
 some { v := V.slc [Sh.str, Sh.int IntKind.u8, Sh.int IntKind.i64, Sh.str] [], bx := [] : DRes } := by kernel_rfl
theorem q_cloneE  : evFn eClone 59 [.nn [.str, .int .u8, .int .i64, .str]] ([]) some =
 some { v := V.slc [Sh.str, Sh.int IntKind.u8, Sh.int IntKind.i64, Sh.str] [], bx := [] : DRes } := by kernel_rfl
theorem ok_clone : FnOk Tryd.prog 59 dClone := by
  refine den_of fun l b h => ?_
  have h : l.length ≤ 1000000 := ble_of h
  have fo := fun a r => fn_okF (E := eClone) (env_ok (TOk.nil _)) Tryd.func59 [] (by kernel_rfl) none0 a [] r
  cases l with
  | nil => exact FnOk.empty (fo _ _ q_cloneN) (fo _ _ q_cloneE)
  | cons p r =>
    refine fo _ _ ((q_clone (p :: r)).trans ?_)
    show _ = some (⟨.slc [.str, .int .u8, .int .i64, .str] ((p :: r).map fun p => [V.str p.key, V.int .u8 p.kind, V.int .i64 p.num, V.str p.text]), [], []⟩ : DRes)
    rw [show Nat.beq (List.length ((p :: r).map fun p => [V.str p.key, V.int .u8 p.kind, V.int .i64 p.num, V.str p.text])) 0 = false from rfl]
    simp (disch := omega) only [evs, Bool.not_false]
noncomputable def eMailCopy : Env := env Tryd.prog [(59, dClone)] [] []
theorem q_mailCopy (m : HMail) : evFn eMailCopy 23 ((aOne (vAgg cMail)).enc m) ([]) some =
 cond (Nat.ble (List.length (List.map (fun r => { key := V.toStr (List.getD r (0 : Nat) V.undef), kind := V.toInt (List.getD r (1 : Nat) V.undef), num := V.toInt (List.getD r (2 : Nat) V.undef), text := V.toStr (List.getD r (3 : Nat) V.undef) : HPair }) (List.map (fun p => [V.str (HPair.key p), V.int IntKind.u8 (HPair.kind p), V.int IntKind.i64 (HPair.num p), V.str (HPair.text p)]) (HMail.head m)))) (1000000 : Nat)) (some { v := V.agg [V.int IntKind.u64 (HMail.id m), V.str (HMail.shop m), V.str (HMail.key m), V.slc [Sh.str, Sh.int IntKind.u8, Sh.int IntKind.i64, Sh.str] (List.map (fun p => [V.str (HPair.key p), V.int IntKind.u8 (HPair.kind p), V.int IntKind.i64 (HPair.num p), V.str (HPair.text p)]) (List.map (fun r => { key := V.toStr (List.getD r (0 : Nat) V.undef), kind := V.toInt (List.getD r (1 : Nat) V.undef), num := V.toInt (List.getD r (2 : Nat) V.undef), text := V.toStr (List.getD r (3 : Nat) V.undef) : HPair }) (List.map (fun p => [V.str (HPair.key p), V.int IntKind.u8 (HPair.kind p), V.int IntKind.i64 (HPair.num p), V.str (HPair.text p)]) (HMail.head m)))), V.str (HMail.body m), V.int IntKind.u64 (HMail.due m), V.int IntKind.u8 (HMail.hops m)], bx := [] : DRes }) (none) := by kernel_rfl
theorem ok_mailCopy : FnOk Tryd.prog 23 dMailCopy := by
  refine den_okF (env_ok ((TOk.nil _).cons ok_clone)) (E := eMailCopy) Tryd.func23 [] (by kernel_rfl) none0 fun m _ h => ?_
  have h : m.head.length ≤ 1000000 := ble_of h
  refine (q_mailCopy m).trans ?_
  simp (disch := omega) only [evs, pairs_enc]
  rfl
noncomputable def eMailCheck : Env := env Tryd.prog [(79, dName), (49, dKey), (51, dHeadCheck)] [] []
theorem q_mailCheck (m : HMail) : evFn eMailCheck 42 ((aOne (vAgg cMail)).enc m) ([]) some =
 cond (N.name (HMail.shop m) != (0 : Int)) (some { v := V.int IntKind.i64 (N.name (HMail.shop m)), bx := [] : DRes }) (cond (N.key (HMail.key m) [] != (0 : Int)) (some { v := V.int IntKind.i64 (N.key (HMail.key m) []), bx := [] : DRes }) (cond (N.headCheck (List.map (fun r => { key := V.toStr (List.getD r (0 : Nat) V.undef), kind := V.toInt (List.getD r (1 : Nat) V.undef), num := V.toInt (List.getD r (2 : Nat) V.undef), text := V.toStr (List.getD r (3 : Nat) V.undef) : HPair }) (List.map (fun p => [V.str (HPair.key p), V.int IntKind.u8 (HPair.kind p), V.int IntKind.i64 (HPair.num p), V.str (HPair.text p)]) (HMail.head m))) != (0 : Int)) (some { v := V.int IntKind.i64 (N.headCheck (List.map (fun r => { key := V.toStr (List.getD r (0 : Nat) V.undef), kind := V.toInt (List.getD r (1 : Nat) V.undef), num := V.toInt (List.getD r (2 : Nat) V.undef), text := V.toStr (List.getD r (3 : Nat) V.undef) : HPair }) (List.map (fun p => [V.str (HPair.key p), V.int IntKind.u8 (HPair.kind p), V.int IntKind.i64 (HPair.num p), V.str (HPair.text p)]) (HMail.head m)))), bx := [] : DRes }) (cond (ilt (256 : Int) (↑(List.length (HMail.body m)) : Int)) (some { v := V.int IntKind.i64 (5 : Int), bx := [] : DRes }) (cond (ilt (4 : Int) (HMail.hops m)) (some { v := V.int IntKind.i64 (7 : Int), bx := [] : DRes }) (some { v := V.int IntKind.i64 (0 : Int), bx := [] : DRes }))))) := by kernel_rfl
theorem ok_mailCheck : FnOk Tryd.prog 42 dMailCheck := by
  refine den_okF (env_ok ((((TOk.nil _).cons ok_headCheck).cons ok_key).cons ok_name)) (E := eMailCheck) Tryd.func42 [] (by kernel_rfl) none0 fun m _ _ => ?_
  refine (q_mailCheck m).trans ?_
  show _ = some (⟨.int .i64 (N.mailCheck m), [], []⟩ : DRes)
  unfold N.mailCheck
  simp only [pairs_enc]
  cases h1 : N.name m.shop != 0 <;> cases h2 : N.key m.key [] != 0 <;> cases h3 : N.headCheck m.head != 0 <;> cases h4 : ilt 256 (m.body.length : Int) <;> cases h5 : ilt 4 m.hops <;> simp only [cond_true, cond_false]
noncomputable def eRefMailSame : Env := env Tryd.prog [(61, dSameP)] [] []
theorem q_refMailSame (a b : HMail) : evFn eRefMailSame 25 ((aCons (vAgg cMail) (aOne (vAgg cMail))).enc (a, b)) ([]) some =
 cond (HMail.id a == HMail.id b) (cond (HMail.shop a == HMail.shop b) (cond (HMail.key a == HMail.key b) (cond (Nat.ble (List.length (List.map (fun r => { key := V.toStr (List.getD r (0 : Nat) V.undef), kind := V.toInt (List.getD r (1 : Nat) V.undef), num := V.toInt (List.getD r (2 : Nat) V.undef), text := V.toStr (List.getD r (3 : Nat) V.undef) : HPair }) (List.map (fun p => [V.str (HPair.key p), V.int IntKind.u8 (HPair.kind p), V.int IntKind.i64 (HPair.num p), V.str (HPair.text p)]) (HMail.head a)))) (1000000 : Nat)) (cond (N.samePs (List.map (fun r => { key := V.toStr (List.getD r (0 : Nat) V.undef), kind := V.toInt (List.getD r (1 : Nat) V.undef), num := V.toInt (List.getD r (2 : Nat) V.undef), text := V.toStr (List.getD r (3 : Nat) V.undef) : HPair }) (List.map (fun p => [V.str (HPair.key p), V.int IntKind.u8 (HPair.kind p), V.int IntKind.i64 (HPair.num p), V.str (HPair.text p)]) (HMail.head a))) (List.map (fun r => { key := V.toStr (List.getD r (0 : Nat) V.undef), kind := V.toInt (List.getD r (1 : Nat) V.undef), num := V.toInt (List.getD r (2 : Nat) V.undef), text := V.toStr (List.getD r (3 : Nat) V.undef) : HPair }) (List.map (fun p => [V.str (HPair.key p), V.int IntKind.u8 (HPair.kind p), V.int IntKind.i64 (HPair.num p), V.str (HPair.text p)]) (HMail.head b)))) (cond (HMail.body a == HMail.body b) (cond (HMail.due a == HMail.due b) (some { v := V.bool (HMail.hops a == HMail.hops b), bx := [] : DRes }) (some { v := V.bool false, bx := [] : DRes })) (some { v := V.bool false, bx := [] : DRes })) (some { v := V.bool false, bx := [] : DRes })) (none)) (some { v := V.bool false, bx := [] : DRes })) (some { v := V.bool false, bx := [] : DRes })) (some { v := V.bool false, bx := [] : DRes }) := by kernel_rfl
theorem ok_refMailSame : FnOk Tryd.prog 25 dMailSame := by
  refine den_okF (env_ok ((TOk.nil _).cons ok_refSame)) (E := eRefMailSame) Tryd.func25 [] (by kernel_rfl) none0 fun a _ h => ?_
  obtain ⟨a, b⟩ := a
  have h : a.head.length ≤ 1000000 := ble_of h
  refine (q_refMailSame a b).trans ?_
  show _ = some (⟨.bool (N.mailSame a b), [], []⟩ : DRes)
  unfold N.mailSame
  cases a.id == b.id <;> cases a.shop == b.shop <;> cases a.key == b.key <;> first | rfl | skip
  simp (disch := omega) only [evs, pairs_enc]
  cases N.samePs a.head b.head <;> cases a.body == b.body <;> cases a.due == b.due <;> rfl
noncomputable def eLightM : Env := env Tryd.prog [(13, dLight)] [] []
theorem q_lightM (m : HMail) : evFn eLightM 22 ((aOne (vAgg cMail)).enc m) ([]) some =
 cond (ile (↑(List.length (HMail.shop m)) : Int) (40 : Int)) (cond (ile (↑(List.length (HMail.key m)) : Int) (100 : Int)) (cond (N.light (List.map (fun r => { key := V.toStr (List.getD r (0 : Nat) V.undef), kind := V.toInt (List.getD r (1 : Nat) V.undef), num := V.toInt (List.getD r (2 : Nat) V.undef), text := V.toStr (List.getD r (3 : Nat) V.undef) : HPair }) (List.map (fun p => [V.str (HPair.key p), V.int IntKind.u8 (HPair.kind p), V.int IntKind.i64 (HPair.num p), V.str (HPair.text p)]) (HMail.head m)))) (some { v := V.bool (ile (↑(List.length (HMail.body m)) : Int) (300 : Int)), bx := [] : DRes }) (some { v := V.bool false, bx := [] : DRes })) (some { v := V.bool false, bx := [] : DRes })) (some { v := V.bool false, bx := [] : DRes }) := by kernel_rfl
theorem ok_lightM : FnOk Tryd.prog 22 dLightM := by
  refine den_okF (env_ok ((TOk.nil _).cons ok_light)) (E := eLightM) Tryd.func22 [] (by kernel_rfl) none0 fun m _ _ => ?_
  refine (q_lightM m).trans ?_
  show _ = some (⟨.bool (N.lightM m), [], []⟩ : DRes)
  unfold N.lightM
  simp only [pairs_enc]
  cases ile (m.shop.length : Int) 40 <;> cases ile (m.key.length : Int) 100 <;> cases N.light m.head <;> rfl
theorem nrm_rows (h : List HPair) : (h.map (fun p => [V.str p.key, V.int .u8 p.kind, V.int .i64 p.num, V.str p.text])).map (fun r => ({ key := V.toStr (List.getD r 0 .undef), kind := V.toInt (List.getD r 1 .undef), num := V.toInt (List.getD r 2 .undef), text := V.toStr (List.getD r 3 .undef) } : HPair)) = h := rowsP_enc h
theorem raw_le (x s : Bytes) : N.outRaw ⟨x, 0⟩ s = ⟨x ++ s, 0⟩ := rfl
noncomputable def eMailBytes : Env := env Tryd.prog [(42, dMailCheck), (74, dHeadBytes), (75, dOutNum), (76, dOutText), (77, dOutRaw), (78, dOutString)] [] []
theorem q_mailBytes (m : HMail) : evFn eMailBytes 41 ((aOne (vAgg cMail)).enc m) ([]) some =
 cond (N.mailCheck { id := HMail.id m, shop := HMail.shop m, key := HMail.key m, head := List.map (fun r => { key := V.toStr (List.getD r (0 : Nat) V.undef), kind := V.toInt (List.getD r (1 : Nat) V.undef), num := V.toInt (List.getD r (2 : Nat) V.undef), text := V.toStr (List.getD r (3 : Nat) V.undef) : HPair }) (List.map (fun p => [V.str (HPair.key p), V.int IntKind.u8 (HPair.kind p), V.int IntKind.i64 (HPair.num p), V.str (HPair.text p)]) (HMail.head m)), body := HMail.body m, due := HMail.due m, hops := HMail.hops m : HMail } != (0 : Int)) (some { v := V.tup [V.str [], V.int IntKind.i64 (N.mailCheck { id := HMail.id m, shop := HMail.shop m, key := HMail.key m, head := List.map (fun r => { key := V.toStr (List.getD r (0 : Nat) V.undef), kind := V.toInt (List.getD r (1 : Nat) V.undef), num := V.toInt (List.getD r (2 : Nat) V.undef), text := V.toStr (List.getD r (3 : Nat) V.undef) : HPair }) (List.map (fun p => [V.str (HPair.key p), V.int IntKind.u8 (HPair.kind p), V.int IntKind.i64 (HPair.num p), V.str (HPair.text p)]) (HMail.head m)), body := HMail.body m, due := HMail.due m, hops := HMail.hops m : HMail })], bx := [] : DRes }) (cond (bif ile (0 : Int) (HMail.id m) then bif ilt (HMail.id m) (18446744073709551616 : Int) then true else false else false) (cond (Nat.ble ((8 : Nat) + List.length (HMail.shop m)) (9223372036854775790 : Nat)) (cond (Nat.ble (List.length (OutS.s (N.outText (N.outNum { s := [], err := (0 : Int) : OutS } (HMail.id m) (8 : Int)) (HMail.shop m))) + List.length (HMail.key m)) (9223372036854775790 : Nat)) (cond (Nat.ble (List.length (OutS.s (N.outText (N.outText (N.outNum { s := [], err := (0 : Int) : OutS } (HMail.id m) (8 : Int)) (HMail.shop m)) (HMail.key m))) + List.length (Prod.fst (bif N.headCheck (List.map (fun r => { key := V.toStr (List.getD r (0 : Nat) V.undef), kind := V.toInt (List.getD r (1 : Nat) V.undef), num := V.toInt (List.getD r (2 : Nat) V.undef), text := V.toStr (List.getD r (3 : Nat) V.undef) : HPair }) (List.map (fun p => [V.str (HPair.key p), V.int IntKind.u8 (HPair.kind p), V.int IntKind.i64 (HPair.num p), V.str (HPair.text p)]) (HMail.head m))) != (0 : Int) then ([], N.headCheck (List.map (fun r => { key := V.toStr (List.getD r (0 : Nat) V.undef), kind := V.toInt (List.getD r (1 : Nat) V.undef), num := V.toInt (List.getD r (2 : Nat) V.undef), text := V.toStr (List.getD r (3 : Nat) V.undef) : HPair }) (List.map (fun p => [V.str (HPair.key p), V.int IntKind.u8 (HPair.kind p), V.int IntKind.i64 (HPair.num p), V.str (HPair.text p)]) (HMail.head m)))) else (N.headBytes (List.map (fun r => { key := V.toStr (List.getD r (0 : Nat) V.undef), kind := V.toInt (List.getD r (1 : Nat) V.undef), num := V.toInt (List.getD r (2 : Nat) V.undef), text := V.toStr (List.getD r (3 : Nat) V.undef) : HPair }) (List.map (fun p => [V.str (HPair.key p), V.int IntKind.u8 (HPair.kind p), V.int IntKind.i64 (HPair.num p), V.str (HPair.text p)]) (HMail.head m))), (0 : Int))))) (9223372036854775807 : Nat)) (cond (Nat.ble (List.length (OutS.s (N.outRaw (N.outText (N.outText (N.outNum { s := [], err := (0 : Int) : OutS } (HMail.id m) (8 : Int)) (HMail.shop m)) (HMail.key m)) (Prod.fst (bif N.headCheck (List.map (fun r => { key := V.toStr (List.getD r (0 : Nat) V.undef), kind := V.toInt (List.getD r (1 : Nat) V.undef), num := V.toInt (List.getD r (2 : Nat) V.undef), text := V.toStr (List.getD r (3 : Nat) V.undef) : HPair }) (List.map (fun p => [V.str (HPair.key p), V.int IntKind.u8 (HPair.kind p), V.int IntKind.i64 (HPair.num p), V.str (HPair.text p)]) (HMail.head m))) != (0 : Int) then ([], N.headCheck (List.map (fun r => { key := V.toStr (List.getD r (0 : Nat) V.undef), kind := V.toInt (List.getD r (1 : Nat) V.undef), num := V.toInt (List.getD r (2 : Nat) V.undef), text := V.toStr (List.getD r (3 : Nat) V.undef) : HPair }) (List.map (fun p => [V.str (HPair.key p), V.int IntKind.u8 (HPair.kind p), V.int IntKind.i64 (HPair.num p), V.str (HPair.text p)]) (HMail.head m)))) else (N.headBytes (List.map (fun r => { key := V.toStr (List.getD r (0 : Nat) V.undef), kind := V.toInt (List.getD r (1 : Nat) V.undef), num := V.toInt (List.getD r (2 : Nat) V.undef), text := V.toStr (List.getD r (3 : Nat) V.undef) : HPair }) (List.map (fun p => [V.str (HPair.key p), V.int IntKind.u8 (HPair.kind p), V.int IntKind.i64 (HPair.num p), V.str (HPair.text p)]) (HMail.head m))), (0 : Int)))))) + List.length (HMail.body m)) (9223372036854775790 : Nat)) (cond (bif ile (0 : Int) (HMail.due m) then bif ilt (HMail.due m) (18446744073709551616 : Int) then Nat.ble (List.length (OutS.s (N.outText (N.outRaw (N.outText (N.outText (N.outNum { s := [], err := (0 : Int) : OutS } (HMail.id m) (8 : Int)) (HMail.shop m)) (HMail.key m)) (Prod.fst (bif N.headCheck (List.map (fun r => { key := V.toStr (List.getD r (0 : Nat) V.undef), kind := V.toInt (List.getD r (1 : Nat) V.undef), num := V.toInt (List.getD r (2 : Nat) V.undef), text := V.toStr (List.getD r (3 : Nat) V.undef) : HPair }) (List.map (fun p => [V.str (HPair.key p), V.int IntKind.u8 (HPair.kind p), V.int IntKind.i64 (HPair.num p), V.str (HPair.text p)]) (HMail.head m))) != (0 : Int) then ([], N.headCheck (List.map (fun r => { key := V.toStr (List.getD r (0 : Nat) V.undef), kind := V.toInt (List.getD r (1 : Nat) V.undef), num := V.toInt (List.getD r (2 : Nat) V.undef), text := V.toStr (List.getD r (3 : Nat) V.undef) : HPair }) (List.map (fun p => [V.str (HPair.key p), V.int IntKind.u8 (HPair.kind p), V.int IntKind.i64 (HPair.num p), V.str (HPair.text p)]) (HMail.head m)))) else (N.headBytes (List.map (fun r => { key := V.toStr (List.getD r (0 : Nat) V.undef), kind := V.toInt (List.getD r (1 : Nat) V.undef), num := V.toInt (List.getD r (2 : Nat) V.undef), text := V.toStr (List.getD r (3 : Nat) V.undef) : HPair }) (List.map (fun p => [V.str (HPair.key p), V.int IntKind.u8 (HPair.kind p), V.int IntKind.i64 (HPair.num p), V.str (HPair.text p)]) (HMail.head m))), (0 : Int))))) (HMail.body m)))) (9223372036854775799 : Nat) else false else false) (cond (bif ile (0 : Int) (IntKind.wrap IntKind.u64 (HMail.hops m)) then bif ilt (IntKind.wrap IntKind.u64 (HMail.hops m)) (18446744073709551616 : Int) then Nat.ble (List.length (OutS.s (N.outNum (N.outText (N.outRaw (N.outText (N.outText (N.outNum { s := [], err := (0 : Int) : OutS } (HMail.id m) (8 : Int)) (HMail.shop m)) (HMail.key m)) (Prod.fst (bif N.headCheck (List.map (fun r => { key := V.toStr (List.getD r (0 : Nat) V.undef), kind := V.toInt (List.getD r (1 : Nat) V.undef), num := V.toInt (List.getD r (2 : Nat) V.undef), text := V.toStr (List.getD r (3 : Nat) V.undef) : HPair }) (List.map (fun p => [V.str (HPair.key p), V.int IntKind.u8 (HPair.kind p), V.int IntKind.i64 (HPair.num p), V.str (HPair.text p)]) (HMail.head m))) != (0 : Int) then ([], N.headCheck (List.map (fun r => { key := V.toStr (List.getD r (0 : Nat) V.undef), kind := V.toInt (List.getD r (1 : Nat) V.undef), num := V.toInt (List.getD r (2 : Nat) V.undef), text := V.toStr (List.getD r (3 : Nat) V.undef) : HPair }) (List.map (fun p => [V.str (HPair.key p), V.int IntKind.u8 (HPair.kind p), V.int IntKind.i64 (HPair.num p), V.str (HPair.text p)]) (HMail.head m)))) else (N.headBytes (List.map (fun r => { key := V.toStr (List.getD r (0 : Nat) V.undef), kind := V.toInt (List.getD r (1 : Nat) V.undef), num := V.toInt (List.getD r (2 : Nat) V.undef), text := V.toStr (List.getD r (3 : Nat) V.undef) : HPair }) (List.map (fun p => [V.str (HPair.key p), V.int IntKind.u8 (HPair.kind p), V.int IntKind.i64 (HPair.num p), V.str (HPair.text p)]) (HMail.head m))), (0 : Int))))) (HMail.body m)) (HMail.due m) (8 : Int)))) (9223372036854775799 : Nat) else false else false) (some { v := V.tup [V.str (OutS.s (N.outNum (N.outNum (N.outText (N.outRaw (N.outText (N.outText (N.outNum { s := [], err := (0 : Int) : OutS } (HMail.id m) (8 : Int)) (HMail.shop m)) (HMail.key m)) (Prod.fst (bif N.headCheck (List.map (fun r => { key := V.toStr (List.getD r (0 : Nat) V.undef), kind := V.toInt (List.getD r (1 : Nat) V.undef), num := V.toInt (List.getD r (2 : Nat) V.undef), text := V.toStr (List.getD r (3 : Nat) V.undef) : HPair }) (List.map (fun p => [V.str (HPair.key p), V.int IntKind.u8 (HPair.kind p), V.int IntKind.i64 (HPair.num p), V.str (HPair.text p)]) (HMail.head m))) != (0 : Int) then ([], N.headCheck (List.map (fun r => { key := V.toStr (List.getD r (0 : Nat) V.undef), kind := V.toInt (List.getD r (1 : Nat) V.undef), num := V.toInt (List.getD r (2 : Nat) V.undef), text := V.toStr (List.getD r (3 : Nat) V.undef) : HPair }) (List.map (fun p => [V.str (HPair.key p), V.int IntKind.u8 (HPair.kind p), V.int IntKind.i64 (HPair.num p), V.str (HPair.text p)]) (HMail.head m)))) else (N.headBytes (List.map (fun r => { key := V.toStr (List.getD r (0 : Nat) V.undef), kind := V.toInt (List.getD r (1 : Nat) V.undef), num := V.toInt (List.getD r (2 : Nat) V.undef), text := V.toStr (List.getD r (3 : Nat) V.undef) : HPair }) (List.map (fun p => [V.str (HPair.key p), V.int IntKind.u8 (HPair.kind p), V.int IntKind.i64 (HPair.num p), V.str (HPair.text p)]) (HMail.head m))), (0 : Int))))) (HMail.body m)) (HMail.due m) (8 : Int)) (IntKind.wrap IntKind.u64 (HMail.hops m)) (1 : Int))), V.int IntKind.i64 (0 : Int)], bx := [] : DRes }) (none)) (none)) (none)) (none)) (none)) (none)) (none)) := by kernel_rfl
theorem mailCheck_fit {m : HMail} (h : N.mailCheck m = 0) : m.shop.length ≤ 16 ∧ m.key.length ≤ 64 ∧ N.headCheck m.head = 0 ∧ m.body.length ≤ 256 ∧ m.hops ≤ 4 ∧ N.name m.shop = 0 ∧ N.key m.key [] = 0 := by
  unfold N.mailCheck at h
  have key : ∀ x y : Int, cond (x != 0) x y = 0 → x = 0 ∧ y = 0 := fun x y h => by
    cases e : x != 0 with
    | true => rw [e, cond_true] at h; rw [h] at e; cases e
    | false => rw [e, cond_false] at h; exact ⟨by simpa using e, h⟩
  obtain ⟨h1, h⟩ := key _ _ h
  obtain ⟨h2, h⟩ := key _ _ h
  obtain ⟨h3, h⟩ := key _ _ h
  cases h4 : ilt 256 (m.body.length : Int) with
  | true => rw [h4] at h; cases h
  | false =>
    rw [h4] at h
    cases h5 : ilt 4 m.hops with
    | true => rw [h5] at h; cases h
    | false =>
      have a4 := ilt_nof h4
      have a5 := ilt_nof h5
      have a1 : m.shop.length ≤ 16 := by
        unfold N.name at h1
        cases e1 : m.shop == [] with
        | true => rw [e1] at h1; cases h1
        | false =>
          rw [e1] at h1
          cases e2 : ilt 16 m.shop.length with
          | true => rw [e2] at h1; cases h1
          | false => have := ilt_nof e2; omega
      have a2 : m.key.length ≤ 64 := by
        rw [key_eq] at h2
        exact refKey_len (b := false) (by rw [h2]; rfl)
      exact ⟨a1, a2, h3, by omega, a5, h1, h2⟩
theorem pairsB_len : ∀ {l : List HPair}, l.all N.fitP = true → (N.pairsB l).length ≤ 150 * l.length
  | [], _ => Nat.le_refl _
  | p :: r, h => by
    rw [List.all_cons, Bool.and_eq_true] at h
    have ih := pairsB_len h.2
    obtain ⟨f1, f2⟩ := bcond h.1
    have f1 := ble_of f1
    have f2 := ble_of f2
    have hlen : (N.pairB p).length ≤ 150 := by
      unfold N.pairB
      simp only [List.length_append, textB_len, numB_len]
      cases p.kind == 0 <;> cases p.kind == 1 <;> cases p.kind == 2 <;> simp only [cond_true, cond_false, numB_len, textB_len, List.length_nil] <;> omega
    show (N.pairB p ++ N.pairsB r).length ≤ _
    rw [List.length_append, List.length_cons]; omega
theorem headB_len {h : List HPair} (hz : N.headCheck h = 0) : (N.headBytes h).length ≤ 1201 := by
  obtain ⟨c1, c2⟩ := check_fit hz
  have := pairsB_len c2
  unfold N.headBytes
  rw [List.length_append, numB_len]; omega
theorem ok_mailBytes (hN : FnOk Tryd.prog 75 dOutNum) : FnOk Tryd.prog 41 dMailBytes := by
  refine den_okF (env_ok (((((((TOk.nil _).cons ok_outString).cons ok_outRaw).cons (ok_outText hN)).cons hN).cons (ok_headBytes hN)).cons ok_mailCheck)) (E := eMailBytes) Tryd.func41 [] (by kernel_rfl) none0 fun m _ h => ?_
  obtain ⟨id, shop, key, head, body, due, hops⟩ := m
  obtain ⟨b1, h⟩ := bcond h
  obtain ⟨b2, h⟩ := bcond h
  obtain ⟨i1, i2⟩ := bcond b1
  obtain ⟨i3, i4⟩ := bcond b2
  obtain ⟨i5, i6⟩ := bcond h
  simp only at i1 i2 i3 i4 i5 i6
  refine (q_mailBytes ⟨id, shop, key, head, body, due, hops⟩).trans ?_
  simp only [nrm_rows]
  show _ = some (⟨.tup [.str (cond (N.mailCheck ⟨id, shop, key, head, body, due, hops⟩ != 0) (([] : Bytes), N.mailCheck ⟨id, shop, key, head, body, due, hops⟩) (N.mailB ⟨id, shop, key, head, body, due, hops⟩, 0)).1,
    .int .i64 (cond (N.mailCheck ⟨id, shop, key, head, body, due, hops⟩ != 0) (([] : Bytes), N.mailCheck ⟨id, shop, key, head, body, due, hops⟩) (N.mailB ⟨id, shop, key, head, body, due, hops⟩, 0)).2], [], []⟩ : DRes)
  cases hc : N.mailCheck ⟨id, shop, key, head, body, due, hops⟩ != 0 with
  | true => rfl
  | false =>
    have hz : N.mailCheck ⟨id, shop, key, head, body, due, hops⟩ = 0 := by simpa using hc
    obtain ⟨c1, c2, c3, c4, c5, _⟩ := mailCheck_fit hz
    simp only at c1 c2 c3 c4 c5
    have hl := headB_len c3
    have wh : IntKind.wrap .u64 hops = hops := wrap_u64 (by have := ile_of i5; omega) (by omega)
    have i5' := ile_of i5
    have hb : cond (N.headCheck head != 0) (([] : Bytes), N.headCheck head) (N.headBytes head, 0) = (N.headBytes head, 0) := by rw [c3]; rfl
    have o1 : ∀ (x s : Bytes), s.length ≤ 65535 → N.outText ⟨x, 0⟩ s = ⟨x ++ N.textB s, 0⟩ := fun x s hs => outText_le hs
    unfold N.mailB
    simp only
    simp (disch := omega) only [evs, raw_le, i1, i2, i3, i4, o1, outNum_8, outNum_1, numB_len, textB_len, wh, List.nil_append]
end Go.Ev

/- slices.Concat and slices.Grow at messages answer what the plain ones do: lemmas, no condition. -/
namespace Go.Ev
open Go Go.Proofs
set_option maxRecDepth 100000
-- FOLD

/-- A nil slice. -/
def vNils {α : Type} (c : RCod α) : VCod Unit where
  ok := fun | .nils s => Sh.beqL c.sh s | _ => false
  enc _ := .nils c.sh
  dec _ := ()
  ed _ := ⟨c.rf, rfl⟩
  law w I ρ v x h hx := by
    split at h
    · have := Sh.beqL_eq _ _ h; subst this; exact hx
    · cases h
def dGrow {α : Type} (c : RCod α) : Den := den (aCons (vNils c) (aOne (vInt .i64))) bNil (oOwn c) (fun a _ => cond (ile 0 a.2) (ile a.2 1000000) false) fun _ _ => (([] : List α), ())
/-- Lists one behind the other. -/
def N.flat {α : Type} : List (List α) → List α
  | [] => [] | l :: r => l ++ N.flat r
def sumLen {α : Type} : List (List α) → Nat
  | [] => 0 | l :: r => l.length + sumLen r
theorem flat_len {α : Type} : ∀ l : List (List α), (N.flat l).length = sumLen l
  | [] => rfl
  | l :: r => by show (l ++ N.flat r).length = _; rw [List.length_append, flat_len r]; rfl
def dConcat {α : Type} (c : RCod α) : Den := den (aOne (vSl (rSl c))) bNil (oV (vSl c)) (fun l _ => cond (Nat.ble l.length 1000) (Nat.ble (sumLen l) 100000) false) fun l _ => (N.flat l, ())
noncomputable def eGrowM : Env := { env Tryd.prog [] [] [] [89] with tr := true }
theorem q_growM (n : Int) : evFn eGrowM 89 ((aCons (vNils cMail) (aOne (vInt .i64))).enc ((), n)) ([]) some =
 cond (ilt n (0 : Int)) (none) (cond (ilt (0 : Int) (IntKind.wrap IntKind.i64 (n - IntKind.wrap IntKind.i64 ((0 : Int) - (0 : Int))))) (cond (decide ((0 : Int) ≤ IntKind.wrap IntKind.i64 (n - IntKind.wrap IntKind.i64 ((0 : Int) - (0 : Int))) ∧ IntKind.wrap IntKind.i64 (n - IntKind.wrap IntKind.i64 ((0 : Int) - (0 : Int))) * (↑(96 : Nat) : Int) ≤ (140737488355328 : Int) ∧ IntKind.wrap IntKind.i64 (n - IntKind.wrap IntKind.i64 ((0 : Int) - (0 : Int))) ≤ (140737488355328 : Int))) (some { v := V.own (1000 : Nat) (0 : Nat), bx := [], nb := [Box.sl [Sh.int IntKind.u64, Sh.str, Sh.str, Sh.slc [Sh.str, Sh.int IntKind.u8, Sh.int IntKind.i64, Sh.str], Sh.str, Sh.int IntKind.u64, Sh.int IntKind.u8] [] (0 : Nat)] : DRes }) (none)) (some { v := V.own (1000 : Nat) (0 : Nat), bx := [], nb := [Box.sl [Sh.int IntKind.u64, Sh.str, Sh.str, Sh.slc [Sh.str, Sh.int IntKind.u8, Sh.int IntKind.i64, Sh.str], Sh.str, Sh.int IntKind.u64, Sh.int IntKind.u8] [] (0 : Nat)] : DRes })) := by kernel_rfl
theorem ok_growM : FnOk Tryd.prog 89 (dGrow cMail) := by
  refine den_okF (E := eGrowM) (fun f D h => by cases h) Tryd.func89 [] (by kernel_rfl) none0 fun a _ h => ?_
  obtain ⟨⟨⟩, n⟩ := a
  obtain ⟨h1, h2⟩ := bcond h
  have h1 : 0 ≤ n := ile_of h1
  have h2 : n ≤ 1000000 := ile_of h2
  refine (q_growM n).trans ?_
  have w0 : IntKind.wrap .i64 ((0 : Int) - 0) = 0 := rfl
  have w : IntKind.wrap .i64 (n - 0) = n := by rw [Int.sub_zero]; exact wr_i64 (by omega) (by omega)
  rw [w0, w]
  have d : decide (0 ≤ n ∧ n * ((96 : Nat) : Int) ≤ 140737488355328 ∧ n ≤ 140737488355328) = true := decide_eq_true (by omega)
  rw [d, ilt_f h1]
  cases ilt 0 n <;> rfl
/-- The rows in rows. -/
def flatR : List (List V) → List (List V)
  | [] => [] | r :: rs => V.toRows (List.getD r 0 .undef) ++ flatR rs
theorem flatR_enc {α : Type} (c : RCod α) : ∀ l : List (List α), flatR (l.map (rSl c).enc) = (N.flat l).map c.enc
  | [] => rfl
  | l :: r => by
    show l.map c.enc ++ flatR (r.map (rSl c).enc) = (l ++ N.flat r).map c.enc
    rw [flatR_enc c r, List.map_append]
def schConcatM3 : SSch := { fr := [(0, .slc [.slc [.int .u64, .str, .str, .slc [.str, .int .u8, .int .i64, .str], .str, .int .u64, .int .u8]]), (3, .int .i64), (9, .slc [.slc [.int .u64, .str, .str, .slc [.str, .int .u8, .int .i64, .str], .str, .int .u64, .int .u8]]), (10, .int .i64), (11, .int .i64)], tab := [] }
def gConcatM3 : List Leaf → (Ex → St → Option R) → Option R
  | [.r r0, .i i3, .r r9, .i i10, .i i11], K => cond (i10 == r9.length) (cond (i11 == 0) (cond (i3 == 0) (cond (Nat.ble (flatR r9).length LIM) (cond (Nat.ble r9.length LIM)
      (K (.exit 0) { fr := [(0, .slc [.slc [.int .u64, .str, .str, .slc [.str, .int .u8, .int .i64, .str], .str, .int .u64, .int .u8]] r0), (3, .int .i64 (flatR r9).length)], tab := [] }) none) none) none) none) none
  | _, _ => none
def schConcatM11 : SSch := { fr := [(6, .own 10000), (25, .slc [.slc [.int .u64, .str, .str, .slc [.str, .int .u8, .int .i64, .str], .str, .int .u64, .int .u8]]), (26, .int .i64), (27, .int .i64)], tab := [(10000, .sl [.int .u64, .str, .str, .slc [.str, .int .u8, .int .i64, .str], .str, .int .u64, .int .u8])] }
def gConcatM11 : List Leaf → (Ex → St → Option R) → Option R
  | [.r r25, .i i26, .i i27, .r rx0], K => cond (i26 == r25.length) (cond (i27 == 0) (cond (Nat.beq rx0.length 0) (cond (Nat.ble (flatR r25).length LIM) (cond (Nat.ble r25.length LIM)
      (K (.exit 2) { fr := [(6, .own 10000 0)], tab := [(10000, .sl [.int .u64, .str, .str, .slc [.str, .int .u8, .int .i64, .str], .str, .int .u64, .int .u8] (flatR r25) 0)] }) none) none) none) none) none
  | _, _ => none
noncomputable def eConcatM : Env := env Tryd.prog [(89, dGrow cMail)] [(11, loopF schConcatM11 gConcatM11), (3, loopF schConcatM3 gConcatM3)] [(3, [(0, [0, 3, 9, 10, 11]), (1, [0, 3]), (1000, [2])]), (11, [(0, [6, 25, 26, 27]), (3, [6]), (1000, [2])])]
theorem q_concatM (l : List (List HMail)) : evFn eConcatM 64 ((aOne (vSl (rSl cMail))).enc l) ([]) some =
 cond ((↑(List.length (List.map (RCod.enc (rSl cMail)) l)) : Int) == (↑(List.length (List.map (RCod.enc (rSl cMail)) l)) : Int)) (cond (Nat.ble (List.length (flatR (List.map (RCod.enc (rSl cMail)) l))) (1000000 : Nat)) (cond (Nat.ble (List.length (List.map (RCod.enc (rSl cMail)) l)) (1000000 : Nat)) (cond (ile (↑(List.length (flatR (List.map (RCod.enc (rSl cMail)) l))) : Int) (1000000 : Int)) (cond ((↑(List.length (List.map (RCod.enc (rSl cMail)) l)) : Int) == (↑(List.length (List.map (RCod.enc (rSl cMail)) l)) : Int)) (cond (Nat.ble (List.length (flatR (List.map (RCod.enc (rSl cMail)) l))) (1000000 : Nat)) (cond (Nat.ble (List.length (List.map (RCod.enc (rSl cMail)) l)) (1000000 : Nat)) (some { v := V.slc [Sh.int IntKind.u64, Sh.str, Sh.str, Sh.slc [Sh.str, Sh.int IntKind.u8, Sh.int IntKind.i64, Sh.str], Sh.str, Sh.int IntKind.u64, Sh.int IntKind.u8] (flatR (List.map (RCod.enc (rSl cMail)) l)), bx := [] : DRes }) (none)) (none)) (none)) (none)) (none)) (none)) (none) := by kernel_rfl
theorem q_concatMR3 (r0 : List (List V)) (i3 : Int) (r9 : List (List V)) (i10 : Int) (i11 : Int) (K : Ex → St → Option R) : evRound eConcatM 64 3 { fr := [(0, .slc [.slc [.int .u64, .str, .str, .slc [.str, .int .u8, .int .i64, .str], .str, .int .u64, .int .u8]] r0), (3, .int .i64 i3), (9, .slc [.slc [.int .u64, .str, .str, .slc [.str, .int .u8, .int .i64, .str], .str, .int .u64, .int .u8]] r9), (10, .int .i64 i10), (11, .int .i64 i11)], tab := [] } K =
 cond (ilt i11 i10) (cond (decide ((0 : Int) ≤ i11 ∧ i11 < (↑(List.length r9) : Int))) (cond (ilt (IntKind.wrap IntKind.i64 (i3 + (↑(List.length (V.toRows (List.getD (List.getD r9 (Int.toNat i11) []) (0 : Nat) V.undef))) : Int))) (0 : Int)) (none) (K Ex.normal { fr := [((0 : Nat), V.slc [Sh.slc [Sh.int IntKind.u64, Sh.str, Sh.str, Sh.slc [Sh.str, Sh.int IntKind.u8, Sh.int IntKind.i64, Sh.str], Sh.str, Sh.int IntKind.u64, Sh.int IntKind.u8]] r0), ((3 : Nat), V.int IntKind.i64 (IntKind.wrap IntKind.i64 (i3 + (↑(List.length (V.toRows (List.getD (List.getD r9 (Int.toNat i11) []) (0 : Nat) V.undef))) : Int)))), ((9 : Nat), V.slc [Sh.slc [Sh.int IntKind.u64, Sh.str, Sh.str, Sh.slc [Sh.str, Sh.int IntKind.u8, Sh.int IntKind.i64, Sh.str], Sh.str, Sh.int IntKind.u64, Sh.int IntKind.u8]] r9), ((10 : Nat), V.int IntKind.i64 i10), ((11 : Nat), V.int IntKind.i64 (IntKind.wrap IntKind.i64 (i11 + (1 : Int))))], tab := [] : St })) (none)) (K (Ex.exit (0 : Nat)) { fr := [((0 : Nat), V.slc [Sh.slc [Sh.int IntKind.u64, Sh.str, Sh.str, Sh.slc [Sh.str, Sh.int IntKind.u8, Sh.int IntKind.i64, Sh.str], Sh.str, Sh.int IntKind.u64, Sh.int IntKind.u8]] r0), ((3 : Nat), V.int IntKind.i64 i3)], tab := [] : St }) := by kernel_rfl
theorem q_concatMR11 (r25 : List (List V)) (i26 : Int) (i27 : Int) (rx0 : List (List V)) (K : Ex → St → Option R) : evRound eConcatM 64 11 { fr := [(6, .own 10000 0), (25, .slc [.slc [.int .u64, .str, .str, .slc [.str, .int .u8, .int .i64, .str], .str, .int .u64, .int .u8]] r25), (26, .int .i64 i26), (27, .int .i64 i27)], tab := [(10000, .sl [.int .u64, .str, .str, .slc [.str, .int .u8, .int .i64, .str], .str, .int .u64, .int .u8] rx0 0)] } K =
 cond (ilt i27 i26) (cond (decide ((0 : Int) ≤ i27 ∧ i27 < (↑(List.length r25) : Int))) (cond (decide ((List.length rx0 + List.length (V.toRows (List.getD (List.getD r25 (Int.toNat i27) []) (0 : Nat) V.undef))) * (96 : Nat) ≤ (140737488355328 : Nat))) (K Ex.normal { fr := [((6 : Nat), V.own (10000 : Nat) (0 : Nat)), ((25 : Nat), V.slc [Sh.slc [Sh.int IntKind.u64, Sh.str, Sh.str, Sh.slc [Sh.str, Sh.int IntKind.u8, Sh.int IntKind.i64, Sh.str], Sh.str, Sh.int IntKind.u64, Sh.int IntKind.u8]] r25), ((26 : Nat), V.int IntKind.i64 i26), ((27 : Nat), V.int IntKind.i64 (IntKind.wrap IntKind.i64 (i27 + (1 : Int))))], tab := [((10000 : Nat), Box.sl [Sh.int IntKind.u64, Sh.str, Sh.str, Sh.slc [Sh.str, Sh.int IntKind.u8, Sh.int IntKind.i64, Sh.str], Sh.str, Sh.int IntKind.u64, Sh.int IntKind.u8] (rx0 ++ V.toRows (List.getD (List.getD r25 (Int.toNat i27) []) (0 : Nat) V.undef)) (0 : Nat))] : St }) (none)) (none)) (K (Ex.exit (2 : Nat)) { fr := [((6 : Nat), V.own (10000 : Nat) (0 : Nat))], tab := [((10000 : Nat), Box.sl [Sh.int IntKind.u64, Sh.str, Sh.str, Sh.slc [Sh.str, Sh.int IntKind.u8, Sh.int IntKind.i64, Sh.str], Sh.str, Sh.int IntKind.u64, Sh.int IntKind.u8] rx0 (0 : Nat))] : St }) := by kernel_rfl
theorem flatR_cons (x : List V) (l : List (List V)) : flatR (x :: l) = V.toRows (List.getD x 0 .undef) ++ flatR l := rfl
theorem ok_concatM : FnOk Tryd.prog 64 (dConcat cMail) := by
  refine den_okF (env_ok ((TOk.nil _).cons ok_growM)) (E := eConcatM) Tryd.func64 [3, 11] (by kernel_rfl) (two2 (rounds_of rfl fun l K q h => ?_) (rounds_of rfl fun l K q h => ?_)) fun a _ h => ?_
  · unfold gConcatM3 at h
    split at h
    · rename_i r0 i3 r i10 i11
      have h1 := (cond_none h).1; replace h := (cond_none h).2; have h2 := (cond_none h).1; replace h := (cond_none h).2; have h3 := (cond_none h).1; replace h := (cond_none h).2; have h4 := (cond_none h).1; replace h := (cond_none h).2; have h5 := (cond_none h).1; replace h := (cond_none h).2
      have e1 := ieq_of h1
      have e2 := ieq_of h2
      have e3 := ieq_of h3
      subst e1 e2 e3
      have h4 : (flatR r).length ≤ 1000000 := ble_of h4
      have h5 : r.length ≤ 1000000 := ble_of h5
      refine range_ind (E := eConcatM) (f := 64) (id := 3) (A := Int) r (fun n i => { fr := [(0, .slc [.slc [.int .u64, .str, .str, .slc [.str, .int .u8, .int .i64, .str], .str, .int .u64, .int .u8]] r0), (3, .int .i64 n), (9, .slc [.slc [.int .u64, .str, .str, .slc [.str, .int .u8, .int .i64, .str], .str, .int .u64, .int .u8]] r), (10, .int .i64 r.length), (11, .int .i64 i)], tab := [] })
        (fun n i => 0 ≤ n ∧ n + ((flatR (r.drop i)).length : Int) ≤ 1000000)
        (fun n l K => K (.exit 0) { fr := [(0, .slc [.slc [.int .u64, .str, .str, .slc [.str, .int .u8, .int .i64, .str], .str, .int .u64, .int .u8]] r0), (3, .int .i64 (n + ((flatR l).length : Int)))], tab := [] }) (fun n i ⟨hn, hn2⟩ hi => ?_) (fun n _ => ?_) 0 0 (Int.le_refl _) (by omega) ⟨Int.le_refl _, by simp; omega⟩ K q (by simpa using h)
      · rw [drop_row hi, flatR_cons, List.length_append] at hn2
        have w := wr_i64 (n := n + ((V.toRows (List.getD (r.getD i []) 0 .undef)).length : Int)) (by omega) (by omega)
        have w2 := wr_i64 (n := (i : Int) + 1) (by omega) (by omega)
        refine .inl ⟨n + ((V.toRows (List.getD (r.getD i []) 0 .undef)).length : Int), ⟨by omega, by omega⟩, fun K => ?_, fun K => ?_⟩
        · rw [q_concatMR3, ilt_t (by omega), decide_eq_true (by omega), Int.toNat_natCast, w, w2, ilt_f (by omega)]
          rfl
        · show K _ _ = K _ _
          rw [flatR_cons, List.length_append, Int.natCast_add, Int.add_assoc]
      · refine ⟨.exit 0, { fr := [(0, .slc [.slc [.int .u64, .str, .str, .slc [.str, .int .u8, .int .i64, .str], .str, .int .u64, .int .u8]] r0), (3, .int .i64 n)], tab := [] }, by simp, fun K => ?_, fun K => ?_⟩
        · rw [q_concatMR3, ilt_f (Int.le_refl _)]
          rfl
        · show K _ _ = K _ _
          rw [show ((flatR []).length : Int) = 0 from rfl, Int.add_zero]
    · cases h
  · unfold gConcatM11 at h
    split at h
    · rename_i r i26 i27 acc
      have h1 := (cond_none h).1; replace h := (cond_none h).2; have h2 := (cond_none h).1; replace h := (cond_none h).2; have h3 := (cond_none h).1; replace h := (cond_none h).2; have h4 := (cond_none h).1; replace h := (cond_none h).2; have h5 := (cond_none h).1; replace h := (cond_none h).2
      have e1 := ieq_of h1
      have e2 := ieq_of h2
      subst e1 e2
      have h3 : acc.length = 0 := Nat.eq_of_beq_eq_true h3
      obtain rfl : acc = [] := List.length_eq_zero_iff.1 h3
      have h4 : (flatR r).length ≤ 1000000 := ble_of h4
      have h5 : r.length ≤ 1000000 := ble_of h5
      refine range_ind (E := eConcatM) (f := 64) (id := 11) (A := List (List V)) r (fun n i => { fr := [(6, .own 10000 0), (25, .slc [.slc [.int .u64, .str, .str, .slc [.str, .int .u8, .int .i64, .str], .str, .int .u64, .int .u8]] r), (26, .int .i64 r.length), (27, .int .i64 i)], tab := [(10000, .sl [.int .u64, .str, .str, .slc [.str, .int .u8, .int .i64, .str], .str, .int .u64, .int .u8] n 0)] })
        (fun n i => n.length + (flatR (r.drop i)).length ≤ 1000000)
        (fun n l K => K (.exit 2) { fr := [(6, .own 10000 0)], tab := [(10000, .sl [.int .u64, .str, .str, .slc [.str, .int .u8, .int .i64, .str], .str, .int .u64, .int .u8] (n ++ flatR l) 0)] }) (fun n i hn hi => ?_) (fun n _ => ?_) [] 0 (Int.le_refl _) (by omega) (by simp; omega) K q (by simpa using h)
      · rw [drop_row hi, flatR_cons, List.length_append] at hn
        have w2 := wr_i64 (n := (i : Int) + 1) (by omega) (by omega)
        refine .inl ⟨n ++ V.toRows (List.getD (r.getD i []) 0 .undef), by rw [List.length_append]; omega, fun K => ?_, fun K => ?_⟩
        · rw [q_concatMR11, ilt_t (by omega), decide_eq_true (by omega), Int.toNat_natCast, w2]
          rw [decide_eq_true (by omega)]
          rfl
        · show K _ _ = K _ _
          rw [flatR_cons, List.append_assoc]
      · refine ⟨.exit 2, { fr := [(6, .own 10000 0)], tab := [(10000, .sl [.int .u64, .str, .str, .slc [.str, .int .u8, .int .i64, .str], .str, .int .u64, .int .u8] n 0)] }, by simp, fun K => ?_, fun K => ?_⟩
        · rw [q_concatMR11, ilt_f (Int.le_refl _)]
          rfl
        · show K _ _ = K _ _
          rw [show flatR [] = [] from rfl, List.append_nil]
    · cases h
  · obtain ⟨h1, h2⟩ := bcond h
    have h1 : a.length ≤ 1000 := ble_of h1
    have h2 : sumLen a ≤ 100000 := ble_of h2
    refine (q_concatM a).trans ?_
    have e : (flatR (a.map (rSl cMail).enc)).length = sumLen a := by rw [flatR_enc, List.length_map, flat_len]
    rw [e, List.length_map, ble_t (show sumLen a ≤ 1000000 by omega), ble_t (show a.length ≤ 1000000 by omega), ile_t (by omega), flatR_enc]
    rw [show (((a.length : Int)) == (a.length : Int)) = true from beq_self_eq_true _]
    rfl
end Go.Ev

/- The functions on rises answer what the plain ones do: lemmas, no condition. -/
namespace Go.Ev
open Go Go.Proofs
set_option maxRecDepth 100000
-- FOLD

structure HRise where
  total : Int
  kept : List HMail
def rowRise (r : List V) : HRise := ⟨(r.getD 0 .undef).toInt, (r.getD 1 .undef).toRows.map cMail.dec⟩
def cRise : RCod HRise := (((rInt .u64).and (rSl cMail)).iso (fun p => (⟨p.1, p.2⟩ : HRise)) (fun o => (o.total, o.kept)) (fun _ => rfl) fun _ => rfl).spelt
  [.int .u64, .slc [.int .u64, .str, .str, .slc [.str, .int .u8, .int .i64, .str], .str, .int .u64, .int .u8]]
  (fun x => [.int .u64 x.total, .slc [.int .u64, .str, .str, .slc [.str, .int .u8, .int .i64, .str], .str, .int .u64, .int .u8] (x.kept.map cMail.enc)]) rowRise rfl (fun _ => rfl) fun r => by
    show (⟨((r.take 1).getD 0 .undef).toInt, ((r.drop 1).getD 0 .undef).toRows.map cMail.dec⟩ : HRise) = rowRise r
    simp only [getD_take_one, getD_drop_one]; rfl
def rise0 : HRise := ⟨0, []⟩
theorem dec_encs {α : Type} (c : RCod α) (l : List α) : (l.map c.enc).map c.dec = l := by
  rw [List.map_map]
  exact (List.map_congr_left (fun a _ => c.de a)).trans (List.map_id _)
namespace N
def risePut (x : HRise) (m : HMail) : HRise × Int :=
  cond (mailCheck m != 0) (x, mailCheck m) (cond (x.total == 18446744073709551615) (x, 18)
    (⟨x.total + 1, (x.kept ++ [m]).drop (x.kept.length + 1 - 16)⟩, 0))
def lightMs : List HMail → Bool
  | [] => true
  | m :: r => cond (lightM m) (lightMs r) false
end N
def goodRise (x : HRise) : Bool := cond (cond (ile 0 x.total) (ile x.total 18446744073709551615) false) (cond (Nat.ble x.kept.length 16) (x.kept.all smallM) false) false
def dTotal : Den := den (aOne (vAgg cRise)) bNil (oV (vInt .u64)) (fun _ _ => true) fun x _ => (x.total, ())
def dRisePut : Den := den (aCons (vAgg cRise) (aOne (vAgg cMail))) bNil (oTup (aCons (vAgg cRise) (aOne (vInt .i64)))) (fun a _ => cond (goodRise a.1) (smallM a.2) false) fun a _ => (N.risePut a.1 a.2, ())
noncomputable def eTotal : Env := env Tryd.prog [] [] []
theorem q_total (x : HRise) : evFn eTotal 30 ((aOne (vAgg cRise)).enc x) ([]) some =
 some { v := V.int IntKind.u64 (HRise.total x), bx := [] : DRes } := by kernel_rfl
theorem ok_total : FnOk Tryd.prog 30 dTotal := by
  refine den_okF (env_ok (TOk.nil _)) (E := eTotal) Tryd.func30 [] (by kernel_rfl) none0 fun x _ _ => ?_
  exact q_total x
noncomputable def eRisePut : Env := env Tryd.prog [(42, dMailCheck), (23, dMailCopy), (64, dConcat cMail)] [] []
theorem q_risePut (x : HRise) (m : HMail) : evFn eRisePut 32 ((aCons (vAgg cRise) (aOne (vAgg cMail))).enc (x, m)) ([]) some =
 cond (N.mailCheck { id := HMail.id m, shop := HMail.shop m, key := HMail.key m, head := List.map (fun r => { key := V.toStr (List.getD r (0 : Nat) V.undef), kind := V.toInt (List.getD r (1 : Nat) V.undef), num := V.toInt (List.getD r (2 : Nat) V.undef), text := V.toStr (List.getD r (3 : Nat) V.undef) : HPair }) (List.map (fun p => [V.str (HPair.key p), V.int IntKind.u8 (HPair.kind p), V.int IntKind.i64 (HPair.num p), V.str (HPair.text p)]) (HMail.head m)), body := HMail.body m, due := HMail.due m, hops := HMail.hops m : HMail } != (0 : Int)) (some { v := V.tup [V.agg [V.int IntKind.u64 (HRise.total x), V.slc [Sh.int IntKind.u64, Sh.str, Sh.str, Sh.slc [Sh.str, Sh.int IntKind.u8, Sh.int IntKind.i64, Sh.str], Sh.str, Sh.int IntKind.u64, Sh.int IntKind.u8] (List.map (RCod.enc cMail) (HRise.kept x))], V.int IntKind.i64 (N.mailCheck { id := HMail.id m, shop := HMail.shop m, key := HMail.key m, head := List.map (fun r => { key := V.toStr (List.getD r (0 : Nat) V.undef), kind := V.toInt (List.getD r (1 : Nat) V.undef), num := V.toInt (List.getD r (2 : Nat) V.undef), text := V.toStr (List.getD r (3 : Nat) V.undef) : HPair }) (List.map (fun p => [V.str (HPair.key p), V.int IntKind.u8 (HPair.kind p), V.int IntKind.i64 (HPair.num p), V.str (HPair.text p)]) (HMail.head m)), body := HMail.body m, due := HMail.due m, hops := HMail.hops m : HMail })], bx := [] : DRes }) (cond (HRise.total x == (18446744073709551615 : Int)) (some { v := V.tup [V.agg [V.int IntKind.u64 (HRise.total x), V.slc [Sh.int IntKind.u64, Sh.str, Sh.str, Sh.slc [Sh.str, Sh.int IntKind.u8, Sh.int IntKind.i64, Sh.str], Sh.str, Sh.int IntKind.u64, Sh.int IntKind.u8] (List.map (RCod.enc cMail) (HRise.kept x))], V.int IntKind.i64 (18 : Int)], bx := [] : DRes }) (cond (Nat.ble (List.length (List.map (fun r => { key := V.toStr (List.getD r (0 : Nat) V.undef), kind := V.toInt (List.getD r (1 : Nat) V.undef), num := V.toInt (List.getD r (2 : Nat) V.undef), text := V.toStr (List.getD r (3 : Nat) V.undef) : HPair }) (List.map (fun p => [V.str (HPair.key p), V.int IntKind.u8 (HPair.kind p), V.int IntKind.i64 (HPair.num p), V.str (HPair.text p)]) (HMail.head m)))) (1000000 : Nat)) (cond (Nat.ble (List.length (List.map (RCod.dec cMail) (List.map (RCod.enc cMail) (HRise.kept x))) + (1 : Nat)) (100000 : Nat)) (cond (decide (((0 : Int) ≤ bif ilt (0 : Int) (IntKind.wrap IntKind.i64 ((↑(List.length (List.map (RCod.enc cMail) (N.flat [List.map (RCod.dec cMail) (List.map (RCod.enc cMail) (HRise.kept x)), List.map (RCod.dec cMail) [[V.int IntKind.u64 (HMail.id m), V.str (HMail.shop m), V.str (HMail.key m), V.slc [Sh.str, Sh.int IntKind.u8, Sh.int IntKind.i64, Sh.str] (List.map (fun p => [V.str (HPair.key p), V.int IntKind.u8 (HPair.kind p), V.int IntKind.i64 (HPair.num p), V.str (HPair.text p)]) (List.map (fun r => { key := V.toStr (List.getD r (0 : Nat) V.undef), kind := V.toInt (List.getD r (1 : Nat) V.undef), num := V.toInt (List.getD r (2 : Nat) V.undef), text := V.toStr (List.getD r (3 : Nat) V.undef) : HPair }) (List.map (fun p => [V.str (HPair.key p), V.int IntKind.u8 (HPair.kind p), V.int IntKind.i64 (HPair.num p), V.str (HPair.text p)]) (HMail.head m)))), V.str (HMail.body m), V.int IntKind.u64 (HMail.due m), V.int IntKind.u8 (HMail.hops m)]]]))) : Int) - (16 : Int))) then IntKind.wrap IntKind.i64 ((↑(List.length (List.map (RCod.enc cMail) (N.flat [List.map (RCod.dec cMail) (List.map (RCod.enc cMail) (HRise.kept x)), List.map (RCod.dec cMail) [[V.int IntKind.u64 (HMail.id m), V.str (HMail.shop m), V.str (HMail.key m), V.slc [Sh.str, Sh.int IntKind.u8, Sh.int IntKind.i64, Sh.str] (List.map (fun p => [V.str (HPair.key p), V.int IntKind.u8 (HPair.kind p), V.int IntKind.i64 (HPair.num p), V.str (HPair.text p)]) (List.map (fun r => { key := V.toStr (List.getD r (0 : Nat) V.undef), kind := V.toInt (List.getD r (1 : Nat) V.undef), num := V.toInt (List.getD r (2 : Nat) V.undef), text := V.toStr (List.getD r (3 : Nat) V.undef) : HPair }) (List.map (fun p => [V.str (HPair.key p), V.int IntKind.u8 (HPair.kind p), V.int IntKind.i64 (HPair.num p), V.str (HPair.text p)]) (HMail.head m)))), V.str (HMail.body m), V.int IntKind.u64 (HMail.due m), V.int IntKind.u8 (HMail.hops m)]]]))) : Int) - (16 : Int)) else (0 : Int)) ∧ (bif ilt (0 : Int) (IntKind.wrap IntKind.i64 ((↑(List.length (List.map (RCod.enc cMail) (N.flat [List.map (RCod.dec cMail) (List.map (RCod.enc cMail) (HRise.kept x)), List.map (RCod.dec cMail) [[V.int IntKind.u64 (HMail.id m), V.str (HMail.shop m), V.str (HMail.key m), V.slc [Sh.str, Sh.int IntKind.u8, Sh.int IntKind.i64, Sh.str] (List.map (fun p => [V.str (HPair.key p), V.int IntKind.u8 (HPair.kind p), V.int IntKind.i64 (HPair.num p), V.str (HPair.text p)]) (List.map (fun r => { key := V.toStr (List.getD r (0 : Nat) V.undef), kind := V.toInt (List.getD r (1 : Nat) V.undef), num := V.toInt (List.getD r (2 : Nat) V.undef), text := V.toStr (List.getD r (3 : Nat) V.undef) : HPair }) (List.map (fun p => [V.str (HPair.key p), V.int IntKind.u8 (HPair.kind p), V.int IntKind.i64 (HPair.num p), V.str (HPair.text p)]) (HMail.head m)))), V.str (HMail.body m), V.int IntKind.u64 (HMail.due m), V.int IntKind.u8 (HMail.hops m)]]]))) : Int) - (16 : Int))) then IntKind.wrap IntKind.i64 ((↑(List.length (List.map (RCod.enc cMail) (N.flat [List.map (RCod.dec cMail) (List.map (RCod.enc cMail) (HRise.kept x)), List.map (RCod.dec cMail) [[V.int IntKind.u64 (HMail.id m), V.str (HMail.shop m), V.str (HMail.key m), V.slc [Sh.str, Sh.int IntKind.u8, Sh.int IntKind.i64, Sh.str] (List.map (fun p => [V.str (HPair.key p), V.int IntKind.u8 (HPair.kind p), V.int IntKind.i64 (HPair.num p), V.str (HPair.text p)]) (List.map (fun r => { key := V.toStr (List.getD r (0 : Nat) V.undef), kind := V.toInt (List.getD r (1 : Nat) V.undef), num := V.toInt (List.getD r (2 : Nat) V.undef), text := V.toStr (List.getD r (3 : Nat) V.undef) : HPair }) (List.map (fun p => [V.str (HPair.key p), V.int IntKind.u8 (HPair.kind p), V.int IntKind.i64 (HPair.num p), V.str (HPair.text p)]) (HMail.head m)))), V.str (HMail.body m), V.int IntKind.u64 (HMail.due m), V.int IntKind.u8 (HMail.hops m)]]]))) : Int) - (16 : Int)) else (0 : Int)) ≤ (↑(List.length (List.map (RCod.enc cMail) (N.flat [List.map (RCod.dec cMail) (List.map (RCod.enc cMail) (HRise.kept x)), List.map (RCod.dec cMail) [[V.int IntKind.u64 (HMail.id m), V.str (HMail.shop m), V.str (HMail.key m), V.slc [Sh.str, Sh.int IntKind.u8, Sh.int IntKind.i64, Sh.str] (List.map (fun p => [V.str (HPair.key p), V.int IntKind.u8 (HPair.kind p), V.int IntKind.i64 (HPair.num p), V.str (HPair.text p)]) (List.map (fun r => { key := V.toStr (List.getD r (0 : Nat) V.undef), kind := V.toInt (List.getD r (1 : Nat) V.undef), num := V.toInt (List.getD r (2 : Nat) V.undef), text := V.toStr (List.getD r (3 : Nat) V.undef) : HPair }) (List.map (fun p => [V.str (HPair.key p), V.int IntKind.u8 (HPair.kind p), V.int IntKind.i64 (HPair.num p), V.str (HPair.text p)]) (HMail.head m)))), V.str (HMail.body m), V.int IntKind.u64 (HMail.due m), V.int IntKind.u8 (HMail.hops m)]]]))) : Int))) (some { v := V.tup [V.agg [V.int IntKind.u64 (IntKind.wrap IntKind.u64 (HRise.total x + (1 : Int))), V.slc [Sh.int IntKind.u64, Sh.str, Sh.str, Sh.slc [Sh.str, Sh.int IntKind.u8, Sh.int IntKind.i64, Sh.str], Sh.str, Sh.int IntKind.u64, Sh.int IntKind.u8] (List.drop (Int.toNat (bif ilt (0 : Int) (IntKind.wrap IntKind.i64 ((↑(List.length (List.map (RCod.enc cMail) (N.flat [List.map (RCod.dec cMail) (List.map (RCod.enc cMail) (HRise.kept x)), List.map (RCod.dec cMail) [[V.int IntKind.u64 (HMail.id m), V.str (HMail.shop m), V.str (HMail.key m), V.slc [Sh.str, Sh.int IntKind.u8, Sh.int IntKind.i64, Sh.str] (List.map (fun p => [V.str (HPair.key p), V.int IntKind.u8 (HPair.kind p), V.int IntKind.i64 (HPair.num p), V.str (HPair.text p)]) (List.map (fun r => { key := V.toStr (List.getD r (0 : Nat) V.undef), kind := V.toInt (List.getD r (1 : Nat) V.undef), num := V.toInt (List.getD r (2 : Nat) V.undef), text := V.toStr (List.getD r (3 : Nat) V.undef) : HPair }) (List.map (fun p => [V.str (HPair.key p), V.int IntKind.u8 (HPair.kind p), V.int IntKind.i64 (HPair.num p), V.str (HPair.text p)]) (HMail.head m)))), V.str (HMail.body m), V.int IntKind.u64 (HMail.due m), V.int IntKind.u8 (HMail.hops m)]]]))) : Int) - (16 : Int))) then IntKind.wrap IntKind.i64 ((↑(List.length (List.map (RCod.enc cMail) (N.flat [List.map (RCod.dec cMail) (List.map (RCod.enc cMail) (HRise.kept x)), List.map (RCod.dec cMail) [[V.int IntKind.u64 (HMail.id m), V.str (HMail.shop m), V.str (HMail.key m), V.slc [Sh.str, Sh.int IntKind.u8, Sh.int IntKind.i64, Sh.str] (List.map (fun p => [V.str (HPair.key p), V.int IntKind.u8 (HPair.kind p), V.int IntKind.i64 (HPair.num p), V.str (HPair.text p)]) (List.map (fun r => { key := V.toStr (List.getD r (0 : Nat) V.undef), kind := V.toInt (List.getD r (1 : Nat) V.undef), num := V.toInt (List.getD r (2 : Nat) V.undef), text := V.toStr (List.getD r (3 : Nat) V.undef) : HPair }) (List.map (fun p => [V.str (HPair.key p), V.int IntKind.u8 (HPair.kind p), V.int IntKind.i64 (HPair.num p), V.str (HPair.text p)]) (HMail.head m)))), V.str (HMail.body m), V.int IntKind.u64 (HMail.due m), V.int IntKind.u8 (HMail.hops m)]]]))) : Int) - (16 : Int)) else (0 : Int))) (List.take (List.length (List.map (RCod.enc cMail) (N.flat [List.map (RCod.dec cMail) (List.map (RCod.enc cMail) (HRise.kept x)), List.map (RCod.dec cMail) [[V.int IntKind.u64 (HMail.id m), V.str (HMail.shop m), V.str (HMail.key m), V.slc [Sh.str, Sh.int IntKind.u8, Sh.int IntKind.i64, Sh.str] (List.map (fun p => [V.str (HPair.key p), V.int IntKind.u8 (HPair.kind p), V.int IntKind.i64 (HPair.num p), V.str (HPair.text p)]) (List.map (fun r => { key := V.toStr (List.getD r (0 : Nat) V.undef), kind := V.toInt (List.getD r (1 : Nat) V.undef), num := V.toInt (List.getD r (2 : Nat) V.undef), text := V.toStr (List.getD r (3 : Nat) V.undef) : HPair }) (List.map (fun p => [V.str (HPair.key p), V.int IntKind.u8 (HPair.kind p), V.int IntKind.i64 (HPair.num p), V.str (HPair.text p)]) (HMail.head m)))), V.str (HMail.body m), V.int IntKind.u64 (HMail.due m), V.int IntKind.u8 (HMail.hops m)]]]))) (List.map (RCod.enc cMail) (N.flat [List.map (RCod.dec cMail) (List.map (RCod.enc cMail) (HRise.kept x)), List.map (RCod.dec cMail) [[V.int IntKind.u64 (HMail.id m), V.str (HMail.shop m), V.str (HMail.key m), V.slc [Sh.str, Sh.int IntKind.u8, Sh.int IntKind.i64, Sh.str] (List.map (fun p => [V.str (HPair.key p), V.int IntKind.u8 (HPair.kind p), V.int IntKind.i64 (HPair.num p), V.str (HPair.text p)]) (List.map (fun r => { key := V.toStr (List.getD r (0 : Nat) V.undef), kind := V.toInt (List.getD r (1 : Nat) V.undef), num := V.toInt (List.getD r (2 : Nat) V.undef), text := V.toStr (List.getD r (3 : Nat) V.undef) : HPair }) (List.map (fun p => [V.str (HPair.key p), V.int IntKind.u8 (HPair.kind p), V.int IntKind.i64 (HPair.num p), V.str (HPair.text p)]) (HMail.head m)))), V.str (HMail.body m), V.int IntKind.u64 (HMail.due m), V.int IntKind.u8 (HMail.hops m)]]]))))], V.int IntKind.i64 (0 : Int)], bx := [] : DRes }) (none)) (none)) (none))) := by kernel_rfl
theorem wr_u64 {n : Int} (h1 : 0 ≤ n) (h2 : n ≤ 18446744073709551615) : IntKind.wrap .u64 n = n := by
  simp only [IntKind.wrap, IntKind.signed, IntKind.bits]
  simp
  omega
theorem mail_row (m : HMail) : cMail.dec [V.int .u64 m.id, .str m.shop, .str m.key, .slc [.str, .int .u8, .int .i64, .str] (m.head.map fun p => [V.str p.key, V.int .u8 p.kind, V.int .i64 p.num, V.str p.text]), .str m.body, .int .u64 m.due, .int .u8 m.hops] = m := cMail.de m
theorem flat_two {α : Type} (a b : List α) : N.flat [a, b] = a ++ b := by
  show a ++ (b ++ []) = _
  rw [List.append_nil]
theorem ok_risePut : FnOk Tryd.prog 32 dRisePut := by
  refine den_okF (env_ok ((((TOk.nil _).cons ok_concatM).cons ok_mailCopy).cons ok_mailCheck)) (E := eRisePut) Tryd.func32 [] (by kernel_rfl) none0 fun a _ h => ?_
  obtain ⟨x, m⟩ := a
  obtain ⟨h1, h2⟩ := bcond h
  obtain ⟨h3, h4⟩ := bcond h1
  obtain ⟨h3, h5⟩ := bcond h3
  obtain ⟨h4, h6⟩ := bcond h4
  have h2 : m.head.length ≤ 1000000 := ble_of h2
  have h3 : 0 ≤ x.total := ile_of h3
  have h5 : x.total ≤ 18446744073709551615 := ile_of h5
  have h4 : x.kept.length ≤ 16 := ble_of h4
  refine (q_risePut x m).trans ?_
  show _ = some (⟨.tup [.agg (cRise.enc (N.risePut x m).1), .int .i64 (N.risePut x m).2], [], []⟩ : DRes)
  simp only [pairs_enc, dec_encs, List.map_cons, List.map_nil, mail_row, flat_two]
  unfold N.risePut
  cases hc : N.mailCheck m != 0 with
  | true => rfl
  | false =>
    cases ht : x.total == 18446744073709551615 with
    | true => rfl
    | false =>
      have ht : x.total ≠ 18446744073709551615 := fun e => by rw [e] at ht; cases ht
      have l1 : (List.map (RCod.enc cMail) (x.kept ++ [m])).length = x.kept.length + 1 := by simp
      have w : IntKind.wrap .i64 (((x.kept.length + 1 : Nat) : Int) - 16) = ((x.kept.length + 1 : Nat) : Int) - 16 := wr_i64 (by omega) (by omega)
      have w2 : IntKind.wrap .u64 (x.total + 1) = x.total + 1 := wr_u64 (by omega) (by omega)
      rw [l1, w, w2, List.take_of_length_le (Nat.le_of_eq l1), ble_t h2, ble_t (show x.kept.length + 1 ≤ 100000 by omega)]
      cases hl : ilt 0 (((x.kept.length + 1 : Nat) : Int) - 16) with
      | true =>
        have hl := ilt_of hl
        simp only [cond_true, cond_false]
        rw [decide_eq_true (by omega), ← List.map_drop, show ((((x.kept.length + 1 : Nat) : Int) - 16)).toNat = x.kept.length + 1 - 16 by omega]
        rfl
      | false =>
        have hl := ilt_nof hl
        simp only [cond_true, cond_false]
        rw [decide_eq_true (by omega), show x.kept.length + 1 - 16 = 0 by omega]
        rfl
end Go.Ev

/- What a rise tells behind a number: lemmas, no condition. -/
namespace Go.Ev
open Go Go.Proofs
set_option maxRecDepth 100000
-- FOLD

namespace N
def riseAfter (x : HRise) (n : Int) : Int × HMail × Bool :=
  cond (ile x.total n) (0, mail0, false) (cond (ilt (x.total - x.kept.length + 1) (n + 1)) (n + 1, x.kept.getD (n + 1 - (x.total - x.kept.length + 1)).toNat mail0, true) (x.total - x.kept.length + 1, x.kept.getD 0 mail0, true))
end N
def fullRise (x : HRise) : Bool := cond (goodRise x) (cond (ile x.kept.length x.total) (cond (Nat.beq x.kept.length 0) (x.total == 0) true) false) false
def dRiseAfter : Den := den (aCons (vAgg cRise) (aOne (vInt .u64))) bNil (oTup (aCons (vInt .u64) (aCons (vAgg cMail) (aOne vBool)))) (fun a _ => cond (fullRise a.1) (cond (ile 0 a.2) (ile a.2 18446744073709551615) false) false) fun a _ => (N.riseAfter a.1 a.2, ())
noncomputable def eRiseAfter : Env := env Tryd.prog [(23, dMailCopy)] [] []
theorem q_riseAfter (x : HRise) (n : Int) : evFn eRiseAfter 31 ((aCons (vAgg cRise) (aOne (vInt .u64))).enc (x, n)) ([]) some =
 cond (ile (HRise.total x) n) (some { v := V.tup [V.int IntKind.u64 (0 : Int), V.agg [V.int IntKind.u64 (0 : Int), V.str [], V.str [], V.slc [Sh.str, Sh.int IntKind.u8, Sh.int IntKind.i64, Sh.str] [], V.str [], V.int IntKind.u64 (0 : Int), V.int IntKind.u8 (0 : Int)], V.bool false], bx := [] : DRes }) (cond (decide ((0 : Int) ≤ IntKind.wrap IntKind.u64 ((bif ilt (IntKind.wrap IntKind.u64 (IntKind.wrap IntKind.u64 (HRise.total x - IntKind.wrap IntKind.u64 (↑(List.length (List.map (RCod.enc cMail) (HRise.kept x))) : Int)) + (1 : Int))) (IntKind.wrap IntKind.u64 (n + (1 : Int))) then IntKind.wrap IntKind.u64 (n + (1 : Int)) else IntKind.wrap IntKind.u64 (IntKind.wrap IntKind.u64 (HRise.total x - IntKind.wrap IntKind.u64 (↑(List.length (List.map (RCod.enc cMail) (HRise.kept x))) : Int)) + (1 : Int))) - IntKind.wrap IntKind.u64 (IntKind.wrap IntKind.u64 (HRise.total x - IntKind.wrap IntKind.u64 (↑(List.length (List.map (RCod.enc cMail) (HRise.kept x))) : Int)) + (1 : Int))) ∧ IntKind.wrap IntKind.u64 ((bif ilt (IntKind.wrap IntKind.u64 (IntKind.wrap IntKind.u64 (HRise.total x - IntKind.wrap IntKind.u64 (↑(List.length (List.map (RCod.enc cMail) (HRise.kept x))) : Int)) + (1 : Int))) (IntKind.wrap IntKind.u64 (n + (1 : Int))) then IntKind.wrap IntKind.u64 (n + (1 : Int)) else IntKind.wrap IntKind.u64 (IntKind.wrap IntKind.u64 (HRise.total x - IntKind.wrap IntKind.u64 (↑(List.length (List.map (RCod.enc cMail) (HRise.kept x))) : Int)) + (1 : Int))) - IntKind.wrap IntKind.u64 (IntKind.wrap IntKind.u64 (HRise.total x - IntKind.wrap IntKind.u64 (↑(List.length (List.map (RCod.enc cMail) (HRise.kept x))) : Int)) + (1 : Int))) < (↑(List.length (List.map (RCod.enc cMail) (HRise.kept x))) : Int))) (cond (Nat.ble (List.length (List.map (fun r => { key := V.toStr (List.getD r (0 : Nat) V.undef), kind := V.toInt (List.getD r (1 : Nat) V.undef), num := V.toInt (List.getD r (2 : Nat) V.undef), text := V.toStr (List.getD r (3 : Nat) V.undef) : HPair }) (V.toRows (List.getD (List.getD (List.map (RCod.enc cMail) (HRise.kept x)) (Int.toNat (IntKind.wrap IntKind.u64 ((bif ilt (IntKind.wrap IntKind.u64 (IntKind.wrap IntKind.u64 (HRise.total x - IntKind.wrap IntKind.u64 (↑(List.length (List.map (RCod.enc cMail) (HRise.kept x))) : Int)) + (1 : Int))) (IntKind.wrap IntKind.u64 (n + (1 : Int))) then IntKind.wrap IntKind.u64 (n + (1 : Int)) else IntKind.wrap IntKind.u64 (IntKind.wrap IntKind.u64 (HRise.total x - IntKind.wrap IntKind.u64 (↑(List.length (List.map (RCod.enc cMail) (HRise.kept x))) : Int)) + (1 : Int))) - IntKind.wrap IntKind.u64 (IntKind.wrap IntKind.u64 (HRise.total x - IntKind.wrap IntKind.u64 (↑(List.length (List.map (RCod.enc cMail) (HRise.kept x))) : Int)) + (1 : Int))))) []) (3 : Nat) V.undef)))) (1000000 : Nat)) (some { v := V.tup [V.int IntKind.u64 (bif ilt (IntKind.wrap IntKind.u64 (IntKind.wrap IntKind.u64 (HRise.total x - IntKind.wrap IntKind.u64 (↑(List.length (List.map (RCod.enc cMail) (HRise.kept x))) : Int)) + (1 : Int))) (IntKind.wrap IntKind.u64 (n + (1 : Int))) then IntKind.wrap IntKind.u64 (n + (1 : Int)) else IntKind.wrap IntKind.u64 (IntKind.wrap IntKind.u64 (HRise.total x - IntKind.wrap IntKind.u64 (↑(List.length (List.map (RCod.enc cMail) (HRise.kept x))) : Int)) + (1 : Int))), V.agg [V.int IntKind.u64 (V.toInt (List.getD (List.getD (List.map (RCod.enc cMail) (HRise.kept x)) (Int.toNat (IntKind.wrap IntKind.u64 ((bif ilt (IntKind.wrap IntKind.u64 (IntKind.wrap IntKind.u64 (HRise.total x - IntKind.wrap IntKind.u64 (↑(List.length (List.map (RCod.enc cMail) (HRise.kept x))) : Int)) + (1 : Int))) (IntKind.wrap IntKind.u64 (n + (1 : Int))) then IntKind.wrap IntKind.u64 (n + (1 : Int)) else IntKind.wrap IntKind.u64 (IntKind.wrap IntKind.u64 (HRise.total x - IntKind.wrap IntKind.u64 (↑(List.length (List.map (RCod.enc cMail) (HRise.kept x))) : Int)) + (1 : Int))) - IntKind.wrap IntKind.u64 (IntKind.wrap IntKind.u64 (HRise.total x - IntKind.wrap IntKind.u64 (↑(List.length (List.map (RCod.enc cMail) (HRise.kept x))) : Int)) + (1 : Int))))) []) (0 : Nat) V.undef)), V.str (V.toStr (List.getD (List.getD (List.map (RCod.enc cMail) (HRise.kept x)) (Int.toNat (IntKind.wrap IntKind.u64 ((bif ilt (IntKind.wrap IntKind.u64 (IntKind.wrap IntKind.u64 (HRise.total x - IntKind.wrap IntKind.u64 (↑(List.length (List.map (RCod.enc cMail) (HRise.kept x))) : Int)) + (1 : Int))) (IntKind.wrap IntKind.u64 (n + (1 : Int))) then IntKind.wrap IntKind.u64 (n + (1 : Int)) else IntKind.wrap IntKind.u64 (IntKind.wrap IntKind.u64 (HRise.total x - IntKind.wrap IntKind.u64 (↑(List.length (List.map (RCod.enc cMail) (HRise.kept x))) : Int)) + (1 : Int))) - IntKind.wrap IntKind.u64 (IntKind.wrap IntKind.u64 (HRise.total x - IntKind.wrap IntKind.u64 (↑(List.length (List.map (RCod.enc cMail) (HRise.kept x))) : Int)) + (1 : Int))))) []) (1 : Nat) V.undef)), V.str (V.toStr (List.getD (List.getD (List.map (RCod.enc cMail) (HRise.kept x)) (Int.toNat (IntKind.wrap IntKind.u64 ((bif ilt (IntKind.wrap IntKind.u64 (IntKind.wrap IntKind.u64 (HRise.total x - IntKind.wrap IntKind.u64 (↑(List.length (List.map (RCod.enc cMail) (HRise.kept x))) : Int)) + (1 : Int))) (IntKind.wrap IntKind.u64 (n + (1 : Int))) then IntKind.wrap IntKind.u64 (n + (1 : Int)) else IntKind.wrap IntKind.u64 (IntKind.wrap IntKind.u64 (HRise.total x - IntKind.wrap IntKind.u64 (↑(List.length (List.map (RCod.enc cMail) (HRise.kept x))) : Int)) + (1 : Int))) - IntKind.wrap IntKind.u64 (IntKind.wrap IntKind.u64 (HRise.total x - IntKind.wrap IntKind.u64 (↑(List.length (List.map (RCod.enc cMail) (HRise.kept x))) : Int)) + (1 : Int))))) []) (2 : Nat) V.undef)), V.slc [Sh.str, Sh.int IntKind.u8, Sh.int IntKind.i64, Sh.str] (List.map (fun p => [V.str (HPair.key p), V.int IntKind.u8 (HPair.kind p), V.int IntKind.i64 (HPair.num p), V.str (HPair.text p)]) (List.map (fun r => { key := V.toStr (List.getD r (0 : Nat) V.undef), kind := V.toInt (List.getD r (1 : Nat) V.undef), num := V.toInt (List.getD r (2 : Nat) V.undef), text := V.toStr (List.getD r (3 : Nat) V.undef) : HPair }) (V.toRows (List.getD (List.getD (List.map (RCod.enc cMail) (HRise.kept x)) (Int.toNat (IntKind.wrap IntKind.u64 ((bif ilt (IntKind.wrap IntKind.u64 (IntKind.wrap IntKind.u64 (HRise.total x - IntKind.wrap IntKind.u64 (↑(List.length (List.map (RCod.enc cMail) (HRise.kept x))) : Int)) + (1 : Int))) (IntKind.wrap IntKind.u64 (n + (1 : Int))) then IntKind.wrap IntKind.u64 (n + (1 : Int)) else IntKind.wrap IntKind.u64 (IntKind.wrap IntKind.u64 (HRise.total x - IntKind.wrap IntKind.u64 (↑(List.length (List.map (RCod.enc cMail) (HRise.kept x))) : Int)) + (1 : Int))) - IntKind.wrap IntKind.u64 (IntKind.wrap IntKind.u64 (HRise.total x - IntKind.wrap IntKind.u64 (↑(List.length (List.map (RCod.enc cMail) (HRise.kept x))) : Int)) + (1 : Int))))) []) (3 : Nat) V.undef)))), V.str (V.toStr (List.getD (List.getD (List.map (RCod.enc cMail) (HRise.kept x)) (Int.toNat (IntKind.wrap IntKind.u64 ((bif ilt (IntKind.wrap IntKind.u64 (IntKind.wrap IntKind.u64 (HRise.total x - IntKind.wrap IntKind.u64 (↑(List.length (List.map (RCod.enc cMail) (HRise.kept x))) : Int)) + (1 : Int))) (IntKind.wrap IntKind.u64 (n + (1 : Int))) then IntKind.wrap IntKind.u64 (n + (1 : Int)) else IntKind.wrap IntKind.u64 (IntKind.wrap IntKind.u64 (HRise.total x - IntKind.wrap IntKind.u64 (↑(List.length (List.map (RCod.enc cMail) (HRise.kept x))) : Int)) + (1 : Int))) - IntKind.wrap IntKind.u64 (IntKind.wrap IntKind.u64 (HRise.total x - IntKind.wrap IntKind.u64 (↑(List.length (List.map (RCod.enc cMail) (HRise.kept x))) : Int)) + (1 : Int))))) []) (4 : Nat) V.undef)), V.int IntKind.u64 (V.toInt (List.getD (List.getD (List.map (RCod.enc cMail) (HRise.kept x)) (Int.toNat (IntKind.wrap IntKind.u64 ((bif ilt (IntKind.wrap IntKind.u64 (IntKind.wrap IntKind.u64 (HRise.total x - IntKind.wrap IntKind.u64 (↑(List.length (List.map (RCod.enc cMail) (HRise.kept x))) : Int)) + (1 : Int))) (IntKind.wrap IntKind.u64 (n + (1 : Int))) then IntKind.wrap IntKind.u64 (n + (1 : Int)) else IntKind.wrap IntKind.u64 (IntKind.wrap IntKind.u64 (HRise.total x - IntKind.wrap IntKind.u64 (↑(List.length (List.map (RCod.enc cMail) (HRise.kept x))) : Int)) + (1 : Int))) - IntKind.wrap IntKind.u64 (IntKind.wrap IntKind.u64 (HRise.total x - IntKind.wrap IntKind.u64 (↑(List.length (List.map (RCod.enc cMail) (HRise.kept x))) : Int)) + (1 : Int))))) []) (5 : Nat) V.undef)), V.int IntKind.u8 (V.toInt (List.getD (List.getD (List.map (RCod.enc cMail) (HRise.kept x)) (Int.toNat (IntKind.wrap IntKind.u64 ((bif ilt (IntKind.wrap IntKind.u64 (IntKind.wrap IntKind.u64 (HRise.total x - IntKind.wrap IntKind.u64 (↑(List.length (List.map (RCod.enc cMail) (HRise.kept x))) : Int)) + (1 : Int))) (IntKind.wrap IntKind.u64 (n + (1 : Int))) then IntKind.wrap IntKind.u64 (n + (1 : Int)) else IntKind.wrap IntKind.u64 (IntKind.wrap IntKind.u64 (HRise.total x - IntKind.wrap IntKind.u64 (↑(List.length (List.map (RCod.enc cMail) (HRise.kept x))) : Int)) + (1 : Int))) - IntKind.wrap IntKind.u64 (IntKind.wrap IntKind.u64 (HRise.total x - IntKind.wrap IntKind.u64 (↑(List.length (List.map (RCod.enc cMail) (HRise.kept x))) : Int)) + (1 : Int))))) []) (6 : Nat) V.undef))], V.bool true], bx := [] : DRes }) (none)) (none)) := by kernel_rfl
theorem getD_enc {α : Type} (c : RCod α) (l : List α) (i : Nat) (d : α) (h : i < l.length) : (l.map c.enc).getD i [] = c.enc (l.getD i d) := by
  rw [List.getD_eq_getElem?_getD, List.getD_eq_getElem?_getD, List.getElem?_map, List.getElem?_eq_getElem h]
  rfl
theorem all_getD {α : Type} {p : α → Bool} {l : List α} (h : l.all p = true) (i : Nat) (d : α) (hi : i < l.length) : p (l.getD i d) = true := by
  rw [List.getD_eq_getElem?_getD, List.getElem?_eq_getElem hi]
  exact List.all_eq_true.1 h _ (List.getElem_mem hi)
/-- A message that was read of a row. -/
theorem mail_got (m : HMail) (sm : m.head.length ≤ 1000000) (n : Int) (b : Bool) :
    cond (Nat.ble (V.toRows (List.getD (cMail.enc m) 3 .undef)).length 1000000)
      (some (⟨.tup [.int .u64 n, .agg [.int .u64 (V.toInt (List.getD (cMail.enc m) 0 .undef)), .str (V.toStr (List.getD (cMail.enc m) 1 .undef)), .str (V.toStr (List.getD (cMail.enc m) 2 .undef)),
        .slc [.str, .int .u8, .int .i64, .str] (((V.toRows (List.getD (cMail.enc m) 3 .undef)).map fun r => ({ key := V.toStr (List.getD r 0 .undef), kind := V.toInt (List.getD r 1 .undef), num := V.toInt (List.getD r 2 .undef), text := V.toStr (List.getD r 3 .undef) } : HPair)).map fun p => [V.str p.key, V.int .u8 p.kind, V.int .i64 p.num, V.str p.text]),
        .str (V.toStr (List.getD (cMail.enc m) 4 .undef)), .int .u64 (V.toInt (List.getD (cMail.enc m) 5 .undef)), .int .u8 (V.toInt (List.getD (cMail.enc m) 6 .undef))], .bool b], [], []⟩ : DRes)) none =
    some (⟨.tup [.int .u64 n, .agg (cMail.enc m), .bool b], [], []⟩ : DRes) := by
  have e : ((V.toRows (List.getD (cMail.enc m) 3 .undef)).map fun r => ({ key := V.toStr (List.getD r 0 .undef), kind := V.toInt (List.getD r 1 .undef), num := V.toInt (List.getD r 2 .undef), text := V.toStr (List.getD r 3 .undef) } : HPair)) = m.head := pairs_enc m.head
  have e2 : (V.toRows (List.getD (cMail.enc m) 3 .undef)).length = m.head.length := List.length_map ..
  rw [e, e2, ble_t sm]
  rfl
theorem ok_riseAfter : FnOk Tryd.prog 31 dRiseAfter := by
  refine den_okF (env_ok ((TOk.nil _).cons ok_mailCopy)) (E := eRiseAfter) Tryd.func31 [] (by kernel_rfl) none0 fun a _ h => ?_
  obtain ⟨x, n⟩ := a
  obtain ⟨h1, h2⟩ := bcond h
  obtain ⟨h1, h7⟩ := bcond h1
  obtain ⟨h7, h8⟩ := bcond h7
  obtain ⟨h3, h4⟩ := bcond h1
  obtain ⟨h3, h5⟩ := bcond h3
  obtain ⟨h4, h6⟩ := bcond h4
  obtain ⟨h2, h9⟩ := bcond h2
  have h2 : 0 ≤ n := ile_of h2
  have h3 : 0 ≤ x.total := ile_of h3
  have h5 : x.total ≤ 18446744073709551615 := ile_of h5
  have h4 : x.kept.length ≤ 16 := ble_of h4
  have h7 : (x.kept.length : Int) ≤ x.total := ile_of h7
  refine (q_riseAfter x n).trans ?_
  show _ = some (⟨.tup [.int .u64 (N.riseAfter x n).1, .agg (cMail.enc (N.riseAfter x n).2.1), .bool (N.riseAfter x n).2.2], [], []⟩ : DRes)
  unfold N.riseAfter
  cases ht : ile x.total n with
  | true => rfl
  | false =>
    have ht := ile_nof ht
    have h8 : x.kept.length ≠ 0 := fun e => by
      rw [e] at h8
      have h8 : x.total = 0 := ieq_of h8
      omega
    have w1 := wr_u64 (n := (x.kept.length : Int)) (by omega) (by omega)
    have w2 := wr_u64 (n := x.total - x.kept.length) (by omega) (by omega)
    have w3 := wr_u64 (n := x.total - x.kept.length + 1) (by omega) (by omega)
    have w4 := wr_u64 (n := n + 1) (by omega) (by omega)
    simp only [List.length_map, w1, w2, w3, w4]
    cases hl : ilt (x.total - x.kept.length + 1) (n + 1) with
    | true =>
      have hl := ilt_of hl
      have w5 := wr_u64 (n := n + 1 - (x.total - x.kept.length + 1)) (by omega) (by omega)
      have d : decide (0 ≤ n + 1 - (x.total - x.kept.length + 1) ∧ n + 1 - (x.total - x.kept.length + 1) < x.kept.length) = true := decide_eq_true (by omega)
      have hi : (n + 1 - (x.total - x.kept.length + 1)).toNat < x.kept.length := by omega
      simp only [cond_true, cond_false, w5, d, getD_enc cMail x.kept _ mail0 hi, List.length_map]
      have sm : (x.kept.getD (n + 1 - (x.total - x.kept.length + 1)).toNat mail0).head.length ≤ 1000000 := ble_of (all_getD h6 _ mail0 hi)
      generalize x.kept.getD (n + 1 - (x.total - x.kept.length + 1)).toNat mail0 = m at sm ⊢
      exact mail_got m sm _ _
    | false =>
      have hl := ilt_nof hl
      have w5 := wr_u64 (n := x.total - x.kept.length + 1 - (x.total - x.kept.length + 1)) (by omega) (by omega)
      have e5 : x.total - x.kept.length + 1 - (x.total - x.kept.length + 1) = 0 := by omega
      rw [e5] at w5
      have d : decide ((0 : Int) ≤ 0 ∧ (0 : Int) < x.kept.length) = true := decide_eq_true (by omega)
      have hi : 0 < x.kept.length := by omega
      simp only [cond_true, cond_false, e5, w5, d, Int.toNat_zero, getD_enc cMail x.kept 0 mail0 hi, List.length_map]
      have sm : (x.kept.getD 0 mail0).head.length ≤ 1000000 := ble_of (all_getD h6 _ mail0 hi)
      generalize x.kept.getD 0 mail0 = m at sm ⊢
      exact mail_got m sm _ _
end Go.Ev

/- What rises tell, in plain terms: lemmas, no condition. -/
namespace Go.Ev
open Go Go.Proofs
set_option maxRecDepth 100000

namespace N
def tell (x : HRise) : Nat → Int → List HMail → Int × List HMail
  | 0, last, got => (last, got)
  | n + 1, last, got => cond (riseAfter x last).2.2 (tell x n (riseAfter x last).1 (got ++ [(riseAfter x last).2.1])) (last, got)
def many (asks : List Int) (n k : Nat) : Nat := cond (Nat.blt k n) (cond (Nat.blt k asks.length) (Int.tmod (IntKind.wrap .i64 (asks.getD k 0)) 3).toNat 0) 16
def play (asks : List Int) (l : List HMail) : Nat → Nat → HRise → Int → List HMail → List HMail → Option (HRise × Int × List HMail × List HMail)
  | 0, _, x, last, good, got => some (x, last, good, got)
  | f + 1, k, x, last, good, got => cond (ilt 16 (x.total - last)) none
      (cond (Nat.blt k l.length)
        (play asks l f (k + 1) (risePut x (l.getD k mail0)).1 (tell x (many asks l.length k) last got).1 (cond ((risePut x (l.getD k mail0)).2 == 0) (good ++ [l.getD k mail0]) good) (tell x (many asks l.length k) last got).2)
        (play asks l f (k + 1) x (tell x (many asks l.length k) last got).1 good (tell x (many asks l.length k) last got).2))
end N
/-- A rise that has had just these. -/
structure RInv (x : HRise) (g : List HMail) : Prop where
  total : x.total = g.length
  kept : x.kept = g.drop (g.length - 16)
  small : g.all smallM = true
  few : g.length < 1000
theorem RInv.len {x : HRise} {g : List HMail} (h : RInv x g) : x.kept.length = g.length - (g.length - 16) := by rw [h.kept, List.length_drop]
theorem rinv0 : RInv rise0 [] := ⟨rfl, rfl, rfl, by decide⟩
theorem RInv.good {x : HRise} {g : List HMail} (h : RInv x g) : goodRise x = true := by
  have := h.few
  have hl := h.len
  unfold goodRise
  rw [h.total, ile_t (by omega), ile_t (by omega), ble_t (by omega), h.kept]
  show (List.all (g.drop _) smallM) = true
  rw [List.all_eq_true]
  intro m hm
  exact List.all_eq_true.1 h.small m (List.mem_of_mem_drop hm)
theorem RInv.full {x : HRise} {g : List HMail} (h : RInv x g) : fullRise x = true := by
  have hl := h.len
  unfold fullRise
  rw [h.good, h.total, ile_t (by omega)]
  simp only [cond_true]
  cases e : Nat.beq x.kept.length 0 with
  | false => rfl
  | true =>
    have := Nat.eq_of_beq_eq_true e
    show (((g.length : Nat) : Int) == 0) = true
    exact ieq_t (by omega)
theorem getD_dropM (g : List HMail) (d i : Nat) : (g.drop d).getD i mail0 = g.getD (d + i) mail0 := by
  rw [List.getD_eq_getElem?_getD, List.getD_eq_getElem?_getD, List.getElem?_drop]
theorem after_got {x : HRise} {g : List HMail} (h : RInv x g) {n : Nat} (h1 : n < g.length) : N.riseAfter x n = (((max n (g.length - 16) + 1 : Nat) : Int), g.getD (max n (g.length - 16)) mail0, true) := by
  have hl := h.len
  have ht := h.total
  have e : x.total - x.kept.length = ((g.length - 16 : Nat) : Int) := by omega
  unfold N.riseAfter
  rw [ile_f (by omega), cond_false, e]
  cases hc : ilt (((g.length - 16 : Nat) : Int) + 1) ((n : Int) + 1) with
  | true =>
    have := ilt_of hc
    have e1 : max n (g.length - 16) = n := by omega
    have e2 : ((n : Int) + 1 - (((g.length - 16 : Nat) : Int) + 1)).toNat = n - (g.length - 16) := by omega
    have e3 : g.length - 16 + (n - (g.length - 16)) = n := by omega
    rw [e1, e2, h.kept, getD_dropM, e3]
    rfl
  | false =>
    have := ilt_nof hc
    have e1 : max n (g.length - 16) = g.length - 16 := by omega
    rw [e1, cond_false, h.kept, getD_dropM, Nat.add_zero]
    rfl
theorem after_none {x : HRise} {g : List HMail} (h : RInv x g) {n : Nat} (h1 : g.length ≤ n) : N.riseAfter x n = (0, mail0, false) := by
  have ht := h.total
  unfold N.riseAfter
  rw [ile_t (by omega)]
  rfl
theorem take_getD (g : List HMail) {n : Nat} (h : n < g.length) : g.take n ++ [g.getD n mail0] = g.take (n + 1) := by
  rw [List.take_add_one, List.getD_eq_getElem?_getD, List.getElem?_eq_getElem h]; rfl
theorem tell_got {x : HRise} {g : List HMail} (h : RInv x g) : ∀ (n last : Nat), last ≤ g.length → g.length - last ≤ 16 → N.tell x n last (g.take last) = (((min (last + n) g.length : Nat) : Int), g.take (last + n))
  | 0, last, h1, _ => by
    show ((last : Int), g.take last) = _
    rw [Nat.add_zero, Nat.min_eq_left h1]
  | n + 1, last, h1, h2 => by
    unfold N.tell
    by_cases hl : last < g.length
    · have e := after_got h hl
      have e1 : max last (g.length - 16) = last := by omega
      rw [e1] at e
      rw [e]
      show N.tell x n ((last + 1 : Nat) : Int) (g.take last ++ [g.getD last mail0]) = _
      rw [take_getD g hl, tell_got h n (last + 1) hl (by omega)]
      rw [show last + 1 + n = last + (n + 1) by omega]
    · rw [after_none h (by omega)]
      show ((last : Int), g.take last) = _
      rw [List.take_of_length_le (by omega), List.take_of_length_le (by omega), Nat.min_eq_right (by omega), show last = g.length by omega]
theorem put_bad {x : HRise} {m : HMail} (h : (N.risePut x m).2 ≠ 0) : (N.risePut x m).1 = x := by
  unfold N.risePut at *
  cases hc : N.mailCheck m != 0 with
  | true => rfl
  | false =>
    rw [hc] at h
    cases ht : x.total == 18446744073709551615 with
    | true => rfl
    | false => rw [ht] at h; exact absurd rfl h
theorem put_inv {x : HRise} {g : List HMail} (h : RInv x g) {m : HMail} (h2 : g.length < 999) (hs : smallM m = true) (h0 : (N.risePut x m).2 = 0) : RInv (N.risePut x m).1 (g ++ [m]) := by
  have hl := h.len
  have ht := h.total
  have hlen : (g ++ [m]).length = g.length + 1 := by simp
  unfold N.risePut at *
  cases hc : N.mailCheck m != 0 with
  | true => rw [hc] at h0; have h0 : N.mailCheck m = 0 := h0; rw [h0] at hc; cases hc
  | false =>
    rw [show (x.total == 18446744073709551615) = false from ieq_f (by omega)]
    refine ⟨?_, ?_, ?_, by omega⟩
    · show x.total + 1 = _
      rw [hlen, ht]; rfl
    · show (x.kept ++ [m]).drop (x.kept.length + 1 - 16) = (g ++ [m]).drop ((g ++ [m]).length - 16)
      rw [hlen, hl, h.kept, ← List.drop_append_of_le_length (show g.length - 16 ≤ g.length by omega), List.drop_drop]
      congr 1
      omega
    · rw [List.all_append, h.small]
      show smallM m && true = true
      rw [hs]; rfl
theorem put_any {x : HRise} {g : List HMail} (h : RInv x g) {m : HMail} (h2 : g.length < 999) (hs : smallM m = true) : RInv (N.risePut x m).1 (cond ((N.risePut x m).2 == 0) (g ++ [m]) g) := by
  cases hc : (N.risePut x m).2 == 0 with
  | true => exact put_inv h h2 hs (ieq_of hc)
  | false =>
    rw [put_bad (fun e => by rw [e] at hc; cases hc)]
    exact h
def N.ck (m : HMail) : Bool := N.mailCheck m == 0
theorem put_ck {x : HRise} {g : List HMail} (h : RInv x g) (m : HMail) : ((N.risePut x m).2 == 0) = N.ck m := by
  have ht := h.total
  have hf := h.few
  unfold N.risePut N.ck
  cases hc : N.mailCheck m != 0 with
  | true => rfl
  | false =>
    have hz : N.mailCheck m = 0 := by simpa using hc
    rw [show (x.total == 18446744073709551615) = false from ieq_f (by omega), hz]
    rfl
theorem play_got (asks : List Int) (l : List HMail) (hs : l.all smallM = true) (hl : l.length ≤ 40) : ∀ (f k : Nat) (x : HRise) (last : Nat) (good : List HMail), f = l.length + 1 - k → RInv x good → good.length ≤ k → last ≤ good.length →
    ∀ r, N.play asks l f k x last good (good.take last) = some r → k ≤ l.length → r.2.2.2 = r.2.2.1 ∧ RInv r.1 r.2.2.1 ∧ r.2.2.1 = good ++ (l.drop k).filter N.ck
  | 0, k, x, last, good, hf, _, _, _, r, h, hk => by omega
  | f + 1, k, x, last, good, hf, hi, h1, h2, r, h, hk => by
    unfold N.play at h
    have ht := hi.total
    cases hc : ilt 16 (x.total - last) with
    | true => rw [hc] at h; cases h
    | false =>
      have hc' := ilt_nof hc
      rw [hc, cond_false, tell_got hi _ _ h2 (by omega)] at h
      have e : good.take (last + N.many asks l.length k) = good.take (min (last + N.many asks l.length k) good.length) := by
        by_cases hm : last + N.many asks l.length k ≤ good.length
        · rw [Nat.min_eq_left hm]
        · rw [Nat.min_eq_right (by omega), List.take_of_length_le (by omega), List.take_length]
      cases hb : Nat.blt k l.length with
      | true =>
        rw [hb] at h
        simp only [cond_true] at h
        have hk2 : k < l.length := ble_of hb
        have hsm : smallM (l.getD k mail0) = true := all_getD hs k mail0 hk2
        have hp := put_any hi (m := l.getD k mail0) (by omega) hsm
        have hd : (l.drop k).filter N.ck = cond (N.ck (l.getD k mail0)) [l.getD k mail0] [] ++ (l.drop (k + 1)).filter N.ck := by
          rw [getD_drop mail0 hk2, List.filter_cons]
          cases N.ck (l.getD k mail0) <;> rfl
        rw [hd]
        have hq := put_ck hi (l.getD k mail0)
        rw [hq] at h hp
        revert h hp
        cases N.ck (l.getD k mail0) with
        | true =>
          intro h hp
          have := play_got asks l hs hl f (k + 1) _ (min (last + N.many asks l.length k) good.length) (good ++ [l.getD k mail0]) (by omega) hp (by simp; omega) (by simp; omega) r (by
            rw [List.take_append_of_le_length (by omega), ← e]
            exact h) hk2
          rw [List.append_assoc] at this
          exact this
        | false =>
          intro h hp
          exact play_got asks l hs hl f (k + 1) _ (min (last + N.many asks l.length k) good.length) good (by omega) hp (by omega) (by omega) r (by
            rw [← e]
            exact h) hk2
      | false =>
        rw [hb] at h
        simp only [cond_false] at h
        have hk2 : ¬ k < l.length := fun hk2 => by
          have : Nat.blt k l.length = true := ble_t hk2
          rw [this] at hb; cases hb
        have f0 : f = 0 := by omega
        subst f0
        have hm : N.many asks l.length k = 16 := by unfold N.many; rw [hb]; rfl
        rw [hm, List.take_of_length_le (show good.length ≤ last + 16 by omega)] at h
        cases h
        exact ⟨rfl, hi, by rw [List.drop_eq_nil_of_le (by omega)]; simp⟩
theorem tell_app (x : HRise) : ∀ (n : Nat) (last : Int) (got : List HMail), N.tell x n last got = ((N.tell x n last []).1, got ++ (N.tell x n last []).2)
  | 0, last, got => by unfold N.tell; rw [List.append_nil]
  | n + 1, last, got => by
    unfold N.tell
    cases (N.riseAfter x last).2.2 with
    | false => simp only [cond_false, List.append_nil]
    | true =>
      simp only [cond_true]
      rw [tell_app x n _ (got ++ _), tell_app x n _ ([] ++ _)]
      simp only [List.nil_append, List.append_assoc]
theorem after_step {x : HRise} {n : Int} (h1 : n < x.total) (h2 : x.total - n ≤ x.kept.length) : (N.riseAfter x n).1 = n + 1 ∧ (N.riseAfter x n).2.2 = true := by
  unfold N.riseAfter
  rw [ile_f h1, cond_false]
  cases hc : ilt (x.total - x.kept.length + 1) (n + 1) with
  | true => exact ⟨rfl, rfl⟩
  | false =>
    have := ilt_nof hc
    exact ⟨by show x.total - x.kept.length + 1 = n + 1; omega, rfl⟩
end Go.Ev

/- What the statement on heads that are read reckons: lemmas; the function that writes numbers is a premise. -/
namespace Go.Ev
open Go Go.Proofs
set_option maxRecDepth 100000

end Go.Ev

/- What the statement on heads' bytes reckons: lemmas; the functions that write numbers are premises. -/
namespace Go.Ev
open Go Go.Proofs
set_option maxRecDepth 100000

/-- The search from behind. -/
def N.back (key : Bytes) (l : List HPair) : Nat → HPair × Bool → HPair × Bool
  | 0, w => w
  | k + 1, w => back key l k (cond ((l.getD k pair0).key == key) (l.getD k pair0, true) w)
end Go.Ev

/- What the statement on heads' bytes reckons: it is true; the functions that write numbers are premises. -/
namespace Go.Ev
open Go Go.Proofs
set_option maxRecDepth 100000

end Go.Ev

/- Messages: what was written is read again; the program's reader and the document's go together: lemmas on the plain functions. -/
namespace Go.Ev
open Go

theorem mailSame_refl (m : HMail) : N.mailSame m m = true := by
  unfold N.mailSame
  simp only [beq_self_eq_true, samePs_refl, cond_true]
end Go.Ev

/- Rules: the program's way and the document's are one: lemmas on the plain functions. -/
namespace Go.Ev
open Go

end Go.Ev

/- The functions that tell which messages go by a rule answer what the plain ones do: lemmas, no condition. -/
namespace Go.Ev
open Go Go.Proofs
set_option maxRecDepth 100000

end Go.Ev

/- Words joined again, patterns of stars: plain lemmas, no condition. -/
namespace Go.Ev
open Go
namespace N
end N
/-! ### Keys as patterns -/
end Go.Ev

/- What the statements on rules reckon: each is true; lemmas; the function that writes numbers is a premise. -/
namespace Go.Ev
open Go Go.Proofs
set_option maxRecDepth 100000

noncomputable def eAw9' : Env := env Tryd.prog [(84, dTrue)] [] []
theorem q_aw9'  : evFn eAw9' 48 [] [] some =
 some { v := V.bool true, bx := [] : DRes } := by kernel_rfl
theorem ok_aw9' (hN : FnOk Tryd.prog 75 dOutNum) : FnOk Tryd.prog 48 dTrue := den_okF (env_ok ((TOk.nil _).cons (ok_aw9 hN))) (E := eAw9') Tryd.func48 [] (by kernel_rfl) none0 fun _ _ _ => q_aw9'
end Go.Ev

/- The statement on heads' bytes: what it reckons is true of what comes in; lemmas, no condition. -/
namespace Go.Ev
open Go Go.Proofs
set_option maxRecDepth 100000

end Go.Ev

/- What the statements on messages' bytes reckon: each is true; lemmas; the function that writes numbers is a premise. -/
namespace Go.Ev
open Go Go.Proofs
set_option maxRecDepth 100000

noncomputable def eAw13 : Env := env Tryd.prog [(48, dTrue), (41, dMailBytes)] [] []
theorem q_aw13 : evFn eAw13 21 [] [] some = some { v := .bool true, bx := [] } := by kernel_rfl
theorem ok_aw13 (hN : FnOk Tryd.prog 75 dOutNum) : FnOk Tryd.prog 21 dTrue :=
  den_okF (env_ok (((TOk.nil _).cons (ok_mailBytes hN)).cons (ok_aw9' hN))) (E := eAw13) Tryd.func21 [] (by kernel_rfl) none0 fun _ _ _ => q_aw13
end Go.Ev

/- The example of the statements on rises, and which messages they go through: lemmas; the function that writes numbers is a premise. -/
namespace Go.Ev
open Go Go.Proofs
set_option maxRecDepth 100000
-- FOLD

noncomputable def eAw13' : Env := env Tryd.prog [(21, dTrue)] [] []
theorem q_aw13'  : evFn eAw13' 63 [] [] some =
 some { v := V.bool true, bx := [] : DRes } := by kernel_rfl
theorem ok_aw13' (hN : FnOk Tryd.prog 75 dOutNum) : FnOk Tryd.prog 63 dTrue :=
  den_okF (env_ok ((TOk.nil _).cons (ok_aw13 hN))) (E := eAw13') Tryd.func63 [] (by kernel_rfl) none0 fun _ _ _ => q_aw13'
def schAw20 : SSch := { fr := [(1, .ptr 10000 0 0), (8, .int .i64)], tab := [(10001, .sl [.int .u64, .str, .str, .slc [.str, .int .u8, .int .i64, .str], .str, .int .u64, .int .u8]), (10000, .var [.int .u64, .own 10001])] }
def stAw20 (n : Int) (r : List (List V)) : List (Nat × Box) := [(10000, .var [.int .u64 n, .slc [.int .u64, .str, .str, .slc [.str, .int .u8, .int .i64, .str], .str, .int .u64, .int .u8] r])]
def rowA : List V := [.int .u64 0, .str [97], .str [], .slc [.str, .int .u8, .int .i64, .str] [], .str [], .int .u64 0, .int .u8 0]
def gAw20 : List Leaf → (Ex → St → Option R) → Option R
  | [.i i8, .r rx1, .i ix0], K => cond (i8 == 0) (cond (Nat.beq rx1.length 0) (cond (ix0 == 0) (K (.exit 0) { fr := [(1, .ptr 10000 0 0 0)], tab := stAw20 20 (List.replicate 16 rowA) }) none) none) none
  | _, _ => none
noncomputable def eAw20 : Env := env Tryd.prog [(32, dRisePut), (31, dRiseAfter), (63, dTrue)] [(3, loopF schAw20 gAw20)] [(3, [(0, [1, 8]), (1, [1]), (1000, [0])])]
theorem q_aw20  : evFn eAw20 28 [] [] some =
 some { v := V.bool true, bx := [] : DRes } := by kernel_rfl
theorem aw20_rounds (K : Ex → St → Option R) : iterR eAw20 28 3 21 { fr := [(1, .ptr 10000 0 0 0), (8, .int .i64 0)], tab := [(10001, .sl [.int .u64, .str, .str, .slc [.str, .int .u8, .int .i64, .str], .str, .int .u64, .int .u8] [] 0), (10000, .var [.int .u64 0, .own 10001 0])] } K =
    K (.exit 0) { fr := [(1, .ptr 10000 0 0 0)], tab := stAw20 20 (List.replicate 16 rowA) } := by kernel_rfl
theorem nbeq_of {x y : Nat} (h : Nat.beq x y = true) : x = y := Nat.eq_of_beq_eq_true h
theorem ok_aw20 (hN : FnOk Tryd.prog 75 dOutNum) : FnOk Tryd.prog 28 dTrue := by
  refine den_okF (env_ok ((((TOk.nil _).cons (ok_aw13' hN)).cons ok_riseAfter).cons ok_risePut)) (E := eAw20) Tryd.func28 [3] (by kernel_rfl) (one1 (rounds_of rfl fun l K q h => ?_)) fun _ _ _ => q_aw20
  unfold gAw20 at h
  split at h
  · rename_i i r n
    have h1 := (cond_none h).1; replace h := (cond_none h).2; have h2 := (cond_none h).1; replace h := (cond_none h).2; have h3 := (cond_none h).1; replace h := (cond_none h).2
    have e1 := ieq_of h1
    have e2 := List.eq_nil_of_length_eq_zero (nbeq_of h2)
    have e3 := ieq_of h3
    subst e1 e2 e3
    exact ⟨21, (aw20_rounds K).trans (by assumption)⟩
  · cases h
def schLight20 : SSch := { fr := [(0, .slc [.int .u64, .str, .str, .slc [.str, .int .u8, .int .i64, .str], .str, .int .u64, .int .u8]), (5, .slc [.int .u64, .str, .str, .slc [.str, .int .u8, .int .i64, .str], .str, .int .u64, .int .u8]), (6, .int .i64), (7, .int .i64)], tab := [] }
def gLight20 : List Leaf → (Ex → St → Option R) → Option R
  | [.r r0, .r r5, .i i6, .i i7], K => cond (i6 == r5.length) (cond (i7 == 0) (cond (Nat.ble r5.length 9223372036854775807) (cond (N.lightMs (r5.map cMail.dec)) (K (.exit 0) { fr := [(0, .slc [.int .u64, .str, .str, .slc [.str, .int .u8, .int .i64, .str], .str, .int .u64, .int .u8] r0)], tab := [] }) (K .ret { fr := [(2, .bool false)], tab := [] })) none) none) none
  | _, _ => none
noncomputable def eLight20 : Env := env Tryd.prog [(22, dLightM)] [(2, loopF schLight20 gLight20)] [(2, [(0, [0, 5, 6, 7]), (1, [0]), (1000, [2])])]
theorem q_light20 (l : List HMail) : evFn eLight20 29 ((aOne (vSl cMail)).enc l) ([]) some =
 cond ((↑(List.length (List.map (RCod.enc cMail) l)) : Int) == (↑(List.length (List.map (RCod.enc cMail) l)) : Int)) (cond (Nat.ble (List.length (List.map (RCod.enc cMail) l)) (9223372036854775807 : Nat)) (cond (N.lightMs (List.map (RCod.dec cMail) (List.map (RCod.enc cMail) l))) (some { v := V.bool (ile (↑(List.length (List.map (RCod.enc cMail) l)) : Int) (40 : Int)), bx := [] : DRes }) (some { v := V.bool false, bx := [] : DRes })) (none)) (none) := by kernel_rfl
theorem q_light20R (r0 r5 : List (List V)) (i6 : Int) (i7 : Int) (K : Ex → St → Option R) : evRound eLight20 29 2 { fr := [(0, .slc [.int .u64, .str, .str, .slc [.str, .int .u8, .int .i64, .str], .str, .int .u64, .int .u8] r0), (5, .slc [.int .u64, .str, .str, .slc [.str, .int .u8, .int .i64, .str], .str, .int .u64, .int .u8] r5), (6, .int .i64 i6), (7, .int .i64 i7)], tab := [] } K =
 cond (ilt i7 i6) (cond (decide ((0 : Int) ≤ i7 ∧ i7 < (↑(List.length r5) : Int))) (cond (!N.lightM { id := V.toInt (List.getD (List.getD r5 (Int.toNat i7) []) (0 : Nat) V.undef), shop := V.toStr (List.getD (List.getD r5 (Int.toNat i7) []) (1 : Nat) V.undef), key := V.toStr (List.getD (List.getD r5 (Int.toNat i7) []) (2 : Nat) V.undef), head := List.map (fun r => { key := V.toStr (List.getD r (0 : Nat) V.undef), kind := V.toInt (List.getD r (1 : Nat) V.undef), num := V.toInt (List.getD r (2 : Nat) V.undef), text := V.toStr (List.getD r (3 : Nat) V.undef) : HPair }) (V.toRows (List.getD (List.getD r5 (Int.toNat i7) []) (3 : Nat) V.undef)), body := V.toStr (List.getD (List.getD r5 (Int.toNat i7) []) (4 : Nat) V.undef), due := V.toInt (List.getD (List.getD r5 (Int.toNat i7) []) (5 : Nat) V.undef), hops := V.toInt (List.getD (List.getD r5 (Int.toNat i7) []) (6 : Nat) V.undef) : HMail }) (K Ex.ret { fr := [((2 : Nat), V.bool false)], tab := [] : St }) (K Ex.normal { fr := [((0 : Nat), V.slc [Sh.int IntKind.u64, Sh.str, Sh.str, Sh.slc [Sh.str, Sh.int IntKind.u8, Sh.int IntKind.i64, Sh.str], Sh.str, Sh.int IntKind.u64, Sh.int IntKind.u8] r0), ((5 : Nat), V.slc [Sh.int IntKind.u64, Sh.str, Sh.str, Sh.slc [Sh.str, Sh.int IntKind.u8, Sh.int IntKind.i64, Sh.str], Sh.str, Sh.int IntKind.u64, Sh.int IntKind.u8] r5), ((6 : Nat), V.int IntKind.i64 i6), ((7 : Nat), V.int IntKind.i64 (IntKind.wrap IntKind.i64 (i7 + (1 : Int))))], tab := [] : St })) (none)) (K (Ex.exit (0 : Nat)) { fr := [((0 : Nat), V.slc [Sh.int IntKind.u64, Sh.str, Sh.str, Sh.slc [Sh.str, Sh.int IntKind.u8, Sh.int IntKind.i64, Sh.str], Sh.str, Sh.int IntKind.u64, Sh.int IntKind.u8] r0)], tab := [] : St }) := by kernel_rfl
/-- A message that is read of a row. -/
theorem fold_mail (r : List V) : ({ id := V.toInt (List.getD r 0 .undef), shop := V.toStr (List.getD r 1 .undef), key := V.toStr (List.getD r 2 .undef), head := (V.toRows (List.getD r 3 .undef)).map fun r => ({ key := V.toStr (List.getD r 0 .undef), kind := V.toInt (List.getD r 1 .undef), num := V.toInt (List.getD r 2 .undef), text := V.toStr (List.getD r 3 .undef) } : HPair), body := V.toStr (List.getD r 4 .undef), due := V.toInt (List.getD r 5 .undef), hops := V.toInt (List.getD r 6 .undef) } : HMail) = cMail.dec r := rfl
def dLight20 : Den := den (aOne (vSl cMail)) bNil (oV vBool) (fun l _ => Nat.ble l.length 9223372036854775807) fun l _ => (cond (N.lightMs l) (ile l.length 40) false, ())
theorem ok_light20 : FnOk Tryd.prog 29 dLight20 := by
  refine den_okF (env_ok ((TOk.nil _).cons ok_lightM)) (E := eLight20) Tryd.func29 [2] (by kernel_rfl) (one1 (rounds_of rfl fun l K q h => ?_)) fun l _ hp => ?_
  · unfold gLight20 at h
    split at h
    · rename_i r0 r n i
      have h1 := (cond_none h).1; replace h := (cond_none h).2; have h2 := (cond_none h).1; replace h := (cond_none h).2; have h3 := (cond_none h).1; replace h := (cond_none h).2
      have e1 := ieq_of h1
      have e2 := ieq_of h2
      subst e1 e2
      have h3 : r.length ≤ 9223372036854775807 := ble_of h3
      have main := range_ind (E := eLight20) (f := 29) (id := 2) (A := Unit) r (fun _ i => { fr := [(0, .slc [.int .u64, .str, .str, .slc [.str, .int .u8, .int .i64, .str], .str, .int .u64, .int .u8] r0), (5, .slc [.int .u64, .str, .str, .slc [.str, .int .u8, .int .i64, .str], .str, .int .u64, .int .u8] r), (6, .int .i64 r.length), (7, .int .i64 i)], tab := [] }) (fun _ _ => True)
        (fun _ rows K => cond (N.lightMs (rows.map cMail.dec)) (K (.exit 0) { fr := [(0, .slc [.int .u64, .str, .str, .slc [.str, .int .u8, .int .i64, .str], .str, .int .u64, .int .u8] r0)], tab := [] }) (K .ret { fr := [(2, .bool false)], tab := [] })) (fun _ i _ hi => ?_) (fun _ _ => ?_) () 0 (Int.le_refl _) (by omega) trivial K q (by assumption)
      · exact main
      · rw [List.map_cons]
        cases hc : N.lightM (cMail.dec (r.getD i [])) with
        | true =>
          refine .inl ⟨(), trivial, fun K => ?_, fun K => ?_⟩
          · rw [q_light20R]
            simp (disch := omega) only [evs, Int.toNat_natCast, fold_mail, hc, Bool.not_true]
          · show cond (cond (N.lightM (cMail.dec (r.getD i []))) _ false) _ _ = _
            rw [hc]; rfl
        | false =>
          refine .inr ⟨.ret, { fr := [(2, .bool false)], tab := [] }, by simp, fun K => ?_, fun K => ?_⟩
          · rw [q_light20R]
            simp (disch := omega) only [evs, Int.toNat_natCast, fold_mail, hc, Bool.not_false]
          · show cond (cond (N.lightM (cMail.dec (r.getD i []))) _ false) _ _ = _
            rw [hc]; rfl
      · refine ⟨.exit 0, { fr := [(0, .slc [.int .u64, .str, .str, .slc [.str, .int .u8, .int .i64, .str], .str, .int .u64, .int .u8] r0)], tab := [] }, by simp, fun K => ?_, fun K => rfl⟩
        rw [q_light20R]
        simp (disch := omega) only [evs]
    · cases h
  · refine (q_light20 l).trans ?_
    have hp : Nat.ble l.length 9223372036854775807 = true := hp
    show _ = some (⟨.bool (cond (N.lightMs l) (ile l.length 40) false), [], []⟩ : DRes)
    simp only [List.length_map, dec_encs, hp, beq_self_eq_true, cond_true]
    cases N.lightMs l <;> rfl
end Go.Ev

/- What the statement on a rise's numbers reckons: it is true; lemmas; the function that writes numbers is a premise. -/
namespace Go.Ev
open Go Go.Proofs
set_option maxRecDepth 100000
-- FOLD

theorem fold_enc (m : HMail) : [V.int .u64 m.id, V.str m.shop, V.str m.key, V.slc [.str, .int .u8, .int .i64, .str] (m.head.map fun p => [V.str p.key, V.int .u8 p.kind, V.int .i64 p.num, V.str p.text]), V.str m.body, V.int .u64 m.due, V.int .u8 m.hops] = cMail.enc m := rfl
theorem fold_rise (x : HRise) : (⟨x.total, x.kept⟩ : HRise) = x := rfl
theorem small_row {r : List (List V)} (h : (r.map cMail.dec).all smallM = true) {i : Nat} (hi : i < r.length) : smallM (cMail.dec (r.getD i [])) = true := by
  refine List.all_eq_true.1 h _ (List.mem_map_of_mem ?_)
  rw [List.getD_eq_getElem?_getD, List.getElem?_eq_getElem hi]
  exact List.getElem_mem hi
theorem light_few {l : List HMail} (h : N.lightMs l = true) : l.all smallM = true := by
  induction l with
  | nil => rfl
  | cons m r ih =>
    obtain ⟨h1, h2⟩ := bcond h
    rw [List.all_cons, ih h2, Bool.and_true]
    obtain ⟨_, h1⟩ := bcond h1
    obtain ⟨_, h1⟩ := bcond h1
    obtain ⟨h1, _⟩ := bcond h1
    exact ble_t (Nat.le_trans (light_small h1) (by decide))
theorem len_wf {α : Type} {c : RCod α} {l : List α} (h : wfL ((rSl c).enc l) = true) : Nat.ble l.length 9223372036854775807 = true := by
  have h : cond (cond (Nat.ble (l.map c.enc).length 9223372036854775807) (cond (fitsRows c.sh (l.map c.enc)) (wfRs (l.map c.enc)) false) false) true false = true := h
  rw [List.length_map] at h
  exact (bcond (bcond h).1).1
def N.sameMs : List HMail → List HMail → Bool
  | [], [] => true
  | a :: x, b :: y => cond (N.mailSame a b) (N.sameMs x y) false
  | _, _ => false
theorem drop_dec {r : List (List V)} {i : Nat} (h : i < r.length) : (r.drop i).map cMail.dec = cMail.dec (r.getD i []) :: (r.drop (i + 1)).map cMail.dec := by
  rw [drop_row h]; rfl
theorem sameMs_cons (a b : HMail) (x y : List HMail) : N.sameMs (a :: x) (b :: y) = cond (N.mailSame a b) (N.sameMs x y) false := rfl
theorem sameMs_refl : ∀ l : List HMail, N.sameMs l l = true
  | [] => rfl
  | a :: x => by
    unfold N.sameMs
    rw [mailSame_refl a, sameMs_refl x]; rfl
end Go.Ev
