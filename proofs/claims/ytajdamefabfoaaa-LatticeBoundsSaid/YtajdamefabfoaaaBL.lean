/- The program's functions on labels answer what the plain ones do: lemmas, no condition. -/
import Derived.Test.YtajdamefabfoaaaPL
import Derived.Test.YtajdamefabfoaaaB1
namespace Go.Ev
open Go Go.Proofs
set_option maxRecDepth 100000

noncomputable def eL0 : Env := env Try.prog [] [] []
theorem q_under (a b : Label) : evFn eL0 7 ((aCons (vAgg cLabel) (aOne (vAgg cLabel))).enc (a, b)) (bNil.enc ()) some =
    cond (ile (Label.level a) (Label.level b))
      (some { v := V.bool (ibits BinOp.andNot IntKind.u32 (Label.set a) (Label.set b) == (0 : Int)), bx := [] })
      (some { v := V.bool false, bx := [] }) := by kernel_rfl
theorem ok_under : FnOk Try.prog 7 dUnder := by
  refine den_okF (env_ok (TOk.nil _)) (E := eL0) Try.func7 [] (by kernel_rfl) none0 fun a _ h => ?_
  refine (q_under a.1 a.2).trans ?_
  show _ = some (⟨.bool (N.under a.1 a.2), [], []⟩ : DRes)
  unfold N.under
  cases ile a.1.level a.2.level <;> rfl
theorem q_right (a : Label) : evFn eL0 9 ((aOne (vAgg cLabel)).enc a) (bNil.enc ()) some =
    some { v := V.bool (ile (Label.level a) (15 : Int)), bx := [] } := by kernel_rfl
theorem ok_right : FnOk Try.prog 9 dRight := den_okF (env_ok (TOk.nil _)) (E := eL0) Try.func9 [] (by kernel_rfl) none0 fun a _ _ => q_right a
theorem q_join (a b : Label) : evFn eL0 10 ((aCons (vAgg cLabel) (aOne (vAgg cLabel))).enc (a, b)) (bNil.enc ()) some =
    some
      {
        v :=
          V.agg
            [V.int IntKind.u8 (bif ilt (Label.level a) (Label.level b) then Label.level b else Label.level a),
              V.int IntKind.u32 (ibits BinOp.or IntKind.u32 (Label.set a) (Label.set b))],
        bx := [] } := by kernel_rfl
theorem ok_join : FnOk Try.prog 10 dJoin := den_okF (env_ok (TOk.nil _)) (E := eL0) Try.func10 [] (by kernel_rfl) none0 fun a _ _ => q_join a.1 a.2
theorem q_meet (a b : Label) : evFn eL0 11 ((aCons (vAgg cLabel) (aOne (vAgg cLabel))).enc (a, b)) (bNil.enc ()) some =
    some
      {
        v :=
          V.agg
            [V.int IntKind.u8 (bif ilt (Label.level b) (Label.level a) then Label.level b else Label.level a),
              V.int IntKind.u32 (ibits BinOp.and IntKind.u32 (Label.set a) (Label.set b))],
        bx := [] } := by kernel_rfl
theorem ok_meet : FnOk Try.prog 11 dMeet := den_okF (env_ok (TOk.nil _)) (E := eL0) Try.func11 [] (by kernel_rfl) none0 fun a _ _ => q_meet a.1 a.2

def schNumber : SSch := { fr := [(0, .str), (1, .int .i64), (7, .int .i64), (8, .int .i64)], tab := [] }
def gNumber : List Leaf → (Ex → St → Option R) → Option R
  | [.s s, .i most, .i k, .i n], K => cond (ile 0 k) (cond (ile 0 n) (cond (ile 0 most) (cond (ile most 1000000) (cond (Nat.ble s.length 9223372036854775806)
      (K (.exit 0) { fr := [(0, .str s), (1, .int .i64 most), (7, .int .i64 (N.numLoop most (s.drop k.toNat) k n).1), (8, .int .i64 (N.numLoop most (s.drop k.toNat) k n).2)], tab := [] }) none) none) none) none) none
  | _, _ => none
noncomputable def eNumber : Env := env Try.prog [] [(2, loopF schNumber gNumber)] [(2, [(0, [0, 1, 7, 8]), (1, [0, 1, 7, 8]), (1000, [4, 5, 6])])]
theorem q_number (s : Bytes) (most : Int) : evFn eNumber 15 ((aCons vStr (aOne (vInt .i64))).enc (s, most)) (bNil.enc ()) some =
    cond (ile (0 : Int) most)
      (cond (ile most (1000000 : Int))
        (cond (Nat.ble (List.length s) (9223372036854775806 : Nat))
          (cond (Prod.fst (N.numLoop most (List.drop (0 : Nat) s) (0 : Int) (0 : Int)) == (0 : Int))
            (cond ((↑(List.length s) : Int) == (0 : Int))
              (some { v := V.tup [V.int IntKind.i64 (0 : Int), V.str [], V.int IntKind.i64 (3 : Int)], bx := [] })
              (cond (Prod.fst (N.numLoop most (List.drop (0 : Nat) s) (0 : Int) (0 : Int)) == (0 : Int))
                (cond (Prod.fst (N.numLoop most (List.drop (0 : Nat) s) (0 : Int) (0 : Int)) == (0 : Int))
                  (some { v := V.tup [V.int IntKind.i64 (0 : Int), V.str [], V.int IntKind.i64 (4 : Int)], bx := [] })
                  (cond (ilt most (Prod.snd (N.numLoop most (List.drop (0 : Nat) s) (0 : Int) (0 : Int))))
                    (some { v := V.tup [V.int IntKind.i64 (0 : Int), V.str [], V.int IntKind.i64 (7 : Int)], bx := [] })
                    (cond (decide
      ((0 : Int) ≤ Prod.fst (N.numLoop most (List.drop (0 : Nat) s) (0 : Int) (0 : Int)) ∧
        Prod.fst (N.numLoop most (List.drop (0 : Nat) s) (0 : Int) (0 : Int)) ≤ (↑(List.length s) : Int)))
                      (some
      {
        v :=
          V.tup
            [V.int IntKind.i64 (Prod.snd (N.numLoop most (List.drop (0 : Nat) s) (0 : Int) (0 : Int))),
              V.str
                (List.drop (Int.toNat (Prod.fst (N.numLoop most (List.drop (0 : Nat) s) (0 : Int) (0 : Int))))
                  (List.take (List.length s) s)),
              V.int IntKind.i64 (0 : Int)],
        bx := [] })
                      (none))))
                (cond (ilt (1 : Int) (Prod.fst (N.numLoop most (List.drop (0 : Nat) s) (0 : Int) (0 : Int))))
                  (cond (decide ((0 : Int) ≤ (0 : Int) ∧ (0 : Int) < (↑(List.length s) : Int)))
                    (cond ((↑(UInt8.toNat (List.getD s (0 : Nat) (0 : UInt8))) : Int) == (48 : Int))
                      (some { v := V.tup [V.int IntKind.i64 (0 : Int), V.str [], V.int IntKind.i64 (4 : Int)], bx := [] })
                      (cond (ilt most (Prod.snd (N.numLoop most (List.drop (0 : Nat) s) (0 : Int) (0 : Int))))
                        (some { v := V.tup [V.int IntKind.i64 (0 : Int), V.str [], V.int IntKind.i64 (7 : Int)], bx := [] })
                        (cond (decide
      ((0 : Int) ≤ Prod.fst (N.numLoop most (List.drop (0 : Nat) s) (0 : Int) (0 : Int)) ∧
        Prod.fst (N.numLoop most (List.drop (0 : Nat) s) (0 : Int) (0 : Int)) ≤ (↑(List.length s) : Int)))
                          (some
      {
        v :=
          V.tup
            [V.int IntKind.i64 (Prod.snd (N.numLoop most (List.drop (0 : Nat) s) (0 : Int) (0 : Int))),
              V.str
                (List.drop (Int.toNat (Prod.fst (N.numLoop most (List.drop (0 : Nat) s) (0 : Int) (0 : Int))))
                  (List.take (List.length s) s)),
              V.int IntKind.i64 (0 : Int)],
        bx := [] })
                          (none))))
                    (none))
                  (cond (ilt most (Prod.snd (N.numLoop most (List.drop (0 : Nat) s) (0 : Int) (0 : Int))))
                    (some { v := V.tup [V.int IntKind.i64 (0 : Int), V.str [], V.int IntKind.i64 (7 : Int)], bx := [] })
                    (cond (decide
      ((0 : Int) ≤ Prod.fst (N.numLoop most (List.drop (0 : Nat) s) (0 : Int) (0 : Int)) ∧
        Prod.fst (N.numLoop most (List.drop (0 : Nat) s) (0 : Int) (0 : Int)) ≤ (↑(List.length s) : Int)))
                      (some
      {
        v :=
          V.tup
            [V.int IntKind.i64 (Prod.snd (N.numLoop most (List.drop (0 : Nat) s) (0 : Int) (0 : Int))),
              V.str
                (List.drop (Int.toNat (Prod.fst (N.numLoop most (List.drop (0 : Nat) s) (0 : Int) (0 : Int))))
                  (List.take (List.length s) s)),
              V.int IntKind.i64 (0 : Int)],
        bx := [] })
                      (none))))))
            (cond (Prod.fst (N.numLoop most (List.drop (0 : Nat) s) (0 : Int) (0 : Int)) == (0 : Int))
              (cond (Prod.fst (N.numLoop most (List.drop (0 : Nat) s) (0 : Int) (0 : Int)) == (0 : Int))
                (some { v := V.tup [V.int IntKind.i64 (0 : Int), V.str [], V.int IntKind.i64 (4 : Int)], bx := [] })
                (cond (ilt most (Prod.snd (N.numLoop most (List.drop (0 : Nat) s) (0 : Int) (0 : Int))))
                  (some { v := V.tup [V.int IntKind.i64 (0 : Int), V.str [], V.int IntKind.i64 (7 : Int)], bx := [] })
                  (cond (decide
      ((0 : Int) ≤ Prod.fst (N.numLoop most (List.drop (0 : Nat) s) (0 : Int) (0 : Int)) ∧
        Prod.fst (N.numLoop most (List.drop (0 : Nat) s) (0 : Int) (0 : Int)) ≤ (↑(List.length s) : Int)))
                    (some
      {
        v :=
          V.tup
            [V.int IntKind.i64 (Prod.snd (N.numLoop most (List.drop (0 : Nat) s) (0 : Int) (0 : Int))),
              V.str
                (List.drop (Int.toNat (Prod.fst (N.numLoop most (List.drop (0 : Nat) s) (0 : Int) (0 : Int))))
                  (List.take (List.length s) s)),
              V.int IntKind.i64 (0 : Int)],
        bx := [] })
                    (none))))
              (cond (ilt (1 : Int) (Prod.fst (N.numLoop most (List.drop (0 : Nat) s) (0 : Int) (0 : Int))))
                (cond (decide ((0 : Int) ≤ (0 : Int) ∧ (0 : Int) < (↑(List.length s) : Int)))
                  (cond ((↑(UInt8.toNat (List.getD s (0 : Nat) (0 : UInt8))) : Int) == (48 : Int))
                    (some { v := V.tup [V.int IntKind.i64 (0 : Int), V.str [], V.int IntKind.i64 (4 : Int)], bx := [] })
                    (cond (ilt most (Prod.snd (N.numLoop most (List.drop (0 : Nat) s) (0 : Int) (0 : Int))))
                      (some { v := V.tup [V.int IntKind.i64 (0 : Int), V.str [], V.int IntKind.i64 (7 : Int)], bx := [] })
                      (cond (decide
      ((0 : Int) ≤ Prod.fst (N.numLoop most (List.drop (0 : Nat) s) (0 : Int) (0 : Int)) ∧
        Prod.fst (N.numLoop most (List.drop (0 : Nat) s) (0 : Int) (0 : Int)) ≤ (↑(List.length s) : Int)))
                        (some
      {
        v :=
          V.tup
            [V.int IntKind.i64 (Prod.snd (N.numLoop most (List.drop (0 : Nat) s) (0 : Int) (0 : Int))),
              V.str
                (List.drop (Int.toNat (Prod.fst (N.numLoop most (List.drop (0 : Nat) s) (0 : Int) (0 : Int))))
                  (List.take (List.length s) s)),
              V.int IntKind.i64 (0 : Int)],
        bx := [] })
                        (none))))
                  (none))
                (cond (ilt most (Prod.snd (N.numLoop most (List.drop (0 : Nat) s) (0 : Int) (0 : Int))))
                  (some { v := V.tup [V.int IntKind.i64 (0 : Int), V.str [], V.int IntKind.i64 (7 : Int)], bx := [] })
                  (cond (decide
      ((0 : Int) ≤ Prod.fst (N.numLoop most (List.drop (0 : Nat) s) (0 : Int) (0 : Int)) ∧
        Prod.fst (N.numLoop most (List.drop (0 : Nat) s) (0 : Int) (0 : Int)) ≤ (↑(List.length s) : Int)))
                    (some
      {
        v :=
          V.tup
            [V.int IntKind.i64 (Prod.snd (N.numLoop most (List.drop (0 : Nat) s) (0 : Int) (0 : Int))),
              V.str
                (List.drop (Int.toNat (Prod.fst (N.numLoop most (List.drop (0 : Nat) s) (0 : Int) (0 : Int))))
                  (List.take (List.length s) s)),
              V.int IntKind.i64 (0 : Int)],
        bx := [] })
                    (none))))))
          (none))
        (none))
      (none) := by kernel_rfl
theorem q_numberR (s : Bytes) (most k n : Int) (K : Ex → St → Option R) : evRound eNumber 15 2 { fr := [(0, .str s), (1, .int .i64 most), (7, .int .i64 k), (8, .int .i64 n)], tab := [] } K =
    cond (ilt k (↑(List.length s) : Int))
      (cond (decide ((0 : Int) ≤ k ∧ k < (↑(List.length s) : Int)))
        (cond (ilt (↑(UInt8.toNat (List.getD s (Int.toNat k) (0 : UInt8))) : Int) (48 : Int))
          (K (Ex.exit (0 : Nat))
      {
        fr :=
          [((0 : Nat), V.str s), ((1 : Nat), V.int IntKind.i64 most), ((7 : Nat), V.int IntKind.i64 k),
            ((8 : Nat), V.int IntKind.i64 n)],
        tab := [] })
          (cond (ilt (57 : Int) (↑(UInt8.toNat (List.getD s (Int.toNat k) (0 : UInt8))) : Int))
            (K (Ex.exit (0 : Nat))
      {
        fr :=
          [((0 : Nat), V.str s), ((1 : Nat), V.int IntKind.i64 most), ((7 : Nat), V.int IntKind.i64 k),
            ((8 : Nat), V.int IntKind.i64 n)],
        tab := [] })
            (cond (ile n most)
              (K Ex.normal
      {
        fr :=
          [((0 : Nat), V.str s), ((1 : Nat), V.int IntKind.i64 most),
            ((7 : Nat), V.int IntKind.i64 (IntKind.wrap IntKind.i64 (k + (1 : Int)))),
            ((8 : Nat),
              V.int IntKind.i64
                (IntKind.wrap IntKind.i64
                  (IntKind.wrap IntKind.i64 ((10 : Int) * n) +
                    IntKind.wrap IntKind.i64
                      (IntKind.wrap IntKind.u8
                        ((↑(UInt8.toNat (List.getD s (Int.toNat k) (0 : UInt8))) : Int) - (48 : Int))))))],
        tab := [] })
              (K Ex.normal
      {
        fr :=
          [((0 : Nat), V.str s), ((1 : Nat), V.int IntKind.i64 most),
            ((7 : Nat), V.int IntKind.i64 (IntKind.wrap IntKind.i64 (k + (1 : Int)))), ((8 : Nat), V.int IntKind.i64 n)],
        tab := [] }))))
        (none))
      (K (Ex.exit (0 : Nat))
      {
        fr :=
          [((0 : Nat), V.str s), ((1 : Nat), V.int IntKind.i64 most), ((7 : Nat), V.int IntKind.i64 k),
            ((8 : Nat), V.int IntKind.i64 n)],
        tab := [] }) := by kernel_rfl
theorem drop_getD {s : Bytes} {k : Nat} (h : k < s.length) : s.drop k = s.getD k 0 :: s.drop (k + 1) := by
  rw [List.drop_eq_getElem_cons h, List.getD_eq_getElem?_getD, List.getElem?_eq_getElem h]; rfl
theorem wrap_u8 {n : Int} (h1 : 0 ≤ n) (h2 : n < 256) : IntKind.wrap .u8 n = n := by
  simp only [IntKind.wrap, IntKind.signed, IntKind.bits]
  simp
  omega
theorem numberR_ok (s : Bytes) (most : Int) (hm : 0 ≤ most) (hm2 : most ≤ 1000000) (hb : s.length ≤ 9223372036854775806) (K : Ex → St → Option R) (q : R) : ∀ (d : Nat) (k n : Int), d = s.length - k.toNat → 0 ≤ k → 0 ≤ n →
    K (.exit 0) { fr := [(0, .str s), (1, .int .i64 most), (7, .int .i64 (N.numLoop most (s.drop k.toNat) k n).1), (8, .int .i64 (N.numLoop most (s.drop k.toNat) k n).2)], tab := [] } = some q →
    ∃ m, iterR eNumber 15 2 m { fr := [(0, .str s), (1, .int .i64 most), (7, .int .i64 k), (8, .int .i64 n)], tab := [] } K = some q
  | 0, k, n, hd, hk, hn, h => by
    refine ⟨1, ?_⟩
    show evRound eNumber _ 2 _ _ = some q
    rw [q_numberR]
    have h1 : ilt k (s.length : Int) = false := by rw [ilt_eq, decide_eq_false_iff_not]; omega
    rw [h1, cond_false]
    rw [List.drop_eq_nil_of_le (by omega)] at h
    exact h
  | d + 1, k, n, hd, hk, hn, h => by
    have hlt : k.toNat < s.length := by omega
    rw [drop_getD hlt] at h
    have h1 : ilt k (s.length : Int) = true := by rw [ilt_eq, decide_eq_true_iff]; omega
    have h2 : decide ((0 : Int) ≤ k ∧ k < (s.length : Int)) = true := by rw [decide_eq_true_iff]; omega
    have hk1 : (k + 1).toNat = k.toNat + 1 := by omega
    cases hdg : N.isDigit (s.getD k.toNat 0) with
    | true =>
      obtain ⟨g1, g2⟩ := (N.isDigit_iff _).1 hdg
      simp only [N.numLoop, hdg, cond_true, ← hk1] at h
      obtain ⟨m, hm'⟩ := numberR_ok s most hm hm2 hb K q d (k + 1) (cond (ile n most) (10 * n + ((s.getD k.toNat 0).toNat - 48)) n) (by omega) (by omega) (by
        cases ile n most <;> simp only [cond_true, cond_false] <;> omega) h
      refine ⟨m + 1, ?_⟩
      show evRound eNumber _ 2 _ _ = some q
      rw [q_numberR]
      have e1 : ilt ((s.getD k.toNat 0).toNat : Int) 48 = false := by rw [ilt_eq, decide_eq_false_iff_not]; omega
      have e2 : ilt 57 ((s.getD k.toNat 0).toNat : Int) = false := by rw [ilt_eq, decide_eq_false_iff_not]; omega
      rw [h1, h2, e1, e2, cond_true, cond_true, cond_false, cond_false, wrap_i64 (n := k + 1) (by omega) (by omega)]
      cases hc : ile n most with
      | true =>
        rw [ile_eq] at hc
        have hc' := of_decide_eq_true hc
        rw [cond_true, wrap_u8 (by omega) (by omega), wrap_i64 (n := ((s.getD k.toNat 0).toNat : Int) - 48) (by omega) (by omega), wrap_i64 (n := 10 * n) (by omega) (by omega), wrap_i64 (by omega) (by omega)]
        rw [show ile n most = true by rw [ile_eq]; exact hc] at hm'
        exact hm'
      | false =>
        rw [hc] at hm'
        exact hm'
    | false =>
      simp only [N.numLoop, hdg, cond_false] at h
      refine ⟨1, ?_⟩
      show evRound eNumber _ 2 _ _ = some q
      rw [q_numberR, h1, h2, cond_true, cond_true]
      unfold N.isDigit at hdg
      cases e1 : ilt ((s.getD k.toNat 0).toNat : Int) 48 with
      | true => exact h
      | false =>
        rw [e1] at hdg
        cases e2 : ilt 57 ((s.getD k.toNat 0).toNat : Int) with
        | true => exact h
        | false => rw [e2] at hdg; cases hdg
theorem ok_number : FnOk Try.prog 15 dNumber := by
  refine den_okF (env_ok (TOk.nil _)) (E := eNumber) Try.func15 [2] (by kernel_rfl) (one1 (rounds_of rfl fun l K q h => ?_)) fun a _ h => ?_
  · unfold gNumber at h
    split at h
    · rename_i s most k n
      obtain ⟨h1, h⟩ := cond_none h
      obtain ⟨h2, h⟩ := cond_none h
      obtain ⟨h3, h⟩ := cond_none h
      obtain ⟨h4, h⟩ := cond_none h
      obtain ⟨h5, h⟩ := cond_none h
      rw [ile_eq] at h1 h2 h3 h4
      exact numberR_ok s most (of_decide_eq_true h3) (of_decide_eq_true h4) (Nat.le_of_ble_eq_true h5) K q _ k n rfl (of_decide_eq_true h1) (of_decide_eq_true h2) h
    · cases h
  · obtain ⟨s, most⟩ := a
    obtain ⟨p1, h⟩ := bcond h
    obtain ⟨p2, p3⟩ := bcond h
    refine (q_number s most).trans ?_
    show _ = some (⟨.tup [.int .i64 (N.number s most).1, .str (N.number s most).2.1, .int .i64 (N.number s most).2.2], [], []⟩ : DRes)
    have hb := N.numLoop_bounds most s 0 0
    have b1 : decide ((0 : Int) ≤ (N.numLoop most s 0 0).1 ∧ (N.numLoop most s 0 0).1 ≤ (s.length : Int)) = true := by rw [decide_eq_true_iff]; omega
    unfold N.number
    simp only at p1 p2 p3
    rw [p1, p2, p3]
    simp only [cond_true, List.drop_zero, List.take_length, b1]
    cases h1 : (N.numLoop most s 0 0).1 == 0 with
    | true => cases (s.length : Int) == 0 <;> rfl
    | false =>
      have h1' : (N.numLoop most s 0 0).1 ≠ 0 := by simpa using h1
      have b2 : decide ((0 : Int) ≤ 0 ∧ (0 : Int) < (s.length : Int)) = true := by rw [decide_eq_true_iff]; omega
      simp only [cond_false, b2, cond_true]
      cases ilt 1 (N.numLoop most s 0 0).1 <;> cases ((s.getD 0 0).toNat : Int) == 48 <;> cases ilt most (N.numLoop most s 0 0).2 <;> rfl

def schParse : SSch := { fr := [(0, .str), (2, .ptr 10000 0 0), (6, .ptr 10001 0 0), (7, .int .i64)], tab := [(10000, .var [.int .u8, .int .u32]), (10001, .var [.int .u8, .int .u32])] }
def gParse : List Leaf → (Ex → St → Option R) → Option R
  | [.s s, .i last, .i r1, .i r2, .i a1, .i a2], K => cond (Nat.ble s.length 9223372036854775806)
      (cond ((N.parseLoop s.length s ⟨a1, a2⟩ last).2 != 0)
        (K .ret { fr := [(2, .ptr 10000 0 0 0), (3, .int .i64 (N.parseLoop s.length s ⟨a1, a2⟩ last).2)], tab := [(10000, .var [.int .u8 0, .int .u32 0])] })
        (K (.exit 0) { fr := [(2, .ptr 10000 0 0 0), (6, .ptr 10001 0 0 0)], tab := [(10000, .var [.int .u8 r1, .int .u32 r2]), (10001, .var (cLabel.enc (N.parseLoop s.length s ⟨a1, a2⟩ last).1))] })) none
  | _, _ => none
noncomputable def eParse : Env := env Try.prog [(15, dNumber)] [(6, loopF schParse gParse)] [(6, [(0, [0, 2, 6, 7]), (1, [2, 6]), (1000, [2, 3])])]
theorem q_parse (s : Bytes) : evFn eParse 12 ((aOne vStr).enc s) (bNil.enc ()) some =
    cond (Nat.ble (List.length s) (9223372036854775806 : Nat))
      (cond (Prod.snd (Prod.snd (N.number s (15 : Int))) != (0 : Int))
        (some
      {
        v :=
          V.tup
            [V.agg [V.int IntKind.u8 (0 : Int), V.int IntKind.u32 (0 : Int)],
              V.int IntKind.i64 (Prod.snd (Prod.snd (N.number s (15 : Int))))],
        bx := [] })
        (cond (Nat.ble (List.length (Prod.fst (Prod.snd (N.number s (15 : Int))))) (9223372036854775806 : Nat))
          (cond (Prod.snd
        (N.parseLoop (List.length (Prod.fst (Prod.snd (N.number s (15 : Int)))))
          (Prod.fst (Prod.snd (N.number s (15 : Int))))
          { level := IntKind.wrap IntKind.u8 (Prod.fst (N.number s (15 : Int))), set := (0 : Int) } (-1 : Int)) !=
      (0 : Int))
            (some
      {
        v :=
          V.tup
            [V.agg [V.int IntKind.u8 (0 : Int), V.int IntKind.u32 (0 : Int)],
              V.int IntKind.i64
                (Prod.snd
                  (N.parseLoop (List.length (Prod.fst (Prod.snd (N.number s (15 : Int)))))
                    (Prod.fst (Prod.snd (N.number s (15 : Int))))
                    { level := IntKind.wrap IntKind.u8 (Prod.fst (N.number s (15 : Int))), set := (0 : Int) } (-1 : Int)))],
        bx := [] })
            (some
      {
        v :=
          V.tup
            [V.agg
                [V.int IntKind.u8
                    (Label.level
                      (Prod.fst
                        (N.parseLoop (List.length (Prod.fst (Prod.snd (N.number s (15 : Int)))))
                          (Prod.fst (Prod.snd (N.number s (15 : Int))))
                          { level := IntKind.wrap IntKind.u8 (Prod.fst (N.number s (15 : Int))), set := (0 : Int) }
                          (-1 : Int)))),
                  V.int IntKind.u32
                    (Label.set
                      (Prod.fst
                        (N.parseLoop (List.length (Prod.fst (Prod.snd (N.number s (15 : Int)))))
                          (Prod.fst (Prod.snd (N.number s (15 : Int))))
                          { level := IntKind.wrap IntKind.u8 (Prod.fst (N.number s (15 : Int))), set := (0 : Int) }
                          (-1 : Int))))],
              V.int IntKind.i64 (0 : Int)],
        bx := [] }))
          (none)))
      (none) := by kernel_rfl
theorem q_parseR (s : Bytes) (r a : Label) (last : Int) (K : Ex → St → Option R) : evRound eParse 12 6 { fr := [(0, .str s), (2, .ptr 10000 0 0 0), (6, .ptr 10001 0 0 0), (7, .int .i64 last)], tab := [(10000, .var (cLabel.enc r)), (10001, .var (cLabel.enc a))] } K =
    cond (ilt (0 : Int) (↑(List.length s) : Int))
      (cond (decide ((0 : Int) ≤ (0 : Int) ∧ (0 : Int) < (↑(List.length s) : Int)))
        (cond ((↑(UInt8.toNat (List.getD s (0 : Nat) (0 : UInt8))) : Int) != (58 : Int))
          (K Ex.ret
      { fr := [((2 : Nat), V.ptr (10000 : Nat) (0 : Nat) (0 : Nat) (0 : Nat)), ((3 : Nat), V.int IntKind.i64 (4 : Int))],
        tab := [((10000 : Nat), Box.var [V.int IntKind.u8 (0 : Int), V.int IntKind.u32 (0 : Int)])] })
          (cond (decide ((0 : Int) ≤ (1 : Int) ∧ (1 : Int) ≤ (↑(List.length s) : Int)))
            (cond (Nat.ble (List.length (List.drop (1 : Nat) (List.take (List.length s) s))) (9223372036854775806 : Nat))
              (cond (Prod.snd (Prod.snd (N.number (List.drop (1 : Nat) (List.take (List.length s) s)) (31 : Int))) != (0 : Int))
                (K Ex.ret
      {
        fr :=
          [((2 : Nat), V.ptr (10000 : Nat) (0 : Nat) (0 : Nat) (0 : Nat)),
            ((3 : Nat),
              V.int IntKind.i64
                (Prod.snd (Prod.snd (N.number (List.drop (1 : Nat) (List.take (List.length s) s)) (31 : Int)))))],
        tab := [((10000 : Nat), Box.var [V.int IntKind.u8 (0 : Int), V.int IntKind.u32 (0 : Int)])] })
                (cond (ile (Prod.fst (N.number (List.drop (1 : Nat) (List.take (List.length s) s)) (31 : Int))) last)
                  (K Ex.ret
      { fr := [((2 : Nat), V.ptr (10000 : Nat) (0 : Nat) (0 : Nat) (0 : Nat)), ((3 : Nat), V.int IntKind.i64 (4 : Int))],
        tab := [((10000 : Nat), Box.var [V.int IntKind.u8 (0 : Int), V.int IntKind.u32 (0 : Int)])] })
                  (cond (decide (Prod.fst (N.number (List.drop (1 : Nat) (List.take (List.length s) s)) (31 : Int)) < (0 : Int)))
                    (none)
                    (K Ex.normal
      {
        fr :=
          [((0 : Nat),
              V.str (Prod.fst (Prod.snd (N.number (List.drop (1 : Nat) (List.take (List.length s) s)) (31 : Int))))),
            ((2 : Nat), V.ptr (10000 : Nat) (0 : Nat) (0 : Nat) (0 : Nat)),
            ((6 : Nat), V.ptr (10001 : Nat) (0 : Nat) (0 : Nat) (0 : Nat)),
            ((7 : Nat),
              V.int IntKind.i64 (Prod.fst (N.number (List.drop (1 : Nat) (List.take (List.length s) s)) (31 : Int))))],
        tab :=
          [((10000 : Nat), Box.var [V.int IntKind.u8 (Label.level r), V.int IntKind.u32 (Label.set r)]),
            ((10001 : Nat),
              Box.var
                [V.int IntKind.u8 (Label.level a),
                  V.int IntKind.u32
                    (ibits BinOp.or IntKind.u32 (Label.set a)
                      (shl IntKind.u32 (1 : Int)
                        (Prod.fst (N.number (List.drop (1 : Nat) (List.take (List.length s) s)) (31 : Int)))))])] }))))
              (none))
            (none)))
        (none))
      (K (Ex.exit (0 : Nat))
      {
        fr :=
          [((2 : Nat), V.ptr (10000 : Nat) (0 : Nat) (0 : Nat) (0 : Nat)),
            ((6 : Nat), V.ptr (10001 : Nat) (0 : Nat) (0 : Nat) (0 : Nat))],
        tab :=
          [((10000 : Nat), Box.var [V.int IntKind.u8 (Label.level r), V.int IntKind.u32 (Label.set r)]),
            ((10001 : Nat), Box.var [V.int IntKind.u8 (Label.level a), V.int IntKind.u32 (Label.set a)])] }) := by kernel_rfl
theorem parseR_ok (r : Label) (K : Ex → St → Option R) (q : R) : ∀ (d : Nat) (s : Bytes) (a : Label) (last : Int), s.length ≤ d → s.length ≤ 9223372036854775806 →
    cond ((N.parseLoop d s a last).2 != 0)
        (K .ret { fr := [(2, .ptr 10000 0 0 0), (3, .int .i64 (N.parseLoop d s a last).2)], tab := [(10000, .var [.int .u8 0, .int .u32 0])] })
        (K (.exit 0) { fr := [(2, .ptr 10000 0 0 0), (6, .ptr 10001 0 0 0)], tab := [(10000, .var (cLabel.enc r)), (10001, .var (cLabel.enc (N.parseLoop d s a last).1))] }) = some q →
    ∃ m, iterR eParse 12 6 m { fr := [(0, .str s), (2, .ptr 10000 0 0 0), (6, .ptr 10001 0 0 0), (7, .int .i64 last)], tab := [(10000, .var (cLabel.enc r)), (10001, .var (cLabel.enc a))] } K = some q
  | d, [], a, last, hd, hb, h => by
    have e : N.parseLoop d [] a last = (a, 0) := by cases d <;> rfl
    rw [e] at h
    refine ⟨1, ?_⟩
    show evRound eParse _ 6 _ _ = some q
    rw [q_parseR]
    exact h
  | 0, c :: s, a, last, hd, hb, h => by simp at hd
  | d + 1, c :: s, a, last, hd, hb, h => by
    have hl : (c :: s).length = s.length + 1 := rfl
    have b1 : ilt 0 ((c :: s).length : Int) = true := by rw [ilt_eq, decide_eq_true_iff]; omega
    have b2 : decide ((0 : Int) ≤ 0 ∧ (0 : Int) < ((c :: s).length : Int)) = true := by rw [decide_eq_true_iff]; omega
    have b3 : decide ((0 : Int) ≤ 1 ∧ (1 : Int) ≤ ((c :: s).length : Int)) = true := by rw [decide_eq_true_iff]; omega
    have b4 : Nat.ble s.length 9223372036854775806 = true := Nat.ble_eq_true_of_le (by omega)
    have b5 : List.drop 1 (List.take (c :: s).length (c :: s)) = s := by rw [List.take_length]; rfl
    have spec := N.number_spec s 31
    have main : ∀ m, evRound eParse 12 6 { fr := [(0, .str (c :: s)), (2, .ptr 10000 0 0 0), (6, .ptr 10001 0 0 0), (7, .int .i64 last)], tab := [(10000, .var (cLabel.enc r)), (10001, .var (cLabel.enc a))] } (fun e S => match e with
        | .normal => iterR eParse 12 6 m S K
        | e => K e S) = some q → ∃ m, iterR eParse 12 6 m { fr := [(0, .str (c :: s)), (2, .ptr 10000 0 0 0), (6, .ptr 10001 0 0 0), (7, .int .i64 last)], tab := [(10000, .var (cLabel.enc r)), (10001, .var (cLabel.enc a))] } K = some q :=
      fun m h => ⟨m + 1, h⟩
    simp only [N.parseLoop] at h
    have hget : (c :: s).getD 0 0 = c := rfl
    cases h1 : ((c.toNat : Int) != 58) with
    | true =>
      rw [h1] at h
      refine main 0 ?_
      rw [q_parseR, b1, b2, hget, h1]
      exact h
    | false =>
      rw [h1] at h
      cases h2 : ((N.number s 31).2.2 != 0) with
      | true =>
        rw [h2] at h
        refine main 0 ?_
        rw [q_parseR, b1, b2, hget, h1, b3, b5, b4, h2]
        simp only [cond_true, cond_false, h2] at h ⊢
        exact h
      | false =>
        rw [h2] at h
        cases h3 : ile (N.number s 31).1 last with
        | true =>
          rw [h3] at h
          refine main 0 ?_
          rw [q_parseR, b1, b2, hget, h1, b3, b5, b4, h2, h3]
          exact h
        | false =>
          rw [h3] at h
          have h2' : (N.number s 31).2.2 = 0 := by simpa using h2
          obtain ⟨g1, g2⟩ := spec.2 h2'
          obtain ⟨m, hm⟩ := parseR_ok r K q d (N.number s 31).2.1 ⟨a.level, ibits .or .u32 a.set (shl .u32 1 (N.number s 31).1)⟩ (N.number s 31).1 (by omega) (by omega) h
          refine main m ?_
          have b6 : decide ((N.number s 31).1 < 0) = false := by rw [decide_eq_false_iff_not]; omega
          rw [q_parseR, b1, b2, hget, h1, b3, b5, b4, h2, h3, b6]
          exact hm
theorem parseLoop_fuel : ∀ (d e : Nat) (s : Bytes) (a : Label) (last : Int), s.length ≤ d → s.length ≤ e → N.parseLoop d s a last = N.parseLoop e s a last
  | d, e, [], a, last, _, _ => by cases d <;> cases e <;> rfl
  | 0, e, c :: s, a, last, h, _ => by simp at h
  | d + 1, 0, c :: s, a, last, _, h => by simp at h
  | d + 1, e + 1, c :: s, a, last, hd, he => by
    simp only [N.parseLoop]
    cases h1 : ((c.toNat : Int) != 58) with
    | true => rfl
    | false =>
      cases h2 : ((N.number s 31).2.2 != 0) with
      | true => rfl
      | false =>
        have h2' : (N.number s 31).2.2 = 0 := by simpa using h2
        have g := (N.number_spec s 31).2 h2'
        simp only [List.length_cons] at hd he
        rw [parseLoop_fuel d e (N.number s 31).2.1 _ _ (by omega) (by omega)]
theorem parseLoop_err : ∀ (d : Nat) (s : Bytes) (a : Label) (last : Int), ((N.parseLoop d s a last).2 != 0) = true → (N.parseLoop d s a last).1 = ⟨0, 0⟩
  | 0, s, a, last, h => by cases h
  | d + 1, [], a, last, h => by cases h
  | d + 1, c :: s, a, last, h => by
    simp only [N.parseLoop] at h ⊢
    cases h1 : ((c.toNat : Int) != 58) with
    | true => rfl
    | false =>
      rw [h1] at h
      cases h2 : ((N.number s 31).2.2 != 0) with
      | true => rfl
      | false =>
        rw [h2] at h
        cases h3 : ile (N.number s 31).1 last with
        | true => rfl
        | false => rw [h3] at h; exact parseLoop_err d _ _ _ h
theorem ok_parse : FnOk Try.prog 12 dParse := by
  refine den_okF (env_ok ((TOk.nil _).cons ok_number)) (E := eParse) Try.func12 [6] (by kernel_rfl) (one1 (rounds_of rfl fun l K q h => ?_)) fun s _ h => ?_
  · unfold gParse at h
    split at h
    · rename_i s last r1 r2 a1 a2
      obtain ⟨h1, h⟩ := cond_none h
      exact parseR_ok ⟨r1, r2⟩ K q s.length s ⟨a1, a2⟩ last (Nat.le_refl _) (Nat.le_of_ble_eq_true h1) h
    · cases h
  · refine (q_parse s).trans ?_
    show _ = some (⟨.tup [.agg [.int .u8 (N.parse s).1.level, .int .u32 (N.parse s).1.set], .int .i64 (N.parse s).2], [], []⟩ : DRes)
    have hb : s.length ≤ 9223372036854775806 := Nat.le_of_ble_eq_true h
    rw [show Nat.ble s.length 9223372036854775806 = true from h, cond_true]
    unfold N.parse
    cases h1 : ((N.number s 15).2.2 != 0) with
    | true => rfl
    | false =>
      have h1' : (N.number s 15).2.2 = 0 := by simpa using h1
      obtain ⟨g0, g⟩ := N.number_spec s 15
      obtain ⟨g1, g2⟩ := g h1'
      simp only [cond_false]
      rw [Nat.ble_eq_true_of_le (show (N.number s 15).2.1.length ≤ 9223372036854775806 by omega), cond_true, wrap_u8 g0 (by omega)]
      cases h2 : ((N.parseLoop (N.number s 15).2.1.length (N.number s 15).2.1 ⟨(N.number s 15).1, 0⟩ (-1)).2 != 0) with
      | true => rw [parseLoop_err _ _ _ _ h2]; rfl
      | false =>
        have h2' : (N.parseLoop (N.number s 15).2.1.length (N.number s 15).2.1 ⟨(N.number s 15).1, 0⟩ (-1)).2 = 0 := by simpa using h2
        rw [h2']; rfl
/-! ### The chapters' examples -/
noncomputable def eAw1 : Env := env Try.prog [(17, dOutNum), (19, dOutText), (18, dOutString), (20, dNew), (21, dNum)] [] []
theorem q_aw1  : evFn eAw1 16 [] [] some =
    some { v := V.bool true, bx := [] } := by kernel_rfl
def dTrue : Den := den aNil bNil (oV vBool) (fun _ _ => true) fun _ _ => (true, ())
theorem ok_aw1 (hN : FnOk Try.prog 17 dOutNum) : FnOk Try.prog 16 dTrue :=
  den_okF (env_ok ((((((TOk.nil _).cons ok_num).cons ok_new).cons ok_outString).cons (ok_outText hN)).cons hN)) (E := eAw1) Try.func16 [] (by kernel_rfl) none0 fun _ _ _ => q_aw1
noncomputable def eAw1' : Env := env Try.prog [(16, dTrue)] [] []
theorem q_aw1'  : evFn eAw1' 13 [] [] some =
    some { v := V.bool true, bx := [] } := by kernel_rfl
theorem ok_aw1' (hN : FnOk Try.prog 17 dOutNum) : FnOk Try.prog 13 dTrue :=
  den_okF (env_ok ((TOk.nil _).cons (ok_aw1 hN))) (E := eAw1') Try.func13 [] (by kernel_rfl) none0 fun _ _ _ => q_aw1'
noncomputable def eAw3 : Env := env Try.prog [(12, dParse), (13, dTrue), (7, dUnder)] [] []
theorem q_aw3  : evFn eAw3 6 [] [] some =
    some { v := V.bool true, bx := [] } := by kernel_rfl
theorem ok_aw3 (hN : FnOk Try.prog 17 dOutNum) : FnOk Try.prog 6 dTrue :=
  den_okF (env_ok ((((TOk.nil _).cons ok_under).cons (ok_aw1' hN)).cons ok_parse)) (E := eAw3) Try.func6 [] (by kernel_rfl) none0 fun _ _ _ => q_aw3
end Go.Ev
