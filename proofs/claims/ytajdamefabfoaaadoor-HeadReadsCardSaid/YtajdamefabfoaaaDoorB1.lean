/- The program's functions on bytes answer what the plain ones do: lemmas; that of the function that writes numbers is a premise. -/
import Derived.Test.YtajdamefabfoaaaDoorP1
import Derived.Test.YtajdamefabfoaaaDoorProg
import Derived.KernelRfl
namespace Go.Ev
open Go Go.Proofs
set_option maxRecDepth 100000

noncomputable def eFail : Env := env Tryd.prog [] [] []
theorem q_fail (i : InS) (n : Int) : evFn eFail 65 ((aCons (vPtr 0) (aOne (vInt .i64))).enc ((), n)) ((bOne cIn).enc i) some =
    cond (InS.err i == (0 : Int))
      (cond (n != (0 : Int))
        (some { v := V.tup [], bx := [[V.str [], V.int IntKind.i64 n]] })
        (some { v := V.tup [], bx := [[V.str (InS.s i), V.int IntKind.i64 (InS.err i)]] }))
      (some { v := V.tup [], bx := [[V.str (InS.s i), V.int IntKind.i64 (InS.err i)]] }) := by kernel_rfl
theorem ok_fail : FnOk Tryd.prog 65 dFail := by
  refine den_okF (env_ok (TOk.nil _)) (E := eFail) Tryd.func65 [] (by kernel_rfl) none0 fun a i _ => ?_
  refine (q_fail i a.2).trans ?_
  show _ = some (⟨.tup [], [[.str (N.inFail i a.2).s, .int .i64 (N.inFail i a.2).err]], []⟩ : DRes)
  unfold N.inFail
  cases i.err == 0 <;> cases a.2 != 0 <;> rfl

noncomputable def eRaw : Env := env Tryd.prog [(65, dFail)] [] []
theorem q_raw (i : InS) (n : Int) : evFn eRaw 87 ((aCons (vPtr 0) (aOne (vInt .i64))).enc ((), n)) ((bOne cIn).enc i) some =
    cond (InS.err i != (0 : Int))
      (cond (InS.err i != (0 : Int))
        (some { v := V.str [], bx := [[V.str (InS.s i), V.int IntKind.i64 (InS.err i)]] })
        (cond (ilt (↑(List.length (InS.s i)) : Int) n)
          (some
      { v := V.str [], bx := [[V.str (InS.s (N.inFail i (3 : Int))), V.int IntKind.i64 (InS.err (N.inFail i (3 : Int)))]] })
          (cond (decide ((0 : Int) ≤ n ∧ n ≤ (↑(List.length (InS.s i)) : Int)))
            (cond (decide ((0 : Int) ≤ n ∧ n ≤ (↑(List.length (InS.s i)) : Int)))
              (some
      { v := V.str (List.drop (0 : Nat) (List.take (Int.toNat n) (InS.s i))),
        bx :=
          [[V.str (List.drop (Int.toNat n) (List.take (List.length (InS.s i)) (InS.s i))), V.int IntKind.i64 (InS.err i)]] })
              (none))
            (none))))
      (cond (ile n (0 : Int))
        (some { v := V.str [], bx := [[V.str (InS.s i), V.int IntKind.i64 (InS.err i)]] })
        (cond (ilt (↑(List.length (InS.s i)) : Int) n)
          (some
      { v := V.str [], bx := [[V.str (InS.s (N.inFail i (3 : Int))), V.int IntKind.i64 (InS.err (N.inFail i (3 : Int)))]] })
          (cond (decide ((0 : Int) ≤ n ∧ n ≤ (↑(List.length (InS.s i)) : Int)))
            (cond (decide ((0 : Int) ≤ n ∧ n ≤ (↑(List.length (InS.s i)) : Int)))
              (some
      { v := V.str (List.drop (0 : Nat) (List.take (Int.toNat n) (InS.s i))),
        bx :=
          [[V.str (List.drop (Int.toNat n) (List.take (List.length (InS.s i)) (InS.s i))), V.int IntKind.i64 (InS.err i)]] })
              (none))
            (none)))) := by kernel_rfl
theorem inBounds {n : Int} {l : Nat} (h1 : ile n 0 = false) (h2 : ilt (l : Int) n = false) : decide ((0 : Int) ≤ n ∧ n ≤ (l : Int)) = true := by
  rw [ile_eq] at h1; rw [ilt_eq] at h2
  have h1 := of_decide_eq_false h1
  have h2 := of_decide_eq_false h2
  rw [decide_eq_true_iff]; omega
theorem ok_raw : FnOk Tryd.prog 87 dRaw := by
  refine den_okF (env_ok ((TOk.nil _).cons ok_fail)) (E := eRaw) Tryd.func87 [] (by kernel_rfl) none0 fun a i _ => ?_
  refine (q_raw i a.2).trans ?_
  show _ = some (⟨.str (N.inRaw i a.2).1, [[.str (N.inRaw i a.2).2.s, .int .i64 (N.inRaw i a.2).2.err]], []⟩ : DRes)
  unfold N.inRaw
  cases h1 : (i.err != 0) with
  | true => rfl
  | false =>
    cases h2 : ile a.2 0 with
    | true => rfl
    | false =>
      cases h3 : ilt (i.s.length : Int) a.2 with
      | true => rfl
      | false =>
        simp only [cond_true, cond_false, inBounds h2 h3, List.drop_zero, List.take_length]

def schNum : SSch := { fr := [(5, .int .u64), (12, .slc [.int .u8]), (13, .int .i64), (14, .int .i64)], tab := [(0, .var [.str, .int .i64])] }
def gNum : List Leaf → (Ex → St → Option R) → Option R
  | [.i n, .r rows, .i len, .i k, .s s, .i e], K => cond (decide (len = (rows.length : Int))) (cond (ile 0 k) (cond (Nat.ble rows.length 9223372036854775806)
      (K (.exit 0) { fr := [(5, .int .u64 (N.beR (rows.drop k.toNat) n))], tab := [(0, .var [.str s, .int .i64 e])] }) none) none) none
  | _, _ => none
noncomputable def eNum : Env := env Tryd.prog [(87, dRaw)] [(3, loopF schNum gNum)] [(3, [(0, [5, 12, 13, 14]), (1, [5]), (1000, [4])])]
theorem q_num (i : InS) (n : Int) : evFn eNum 64 ((aCons (vPtr 0) (aOne (vInt .i64))).enc ((), n)) ((bOne cIn).enc i) some =
    cond (decide
      ((↑(List.length (bytesOfStr (Prod.fst (N.inRaw i (bif ilt (8 : Int) n then (8 : Int) else n))))) : Int) =
        (↑(List.length (bytesOfStr (Prod.fst (N.inRaw i (bif ilt (8 : Int) n then (8 : Int) else n))))) : Int)))
      (cond (Nat.ble (List.length (bytesOfStr (Prod.fst (N.inRaw i (bif ilt (8 : Int) n then (8 : Int) else n)))))
      (9223372036854775806 : Nat))
        (some
      {
        v :=
          V.int IntKind.u64
            (N.beR (List.drop (0 : Nat) (bytesOfStr (Prod.fst (N.inRaw i (bif ilt (8 : Int) n then (8 : Int) else n)))))
              (0 : Int)),
        bx :=
          [[V.str (InS.s (Prod.snd (N.inRaw i (bif ilt (8 : Int) n then (8 : Int) else n)))),
              V.int IntKind.i64 (InS.err (Prod.snd (N.inRaw i (bif ilt (8 : Int) n then (8 : Int) else n))))]] })
        (none))
      (none) := by kernel_rfl
theorem q_numR (rows : List (List V)) (n len k e : Int) (s : Bytes) (K : Ex → St → Option R) : evRound eNum 64 3 { fr := [(5, .int .u64 n), (12, .slc [.int .u8] rows), (13, .int .i64 len), (14, .int .i64 k)], tab := [(0, .var [.str s, .int .i64 e])] } K =
    cond (ilt k len)
      (cond (decide ((0 : Int) ≤ k ∧ k < (↑(List.length rows) : Int)))
        (K Ex.normal
      {
        fr :=
          [((5 : Nat),
              V.int IntKind.u64
                (ibits BinOp.or IntKind.u64 (shl IntKind.u64 n (8 : Int))
                  (IntKind.wrap IntKind.u64 (V.toInt (List.getD (List.getD rows (Int.toNat k) []) (0 : Nat) V.undef))))),
            ((12 : Nat), V.slc [Sh.int IntKind.u8] rows), ((13 : Nat), V.int IntKind.i64 len),
            ((14 : Nat), V.int IntKind.i64 (IntKind.wrap IntKind.i64 (k + (1 : Int))))],
        tab := [((0 : Nat), Box.var [V.str s, V.int IntKind.i64 e])] })
        (none))
      (K (Ex.exit (0 : Nat))
      { fr := [((5 : Nat), V.int IntKind.u64 n)], tab := [((0 : Nat), Box.var [V.str s, V.int IntKind.i64 e])] }) := by kernel_rfl
theorem wrap_i64 {n : Int} (h1 : -9223372036854775808 ≤ n) (h2 : n ≤ 9223372036854775807) : IntKind.wrap .i64 n = n := by
  simp only [IntKind.wrap, IntKind.signed, IntKind.bits]
  simp
  omega
theorem wrap_u64 {n : Int} (h1 : 0 ≤ n) (h2 : n < 18446744073709551616) : IntKind.wrap .u64 n = n := by
  simp only [IntKind.wrap, IntKind.signed, IntKind.bits]
  simp
  omega
theorem numR_ok (rows : List (List V)) (len e : Int) (s : Bytes) (hlen : len = rows.length) (hb : rows.length ≤ 9223372036854775806) (K : Ex → St → Option R) (q : R) : ∀ (d : Nat) (k n : Int), d = rows.length - k.toNat → 0 ≤ k →
    K (.exit 0) { fr := [(5, .int .u64 (N.beR (rows.drop k.toNat) n))], tab := [(0, .var [.str s, .int .i64 e])] } = some q →
    ∃ m, iterR eNum 64 3 m { fr := [(5, .int .u64 n), (12, .slc [.int .u8] rows), (13, .int .i64 len), (14, .int .i64 k)], tab := [(0, .var [.str s, .int .i64 e])] } K = some q
  | 0, k, n, hd, hk, h => by
    refine ⟨1, ?_⟩
    show evRound eNum _ 3 _ _ = some q
    rw [q_numR]
    have h1 : ilt k len = false := by rw [ilt_eq, decide_eq_false_iff_not]; omega
    rw [h1, cond_false]
    rw [List.drop_eq_nil_of_le (by omega)] at h
    exact h
  | d + 1, k, n, hd, hk, h => by
    have hlt : k.toNat < rows.length := by omega
    have hdrop : rows.drop k.toNat = rows.getD k.toNat [] :: rows.drop (k + 1).toNat := by
      rw [List.drop_eq_getElem_cons hlt, show (k + 1).toNat = k.toNat + 1 by omega, List.getD_eq_getElem?_getD, List.getElem?_eq_getElem hlt]; rfl
    rw [hdrop] at h
    obtain ⟨m, hm⟩ := numR_ok rows len e s hlen hb K q d (k + 1) _ (by omega) (by omega) h
    refine ⟨m + 1, ?_⟩
    show evRound eNum _ 3 _ _ = some q
    rw [q_numR]
    have h1 : ilt k len = true := by rw [ilt_eq, decide_eq_true_iff]; omega
    have h2 : decide ((0 : Int) ≤ k ∧ k < (rows.length : Int)) = true := by rw [decide_eq_true_iff]; omega
    rw [h1, h2, cond_true, cond_true, wrap_i64 (by omega) (by omega)]
    exact hm
theorem ok_num : FnOk Tryd.prog 64 dNum := by
  refine den_okF (env_ok ((TOk.nil _).cons ok_raw)) (E := eNum) Tryd.func64 [3] (by kernel_rfl) (one1 (rounds_of rfl fun l K q h => ?_)) fun a i _ => ?_
  · unfold gNum at h
    split at h
    · rename_i n rows len k s e
      obtain ⟨h1, h⟩ := cond_none h
      obtain ⟨h2, h⟩ := cond_none h
      obtain ⟨h3, h⟩ := cond_none h
      rw [ile_eq] at h2
      exact numR_ok rows len e s (of_decide_eq_true h1) (Nat.le_of_ble_eq_true h3) K q _ k n rfl (of_decide_eq_true h2) h
    · cases h
  · refine (q_num i a.2).trans ?_
    have h8 : (N.inRaw i (bif ilt 8 a.2 then 8 else a.2)).1.length ≤ 8 := N.inRaw_len i _ 8 (by
      rw [ilt_eq]
      by_cases h : 8 < a.2
      · rw [decide_eq_true h]; exact Int.le_refl _
      · rw [decide_eq_false h]; simp only [cond_false]; omega)
    rw [decide_eq_true (rfl : (_ : Int) = _), show Nat.ble (List.length (bytesOfStr (N.inRaw i (bif ilt 8 a.2 then 8 else a.2)).1)) 9223372036854775806 = true from
      Nat.ble_eq_true_of_le (by rw [show (bytesOfStr (N.inRaw i (bif ilt 8 a.2 then 8 else a.2)).1).length = (N.inRaw i (bif ilt 8 a.2 then 8 else a.2)).1.length by simp [bytesOfStr]]; omega), cond_true, cond_true]
    rw [List.drop_zero, beR_bytes _ 0 8 (by decide) h8 (by decide) (by decide)]
    rfl

noncomputable def eNew : Env := env Tryd.prog [] [] []
theorem q_new (s : Bytes) : evFn eNew 33 ((aOne vStr).enc s) (bNil.enc ()) some =
    some
      { v := V.ptr (1000 : Nat) (0 : Nat) (0 : Nat) (0 : Nat), bx := [],
        nb := [Box.var [V.str s, V.int IntKind.i64 (0 : Int)]] } := by kernel_rfl
theorem ok_new : FnOk Tryd.prog 33 dNew := den_okF (env_ok (TOk.nil _)) (E := eNew) Tryd.func33 [] (by kernel_rfl) none0 fun s _ _ => q_new s
theorem q_outRaw (o : OutS) (s : Bytes) : evFn eNew 91 ((aCons (vAgg cOut) (aOne vStr)).enc (o, s)) (bNil.enc ()) some =
    cond (Nat.ble (List.length (OutS.s o) + List.length s) (9223372036854775807 : Nat))
      (some { v := V.agg [V.str (OutS.s o ++ s), V.int IntKind.i64 (OutS.err o)], bx := [] })
      (none) := by kernel_rfl
theorem ok_outRaw : FnOk Tryd.prog 91 dOutRaw := by
  refine den_okF (env_ok (TOk.nil _)) (E := eNew) Tryd.func91 [] (by kernel_rfl) none0 fun a _ h => ?_
  refine (q_outRaw a.1 a.2).trans ?_
  rw [show Nat.ble (a.1.s.length + a.2.length) 9223372036854775807 = true from h]
  rfl
theorem q_outString (o : OutS) : evFn eNew 74 ((aOne (vAgg cOut)).enc o) (bNil.enc ()) some =
    some { v := V.str (OutS.s o), bx := [] } := by kernel_rfl
theorem ok_outString : FnOk Tryd.prog 74 dOutString := den_okF (env_ok (TOk.nil _)) (E := eNew) Tryd.func74 [] (by kernel_rfl) none0 fun s _ _ => q_outString s
noncomputable def eText : Env := env Tryd.prog [(91, dOutRaw), (72, dOutNum)] [] []
theorem q_outText (o : OutS) (s : Bytes) : evFn eText 73 ((aCons (vAgg cOut) (aOne vStr)).enc (o, s)) (bNil.enc ()) some =
    cond (ilt (65535 : Int) (↑(List.length s) : Int))
      (cond (OutS.err o == (0 : Int))
        (some { v := V.agg [V.str (OutS.s o), V.int IntKind.i64 (5 : Int)], bx := [] })
        (some { v := V.agg [V.str (OutS.s o), V.int IntKind.i64 (OutS.err o)], bx := [] }))
      (cond (bif ilt (IntKind.wrap IntKind.u64 (↑(List.length s) : Int)) (18446744073709551616 : Int) then
      Nat.ble (List.length (OutS.s o)) (9223372036854775799 : Nat)
    else false)
        (cond (Nat.ble
      (List.length (OutS.s (N.outNum o (IntKind.wrap IntKind.u64 (↑(List.length s) : Int)) (2 : Int))) + List.length s)
      (9223372036854775807 : Nat))
          (some
      {
        v :=
          V.agg
            [V.str (OutS.s (N.outRaw (N.outNum o (IntKind.wrap IntKind.u64 (↑(List.length s) : Int)) (2 : Int)) s)),
              V.int IntKind.i64
                (OutS.err (N.outRaw (N.outNum o (IntKind.wrap IntKind.u64 (↑(List.length s) : Int)) (2 : Int)) s))],
        bx := [] })
          (none))
        (none)) := by kernel_rfl
theorem ok_outText (hN : FnOk Tryd.prog 72 dOutNum) : FnOk Tryd.prog 73 dOutText := by
  refine den_okF (env_ok (((TOk.nil _).cons hN).cons ok_outRaw)) (E := eText) Tryd.func73 [] (by kernel_rfl) none0 fun a _ h => ?_
  refine (q_outText a.1 a.2).trans ?_
  have h : a.1.s.length + a.2.length ≤ 9223372036854775790 := Nat.le_of_ble_eq_true h
  show _ = some (⟨.agg [.str (N.outText a.1 a.2).s, .int .i64 (N.outText a.1 a.2).err], [], []⟩ : DRes)
  unfold N.outText
  cases h1 : ilt 65535 (a.2.length : Int) with
  | true => cases a.1.err == 0 <;> rfl
  | false =>
    rw [ilt_eq] at h1
    have h1 := of_decide_eq_false h1
    have hw : IntKind.wrap .u64 (a.2.length : Int) = a.2.length := wrap_u64 (by omega) (by omega)
    rw [hw]
    have e1 : ilt (a.2.length : Int) 18446744073709551616 = true := by rw [ilt_eq, decide_eq_true_iff]; omega
    have e2 : Nat.ble a.1.s.length 9223372036854775799 = true := Nat.ble_eq_true_of_le (by omega)
    have e3 : Nat.ble ((N.outNum a.1 (a.2.length : Int) 2).s.length + a.2.length) 9223372036854775807 = true := Nat.ble_eq_true_of_le (by
      have : (N.outNum a.1 (a.2.length : Int) 2).s.length = a.1.s.length + 2 := by
        show (a.1.s ++ N.numB _ (N.clamp 2)).length = _
        rw [List.length_append, N.numB_length]; rfl
      omega)
    simp only [e1, e2, e3, cond_true, cond_false]
end Go.Ev
