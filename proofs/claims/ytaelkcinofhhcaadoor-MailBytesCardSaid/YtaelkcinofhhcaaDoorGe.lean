/- The program's functions that read heads, those with loops, answer what the plain ones do: lemmas. -/
import Derived.Test.YtaelkcinofhhcaaDoorGd
import Derived.Test.YtaelkcinofhhcaaDoorGc
namespace Go.Ev
open Go Go.Proofs
set_option maxRecDepth 100000

namespace N
/-- The loop over a head's pairs: went through, what was read, the reader. -/
def hl : Nat → InS → List (List V) → Bool × List (List V) × InS
  | 0, i, rows => (true, rows, i)
  | k + 1, i, rows => cond ((bad (one i).1 (rowsP rows) (one i).2).err != 0) (false, [], bad (one i).1 (rowsP rows) (one i).2) (hl k (bad (one i).1 (rowsP rows) (one i).2) (rows ++ [cPair.enc (one i).1]))
def rhl : Nat → RIn → List (List V) → List (List V) × RIn
  | 0, q, rows => (rows, q)
  | k + 1, q, rows => cond (q.code == 0) (rhl k (rBad (rOne q).1 (rowsP rows) (rOne q).2) (rows ++ [cPair.enc (rOne q).1])) (rows, q)
end N
def schHeadRead : SSch := { fr := [(0, .ptr 0 0 0), (4, .own 10000), (13, .int .i64), (14, .int .i64)], tab := [(0, .var [.str, .int .i64]), (10000, .sl [.str, .int .u8, .int .i64, .str])] }
def gHeadRead : List Leaf → (Ex → St → Option R) → Option R
  | [.i n, .i j, .s s, .i e, .r rows], K => cond (ile 0 j) (cond (ile n 300) (cond (Nat.ble (rows.length + (n - j).toNat) LIM) (cond (N.hl (n - j).toNat ⟨s, e⟩ rows).1
      (K (.exit 0) { fr := [(4, .own 10000 0)], tab := [(0, .var [.str (N.hl (n - j).toNat ⟨s, e⟩ rows).2.2.s, .int .i64 (N.hl (n - j).toNat ⟨s, e⟩ rows).2.2.err]), (10000, .sl [.str, .int .u8, .int .i64, .str] (N.hl (n - j).toNat ⟨s, e⟩ rows).2.1 0)] })
      (K .ret { fr := [(2, .own 10000 0)], tab := [(0, .var [.str (N.hl (n - j).toNat ⟨s, e⟩ rows).2.2.s, .int .i64 (N.hl (n - j).toNat ⟨s, e⟩ rows).2.2.err]), (10000, .sl [.str, .int .u8, .int .i64, .str] [] 0)] })) none) none) none
  | _, _ => none
noncomputable def eHeadRead : Env := env Tryd.prog [(65, dNum), (68, dFail), (37, dInErr), (91, dOne), (86, dPairE)] [(6, loopF schHeadRead gHeadRead)] [(6, [(0, [0, 4, 13, 14]), (1, [4]), (1000, [2])])]
theorem q_headRead (i : InS) : evFn eHeadRead 67 (((aOne (vPtr 0)).enc ())) (((bOne cIn).enc i)) some =
 cond (ilt (8 : Int) (IntKind.wrap IntKind.i64 (Prod.fst (N.inNum i (1 : Int))))) (cond (ile (IntKind.wrap IntKind.i64 (Prod.fst (N.inNum i (1 : Int)))) (300 : Int)) (cond (Nat.ble ((0 : Nat) + Int.toNat (IntKind.wrap IntKind.i64 (Prod.fst (N.inNum i (1 : Int))) - (0 : Int))) (1000000 : Nat)) (cond (Prod.fst (N.hl (Int.toNat (IntKind.wrap IntKind.i64 (Prod.fst (N.inNum i (1 : Int))) - (0 : Int))) (N.inFail (Prod.snd (N.inNum i (1 : Int))) (6 : Int)) [])) (some { v := V.slc [Sh.str, Sh.int IntKind.u8, Sh.int IntKind.i64, Sh.str] (Prod.fst (Prod.snd (N.hl (Int.toNat (IntKind.wrap IntKind.i64 (Prod.fst (N.inNum i (1 : Int))) - (0 : Int))) (N.inFail (Prod.snd (N.inNum i (1 : Int))) (6 : Int)) []))), bx := [[V.str (InS.s (Prod.snd (Prod.snd (N.hl (Int.toNat (IntKind.wrap IntKind.i64 (Prod.fst (N.inNum i (1 : Int))) - (0 : Int))) (N.inFail (Prod.snd (N.inNum i (1 : Int))) (6 : Int)) [])))), V.int IntKind.i64 (InS.err (Prod.snd (Prod.snd (N.hl (Int.toNat (IntKind.wrap IntKind.i64 (Prod.fst (N.inNum i (1 : Int))) - (0 : Int))) (N.inFail (Prod.snd (N.inNum i (1 : Int))) (6 : Int)) []))))]] : DRes }) (some { v := V.slc [Sh.str, Sh.int IntKind.u8, Sh.int IntKind.i64, Sh.str] [], bx := [[V.str (InS.s (Prod.snd (Prod.snd (N.hl (Int.toNat (IntKind.wrap IntKind.i64 (Prod.fst (N.inNum i (1 : Int))) - (0 : Int))) (N.inFail (Prod.snd (N.inNum i (1 : Int))) (6 : Int)) [])))), V.int IntKind.i64 (InS.err (Prod.snd (Prod.snd (N.hl (Int.toNat (IntKind.wrap IntKind.i64 (Prod.fst (N.inNum i (1 : Int))) - (0 : Int))) (N.inFail (Prod.snd (N.inNum i (1 : Int))) (6 : Int)) []))))]] : DRes })) (none)) (none)) (cond (ile (IntKind.wrap IntKind.i64 (Prod.fst (N.inNum i (1 : Int)))) (300 : Int)) (cond (Nat.ble ((0 : Nat) + Int.toNat (IntKind.wrap IntKind.i64 (Prod.fst (N.inNum i (1 : Int))) - (0 : Int))) (1000000 : Nat)) (cond (Prod.fst (N.hl (Int.toNat (IntKind.wrap IntKind.i64 (Prod.fst (N.inNum i (1 : Int))) - (0 : Int))) (Prod.snd (N.inNum i (1 : Int))) [])) (some { v := V.slc [Sh.str, Sh.int IntKind.u8, Sh.int IntKind.i64, Sh.str] (Prod.fst (Prod.snd (N.hl (Int.toNat (IntKind.wrap IntKind.i64 (Prod.fst (N.inNum i (1 : Int))) - (0 : Int))) (Prod.snd (N.inNum i (1 : Int))) []))), bx := [[V.str (InS.s (Prod.snd (Prod.snd (N.hl (Int.toNat (IntKind.wrap IntKind.i64 (Prod.fst (N.inNum i (1 : Int))) - (0 : Int))) (Prod.snd (N.inNum i (1 : Int))) [])))), V.int IntKind.i64 (InS.err (Prod.snd (Prod.snd (N.hl (Int.toNat (IntKind.wrap IntKind.i64 (Prod.fst (N.inNum i (1 : Int))) - (0 : Int))) (Prod.snd (N.inNum i (1 : Int))) []))))]] : DRes }) (some { v := V.slc [Sh.str, Sh.int IntKind.u8, Sh.int IntKind.i64, Sh.str] [], bx := [[V.str (InS.s (Prod.snd (Prod.snd (N.hl (Int.toNat (IntKind.wrap IntKind.i64 (Prod.fst (N.inNum i (1 : Int))) - (0 : Int))) (Prod.snd (N.inNum i (1 : Int))) [])))), V.int IntKind.i64 (InS.err (Prod.snd (Prod.snd (N.hl (Int.toNat (IntKind.wrap IntKind.i64 (Prod.fst (N.inNum i (1 : Int))) - (0 : Int))) (Prod.snd (N.inNum i (1 : Int))) []))))]] : DRes })) (none)) (none)) := by kernel_rfl
theorem q_headReadR (i13 : Int) (i14 : Int) (sx0 : Bytes) (ix0 : Int) (rx0 : List (List V)) (K : Ex → St → Option R) : evRound eHeadRead 67 6 { fr := [(0, .ptr 0 0 0 0), (4, .own 10000 0), (13, .int .i64 i13), (14, .int .i64 i14)], tab := [(0, .var [.str sx0, .int .i64 ix0]), (10000, .sl [.str, .int .u8, .int .i64, .str] rx0 0)] } K =
 cond (ilt i14 i13) (cond (InS.err (Prod.snd (N.one { s := sx0, err := ix0 : InS })) == (0 : Int)) (cond (Nat.ble (List.length (List.map (fun r => { key := V.toStr (List.getD r (0 : Nat) V.undef), kind := V.toInt (List.getD r (1 : Nat) V.undef), num := V.toInt (List.getD r (2 : Nat) V.undef), text := V.toStr (List.getD r (3 : Nat) V.undef) : HPair }) rx0)) (1000000 : Nat)) (cond (InS.err (N.inFail (Prod.snd (N.one { s := sx0, err := ix0 : InS })) (N.pairE (Prod.fst (N.one { s := sx0, err := ix0 : InS })) (List.map (fun r => { key := V.toStr (List.getD r (0 : Nat) V.undef), kind := V.toInt (List.getD r (1 : Nat) V.undef), num := V.toInt (List.getD r (2 : Nat) V.undef), text := V.toStr (List.getD r (3 : Nat) V.undef) : HPair }) rx0))) != (0 : Int)) (K Ex.ret { fr := [((2 : Nat), V.own (10000 : Nat) (0 : Nat))], tab := [((0 : Nat), Box.var [V.str (InS.s (N.inFail (Prod.snd (N.one { s := sx0, err := ix0 : InS })) (N.pairE (Prod.fst (N.one { s := sx0, err := ix0 : InS })) (List.map (fun r => { key := V.toStr (List.getD r (0 : Nat) V.undef), kind := V.toInt (List.getD r (1 : Nat) V.undef), num := V.toInt (List.getD r (2 : Nat) V.undef), text := V.toStr (List.getD r (3 : Nat) V.undef) : HPair }) rx0)))), V.int IntKind.i64 (InS.err (N.inFail (Prod.snd (N.one { s := sx0, err := ix0 : InS })) (N.pairE (Prod.fst (N.one { s := sx0, err := ix0 : InS })) (List.map (fun r => { key := V.toStr (List.getD r (0 : Nat) V.undef), kind := V.toInt (List.getD r (1 : Nat) V.undef), num := V.toInt (List.getD r (2 : Nat) V.undef), text := V.toStr (List.getD r (3 : Nat) V.undef) : HPair }) rx0))))]), ((10000 : Nat), Box.sl [Sh.str, Sh.int IntKind.u8, Sh.int IntKind.i64, Sh.str] [] (0 : Nat))] : St }) (cond (decide ((List.length rx0 + (1 : Nat)) * (48 : Nat) ≤ (140737488355328 : Nat))) (K Ex.normal { fr := [((0 : Nat), V.ptr (0 : Nat) (0 : Nat) (0 : Nat) (0 : Nat)), ((4 : Nat), V.own (10000 : Nat) (0 : Nat)), ((13 : Nat), V.int IntKind.i64 i13), ((14 : Nat), V.int IntKind.i64 (IntKind.wrap IntKind.i64 (i14 + (1 : Int))))], tab := [((0 : Nat), Box.var [V.str (InS.s (N.inFail (Prod.snd (N.one { s := sx0, err := ix0 : InS })) (N.pairE (Prod.fst (N.one { s := sx0, err := ix0 : InS })) (List.map (fun r => { key := V.toStr (List.getD r (0 : Nat) V.undef), kind := V.toInt (List.getD r (1 : Nat) V.undef), num := V.toInt (List.getD r (2 : Nat) V.undef), text := V.toStr (List.getD r (3 : Nat) V.undef) : HPair }) rx0)))), V.int IntKind.i64 (InS.err (N.inFail (Prod.snd (N.one { s := sx0, err := ix0 : InS })) (N.pairE (Prod.fst (N.one { s := sx0, err := ix0 : InS })) (List.map (fun r => { key := V.toStr (List.getD r (0 : Nat) V.undef), kind := V.toInt (List.getD r (1 : Nat) V.undef), num := V.toInt (List.getD r (2 : Nat) V.undef), text := V.toStr (List.getD r (3 : Nat) V.undef) : HPair }) rx0))))]), ((10000 : Nat), Box.sl [Sh.str, Sh.int IntKind.u8, Sh.int IntKind.i64, Sh.str] (rx0 ++ [[V.str (HPair.key (Prod.fst (N.one { s := sx0, err := ix0 : InS }))), V.int IntKind.u8 (HPair.kind (Prod.fst (N.one { s := sx0, err := ix0 : InS }))), V.int IntKind.i64 (HPair.num (Prod.fst (N.one { s := sx0, err := ix0 : InS }))), V.str (HPair.text (Prod.fst (N.one { s := sx0, err := ix0 : InS })))]]) (0 : Nat))] : St }) (none))) (none)) (cond (InS.err (Prod.snd (N.one { s := sx0, err := ix0 : InS })) != (0 : Int)) (K Ex.ret { fr := [((2 : Nat), V.own (10000 : Nat) (0 : Nat))], tab := [((0 : Nat), Box.var [V.str (InS.s (Prod.snd (N.one { s := sx0, err := ix0 : InS }))), V.int IntKind.i64 (InS.err (Prod.snd (N.one { s := sx0, err := ix0 : InS })))]), ((10000 : Nat), Box.sl [Sh.str, Sh.int IntKind.u8, Sh.int IntKind.i64, Sh.str] [] (0 : Nat))] : St }) (cond (decide ((List.length rx0 + (1 : Nat)) * (48 : Nat) ≤ (140737488355328 : Nat))) (K Ex.normal { fr := [((0 : Nat), V.ptr (0 : Nat) (0 : Nat) (0 : Nat) (0 : Nat)), ((4 : Nat), V.own (10000 : Nat) (0 : Nat)), ((13 : Nat), V.int IntKind.i64 i13), ((14 : Nat), V.int IntKind.i64 (IntKind.wrap IntKind.i64 (i14 + (1 : Int))))], tab := [((0 : Nat), Box.var [V.str (InS.s (Prod.snd (N.one { s := sx0, err := ix0 : InS }))), V.int IntKind.i64 (InS.err (Prod.snd (N.one { s := sx0, err := ix0 : InS })))]), ((10000 : Nat), Box.sl [Sh.str, Sh.int IntKind.u8, Sh.int IntKind.i64, Sh.str] (rx0 ++ [[V.str (HPair.key (Prod.fst (N.one { s := sx0, err := ix0 : InS }))), V.int IntKind.u8 (HPair.kind (Prod.fst (N.one { s := sx0, err := ix0 : InS }))), V.int IntKind.i64 (HPair.num (Prod.fst (N.one { s := sx0, err := ix0 : InS }))), V.str (HPair.text (Prod.fst (N.one { s := sx0, err := ix0 : InS })))]]) (0 : Nat))] : St }) (none)))) (K (Ex.exit (0 : Nat)) { fr := [((4 : Nat), V.own (10000 : Nat) (0 : Nat))], tab := [((0 : Nat), Box.var [V.str sx0, V.int IntKind.i64 ix0]), ((10000 : Nat), Box.sl [Sh.str, Sh.int IntKind.u8, Sh.int IntKind.i64, Sh.str] rx0 (0 : Nat))] : St }) := by kernel_rfl
theorem rowsP_append (rows : List (List V)) (p : HPair) : rowsP (rows ++ [cPair.enc p]) = rowsP rows ++ [p] := by unfold rowsP; rw [List.map_append]; rfl
theorem hl_enc : ∀ (k : Nat) (i : InS) (l : List HPair), (N.hl k i (l.map cPair.enc)).2 = ((N.readFrom k i l).1.map cPair.enc, (N.readFrom k i l).2)
  | 0, _, _ => rfl
  | k + 1, i, l => by
    unfold N.hl N.readFrom
    rw [rowsP_enc]
    cases (N.bad (N.one i).1 l (N.one i).2).err != 0 with
    | true => rfl
    | false =>
      have := hl_enc k (N.bad (N.one i).1 l (N.one i).2) (l ++ [(N.one i).1])
      rw [List.map_append] at this
      exact this
theorem hl_none : ∀ (k : Nat) (i : InS) (rows : List (List V)), (N.hl k i rows).1 = false → (N.hl k i rows).2.1 = []
  | 0, _, _, h => by cases h
  | k + 1, i, rows, h => by
    unfold N.hl at h ⊢
    cases hc : (N.bad (N.one i).1 (rowsP rows) (N.one i).2).err != 0 with
    | true => rfl
    | false => rw [hc] at h; exact hl_none k _ _ h
theorem inNum1 (i : InS) : 0 ≤ (N.inNum i 1).1 ∧ (N.inNum i 1).1 < 256 := by
  have h := N.inRaw_len i (bif ilt 8 1 then (8 : Int) else 1) 1 (Int.le_refl 1)
  unfold N.inNum
  revert h
  cases (N.inRaw i (bif ilt 8 1 then (8 : Int) else 1)).1 with
  | nil => intro _; exact ⟨Int.le_refl 0, (by decide : (0 : Int) < 256)⟩
  | cons c r =>
    intro h
    cases r with
    | nil =>
      have := c.toNat_lt
      show 0 ≤ (0 * 256 + (c.toNat : Int)) ∧ (0 * 256 + (c.toNat : Int)) < 256
      omega
    | cons _ _ => simp at h
theorem ok_headRead : FnOk Tryd.prog 67 dHeadRead := by
  refine den_okF (env_ok ((((((TOk.nil _).cons ok_pairE).cons ok_one).cons ok_inErr).cons ok_fail).cons ok_num)) (E := eHeadRead) Tryd.func67 [6] (by kernel_rfl) (one1 (rounds_of rfl fun l K q h => ?_)) fun _ i _ => ?_
  · unfold gHeadRead at h
    split at h
    · rename_i n j s e rows
      have h1 := (cond_none h).1; replace h := (cond_none h).2; have h2 := (cond_none h).1; replace h := (cond_none h).2; have h3 := (cond_none h).1; replace h := (cond_none h).2
      have h2 := ile_of h2
      have h3 : rows.length + (n - j).toNat ≤ 1000000 := ble_of h3
      refine loop_ind (E := eHeadRead) (f := 67) (id := 6) (σ := Int × InS × List (List V)) (fun x => { fr := [(0, .ptr 0 0 0 0), (4, .own 10000 0), (13, .int .i64 n), (14, .int .i64 x.1)], tab := [(0, .var [.str x.2.1.s, .int .i64 x.2.1.err]), (10000, .sl [.str, .int .u8, .int .i64, .str] x.2.2 0)] })
        (fun x => 0 ≤ x.1 ∧ x.2.2.length + (n - x.1).toNat ≤ 1000000) (fun x => (n - x.1).toNat)
        (fun x K => cond (N.hl (n - x.1).toNat x.2.1 x.2.2).1
          (K (.exit 0) { fr := [(4, .own 10000 0)], tab := [(0, .var [.str (N.hl (n - x.1).toNat x.2.1 x.2.2).2.2.s, .int .i64 (N.hl (n - x.1).toNat x.2.1 x.2.2).2.2.err]), (10000, .sl [.str, .int .u8, .int .i64, .str] (N.hl (n - x.1).toNat x.2.1 x.2.2).2.1 0)] })
          (K .ret { fr := [(2, .own 10000 0)], tab := [(0, .var [.str (N.hl (n - x.1).toNat x.2.1 x.2.2).2.2.s, .int .i64 (N.hl (n - x.1).toNat x.2.1 x.2.2).2.2.err]), (10000, .sl [.str, .int .u8, .int .i64, .str] [] 0)] })) ?_ (j, ⟨s, e⟩, rows) ⟨ile_of h1, h3⟩ K q (by assumption)
      rintro ⟨j, ⟨s, e⟩, rows⟩ ⟨hj, hr⟩
      simp only at hj hr ⊢
      by_cases hl : j < n
      · rw [show (n - j).toNat = (n - (j + 1)).toNat + 1 by omega]
        simp only [N.hl]
        cases hc : ((N.bad (N.one ⟨s, e⟩).1 (rowsP rows) (N.one ⟨s, e⟩).2).err != 0) with
        | true =>
          refine .inr ⟨.ret, { fr := [(2, .own 10000 0)], tab := [(0, .var [.str (N.bad (N.one ⟨s, e⟩).1 (rowsP rows) (N.one ⟨s, e⟩).2).s, .int .i64 (N.bad (N.one ⟨s, e⟩).1 (rowsP rows) (N.one ⟨s, e⟩).2).err]), (10000, .sl [.str, .int .u8, .int .i64, .str] [] 0)] }, by simp, fun K => ?_, fun K => rfl⟩
          rw [q_headReadR]
          unfold N.bad rowsP rowP at hc ⊢
          cases hz : (N.one ⟨s, e⟩).2.err == 0 with
          | true => rw [hz, cond_true] at hc; simp (disch := omega) only [evs, hc]
          | false => rw [hz, cond_false] at hc; simp (disch := omega) only [evs, hc]
        | false =>
          refine .inl ⟨(j + 1, N.bad (N.one ⟨s, e⟩).1 (rowsP rows) (N.one ⟨s, e⟩).2, rows ++ [cPair.enc (N.one ⟨s, e⟩).1]), ⟨by simp only; omega, by simp only [List.length_append, List.length_cons, List.length_nil]; omega⟩, by simp only; omega, fun K => ?_, fun K => rfl⟩
          rw [q_headReadR]
          unfold N.bad rowsP rowP at hc ⊢
          cases hz : (N.one ⟨s, e⟩).2.err == 0 with
          | true => rw [hz, cond_true] at hc; simp (disch := omega) only [evs, hc]; rfl
          | false => rw [hz, cond_false] at hc; simp (disch := omega) only [evs, hc]; rfl
      · refine .inr ⟨.exit 0, { fr := [(4, .own 10000 0)], tab := [(0, .var [.str s, .int .i64 e]), (10000, .sl [.str, .int .u8, .int .i64, .str] rows 0)] }, by simp, fun K => ?_, fun K => ?_⟩
        · rw [q_headReadR]
          simp (disch := omega) only [evs]
        · rw [show (n - j).toNat = 0 by omega]; rfl
    · cases h
  · refine (q_headRead i).trans ?_
    obtain ⟨b1, b2⟩ := inNum1 i
    have w : IntKind.wrap .i64 (N.inNum i 1).1 = (N.inNum i 1).1 := wrap_i64 (by omega) (by omega)
    show _ = some (⟨.slc [.str, .int .u8, .int .i64, .str] ((N.headRead i).1.map cPair.enc), [[.str (N.headRead i).2.s, .int .i64 (N.headRead i).2.err]], []⟩ : DRes)
    unfold N.headRead
    rw [w]
    simp (disch := omega) only [evs, Int.sub_zero, Nat.zero_add]
    cases ilt 8 (N.inNum i 1).1 with
    | true =>
      have e1 := hl_enc (N.inNum i 1).1.toNat (N.inFail (N.inNum i 1).2 6) []
      have e2 := hl_none (N.inNum i 1).1.toNat (N.inFail (N.inNum i 1).2 6) []
      rw [List.map_nil] at e1
      cases hc : (N.hl (N.inNum i 1).1.toNat (N.inFail (N.inNum i 1).2 6) []).1 with
      | true => simp only [cond_true, e1]
      | false =>
        rw [e1] at e2
        have e3 : (N.readFrom (N.inNum i 1).1.toNat (N.inFail (N.inNum i 1).2 6) []).1.map cPair.enc = [] := e2 hc
        simp only [cond_true, cond_false, e1, e3]
    | false =>
      have e1 := hl_enc (N.inNum i 1).1.toNat (N.inNum i 1).2 []
      have e2 := hl_none (N.inNum i 1).1.toNat (N.inNum i 1).2 []
      rw [List.map_nil] at e1
      cases hc : (N.hl (N.inNum i 1).1.toNat (N.inNum i 1).2 []).1 with
      | true => simp only [cond_true, cond_false, e1]
      | false =>
        rw [e1] at e2
        have e3 : (N.readFrom (N.inNum i 1).1.toNat (N.inNum i 1).2 []).1.map cPair.enc = [] := e2 hc
        simp only [cond_false, e1, e3]
def schRNum : SSch := { fr := [(5, .str), (6, .int .u64), (7, .int .i64)], tab := [(0, .var [.str, .int .i64, .int .i64])] }
namespace N
def beW : Bytes → Int → Int
  | [], n => n
  | c :: r, n => beW r (IntKind.wrap .u64 (IntKind.wrap .u64 (n * 256) + IntKind.wrap .u64 c.toNat))
end N
def gRNum : List Leaf → (Ex → St → Option R) → Option R
  | [.s s5, .i i6, .i i7, .s sx0, .i ix0, .i ix0_1], K => cond (ile 0 i7) (cond (Nat.ble s5.length LIM) (K (.exit 0) { fr := [(6, .int .u64 (N.beW (s5.drop i7.toNat) i6))], tab := [(0, .var [.str sx0, .int .i64 ix0, .int .i64 ix0_1])] }) none) none
  | _, _ => none
noncomputable def eRNum : Env := env Tryd.prog [(92, dRRaw)] [(6, loopF schRNum gRNum)] [(6, [(0, [5, 6, 7]), (1, [6]), (1000, [4])])]
theorem q_rNum (q : RIn) (n : Int) : evFn eRNum 69 (((aCons (vPtr 0) (aOne (vInt .i64))).enc ((), n))) (((bOne cRIn).enc q)) some =
 cond (ilt (8 : Int) n) (cond (N.goodR q) (cond (Nat.ble (List.length (Prod.fst (N.rRaw q (8 : Int)))) (1000000 : Nat)) (some { v := V.int IntKind.u64 (N.beW (List.drop (0 : Nat) (Prod.fst (N.rRaw q (8 : Int)))) (0 : Int)), bx := [[V.str (RIn.s (Prod.snd (N.rRaw q (8 : Int)))), V.int IntKind.i64 (RIn.at' (Prod.snd (N.rRaw q (8 : Int)))), V.int IntKind.i64 (RIn.code (Prod.snd (N.rRaw q (8 : Int))))]] : DRes }) (none)) (none)) (cond (N.goodR q) (cond (Nat.ble (List.length (Prod.fst (N.rRaw q n))) (1000000 : Nat)) (some { v := V.int IntKind.u64 (N.beW (List.drop (0 : Nat) (Prod.fst (N.rRaw q n))) (0 : Int)), bx := [[V.str (RIn.s (Prod.snd (N.rRaw q n))), V.int IntKind.i64 (RIn.at' (Prod.snd (N.rRaw q n))), V.int IntKind.i64 (RIn.code (Prod.snd (N.rRaw q n)))]] : DRes }) (none)) (none)) := by kernel_rfl
theorem q_rNumR (s5 : Bytes) (i6 : Int) (i7 : Int) (sx0 : Bytes) (ix0 : Int) (ix0_1 : Int) (K : Ex → St → Option R) : evRound eRNum 69 6 { fr := [(5, .str s5), (6, .int .u64 i6), (7, .int .i64 i7)], tab := [(0, .var [.str sx0, .int .i64 ix0, .int .i64 ix0_1])] } K =
 cond (ilt i7 (↑(List.length s5) : Int)) (cond (decide ((0 : Int) ≤ i7 ∧ i7 < (↑(List.length s5) : Int))) (K Ex.normal { fr := [((5 : Nat), V.str s5), ((6 : Nat), V.int IntKind.u64 (IntKind.wrap IntKind.u64 (IntKind.wrap IntKind.u64 (i6 * (256 : Int)) + IntKind.wrap IntKind.u64 (↑(UInt8.toNat (List.getD s5 (Int.toNat i7) (0 : UInt8))) : Int)))), ((7 : Nat), V.int IntKind.i64 (IntKind.wrap IntKind.i64 (i7 + (1 : Int))))], tab := [((0 : Nat), Box.var [V.str sx0, V.int IntKind.i64 ix0, V.int IntKind.i64 ix0_1])] : St }) (none)) (K (Ex.exit (0 : Nat)) { fr := [((6 : Nat), V.int IntKind.u64 i6)], tab := [((0 : Nat), Box.var [V.str sx0, V.int IntKind.i64 ix0, V.int IntKind.i64 ix0_1])] : St }) := by kernel_rfl
theorem beW_eq : ∀ (l : Bytes) (n : Int) (k : Nat), 0 ≤ n → l.length ≤ k → k ≤ 8 → n < ((256 ^ (8 - k) : Nat) : Int) → N.beW l n = N.be l n
  | [], n, k, _, _, _, _ => rfl
  | c :: r, n, k, hn, hl, hk, h => by
    have hc : c.toNat < 256 := c.toNat_lt
    have hl' : r.length + 1 ≤ k := hl
    have h7 : n < 72057594037927936 := by
      have h1 : 256 ^ (8 - k) ≤ 256 ^ 7 := Nat.pow_le_pow_right (by decide) (by omega)
      have e : (256 : Nat) ^ 7 = 72057594037927936 := by decide
      rw [e] at h1
      omega
    show N.beW r (IntKind.wrap .u64 (IntKind.wrap .u64 (n * 256) + IntKind.wrap .u64 ((c.toNat : Nat) : Int))) = N.be r (n * 256 + c.toNat)
    rw [wrap_u64 (n := n * 256) (by omega) (by omega), wrap_u64 (n := (c.toNat : Int)) (by omega) (by omega), wrap_u64 (by omega) (by omega)]
    refine beW_eq r _ (k - 1) (by omega) (by omega) (by omega) ?_
    have : (256 : Nat) ^ (8 - (k - 1)) = 256 ^ (8 - k) * 256 := by
      rw [show 8 - (k - 1) = (8 - k) + 1 by omega, Nat.pow_succ]
    rw [this]; omega
theorem rRaw_len {q : RIn} (h : N.goodR q = true) (n : Int) (m : Nat) (hm : n ≤ m) : (N.rRaw q n).1.length ≤ m := by
  rw [← (rl_raw (good_rl h).1 n).1]; exact N.inRaw_len _ n m hm
theorem ok_rNum : FnOk Tryd.prog 69 dRNum := by
  refine den_okF (env_ok ((TOk.nil _).cons ok_rRaw)) (E := eRNum) Tryd.func69 [6] (by kernel_rfl) (one1 (rounds_of rfl fun l K q h => ?_)) fun a q h => ?_
  · unfold gRNum at h
    split at h
    · rename_i s n k x1 x2 x3
      have h1 := (cond_none h).1; replace h := (cond_none h).2; have h2 := (cond_none h).1; replace h := (cond_none h).2
      have h2 : s.length ≤ 1000000 := ble_of h2
      refine loop_ind (E := eRNum) (f := 69) (id := 6) (σ := Int × Int) (fun x => { fr := [(5, .str s), (6, .int .u64 x.1), (7, .int .i64 x.2)], tab := [(0, .var [.str x1, .int .i64 x2, .int .i64 x3])] })
        (fun x => 0 ≤ x.2) (fun x => s.length - x.2.toNat)
        (fun x K => K (.exit 0) { fr := [(6, .int .u64 (N.beW (s.drop x.2.toNat) x.1))], tab := [(0, .var [.str x1, .int .i64 x2, .int .i64 x3])] }) ?_ (n, k) (ile_of h1) K q (by assumption)
      rintro ⟨n, k⟩ hk
      simp only at hk ⊢
      by_cases hl : k < s.length
      · rw [drop_byte (show k.toNat < s.length by omega)]
        refine .inl ⟨(IntKind.wrap .u64 (IntKind.wrap .u64 (n * 256) + IntKind.wrap .u64 (s.getD k.toNat 0).toNat), k + 1), by simp only; omega, by simp only; omega, fun K => ?_, fun K => ?_⟩
        · rw [q_rNumR]
          simp (disch := omega) only [evs]
        · rw [show (k + 1).toNat = k.toNat + 1 by omega]; rfl
      · refine .inr ⟨.exit 0, { fr := [(6, .int .u64 n)], tab := [(0, .var [.str x1, .int .i64 x2, .int .i64 x3])] }, by simp, fun K => ?_, fun K => ?_⟩
        · rw [q_rNumR]
          simp (disch := omega) only [evs]
        · rw [List.drop_eq_nil_of_le (by omega)]; rfl
    · cases h
  · refine (q_rNum q a.2).trans ?_
    show _ = some (⟨.int .u64 (N.rNum q a.2).1, [[.str (N.rNum q a.2).2.s, .int .i64 (N.rNum q a.2).2.at', .int .i64 (N.rNum q a.2).2.code]], []⟩ : DRes)
    unfold N.rNum
    have h : N.goodR q = true := h
    by_cases e : 8 < a.2
    · have l := rRaw_len h 8 8 (Int.le_refl 8)
      have b := beW_eq (N.rRaw q 8).1 0 8 (by decide) l (by decide) (by decide)
      simp (disch := omega) only [evs, h, List.drop_zero, b]
    · have l := rRaw_len h a.2 8 (by omega)
      have b := beW_eq (N.rRaw q a.2).1 0 8 (by decide) l (by decide) (by decide)
      simp (disch := omega) only [evs, h, List.drop_zero, b]
noncomputable def eRText : Env := env Tryd.prog [(69, dRNum), (72, dRFail), (92, dRRaw)] [] []
theorem q_rText (q : RIn) (n : Int) : evFn eRText 70 ((aCons (vPtr 0) (aOne (vInt .i64))).enc ((), n)) ((bOne cRIn).enc q) some =
 cond (N.goodR q) (cond (ilt n (IntKind.wrap IntKind.i64 (Prod.fst (N.rNum q (2 : Int))))) (cond (N.goodR (N.rFail (Prod.snd (N.rNum q (2 : Int))) (5 : Int))) (some { v := V.str (Prod.fst (N.rRaw (N.rFail (Prod.snd (N.rNum q (2 : Int))) (5 : Int)) (IntKind.wrap IntKind.i64 (Prod.fst (N.rNum q (2 : Int)))))), bx := [[V.str (RIn.s (Prod.snd (N.rRaw (N.rFail (Prod.snd (N.rNum q (2 : Int))) (5 : Int)) (IntKind.wrap IntKind.i64 (Prod.fst (N.rNum q (2 : Int))))))), V.int IntKind.i64 (RIn.at' (Prod.snd (N.rRaw (N.rFail (Prod.snd (N.rNum q (2 : Int))) (5 : Int)) (IntKind.wrap IntKind.i64 (Prod.fst (N.rNum q (2 : Int))))))), V.int IntKind.i64 (RIn.code (Prod.snd (N.rRaw (N.rFail (Prod.snd (N.rNum q (2 : Int))) (5 : Int)) (IntKind.wrap IntKind.i64 (Prod.fst (N.rNum q (2 : Int)))))))]] : DRes }) (none)) (cond (N.goodR (Prod.snd (N.rNum q (2 : Int)))) (some { v := V.str (Prod.fst (N.rRaw (Prod.snd (N.rNum q (2 : Int))) (IntKind.wrap IntKind.i64 (Prod.fst (N.rNum q (2 : Int)))))), bx := [[V.str (RIn.s (Prod.snd (N.rRaw (Prod.snd (N.rNum q (2 : Int))) (IntKind.wrap IntKind.i64 (Prod.fst (N.rNum q (2 : Int))))))), V.int IntKind.i64 (RIn.at' (Prod.snd (N.rRaw (Prod.snd (N.rNum q (2 : Int))) (IntKind.wrap IntKind.i64 (Prod.fst (N.rNum q (2 : Int))))))), V.int IntKind.i64 (RIn.code (Prod.snd (N.rRaw (Prod.snd (N.rNum q (2 : Int))) (IntKind.wrap IntKind.i64 (Prod.fst (N.rNum q (2 : Int)))))))]] : DRes }) (none))) (none) := by kernel_rfl
theorem ok_rText : FnOk Tryd.prog 70 dRText := by
  refine den_okF (env_ok ((((TOk.nil _).cons ok_rRaw).cons ok_rFail).cons ok_rNum)) (E := eRText) Tryd.func70 [] (by kernel_rfl) none0 fun a q h => ?_
  refine (q_rText q a.2).trans ?_
  show _ = some (⟨.str (N.rText q a.2).1, [[.str (N.rText q a.2).2.s, .int .i64 (N.rText q a.2).2.at', .int .i64 (N.rText q a.2).2.code]], []⟩ : DRes)
  unfold N.rText
  have h : N.goodR q = true := h
  have h1 := good_num h 2
  have h2 := good_fail h1 5
  simp (disch := omega) only [evs, h, h1, h2]
  cases ilt a.2 (IntKind.wrap .i64 (N.rNum q 2).1) <;> rfl
def schRefPair : SSch := { fr := [(2, .ptr 10000 0 0), (57, .slc [.str, .int .u8, .int .i64, .str]), (58, .int .i64), (59, .int .i64)], tab := [(10000, .var [.str, .int .u8, .int .i64, .str])] }
def gRefPair : List Leaf → (Ex → St → Option R) → Option R
  | [.r r57, .i i58, .i i59, .s sx0, .i _, .i _, .s _], K => cond (i58 == r57.length) (cond (ile 0 i59) (cond (Nat.ble r57.length LIM)
      (cond (ile 0 (N.findIx sx0 ((rowsP r57).drop i59.toNat) i59)) (K .ret { fr := [(4, .int .i64 9)], tab := [] }) (K (.exit 0) { fr := [], tab := [] })) none) none) none
  | _, _ => none
noncomputable def eRefPair : Env := env Tryd.prog [(73, dName)] [(13, loopF schRefPair gRefPair)] [(13, [(0, [2, 57, 58, 59]), (1, []), (1000, [4])])]
theorem q_refPair (p : HPair) (l : List HPair) : evFn eRefPair 54 (((aCons (vAgg cPair) (aOne (vSl cPair))).enc (p, l))) ([]) some =
 cond (N.name (HPair.key p) != (0 : Int)) (some { v := V.int IntKind.i64 (N.name (HPair.key p)), bx := [] : DRes }) (cond (ilt (2 : Int) (HPair.kind p)) (some { v := V.int IntKind.i64 (8 : Int), bx := [] : DRes }) (cond (HPair.kind p == (1 : Int)) (cond (ilt (64 : Int) (↑(List.length (HPair.text p)) : Int)) (some { v := V.int IntKind.i64 (5 : Int), bx := [] : DRes }) (cond (HPair.kind p == (2 : Int)) (cond (ilt (HPair.num p) (0 : Int)) (some { v := V.int IntKind.i64 (7 : Int), bx := [] : DRes }) (cond (ilt (1 : Int) (HPair.num p)) (some { v := V.int IntKind.i64 (7 : Int), bx := [] : DRes }) (cond (HPair.kind p == (1 : Int)) (cond (HPair.num p != (0 : Int)) (some { v := V.int IntKind.i64 (4 : Int), bx := [] : DRes }) (cond (HPair.kind p != (1 : Int)) (cond (!HPair.text p == []) (some { v := V.int IntKind.i64 (4 : Int), bx := [] : DRes }) (cond ((↑(List.length (List.map (fun p => [V.str (HPair.key p), V.int IntKind.u8 (HPair.kind p), V.int IntKind.i64 (HPair.num p), V.str (HPair.text p)]) l)) : Int) == (↑(List.length (List.map (fun p => [V.str (HPair.key p), V.int IntKind.u8 (HPair.kind p), V.int IntKind.i64 (HPair.num p), V.str (HPair.text p)]) l)) : Int)) (cond (Nat.ble (List.length (List.map (fun p => [V.str (HPair.key p), V.int IntKind.u8 (HPair.kind p), V.int IntKind.i64 (HPair.num p), V.str (HPair.text p)]) l)) (1000000 : Nat)) (cond (ile (0 : Int) (N.findIx (HPair.key p) (List.drop (0 : Nat) (List.map (fun r => { key := V.toStr (List.getD r (0 : Nat) V.undef), kind := V.toInt (List.getD r (1 : Nat) V.undef), num := V.toInt (List.getD r (2 : Nat) V.undef), text := V.toStr (List.getD r (3 : Nat) V.undef) : HPair }) (List.map (fun p => [V.str (HPair.key p), V.int IntKind.u8 (HPair.kind p), V.int IntKind.i64 (HPair.num p), V.str (HPair.text p)]) l))) (0 : Int))) (some { v := V.int IntKind.i64 (9 : Int), bx := [] : DRes }) (some { v := V.int IntKind.i64 (0 : Int), bx := [] : DRes })) (none)) (none))) (cond ((↑(List.length (List.map (fun p => [V.str (HPair.key p), V.int IntKind.u8 (HPair.kind p), V.int IntKind.i64 (HPair.num p), V.str (HPair.text p)]) l)) : Int) == (↑(List.length (List.map (fun p => [V.str (HPair.key p), V.int IntKind.u8 (HPair.kind p), V.int IntKind.i64 (HPair.num p), V.str (HPair.text p)]) l)) : Int)) (cond (Nat.ble (List.length (List.map (fun p => [V.str (HPair.key p), V.int IntKind.u8 (HPair.kind p), V.int IntKind.i64 (HPair.num p), V.str (HPair.text p)]) l)) (1000000 : Nat)) (cond (ile (0 : Int) (N.findIx (HPair.key p) (List.drop (0 : Nat) (List.map (fun r => { key := V.toStr (List.getD r (0 : Nat) V.undef), kind := V.toInt (List.getD r (1 : Nat) V.undef), num := V.toInt (List.getD r (2 : Nat) V.undef), text := V.toStr (List.getD r (3 : Nat) V.undef) : HPair }) (List.map (fun p => [V.str (HPair.key p), V.int IntKind.u8 (HPair.kind p), V.int IntKind.i64 (HPair.num p), V.str (HPair.text p)]) l))) (0 : Int))) (some { v := V.int IntKind.i64 (9 : Int), bx := [] : DRes }) (some { v := V.int IntKind.i64 (0 : Int), bx := [] : DRes })) (none)) (none)))) (cond (HPair.kind p != (1 : Int)) (cond (!HPair.text p == []) (some { v := V.int IntKind.i64 (4 : Int), bx := [] : DRes }) (cond ((↑(List.length (List.map (fun p => [V.str (HPair.key p), V.int IntKind.u8 (HPair.kind p), V.int IntKind.i64 (HPair.num p), V.str (HPair.text p)]) l)) : Int) == (↑(List.length (List.map (fun p => [V.str (HPair.key p), V.int IntKind.u8 (HPair.kind p), V.int IntKind.i64 (HPair.num p), V.str (HPair.text p)]) l)) : Int)) (cond (Nat.ble (List.length (List.map (fun p => [V.str (HPair.key p), V.int IntKind.u8 (HPair.kind p), V.int IntKind.i64 (HPair.num p), V.str (HPair.text p)]) l)) (1000000 : Nat)) (cond (ile (0 : Int) (N.findIx (HPair.key p) (List.drop (0 : Nat) (List.map (fun r => { key := V.toStr (List.getD r (0 : Nat) V.undef), kind := V.toInt (List.getD r (1 : Nat) V.undef), num := V.toInt (List.getD r (2 : Nat) V.undef), text := V.toStr (List.getD r (3 : Nat) V.undef) : HPair }) (List.map (fun p => [V.str (HPair.key p), V.int IntKind.u8 (HPair.kind p), V.int IntKind.i64 (HPair.num p), V.str (HPair.text p)]) l))) (0 : Int))) (some { v := V.int IntKind.i64 (9 : Int), bx := [] : DRes }) (some { v := V.int IntKind.i64 (0 : Int), bx := [] : DRes })) (none)) (none))) (cond ((↑(List.length (List.map (fun p => [V.str (HPair.key p), V.int IntKind.u8 (HPair.kind p), V.int IntKind.i64 (HPair.num p), V.str (HPair.text p)]) l)) : Int) == (↑(List.length (List.map (fun p => [V.str (HPair.key p), V.int IntKind.u8 (HPair.kind p), V.int IntKind.i64 (HPair.num p), V.str (HPair.text p)]) l)) : Int)) (cond (Nat.ble (List.length (List.map (fun p => [V.str (HPair.key p), V.int IntKind.u8 (HPair.kind p), V.int IntKind.i64 (HPair.num p), V.str (HPair.text p)]) l)) (1000000 : Nat)) (cond (ile (0 : Int) (N.findIx (HPair.key p) (List.drop (0 : Nat) (List.map (fun r => { key := V.toStr (List.getD r (0 : Nat) V.undef), kind := V.toInt (List.getD r (1 : Nat) V.undef), num := V.toInt (List.getD r (2 : Nat) V.undef), text := V.toStr (List.getD r (3 : Nat) V.undef) : HPair }) (List.map (fun p => [V.str (HPair.key p), V.int IntKind.u8 (HPair.kind p), V.int IntKind.i64 (HPair.num p), V.str (HPair.text p)]) l))) (0 : Int))) (some { v := V.int IntKind.i64 (9 : Int), bx := [] : DRes }) (some { v := V.int IntKind.i64 (0 : Int), bx := [] : DRes })) (none)) (none)))))) (cond (HPair.kind p == (1 : Int)) (cond (HPair.num p != (0 : Int)) (some { v := V.int IntKind.i64 (4 : Int), bx := [] : DRes }) (cond (HPair.kind p != (1 : Int)) (cond (!HPair.text p == []) (some { v := V.int IntKind.i64 (4 : Int), bx := [] : DRes }) (cond ((↑(List.length (List.map (fun p => [V.str (HPair.key p), V.int IntKind.u8 (HPair.kind p), V.int IntKind.i64 (HPair.num p), V.str (HPair.text p)]) l)) : Int) == (↑(List.length (List.map (fun p => [V.str (HPair.key p), V.int IntKind.u8 (HPair.kind p), V.int IntKind.i64 (HPair.num p), V.str (HPair.text p)]) l)) : Int)) (cond (Nat.ble (List.length (List.map (fun p => [V.str (HPair.key p), V.int IntKind.u8 (HPair.kind p), V.int IntKind.i64 (HPair.num p), V.str (HPair.text p)]) l)) (1000000 : Nat)) (cond (ile (0 : Int) (N.findIx (HPair.key p) (List.drop (0 : Nat) (List.map (fun r => { key := V.toStr (List.getD r (0 : Nat) V.undef), kind := V.toInt (List.getD r (1 : Nat) V.undef), num := V.toInt (List.getD r (2 : Nat) V.undef), text := V.toStr (List.getD r (3 : Nat) V.undef) : HPair }) (List.map (fun p => [V.str (HPair.key p), V.int IntKind.u8 (HPair.kind p), V.int IntKind.i64 (HPair.num p), V.str (HPair.text p)]) l))) (0 : Int))) (some { v := V.int IntKind.i64 (9 : Int), bx := [] : DRes }) (some { v := V.int IntKind.i64 (0 : Int), bx := [] : DRes })) (none)) (none))) (cond ((↑(List.length (List.map (fun p => [V.str (HPair.key p), V.int IntKind.u8 (HPair.kind p), V.int IntKind.i64 (HPair.num p), V.str (HPair.text p)]) l)) : Int) == (↑(List.length (List.map (fun p => [V.str (HPair.key p), V.int IntKind.u8 (HPair.kind p), V.int IntKind.i64 (HPair.num p), V.str (HPair.text p)]) l)) : Int)) (cond (Nat.ble (List.length (List.map (fun p => [V.str (HPair.key p), V.int IntKind.u8 (HPair.kind p), V.int IntKind.i64 (HPair.num p), V.str (HPair.text p)]) l)) (1000000 : Nat)) (cond (ile (0 : Int) (N.findIx (HPair.key p) (List.drop (0 : Nat) (List.map (fun r => { key := V.toStr (List.getD r (0 : Nat) V.undef), kind := V.toInt (List.getD r (1 : Nat) V.undef), num := V.toInt (List.getD r (2 : Nat) V.undef), text := V.toStr (List.getD r (3 : Nat) V.undef) : HPair }) (List.map (fun p => [V.str (HPair.key p), V.int IntKind.u8 (HPair.kind p), V.int IntKind.i64 (HPair.num p), V.str (HPair.text p)]) l))) (0 : Int))) (some { v := V.int IntKind.i64 (9 : Int), bx := [] : DRes }) (some { v := V.int IntKind.i64 (0 : Int), bx := [] : DRes })) (none)) (none)))) (cond (HPair.kind p != (1 : Int)) (cond (!HPair.text p == []) (some { v := V.int IntKind.i64 (4 : Int), bx := [] : DRes }) (cond ((↑(List.length (List.map (fun p => [V.str (HPair.key p), V.int IntKind.u8 (HPair.kind p), V.int IntKind.i64 (HPair.num p), V.str (HPair.text p)]) l)) : Int) == (↑(List.length (List.map (fun p => [V.str (HPair.key p), V.int IntKind.u8 (HPair.kind p), V.int IntKind.i64 (HPair.num p), V.str (HPair.text p)]) l)) : Int)) (cond (Nat.ble (List.length (List.map (fun p => [V.str (HPair.key p), V.int IntKind.u8 (HPair.kind p), V.int IntKind.i64 (HPair.num p), V.str (HPair.text p)]) l)) (1000000 : Nat)) (cond (ile (0 : Int) (N.findIx (HPair.key p) (List.drop (0 : Nat) (List.map (fun r => { key := V.toStr (List.getD r (0 : Nat) V.undef), kind := V.toInt (List.getD r (1 : Nat) V.undef), num := V.toInt (List.getD r (2 : Nat) V.undef), text := V.toStr (List.getD r (3 : Nat) V.undef) : HPair }) (List.map (fun p => [V.str (HPair.key p), V.int IntKind.u8 (HPair.kind p), V.int IntKind.i64 (HPair.num p), V.str (HPair.text p)]) l))) (0 : Int))) (some { v := V.int IntKind.i64 (9 : Int), bx := [] : DRes }) (some { v := V.int IntKind.i64 (0 : Int), bx := [] : DRes })) (none)) (none))) (cond ((↑(List.length (List.map (fun p => [V.str (HPair.key p), V.int IntKind.u8 (HPair.kind p), V.int IntKind.i64 (HPair.num p), V.str (HPair.text p)]) l)) : Int) == (↑(List.length (List.map (fun p => [V.str (HPair.key p), V.int IntKind.u8 (HPair.kind p), V.int IntKind.i64 (HPair.num p), V.str (HPair.text p)]) l)) : Int)) (cond (Nat.ble (List.length (List.map (fun p => [V.str (HPair.key p), V.int IntKind.u8 (HPair.kind p), V.int IntKind.i64 (HPair.num p), V.str (HPair.text p)]) l)) (1000000 : Nat)) (cond (ile (0 : Int) (N.findIx (HPair.key p) (List.drop (0 : Nat) (List.map (fun r => { key := V.toStr (List.getD r (0 : Nat) V.undef), kind := V.toInt (List.getD r (1 : Nat) V.undef), num := V.toInt (List.getD r (2 : Nat) V.undef), text := V.toStr (List.getD r (3 : Nat) V.undef) : HPair }) (List.map (fun p => [V.str (HPair.key p), V.int IntKind.u8 (HPair.kind p), V.int IntKind.i64 (HPair.num p), V.str (HPair.text p)]) l))) (0 : Int))) (some { v := V.int IntKind.i64 (9 : Int), bx := [] : DRes }) (some { v := V.int IntKind.i64 (0 : Int), bx := [] : DRes })) (none)) (none)))))) (cond (HPair.kind p == (2 : Int)) (cond (ilt (HPair.num p) (0 : Int)) (some { v := V.int IntKind.i64 (7 : Int), bx := [] : DRes }) (cond (ilt (1 : Int) (HPair.num p)) (some { v := V.int IntKind.i64 (7 : Int), bx := [] : DRes }) (cond (HPair.kind p == (1 : Int)) (cond (HPair.num p != (0 : Int)) (some { v := V.int IntKind.i64 (4 : Int), bx := [] : DRes }) (cond (HPair.kind p != (1 : Int)) (cond (!HPair.text p == []) (some { v := V.int IntKind.i64 (4 : Int), bx := [] : DRes }) (cond ((↑(List.length (List.map (fun p => [V.str (HPair.key p), V.int IntKind.u8 (HPair.kind p), V.int IntKind.i64 (HPair.num p), V.str (HPair.text p)]) l)) : Int) == (↑(List.length (List.map (fun p => [V.str (HPair.key p), V.int IntKind.u8 (HPair.kind p), V.int IntKind.i64 (HPair.num p), V.str (HPair.text p)]) l)) : Int)) (cond (Nat.ble (List.length (List.map (fun p => [V.str (HPair.key p), V.int IntKind.u8 (HPair.kind p), V.int IntKind.i64 (HPair.num p), V.str (HPair.text p)]) l)) (1000000 : Nat)) (cond (ile (0 : Int) (N.findIx (HPair.key p) (List.drop (0 : Nat) (List.map (fun r => { key := V.toStr (List.getD r (0 : Nat) V.undef), kind := V.toInt (List.getD r (1 : Nat) V.undef), num := V.toInt (List.getD r (2 : Nat) V.undef), text := V.toStr (List.getD r (3 : Nat) V.undef) : HPair }) (List.map (fun p => [V.str (HPair.key p), V.int IntKind.u8 (HPair.kind p), V.int IntKind.i64 (HPair.num p), V.str (HPair.text p)]) l))) (0 : Int))) (some { v := V.int IntKind.i64 (9 : Int), bx := [] : DRes }) (some { v := V.int IntKind.i64 (0 : Int), bx := [] : DRes })) (none)) (none))) (cond ((↑(List.length (List.map (fun p => [V.str (HPair.key p), V.int IntKind.u8 (HPair.kind p), V.int IntKind.i64 (HPair.num p), V.str (HPair.text p)]) l)) : Int) == (↑(List.length (List.map (fun p => [V.str (HPair.key p), V.int IntKind.u8 (HPair.kind p), V.int IntKind.i64 (HPair.num p), V.str (HPair.text p)]) l)) : Int)) (cond (Nat.ble (List.length (List.map (fun p => [V.str (HPair.key p), V.int IntKind.u8 (HPair.kind p), V.int IntKind.i64 (HPair.num p), V.str (HPair.text p)]) l)) (1000000 : Nat)) (cond (ile (0 : Int) (N.findIx (HPair.key p) (List.drop (0 : Nat) (List.map (fun r => { key := V.toStr (List.getD r (0 : Nat) V.undef), kind := V.toInt (List.getD r (1 : Nat) V.undef), num := V.toInt (List.getD r (2 : Nat) V.undef), text := V.toStr (List.getD r (3 : Nat) V.undef) : HPair }) (List.map (fun p => [V.str (HPair.key p), V.int IntKind.u8 (HPair.kind p), V.int IntKind.i64 (HPair.num p), V.str (HPair.text p)]) l))) (0 : Int))) (some { v := V.int IntKind.i64 (9 : Int), bx := [] : DRes }) (some { v := V.int IntKind.i64 (0 : Int), bx := [] : DRes })) (none)) (none)))) (cond (HPair.kind p != (1 : Int)) (cond (!HPair.text p == []) (some { v := V.int IntKind.i64 (4 : Int), bx := [] : DRes }) (cond ((↑(List.length (List.map (fun p => [V.str (HPair.key p), V.int IntKind.u8 (HPair.kind p), V.int IntKind.i64 (HPair.num p), V.str (HPair.text p)]) l)) : Int) == (↑(List.length (List.map (fun p => [V.str (HPair.key p), V.int IntKind.u8 (HPair.kind p), V.int IntKind.i64 (HPair.num p), V.str (HPair.text p)]) l)) : Int)) (cond (Nat.ble (List.length (List.map (fun p => [V.str (HPair.key p), V.int IntKind.u8 (HPair.kind p), V.int IntKind.i64 (HPair.num p), V.str (HPair.text p)]) l)) (1000000 : Nat)) (cond (ile (0 : Int) (N.findIx (HPair.key p) (List.drop (0 : Nat) (List.map (fun r => { key := V.toStr (List.getD r (0 : Nat) V.undef), kind := V.toInt (List.getD r (1 : Nat) V.undef), num := V.toInt (List.getD r (2 : Nat) V.undef), text := V.toStr (List.getD r (3 : Nat) V.undef) : HPair }) (List.map (fun p => [V.str (HPair.key p), V.int IntKind.u8 (HPair.kind p), V.int IntKind.i64 (HPair.num p), V.str (HPair.text p)]) l))) (0 : Int))) (some { v := V.int IntKind.i64 (9 : Int), bx := [] : DRes }) (some { v := V.int IntKind.i64 (0 : Int), bx := [] : DRes })) (none)) (none))) (cond ((↑(List.length (List.map (fun p => [V.str (HPair.key p), V.int IntKind.u8 (HPair.kind p), V.int IntKind.i64 (HPair.num p), V.str (HPair.text p)]) l)) : Int) == (↑(List.length (List.map (fun p => [V.str (HPair.key p), V.int IntKind.u8 (HPair.kind p), V.int IntKind.i64 (HPair.num p), V.str (HPair.text p)]) l)) : Int)) (cond (Nat.ble (List.length (List.map (fun p => [V.str (HPair.key p), V.int IntKind.u8 (HPair.kind p), V.int IntKind.i64 (HPair.num p), V.str (HPair.text p)]) l)) (1000000 : Nat)) (cond (ile (0 : Int) (N.findIx (HPair.key p) (List.drop (0 : Nat) (List.map (fun r => { key := V.toStr (List.getD r (0 : Nat) V.undef), kind := V.toInt (List.getD r (1 : Nat) V.undef), num := V.toInt (List.getD r (2 : Nat) V.undef), text := V.toStr (List.getD r (3 : Nat) V.undef) : HPair }) (List.map (fun p => [V.str (HPair.key p), V.int IntKind.u8 (HPair.kind p), V.int IntKind.i64 (HPair.num p), V.str (HPair.text p)]) l))) (0 : Int))) (some { v := V.int IntKind.i64 (9 : Int), bx := [] : DRes }) (some { v := V.int IntKind.i64 (0 : Int), bx := [] : DRes })) (none)) (none)))))) (cond (HPair.kind p == (1 : Int)) (cond (HPair.num p != (0 : Int)) (some { v := V.int IntKind.i64 (4 : Int), bx := [] : DRes }) (cond (HPair.kind p != (1 : Int)) (cond (!HPair.text p == []) (some { v := V.int IntKind.i64 (4 : Int), bx := [] : DRes }) (cond ((↑(List.length (List.map (fun p => [V.str (HPair.key p), V.int IntKind.u8 (HPair.kind p), V.int IntKind.i64 (HPair.num p), V.str (HPair.text p)]) l)) : Int) == (↑(List.length (List.map (fun p => [V.str (HPair.key p), V.int IntKind.u8 (HPair.kind p), V.int IntKind.i64 (HPair.num p), V.str (HPair.text p)]) l)) : Int)) (cond (Nat.ble (List.length (List.map (fun p => [V.str (HPair.key p), V.int IntKind.u8 (HPair.kind p), V.int IntKind.i64 (HPair.num p), V.str (HPair.text p)]) l)) (1000000 : Nat)) (cond (ile (0 : Int) (N.findIx (HPair.key p) (List.drop (0 : Nat) (List.map (fun r => { key := V.toStr (List.getD r (0 : Nat) V.undef), kind := V.toInt (List.getD r (1 : Nat) V.undef), num := V.toInt (List.getD r (2 : Nat) V.undef), text := V.toStr (List.getD r (3 : Nat) V.undef) : HPair }) (List.map (fun p => [V.str (HPair.key p), V.int IntKind.u8 (HPair.kind p), V.int IntKind.i64 (HPair.num p), V.str (HPair.text p)]) l))) (0 : Int))) (some { v := V.int IntKind.i64 (9 : Int), bx := [] : DRes }) (some { v := V.int IntKind.i64 (0 : Int), bx := [] : DRes })) (none)) (none))) (cond ((↑(List.length (List.map (fun p => [V.str (HPair.key p), V.int IntKind.u8 (HPair.kind p), V.int IntKind.i64 (HPair.num p), V.str (HPair.text p)]) l)) : Int) == (↑(List.length (List.map (fun p => [V.str (HPair.key p), V.int IntKind.u8 (HPair.kind p), V.int IntKind.i64 (HPair.num p), V.str (HPair.text p)]) l)) : Int)) (cond (Nat.ble (List.length (List.map (fun p => [V.str (HPair.key p), V.int IntKind.u8 (HPair.kind p), V.int IntKind.i64 (HPair.num p), V.str (HPair.text p)]) l)) (1000000 : Nat)) (cond (ile (0 : Int) (N.findIx (HPair.key p) (List.drop (0 : Nat) (List.map (fun r => { key := V.toStr (List.getD r (0 : Nat) V.undef), kind := V.toInt (List.getD r (1 : Nat) V.undef), num := V.toInt (List.getD r (2 : Nat) V.undef), text := V.toStr (List.getD r (3 : Nat) V.undef) : HPair }) (List.map (fun p => [V.str (HPair.key p), V.int IntKind.u8 (HPair.kind p), V.int IntKind.i64 (HPair.num p), V.str (HPair.text p)]) l))) (0 : Int))) (some { v := V.int IntKind.i64 (9 : Int), bx := [] : DRes }) (some { v := V.int IntKind.i64 (0 : Int), bx := [] : DRes })) (none)) (none)))) (cond (HPair.kind p != (1 : Int)) (cond (!HPair.text p == []) (some { v := V.int IntKind.i64 (4 : Int), bx := [] : DRes }) (cond ((↑(List.length (List.map (fun p => [V.str (HPair.key p), V.int IntKind.u8 (HPair.kind p), V.int IntKind.i64 (HPair.num p), V.str (HPair.text p)]) l)) : Int) == (↑(List.length (List.map (fun p => [V.str (HPair.key p), V.int IntKind.u8 (HPair.kind p), V.int IntKind.i64 (HPair.num p), V.str (HPair.text p)]) l)) : Int)) (cond (Nat.ble (List.length (List.map (fun p => [V.str (HPair.key p), V.int IntKind.u8 (HPair.kind p), V.int IntKind.i64 (HPair.num p), V.str (HPair.text p)]) l)) (1000000 : Nat)) (cond (ile (0 : Int) (N.findIx (HPair.key p) (List.drop (0 : Nat) (List.map (fun r => { key := V.toStr (List.getD r (0 : Nat) V.undef), kind := V.toInt (List.getD r (1 : Nat) V.undef), num := V.toInt (List.getD r (2 : Nat) V.undef), text := V.toStr (List.getD r (3 : Nat) V.undef) : HPair }) (List.map (fun p => [V.str (HPair.key p), V.int IntKind.u8 (HPair.kind p), V.int IntKind.i64 (HPair.num p), V.str (HPair.text p)]) l))) (0 : Int))) (some { v := V.int IntKind.i64 (9 : Int), bx := [] : DRes }) (some { v := V.int IntKind.i64 (0 : Int), bx := [] : DRes })) (none)) (none))) (cond ((↑(List.length (List.map (fun p => [V.str (HPair.key p), V.int IntKind.u8 (HPair.kind p), V.int IntKind.i64 (HPair.num p), V.str (HPair.text p)]) l)) : Int) == (↑(List.length (List.map (fun p => [V.str (HPair.key p), V.int IntKind.u8 (HPair.kind p), V.int IntKind.i64 (HPair.num p), V.str (HPair.text p)]) l)) : Int)) (cond (Nat.ble (List.length (List.map (fun p => [V.str (HPair.key p), V.int IntKind.u8 (HPair.kind p), V.int IntKind.i64 (HPair.num p), V.str (HPair.text p)]) l)) (1000000 : Nat)) (cond (ile (0 : Int) (N.findIx (HPair.key p) (List.drop (0 : Nat) (List.map (fun r => { key := V.toStr (List.getD r (0 : Nat) V.undef), kind := V.toInt (List.getD r (1 : Nat) V.undef), num := V.toInt (List.getD r (2 : Nat) V.undef), text := V.toStr (List.getD r (3 : Nat) V.undef) : HPair }) (List.map (fun p => [V.str (HPair.key p), V.int IntKind.u8 (HPair.kind p), V.int IntKind.i64 (HPair.num p), V.str (HPair.text p)]) l))) (0 : Int))) (some { v := V.int IntKind.i64 (9 : Int), bx := [] : DRes }) (some { v := V.int IntKind.i64 (0 : Int), bx := [] : DRes })) (none)) (none))))))) := by kernel_rfl
theorem q_refPairR (r57 : List (List V)) (i58 : Int) (i59 : Int) (sx0 : Bytes) (ix0 : Int) (ix0_1 : Int) (sx0_1 : Bytes) (K : Ex → St → Option R) : evRound eRefPair 54 13 { fr := [(2, .ptr 10000 0 0 0), (57, .slc [.str, .int .u8, .int .i64, .str] r57), (58, .int .i64 i58), (59, .int .i64 i59)], tab := [(10000, .var [.str sx0, .int .u8 ix0, .int .i64 ix0_1, .str sx0_1])] } K =
 cond (ilt i59 i58) (cond (decide ((0 : Int) ≤ i59 ∧ i59 < (↑(List.length r57) : Int))) (cond (V.toStr (List.getD (List.getD r57 (Int.toNat i59) []) (0 : Nat) V.undef) == sx0) (K Ex.ret { fr := [((4 : Nat), V.int IntKind.i64 (9 : Int))], tab := [] : St }) (K Ex.normal { fr := [((2 : Nat), V.ptr (10000 : Nat) (0 : Nat) (0 : Nat) (0 : Nat)), ((57 : Nat), V.slc [Sh.str, Sh.int IntKind.u8, Sh.int IntKind.i64, Sh.str] r57), ((58 : Nat), V.int IntKind.i64 i58), ((59 : Nat), V.int IntKind.i64 (IntKind.wrap IntKind.i64 (i59 + (1 : Int))))], tab := [((10000 : Nat), Box.var [V.str sx0, V.int IntKind.u8 ix0, V.int IntKind.i64 ix0_1, V.str sx0_1])] : St })) (none)) (K (Ex.exit (0 : Nat)) { fr := [], tab := [] : St }) := by kernel_rfl
theorem ok_refPair : FnOk Tryd.prog 54 dPairE := by
  refine den_okF (env_ok ((TOk.nil _).cons ok_refName)) (E := eRefPair) Tryd.func54 [13] (by kernel_rfl) (one1 (rounds_of rfl fun l K q h => ?_)) fun a _ h => ?_
  · unfold gRefPair at h
    split at h
    · rename_i r n i key x1 x2 x3
      have h1 := (cond_none h).1; replace h := (cond_none h).2; have h2 := (cond_none h).1; replace h := (cond_none h).2; have h3 := (cond_none h).1; replace h := (cond_none h).2
      have e1 := ieq_of h1
      subst e1
      have h3 : r.length ≤ 1000000 := ble_of h3
      refine loop_ind (E := eRefPair) (f := 54) (id := 13) (fun i : Int => { fr := [(2, .ptr 10000 0 0 0), (57, .slc [.str, .int .u8, .int .i64, .str] r), (58, .int .i64 r.length), (59, .int .i64 i)], tab := [(10000, .var [.str key, .int .u8 x1, .int .i64 x2, .str x3])] }) (fun i => 0 ≤ i) (fun i => r.length - i.toNat)
        (fun i K => cond (ile 0 (N.findIx key ((rowsP r).drop i.toNat) i)) (K .ret { fr := [(4, .int .i64 9)], tab := [] }) (K (.exit 0) { fr := [], tab := [] })) (fun i hi => ?_) i (ile_of h2) K q (by assumption)
      by_cases hl : i < r.length
      · rw [drop_pair (show i.toNat < r.length by omega)]
        have e : N.findIx key (rowP (r.getD i.toNat []) :: (rowsP r).drop (i.toNat + 1)) i = cond ((rowP (r.getD i.toNat [])).key == key) i (N.findIx key ((rowsP r).drop (i.toNat + 1)) (i + 1)) := rfl
        rw [e]
        cases hc : (rowP (r.getD i.toNat [])).key == key with
        | true =>
          rw [cond_true, ile_t hi]
          refine .inr ⟨.ret, { fr := [(4, .int .i64 9)], tab := [] }, by simp, fun K => ?_, fun K => rfl⟩
          rw [q_refPairR]
          unfold rowP at hc
          simp (disch := omega) only [evs, hc]
        | false =>
          refine .inl ⟨i + 1, by omega, by omega, fun K => ?_, fun K => ?_⟩
          · rw [q_refPairR]
            unfold rowP at hc
            simp (disch := omega) only [evs, hc]
          · rw [cond_false, show (i + 1).toNat = i.toNat + 1 by omega]
      · refine .inr ⟨.exit 0, { fr := [], tab := [] }, by simp, fun K => ?_, fun K => ?_⟩
        · rw [q_refPairR]
          simp (disch := omega) only [evs]
        · rw [List.drop_eq_nil_of_le (by rw [rowsP_length]; omega)]; rfl
    · cases h
  · obtain ⟨p, l⟩ := a
    have h : l.length ≤ 1000000 := ble_of h
    refine (q_refPair p l).trans ?_
    show _ = some (⟨.int .i64 (N.pairE p l), [], []⟩ : DRes)
    unfold N.pairE N.find
    have en : (cond (p.num != 0) (p.num != 1) false) = cond (ilt p.num 0) true (ilt 1 p.num) := by
      rcases (by omega : p.num < 0 ∨ p.num = 0 ∨ p.num = 1 ∨ 1 < p.num) with h | h | h | h
      · simp (disch := omega) only [evs]
      · rw [h]; rfl
      · rw [h]; rfl
      · simp (disch := omega) only [evs]
    have en' : cond (cond (p.kind == 2) (p.num != 0) false) (p.num != 1) false = cond (p.kind == 2) (cond (ilt p.num 0) true (ilt 1 p.num)) false := by
      rw [← en]; cases p.kind == 2 <;> rfl
    rw [en']
    have ef : (cond (ilt (N.findIx p.key l 0) 0) (pair0, false) (l.getD (N.findIx p.key l 0).toNat pair0, true)).2 = ile 0 (N.findIx p.key l 0) := by
      by_cases h : N.findIx p.key l 0 < 0
      · simp (disch := omega) only [evs]
      · simp (disch := omega) only [evs]
    rw [ef]
    simp (disch := omega) only [evs, pairs_enc, List.drop_zero, bne]
    cases hn : N.name p.key == 0 with
    | false => rfl
    | true =>
      cases ilt 2 p.kind with
      | true => rfl
      | false =>
        cases p.kind == 1 <;> cases ilt 64 p.text.length <;> cases p.kind == 2 <;> cases ilt p.num 0 <;> cases ilt 1 p.num <;> cases p.num == 0 <;> cases p.text == [] <;> cases ile 0 (N.findIx p.key l 0) <;> rfl
end Go.Ev

/- The document's function that checks heads answers what the plain one does: lemmas. -/
namespace Go.Ev
open Go Go.Proofs
set_option maxRecDepth 100000

def schRefCheck : SSch := { fr := [(0, .slc [.str, .int .u8, .int .i64, .str]), (9, .slc [.str, .int .u8, .int .i64, .str]), (10, .int .i64), (11, .int .i64)], tab := [] }
def gRefCheck : List Leaf → (Ex → St → Option R) → Option R
  | [.r r0, .r r9, .i i10, .i i11], K => cond (i10 == r9.length) (cond (Nat.beq r0.length r9.length) (cond (ile 0 i11) (cond (Nat.ble r0.length LIM) (cond (N.samePs (rowsP r0) (rowsP r9))
      (cond (N.checkFrom (rowsP r9) (r9.length - i11.toNat) i11 != 0) (K .ret { fr := [(2, .int .i64 (N.checkFrom (rowsP r9) (r9.length - i11.toNat) i11))], tab := [] }) (K (.exit 0) { fr := [], tab := [] })) none) none) none) none) none
  | _, _ => none
noncomputable def eRefCheck : Env := env Tryd.prog [(54, dPairE)] [(4, loopF schRefCheck gRefCheck)] [(4, [(0, [0, 9, 10, 11]), (1, []), (1000, [2])])]
theorem q_refCheck (h : List HPair) : evFn eRefCheck 18 ((aOne (vSl cPair)).enc h) ([]) some =
 cond (ilt (8 : Int) (↑(List.length (List.map (fun p => [V.str (HPair.key p), V.int IntKind.u8 (HPair.kind p), V.int IntKind.i64 (HPair.num p), V.str (HPair.text p)]) h)) : Int)) (some { v := V.int IntKind.i64 (6 : Int), bx := [] : DRes }) (cond ((↑(List.length (List.map (fun p => [V.str (HPair.key p), V.int IntKind.u8 (HPair.kind p), V.int IntKind.i64 (HPair.num p), V.str (HPair.text p)]) h)) : Int) == (↑(List.length (List.map (fun p => [V.str (HPair.key p), V.int IntKind.u8 (HPair.kind p), V.int IntKind.i64 (HPair.num p), V.str (HPair.text p)]) h)) : Int)) (cond (Nat.beq (List.length (List.map (fun p => [V.str (HPair.key p), V.int IntKind.u8 (HPair.kind p), V.int IntKind.i64 (HPair.num p), V.str (HPair.text p)]) h)) (List.length (List.map (fun p => [V.str (HPair.key p), V.int IntKind.u8 (HPair.kind p), V.int IntKind.i64 (HPair.num p), V.str (HPair.text p)]) h))) (cond (Nat.ble (List.length (List.map (fun p => [V.str (HPair.key p), V.int IntKind.u8 (HPair.kind p), V.int IntKind.i64 (HPair.num p), V.str (HPair.text p)]) h)) (1000000 : Nat)) (cond (N.samePs (List.map (fun r => { key := V.toStr (List.getD r (0 : Nat) V.undef), kind := V.toInt (List.getD r (1 : Nat) V.undef), num := V.toInt (List.getD r (2 : Nat) V.undef), text := V.toStr (List.getD r (3 : Nat) V.undef) : HPair }) (List.map (fun p => [V.str (HPair.key p), V.int IntKind.u8 (HPair.kind p), V.int IntKind.i64 (HPair.num p), V.str (HPair.text p)]) h)) (List.map (fun r => { key := V.toStr (List.getD r (0 : Nat) V.undef), kind := V.toInt (List.getD r (1 : Nat) V.undef), num := V.toInt (List.getD r (2 : Nat) V.undef), text := V.toStr (List.getD r (3 : Nat) V.undef) : HPair }) (List.map (fun p => [V.str (HPair.key p), V.int IntKind.u8 (HPair.kind p), V.int IntKind.i64 (HPair.num p), V.str (HPair.text p)]) h))) (cond (N.checkFrom (List.map (fun r => { key := V.toStr (List.getD r (0 : Nat) V.undef), kind := V.toInt (List.getD r (1 : Nat) V.undef), num := V.toInt (List.getD r (2 : Nat) V.undef), text := V.toStr (List.getD r (3 : Nat) V.undef) : HPair }) (List.map (fun p => [V.str (HPair.key p), V.int IntKind.u8 (HPair.kind p), V.int IntKind.i64 (HPair.num p), V.str (HPair.text p)]) h)) (List.length (List.map (fun p => [V.str (HPair.key p), V.int IntKind.u8 (HPair.kind p), V.int IntKind.i64 (HPair.num p), V.str (HPair.text p)]) h) - (0 : Nat)) (0 : Int) != (0 : Int)) (some { v := V.int IntKind.i64 (N.checkFrom (List.map (fun r => { key := V.toStr (List.getD r (0 : Nat) V.undef), kind := V.toInt (List.getD r (1 : Nat) V.undef), num := V.toInt (List.getD r (2 : Nat) V.undef), text := V.toStr (List.getD r (3 : Nat) V.undef) : HPair }) (List.map (fun p => [V.str (HPair.key p), V.int IntKind.u8 (HPair.kind p), V.int IntKind.i64 (HPair.num p), V.str (HPair.text p)]) h)) (List.length (List.map (fun p => [V.str (HPair.key p), V.int IntKind.u8 (HPair.kind p), V.int IntKind.i64 (HPair.num p), V.str (HPair.text p)]) h) - (0 : Nat)) (0 : Int)), bx := [] : DRes }) (some { v := V.int IntKind.i64 (0 : Int), bx := [] : DRes })) (none)) (none)) (none)) (none)) := by kernel_rfl
theorem q_refCheckR (r0 : List (List V)) (r9 : List (List V)) (i11 : Int) (K : Ex → St → Option R) : evRound eRefCheck 18 4 { fr := [(0, .slc [.str, .int .u8, .int .i64, .str] r0), (9, .slc [.str, .int .u8, .int .i64, .str] r9), (10, .int .i64 r9.length), (11, .int .i64 i11)], tab := [] } K =
 cond (ilt i11 (↑(List.length r9) : Int)) (cond (decide ((0 : Int) ≤ i11 ∧ i11 < (↑(List.length r9) : Int))) (cond (decide ((0 : Int) ≤ i11 ∧ i11 ≤ (↑(List.length r0) : Int))) (cond (Nat.ble (List.length (List.map (fun r => { key := V.toStr (List.getD r (0 : Nat) V.undef), kind := V.toInt (List.getD r (1 : Nat) V.undef), num := V.toInt (List.getD r (2 : Nat) V.undef), text := V.toStr (List.getD r (3 : Nat) V.undef) : HPair }) (List.drop (0 : Nat) (List.take (Int.toNat i11) r0)))) (1000000 : Nat)) (cond (N.pairE { key := V.toStr (List.getD (List.getD r9 (Int.toNat i11) []) (0 : Nat) V.undef), kind := V.toInt (List.getD (List.getD r9 (Int.toNat i11) []) (1 : Nat) V.undef), num := V.toInt (List.getD (List.getD r9 (Int.toNat i11) []) (2 : Nat) V.undef), text := V.toStr (List.getD (List.getD r9 (Int.toNat i11) []) (3 : Nat) V.undef) : HPair } (List.map (fun r => { key := V.toStr (List.getD r (0 : Nat) V.undef), kind := V.toInt (List.getD r (1 : Nat) V.undef), num := V.toInt (List.getD r (2 : Nat) V.undef), text := V.toStr (List.getD r (3 : Nat) V.undef) : HPair }) (List.drop (0 : Nat) (List.take (Int.toNat i11) r0))) != (0 : Int)) (K Ex.ret { fr := [((2 : Nat), V.int IntKind.i64 (N.pairE { key := V.toStr (List.getD (List.getD r9 (Int.toNat i11) []) (0 : Nat) V.undef), kind := V.toInt (List.getD (List.getD r9 (Int.toNat i11) []) (1 : Nat) V.undef), num := V.toInt (List.getD (List.getD r9 (Int.toNat i11) []) (2 : Nat) V.undef), text := V.toStr (List.getD (List.getD r9 (Int.toNat i11) []) (3 : Nat) V.undef) : HPair } (List.map (fun r => { key := V.toStr (List.getD r (0 : Nat) V.undef), kind := V.toInt (List.getD r (1 : Nat) V.undef), num := V.toInt (List.getD r (2 : Nat) V.undef), text := V.toStr (List.getD r (3 : Nat) V.undef) : HPair }) (List.drop (0 : Nat) (List.take (Int.toNat i11) r0)))))], tab := [] : St }) (K Ex.normal { fr := [((0 : Nat), V.slc [Sh.str, Sh.int IntKind.u8, Sh.int IntKind.i64, Sh.str] r0), ((9 : Nat), V.slc [Sh.str, Sh.int IntKind.u8, Sh.int IntKind.i64, Sh.str] r9), ((10 : Nat), V.int IntKind.i64 (↑(List.length r9) : Int)), ((11 : Nat), V.int IntKind.i64 (IntKind.wrap IntKind.i64 (i11 + (1 : Int))))], tab := [] : St })) (none)) (none)) (none)) (K (Ex.exit (0 : Nat)) { fr := [], tab := [] : St }) := by kernel_rfl
theorem ok_refCheck : FnOk Tryd.prog 18 dHeadCheck := by
  refine den_okF (env_ok ((TOk.nil _).cons ok_refPair)) (E := eRefCheck) Tryd.func18 [4] (by kernel_rfl) (one1 (rounds_of rfl fun l K q h => ?_)) fun h _ _ => ?_
  · unfold gRefCheck at h
    split at h
    · rename_i r0 r n i
      have h1 := (cond_none h).1; replace h := (cond_none h).2; have h2 := (cond_none h).1; replace h := (cond_none h).2; have h3 := (cond_none h).1; replace h := (cond_none h).2; have h4 := (cond_none h).1; replace h := (cond_none h).2; have h5 := (cond_none h).1; replace h := (cond_none h).2
      have e1 := ieq_of h1
      subst e1
      have h2 := Nat.eq_of_beq_eq_true h2
      have h4 : r0.length ≤ 1000000 := ble_of h4
      have h5 := samePs_eq h5
      refine loop_ind (E := eRefCheck) (f := 18) (id := 4) (fun i : Int => { fr := [(0, .slc [.str, .int .u8, .int .i64, .str] r0), (9, .slc [.str, .int .u8, .int .i64, .str] r), (10, .int .i64 r.length), (11, .int .i64 i)], tab := [] }) (fun i => 0 ≤ i) (fun i => r.length - i.toNat)
        (fun i11 K => cond (N.checkFrom (rowsP r) (r.length - i11.toNat) i11 != 0) (K .ret { fr := [(2, .int .i64 (N.checkFrom (rowsP r) (r.length - i11.toNat) i11))], tab := [] }) (K (.exit 0) { fr := [], tab := [] })) (fun i hi => ?_) i (ile_of h3) K q (by assumption)
      by_cases hl : i < r.length
      · have e : N.checkFrom (rowsP r) (r.length - i.toNat) i = cond (N.pairE (rowP (r.getD i.toNat [])) ((rowsP r).take i.toNat) != 0) (N.pairE (rowP (r.getD i.toNat [])) ((rowsP r).take i.toNat)) (N.checkFrom (rowsP r) (r.length - (i + 1).toNat) (i + 1)) := by
          rw [show r.length - i.toNat = (r.length - (i + 1).toNat) + 1 by omega, N.checkFrom, rowsP_getD]
        rw [e]
        have hm : List.map rowP (List.take i.toNat r0) = (rowsP r).take i.toNat := by rw [← h5, rowsP, List.map_take]
        unfold rowP at hm
        cases hc : N.pairE (rowP (r.getD i.toNat [])) ((rowsP r).take i.toNat) != 0 with
        | true =>
          rw [cond_true, hc]
          refine .inr ⟨.ret, _, by simp, fun K => ?_, fun K => rfl⟩
          rw [q_refCheckR]
          unfold rowP at hc
          simp (disch := omega) only [evs, hc, hm, List.length_take, List.drop_zero]
          rfl
        | false =>
          refine .inl ⟨i + 1, by omega, by omega, fun K => ?_, fun K => ?_⟩
          · rw [q_refCheckR]
            unfold rowP at hc
            simp (disch := omega) only [evs, hc, hm, List.length_take, List.drop_zero]
          · rw [cond_false]
      · refine .inr ⟨.exit 0, { fr := [], tab := [] }, by simp, fun K => ?_, fun K => ?_⟩
        · rw [q_refCheckR]
          simp (disch := omega) only [evs]
        · rw [show r.length - i.toNat = 0 by omega]; rfl
    · cases h
  · refine (q_refCheck h).trans ?_
    show _ = some (⟨.int .i64 (N.headCheck h), [], []⟩ : DRes)
    unfold N.headCheck
    by_cases hl : 8 < h.length
    · simp (disch := omega) only [evs]
    · simp (disch := omega) only [evs, pairs_enc, samePs_refl, Nat.sub_zero]
      cases hc : N.checkFrom h h.length 0 != 0 with
      | true => rfl
      | false =>
        have : N.checkFrom h h.length 0 = 0 := by simpa using hc
        rw [this]; rfl
end Go.Ev

/- The functions on rules answer what the plain ones do: lemmas, no condition. -/
namespace Go.Ev
open Go Go.Proofs
set_option maxRecDepth 100000

theorem cond_eq {α : Type} {c : Bool} {a b r : α} (h1 : c = true → a = r) (h2 : c = false → b = r) : cond c a b = r := by cases c with | true => exact h1 rfl | false => exact h2 rfl
noncomputable def eRuleCheck : Env := env Tryd.prog [(49, dKey), (50, dPattern), (51, dHeadCheck)] [] []
theorem q_ruleCheck (r : HRule) : evFn eRuleCheck 16 ((aOne (vAgg cRule)).enc r) ([]) some =
 cond (ilt (3 : Int) (HRule.sort r)) (some { v := V.int IntKind.i64 (8 : Int), bx := [] : DRes }) (cond (HRule.sort r == (0 : Int)) (cond (N.key (HRule.key r) [] != (0 : Int)) (some { v := V.int IntKind.i64 (N.key (HRule.key r) []), bx := [] : DRes }) (some { v := V.int IntKind.i64 (N.headCheck (List.map (fun r => { key := V.toStr (List.getD r (0 : Nat) V.undef), kind := V.toInt (List.getD r (1 : Nat) V.undef), num := V.toInt (List.getD r (2 : Nat) V.undef), text := V.toStr (List.getD r (3 : Nat) V.undef) : HPair }) (List.map (fun p => [V.str (HPair.key p), V.int IntKind.u8 (HPair.kind p), V.int IntKind.i64 (HPair.num p), V.str (HPair.text p)]) (HRule.want r)))), bx := [] : DRes })) (cond (N.key (HRule.key r) [[(42 : UInt8)], [(35 : UInt8)]] != (0 : Int)) (some { v := V.int IntKind.i64 (N.key (HRule.key r) [[(42 : UInt8)], [(35 : UInt8)]]), bx := [] : DRes }) (some { v := V.int IntKind.i64 (N.headCheck (List.map (fun r => { key := V.toStr (List.getD r (0 : Nat) V.undef), kind := V.toInt (List.getD r (1 : Nat) V.undef), num := V.toInt (List.getD r (2 : Nat) V.undef), text := V.toStr (List.getD r (3 : Nat) V.undef) : HPair }) (List.map (fun p => [V.str (HPair.key p), V.int IntKind.u8 (HPair.kind p), V.int IntKind.i64 (HPair.num p), V.str (HPair.text p)]) (HRule.want r)))), bx := [] : DRes }))) := by kernel_rfl
theorem ok_ruleCheck : FnOk Tryd.prog 16 dRuleCheck := by
  refine den_okF (env_ok ((((TOk.nil _).cons ok_headCheck).cons ok_pattern).cons ok_key)) (E := eRuleCheck) Tryd.func16 [] (by kernel_rfl) none0 fun r _ _ => ?_
  refine (q_ruleCheck r).trans ?_
  show _ = some (⟨.int .i64 (N.ruleCheck r), [], []⟩ : DRes)
  unfold N.ruleCheck
  simp only [pairs_enc]
  cases ilt 3 r.sort with
  | true => rfl
  | false =>
    cases r.sort == 0 with
    | true => cases h : N.key r.key [] != 0 <;> first | rfl | simp only [cond_true, cond_false, h]
    | false => cases h : N.key r.key [[42], [35]] != 0 <;> first | rfl | simp only [cond_true, cond_false, h]
noncomputable def eRefRuleCheck : Env := env Tryd.prog [(17, dRefKey), (18, dHeadCheck)] [] []
theorem q_refRuleCheck (r : HRule) : evFn eRefRuleCheck 14 ((aOne (vAgg cRule)).enc r) ([]) some =
 cond (ilt (3 : Int) (HRule.sort r)) (some { v := V.int IntKind.i64 (8 : Int), bx := [] : DRes }) (cond (N.refKey (HRule.key r) (ilt (0 : Int) (HRule.sort r)) != (0 : Int)) (some { v := V.int IntKind.i64 (N.refKey (HRule.key r) (ilt (0 : Int) (HRule.sort r))), bx := [] : DRes }) (some { v := V.int IntKind.i64 (N.headCheck (List.map (fun r => { key := V.toStr (List.getD r (0 : Nat) V.undef), kind := V.toInt (List.getD r (1 : Nat) V.undef), num := V.toInt (List.getD r (2 : Nat) V.undef), text := V.toStr (List.getD r (3 : Nat) V.undef) : HPair }) (List.map (fun p => [V.str (HPair.key p), V.int IntKind.u8 (HPair.kind p), V.int IntKind.i64 (HPair.num p), V.str (HPair.text p)]) (HRule.want r)))), bx := [] : DRes })) := by kernel_rfl
theorem ok_refRuleCheck : FnOk Tryd.prog 14 dRefRuleCheck := by
  refine den_okF (env_ok (((TOk.nil _).cons ok_refCheck).cons ok_refKey)) (E := eRefRuleCheck) Tryd.func14 [] (by kernel_rfl) none0 fun r _ _ => ?_
  refine (q_refRuleCheck r).trans ?_
  show _ = some (⟨.int .i64 (N.refRuleCheck r), [], []⟩ : DRes)
  unfold N.refRuleCheck
  simp only [pairs_enc]
  cases ilt 3 r.sort with
  | true => rfl
  | false => cases h : N.refKey r.key (ilt 0 r.sort) != 0 <;> first | rfl | simp only [cond_true, cond_false, h]
noncomputable def eRuleSame : Env := env Tryd.prog [(62, dSameP)] [] []
theorem q_ruleSame (a b : HRule) : evFn eRuleSame 26 ((aCons (vAgg cRule) (aOne (vAgg cRule))).enc (a, b)) ([]) some =
 cond (HRule.sort a == HRule.sort b) (cond (HRule.key a == HRule.key b) (cond (HRule.all a == HRule.all b) (cond (Nat.ble (List.length (List.map (fun r => { key := V.toStr (List.getD r (0 : Nat) V.undef), kind := V.toInt (List.getD r (1 : Nat) V.undef), num := V.toInt (List.getD r (2 : Nat) V.undef), text := V.toStr (List.getD r (3 : Nat) V.undef) : HPair }) (List.map (fun p => [V.str (HPair.key p), V.int IntKind.u8 (HPair.kind p), V.int IntKind.i64 (HPair.num p), V.str (HPair.text p)]) (HRule.want a)))) (1000000 : Nat)) (some { v := V.bool (N.samePs (List.map (fun r => { key := V.toStr (List.getD r (0 : Nat) V.undef), kind := V.toInt (List.getD r (1 : Nat) V.undef), num := V.toInt (List.getD r (2 : Nat) V.undef), text := V.toStr (List.getD r (3 : Nat) V.undef) : HPair }) (List.map (fun p => [V.str (HPair.key p), V.int IntKind.u8 (HPair.kind p), V.int IntKind.i64 (HPair.num p), V.str (HPair.text p)]) (HRule.want a))) (List.map (fun r => { key := V.toStr (List.getD r (0 : Nat) V.undef), kind := V.toInt (List.getD r (1 : Nat) V.undef), num := V.toInt (List.getD r (2 : Nat) V.undef), text := V.toStr (List.getD r (3 : Nat) V.undef) : HPair }) (List.map (fun p => [V.str (HPair.key p), V.int IntKind.u8 (HPair.kind p), V.int IntKind.i64 (HPair.num p), V.str (HPair.text p)]) (HRule.want b)))), bx := [] : DRes }) (none)) (some { v := V.bool false, bx := [] : DRes })) (some { v := V.bool false, bx := [] : DRes })) (some { v := V.bool false, bx := [] : DRes }) := by kernel_rfl
noncomputable def eRefRuleSame : Env := env Tryd.prog [(61, dSameP)] [] []
theorem q_refRuleSame (a b : HRule) : evFn eRefRuleSame 27 ((aCons (vAgg cRule) (aOne (vAgg cRule))).enc (a, b)) ([]) some =
 cond (HRule.sort a == HRule.sort b) (cond (HRule.key a == HRule.key b) (cond (HRule.all a == HRule.all b) (cond (Nat.ble (List.length (List.map (fun r => { key := V.toStr (List.getD r (0 : Nat) V.undef), kind := V.toInt (List.getD r (1 : Nat) V.undef), num := V.toInt (List.getD r (2 : Nat) V.undef), text := V.toStr (List.getD r (3 : Nat) V.undef) : HPair }) (List.map (fun p => [V.str (HPair.key p), V.int IntKind.u8 (HPair.kind p), V.int IntKind.i64 (HPair.num p), V.str (HPair.text p)]) (HRule.want a)))) (1000000 : Nat)) (some { v := V.bool (N.samePs (List.map (fun r => { key := V.toStr (List.getD r (0 : Nat) V.undef), kind := V.toInt (List.getD r (1 : Nat) V.undef), num := V.toInt (List.getD r (2 : Nat) V.undef), text := V.toStr (List.getD r (3 : Nat) V.undef) : HPair }) (List.map (fun p => [V.str (HPair.key p), V.int IntKind.u8 (HPair.kind p), V.int IntKind.i64 (HPair.num p), V.str (HPair.text p)]) (HRule.want a))) (List.map (fun r => { key := V.toStr (List.getD r (0 : Nat) V.undef), kind := V.toInt (List.getD r (1 : Nat) V.undef), num := V.toInt (List.getD r (2 : Nat) V.undef), text := V.toStr (List.getD r (3 : Nat) V.undef) : HPair }) (List.map (fun p => [V.str (HPair.key p), V.int IntKind.u8 (HPair.kind p), V.int IntKind.i64 (HPair.num p), V.str (HPair.text p)]) (HRule.want b)))), bx := [] : DRes }) (none)) (some { v := V.bool false, bx := [] : DRes })) (some { v := V.bool false, bx := [] : DRes })) (some { v := V.bool false, bx := [] : DRes }) := by kernel_rfl
theorem ok_ruleSame : FnOk Tryd.prog 26 dRuleSame := by
  refine den_okF (env_ok ((TOk.nil _).cons ok_eqP)) (E := eRuleSame) Tryd.func26 [] (by kernel_rfl) none0 fun a _ h => ?_
  obtain ⟨a, b⟩ := a
  have h : a.want.length ≤ 1000000 := ble_of h
  refine (q_ruleSame a b).trans ?_
  show _ = some (⟨.bool (N.ruleSame a b), [], []⟩ : DRes)
  unfold N.ruleSame
  cases a.sort == b.sort <;> cases a.key == b.key <;> cases a.all == b.all <;> first | rfl | simp (disch := omega) only [evs, pairs_enc]
theorem ok_refRuleSame : FnOk Tryd.prog 27 dRuleSame := by
  refine den_okF (env_ok ((TOk.nil _).cons ok_refSame)) (E := eRefRuleSame) Tryd.func27 [] (by kernel_rfl) none0 fun a _ h => ?_
  obtain ⟨a, b⟩ := a
  have h : a.want.length ≤ 1000000 := ble_of h
  refine (q_refRuleSame a b).trans ?_
  show _ = some (⟨.bool (N.ruleSame a b), [], []⟩ : DRes)
  unfold N.ruleSame
  cases a.sort == b.sort <;> cases a.key == b.key <;> cases a.all == b.all <;> first | rfl | simp (disch := omega) only [evs, pairs_enc]
noncomputable def eRuleTo : Env := env Tryd.prog [] [] []
theorem q_ruleTo (r : HRule) : evFn eRuleTo 15 ((aOne (vAgg cRule)).enc r) ([]) some =
 cond (Nat.beq (List.length (List.map (fun p => [V.str (HPair.key p), V.int IntKind.u8 (HPair.kind p), V.int IntKind.i64 (HPair.num p), V.str (HPair.text p)]) (HRule.want r))) (0 : Nat)) (some { v := V.agg [V.int IntKind.u8 (HRule.sort r), V.str (HRule.key r), V.slc [Sh.str, Sh.int IntKind.u8, Sh.int IntKind.i64, Sh.str] [], V.bool (HRule.all r)], bx := [] : DRes }) (cond (decide (List.length (List.map (fun p => [V.str (HPair.key p), V.int IntKind.u8 (HPair.kind p), V.int IntKind.i64 (HPair.num p), V.str (HPair.text p)]) (HRule.want r)) * (48 : Nat) ≤ (140737488355328 : Nat))) (some { v := V.agg [V.int IntKind.u8 (HRule.sort r), V.str (HRule.key r), V.slc [Sh.str, Sh.int IntKind.u8, Sh.int IntKind.i64, Sh.str] (List.map (fun p => [V.str (HPair.key p), V.int IntKind.u8 (HPair.kind p), V.int IntKind.i64 (HPair.num p), V.str (HPair.text p)]) (HRule.want r)), V.bool (HRule.all r)], bx := [] : DRes }) (none)) := by kernel_rfl
theorem ok_ruleTo : FnOk Tryd.prog 15 dRuleTo := by
  refine den_okF (env_ok (TOk.nil _)) (E := eRuleTo) Tryd.func15 [] (by kernel_rfl) none0 fun r _ h => ?_
  have h : r.want.length ≤ 1000000 := ble_of h
  refine (q_ruleTo r).trans ?_
  show _ = some (⟨.agg [.int .u8 r.sort, .str r.key, .slc [.str, .int .u8, .int .i64, .str] (r.want.map fun p => [V.str p.key, V.int .u8 p.kind, V.int .i64 p.num, V.str p.text]), .bool r.all], [], []⟩ : DRes)
  refine cond_eq (fun h1 => ?_) fun _ => by simp (disch := omega) only [evs]
  have : r.want = [] := List.eq_nil_of_length_eq_zero (by simpa using Nat.eq_of_beq_eq_true h1)
  rw [this]; rfl
noncomputable def eLightR : Env := env Tryd.prog [(13, dLight)] [] []
theorem q_lightRl (r : HRule) : evFn eLightR 12 ((aOne (vAgg cRule)).enc r) ([]) some =
 cond (ile (↑(List.length (HRule.key r)) : Int) (100 : Int)) (some { v := V.bool (N.light (List.map (fun r => { key := V.toStr (List.getD r (0 : Nat) V.undef), kind := V.toInt (List.getD r (1 : Nat) V.undef), num := V.toInt (List.getD r (2 : Nat) V.undef), text := V.toStr (List.getD r (3 : Nat) V.undef) : HPair }) (List.map (fun p => [V.str (HPair.key p), V.int IntKind.u8 (HPair.kind p), V.int IntKind.i64 (HPair.num p), V.str (HPair.text p)]) (HRule.want r)))), bx := [] : DRes }) (some { v := V.bool false, bx := [] : DRes }) := by kernel_rfl
theorem ok_lightR : FnOk Tryd.prog 12 dLightR := by
  refine den_okF (env_ok ((TOk.nil _).cons ok_light)) (E := eLightR) Tryd.func12 [] (by kernel_rfl) none0 fun r _ _ => ?_
  refine (q_lightRl r).trans ?_
  show _ = some (⟨.bool (N.lightR r), [], []⟩ : DRes)
  unfold N.lightR
  cases ile r.key.length 100 <;> first | rfl | simp only [pairs_enc, cond_true]
def schHeads : SSch := { fr := [(1, .slc [.str, .int .u8, .int .i64, .str]), (2, .ptr 10000 0 0), (11, .slc [.str, .int .u8, .int .i64, .str]), (12, .int .i64), (13, .int .i64)], tab := [(10000, .var [.int .u8, .str, .slc [.str, .int .u8, .int .i64, .str], .bool])] }
def gHeads : List Leaf → (Ex → St → Option R) → Option R
  | [.r r1, .r r11, .i i12, .i i13, .i ix0, .s sx0, .r rx0, .b bx0], K => cond (i12 == r11.length) (cond (ile 0 i13) (cond (ile i13 r11.length) (cond (Nat.ble r11.length LIM) (cond (Nat.ble r1.length LIM)
      (cond (N.headsP (rowsP r1) bx0 (rowsP (r11.drop i13.toNat)) == bx0) (K (.exit 0) { fr := [(2, .ptr 10000 0 0 0)], tab := [(10000, .var [.int .u8 ix0, .str sx0, .slc [.str, .int .u8, .int .i64, .str] rx0, .bool bx0])] })
        (K .ret { fr := [(4, .bool !bx0)], tab := [] })) none) none) none) none) none
  | _, _ => none
noncomputable def eHeads : Env := env Tryd.prog [(88, dFind)] [(2, loopF schHeads gHeads)] [(2, [(0, [1, 2, 11, 12, 13]), (1, [2]), (1000, [4])])]
theorem q_heads (r : HRule) (h : List HPair) : evFn eHeads 56 ((aCons (vAgg cRule) (aOne (vSl cPair))).enc (r, h)) ([]) some =
 cond ((↑(List.length (List.map (fun p => [V.str (HPair.key p), V.int IntKind.u8 (HPair.kind p), V.int IntKind.i64 (HPair.num p), V.str (HPair.text p)]) (HRule.want r))) : Int) == (↑(List.length (List.map (fun p => [V.str (HPair.key p), V.int IntKind.u8 (HPair.kind p), V.int IntKind.i64 (HPair.num p), V.str (HPair.text p)]) (HRule.want r))) : Int)) (cond (Nat.ble (List.length (List.map (fun p => [V.str (HPair.key p), V.int IntKind.u8 (HPair.kind p), V.int IntKind.i64 (HPair.num p), V.str (HPair.text p)]) (HRule.want r))) (1000000 : Nat)) (cond (Nat.ble (List.length (List.map (fun p => [V.str (HPair.key p), V.int IntKind.u8 (HPair.kind p), V.int IntKind.i64 (HPair.num p), V.str (HPair.text p)]) h)) (1000000 : Nat)) (cond (N.headsP (List.map (fun r => { key := V.toStr (List.getD r (0 : Nat) V.undef), kind := V.toInt (List.getD r (1 : Nat) V.undef), num := V.toInt (List.getD r (2 : Nat) V.undef), text := V.toStr (List.getD r (3 : Nat) V.undef) : HPair }) (List.map (fun p => [V.str (HPair.key p), V.int IntKind.u8 (HPair.kind p), V.int IntKind.i64 (HPair.num p), V.str (HPair.text p)]) h)) (HRule.all r) (List.map (fun r => { key := V.toStr (List.getD r (0 : Nat) V.undef), kind := V.toInt (List.getD r (1 : Nat) V.undef), num := V.toInt (List.getD r (2 : Nat) V.undef), text := V.toStr (List.getD r (3 : Nat) V.undef) : HPair }) (List.drop (0 : Nat) (List.map (fun p => [V.str (HPair.key p), V.int IntKind.u8 (HPair.kind p), V.int IntKind.i64 (HPair.num p), V.str (HPair.text p)]) (HRule.want r)))) == HRule.all r) (some { v := V.bool (HRule.all r), bx := [] : DRes }) (some { v := V.bool !HRule.all r, bx := [] : DRes })) (none)) (none)) (none) := by kernel_rfl
theorem q_headsR (r1 : List (List V)) (r11 : List (List V)) (i12 : Int) (i13 : Int) (ix0 : Int) (sx0 : Bytes) (rx0 : List (List V)) (bx0 : Bool) (K : Ex → St → Option R) : evRound eHeads 56 2 { fr := [(1, .slc [.str, .int .u8, .int .i64, .str] r1), (2, .ptr 10000 0 0 0), (11, .slc [.str, .int .u8, .int .i64, .str] r11), (12, .int .i64 i12), (13, .int .i64 i13)], tab := [(10000, .var [.int .u8 ix0, .str sx0, .slc [.str, .int .u8, .int .i64, .str] rx0, .bool bx0])] } K =
 cond (ilt i13 i12) (cond (decide ((0 : Int) ≤ i13 ∧ i13 < (↑(List.length r11) : Int))) (cond (Nat.ble (List.length (List.map (fun r => { key := V.toStr (List.getD r (0 : Nat) V.undef), kind := V.toInt (List.getD r (1 : Nat) V.undef), num := V.toInt (List.getD r (2 : Nat) V.undef), text := V.toStr (List.getD r (3 : Nat) V.undef) : HPair }) r1)) (1000000 : Nat)) (cond (Prod.snd (N.find (List.map (fun r => { key := V.toStr (List.getD r (0 : Nat) V.undef), kind := V.toInt (List.getD r (1 : Nat) V.undef), num := V.toInt (List.getD r (2 : Nat) V.undef), text := V.toStr (List.getD r (3 : Nat) V.undef) : HPair }) r1) (V.toStr (List.getD (List.getD r11 (Int.toNat i13) []) (0 : Nat) V.undef)))) (cond (HPair.key (Prod.fst (N.find (List.map (fun r => { key := V.toStr (List.getD r (0 : Nat) V.undef), kind := V.toInt (List.getD r (1 : Nat) V.undef), num := V.toInt (List.getD r (2 : Nat) V.undef), text := V.toStr (List.getD r (3 : Nat) V.undef) : HPair }) r1) (V.toStr (List.getD (List.getD r11 (Int.toNat i13) []) (0 : Nat) V.undef)))) == V.toStr (List.getD (List.getD r11 (Int.toNat i13) []) (0 : Nat) V.undef) && (HPair.kind (Prod.fst (N.find (List.map (fun r => { key := V.toStr (List.getD r (0 : Nat) V.undef), kind := V.toInt (List.getD r (1 : Nat) V.undef), num := V.toInt (List.getD r (2 : Nat) V.undef), text := V.toStr (List.getD r (3 : Nat) V.undef) : HPair }) r1) (V.toStr (List.getD (List.getD r11 (Int.toNat i13) []) (0 : Nat) V.undef)))) == V.toInt (List.getD (List.getD r11 (Int.toNat i13) []) (1 : Nat) V.undef) && (HPair.num (Prod.fst (N.find (List.map (fun r => { key := V.toStr (List.getD r (0 : Nat) V.undef), kind := V.toInt (List.getD r (1 : Nat) V.undef), num := V.toInt (List.getD r (2 : Nat) V.undef), text := V.toStr (List.getD r (3 : Nat) V.undef) : HPair }) r1) (V.toStr (List.getD (List.getD r11 (Int.toNat i13) []) (0 : Nat) V.undef)))) == V.toInt (List.getD (List.getD r11 (Int.toNat i13) []) (2 : Nat) V.undef) && (HPair.text (Prod.fst (N.find (List.map (fun r => { key := V.toStr (List.getD r (0 : Nat) V.undef), kind := V.toInt (List.getD r (1 : Nat) V.undef), num := V.toInt (List.getD r (2 : Nat) V.undef), text := V.toStr (List.getD r (3 : Nat) V.undef) : HPair }) r1) (V.toStr (List.getD (List.getD r11 (Int.toNat i13) []) (0 : Nat) V.undef)))) == V.toStr (List.getD (List.getD r11 (Int.toNat i13) []) (3 : Nat) V.undef) && true)))) (cond (bx0) (K Ex.normal { fr := [((1 : Nat), V.slc [Sh.str, Sh.int IntKind.u8, Sh.int IntKind.i64, Sh.str] r1), ((2 : Nat), V.ptr (10000 : Nat) (0 : Nat) (0 : Nat) (0 : Nat)), ((11 : Nat), V.slc [Sh.str, Sh.int IntKind.u8, Sh.int IntKind.i64, Sh.str] r11), ((12 : Nat), V.int IntKind.i64 i12), ((13 : Nat), V.int IntKind.i64 (IntKind.wrap IntKind.i64 (i13 + (1 : Int))))], tab := [((10000 : Nat), Box.var [V.int IntKind.u8 ix0, V.str sx0, V.slc [Sh.str, Sh.int IntKind.u8, Sh.int IntKind.i64, Sh.str] rx0, V.bool bx0])] : St }) (cond (HPair.key (Prod.fst (N.find (List.map (fun r => { key := V.toStr (List.getD r (0 : Nat) V.undef), kind := V.toInt (List.getD r (1 : Nat) V.undef), num := V.toInt (List.getD r (2 : Nat) V.undef), text := V.toStr (List.getD r (3 : Nat) V.undef) : HPair }) r1) (V.toStr (List.getD (List.getD r11 (Int.toNat i13) []) (0 : Nat) V.undef)))) == V.toStr (List.getD (List.getD r11 (Int.toNat i13) []) (0 : Nat) V.undef) && (HPair.kind (Prod.fst (N.find (List.map (fun r => { key := V.toStr (List.getD r (0 : Nat) V.undef), kind := V.toInt (List.getD r (1 : Nat) V.undef), num := V.toInt (List.getD r (2 : Nat) V.undef), text := V.toStr (List.getD r (3 : Nat) V.undef) : HPair }) r1) (V.toStr (List.getD (List.getD r11 (Int.toNat i13) []) (0 : Nat) V.undef)))) == V.toInt (List.getD (List.getD r11 (Int.toNat i13) []) (1 : Nat) V.undef) && (HPair.num (Prod.fst (N.find (List.map (fun r => { key := V.toStr (List.getD r (0 : Nat) V.undef), kind := V.toInt (List.getD r (1 : Nat) V.undef), num := V.toInt (List.getD r (2 : Nat) V.undef), text := V.toStr (List.getD r (3 : Nat) V.undef) : HPair }) r1) (V.toStr (List.getD (List.getD r11 (Int.toNat i13) []) (0 : Nat) V.undef)))) == V.toInt (List.getD (List.getD r11 (Int.toNat i13) []) (2 : Nat) V.undef) && (HPair.text (Prod.fst (N.find (List.map (fun r => { key := V.toStr (List.getD r (0 : Nat) V.undef), kind := V.toInt (List.getD r (1 : Nat) V.undef), num := V.toInt (List.getD r (2 : Nat) V.undef), text := V.toStr (List.getD r (3 : Nat) V.undef) : HPair }) r1) (V.toStr (List.getD (List.getD r11 (Int.toNat i13) []) (0 : Nat) V.undef)))) == V.toStr (List.getD (List.getD r11 (Int.toNat i13) []) (3 : Nat) V.undef) && true)))) (K Ex.ret { fr := [((4 : Nat), V.bool true)], tab := [] : St }) (cond (bx0) (K Ex.ret { fr := [((4 : Nat), V.bool false)], tab := [] : St }) (K Ex.normal { fr := [((1 : Nat), V.slc [Sh.str, Sh.int IntKind.u8, Sh.int IntKind.i64, Sh.str] r1), ((2 : Nat), V.ptr (10000 : Nat) (0 : Nat) (0 : Nat) (0 : Nat)), ((11 : Nat), V.slc [Sh.str, Sh.int IntKind.u8, Sh.int IntKind.i64, Sh.str] r11), ((12 : Nat), V.int IntKind.i64 i12), ((13 : Nat), V.int IntKind.i64 (IntKind.wrap IntKind.i64 (i13 + (1 : Int))))], tab := [((10000 : Nat), Box.var [V.int IntKind.u8 ix0, V.str sx0, V.slc [Sh.str, Sh.int IntKind.u8, Sh.int IntKind.i64, Sh.str] rx0, V.bool bx0])] : St })))) (cond (HPair.key (Prod.fst (N.find (List.map (fun r => { key := V.toStr (List.getD r (0 : Nat) V.undef), kind := V.toInt (List.getD r (1 : Nat) V.undef), num := V.toInt (List.getD r (2 : Nat) V.undef), text := V.toStr (List.getD r (3 : Nat) V.undef) : HPair }) r1) (V.toStr (List.getD (List.getD r11 (Int.toNat i13) []) (0 : Nat) V.undef)))) == V.toStr (List.getD (List.getD r11 (Int.toNat i13) []) (0 : Nat) V.undef) && (HPair.kind (Prod.fst (N.find (List.map (fun r => { key := V.toStr (List.getD r (0 : Nat) V.undef), kind := V.toInt (List.getD r (1 : Nat) V.undef), num := V.toInt (List.getD r (2 : Nat) V.undef), text := V.toStr (List.getD r (3 : Nat) V.undef) : HPair }) r1) (V.toStr (List.getD (List.getD r11 (Int.toNat i13) []) (0 : Nat) V.undef)))) == V.toInt (List.getD (List.getD r11 (Int.toNat i13) []) (1 : Nat) V.undef) && (HPair.num (Prod.fst (N.find (List.map (fun r => { key := V.toStr (List.getD r (0 : Nat) V.undef), kind := V.toInt (List.getD r (1 : Nat) V.undef), num := V.toInt (List.getD r (2 : Nat) V.undef), text := V.toStr (List.getD r (3 : Nat) V.undef) : HPair }) r1) (V.toStr (List.getD (List.getD r11 (Int.toNat i13) []) (0 : Nat) V.undef)))) == V.toInt (List.getD (List.getD r11 (Int.toNat i13) []) (2 : Nat) V.undef) && (HPair.text (Prod.fst (N.find (List.map (fun r => { key := V.toStr (List.getD r (0 : Nat) V.undef), kind := V.toInt (List.getD r (1 : Nat) V.undef), num := V.toInt (List.getD r (2 : Nat) V.undef), text := V.toStr (List.getD r (3 : Nat) V.undef) : HPair }) r1) (V.toStr (List.getD (List.getD r11 (Int.toNat i13) []) (0 : Nat) V.undef)))) == V.toStr (List.getD (List.getD r11 (Int.toNat i13) []) (3 : Nat) V.undef) && true)))) (K Ex.ret { fr := [((4 : Nat), V.bool true)], tab := [] : St }) (cond (bx0) (K Ex.ret { fr := [((4 : Nat), V.bool false)], tab := [] : St }) (K Ex.normal { fr := [((1 : Nat), V.slc [Sh.str, Sh.int IntKind.u8, Sh.int IntKind.i64, Sh.str] r1), ((2 : Nat), V.ptr (10000 : Nat) (0 : Nat) (0 : Nat) (0 : Nat)), ((11 : Nat), V.slc [Sh.str, Sh.int IntKind.u8, Sh.int IntKind.i64, Sh.str] r11), ((12 : Nat), V.int IntKind.i64 i12), ((13 : Nat), V.int IntKind.i64 (IntKind.wrap IntKind.i64 (i13 + (1 : Int))))], tab := [((10000 : Nat), Box.var [V.int IntKind.u8 ix0, V.str sx0, V.slc [Sh.str, Sh.int IntKind.u8, Sh.int IntKind.i64, Sh.str] rx0, V.bool bx0])] : St })))) (cond (bx0) (K Ex.ret { fr := [((4 : Nat), V.bool false)], tab := [] : St }) (K Ex.normal { fr := [((1 : Nat), V.slc [Sh.str, Sh.int IntKind.u8, Sh.int IntKind.i64, Sh.str] r1), ((2 : Nat), V.ptr (10000 : Nat) (0 : Nat) (0 : Nat) (0 : Nat)), ((11 : Nat), V.slc [Sh.str, Sh.int IntKind.u8, Sh.int IntKind.i64, Sh.str] r11), ((12 : Nat), V.int IntKind.i64 i12), ((13 : Nat), V.int IntKind.i64 (IntKind.wrap IntKind.i64 (i13 + (1 : Int))))], tab := [((10000 : Nat), Box.var [V.int IntKind.u8 ix0, V.str sx0, V.slc [Sh.str, Sh.int IntKind.u8, Sh.int IntKind.i64, Sh.str] rx0, V.bool bx0])] : St }))) (none)) (none)) (K (Ex.exit (0 : Nat)) { fr := [((2 : Nat), V.ptr (10000 : Nat) (0 : Nat) (0 : Nat) (0 : Nat))], tab := [((10000 : Nat), Box.var [V.int IntKind.u8 ix0, V.str sx0, V.slc [Sh.str, Sh.int IntKind.u8, Sh.int IntKind.i64, Sh.str] rx0, V.bool bx0])] : St }) := by kernel_rfl
def schRefHas : SSch := { fr := [(3, .ptr 10000 0 0), (7, .slc [.str, .int .u8, .int .i64, .str]), (8, .int .i64), (9, .int .i64)], tab := [(10000, .var [.str, .int .u8, .int .i64, .str])] }
def gRefHas : List Leaf → (Ex → St → Option R) → Option R
  | [.r r7, .i i8, .i i9, .s sx0, .i ix0, .i ix0_1, .s sx0_1], K => cond (i8 == r7.length) (cond (ile 0 i9) (cond (ile i9 r7.length) (cond (Nat.ble r7.length LIM)
      (cond (N.refHas ⟨sx0, ix0, ix0_1, sx0_1⟩ (rowsP (r7.drop i9.toNat))) (K .ret { fr := [(4, .bool true)], tab := [] }) (K (.exit 0) { fr := [], tab := [] })) none) none) none) none
  | _, _ => none
noncomputable def eRefHas : Env := env Tryd.prog [] [(2, loopF schRefHas gRefHas)] [(2, [(0, [3, 7, 8, 9]), (1, []), (1000, [4])])]
theorem q_refHas (h : List HPair) (p : HPair) : evFn eRefHas 58 ((aCons (vSl cPair) (aOne (vAgg cPair))).enc (h, p)) ([]) some =
 cond ((↑(List.length (List.map (fun p => [V.str (HPair.key p), V.int IntKind.u8 (HPair.kind p), V.int IntKind.i64 (HPair.num p), V.str (HPair.text p)]) h)) : Int) == (↑(List.length (List.map (fun p => [V.str (HPair.key p), V.int IntKind.u8 (HPair.kind p), V.int IntKind.i64 (HPair.num p), V.str (HPair.text p)]) h)) : Int)) (cond (Nat.ble (List.length (List.map (fun p => [V.str (HPair.key p), V.int IntKind.u8 (HPair.kind p), V.int IntKind.i64 (HPair.num p), V.str (HPair.text p)]) h)) (1000000 : Nat)) (cond (N.refHas p (List.map (fun r => { key := V.toStr (List.getD r (0 : Nat) V.undef), kind := V.toInt (List.getD r (1 : Nat) V.undef), num := V.toInt (List.getD r (2 : Nat) V.undef), text := V.toStr (List.getD r (3 : Nat) V.undef) : HPair }) (List.drop (0 : Nat) (List.map (fun p => [V.str (HPair.key p), V.int IntKind.u8 (HPair.kind p), V.int IntKind.i64 (HPair.num p), V.str (HPair.text p)]) h)))) (some { v := V.bool true, bx := [] : DRes }) (some { v := V.bool false, bx := [] : DRes })) (none)) (none) := by kernel_rfl
theorem q_refHasR (r7 : List (List V)) (i8 : Int) (i9 : Int) (sx0 : Bytes) (ix0 : Int) (ix0_1 : Int) (sx0_1 : Bytes) (K : Ex → St → Option R) : evRound eRefHas 58 2 { fr := [(3, .ptr 10000 0 0 0), (7, .slc [.str, .int .u8, .int .i64, .str] r7), (8, .int .i64 i8), (9, .int .i64 i9)], tab := [(10000, .var [.str sx0, .int .u8 ix0, .int .i64 ix0_1, .str sx0_1])] } K =
 cond (ilt i9 i8) (cond (decide ((0 : Int) ≤ i9 ∧ i9 < (↑(List.length r7) : Int))) (cond (V.toStr (List.getD (List.getD r7 (Int.toNat i9) []) (0 : Nat) V.undef) == sx0 && (V.toInt (List.getD (List.getD r7 (Int.toNat i9) []) (1 : Nat) V.undef) == ix0 && (V.toInt (List.getD (List.getD r7 (Int.toNat i9) []) (2 : Nat) V.undef) == ix0_1 && (V.toStr (List.getD (List.getD r7 (Int.toNat i9) []) (3 : Nat) V.undef) == sx0_1 && true)))) (K Ex.ret { fr := [((4 : Nat), V.bool true)], tab := [] : St }) (K Ex.normal { fr := [((3 : Nat), V.ptr (10000 : Nat) (0 : Nat) (0 : Nat) (0 : Nat)), ((7 : Nat), V.slc [Sh.str, Sh.int IntKind.u8, Sh.int IntKind.i64, Sh.str] r7), ((8 : Nat), V.int IntKind.i64 i8), ((9 : Nat), V.int IntKind.i64 (IntKind.wrap IntKind.i64 (i9 + (1 : Int))))], tab := [((10000 : Nat), Box.var [V.str sx0, V.int IntKind.u8 ix0, V.int IntKind.i64 ix0_1, V.str sx0_1])] : St })) (none)) (K (Ex.exit (0 : Nat)) { fr := [], tab := [] : St }) := by kernel_rfl
theorem ok_refHas : FnOk Tryd.prog 58 dRefHas := by
  refine den_okF (env_ok (TOk.nil _)) (E := eRefHas) Tryd.func58 [2] (by kernel_rfl) (one1 (rounds_of rfl fun l K q h => ?_)) fun a _ h => ?_
  · unfold gRefHas at h
    split at h
    · rename_i r n i p1 p2 p3 p4
      have h1 := (cond_none h).1; replace h := (cond_none h).2; have h2 := (cond_none h).1; replace h := (cond_none h).2; have h3 := (cond_none h).1; replace h := (cond_none h).2; have h4 := (cond_none h).1; replace h := (cond_none h).2
      have e1 := ieq_of h1
      subst e1
      have h4 : r.length ≤ 1000000 := ble_of h4
      refine range_ind (E := eRefHas) (f := 58) (id := 2) (A := Unit) r (fun _ i => { fr := [(3, .ptr 10000 0 0 0), (7, .slc [.str, .int .u8, .int .i64, .str] r), (8, .int .i64 r.length), (9, .int .i64 i)], tab := [(10000, .var [.str p1, .int .u8 p2, .int .i64 p3, .str p4])] }) (fun _ _ => True)
        (fun _ l K => cond (N.refHas ⟨p1, p2, p3, p4⟩ (rowsP l)) (K .ret { fr := [(4, .bool true)], tab := [] }) (K (.exit 0) { fr := [], tab := [] })) (fun _ i _ hi => ?_) (fun _ _ => ?_) () i (ile_of h2) (ile_of h3) trivial K q (by assumption)
      · have e : ∀ l, N.refHas ⟨p1, p2, p3, p4⟩ (rowsP (r.getD i [] :: l)) = cond (N.eqP (rowP (r.getD i [])) ⟨p1, p2, p3, p4⟩) true (N.refHas ⟨p1, p2, p3, p4⟩ (rowsP l)) := fun _ => rfl
        cases hc : N.eqP (rowP (r.getD i [])) ⟨p1, p2, p3, p4⟩ with
        | true =>
          refine .inr ⟨.ret, { fr := [(4, .bool true)], tab := [] }, by simp, fun K => ?_, fun K => by rw [e, hc]; rfl⟩
          rw [q_refHasR]
          unfold N.eqP rowP at hc
          simp (disch := omega) only [evs, hc, Int.toNat_natCast]
        | false =>
          refine .inl ⟨(), trivial, fun K => ?_, fun K => by rw [e, hc]; rfl⟩
          rw [q_refHasR]
          unfold N.eqP rowP at hc
          simp (disch := omega) only [evs, hc, Int.toNat_natCast]
      · refine ⟨.exit 0, { fr := [], tab := [] }, by simp, fun K => ?_, fun K => rfl⟩
        rw [q_refHasR]
        simp (disch := omega) only [evs]
    · cases h
  · obtain ⟨h', p⟩ := a
    have h : h'.length ≤ 1000000 := ble_of h
    refine (q_refHas h' p).trans ?_
    show _ = some (⟨.bool (N.refHas p h'), [], []⟩ : DRes)
    simp (disch := omega) only [evs, List.drop_zero, pairs_enc]
    cases N.refHas p h' <;> rfl
theorem fold_rowsP (l : List (List V)) : l.map (fun r => ({ key := V.toStr (List.getD r 0 .undef), kind := V.toInt (List.getD r 1 .undef), num := V.toInt (List.getD r 2 .undef), text := V.toStr (List.getD r 3 .undef) } : HPair)) = rowsP l := rfl
theorem fold_eqP (p : HPair) (l : List V) : (p.key == V.toStr (List.getD l 0 .undef) && (p.kind == V.toInt (List.getD l 1 .undef) && (p.num == V.toInt (List.getD l 2 .undef) && (p.text == V.toStr (List.getD l 3 .undef) && true)))) = N.eqP p (rowP l) := rfl
theorem headsP_cons (h : List HPair) (all : Bool) (p : HPair) (r : List HPair) : N.headsP h all (p :: r) = cond (N.hasP h p) (cond all (N.headsP h all r) true) (cond all false (N.headsP h all r)) := rfl
theorem ok_heads : FnOk Tryd.prog 56 dHeads := by
  refine den_okF (env_ok ((TOk.nil _).cons ok_find)) (E := eHeads) Tryd.func56 [2] (by kernel_rfl) (one1 (rounds_of rfl fun l K q h => ?_)) fun a _ h => ?_
  · unfold gHeads at h
    split at h
    · rename_i r1 r n i s1 s2 s3 all
      have h1 := (cond_none h).1; replace h := (cond_none h).2; have h2 := (cond_none h).1; replace h := (cond_none h).2; have h3 := (cond_none h).1; replace h := (cond_none h).2; have h4 := (cond_none h).1; replace h := (cond_none h).2; have h5 := (cond_none h).1; replace h := (cond_none h).2
      have e1 := ieq_of h1
      subst e1
      have h4 : r.length ≤ 1000000 := ble_of h4
      have h5 : r1.length ≤ 1000000 := ble_of h5
      refine range_ind (E := eHeads) (f := 56) (id := 2) (A := Unit) r (fun _ i => { fr := [(1, .slc [.str, .int .u8, .int .i64, .str] r1), (2, .ptr 10000 0 0 0), (11, .slc [.str, .int .u8, .int .i64, .str] r), (12, .int .i64 r.length), (13, .int .i64 i)], tab := [(10000, .var [.int .u8 s1, .str s2, .slc [.str, .int .u8, .int .i64, .str] s3, .bool all])] }) (fun _ _ => True)
        (fun _ l K => cond (N.headsP (rowsP r1) all (rowsP l) == all) (K (.exit 0) { fr := [(2, .ptr 10000 0 0 0)], tab := [(10000, .var [.int .u8 s1, .str s2, .slc [.str, .int .u8, .int .i64, .str] s3, .bool all])] })
        (K .ret { fr := [(4, .bool !all)], tab := [] })) (fun _ i _ hi => ?_) (fun _ _ => ?_) () i (ile_of h2) (ile_of h3) trivial K q (by assumption)
      · have e : ∀ l, N.headsP (rowsP r1) all (rowsP (r.getD i [] :: l)) = cond (N.hasP (rowsP r1) (rowP (r.getD i []))) (cond all (N.headsP (rowsP r1) all (rowsP l)) true) (cond all false (N.headsP (rowsP r1) all (rowsP l))) := fun _ => rfl
        have T : ∀ K : Ex → St → Option R, evRound eHeads 56 2 { fr := [(1, .slc [.str, .int .u8, .int .i64, .str] r1), (2, .ptr 10000 0 0 0), (11, .slc [.str, .int .u8, .int .i64, .str] r), (12, .int .i64 r.length), (13, .int .i64 i)], tab := [(10000, .var [.int .u8 s1, .str s2, .slc [.str, .int .u8, .int .i64, .str] s3, .bool all])] } K =
            cond (N.find (rowsP r1) (rowP (r.getD i [])).key).2 (cond (N.eqP (N.find (rowsP r1) (rowP (r.getD i [])).key).1 (rowP (r.getD i [])))
                (cond all (K .normal { fr := [(1, .slc [.str, .int .u8, .int .i64, .str] r1), (2, .ptr 10000 0 0 0), (11, .slc [.str, .int .u8, .int .i64, .str] r), (12, .int .i64 r.length), (13, .int .i64 ((i : Int) + 1))], tab := [(10000, .var [.int .u8 s1, .str s2, .slc [.str, .int .u8, .int .i64, .str] s3, .bool all])] })
                  (K .ret { fr := [(4, .bool true)], tab := [] }))
                (cond all (K .ret { fr := [(4, .bool false)], tab := [] }) (K .normal { fr := [(1, .slc [.str, .int .u8, .int .i64, .str] r1), (2, .ptr 10000 0 0 0), (11, .slc [.str, .int .u8, .int .i64, .str] r), (12, .int .i64 r.length), (13, .int .i64 ((i : Int) + 1))], tab := [(10000, .var [.int .u8 s1, .str s2, .slc [.str, .int .u8, .int .i64, .str] s3, .bool all])] })))
              (cond all (K .ret { fr := [(4, .bool false)], tab := [] }) (K .normal { fr := [(1, .slc [.str, .int .u8, .int .i64, .str] r1), (2, .ptr 10000 0 0 0), (11, .slc [.str, .int .u8, .int .i64, .str] r), (12, .int .i64 r.length), (13, .int .i64 ((i : Int) + 1))], tab := [(10000, .var [.int .u8 s1, .str s2, .slc [.str, .int .u8, .int .i64, .str] s3, .bool all])] })) := fun K => by
          rw [q_headsR]
          simp (disch := omega) only [evs, Int.toNat_natCast, fold_rowsP, fold_eqP, rowsP_length]
          show cond (N.find (rowsP r1) (rowP (r.getD i [])).key).2 _ _ = _
          rw [show N.find (rowsP r1) (V.toStr (List.getD (r.getD i []) 0 .undef)) = N.find (rowsP r1) (rowP (r.getD i [])).key from rfl]
          cases (N.find (rowsP r1) (rowP (r.getD i [])).key).2 <;> cases N.eqP (N.find (rowsP r1) (rowP (r.getD i [])).key).1 (rowP (r.getD i [])) <;> cases all <;> rfl
        have eh : N.hasP (rowsP r1) (rowP (r.getD i [])) = cond (N.find (rowsP r1) (rowP (r.getD i [])).key).2 (N.eqP (N.find (rowsP r1) (rowP (r.getD i [])).key).1 (rowP (r.getD i []))) false := rfl
        cases e1 : (N.find (rowsP r1) (rowP (r.getD i [])).key).2 <;> cases e2 : N.eqP (N.find (rowsP r1) (rowP (r.getD i [])).key).1 (rowP (r.getD i [])) <;> cases all <;> rw [e1, e2] at eh
        all_goals first
          | exact .inl ⟨(), trivial, fun K => by rw [T, e1, e2]; rfl, fun K => by rw [e, eh]; rfl⟩
          | exact .inr ⟨.ret, _, by simp, fun K => by rw [T, e1, e2]; rfl, fun K => by rw [e, eh]; rfl⟩
      · refine ⟨.exit 0, { fr := [(2, .ptr 10000 0 0 0)], tab := [(10000, .var [.int .u8 s1, .str s2, .slc [.str, .int .u8, .int .i64, .str] s3, .bool all])] }, by simp, fun K => ?_, fun K => ?_⟩
        · rw [q_headsR]
          simp (disch := omega) only [evs]
        · show cond (all == all) _ _ = _
          cases all <;> rfl
    · cases h
  · obtain ⟨r, h'⟩ := a
    obtain ⟨h1, h2⟩ := bcond h
    have h1 : r.want.length ≤ 1000000 := ble_of h1
    have h2 : h'.length ≤ 1000000 := ble_of h2
    refine (q_heads r h').trans ?_
    show _ = some (⟨.bool (N.headsP h' r.all r.want), [], []⟩ : DRes)
    simp (disch := omega) only [evs, List.drop_zero, pairs_enc]
    cases N.headsP h' r.all r.want <;> cases r.all <;> rfl
end Go.Ev

/- The document's function that reads heads answers what the plain one does: lemmas. -/
namespace Go.Ev
open Go Go.Proofs
set_option maxRecDepth 100000

def schRHead : SSch := { fr := [(0, .ptr 0 0 0), (3, .int .i64), (4, .own 10000), (5, .int .i64)], tab := [(0, .var [.str, .int .i64, .int .i64]), (10000, .sl [.str, .int .u8, .int .i64, .str])] }
def gRHead : List Leaf → (Ex → St → Option R) → Option R
  | [.i n, .i j, .s s, .i a, .i c, .r rows], K => cond (ile 0 j) (cond (ile n 300) (cond (Nat.ble (rows.length + (n - j).toNat) LIM) (cond (N.goodR ⟨s, a, c⟩)
      (K (.exit 0) { fr := [(0, .ptr 0 0 0 0), (4, .own 10000 0)], tab := [(0, .var [.str (N.rhl (n - j).toNat ⟨s, a, c⟩ rows).2.s, .int .i64 (N.rhl (n - j).toNat ⟨s, a, c⟩ rows).2.at', .int .i64 (N.rhl (n - j).toNat ⟨s, a, c⟩ rows).2.code]), (10000, .sl [.str, .int .u8, .int .i64, .str] (N.rhl (n - j).toNat ⟨s, a, c⟩ rows).1 0)] }) none) none) none) none
  | _, _ => none
noncomputable def eRHead : Env := env Tryd.prog [(69, dRNum), (72, dRFail), (70, dRText), (54, dPairE)] [(6, loopF schRHead gRHead)] [(6, [(0, [0, 3, 4, 5]), (1, [0, 4]), (1000, [2])])]
theorem q_rHead (q : RIn) : evFn eRHead 71 (((aOne (vPtr 0)).enc ())) (((bOne cRIn).enc q)) some =
 cond (N.goodR q) (cond (ilt (8 : Int) (IntKind.wrap IntKind.i64 (Prod.fst (N.rNum q (1 : Int))))) (cond (ile (IntKind.wrap IntKind.i64 (Prod.fst (N.rNum q (1 : Int)))) (300 : Int)) (cond (Nat.ble ((0 : Nat) + Int.toNat (IntKind.wrap IntKind.i64 (Prod.fst (N.rNum q (1 : Int))) - (0 : Int))) (1000000 : Nat)) (cond (N.goodR (N.rFail (Prod.snd (N.rNum q (1 : Int))) (6 : Int))) (cond (RIn.code (Prod.snd (N.rhl (Int.toNat (IntKind.wrap IntKind.i64 (Prod.fst (N.rNum q (1 : Int))) - (0 : Int))) (N.rFail (Prod.snd (N.rNum q (1 : Int))) (6 : Int)) [])) != (0 : Int)) (some { v := V.slc [Sh.str, Sh.int IntKind.u8, Sh.int IntKind.i64, Sh.str] [], bx := [[V.str (RIn.s (Prod.snd (N.rhl (Int.toNat (IntKind.wrap IntKind.i64 (Prod.fst (N.rNum q (1 : Int))) - (0 : Int))) (N.rFail (Prod.snd (N.rNum q (1 : Int))) (6 : Int)) []))), V.int IntKind.i64 (RIn.at' (Prod.snd (N.rhl (Int.toNat (IntKind.wrap IntKind.i64 (Prod.fst (N.rNum q (1 : Int))) - (0 : Int))) (N.rFail (Prod.snd (N.rNum q (1 : Int))) (6 : Int)) []))), V.int IntKind.i64 (RIn.code (Prod.snd (N.rhl (Int.toNat (IntKind.wrap IntKind.i64 (Prod.fst (N.rNum q (1 : Int))) - (0 : Int))) (N.rFail (Prod.snd (N.rNum q (1 : Int))) (6 : Int)) [])))]] : DRes }) (some { v := V.slc [Sh.str, Sh.int IntKind.u8, Sh.int IntKind.i64, Sh.str] (Prod.fst (N.rhl (Int.toNat (IntKind.wrap IntKind.i64 (Prod.fst (N.rNum q (1 : Int))) - (0 : Int))) (N.rFail (Prod.snd (N.rNum q (1 : Int))) (6 : Int)) [])), bx := [[V.str (RIn.s (Prod.snd (N.rhl (Int.toNat (IntKind.wrap IntKind.i64 (Prod.fst (N.rNum q (1 : Int))) - (0 : Int))) (N.rFail (Prod.snd (N.rNum q (1 : Int))) (6 : Int)) []))), V.int IntKind.i64 (RIn.at' (Prod.snd (N.rhl (Int.toNat (IntKind.wrap IntKind.i64 (Prod.fst (N.rNum q (1 : Int))) - (0 : Int))) (N.rFail (Prod.snd (N.rNum q (1 : Int))) (6 : Int)) []))), V.int IntKind.i64 (RIn.code (Prod.snd (N.rhl (Int.toNat (IntKind.wrap IntKind.i64 (Prod.fst (N.rNum q (1 : Int))) - (0 : Int))) (N.rFail (Prod.snd (N.rNum q (1 : Int))) (6 : Int)) [])))]] : DRes })) (none)) (none)) (none)) (cond (ile (IntKind.wrap IntKind.i64 (Prod.fst (N.rNum q (1 : Int)))) (300 : Int)) (cond (Nat.ble ((0 : Nat) + Int.toNat (IntKind.wrap IntKind.i64 (Prod.fst (N.rNum q (1 : Int))) - (0 : Int))) (1000000 : Nat)) (cond (N.goodR (Prod.snd (N.rNum q (1 : Int)))) (cond (RIn.code (Prod.snd (N.rhl (Int.toNat (IntKind.wrap IntKind.i64 (Prod.fst (N.rNum q (1 : Int))) - (0 : Int))) (Prod.snd (N.rNum q (1 : Int))) [])) != (0 : Int)) (some { v := V.slc [Sh.str, Sh.int IntKind.u8, Sh.int IntKind.i64, Sh.str] [], bx := [[V.str (RIn.s (Prod.snd (N.rhl (Int.toNat (IntKind.wrap IntKind.i64 (Prod.fst (N.rNum q (1 : Int))) - (0 : Int))) (Prod.snd (N.rNum q (1 : Int))) []))), V.int IntKind.i64 (RIn.at' (Prod.snd (N.rhl (Int.toNat (IntKind.wrap IntKind.i64 (Prod.fst (N.rNum q (1 : Int))) - (0 : Int))) (Prod.snd (N.rNum q (1 : Int))) []))), V.int IntKind.i64 (RIn.code (Prod.snd (N.rhl (Int.toNat (IntKind.wrap IntKind.i64 (Prod.fst (N.rNum q (1 : Int))) - (0 : Int))) (Prod.snd (N.rNum q (1 : Int))) [])))]] : DRes }) (some { v := V.slc [Sh.str, Sh.int IntKind.u8, Sh.int IntKind.i64, Sh.str] (Prod.fst (N.rhl (Int.toNat (IntKind.wrap IntKind.i64 (Prod.fst (N.rNum q (1 : Int))) - (0 : Int))) (Prod.snd (N.rNum q (1 : Int))) [])), bx := [[V.str (RIn.s (Prod.snd (N.rhl (Int.toNat (IntKind.wrap IntKind.i64 (Prod.fst (N.rNum q (1 : Int))) - (0 : Int))) (Prod.snd (N.rNum q (1 : Int))) []))), V.int IntKind.i64 (RIn.at' (Prod.snd (N.rhl (Int.toNat (IntKind.wrap IntKind.i64 (Prod.fst (N.rNum q (1 : Int))) - (0 : Int))) (Prod.snd (N.rNum q (1 : Int))) []))), V.int IntKind.i64 (RIn.code (Prod.snd (N.rhl (Int.toNat (IntKind.wrap IntKind.i64 (Prod.fst (N.rNum q (1 : Int))) - (0 : Int))) (Prod.snd (N.rNum q (1 : Int))) [])))]] : DRes })) (none)) (none)) (none))) (none) := by kernel_rfl
theorem q_rHeadR (i3 : Int) (i5 : Int) (sx0 : Bytes) (ix0 : Int) (ix0_1 : Int) (rx0 : List (List V)) (K : Ex → St → Option R) : evRound eRHead 71 6 { fr := [(0, .ptr 0 0 0 0), (3, .int .i64 i3), (4, .own 10000 0), (5, .int .i64 i5)], tab := [(0, .var [.str sx0, .int .i64 ix0, .int .i64 ix0_1]), (10000, .sl [.str, .int .u8, .int .i64, .str] rx0 0)] } K =
 cond (ilt i5 i3) (cond (ix0_1 == (0 : Int)) (cond (N.goodR { s := sx0, at' := ix0, code := ix0_1 : RIn }) (cond (N.goodR (Prod.snd (N.rText { s := sx0, at' := ix0, code := ix0_1 : RIn } (16 : Int)))) (cond (IntKind.wrap IntKind.u8 (Prod.fst (N.rNum (Prod.snd (N.rText { s := sx0, at' := ix0, code := ix0_1 : RIn } (16 : Int))) (1 : Int))) == (0 : Int)) (cond (N.goodR (Prod.snd (N.rNum (Prod.snd (N.rText { s := sx0, at' := ix0, code := ix0_1 : RIn } (16 : Int))) (1 : Int)))) (cond (RIn.code (Prod.snd (N.rNum (Prod.snd (N.rNum (Prod.snd (N.rText { s := sx0, at' := ix0, code := ix0_1 : RIn } (16 : Int))) (1 : Int))) (8 : Int))) == (0 : Int)) (cond (Nat.ble (List.length (List.map (fun r => { key := V.toStr (List.getD r (0 : Nat) V.undef), kind := V.toInt (List.getD r (1 : Nat) V.undef), num := V.toInt (List.getD r (2 : Nat) V.undef), text := V.toStr (List.getD r (3 : Nat) V.undef) : HPair }) rx0)) (1000000 : Nat)) (cond (decide ((List.length rx0 + (1 : Nat)) * (48 : Nat) ≤ (140737488355328 : Nat))) (K Ex.normal { fr := [((0 : Nat), V.ptr (0 : Nat) (0 : Nat) (0 : Nat) (0 : Nat)), ((3 : Nat), V.int IntKind.i64 i3), ((4 : Nat), V.own (10000 : Nat) (0 : Nat)), ((5 : Nat), V.int IntKind.i64 (IntKind.wrap IntKind.i64 (i5 + (1 : Int))))], tab := [((0 : Nat), Box.var [V.str (RIn.s (N.rFail (Prod.snd (N.rNum (Prod.snd (N.rNum (Prod.snd (N.rText { s := sx0, at' := ix0, code := ix0_1 : RIn } (16 : Int))) (1 : Int))) (8 : Int))) (N.pairE { key := Prod.fst (N.rText { s := sx0, at' := ix0, code := ix0_1 : RIn } (16 : Int)), kind := IntKind.wrap IntKind.u8 (Prod.fst (N.rNum (Prod.snd (N.rText { s := sx0, at' := ix0, code := ix0_1 : RIn } (16 : Int))) (1 : Int))), num := IntKind.wrap IntKind.i64 (Prod.fst (N.rNum (Prod.snd (N.rNum (Prod.snd (N.rText { s := sx0, at' := ix0, code := ix0_1 : RIn } (16 : Int))) (1 : Int))) (8 : Int))), text := [] : HPair } (List.map (fun r => { key := V.toStr (List.getD r (0 : Nat) V.undef), kind := V.toInt (List.getD r (1 : Nat) V.undef), num := V.toInt (List.getD r (2 : Nat) V.undef), text := V.toStr (List.getD r (3 : Nat) V.undef) : HPair }) rx0)))), V.int IntKind.i64 (RIn.at' (N.rFail (Prod.snd (N.rNum (Prod.snd (N.rNum (Prod.snd (N.rText { s := sx0, at' := ix0, code := ix0_1 : RIn } (16 : Int))) (1 : Int))) (8 : Int))) (N.pairE { key := Prod.fst (N.rText { s := sx0, at' := ix0, code := ix0_1 : RIn } (16 : Int)), kind := IntKind.wrap IntKind.u8 (Prod.fst (N.rNum (Prod.snd (N.rText { s := sx0, at' := ix0, code := ix0_1 : RIn } (16 : Int))) (1 : Int))), num := IntKind.wrap IntKind.i64 (Prod.fst (N.rNum (Prod.snd (N.rNum (Prod.snd (N.rText { s := sx0, at' := ix0, code := ix0_1 : RIn } (16 : Int))) (1 : Int))) (8 : Int))), text := [] : HPair } (List.map (fun r => { key := V.toStr (List.getD r (0 : Nat) V.undef), kind := V.toInt (List.getD r (1 : Nat) V.undef), num := V.toInt (List.getD r (2 : Nat) V.undef), text := V.toStr (List.getD r (3 : Nat) V.undef) : HPair }) rx0)))), V.int IntKind.i64 (RIn.code (N.rFail (Prod.snd (N.rNum (Prod.snd (N.rNum (Prod.snd (N.rText { s := sx0, at' := ix0, code := ix0_1 : RIn } (16 : Int))) (1 : Int))) (8 : Int))) (N.pairE { key := Prod.fst (N.rText { s := sx0, at' := ix0, code := ix0_1 : RIn } (16 : Int)), kind := IntKind.wrap IntKind.u8 (Prod.fst (N.rNum (Prod.snd (N.rText { s := sx0, at' := ix0, code := ix0_1 : RIn } (16 : Int))) (1 : Int))), num := IntKind.wrap IntKind.i64 (Prod.fst (N.rNum (Prod.snd (N.rNum (Prod.snd (N.rText { s := sx0, at' := ix0, code := ix0_1 : RIn } (16 : Int))) (1 : Int))) (8 : Int))), text := [] : HPair } (List.map (fun r => { key := V.toStr (List.getD r (0 : Nat) V.undef), kind := V.toInt (List.getD r (1 : Nat) V.undef), num := V.toInt (List.getD r (2 : Nat) V.undef), text := V.toStr (List.getD r (3 : Nat) V.undef) : HPair }) rx0))))]), ((10000 : Nat), Box.sl [Sh.str, Sh.int IntKind.u8, Sh.int IntKind.i64, Sh.str] (rx0 ++ [[V.str (Prod.fst (N.rText { s := sx0, at' := ix0, code := ix0_1 : RIn } (16 : Int))), V.int IntKind.u8 (IntKind.wrap IntKind.u8 (Prod.fst (N.rNum (Prod.snd (N.rText { s := sx0, at' := ix0, code := ix0_1 : RIn } (16 : Int))) (1 : Int)))), V.int IntKind.i64 (IntKind.wrap IntKind.i64 (Prod.fst (N.rNum (Prod.snd (N.rNum (Prod.snd (N.rText { s := sx0, at' := ix0, code := ix0_1 : RIn } (16 : Int))) (1 : Int))) (8 : Int)))), V.str []]]) (0 : Nat))] : St }) (none)) (none)) (cond (decide ((List.length rx0 + (1 : Nat)) * (48 : Nat) ≤ (140737488355328 : Nat))) (K Ex.normal { fr := [((0 : Nat), V.ptr (0 : Nat) (0 : Nat) (0 : Nat) (0 : Nat)), ((3 : Nat), V.int IntKind.i64 i3), ((4 : Nat), V.own (10000 : Nat) (0 : Nat)), ((5 : Nat), V.int IntKind.i64 (IntKind.wrap IntKind.i64 (i5 + (1 : Int))))], tab := [((0 : Nat), Box.var [V.str (RIn.s (Prod.snd (N.rNum (Prod.snd (N.rNum (Prod.snd (N.rText { s := sx0, at' := ix0, code := ix0_1 : RIn } (16 : Int))) (1 : Int))) (8 : Int)))), V.int IntKind.i64 (RIn.at' (Prod.snd (N.rNum (Prod.snd (N.rNum (Prod.snd (N.rText { s := sx0, at' := ix0, code := ix0_1 : RIn } (16 : Int))) (1 : Int))) (8 : Int)))), V.int IntKind.i64 (RIn.code (Prod.snd (N.rNum (Prod.snd (N.rNum (Prod.snd (N.rText { s := sx0, at' := ix0, code := ix0_1 : RIn } (16 : Int))) (1 : Int))) (8 : Int))))]), ((10000 : Nat), Box.sl [Sh.str, Sh.int IntKind.u8, Sh.int IntKind.i64, Sh.str] (rx0 ++ [[V.str (Prod.fst (N.rText { s := sx0, at' := ix0, code := ix0_1 : RIn } (16 : Int))), V.int IntKind.u8 (IntKind.wrap IntKind.u8 (Prod.fst (N.rNum (Prod.snd (N.rText { s := sx0, at' := ix0, code := ix0_1 : RIn } (16 : Int))) (1 : Int)))), V.int IntKind.i64 (IntKind.wrap IntKind.i64 (Prod.fst (N.rNum (Prod.snd (N.rNum (Prod.snd (N.rText { s := sx0, at' := ix0, code := ix0_1 : RIn } (16 : Int))) (1 : Int))) (8 : Int)))), V.str []]]) (0 : Nat))] : St }) (none))) (none)) (cond (IntKind.wrap IntKind.u8 (Prod.fst (N.rNum (Prod.snd (N.rText { s := sx0, at' := ix0, code := ix0_1 : RIn } (16 : Int))) (1 : Int))) == (1 : Int)) (cond (N.goodR (Prod.snd (N.rNum (Prod.snd (N.rText { s := sx0, at' := ix0, code := ix0_1 : RIn } (16 : Int))) (1 : Int)))) (cond (RIn.code (Prod.snd (N.rText (Prod.snd (N.rNum (Prod.snd (N.rText { s := sx0, at' := ix0, code := ix0_1 : RIn } (16 : Int))) (1 : Int))) (64 : Int))) == (0 : Int)) (cond (Nat.ble (List.length (List.map (fun r => { key := V.toStr (List.getD r (0 : Nat) V.undef), kind := V.toInt (List.getD r (1 : Nat) V.undef), num := V.toInt (List.getD r (2 : Nat) V.undef), text := V.toStr (List.getD r (3 : Nat) V.undef) : HPair }) rx0)) (1000000 : Nat)) (cond (decide ((List.length rx0 + (1 : Nat)) * (48 : Nat) ≤ (140737488355328 : Nat))) (K Ex.normal { fr := [((0 : Nat), V.ptr (0 : Nat) (0 : Nat) (0 : Nat) (0 : Nat)), ((3 : Nat), V.int IntKind.i64 i3), ((4 : Nat), V.own (10000 : Nat) (0 : Nat)), ((5 : Nat), V.int IntKind.i64 (IntKind.wrap IntKind.i64 (i5 + (1 : Int))))], tab := [((0 : Nat), Box.var [V.str (RIn.s (N.rFail (Prod.snd (N.rText (Prod.snd (N.rNum (Prod.snd (N.rText { s := sx0, at' := ix0, code := ix0_1 : RIn } (16 : Int))) (1 : Int))) (64 : Int))) (N.pairE { key := Prod.fst (N.rText { s := sx0, at' := ix0, code := ix0_1 : RIn } (16 : Int)), kind := IntKind.wrap IntKind.u8 (Prod.fst (N.rNum (Prod.snd (N.rText { s := sx0, at' := ix0, code := ix0_1 : RIn } (16 : Int))) (1 : Int))), num := (0 : Int), text := Prod.fst (N.rText (Prod.snd (N.rNum (Prod.snd (N.rText { s := sx0, at' := ix0, code := ix0_1 : RIn } (16 : Int))) (1 : Int))) (64 : Int)) : HPair } (List.map (fun r => { key := V.toStr (List.getD r (0 : Nat) V.undef), kind := V.toInt (List.getD r (1 : Nat) V.undef), num := V.toInt (List.getD r (2 : Nat) V.undef), text := V.toStr (List.getD r (3 : Nat) V.undef) : HPair }) rx0)))), V.int IntKind.i64 (RIn.at' (N.rFail (Prod.snd (N.rText (Prod.snd (N.rNum (Prod.snd (N.rText { s := sx0, at' := ix0, code := ix0_1 : RIn } (16 : Int))) (1 : Int))) (64 : Int))) (N.pairE { key := Prod.fst (N.rText { s := sx0, at' := ix0, code := ix0_1 : RIn } (16 : Int)), kind := IntKind.wrap IntKind.u8 (Prod.fst (N.rNum (Prod.snd (N.rText { s := sx0, at' := ix0, code := ix0_1 : RIn } (16 : Int))) (1 : Int))), num := (0 : Int), text := Prod.fst (N.rText (Prod.snd (N.rNum (Prod.snd (N.rText { s := sx0, at' := ix0, code := ix0_1 : RIn } (16 : Int))) (1 : Int))) (64 : Int)) : HPair } (List.map (fun r => { key := V.toStr (List.getD r (0 : Nat) V.undef), kind := V.toInt (List.getD r (1 : Nat) V.undef), num := V.toInt (List.getD r (2 : Nat) V.undef), text := V.toStr (List.getD r (3 : Nat) V.undef) : HPair }) rx0)))), V.int IntKind.i64 (RIn.code (N.rFail (Prod.snd (N.rText (Prod.snd (N.rNum (Prod.snd (N.rText { s := sx0, at' := ix0, code := ix0_1 : RIn } (16 : Int))) (1 : Int))) (64 : Int))) (N.pairE { key := Prod.fst (N.rText { s := sx0, at' := ix0, code := ix0_1 : RIn } (16 : Int)), kind := IntKind.wrap IntKind.u8 (Prod.fst (N.rNum (Prod.snd (N.rText { s := sx0, at' := ix0, code := ix0_1 : RIn } (16 : Int))) (1 : Int))), num := (0 : Int), text := Prod.fst (N.rText (Prod.snd (N.rNum (Prod.snd (N.rText { s := sx0, at' := ix0, code := ix0_1 : RIn } (16 : Int))) (1 : Int))) (64 : Int)) : HPair } (List.map (fun r => { key := V.toStr (List.getD r (0 : Nat) V.undef), kind := V.toInt (List.getD r (1 : Nat) V.undef), num := V.toInt (List.getD r (2 : Nat) V.undef), text := V.toStr (List.getD r (3 : Nat) V.undef) : HPair }) rx0))))]), ((10000 : Nat), Box.sl [Sh.str, Sh.int IntKind.u8, Sh.int IntKind.i64, Sh.str] (rx0 ++ [[V.str (Prod.fst (N.rText { s := sx0, at' := ix0, code := ix0_1 : RIn } (16 : Int))), V.int IntKind.u8 (IntKind.wrap IntKind.u8 (Prod.fst (N.rNum (Prod.snd (N.rText { s := sx0, at' := ix0, code := ix0_1 : RIn } (16 : Int))) (1 : Int)))), V.int IntKind.i64 (0 : Int), V.str (Prod.fst (N.rText (Prod.snd (N.rNum (Prod.snd (N.rText { s := sx0, at' := ix0, code := ix0_1 : RIn } (16 : Int))) (1 : Int))) (64 : Int)))]]) (0 : Nat))] : St }) (none)) (none)) (cond (decide ((List.length rx0 + (1 : Nat)) * (48 : Nat) ≤ (140737488355328 : Nat))) (K Ex.normal { fr := [((0 : Nat), V.ptr (0 : Nat) (0 : Nat) (0 : Nat) (0 : Nat)), ((3 : Nat), V.int IntKind.i64 i3), ((4 : Nat), V.own (10000 : Nat) (0 : Nat)), ((5 : Nat), V.int IntKind.i64 (IntKind.wrap IntKind.i64 (i5 + (1 : Int))))], tab := [((0 : Nat), Box.var [V.str (RIn.s (Prod.snd (N.rText (Prod.snd (N.rNum (Prod.snd (N.rText { s := sx0, at' := ix0, code := ix0_1 : RIn } (16 : Int))) (1 : Int))) (64 : Int)))), V.int IntKind.i64 (RIn.at' (Prod.snd (N.rText (Prod.snd (N.rNum (Prod.snd (N.rText { s := sx0, at' := ix0, code := ix0_1 : RIn } (16 : Int))) (1 : Int))) (64 : Int)))), V.int IntKind.i64 (RIn.code (Prod.snd (N.rText (Prod.snd (N.rNum (Prod.snd (N.rText { s := sx0, at' := ix0, code := ix0_1 : RIn } (16 : Int))) (1 : Int))) (64 : Int))))]), ((10000 : Nat), Box.sl [Sh.str, Sh.int IntKind.u8, Sh.int IntKind.i64, Sh.str] (rx0 ++ [[V.str (Prod.fst (N.rText { s := sx0, at' := ix0, code := ix0_1 : RIn } (16 : Int))), V.int IntKind.u8 (IntKind.wrap IntKind.u8 (Prod.fst (N.rNum (Prod.snd (N.rText { s := sx0, at' := ix0, code := ix0_1 : RIn } (16 : Int))) (1 : Int)))), V.int IntKind.i64 (0 : Int), V.str (Prod.fst (N.rText (Prod.snd (N.rNum (Prod.snd (N.rText { s := sx0, at' := ix0, code := ix0_1 : RIn } (16 : Int))) (1 : Int))) (64 : Int)))]]) (0 : Nat))] : St }) (none))) (none)) (cond (IntKind.wrap IntKind.u8 (Prod.fst (N.rNum (Prod.snd (N.rText { s := sx0, at' := ix0, code := ix0_1 : RIn } (16 : Int))) (1 : Int))) == (2 : Int)) (cond (N.goodR (Prod.snd (N.rNum (Prod.snd (N.rText { s := sx0, at' := ix0, code := ix0_1 : RIn } (16 : Int))) (1 : Int)))) (cond (RIn.code (Prod.snd (N.rNum (Prod.snd (N.rNum (Prod.snd (N.rText { s := sx0, at' := ix0, code := ix0_1 : RIn } (16 : Int))) (1 : Int))) (1 : Int))) == (0 : Int)) (cond (Nat.ble (List.length (List.map (fun r => { key := V.toStr (List.getD r (0 : Nat) V.undef), kind := V.toInt (List.getD r (1 : Nat) V.undef), num := V.toInt (List.getD r (2 : Nat) V.undef), text := V.toStr (List.getD r (3 : Nat) V.undef) : HPair }) rx0)) (1000000 : Nat)) (cond (decide ((List.length rx0 + (1 : Nat)) * (48 : Nat) ≤ (140737488355328 : Nat))) (K Ex.normal { fr := [((0 : Nat), V.ptr (0 : Nat) (0 : Nat) (0 : Nat) (0 : Nat)), ((3 : Nat), V.int IntKind.i64 i3), ((4 : Nat), V.own (10000 : Nat) (0 : Nat)), ((5 : Nat), V.int IntKind.i64 (IntKind.wrap IntKind.i64 (i5 + (1 : Int))))], tab := [((0 : Nat), Box.var [V.str (RIn.s (N.rFail (Prod.snd (N.rNum (Prod.snd (N.rNum (Prod.snd (N.rText { s := sx0, at' := ix0, code := ix0_1 : RIn } (16 : Int))) (1 : Int))) (1 : Int))) (N.pairE { key := Prod.fst (N.rText { s := sx0, at' := ix0, code := ix0_1 : RIn } (16 : Int)), kind := IntKind.wrap IntKind.u8 (Prod.fst (N.rNum (Prod.snd (N.rText { s := sx0, at' := ix0, code := ix0_1 : RIn } (16 : Int))) (1 : Int))), num := IntKind.wrap IntKind.i64 (Prod.fst (N.rNum (Prod.snd (N.rNum (Prod.snd (N.rText { s := sx0, at' := ix0, code := ix0_1 : RIn } (16 : Int))) (1 : Int))) (1 : Int))), text := [] : HPair } (List.map (fun r => { key := V.toStr (List.getD r (0 : Nat) V.undef), kind := V.toInt (List.getD r (1 : Nat) V.undef), num := V.toInt (List.getD r (2 : Nat) V.undef), text := V.toStr (List.getD r (3 : Nat) V.undef) : HPair }) rx0)))), V.int IntKind.i64 (RIn.at' (N.rFail (Prod.snd (N.rNum (Prod.snd (N.rNum (Prod.snd (N.rText { s := sx0, at' := ix0, code := ix0_1 : RIn } (16 : Int))) (1 : Int))) (1 : Int))) (N.pairE { key := Prod.fst (N.rText { s := sx0, at' := ix0, code := ix0_1 : RIn } (16 : Int)), kind := IntKind.wrap IntKind.u8 (Prod.fst (N.rNum (Prod.snd (N.rText { s := sx0, at' := ix0, code := ix0_1 : RIn } (16 : Int))) (1 : Int))), num := IntKind.wrap IntKind.i64 (Prod.fst (N.rNum (Prod.snd (N.rNum (Prod.snd (N.rText { s := sx0, at' := ix0, code := ix0_1 : RIn } (16 : Int))) (1 : Int))) (1 : Int))), text := [] : HPair } (List.map (fun r => { key := V.toStr (List.getD r (0 : Nat) V.undef), kind := V.toInt (List.getD r (1 : Nat) V.undef), num := V.toInt (List.getD r (2 : Nat) V.undef), text := V.toStr (List.getD r (3 : Nat) V.undef) : HPair }) rx0)))), V.int IntKind.i64 (RIn.code (N.rFail (Prod.snd (N.rNum (Prod.snd (N.rNum (Prod.snd (N.rText { s := sx0, at' := ix0, code := ix0_1 : RIn } (16 : Int))) (1 : Int))) (1 : Int))) (N.pairE { key := Prod.fst (N.rText { s := sx0, at' := ix0, code := ix0_1 : RIn } (16 : Int)), kind := IntKind.wrap IntKind.u8 (Prod.fst (N.rNum (Prod.snd (N.rText { s := sx0, at' := ix0, code := ix0_1 : RIn } (16 : Int))) (1 : Int))), num := IntKind.wrap IntKind.i64 (Prod.fst (N.rNum (Prod.snd (N.rNum (Prod.snd (N.rText { s := sx0, at' := ix0, code := ix0_1 : RIn } (16 : Int))) (1 : Int))) (1 : Int))), text := [] : HPair } (List.map (fun r => { key := V.toStr (List.getD r (0 : Nat) V.undef), kind := V.toInt (List.getD r (1 : Nat) V.undef), num := V.toInt (List.getD r (2 : Nat) V.undef), text := V.toStr (List.getD r (3 : Nat) V.undef) : HPair }) rx0))))]), ((10000 : Nat), Box.sl [Sh.str, Sh.int IntKind.u8, Sh.int IntKind.i64, Sh.str] (rx0 ++ [[V.str (Prod.fst (N.rText { s := sx0, at' := ix0, code := ix0_1 : RIn } (16 : Int))), V.int IntKind.u8 (IntKind.wrap IntKind.u8 (Prod.fst (N.rNum (Prod.snd (N.rText { s := sx0, at' := ix0, code := ix0_1 : RIn } (16 : Int))) (1 : Int)))), V.int IntKind.i64 (IntKind.wrap IntKind.i64 (Prod.fst (N.rNum (Prod.snd (N.rNum (Prod.snd (N.rText { s := sx0, at' := ix0, code := ix0_1 : RIn } (16 : Int))) (1 : Int))) (1 : Int)))), V.str []]]) (0 : Nat))] : St }) (none)) (none)) (cond (decide ((List.length rx0 + (1 : Nat)) * (48 : Nat) ≤ (140737488355328 : Nat))) (K Ex.normal { fr := [((0 : Nat), V.ptr (0 : Nat) (0 : Nat) (0 : Nat) (0 : Nat)), ((3 : Nat), V.int IntKind.i64 i3), ((4 : Nat), V.own (10000 : Nat) (0 : Nat)), ((5 : Nat), V.int IntKind.i64 (IntKind.wrap IntKind.i64 (i5 + (1 : Int))))], tab := [((0 : Nat), Box.var [V.str (RIn.s (Prod.snd (N.rNum (Prod.snd (N.rNum (Prod.snd (N.rText { s := sx0, at' := ix0, code := ix0_1 : RIn } (16 : Int))) (1 : Int))) (1 : Int)))), V.int IntKind.i64 (RIn.at' (Prod.snd (N.rNum (Prod.snd (N.rNum (Prod.snd (N.rText { s := sx0, at' := ix0, code := ix0_1 : RIn } (16 : Int))) (1 : Int))) (1 : Int)))), V.int IntKind.i64 (RIn.code (Prod.snd (N.rNum (Prod.snd (N.rNum (Prod.snd (N.rText { s := sx0, at' := ix0, code := ix0_1 : RIn } (16 : Int))) (1 : Int))) (1 : Int))))]), ((10000 : Nat), Box.sl [Sh.str, Sh.int IntKind.u8, Sh.int IntKind.i64, Sh.str] (rx0 ++ [[V.str (Prod.fst (N.rText { s := sx0, at' := ix0, code := ix0_1 : RIn } (16 : Int))), V.int IntKind.u8 (IntKind.wrap IntKind.u8 (Prod.fst (N.rNum (Prod.snd (N.rText { s := sx0, at' := ix0, code := ix0_1 : RIn } (16 : Int))) (1 : Int)))), V.int IntKind.i64 (IntKind.wrap IntKind.i64 (Prod.fst (N.rNum (Prod.snd (N.rNum (Prod.snd (N.rText { s := sx0, at' := ix0, code := ix0_1 : RIn } (16 : Int))) (1 : Int))) (1 : Int)))), V.str []]]) (0 : Nat))] : St }) (none))) (none)) (cond (RIn.code (N.rFail (Prod.snd (N.rNum (Prod.snd (N.rText { s := sx0, at' := ix0, code := ix0_1 : RIn } (16 : Int))) (1 : Int))) (8 : Int)) == (0 : Int)) (cond (Nat.ble (List.length (List.map (fun r => { key := V.toStr (List.getD r (0 : Nat) V.undef), kind := V.toInt (List.getD r (1 : Nat) V.undef), num := V.toInt (List.getD r (2 : Nat) V.undef), text := V.toStr (List.getD r (3 : Nat) V.undef) : HPair }) rx0)) (1000000 : Nat)) (cond (decide ((List.length rx0 + (1 : Nat)) * (48 : Nat) ≤ (140737488355328 : Nat))) (K Ex.normal { fr := [((0 : Nat), V.ptr (0 : Nat) (0 : Nat) (0 : Nat) (0 : Nat)), ((3 : Nat), V.int IntKind.i64 i3), ((4 : Nat), V.own (10000 : Nat) (0 : Nat)), ((5 : Nat), V.int IntKind.i64 (IntKind.wrap IntKind.i64 (i5 + (1 : Int))))], tab := [((0 : Nat), Box.var [V.str (RIn.s (N.rFail (N.rFail (Prod.snd (N.rNum (Prod.snd (N.rText { s := sx0, at' := ix0, code := ix0_1 : RIn } (16 : Int))) (1 : Int))) (8 : Int)) (N.pairE { key := Prod.fst (N.rText { s := sx0, at' := ix0, code := ix0_1 : RIn } (16 : Int)), kind := IntKind.wrap IntKind.u8 (Prod.fst (N.rNum (Prod.snd (N.rText { s := sx0, at' := ix0, code := ix0_1 : RIn } (16 : Int))) (1 : Int))), num := (0 : Int), text := [] : HPair } (List.map (fun r => { key := V.toStr (List.getD r (0 : Nat) V.undef), kind := V.toInt (List.getD r (1 : Nat) V.undef), num := V.toInt (List.getD r (2 : Nat) V.undef), text := V.toStr (List.getD r (3 : Nat) V.undef) : HPair }) rx0)))), V.int IntKind.i64 (RIn.at' (N.rFail (N.rFail (Prod.snd (N.rNum (Prod.snd (N.rText { s := sx0, at' := ix0, code := ix0_1 : RIn } (16 : Int))) (1 : Int))) (8 : Int)) (N.pairE { key := Prod.fst (N.rText { s := sx0, at' := ix0, code := ix0_1 : RIn } (16 : Int)), kind := IntKind.wrap IntKind.u8 (Prod.fst (N.rNum (Prod.snd (N.rText { s := sx0, at' := ix0, code := ix0_1 : RIn } (16 : Int))) (1 : Int))), num := (0 : Int), text := [] : HPair } (List.map (fun r => { key := V.toStr (List.getD r (0 : Nat) V.undef), kind := V.toInt (List.getD r (1 : Nat) V.undef), num := V.toInt (List.getD r (2 : Nat) V.undef), text := V.toStr (List.getD r (3 : Nat) V.undef) : HPair }) rx0)))), V.int IntKind.i64 (RIn.code (N.rFail (N.rFail (Prod.snd (N.rNum (Prod.snd (N.rText { s := sx0, at' := ix0, code := ix0_1 : RIn } (16 : Int))) (1 : Int))) (8 : Int)) (N.pairE { key := Prod.fst (N.rText { s := sx0, at' := ix0, code := ix0_1 : RIn } (16 : Int)), kind := IntKind.wrap IntKind.u8 (Prod.fst (N.rNum (Prod.snd (N.rText { s := sx0, at' := ix0, code := ix0_1 : RIn } (16 : Int))) (1 : Int))), num := (0 : Int), text := [] : HPair } (List.map (fun r => { key := V.toStr (List.getD r (0 : Nat) V.undef), kind := V.toInt (List.getD r (1 : Nat) V.undef), num := V.toInt (List.getD r (2 : Nat) V.undef), text := V.toStr (List.getD r (3 : Nat) V.undef) : HPair }) rx0))))]), ((10000 : Nat), Box.sl [Sh.str, Sh.int IntKind.u8, Sh.int IntKind.i64, Sh.str] (rx0 ++ [[V.str (Prod.fst (N.rText { s := sx0, at' := ix0, code := ix0_1 : RIn } (16 : Int))), V.int IntKind.u8 (IntKind.wrap IntKind.u8 (Prod.fst (N.rNum (Prod.snd (N.rText { s := sx0, at' := ix0, code := ix0_1 : RIn } (16 : Int))) (1 : Int)))), V.int IntKind.i64 (0 : Int), V.str []]]) (0 : Nat))] : St }) (none)) (none)) (cond (decide ((List.length rx0 + (1 : Nat)) * (48 : Nat) ≤ (140737488355328 : Nat))) (K Ex.normal { fr := [((0 : Nat), V.ptr (0 : Nat) (0 : Nat) (0 : Nat) (0 : Nat)), ((3 : Nat), V.int IntKind.i64 i3), ((4 : Nat), V.own (10000 : Nat) (0 : Nat)), ((5 : Nat), V.int IntKind.i64 (IntKind.wrap IntKind.i64 (i5 + (1 : Int))))], tab := [((0 : Nat), Box.var [V.str (RIn.s (N.rFail (Prod.snd (N.rNum (Prod.snd (N.rText { s := sx0, at' := ix0, code := ix0_1 : RIn } (16 : Int))) (1 : Int))) (8 : Int))), V.int IntKind.i64 (RIn.at' (N.rFail (Prod.snd (N.rNum (Prod.snd (N.rText { s := sx0, at' := ix0, code := ix0_1 : RIn } (16 : Int))) (1 : Int))) (8 : Int))), V.int IntKind.i64 (RIn.code (N.rFail (Prod.snd (N.rNum (Prod.snd (N.rText { s := sx0, at' := ix0, code := ix0_1 : RIn } (16 : Int))) (1 : Int))) (8 : Int)))]), ((10000 : Nat), Box.sl [Sh.str, Sh.int IntKind.u8, Sh.int IntKind.i64, Sh.str] (rx0 ++ [[V.str (Prod.fst (N.rText { s := sx0, at' := ix0, code := ix0_1 : RIn } (16 : Int))), V.int IntKind.u8 (IntKind.wrap IntKind.u8 (Prod.fst (N.rNum (Prod.snd (N.rText { s := sx0, at' := ix0, code := ix0_1 : RIn } (16 : Int))) (1 : Int)))), V.int IntKind.i64 (0 : Int), V.str []]]) (0 : Nat))] : St }) (none)))))) (none)) (none)) (K (Ex.exit (0 : Nat)) { fr := [((0 : Nat), V.ptr (0 : Nat) (0 : Nat) (0 : Nat) (0 : Nat)), ((4 : Nat), V.own (10000 : Nat) (0 : Nat))], tab := [((0 : Nat), Box.var [V.str sx0, V.int IntKind.i64 ix0, V.int IntKind.i64 ix0_1]), ((10000 : Nat), Box.sl [Sh.str, Sh.int IntKind.u8, Sh.int IntKind.i64, Sh.str] rx0 (0 : Nat))] : St })) (K (Ex.exit (0 : Nat)) { fr := [((0 : Nat), V.ptr (0 : Nat) (0 : Nat) (0 : Nat) (0 : Nat)), ((4 : Nat), V.own (10000 : Nat) (0 : Nat))], tab := [((0 : Nat), Box.var [V.str sx0, V.int IntKind.i64 ix0, V.int IntKind.i64 ix0_1]), ((10000 : Nat), Box.sl [Sh.str, Sh.int IntKind.u8, Sh.int IntKind.i64, Sh.str] rx0 (0 : Nat))] : St }) := by kernel_rfl
theorem rhl_enc : ∀ (k : Nat) (q : RIn) (l : List HPair), N.rhl k q (l.map cPair.enc) = ((N.rReadFrom k q l).1.map cPair.enc, (N.rReadFrom k q l).2)
  | 0, _, _ => rfl
  | k + 1, q, l => by
    unfold N.rhl N.rReadFrom
    rw [rowsP_enc]
    cases q.code == 0 with
    | false => rfl
    | true =>
      have := rhl_enc k (N.rBad (N.rOne q).1 l (N.rOne q).2) (l ++ [(N.rOne q).1])
      rw [List.map_append] at this
      exact this
theorem rNum1 {q : RIn} (h : N.goodR q = true) : 0 ≤ (N.rNum q 1).1 ∧ (N.rNum q 1).1 < 256 := by
  rw [← (rl_num (good_rl h).1 1).1]; exact inNum1 _
theorem ok_rHead : FnOk Tryd.prog 71 dRHead := by
  refine den_okF (env_ok (((((TOk.nil _).cons ok_refPair).cons ok_rText).cons ok_rFail).cons ok_rNum)) (E := eRHead) Tryd.func71 [6] (by kernel_rfl) (one1 (rounds_of rfl fun l K q h => ?_)) fun _ q h => ?_
  · unfold gRHead at h
    split at h
    · rename_i n j s a c rows
      have h1 := (cond_none h).1; replace h := (cond_none h).2; have h2 := (cond_none h).1; replace h := (cond_none h).2; have h3 := (cond_none h).1; replace h := (cond_none h).2; have h4 := (cond_none h).1; replace h := (cond_none h).2
      have h2 := ile_of h2
      have h3 : rows.length + (n - j).toNat ≤ 1000000 := ble_of h3
      refine loop_ind (E := eRHead) (f := 71) (id := 6) (σ := Int × RIn × List (List V)) (fun x => { fr := [(0, .ptr 0 0 0 0), (3, .int .i64 n), (4, .own 10000 0), (5, .int .i64 x.1)], tab := [(0, .var [.str x.2.1.s, .int .i64 x.2.1.at', .int .i64 x.2.1.code]), (10000, .sl [.str, .int .u8, .int .i64, .str] x.2.2 0)] })
        (fun x => 0 ≤ x.1 ∧ x.2.2.length + (n - x.1).toNat ≤ 1000000 ∧ N.goodR x.2.1 = true) (fun x => (n - x.1).toNat)
        (fun x K => K (.exit 0) { fr := [(0, .ptr 0 0 0 0), (4, .own 10000 0)], tab := [(0, .var [.str (N.rhl (n - x.1).toNat x.2.1 x.2.2).2.s, .int .i64 (N.rhl (n - x.1).toNat x.2.1 x.2.2).2.at', .int .i64 (N.rhl (n - x.1).toNat x.2.1 x.2.2).2.code]), (10000, .sl [.str, .int .u8, .int .i64, .str] (N.rhl (n - x.1).toNat x.2.1 x.2.2).1 0)] }) ?_ (j, ⟨s, a, c⟩, rows) ⟨ile_of h1, h3, h4⟩ K q (by assumption)
      rintro ⟨j, ⟨s, a, c⟩, rows⟩ ⟨hj, hr, h0⟩
      simp only at hj hr h0 ⊢
      by_cases hl : j < n
      · rw [show (n - j).toNat = (n - (j + 1)).toNat + 1 by omega]
        have h1 := good_text h0 16
        have h2 := good_num h1 1
        cases hz : c == 0 with
        | true =>
          refine .inl ⟨(j + 1, N.rBad (N.rOne ⟨s, a, c⟩).1 (rowsP rows) (N.rOne ⟨s, a, c⟩).2, rows ++ [cPair.enc (N.rOne ⟨s, a, c⟩).1]), ⟨by simp only; omega, by simp only [List.length_append, List.length_cons, List.length_nil]; omega, good_bad (good_one h0) _ _⟩, by simp only; omega, fun K => ?_, fun K => ?_⟩
          · rw [q_rHeadR]
            unfold N.rBad N.rOne N.rOneOf rowsP rowP
            simp (disch := omega) only [evs, h0, h1, h2, hz]
            generalize (N.rText ⟨s, a, c⟩ 16).1 = key
            generalize hq : (N.rNum (N.rText ⟨s, a, c⟩ 16).2 1) = kq at *
            obtain ⟨x, q⟩ := kq
            simp only
            generalize IntKind.wrap .u8 x = kind
            cases kind == 0 with
            | true => cases hc : (N.rNum q 8).2.code == 0 <;> simp only [cond_true, cond_false, hc] <;> rfl
            | false =>
              cases kind == 1 with
              | true => cases hc : (N.rText q 64).2.code == 0 <;> simp only [cond_true, cond_false, hc] <;> rfl
              | false =>
                cases kind == 2 with
                | true => cases hc : (N.rNum q 1).2.code == 0 <;> simp only [cond_true, cond_false, hc] <;> rfl
                | false => cases hc : (N.rFail q 8).code == 0 <;> simp only [cond_true, cond_false, hc] <;> rfl
          · simp only [N.rhl, hz, cond_true]
        | false =>
          refine .inr ⟨.exit 0, { fr := [(0, .ptr 0 0 0 0), (4, .own 10000 0)], tab := [(0, .var [.str s, .int .i64 a, .int .i64 c]), (10000, .sl [.str, .int .u8, .int .i64, .str] rows 0)] }, by simp, fun K => ?_, fun K => ?_⟩
          · rw [q_rHeadR]
            simp (disch := omega) only [evs, hz]
          · simp only [N.rhl, hz, cond_false]
      · refine .inr ⟨.exit 0, { fr := [(0, .ptr 0 0 0 0), (4, .own 10000 0)], tab := [(0, .var [.str s, .int .i64 a, .int .i64 c]), (10000, .sl [.str, .int .u8, .int .i64, .str] rows 0)] }, by simp, fun K => ?_, fun K => ?_⟩
        · rw [q_rHeadR]
          simp (disch := omega) only [evs]
        · rw [show (n - j).toNat = 0 by omega]; rfl
    · cases h
  · refine (q_rHead q).trans ?_
    have h : N.goodR q = true := h
    obtain ⟨b1, b2⟩ := rNum1 h
    have g1 := good_num h 1
    have g2 := good_fail g1 6
    have w : IntKind.wrap .i64 (N.rNum q 1).1 = (N.rNum q 1).1 := wrap_i64 (by omega) (by omega)
    show _ = some (⟨.slc [.str, .int .u8, .int .i64, .str] ((N.rHead q).1.map cPair.enc), [[.str (N.rHead q).2.s, .int .i64 (N.rHead q).2.at', .int .i64 (N.rHead q).2.code]], []⟩ : DRes)
    unfold N.rHead N.rRead
    rw [w]
    simp (disch := omega) only [evs, Int.sub_zero, Nat.zero_add, h, g1, g2]
    cases ilt 8 (N.rNum q 1).1 with
    | true =>
      have e1 := rhl_enc (N.rNum q 1).1.toNat (N.rFail (N.rNum q 1).2 6) []
      rw [List.map_nil] at e1
      rw [e1]
      simp only [cond_true]
      cases (N.rReadFrom (N.rNum q 1).1.toNat (N.rFail (N.rNum q 1).2 6) []).2.code != 0 <;> rfl
    | false =>
      have e1 := rhl_enc (N.rNum q 1).1.toNat (N.rNum q 1).2 []
      rw [List.map_nil] at e1
      rw [e1]
      simp only [cond_false]
      cases (N.rReadFrom (N.rNum q 1).1.toNat (N.rNum q 1).2 []).2.code != 0 <;> rfl
end Go.Ev

/- What the statement on same heads reckons: lemmas; the function that writes numbers is a premise. -/
namespace Go.Ev
open Go Go.Proofs
set_option maxRecDepth 100000

noncomputable def eAw4' : Env := env Tryd.prog [(83, dTrueW)] [] []
theorem q_aw4'  : evFn eAw4' 47 [] [] some =
 some { v := V.bool true, bx := [] : DRes } := by kernel_rfl
theorem ok_aw4' : FnOk Tryd.prog 47 dTrue := den_okF (env_ok ((TOk.nil _).cons ok_awW)) (E := eAw4') Tryd.func47 [] (by kernel_rfl) none0 fun _ _ _ => q_aw4'
noncomputable def eAw9 : Env := env Tryd.prog [(74, dHeadBytes), (96, dTrue), (47, dTrue)] [] []
theorem q_aw9  : evFn eAw9 84 [] [] some =
 some { v := V.bool true, bx := [] : DRes } := by kernel_rfl
theorem ok_aw9 (hN : FnOk Tryd.prog 75 dOutNum) : FnOk Tryd.prog 84 dTrue :=
  den_okF (env_ok ((((TOk.nil _).cons ok_aw4').cons (ok_aw1' hN)).cons (ok_headBytes hN))) (E := eAw9) Tryd.func84 [] (by kernel_rfl) none0 fun _ _ _ => q_aw9
noncomputable def eHSame : Env := env Tryd.prog [(62, dSameP)] [] []
theorem q_hsame (a b : List HPair) : evFn eHSame 60 ((aCons (vSl cPair) (aOne (vSl cPair))).enc (a, b)) ([]) some =
 cond (Nat.ble (List.length (List.map (fun r => { key := V.toStr (List.getD r (0 : Nat) V.undef), kind := V.toInt (List.getD r (1 : Nat) V.undef), num := V.toInt (List.getD r (2 : Nat) V.undef), text := V.toStr (List.getD r (3 : Nat) V.undef) : HPair }) (List.map (fun p => [V.str (HPair.key p), V.int IntKind.u8 (HPair.kind p), V.int IntKind.i64 (HPair.num p), V.str (HPair.text p)]) a))) (1000000 : Nat)) (some { v := V.bool (N.samePs (List.map (fun r => { key := V.toStr (List.getD r (0 : Nat) V.undef), kind := V.toInt (List.getD r (1 : Nat) V.undef), num := V.toInt (List.getD r (2 : Nat) V.undef), text := V.toStr (List.getD r (3 : Nat) V.undef) : HPair }) (List.map (fun p => [V.str (HPair.key p), V.int IntKind.u8 (HPair.kind p), V.int IntKind.i64 (HPair.num p), V.str (HPair.text p)]) a)) (List.map (fun r => { key := V.toStr (List.getD r (0 : Nat) V.undef), kind := V.toInt (List.getD r (1 : Nat) V.undef), num := V.toInt (List.getD r (2 : Nat) V.undef), text := V.toStr (List.getD r (3 : Nat) V.undef) : HPair }) (List.map (fun p => [V.str (HPair.key p), V.int IntKind.u8 (HPair.kind p), V.int IntKind.i64 (HPair.num p), V.str (HPair.text p)]) b))), bx := [] : DRes }) (none) := by kernel_rfl
theorem ok_hsame : FnOk Tryd.prog 60 dSameP := by
  refine den_okF (env_ok ((TOk.nil _).cons ok_eqP)) (E := eHSame) Tryd.func60 [] (by kernel_rfl) none0 fun a _ h => ?_
  obtain ⟨a, b⟩ := a
  have h : a.length ≤ 1000000 := ble_of h
  refine (q_hsame a b).trans ?_
  show _ = some (⟨.bool (N.samePs a b), [], []⟩ : DRes)
  simp (disch := omega) only [evs, pairs_enc]
noncomputable def eLHS : Env := env Tryd.prog [(84, dTrue), (13, dLight), (60, dSameP), (61, dSameP)] [] []
theorem light_small {h : List HPair} (hl : N.light h = true) : h.length ≤ 12 := by
  unfold N.light at hl
  cases e : ilt 12 h.length with
  | true => rw [e] at hl; cases hl
  | false => have := ilt_nof e; omega
end Go.Ev

/- What was written is read again: lemmas on the plain functions. -/
namespace Go.Ev
open Go

theorem numB_succ : ∀ (k : Nat) (n : Int), N.numB n (k + 1) = N.numB (n / 256) k ++ [UInt8.ofNat (n % 256).toNat]
  | 0, n => by
    show [UInt8.ofNat ((n / 2 ^ (8 * 0)) % 256).toNat] = [] ++ [UInt8.ofNat (n % 256).toNat]
    rw [show (2 : Int) ^ (8 * 0) = 1 from rfl, Int.ediv_one]; rfl
  | k + 1, n => by
    show UInt8.ofNat ((n / 2 ^ (8 * (k + 1))) % 256).toNat :: N.numB n (k + 1) = (UInt8.ofNat ((n / 256 / 2 ^ (8 * k)) % 256).toNat :: N.numB (n / 256) k) ++ [UInt8.ofNat (n % 256).toNat]
    rw [numB_succ k n, Int.ediv_ediv_of_nonneg (by decide), show (256 : Int) * 2 ^ (8 * k) = 2 ^ (8 * (k + 1)) by rw [show 8 * (k + 1) = 8 + 8 * k by omega, Int.pow_add]; rfl]
    rfl
theorem be_app : ∀ (l m : Bytes) (n : Int), N.be (l ++ m) n = N.be m (N.be l n)
  | [], _, _ => rfl
  | _ :: l, m, _ => be_app l m _
theorem ofNat_byte (n : Int) : ((UInt8.ofNat (n % 256).toNat).toNat : Int) = n % 256 := by
  have : (n % 256).toNat < 256 := by omega
  rw [UInt8.toNat_ofNat', Nat.mod_eq_of_lt this]; omega
theorem be_numB : ∀ (k : Nat) (n : Int), 0 ≤ n → n < 256 ^ k → N.be (N.numB n k) 0 = n
  | 0, n, h0, h => by
    have : n = 0 := by rw [Int.pow_zero] at h; omega
    rw [this]; rfl
  | k + 1, n, h0, h => by
    rw [Int.pow_succ] at h
    rw [numB_succ, be_app, be_numB k (n / 256) (by omega) (by omega)]
    show n / 256 * 256 + ((UInt8.ofNat (n % 256).toNat).toNat : Int) = n
    rw [ofNat_byte]; omega
theorem raw_app (x r : Bytes) : N.inRaw ⟨x ++ r, 0⟩ x.length = (x, ⟨r, 0⟩) := by
  unfold N.inRaw
  cases x with
  | nil => rfl
  | cons c x =>
    have h1 : ile ((c :: x).length : Int) 0 = false := ile_f (by simp only [List.length_cons]; omega)
    have h2 : ilt (((c :: x ++ r).length : Nat) : Int) ((c :: x).length : Int) = false := ilt_f (by rw [List.length_append]; omega)
    simp only [h1, h2, cond_false, show ((0 : Int) != 0) = false from rfl, Int.toNat_natCast, List.take_left, List.drop_left]
theorem num_app (k : Nat) (hk : k ≤ 8) (n : Int) (h0 : 0 ≤ n) (h : n < 256 ^ k) (r : Bytes) : N.inNum ⟨N.numB n k ++ r, 0⟩ k = (n, ⟨r, 0⟩) := by
  unfold N.inNum
  have e : (cond (ilt 8 (k : Int)) (8 : Int) k) = ((N.numB n k).length : Int) := by rw [ilt_f (by omega), numB_len]; rfl
  rw [e, raw_app]
  show (N.be (N.numB n k) 0, _) = _
  rw [be_numB k n h0 h]
theorem text_app (s : Bytes) (m : Int) (hs : s.length ≤ m) (hm : m ≤ 65535) (r : Bytes) : N.inText ⟨N.textB s ++ r, 0⟩ m = (s, ⟨r, 0⟩) := by
  unfold N.inText N.textB
  rw [List.append_assoc]
  have e := num_app 2 (by decide) s.length (by omega) (by show (s.length : Int) < 65536; omega) (s ++ r)
  have e' : N.inNum ⟨N.numB s.length 2 ++ (s ++ r), 0⟩ 2 = ((s.length : Int), ⟨s ++ r, 0⟩) := e
  rw [e']
  show N.inRaw (cond (ilt m (IntKind.wrap .i64 s.length)) _ _) (IntKind.wrap .i64 s.length) = _
  rw [wrap_i64 (n := (s.length : Int)) (by omega) (by omega), ilt_f hs]
  exact raw_app s r
/-- What a value of the pairs' type is. -/
def PairOk (p : HPair) : Prop := 0 ≤ p.kind ∧ p.kind < 256 ∧ -9223372036854775808 ≤ p.num ∧ p.num ≤ 9223372036854775807
theorem wrap_back {n : Int} (h1 : -9223372036854775808 ≤ n) (h2 : n ≤ 9223372036854775807) : IntKind.wrap .i64 (IntKind.wrap .u64 n) = n := by
  simp only [IntKind.wrap, IntKind.signed, IntKind.bits]
  simp
  omega
theorem pairE_zero {p : HPair} {l : List HPair} (h : N.pairE p l = 0) : p.key.length ≤ 16 ∧ p.kind ≤ 2 ∧ (p.kind = 1 → p.text.length ≤ 64 ∧ p.num = 0) ∧ (p.kind = 2 → (p.num = 0 ∨ p.num = 1)) ∧ (p.kind ≠ 1 → p.text = []) := by
  unfold N.pairE at h
  cases h1 : N.name p.key == 0 with
  | false =>
    rw [bne, h1] at h
    simp only [Bool.not_false, cond_true] at h
    rw [h] at h1; cases h1
  | true =>
    rw [bne, h1] at h
    simp only [Bool.not_true, cond_false] at h
    have hk : p.key.length ≤ 16 := by
      unfold N.name at h1
      cases e1 : p.key == [] with
      | true => rw [e1] at h1; cases h1
      | false =>
        rw [e1] at h1
        cases e2 : ilt 16 p.key.length with
        | true => rw [e2] at h1; cases h1
        | false => have := ilt_nof e2; omega
    cases h2 : ilt 2 p.kind with
    | true => rw [h2] at h; cases h
    | false =>
      rw [h2] at h
      have h2 := ilt_nof h2
      simp only [cond_false] at h
      by_cases k1 : p.kind = 1
      · simp only [k1, beq_self_eq_true, cond_true, bne, show ((1 : Int) == 2) = false from rfl, cond_false, Bool.not_true] at h
        cases h3 : ilt 64 p.text.length with
        | true => rw [h3] at h; cases h
        | false =>
          rw [h3] at h
          have h3 := ilt_nof h3
          cases h4 : p.num == 0 with
          | false => rw [h4] at h; cases h
          | true => exact ⟨hk, by omega, fun _ => ⟨by omega, by simpa using h4⟩, fun e => by omega, fun e => absurd k1 e⟩
      · have e1 : (p.kind == 1) = false := by simpa using k1
        simp only [e1, cond_false, bne, Bool.not_false, cond_true] at h
        have ht : p.text = [] := by
          cases h4 : p.text == [] with
          | true => simpa using h4
          | false =>
            rw [h4] at h
            revert h
            cases (cond (cond (p.kind == 2) (!p.num == 0) false) (!p.num == 1) false) <;> intro h <;> cases h
        refine ⟨hk, by omega, fun e => absurd e k1, fun e => ?_, fun _ => ht⟩
        simp only [e, beq_self_eq_true, cond_true] at h
        by_cases z : p.num = 0
        · exact .inl z
        · by_cases o : p.num = 1
          · exact .inr o
          · rw [show (p.num == 0) = false by simpa using z, show (p.num == 1) = false by simpa using o] at h
            cases h
theorem one_app {p : HPair} {l : List HPair} (ho : PairOk p) (h : N.pairE p l = 0) (r : Bytes) : N.one ⟨N.pairB p ++ r, 0⟩ = (p, ⟨r, 0⟩) := by
  obtain ⟨hk, h2, ht, hn, hx⟩ := pairE_zero h
  obtain ⟨o1, o2, o3, o4⟩ := ho
  have hw : IntKind.wrap .u64 p.kind = p.kind := wrap_u64 o1 (by omega)
  unfold N.one N.pairB
  rw [hw, List.append_assoc, List.append_assoc, text_app p.key 16 (by omega) (by decide)]
  show N.oneOf p.key (IntKind.wrap .u8 (N.inNum ⟨N.numB p.kind 1 ++ _, 0⟩ 1).1) (N.inNum ⟨N.numB p.kind 1 ++ _, 0⟩ 1).2 = _
  have e : ∀ x : Bytes, N.inNum ⟨N.numB p.kind 1 ++ x, 0⟩ 1 = (p.kind, ⟨x, 0⟩) := fun x => num_app 1 (by decide) p.kind o1 (by show p.kind < 256; omega) x
  rw [e]
  have hw8 : IntKind.wrap .u8 p.kind = p.kind := by simp only [IntKind.wrap, IntKind.signed, IntKind.bits]; simp; omega
  show N.oneOf p.key (IntKind.wrap .u8 p.kind) ⟨_, 0⟩ = _
  rw [hw8]
  unfold N.oneOf
  rcases (by omega : p.kind = 0 ∨ p.kind = 1 ∨ p.kind = 2) with k | k | k
  · have u := wu64 p.num
    have e8 : N.inNum ⟨N.numB (IntKind.wrap .u64 p.num) 8 ++ r, 0⟩ 8 = (IntKind.wrap .u64 p.num, ⟨r, 0⟩) := num_app 8 (by decide) _ u.1 (by show _ < (18446744073709551616 : Int); exact u.2) r
    have hx := hx (by omega)
    simp only [k, beq_self_eq_true, cond_true, e8, wrap_back o3 o4]
    cases p; simp_all
  · obtain ⟨t1, t2⟩ := ht k
    simp only [k, show ((1 : Int) == 0) = false from rfl, beq_self_eq_true, cond_true, cond_false, text_app p.text 64 (by omega) (by decide)]
    cases p; simp_all
  · have hx := hx (by omega)
    have hn := hn k
    have hwn : IntKind.wrap .u64 p.num = p.num := wrap_u64 (by omega) (by omega)
    have e1 : N.inNum ⟨N.numB p.num 1 ++ r, 0⟩ 1 = (p.num, ⟨r, 0⟩) := num_app 1 (by decide) _ (by omega) (by show p.num < 256; omega) r
    simp only [k, show ((2 : Int) == 0) = false from rfl, show ((2 : Int) == 1) = false from rfl, beq_self_eq_true, cond_true, cond_false, hwn, e1, wrap_i64 o3 o4]
    cases p; simp_all
theorem checkFrom_all (h : List HPair) : ∀ (f : Nat) (i : Int), 0 ≤ i → N.checkFrom h f i = 0 → ∀ j : Nat, i ≤ j → (j : Int) < i + f → N.pairE (h.getD j pair0) (h.take j) = 0
  | 0, i, _, _, j, h1, h2 => by omega
  | f + 1, i, h0, hc, j, h1, h2 => by
    unfold N.checkFrom at hc
    cases e : N.pairE (h.getD i.toNat pair0) (h.take i.toNat) != 0 with
    | true => rw [e, cond_true] at hc; rw [hc] at e; cases e
    | false =>
      rw [e] at hc
      by_cases hj : (j : Int) = i
      · have : j = i.toNat := by omega
        rw [this]; simpa using e
      · exact checkFrom_all h f (i + 1) (by omega) hc j (by omega) (by omega)
theorem from_app (h : List HPair) (ho : ∀ p ∈ h, PairOk p) (hc : ∀ j, j < h.length → N.pairE (h.getD j pair0) (h.take j) = 0) : ∀ (f i : Nat), i + f = h.length → N.readFrom f ⟨N.pairsB (h.drop i), 0⟩ (h.take i) = (h, ⟨[], 0⟩)
  | 0, i, hi => by
    rw [List.drop_eq_nil_of_le (by omega), List.take_of_length_le (by omega)]; rfl
  | f + 1, i, hi => by
    have hlt : i < h.length := by omega
    have hm : h.getD i pair0 ∈ h := by rw [List.getD_eq_getElem?_getD, List.getElem?_eq_getElem hlt]; exact List.getElem_mem _
    rw [getD_drop pair0 hlt]
    have e : N.pairsB (h.getD i pair0 :: h.drop (i + 1)) = N.pairB (h.getD i pair0) ++ N.pairsB (h.drop (i + 1)) := rfl
    rw [e]
    unfold N.readFrom
    rw [one_app (ho _ hm) (hc i hlt)]
    have b : N.bad (h.getD i pair0) (h.take i) ⟨N.pairsB (h.drop (i + 1)), 0⟩ = ⟨N.pairsB (h.drop (i + 1)), 0⟩ := by
      unfold N.bad N.inFail
      rw [hc i hlt]; rfl
    show cond ((N.bad (h.getD i pair0) (h.take i) ⟨N.pairsB (h.drop (i + 1)), 0⟩).err != 0) _ (N.readFrom f (N.bad (h.getD i pair0) (h.take i) ⟨N.pairsB (h.drop (i + 1)), 0⟩) (h.take i ++ [h.getD i pair0])) = _
    rw [b]
    have ht : h.take i ++ [h.getD i pair0] = h.take (i + 1) := by
      rw [List.take_add_one, List.getD_eq_getElem?_getD, List.getElem?_eq_getElem hlt]; rfl
    rw [ht]
    exact from_app h ho hc f (i + 1) (by omega)
theorem read_back (h : List HPair) (ho : ∀ p ∈ h, PairOk p) (hz : N.headCheck h = 0) : N.headRead ⟨N.headBytes h, 0⟩ = (h, ⟨[], 0⟩) := by
  unfold N.headCheck at hz
  cases e : ilt 8 h.length with
  | true => rw [e] at hz; cases hz
  | false =>
    have e' := ilt_nof e
    rw [e, cond_false] at hz
    have hc : ∀ j, j < h.length → N.pairE (h.getD j pair0) (h.take j) = 0 := fun j hj => checkFrom_all h h.length 0 (Int.le_refl _) hz j (by omega) (by omega)
    unfold N.headRead N.headBytes
    have en : N.inNum ⟨N.numB h.length 1 ++ N.pairsB h, 0⟩ 1 = ((h.length : Int), ⟨N.pairsB h, 0⟩) := num_app 1 (by decide) _ (by omega) (by show (h.length : Int) < 256; omega) _
    rw [en]
    show N.readFrom (IntKind.wrap .i64 h.length).toNat (cond (ilt 8 (IntKind.wrap .i64 h.length)) _ _) [] = _
    rw [wrap_i64 (n := (h.length : Int)) (by omega) (by omega), e, cond_false, Int.toNat_natCast]
    have := from_app h ho hc h.length 0 (by omega)
    exact this
end Go.Ev

/- The document's functions that write heads answer what the plain ones do: lemmas; its function that writes numbers is a premise. -/
namespace Go.Ev
open Go Go.Proofs
set_option maxRecDepth 100000

def N.fuelOk (k : Nat) (b : Int) : Bool := cond (ilt 8 b) (Nat.ble 8 k) (ile b k)
def dRefNum (k : Nat) : Den := den (aCons (vInt .u64) (aOne (vInt .i64))) bNil (oV vStr) (fun a _ => cond (ile 0 a.1) (cond (ilt a.1 18446744073709551616) (N.fuelOk k a.2) false) false) fun a _ => (N.numB a.1 (N.clamp a.2), ())
def dRefText : Den := den (aOne vStr) bNil (oV vStr) (fun s _ => Nat.ble s.length 65535) fun s _ => (N.textB s, ())
namespace N
def refPairB (p : HPair) : Bytes := cond (p.kind == 0) (textB p.key ++ numB (IntKind.wrap .u64 p.kind) 1 ++ numB (IntKind.wrap .u64 p.num) 8) (cond (p.kind == 1) (textB p.key ++ numB (IntKind.wrap .u64 p.kind) 1 ++ textB p.text) (textB p.key ++ numB (IntKind.wrap .u64 p.kind) 1 ++ numB (IntKind.wrap .u64 p.num) 1))
def refPairsB : List HPair → Bytes
  | [] => [] | p :: r => refPairB p ++ refPairsB r
def refHeadBytes (h : List HPair) : Bytes := numB (IntKind.wrap .u64 h.length) 1 ++ refPairsB h
end N
def dRefBytes : Den := den (aOne (vSl cPair)) bNil (oV vStr) (fun h _ => cond (Nat.ble h.length 8) (h.all N.fitP) false) fun h _ => (N.refHeadBytes h, ())
noncomputable def eRefText : Env := env Tryd.prog [(80, dRefNum 8)] [] []
theorem q_refText (s : Bytes) : evFn eRefText 81 ((aOne vStr).enc s) ([]) some =
 cond (bif ilt (IntKind.wrap IntKind.u64 (↑(List.length s) : Int)) (18446744073709551616 : Int) then N.fuelOk (8 : Nat) (2 : Int) else false) (cond (Nat.ble ((2 : Nat) + List.length s) (9223372036854775807 : Nat)) (some { v := V.str (N.numB (IntKind.wrap IntKind.u64 (↑(List.length s) : Int)) (N.clamp (2 : Int)) ++ s), bx := [] : DRes }) (none)) (none) := by kernel_rfl
theorem ok_refText (hR : FnOk Tryd.prog 80 (dRefNum 8)) : FnOk Tryd.prog 81 dRefText := by
  refine den_okF (env_ok ((TOk.nil _).cons hR)) (E := eRefText) Tryd.func81 [] (by kernel_rfl) none0 fun s _ h => ?_
  have h : s.length ≤ 65535 := ble_of h
  refine (q_refText s).trans ?_
  show _ = some (⟨.str (N.textB s), [], []⟩ : DRes)
  have w : IntKind.wrap .u64 (s.length : Int) = s.length := wrap_u64 (by omega) (by omega)
  rw [w]
  simp (disch := omega) only [evs, show N.fuelOk 8 2 = true from rfl]
  rfl
def schRefBytes : SSch := { fr := [(3, .str), (10, .slc [.str, .int .u8, .int .i64, .str]), (11, .int .i64), (12, .int .i64)], tab := [] }
def gRefBytes : List Leaf → (Ex → St → Option R) → Option R
  | [.s s, .r r, .i n, .i i], K => cond (n == r.length) (cond (ile 0 i) (cond (Nat.ble r.length 8) (cond ((rowsP r).all N.fitP) (cond (ile s.length (1 + 150 * i))
      (K (.exit 0) { fr := [(3, .str (s ++ N.refPairsB ((rowsP r).drop i.toNat)))], tab := [] }) none) none) none) none) none
  | _, _ => none
noncomputable def eRefBytes : Env := env Tryd.prog [(80, dRefNum 8), (81, dRefText)] [(3, loopF schRefBytes gRefBytes)] [(3, [(0, [3, 10, 11, 12]), (1, [3]), (1000, [2])])]
theorem q_refBytes (h : List HPair) : evFn eRefBytes 82 (((aOne (vSl cPair)).enc h)) ([]) some =
 cond (bif ilt (IntKind.wrap IntKind.u64 (↑(List.length (List.map (fun p => [V.str (HPair.key p), V.int IntKind.u8 (HPair.kind p), V.int IntKind.i64 (HPair.num p), V.str (HPair.text p)]) h)) : Int)) (18446744073709551616 : Int) then N.fuelOk (8 : Nat) (1 : Int) else false) (cond ((↑(List.length (List.map (fun p => [V.str (HPair.key p), V.int IntKind.u8 (HPair.kind p), V.int IntKind.i64 (HPair.num p), V.str (HPair.text p)]) h)) : Int) == (↑(List.length (List.map (fun p => [V.str (HPair.key p), V.int IntKind.u8 (HPair.kind p), V.int IntKind.i64 (HPair.num p), V.str (HPair.text p)]) h)) : Int)) (cond (Nat.ble (List.length (List.map (fun p => [V.str (HPair.key p), V.int IntKind.u8 (HPair.kind p), V.int IntKind.i64 (HPair.num p), V.str (HPair.text p)]) h)) (8 : Nat)) (cond (List.all (List.map (fun r => { key := V.toStr (List.getD r (0 : Nat) V.undef), kind := V.toInt (List.getD r (1 : Nat) V.undef), num := V.toInt (List.getD r (2 : Nat) V.undef), text := V.toStr (List.getD r (3 : Nat) V.undef) : HPair }) (List.map (fun p => [V.str (HPair.key p), V.int IntKind.u8 (HPair.kind p), V.int IntKind.i64 (HPair.num p), V.str (HPair.text p)]) h)) N.fitP) (some { v := V.str (N.numB (IntKind.wrap IntKind.u64 (↑(List.length (List.map (fun p => [V.str (HPair.key p), V.int IntKind.u8 (HPair.kind p), V.int IntKind.i64 (HPair.num p), V.str (HPair.text p)]) h)) : Int)) (N.clamp (1 : Int)) ++ N.refPairsB (List.drop (0 : Nat) (List.map (fun r => { key := V.toStr (List.getD r (0 : Nat) V.undef), kind := V.toInt (List.getD r (1 : Nat) V.undef), num := V.toInt (List.getD r (2 : Nat) V.undef), text := V.toStr (List.getD r (3 : Nat) V.undef) : HPair }) (List.map (fun p => [V.str (HPair.key p), V.int IntKind.u8 (HPair.kind p), V.int IntKind.i64 (HPair.num p), V.str (HPair.text p)]) h)))), bx := [] : DRes }) (none)) (none)) (none)) (none) := by kernel_rfl
theorem q_refBytesR (s3 : Bytes) (r10 : List (List V)) (i11 : Int) (i12 : Int) (K : Ex → St → Option R) : evRound eRefBytes 82 3 { fr := [(3, .str s3), (10, .slc [.str, .int .u8, .int .i64, .str] r10), (11, .int .i64 i11), (12, .int .i64 i12)], tab := [] } K =
 cond (ilt i12 i11) (cond (decide ((0 : Int) ≤ i12 ∧ i12 < (↑(List.length r10) : Int))) (cond (Nat.ble (List.length (V.toStr (List.getD (List.getD r10 (Int.toNat i12) []) (0 : Nat) V.undef))) (65535 : Nat)) (cond (Nat.ble (List.length s3 + List.length (N.textB (V.toStr (List.getD (List.getD r10 (Int.toNat i12) []) (0 : Nat) V.undef)))) (9223372036854775807 : Nat)) (cond (bif ile (0 : Int) (IntKind.wrap IntKind.u64 (V.toInt (List.getD (List.getD r10 (Int.toNat i12) []) (1 : Nat) V.undef))) then bif ilt (IntKind.wrap IntKind.u64 (V.toInt (List.getD (List.getD r10 (Int.toNat i12) []) (1 : Nat) V.undef))) (18446744073709551616 : Int) then N.fuelOk (8 : Nat) (1 : Int) else false else false) (cond (Nat.ble (List.length (s3 ++ N.textB (V.toStr (List.getD (List.getD r10 (Int.toNat i12) []) (0 : Nat) V.undef))) + (1 : Nat)) (9223372036854775807 : Nat)) (cond (V.toInt (List.getD (List.getD r10 (Int.toNat i12) []) (1 : Nat) V.undef) == (0 : Int)) (cond (bif ile (0 : Int) (IntKind.wrap IntKind.u64 (V.toInt (List.getD (List.getD r10 (Int.toNat i12) []) (2 : Nat) V.undef))) then bif ilt (IntKind.wrap IntKind.u64 (V.toInt (List.getD (List.getD r10 (Int.toNat i12) []) (2 : Nat) V.undef))) (18446744073709551616 : Int) then N.fuelOk (8 : Nat) (8 : Int) else false else false) (cond (Nat.ble (List.length (s3 ++ N.textB (V.toStr (List.getD (List.getD r10 (Int.toNat i12) []) (0 : Nat) V.undef)) ++ N.numB (IntKind.wrap IntKind.u64 (V.toInt (List.getD (List.getD r10 (Int.toNat i12) []) (1 : Nat) V.undef))) (N.clamp (1 : Int))) + (8 : Nat)) (9223372036854775807 : Nat)) (K Ex.normal { fr := [((3 : Nat), V.str (s3 ++ N.textB (V.toStr (List.getD (List.getD r10 (Int.toNat i12) []) (0 : Nat) V.undef)) ++ N.numB (IntKind.wrap IntKind.u64 (V.toInt (List.getD (List.getD r10 (Int.toNat i12) []) (1 : Nat) V.undef))) (N.clamp (1 : Int)) ++ N.numB (IntKind.wrap IntKind.u64 (V.toInt (List.getD (List.getD r10 (Int.toNat i12) []) (2 : Nat) V.undef))) (N.clamp (8 : Int)))), ((10 : Nat), V.slc [Sh.str, Sh.int IntKind.u8, Sh.int IntKind.i64, Sh.str] r10), ((11 : Nat), V.int IntKind.i64 i11), ((12 : Nat), V.int IntKind.i64 (IntKind.wrap IntKind.i64 (i12 + (1 : Int))))], tab := [] : St }) (none)) (none)) (cond (V.toInt (List.getD (List.getD r10 (Int.toNat i12) []) (1 : Nat) V.undef) == (1 : Int)) (cond (Nat.ble (List.length (V.toStr (List.getD (List.getD r10 (Int.toNat i12) []) (3 : Nat) V.undef))) (65535 : Nat)) (cond (Nat.ble (List.length (s3 ++ N.textB (V.toStr (List.getD (List.getD r10 (Int.toNat i12) []) (0 : Nat) V.undef)) ++ N.numB (IntKind.wrap IntKind.u64 (V.toInt (List.getD (List.getD r10 (Int.toNat i12) []) (1 : Nat) V.undef))) (N.clamp (1 : Int))) + List.length (N.textB (V.toStr (List.getD (List.getD r10 (Int.toNat i12) []) (3 : Nat) V.undef)))) (9223372036854775807 : Nat)) (K Ex.normal { fr := [((3 : Nat), V.str (s3 ++ N.textB (V.toStr (List.getD (List.getD r10 (Int.toNat i12) []) (0 : Nat) V.undef)) ++ N.numB (IntKind.wrap IntKind.u64 (V.toInt (List.getD (List.getD r10 (Int.toNat i12) []) (1 : Nat) V.undef))) (N.clamp (1 : Int)) ++ N.textB (V.toStr (List.getD (List.getD r10 (Int.toNat i12) []) (3 : Nat) V.undef)))), ((10 : Nat), V.slc [Sh.str, Sh.int IntKind.u8, Sh.int IntKind.i64, Sh.str] r10), ((11 : Nat), V.int IntKind.i64 i11), ((12 : Nat), V.int IntKind.i64 (IntKind.wrap IntKind.i64 (i12 + (1 : Int))))], tab := [] : St }) (none)) (none)) (cond (bif ile (0 : Int) (IntKind.wrap IntKind.u64 (V.toInt (List.getD (List.getD r10 (Int.toNat i12) []) (2 : Nat) V.undef))) then bif ilt (IntKind.wrap IntKind.u64 (V.toInt (List.getD (List.getD r10 (Int.toNat i12) []) (2 : Nat) V.undef))) (18446744073709551616 : Int) then N.fuelOk (8 : Nat) (1 : Int) else false else false) (cond (Nat.ble (List.length (s3 ++ N.textB (V.toStr (List.getD (List.getD r10 (Int.toNat i12) []) (0 : Nat) V.undef)) ++ N.numB (IntKind.wrap IntKind.u64 (V.toInt (List.getD (List.getD r10 (Int.toNat i12) []) (1 : Nat) V.undef))) (N.clamp (1 : Int))) + (1 : Nat)) (9223372036854775807 : Nat)) (K Ex.normal { fr := [((3 : Nat), V.str (s3 ++ N.textB (V.toStr (List.getD (List.getD r10 (Int.toNat i12) []) (0 : Nat) V.undef)) ++ N.numB (IntKind.wrap IntKind.u64 (V.toInt (List.getD (List.getD r10 (Int.toNat i12) []) (1 : Nat) V.undef))) (N.clamp (1 : Int)) ++ N.numB (IntKind.wrap IntKind.u64 (V.toInt (List.getD (List.getD r10 (Int.toNat i12) []) (2 : Nat) V.undef))) (N.clamp (1 : Int)))), ((10 : Nat), V.slc [Sh.str, Sh.int IntKind.u8, Sh.int IntKind.i64, Sh.str] r10), ((11 : Nat), V.int IntKind.i64 i11), ((12 : Nat), V.int IntKind.i64 (IntKind.wrap IntKind.i64 (i12 + (1 : Int))))], tab := [] : St }) (none)) (none)))) (none)) (none)) (none)) (none)) (none)) (K (Ex.exit (0 : Nat)) { fr := [((3 : Nat), V.str s3)], tab := [] : St }) := by kernel_rfl
theorem ok_refBytes (hR : FnOk Tryd.prog 80 (dRefNum 8)) : FnOk Tryd.prog 82 dRefBytes := by
  refine den_okF (env_ok (((TOk.nil _).cons (ok_refText hR)).cons hR)) (E := eRefBytes) Tryd.func82 [3] (by kernel_rfl) (one1 (rounds_of rfl fun l K q h => ?_)) fun h _ hp => ?_
  · unfold gRefBytes at h
    split at h
    · rename_i s r n i
      have h1 := (cond_none h).1; replace h := (cond_none h).2; have h3 := (cond_none h).1; replace h := (cond_none h).2; have h4 := (cond_none h).1; replace h := (cond_none h).2; have h5 := (cond_none h).1; replace h := (cond_none h).2; have h6 := (cond_none h).1; replace h := (cond_none h).2
      have e1 := ieq_of h1
      subst e1
      have h4 : r.length ≤ 8 := ble_of h4
      refine loop_ind (E := eRefBytes) (f := 82) (id := 3) (σ := Int × Bytes) (fun x => { fr := [(3, .str x.2), (10, .slc [.str, .int .u8, .int .i64, .str] r), (11, .int .i64 r.length), (12, .int .i64 x.1)], tab := [] })
        (fun x => 0 ≤ x.1 ∧ (x.2.length : Int) ≤ 1 + 150 * x.1) (fun x => r.length - x.1.toNat)
        (fun x K => K (.exit 0) { fr := [(3, .str (x.2 ++ N.refPairsB ((rowsP r).drop x.1.toNat)))], tab := [] }) ?_ (i, s) ⟨ile_of h3, ile_of h6⟩ K q (by assumption)
      rintro ⟨i, s⟩ ⟨hi, hs⟩
      simp only at hi hs ⊢
      by_cases hl : i < r.length
      · have hlt : i.toNat < r.length := by omega
        have hfit : N.fitP (rowP (r.getD i.toNat [])) = true := List.all_eq_true.1 h5 _ (by
          rw [List.getD_eq_getElem?_getD, List.getElem?_eq_getElem hlt]; exact List.mem_map_of_mem (List.getElem_mem _))
        obtain ⟨f1, f2⟩ := bcond hfit
        have f1 : (V.toStr (List.getD (List.getD r i.toNat []) 0 V.undef)).length ≤ 64 := ble_of f1
        have f2 : (V.toStr (List.getD (List.getD r i.toNat []) 3 V.undef)).length ≤ 64 := ble_of f2
        have u1 := wu64 (V.toInt (List.getD (List.getD r i.toNat []) 1 V.undef))
        have u2 := wu64 (V.toInt (List.getD (List.getD r i.toNat []) 2 V.undef))
        rw [drop_pair hlt]
        have e : N.refPairsB (rowP (r.getD i.toNat []) :: (rowsP r).drop (i.toNat + 1)) = N.refPairB (rowP (r.getD i.toNat [])) ++ N.refPairsB ((rowsP r).drop (i.toNat + 1)) := rfl
        rw [e, ← List.append_assoc]
        have hlen : (N.refPairB (rowP (r.getD i.toNat []))).length ≤ 150 := by
          unfold N.refPairB rowP
          cases V.toInt (List.getD (List.getD r i.toNat []) 1 V.undef) == 0 <;> cases V.toInt (List.getD (List.getD r i.toNat []) 1 V.undef) == 1 <;> simp only [cond_true, cond_false, numB_len, textB_len, List.length_append] <;> omega
        refine .inl ⟨(i + 1, s ++ N.refPairB (rowP (r.getD i.toNat []))), ⟨by simp only; omega, by simp only [List.length_append]; omega⟩, by simp only; omega, fun K => ?_, fun K => ?_⟩
        · rw [q_refBytesR]
          unfold N.refPairB rowP
          simp (disch := omega) only [evs, textB_len, numB_len, show N.fuelOk 8 1 = true from rfl, show N.fuelOk 8 8 = true from rfl, show N.clamp 1 = 1 from rfl, show N.clamp 8 = 8 from rfl]
          cases V.toInt (List.getD (List.getD r i.toNat []) 1 V.undef) == 0 <;> cases V.toInt (List.getD (List.getD r i.toNat []) 1 V.undef) == 1 <;> simp only [cond_true, cond_false, List.append_assoc]
        · rw [show (i + 1).toNat = i.toNat + 1 by omega]
      · refine .inr ⟨.exit 0, { fr := [(3, .str s)], tab := [] }, by simp, fun K => ?_, fun K => ?_⟩
        · rw [q_refBytesR]
          simp (disch := omega) only [evs]
        · rw [List.drop_eq_nil_of_le (by rw [rowsP_length]; omega)]
          show K _ { fr := [(3, .str (s ++ []))], tab := [] } = _
          rw [List.append_nil]
    · cases h
  · obtain ⟨c1, c2⟩ := bcond hp
    have c1 : h.length ≤ 8 := ble_of c1
    refine (q_refBytes h).trans ?_
    show _ = some (⟨.str (N.refHeadBytes h), [], []⟩ : DRes)
    have u := wu64 (h.length : Int)
    simp (disch := omega) only [evs, pairs_enc, c2, List.drop_zero, show N.fuelOk 8 1 = true from rfl, show N.clamp 1 = 1 from rfl]
    rfl
end Go.Ev

/- The document's function that writes numbers answers what the plain one does: lemmas, no condition. -/
namespace Go.Ev
open Go Go.Proofs
set_option maxRecDepth 100000

noncomputable def eRefNum0 : Env := env Tryd.prog [] [] []
noncomputable def eRefNum (k : Nat) : Env := env Tryd.prog [(80, dRefNum k)] [] []
theorem q_refNum0 (n b : Int) : evFn eRefNum0 80 ((aCons (vInt .u64) (aOne (vInt .i64))).enc (n, b)) ([]) some =
 cond (ilt (8 : Int) b) (none) (cond (ile b (0 : Int)) (some { v := V.str [], bx := [] : DRes }) (none)) := by kernel_rfl
theorem q_refNum (k : Nat) (n b : Int) : evFn (eRefNum k) 80 ((aCons (vInt .u64) (aOne (vInt .i64))).enc (n, b)) ([]) some =
 cond (ilt (8 : Int) b) (cond (bif bif bif ile (0 : Int) (IntKind.wrap IntKind.u64 (Int.tdiv n (256 : Int))) then bif ilt (IntKind.wrap IntKind.u64 (Int.tdiv n (256 : Int))) (18446744073709551616 : Int) then N.fuelOk k (IntKind.wrap IntKind.i64 ((8 : Int) - (1 : Int))) else false else false then true else false then true else false) (cond (bif bif bif ile (0 : Int) (IntKind.wrap IntKind.u64 (Int.tdiv n (256 : Int))) then bif ilt (IntKind.wrap IntKind.u64 (Int.tdiv n (256 : Int))) (18446744073709551616 : Int) then N.fuelOk k (IntKind.wrap IntKind.i64 ((8 : Int) - (1 : Int))) else false else false then true else false then true else false) (cond (bif ile (0 : Int) (IntKind.wrap IntKind.u64 (Int.tdiv n (256 : Int))) then bif ilt (IntKind.wrap IntKind.u64 (Int.tdiv n (256 : Int))) (18446744073709551616 : Int) then N.fuelOk k (IntKind.wrap IntKind.i64 ((8 : Int) - (1 : Int))) else false else false) (some { v := V.str (N.numB (IntKind.wrap IntKind.u64 (Int.tdiv n (256 : Int))) (N.clamp (IntKind.wrap IntKind.i64 ((8 : Int) - (1 : Int)))) ++ strOfBytes [[V.int IntKind.u8 (IntKind.wrap IntKind.u8 (Int.tmod n (256 : Int)))]]), bx := [] : DRes }) (none)) (none)) (none)) (cond (ile b (0 : Int)) (some { v := V.str [], bx := [] : DRes }) (cond (bif bif bif ile (0 : Int) (IntKind.wrap IntKind.u64 (Int.tdiv n (256 : Int))) then bif ilt (IntKind.wrap IntKind.u64 (Int.tdiv n (256 : Int))) (18446744073709551616 : Int) then N.fuelOk k (IntKind.wrap IntKind.i64 (b - (1 : Int))) else false else false then true else false then true else false) (cond (bif bif bif ile (0 : Int) (IntKind.wrap IntKind.u64 (Int.tdiv n (256 : Int))) then bif ilt (IntKind.wrap IntKind.u64 (Int.tdiv n (256 : Int))) (18446744073709551616 : Int) then N.fuelOk k (IntKind.wrap IntKind.i64 (b - (1 : Int))) else false else false then true else false then true else false) (cond (bif ile (0 : Int) (IntKind.wrap IntKind.u64 (Int.tdiv n (256 : Int))) then bif ilt (IntKind.wrap IntKind.u64 (Int.tdiv n (256 : Int))) (18446744073709551616 : Int) then N.fuelOk k (IntKind.wrap IntKind.i64 (b - (1 : Int))) else false else false) (cond (Nat.ble (List.length (N.numB (IntKind.wrap IntKind.u64 (Int.tdiv n (256 : Int))) (N.clamp (IntKind.wrap IntKind.i64 (b - (1 : Int))))) + (1 : Nat)) (9223372036854775807 : Nat)) (some { v := V.str (N.numB (IntKind.wrap IntKind.u64 (Int.tdiv n (256 : Int))) (N.clamp (IntKind.wrap IntKind.i64 (b - (1 : Int)))) ++ strOfBytes [[V.int IntKind.u8 (IntKind.wrap IntKind.u8 (Int.tmod n (256 : Int)))]]), bx := [] : DRes }) (none)) (none)) (none)) (none))) := by kernel_rfl
theorem clamp_mid {b : Int} (h1 : 1 ≤ b) (h2 : b ≤ 8) : N.clamp b = N.clamp (b - 1) + 1 := by
  unfold N.clamp
  by_cases h : b = 1
  · subst h; rfl
  · rw [ilt_t (show (0 : Int) < b by omega), ilt_f (show b ≤ 8 from h2), ilt_t (show (0 : Int) < b - 1 by omega), ilt_f (show b - 1 ≤ 8 by omega)]
    simp only [cond_true, cond_false]; omega
theorem tdiv_256 {n : Int} (h : 0 ≤ n) : Int.tdiv n 256 = n / 256 := Int.tdiv_eq_ediv_of_nonneg h
theorem tmod_256 {n : Int} (h : 0 ≤ n) : Int.tmod n 256 = n % 256 := Int.tmod_eq_emod_of_nonneg h
theorem wrap_u8' {n : Int} (h1 : 0 ≤ n) (h2 : n < 256) : IntKind.wrap .u8 n = n := by
  simp only [IntKind.wrap, IntKind.signed, IntKind.bits]
  simp
  omega
theorem ok_refNum0 : FnOk Tryd.prog 80 (dRefNum 0) := by
  refine den_okF (env_ok (TOk.nil _)) (E := eRefNum0) Tryd.func80 [] (by kernel_rfl) none0 fun a _ h => ?_
  obtain ⟨n, b⟩ := a
  obtain ⟨h1, h⟩ := bcond h
  obtain ⟨h2, h⟩ := bcond h
  have h : cond (ilt 8 b) (Nat.ble 8 0) (ile b 0) = true := h
  refine (q_refNum0 n b).trans ?_
  cases e : ilt 8 b with
  | true => rw [e] at h; cases h
  | false =>
    rw [e] at h
    have h : ile b 0 = true := h
    have h' := ile_of h
    show cond false none (cond (ile b 0) _ none) = some (⟨.str (N.numB n (N.clamp b)), [], []⟩ : DRes)
    rw [h]
    have : N.clamp b = 0 := by unfold N.clamp; rw [ilt_f h']; rfl
    rw [this]; rfl
theorem ok_refNumS (k : Nat) (hk : FnOk Tryd.prog 80 (dRefNum k)) : FnOk Tryd.prog 80 (dRefNum (k + 1)) := by
  refine den_okF (env_ok ((TOk.nil _).cons hk)) (E := eRefNum k) Tryd.func80 [] (by kernel_rfl) none0 fun a _ h => ?_
  obtain ⟨n, b⟩ := a
  obtain ⟨h1, h⟩ := bcond h
  obtain ⟨h2, h⟩ := bcond h
  have h : cond (ilt 8 b) (Nat.ble 8 (k + 1)) (ile b ((k + 1 : Nat) : Int)) = true := h
  have h1 : 0 ≤ n := ile_of h1
  have h2 : n < 18446744073709551616 := ilt_of h2
  refine (q_refNum k n b).trans ?_
  show _ = some (⟨.str (N.numB n (N.clamp b)), [], []⟩ : DRes)
  have w1 : IntKind.wrap .u64 (n / 256) = n / 256 := wrap_u64 (by omega) (by omega)
  have w2 : IntKind.wrap .u8 (n % 256) = n % 256 := wrap_u8' (by omega) (by omega)
  have w3 : IntKind.wrap .i64 ((8 : Int) - 1) = 7 := rfl
  have es : strOfBytes [[V.int .u8 (n % 256)]] = [UInt8.ofNat (n % 256).toNat] := rfl
  rw [tdiv_256 h1, tmod_256 h1, w1, w2, w3, es]
  have c1 : ile 0 (n / 256) = true := ile_t (by omega)
  have c2 : ilt (n / 256) 18446744073709551616 = true := ilt_t (by omega)
  rw [c1, c2]
  simp only [cond_true]
  cases e : ilt 8 b with
  | true =>
    rw [e] at h
    have h : 8 ≤ k + 1 := ble_of h
    have hb := ilt_of e
    have f7 : N.fuelOk k 7 = true := by unfold N.fuelOk; rw [ilt_f (by omega), cond_false]; exact ile_t (by omega)
    have hc : N.clamp b = 8 := by unfold N.clamp; rw [ilt_t (by omega), e]; rfl
    rw [f7, hc]
    simp only [cond_true]
    rw [show N.clamp 7 = 7 from rfl, ← numB_succ]
  | false =>
    rw [e] at h
    have h : b ≤ (k + 1 : Nat) := ile_of h
    have hb := ilt_nof e
    simp only [cond_false]
    cases e2 : ile b 0 with
    | true =>
      have h' := ile_of e2
      have : N.clamp b = 0 := by unfold N.clamp; rw [ilt_f h']; rfl
      rw [this]; rfl
    | false =>
      have h0 := ile_nof e2
      have w4 : IntKind.wrap .i64 (b - 1) = b - 1 := wr_i64 (by omega) (by omega)
      have f : N.fuelOk k (b - 1) = true := by unfold N.fuelOk; rw [ilt_f (by omega), cond_false]; exact ile_t (by omega)
      rw [w4, f, clamp_mid (by omega) hb, numB_succ]
      have hl : (N.numB (n / 256) (N.clamp (b - 1))).length ≤ 8 := by
        rw [numB_len]; unfold N.clamp
        rw [ilt_f (show b - 1 ≤ 8 by omega)]
        cases ilt 0 (b - 1) <;> simp only [cond_true, cond_false] <;> omega
      simp (disch := omega) only [evs]
theorem ok_refNum : ∀ k, FnOk Tryd.prog 80 (dRefNum k)
  | 0 => ok_refNum0
  | k + 1 => ok_refNumS k (ok_refNum k)
end Go.Ev

/- The functions on messages answer what the plain ones do: lemmas; the function that writes numbers is a premise. -/
namespace Go.Ev
open Go Go.Proofs
set_option maxRecDepth 100000

noncomputable def eClone : Env := env Tryd.prog [] [] []
theorem q_clone (l : List HPair) : evFn eClone 59 ((aOne (vSl cPair)).enc l) ([]) some =
 cond (!Nat.beq (List.length (List.map (fun p => [V.str (HPair.key p), V.int IntKind.u8 (HPair.kind p), V.int IntKind.i64 (HPair.num p), V.str (HPair.text p)]) l)) (0 : Nat)) (cond (Nat.beq (List.length (List.map (fun p => [V.str (HPair.key p), V.int IntKind.u8 (HPair.kind p), V.int IntKind.i64 (HPair.num p), V.str (HPair.text p)]) l)) (0 : Nat)) (some { v := V.slc [Sh.str, Sh.int IntKind.u8, Sh.int IntKind.i64, Sh.str] [], bx := [] : DRes }) (cond (decide (List.length (List.map (fun p => [V.str (HPair.key p), V.int IntKind.u8 (HPair.kind p), V.int IntKind.i64 (HPair.num p), V.str (HPair.text p)]) l) * (48 : Nat) ≤ (140737488355328 : Nat))) (some { v := V.slc [Sh.str, Sh.int IntKind.u8, Sh.int IntKind.i64, Sh.str] (List.map (fun p => [V.str (HPair.key p), V.int IntKind.u8 (HPair.kind p), V.int IntKind.i64 (HPair.num p), V.str (HPair.text p)]) l), bx := [] : DRes }) (none))) (none) := by kernel_rfl
theorem q_cloneN  : evFn eClone 59 [.nils [.str, .int .u8, .int .i64, .str]] ([]) some =
 some { v := V.slc [Sh.str, Sh.int IntKind.u8, Sh.int IntKind.i64, Sh.str] [], bx := [] : DRes } := by kernel_rfl
theorem q_cloneE  : evFn eClone 59 [.nn [.str, .int .u8, .int .i64, .str]] ([]) some =
 some { v := V.slc [Sh.str, Sh.int IntKind.u8, Sh.int IntKind.i64, Sh.str] [], bx := [] : DRes } := by kernel_rfl
theorem ok_clone : FnOk Tryd.prog 59 dClone := by
  refine den_of fun l b h => ?_
  have h : l.length ≤ 1000000 := ble_of h
  have fo := fun a r => fn_okF (E := eClone) (env_ok (TOk.nil _)) Tryd.func59 [] (by kernel_rfl) none0 a [] r
  cases l with
  | nil => exact FnOk.empty (fo _ _ q_cloneN) (fo _ _ q_cloneE)
  | cons p r =>
    refine fo _ _ ((q_clone (p :: r)).trans ?_)
    show _ = some (⟨.slc [.str, .int .u8, .int .i64, .str] ((p :: r).map fun p => [V.str p.key, V.int .u8 p.kind, V.int .i64 p.num, V.str p.text]), [], []⟩ : DRes)
    rw [show Nat.beq (List.length ((p :: r).map fun p => [V.str p.key, V.int .u8 p.kind, V.int .i64 p.num, V.str p.text])) 0 = false from rfl]
    simp (disch := omega) only [evs, Bool.not_false]
noncomputable def eMailCopy : Env := env Tryd.prog [(59, dClone)] [] []
theorem q_mailCopy (m : HMail) : evFn eMailCopy 23 ((aOne (vAgg cMail)).enc m) ([]) some =
 cond (Nat.ble (List.length (List.map (fun r => { key := V.toStr (List.getD r (0 : Nat) V.undef), kind := V.toInt (List.getD r (1 : Nat) V.undef), num := V.toInt (List.getD r (2 : Nat) V.undef), text := V.toStr (List.getD r (3 : Nat) V.undef) : HPair }) (List.map (fun p => [V.str (HPair.key p), V.int IntKind.u8 (HPair.kind p), V.int IntKind.i64 (HPair.num p), V.str (HPair.text p)]) (HMail.head m)))) (1000000 : Nat)) (some { v := V.agg [V.int IntKind.u64 (HMail.id m), V.str (HMail.shop m), V.str (HMail.key m), V.slc [Sh.str, Sh.int IntKind.u8, Sh.int IntKind.i64, Sh.str] (List.map (fun p => [V.str (HPair.key p), V.int IntKind.u8 (HPair.kind p), V.int IntKind.i64 (HPair.num p), V.str (HPair.text p)]) (List.map (fun r => { key := V.toStr (List.getD r (0 : Nat) V.undef), kind := V.toInt (List.getD r (1 : Nat) V.undef), num := V.toInt (List.getD r (2 : Nat) V.undef), text := V.toStr (List.getD r (3 : Nat) V.undef) : HPair }) (List.map (fun p => [V.str (HPair.key p), V.int IntKind.u8 (HPair.kind p), V.int IntKind.i64 (HPair.num p), V.str (HPair.text p)]) (HMail.head m)))), V.str (HMail.body m), V.int IntKind.u64 (HMail.due m), V.int IntKind.u8 (HMail.hops m)], bx := [] : DRes }) (none) := by kernel_rfl
theorem ok_mailCopy : FnOk Tryd.prog 23 dMailCopy := by
  refine den_okF (env_ok ((TOk.nil _).cons ok_clone)) (E := eMailCopy) Tryd.func23 [] (by kernel_rfl) none0 fun m _ h => ?_
  have h : m.head.length ≤ 1000000 := ble_of h
  refine (q_mailCopy m).trans ?_
  simp (disch := omega) only [evs, pairs_enc]
  rfl
noncomputable def eMailCheck : Env := env Tryd.prog [(79, dName), (49, dKey), (51, dHeadCheck)] [] []
theorem q_mailCheck (m : HMail) : evFn eMailCheck 42 ((aOne (vAgg cMail)).enc m) ([]) some =
 cond (N.name (HMail.shop m) != (0 : Int)) (some { v := V.int IntKind.i64 (N.name (HMail.shop m)), bx := [] : DRes }) (cond (N.key (HMail.key m) [] != (0 : Int)) (some { v := V.int IntKind.i64 (N.key (HMail.key m) []), bx := [] : DRes }) (cond (N.headCheck (List.map (fun r => { key := V.toStr (List.getD r (0 : Nat) V.undef), kind := V.toInt (List.getD r (1 : Nat) V.undef), num := V.toInt (List.getD r (2 : Nat) V.undef), text := V.toStr (List.getD r (3 : Nat) V.undef) : HPair }) (List.map (fun p => [V.str (HPair.key p), V.int IntKind.u8 (HPair.kind p), V.int IntKind.i64 (HPair.num p), V.str (HPair.text p)]) (HMail.head m))) != (0 : Int)) (some { v := V.int IntKind.i64 (N.headCheck (List.map (fun r => { key := V.toStr (List.getD r (0 : Nat) V.undef), kind := V.toInt (List.getD r (1 : Nat) V.undef), num := V.toInt (List.getD r (2 : Nat) V.undef), text := V.toStr (List.getD r (3 : Nat) V.undef) : HPair }) (List.map (fun p => [V.str (HPair.key p), V.int IntKind.u8 (HPair.kind p), V.int IntKind.i64 (HPair.num p), V.str (HPair.text p)]) (HMail.head m)))), bx := [] : DRes }) (cond (ilt (256 : Int) (↑(List.length (HMail.body m)) : Int)) (some { v := V.int IntKind.i64 (5 : Int), bx := [] : DRes }) (cond (ilt (4 : Int) (HMail.hops m)) (some { v := V.int IntKind.i64 (7 : Int), bx := [] : DRes }) (some { v := V.int IntKind.i64 (0 : Int), bx := [] : DRes }))))) := by kernel_rfl
noncomputable def eRefMailCheck : Env := env Tryd.prog [(73, dName), (17, dRefKey), (18, dHeadCheck)] [] []
theorem q_refMailCheck (m : HMail) : evFn eRefMailCheck 40 ((aOne (vAgg cMail)).enc m) ([]) some =
 cond (N.name (HMail.shop m) == (0 : Int)) (cond (N.refKey (HMail.key m) false == (0 : Int)) (cond (N.headCheck (List.map (fun r => { key := V.toStr (List.getD r (0 : Nat) V.undef), kind := V.toInt (List.getD r (1 : Nat) V.undef), num := V.toInt (List.getD r (2 : Nat) V.undef), text := V.toStr (List.getD r (3 : Nat) V.undef) : HPair }) (List.map (fun p => [V.str (HPair.key p), V.int IntKind.u8 (HPair.kind p), V.int IntKind.i64 (HPair.num p), V.str (HPair.text p)]) (HMail.head m))) == (0 : Int)) (cond (ilt (256 : Int) (↑(List.length (HMail.body m)) : Int)) (some { v := V.int IntKind.i64 (5 : Int), bx := [] : DRes }) (cond (N.headCheck (List.map (fun r => { key := V.toStr (List.getD r (0 : Nat) V.undef), kind := V.toInt (List.getD r (1 : Nat) V.undef), num := V.toInt (List.getD r (2 : Nat) V.undef), text := V.toStr (List.getD r (3 : Nat) V.undef) : HPair }) (List.map (fun p => [V.str (HPair.key p), V.int IntKind.u8 (HPair.kind p), V.int IntKind.i64 (HPair.num p), V.str (HPair.text p)]) (HMail.head m))) == (0 : Int)) (cond (ilt (4 : Int) (HMail.hops m)) (some { v := V.int IntKind.i64 (7 : Int), bx := [] : DRes }) (some { v := V.int IntKind.i64 (N.headCheck (List.map (fun r => { key := V.toStr (List.getD r (0 : Nat) V.undef), kind := V.toInt (List.getD r (1 : Nat) V.undef), num := V.toInt (List.getD r (2 : Nat) V.undef), text := V.toStr (List.getD r (3 : Nat) V.undef) : HPair }) (List.map (fun p => [V.str (HPair.key p), V.int IntKind.u8 (HPair.kind p), V.int IntKind.i64 (HPair.num p), V.str (HPair.text p)]) (HMail.head m)))), bx := [] : DRes })) (some { v := V.int IntKind.i64 (N.headCheck (List.map (fun r => { key := V.toStr (List.getD r (0 : Nat) V.undef), kind := V.toInt (List.getD r (1 : Nat) V.undef), num := V.toInt (List.getD r (2 : Nat) V.undef), text := V.toStr (List.getD r (3 : Nat) V.undef) : HPair }) (List.map (fun p => [V.str (HPair.key p), V.int IntKind.u8 (HPair.kind p), V.int IntKind.i64 (HPair.num p), V.str (HPair.text p)]) (HMail.head m)))), bx := [] : DRes }))) (cond (N.headCheck (List.map (fun r => { key := V.toStr (List.getD r (0 : Nat) V.undef), kind := V.toInt (List.getD r (1 : Nat) V.undef), num := V.toInt (List.getD r (2 : Nat) V.undef), text := V.toStr (List.getD r (3 : Nat) V.undef) : HPair }) (List.map (fun p => [V.str (HPair.key p), V.int IntKind.u8 (HPair.kind p), V.int IntKind.i64 (HPair.num p), V.str (HPair.text p)]) (HMail.head m))) == (0 : Int)) (cond (ilt (4 : Int) (HMail.hops m)) (some { v := V.int IntKind.i64 (7 : Int), bx := [] : DRes }) (some { v := V.int IntKind.i64 (N.headCheck (List.map (fun r => { key := V.toStr (List.getD r (0 : Nat) V.undef), kind := V.toInt (List.getD r (1 : Nat) V.undef), num := V.toInt (List.getD r (2 : Nat) V.undef), text := V.toStr (List.getD r (3 : Nat) V.undef) : HPair }) (List.map (fun p => [V.str (HPair.key p), V.int IntKind.u8 (HPair.kind p), V.int IntKind.i64 (HPair.num p), V.str (HPair.text p)]) (HMail.head m)))), bx := [] : DRes })) (some { v := V.int IntKind.i64 (N.headCheck (List.map (fun r => { key := V.toStr (List.getD r (0 : Nat) V.undef), kind := V.toInt (List.getD r (1 : Nat) V.undef), num := V.toInt (List.getD r (2 : Nat) V.undef), text := V.toStr (List.getD r (3 : Nat) V.undef) : HPair }) (List.map (fun p => [V.str (HPair.key p), V.int IntKind.u8 (HPair.kind p), V.int IntKind.i64 (HPair.num p), V.str (HPair.text p)]) (HMail.head m)))), bx := [] : DRes }))) (cond (N.refKey (HMail.key m) false == (0 : Int)) (cond (ilt (256 : Int) (↑(List.length (HMail.body m)) : Int)) (some { v := V.int IntKind.i64 (5 : Int), bx := [] : DRes }) (cond (N.refKey (HMail.key m) false == (0 : Int)) (cond (ilt (4 : Int) (HMail.hops m)) (some { v := V.int IntKind.i64 (7 : Int), bx := [] : DRes }) (some { v := V.int IntKind.i64 (N.refKey (HMail.key m) false), bx := [] : DRes })) (some { v := V.int IntKind.i64 (N.refKey (HMail.key m) false), bx := [] : DRes }))) (cond (N.refKey (HMail.key m) false == (0 : Int)) (cond (ilt (4 : Int) (HMail.hops m)) (some { v := V.int IntKind.i64 (7 : Int), bx := [] : DRes }) (some { v := V.int IntKind.i64 (N.refKey (HMail.key m) false), bx := [] : DRes })) (some { v := V.int IntKind.i64 (N.refKey (HMail.key m) false), bx := [] : DRes })))) (cond (N.name (HMail.shop m) == (0 : Int)) (cond (N.headCheck (List.map (fun r => { key := V.toStr (List.getD r (0 : Nat) V.undef), kind := V.toInt (List.getD r (1 : Nat) V.undef), num := V.toInt (List.getD r (2 : Nat) V.undef), text := V.toStr (List.getD r (3 : Nat) V.undef) : HPair }) (List.map (fun p => [V.str (HPair.key p), V.int IntKind.u8 (HPair.kind p), V.int IntKind.i64 (HPair.num p), V.str (HPair.text p)]) (HMail.head m))) == (0 : Int)) (cond (ilt (256 : Int) (↑(List.length (HMail.body m)) : Int)) (some { v := V.int IntKind.i64 (5 : Int), bx := [] : DRes }) (cond (N.headCheck (List.map (fun r => { key := V.toStr (List.getD r (0 : Nat) V.undef), kind := V.toInt (List.getD r (1 : Nat) V.undef), num := V.toInt (List.getD r (2 : Nat) V.undef), text := V.toStr (List.getD r (3 : Nat) V.undef) : HPair }) (List.map (fun p => [V.str (HPair.key p), V.int IntKind.u8 (HPair.kind p), V.int IntKind.i64 (HPair.num p), V.str (HPair.text p)]) (HMail.head m))) == (0 : Int)) (cond (ilt (4 : Int) (HMail.hops m)) (some { v := V.int IntKind.i64 (7 : Int), bx := [] : DRes }) (some { v := V.int IntKind.i64 (N.headCheck (List.map (fun r => { key := V.toStr (List.getD r (0 : Nat) V.undef), kind := V.toInt (List.getD r (1 : Nat) V.undef), num := V.toInt (List.getD r (2 : Nat) V.undef), text := V.toStr (List.getD r (3 : Nat) V.undef) : HPair }) (List.map (fun p => [V.str (HPair.key p), V.int IntKind.u8 (HPair.kind p), V.int IntKind.i64 (HPair.num p), V.str (HPair.text p)]) (HMail.head m)))), bx := [] : DRes })) (some { v := V.int IntKind.i64 (N.headCheck (List.map (fun r => { key := V.toStr (List.getD r (0 : Nat) V.undef), kind := V.toInt (List.getD r (1 : Nat) V.undef), num := V.toInt (List.getD r (2 : Nat) V.undef), text := V.toStr (List.getD r (3 : Nat) V.undef) : HPair }) (List.map (fun p => [V.str (HPair.key p), V.int IntKind.u8 (HPair.kind p), V.int IntKind.i64 (HPair.num p), V.str (HPair.text p)]) (HMail.head m)))), bx := [] : DRes }))) (cond (N.headCheck (List.map (fun r => { key := V.toStr (List.getD r (0 : Nat) V.undef), kind := V.toInt (List.getD r (1 : Nat) V.undef), num := V.toInt (List.getD r (2 : Nat) V.undef), text := V.toStr (List.getD r (3 : Nat) V.undef) : HPair }) (List.map (fun p => [V.str (HPair.key p), V.int IntKind.u8 (HPair.kind p), V.int IntKind.i64 (HPair.num p), V.str (HPair.text p)]) (HMail.head m))) == (0 : Int)) (cond (ilt (4 : Int) (HMail.hops m)) (some { v := V.int IntKind.i64 (7 : Int), bx := [] : DRes }) (some { v := V.int IntKind.i64 (N.headCheck (List.map (fun r => { key := V.toStr (List.getD r (0 : Nat) V.undef), kind := V.toInt (List.getD r (1 : Nat) V.undef), num := V.toInt (List.getD r (2 : Nat) V.undef), text := V.toStr (List.getD r (3 : Nat) V.undef) : HPair }) (List.map (fun p => [V.str (HPair.key p), V.int IntKind.u8 (HPair.kind p), V.int IntKind.i64 (HPair.num p), V.str (HPair.text p)]) (HMail.head m)))), bx := [] : DRes })) (some { v := V.int IntKind.i64 (N.headCheck (List.map (fun r => { key := V.toStr (List.getD r (0 : Nat) V.undef), kind := V.toInt (List.getD r (1 : Nat) V.undef), num := V.toInt (List.getD r (2 : Nat) V.undef), text := V.toStr (List.getD r (3 : Nat) V.undef) : HPair }) (List.map (fun p => [V.str (HPair.key p), V.int IntKind.u8 (HPair.kind p), V.int IntKind.i64 (HPair.num p), V.str (HPair.text p)]) (HMail.head m)))), bx := [] : DRes }))) (cond (N.name (HMail.shop m) == (0 : Int)) (cond (ilt (256 : Int) (↑(List.length (HMail.body m)) : Int)) (some { v := V.int IntKind.i64 (5 : Int), bx := [] : DRes }) (cond (N.name (HMail.shop m) == (0 : Int)) (cond (ilt (4 : Int) (HMail.hops m)) (some { v := V.int IntKind.i64 (7 : Int), bx := [] : DRes }) (some { v := V.int IntKind.i64 (N.name (HMail.shop m)), bx := [] : DRes })) (some { v := V.int IntKind.i64 (N.name (HMail.shop m)), bx := [] : DRes }))) (cond (N.name (HMail.shop m) == (0 : Int)) (cond (ilt (4 : Int) (HMail.hops m)) (some { v := V.int IntKind.i64 (7 : Int), bx := [] : DRes }) (some { v := V.int IntKind.i64 (N.name (HMail.shop m)), bx := [] : DRes })) (some { v := V.int IntKind.i64 (N.name (HMail.shop m)), bx := [] : DRes })))) := by kernel_rfl
theorem ok_mailCheck : FnOk Tryd.prog 42 dMailCheck := by
  refine den_okF (env_ok ((((TOk.nil _).cons ok_headCheck).cons ok_key).cons ok_name)) (E := eMailCheck) Tryd.func42 [] (by kernel_rfl) none0 fun m _ _ => ?_
  refine (q_mailCheck m).trans ?_
  show _ = some (⟨.int .i64 (N.mailCheck m), [], []⟩ : DRes)
  unfold N.mailCheck
  simp only [pairs_enc]
  cases h1 : N.name m.shop != 0 <;> cases h2 : N.key m.key [] != 0 <;> cases h3 : N.headCheck m.head != 0 <;> cases h4 : ilt 256 (m.body.length : Int) <;> cases h5 : ilt 4 m.hops <;> simp only [cond_true, cond_false]
theorem ok_refMailCheck : FnOk Tryd.prog 40 dMailCheck := by
  refine den_okF (env_ok ((((TOk.nil _).cons ok_refCheck).cons ok_refKey).cons ok_refName)) (E := eRefMailCheck) Tryd.func40 [] (by kernel_rfl) none0 fun m _ _ => ?_
  refine (q_refMailCheck m).trans ?_
  show _ = some (⟨.int .i64 (N.mailCheck m), [], []⟩ : DRes)
  unfold N.mailCheck
  simp only [pairs_enc, key_eq, bne]
  cases h1 : N.name m.shop == 0 with
  | false => simp only [Bool.not_false, cond_true, cond_false]
  | true =>
    cases h2 : N.refKey m.key false == 0 with
    | false => simp only [Bool.not_false, Bool.not_true, cond_true, cond_false]
    | true =>
      cases h3 : N.headCheck m.head == 0 with
      | false => simp only [Bool.not_false, Bool.not_true, cond_true, cond_false]
      | true =>
        have e3 := ieq_of h3
        rw [e3]
        cases h4 : ilt 256 (m.body.length : Int) <;> cases h5 : ilt 4 m.hops <;> first | rfl | simp only [Bool.not_false, Bool.not_true, cond_true, cond_false, h3, h4, h5]
noncomputable def eMailSame : Env := env Tryd.prog [(60, dSameP)] [] []
theorem q_mailSame (a b : HMail) : evFn eMailSame 24 ((aCons (vAgg cMail) (aOne (vAgg cMail))).enc (a, b)) ([]) some =
 cond (HMail.id a == HMail.id b) (cond (HMail.shop a == HMail.shop b) (cond (HMail.key a == HMail.key b) (cond (Nat.ble (List.length (List.map (fun r => { key := V.toStr (List.getD r (0 : Nat) V.undef), kind := V.toInt (List.getD r (1 : Nat) V.undef), num := V.toInt (List.getD r (2 : Nat) V.undef), text := V.toStr (List.getD r (3 : Nat) V.undef) : HPair }) (List.map (fun p => [V.str (HPair.key p), V.int IntKind.u8 (HPair.kind p), V.int IntKind.i64 (HPair.num p), V.str (HPair.text p)]) (HMail.head a)))) (1000000 : Nat)) (cond (N.samePs (List.map (fun r => { key := V.toStr (List.getD r (0 : Nat) V.undef), kind := V.toInt (List.getD r (1 : Nat) V.undef), num := V.toInt (List.getD r (2 : Nat) V.undef), text := V.toStr (List.getD r (3 : Nat) V.undef) : HPair }) (List.map (fun p => [V.str (HPair.key p), V.int IntKind.u8 (HPair.kind p), V.int IntKind.i64 (HPair.num p), V.str (HPair.text p)]) (HMail.head a))) (List.map (fun r => { key := V.toStr (List.getD r (0 : Nat) V.undef), kind := V.toInt (List.getD r (1 : Nat) V.undef), num := V.toInt (List.getD r (2 : Nat) V.undef), text := V.toStr (List.getD r (3 : Nat) V.undef) : HPair }) (List.map (fun p => [V.str (HPair.key p), V.int IntKind.u8 (HPair.kind p), V.int IntKind.i64 (HPair.num p), V.str (HPair.text p)]) (HMail.head b)))) (cond (HMail.body a == HMail.body b) (cond (HMail.due a == HMail.due b) (some { v := V.bool (HMail.hops a == HMail.hops b), bx := [] : DRes }) (some { v := V.bool false, bx := [] : DRes })) (some { v := V.bool false, bx := [] : DRes })) (some { v := V.bool false, bx := [] : DRes })) (none)) (some { v := V.bool false, bx := [] : DRes })) (some { v := V.bool false, bx := [] : DRes })) (some { v := V.bool false, bx := [] : DRes }) := by kernel_rfl
noncomputable def eRefMailSame : Env := env Tryd.prog [(61, dSameP)] [] []
theorem q_refMailSame (a b : HMail) : evFn eRefMailSame 25 ((aCons (vAgg cMail) (aOne (vAgg cMail))).enc (a, b)) ([]) some =
 cond (HMail.id a == HMail.id b) (cond (HMail.shop a == HMail.shop b) (cond (HMail.key a == HMail.key b) (cond (Nat.ble (List.length (List.map (fun r => { key := V.toStr (List.getD r (0 : Nat) V.undef), kind := V.toInt (List.getD r (1 : Nat) V.undef), num := V.toInt (List.getD r (2 : Nat) V.undef), text := V.toStr (List.getD r (3 : Nat) V.undef) : HPair }) (List.map (fun p => [V.str (HPair.key p), V.int IntKind.u8 (HPair.kind p), V.int IntKind.i64 (HPair.num p), V.str (HPair.text p)]) (HMail.head a)))) (1000000 : Nat)) (cond (N.samePs (List.map (fun r => { key := V.toStr (List.getD r (0 : Nat) V.undef), kind := V.toInt (List.getD r (1 : Nat) V.undef), num := V.toInt (List.getD r (2 : Nat) V.undef), text := V.toStr (List.getD r (3 : Nat) V.undef) : HPair }) (List.map (fun p => [V.str (HPair.key p), V.int IntKind.u8 (HPair.kind p), V.int IntKind.i64 (HPair.num p), V.str (HPair.text p)]) (HMail.head a))) (List.map (fun r => { key := V.toStr (List.getD r (0 : Nat) V.undef), kind := V.toInt (List.getD r (1 : Nat) V.undef), num := V.toInt (List.getD r (2 : Nat) V.undef), text := V.toStr (List.getD r (3 : Nat) V.undef) : HPair }) (List.map (fun p => [V.str (HPair.key p), V.int IntKind.u8 (HPair.kind p), V.int IntKind.i64 (HPair.num p), V.str (HPair.text p)]) (HMail.head b)))) (cond (HMail.body a == HMail.body b) (cond (HMail.due a == HMail.due b) (some { v := V.bool (HMail.hops a == HMail.hops b), bx := [] : DRes }) (some { v := V.bool false, bx := [] : DRes })) (some { v := V.bool false, bx := [] : DRes })) (some { v := V.bool false, bx := [] : DRes })) (none)) (some { v := V.bool false, bx := [] : DRes })) (some { v := V.bool false, bx := [] : DRes })) (some { v := V.bool false, bx := [] : DRes }) := by kernel_rfl
theorem ok_mailSame : FnOk Tryd.prog 24 dMailSame := by
  refine den_okF (env_ok ((TOk.nil _).cons ok_hsame)) (E := eMailSame) Tryd.func24 [] (by kernel_rfl) none0 fun a _ h => ?_
  obtain ⟨a, b⟩ := a
  have h : a.head.length ≤ 1000000 := ble_of h
  refine (q_mailSame a b).trans ?_
  show _ = some (⟨.bool (N.mailSame a b), [], []⟩ : DRes)
  unfold N.mailSame
  cases a.id == b.id <;> cases a.shop == b.shop <;> cases a.key == b.key <;> first | rfl | skip
  simp (disch := omega) only [evs, pairs_enc]
  cases N.samePs a.head b.head <;> cases a.body == b.body <;> cases a.due == b.due <;> rfl
theorem ok_refMailSame : FnOk Tryd.prog 25 dMailSame := by
  refine den_okF (env_ok ((TOk.nil _).cons ok_refSame)) (E := eRefMailSame) Tryd.func25 [] (by kernel_rfl) none0 fun a _ h => ?_
  obtain ⟨a, b⟩ := a
  have h : a.head.length ≤ 1000000 := ble_of h
  refine (q_refMailSame a b).trans ?_
  show _ = some (⟨.bool (N.mailSame a b), [], []⟩ : DRes)
  unfold N.mailSame
  cases a.id == b.id <;> cases a.shop == b.shop <;> cases a.key == b.key <;> first | rfl | skip
  simp (disch := omega) only [evs, pairs_enc]
  cases N.samePs a.head b.head <;> cases a.body == b.body <;> cases a.due == b.due <;> rfl
noncomputable def eLightM : Env := env Tryd.prog [(13, dLight)] [] []
theorem q_lightM (m : HMail) : evFn eLightM 22 ((aOne (vAgg cMail)).enc m) ([]) some =
 cond (ile (↑(List.length (HMail.shop m)) : Int) (40 : Int)) (cond (ile (↑(List.length (HMail.key m)) : Int) (100 : Int)) (cond (N.light (List.map (fun r => { key := V.toStr (List.getD r (0 : Nat) V.undef), kind := V.toInt (List.getD r (1 : Nat) V.undef), num := V.toInt (List.getD r (2 : Nat) V.undef), text := V.toStr (List.getD r (3 : Nat) V.undef) : HPair }) (List.map (fun p => [V.str (HPair.key p), V.int IntKind.u8 (HPair.kind p), V.int IntKind.i64 (HPair.num p), V.str (HPair.text p)]) (HMail.head m)))) (some { v := V.bool (ile (↑(List.length (HMail.body m)) : Int) (300 : Int)), bx := [] : DRes }) (some { v := V.bool false, bx := [] : DRes })) (some { v := V.bool false, bx := [] : DRes })) (some { v := V.bool false, bx := [] : DRes }) := by kernel_rfl
theorem ok_lightM : FnOk Tryd.prog 22 dLightM := by
  refine den_okF (env_ok ((TOk.nil _).cons ok_light)) (E := eLightM) Tryd.func22 [] (by kernel_rfl) none0 fun m _ _ => ?_
  refine (q_lightM m).trans ?_
  show _ = some (⟨.bool (N.lightM m), [], []⟩ : DRes)
  unfold N.lightM
  simp only [pairs_enc]
  cases ile (m.shop.length : Int) 40 <;> cases ile (m.key.length : Int) 100 <;> cases N.light m.head <;> rfl
theorem nrm_rows (h : List HPair) : (h.map (fun p => [V.str p.key, V.int .u8 p.kind, V.int .i64 p.num, V.str p.text])).map (fun r => ({ key := V.toStr (List.getD r 0 .undef), kind := V.toInt (List.getD r 1 .undef), num := V.toInt (List.getD r 2 .undef), text := V.toStr (List.getD r 3 .undef) } : HPair)) = h := rowsP_enc h
noncomputable def eMailRead : Env := env Tryd.prog [(65, dNum), (66, dInText), (67, dHeadRead), (37, dInErr), (68, dFail), (42, dMailCheck)] [] []
theorem q_mailRead (i : InS) : evFn eMailRead 35 ((aOne (vPtr 0)).enc ()) ((bOne cIn).enc i) some =
 cond (InS.err (Prod.snd (N.inNum (Prod.snd (N.inNum (Prod.snd (N.inText (Prod.snd (N.headRead (Prod.snd (N.inText (Prod.snd (N.inText (Prod.snd (N.inNum i (8 : Int))) (16 : Int))) (64 : Int))))) (256 : Int))) (8 : Int))) (1 : Int))) == (0 : Int)) (cond (InS.err (N.inFail (Prod.snd (N.inNum (Prod.snd (N.inNum (Prod.snd (N.inText (Prod.snd (N.headRead (Prod.snd (N.inText (Prod.snd (N.inText (Prod.snd (N.inNum i (8 : Int))) (16 : Int))) (64 : Int))))) (256 : Int))) (8 : Int))) (1 : Int))) (N.mailCheck { id := Prod.fst (N.inNum i (8 : Int)), shop := Prod.fst (N.inText (Prod.snd (N.inNum i (8 : Int))) (16 : Int)), key := Prod.fst (N.inText (Prod.snd (N.inText (Prod.snd (N.inNum i (8 : Int))) (16 : Int))) (64 : Int)), head := List.map (fun r => { key := V.toStr (List.getD r (0 : Nat) V.undef), kind := V.toInt (List.getD r (1 : Nat) V.undef), num := V.toInt (List.getD r (2 : Nat) V.undef), text := V.toStr (List.getD r (3 : Nat) V.undef) : HPair }) (List.map (fun p => [V.str (HPair.key p), V.int IntKind.u8 (HPair.kind p), V.int IntKind.i64 (HPair.num p), V.str (HPair.text p)]) (Prod.fst (N.headRead (Prod.snd (N.inText (Prod.snd (N.inText (Prod.snd (N.inNum i (8 : Int))) (16 : Int))) (64 : Int)))))), body := Prod.fst (N.inText (Prod.snd (N.headRead (Prod.snd (N.inText (Prod.snd (N.inText (Prod.snd (N.inNum i (8 : Int))) (16 : Int))) (64 : Int))))) (256 : Int)), due := Prod.fst (N.inNum (Prod.snd (N.inText (Prod.snd (N.headRead (Prod.snd (N.inText (Prod.snd (N.inText (Prod.snd (N.inNum i (8 : Int))) (16 : Int))) (64 : Int))))) (256 : Int))) (8 : Int)), hops := IntKind.wrap IntKind.u8 (Prod.fst (N.inNum (Prod.snd (N.inNum (Prod.snd (N.inText (Prod.snd (N.headRead (Prod.snd (N.inText (Prod.snd (N.inText (Prod.snd (N.inNum i (8 : Int))) (16 : Int))) (64 : Int))))) (256 : Int))) (8 : Int))) (1 : Int))) : HMail })) != (0 : Int)) (some { v := V.agg [V.int IntKind.u64 (0 : Int), V.str [], V.str [], V.slc [Sh.str, Sh.int IntKind.u8, Sh.int IntKind.i64, Sh.str] [], V.str [], V.int IntKind.u64 (0 : Int), V.int IntKind.u8 (0 : Int)], bx := [[V.str (InS.s (N.inFail (Prod.snd (N.inNum (Prod.snd (N.inNum (Prod.snd (N.inText (Prod.snd (N.headRead (Prod.snd (N.inText (Prod.snd (N.inText (Prod.snd (N.inNum i (8 : Int))) (16 : Int))) (64 : Int))))) (256 : Int))) (8 : Int))) (1 : Int))) (N.mailCheck { id := Prod.fst (N.inNum i (8 : Int)), shop := Prod.fst (N.inText (Prod.snd (N.inNum i (8 : Int))) (16 : Int)), key := Prod.fst (N.inText (Prod.snd (N.inText (Prod.snd (N.inNum i (8 : Int))) (16 : Int))) (64 : Int)), head := List.map (fun r => { key := V.toStr (List.getD r (0 : Nat) V.undef), kind := V.toInt (List.getD r (1 : Nat) V.undef), num := V.toInt (List.getD r (2 : Nat) V.undef), text := V.toStr (List.getD r (3 : Nat) V.undef) : HPair }) (List.map (fun p => [V.str (HPair.key p), V.int IntKind.u8 (HPair.kind p), V.int IntKind.i64 (HPair.num p), V.str (HPair.text p)]) (Prod.fst (N.headRead (Prod.snd (N.inText (Prod.snd (N.inText (Prod.snd (N.inNum i (8 : Int))) (16 : Int))) (64 : Int)))))), body := Prod.fst (N.inText (Prod.snd (N.headRead (Prod.snd (N.inText (Prod.snd (N.inText (Prod.snd (N.inNum i (8 : Int))) (16 : Int))) (64 : Int))))) (256 : Int)), due := Prod.fst (N.inNum (Prod.snd (N.inText (Prod.snd (N.headRead (Prod.snd (N.inText (Prod.snd (N.inText (Prod.snd (N.inNum i (8 : Int))) (16 : Int))) (64 : Int))))) (256 : Int))) (8 : Int)), hops := IntKind.wrap IntKind.u8 (Prod.fst (N.inNum (Prod.snd (N.inNum (Prod.snd (N.inText (Prod.snd (N.headRead (Prod.snd (N.inText (Prod.snd (N.inText (Prod.snd (N.inNum i (8 : Int))) (16 : Int))) (64 : Int))))) (256 : Int))) (8 : Int))) (1 : Int))) : HMail }))), V.int IntKind.i64 (InS.err (N.inFail (Prod.snd (N.inNum (Prod.snd (N.inNum (Prod.snd (N.inText (Prod.snd (N.headRead (Prod.snd (N.inText (Prod.snd (N.inText (Prod.snd (N.inNum i (8 : Int))) (16 : Int))) (64 : Int))))) (256 : Int))) (8 : Int))) (1 : Int))) (N.mailCheck { id := Prod.fst (N.inNum i (8 : Int)), shop := Prod.fst (N.inText (Prod.snd (N.inNum i (8 : Int))) (16 : Int)), key := Prod.fst (N.inText (Prod.snd (N.inText (Prod.snd (N.inNum i (8 : Int))) (16 : Int))) (64 : Int)), head := List.map (fun r => { key := V.toStr (List.getD r (0 : Nat) V.undef), kind := V.toInt (List.getD r (1 : Nat) V.undef), num := V.toInt (List.getD r (2 : Nat) V.undef), text := V.toStr (List.getD r (3 : Nat) V.undef) : HPair }) (List.map (fun p => [V.str (HPair.key p), V.int IntKind.u8 (HPair.kind p), V.int IntKind.i64 (HPair.num p), V.str (HPair.text p)]) (Prod.fst (N.headRead (Prod.snd (N.inText (Prod.snd (N.inText (Prod.snd (N.inNum i (8 : Int))) (16 : Int))) (64 : Int)))))), body := Prod.fst (N.inText (Prod.snd (N.headRead (Prod.snd (N.inText (Prod.snd (N.inText (Prod.snd (N.inNum i (8 : Int))) (16 : Int))) (64 : Int))))) (256 : Int)), due := Prod.fst (N.inNum (Prod.snd (N.inText (Prod.snd (N.headRead (Prod.snd (N.inText (Prod.snd (N.inText (Prod.snd (N.inNum i (8 : Int))) (16 : Int))) (64 : Int))))) (256 : Int))) (8 : Int)), hops := IntKind.wrap IntKind.u8 (Prod.fst (N.inNum (Prod.snd (N.inNum (Prod.snd (N.inText (Prod.snd (N.headRead (Prod.snd (N.inText (Prod.snd (N.inText (Prod.snd (N.inNum i (8 : Int))) (16 : Int))) (64 : Int))))) (256 : Int))) (8 : Int))) (1 : Int))) : HMail })))]] : DRes }) (some { v := V.agg [V.int IntKind.u64 (Prod.fst (N.inNum i (8 : Int))), V.str (Prod.fst (N.inText (Prod.snd (N.inNum i (8 : Int))) (16 : Int))), V.str (Prod.fst (N.inText (Prod.snd (N.inText (Prod.snd (N.inNum i (8 : Int))) (16 : Int))) (64 : Int))), V.slc [Sh.str, Sh.int IntKind.u8, Sh.int IntKind.i64, Sh.str] (List.map (fun p => [V.str (HPair.key p), V.int IntKind.u8 (HPair.kind p), V.int IntKind.i64 (HPair.num p), V.str (HPair.text p)]) (Prod.fst (N.headRead (Prod.snd (N.inText (Prod.snd (N.inText (Prod.snd (N.inNum i (8 : Int))) (16 : Int))) (64 : Int)))))), V.str (Prod.fst (N.inText (Prod.snd (N.headRead (Prod.snd (N.inText (Prod.snd (N.inText (Prod.snd (N.inNum i (8 : Int))) (16 : Int))) (64 : Int))))) (256 : Int))), V.int IntKind.u64 (Prod.fst (N.inNum (Prod.snd (N.inText (Prod.snd (N.headRead (Prod.snd (N.inText (Prod.snd (N.inText (Prod.snd (N.inNum i (8 : Int))) (16 : Int))) (64 : Int))))) (256 : Int))) (8 : Int))), V.int IntKind.u8 (IntKind.wrap IntKind.u8 (Prod.fst (N.inNum (Prod.snd (N.inNum (Prod.snd (N.inText (Prod.snd (N.headRead (Prod.snd (N.inText (Prod.snd (N.inText (Prod.snd (N.inNum i (8 : Int))) (16 : Int))) (64 : Int))))) (256 : Int))) (8 : Int))) (1 : Int))))], bx := [[V.str (InS.s (N.inFail (Prod.snd (N.inNum (Prod.snd (N.inNum (Prod.snd (N.inText (Prod.snd (N.headRead (Prod.snd (N.inText (Prod.snd (N.inText (Prod.snd (N.inNum i (8 : Int))) (16 : Int))) (64 : Int))))) (256 : Int))) (8 : Int))) (1 : Int))) (N.mailCheck { id := Prod.fst (N.inNum i (8 : Int)), shop := Prod.fst (N.inText (Prod.snd (N.inNum i (8 : Int))) (16 : Int)), key := Prod.fst (N.inText (Prod.snd (N.inText (Prod.snd (N.inNum i (8 : Int))) (16 : Int))) (64 : Int)), head := List.map (fun r => { key := V.toStr (List.getD r (0 : Nat) V.undef), kind := V.toInt (List.getD r (1 : Nat) V.undef), num := V.toInt (List.getD r (2 : Nat) V.undef), text := V.toStr (List.getD r (3 : Nat) V.undef) : HPair }) (List.map (fun p => [V.str (HPair.key p), V.int IntKind.u8 (HPair.kind p), V.int IntKind.i64 (HPair.num p), V.str (HPair.text p)]) (Prod.fst (N.headRead (Prod.snd (N.inText (Prod.snd (N.inText (Prod.snd (N.inNum i (8 : Int))) (16 : Int))) (64 : Int)))))), body := Prod.fst (N.inText (Prod.snd (N.headRead (Prod.snd (N.inText (Prod.snd (N.inText (Prod.snd (N.inNum i (8 : Int))) (16 : Int))) (64 : Int))))) (256 : Int)), due := Prod.fst (N.inNum (Prod.snd (N.inText (Prod.snd (N.headRead (Prod.snd (N.inText (Prod.snd (N.inText (Prod.snd (N.inNum i (8 : Int))) (16 : Int))) (64 : Int))))) (256 : Int))) (8 : Int)), hops := IntKind.wrap IntKind.u8 (Prod.fst (N.inNum (Prod.snd (N.inNum (Prod.snd (N.inText (Prod.snd (N.headRead (Prod.snd (N.inText (Prod.snd (N.inText (Prod.snd (N.inNum i (8 : Int))) (16 : Int))) (64 : Int))))) (256 : Int))) (8 : Int))) (1 : Int))) : HMail }))), V.int IntKind.i64 (InS.err (N.inFail (Prod.snd (N.inNum (Prod.snd (N.inNum (Prod.snd (N.inText (Prod.snd (N.headRead (Prod.snd (N.inText (Prod.snd (N.inText (Prod.snd (N.inNum i (8 : Int))) (16 : Int))) (64 : Int))))) (256 : Int))) (8 : Int))) (1 : Int))) (N.mailCheck { id := Prod.fst (N.inNum i (8 : Int)), shop := Prod.fst (N.inText (Prod.snd (N.inNum i (8 : Int))) (16 : Int)), key := Prod.fst (N.inText (Prod.snd (N.inText (Prod.snd (N.inNum i (8 : Int))) (16 : Int))) (64 : Int)), head := List.map (fun r => { key := V.toStr (List.getD r (0 : Nat) V.undef), kind := V.toInt (List.getD r (1 : Nat) V.undef), num := V.toInt (List.getD r (2 : Nat) V.undef), text := V.toStr (List.getD r (3 : Nat) V.undef) : HPair }) (List.map (fun p => [V.str (HPair.key p), V.int IntKind.u8 (HPair.kind p), V.int IntKind.i64 (HPair.num p), V.str (HPair.text p)]) (Prod.fst (N.headRead (Prod.snd (N.inText (Prod.snd (N.inText (Prod.snd (N.inNum i (8 : Int))) (16 : Int))) (64 : Int)))))), body := Prod.fst (N.inText (Prod.snd (N.headRead (Prod.snd (N.inText (Prod.snd (N.inText (Prod.snd (N.inNum i (8 : Int))) (16 : Int))) (64 : Int))))) (256 : Int)), due := Prod.fst (N.inNum (Prod.snd (N.inText (Prod.snd (N.headRead (Prod.snd (N.inText (Prod.snd (N.inText (Prod.snd (N.inNum i (8 : Int))) (16 : Int))) (64 : Int))))) (256 : Int))) (8 : Int)), hops := IntKind.wrap IntKind.u8 (Prod.fst (N.inNum (Prod.snd (N.inNum (Prod.snd (N.inText (Prod.snd (N.headRead (Prod.snd (N.inText (Prod.snd (N.inText (Prod.snd (N.inNum i (8 : Int))) (16 : Int))) (64 : Int))))) (256 : Int))) (8 : Int))) (1 : Int))) : HMail })))]] : DRes })) (cond (InS.err (Prod.snd (N.inNum (Prod.snd (N.inNum (Prod.snd (N.inText (Prod.snd (N.headRead (Prod.snd (N.inText (Prod.snd (N.inText (Prod.snd (N.inNum i (8 : Int))) (16 : Int))) (64 : Int))))) (256 : Int))) (8 : Int))) (1 : Int))) != (0 : Int)) (some { v := V.agg [V.int IntKind.u64 (0 : Int), V.str [], V.str [], V.slc [Sh.str, Sh.int IntKind.u8, Sh.int IntKind.i64, Sh.str] [], V.str [], V.int IntKind.u64 (0 : Int), V.int IntKind.u8 (0 : Int)], bx := [[V.str (InS.s (Prod.snd (N.inNum (Prod.snd (N.inNum (Prod.snd (N.inText (Prod.snd (N.headRead (Prod.snd (N.inText (Prod.snd (N.inText (Prod.snd (N.inNum i (8 : Int))) (16 : Int))) (64 : Int))))) (256 : Int))) (8 : Int))) (1 : Int)))), V.int IntKind.i64 (InS.err (Prod.snd (N.inNum (Prod.snd (N.inNum (Prod.snd (N.inText (Prod.snd (N.headRead (Prod.snd (N.inText (Prod.snd (N.inText (Prod.snd (N.inNum i (8 : Int))) (16 : Int))) (64 : Int))))) (256 : Int))) (8 : Int))) (1 : Int))))]] : DRes }) (some { v := V.agg [V.int IntKind.u64 (Prod.fst (N.inNum i (8 : Int))), V.str (Prod.fst (N.inText (Prod.snd (N.inNum i (8 : Int))) (16 : Int))), V.str (Prod.fst (N.inText (Prod.snd (N.inText (Prod.snd (N.inNum i (8 : Int))) (16 : Int))) (64 : Int))), V.slc [Sh.str, Sh.int IntKind.u8, Sh.int IntKind.i64, Sh.str] (List.map (fun p => [V.str (HPair.key p), V.int IntKind.u8 (HPair.kind p), V.int IntKind.i64 (HPair.num p), V.str (HPair.text p)]) (Prod.fst (N.headRead (Prod.snd (N.inText (Prod.snd (N.inText (Prod.snd (N.inNum i (8 : Int))) (16 : Int))) (64 : Int)))))), V.str (Prod.fst (N.inText (Prod.snd (N.headRead (Prod.snd (N.inText (Prod.snd (N.inText (Prod.snd (N.inNum i (8 : Int))) (16 : Int))) (64 : Int))))) (256 : Int))), V.int IntKind.u64 (Prod.fst (N.inNum (Prod.snd (N.inText (Prod.snd (N.headRead (Prod.snd (N.inText (Prod.snd (N.inText (Prod.snd (N.inNum i (8 : Int))) (16 : Int))) (64 : Int))))) (256 : Int))) (8 : Int))), V.int IntKind.u8 (IntKind.wrap IntKind.u8 (Prod.fst (N.inNum (Prod.snd (N.inNum (Prod.snd (N.inText (Prod.snd (N.headRead (Prod.snd (N.inText (Prod.snd (N.inText (Prod.snd (N.inNum i (8 : Int))) (16 : Int))) (64 : Int))))) (256 : Int))) (8 : Int))) (1 : Int))))], bx := [[V.str (InS.s (Prod.snd (N.inNum (Prod.snd (N.inNum (Prod.snd (N.inText (Prod.snd (N.headRead (Prod.snd (N.inText (Prod.snd (N.inText (Prod.snd (N.inNum i (8 : Int))) (16 : Int))) (64 : Int))))) (256 : Int))) (8 : Int))) (1 : Int)))), V.int IntKind.i64 (InS.err (Prod.snd (N.inNum (Prod.snd (N.inNum (Prod.snd (N.inText (Prod.snd (N.headRead (Prod.snd (N.inText (Prod.snd (N.inText (Prod.snd (N.inNum i (8 : Int))) (16 : Int))) (64 : Int))))) (256 : Int))) (8 : Int))) (1 : Int))))]] : DRes })) := by kernel_rfl
noncomputable def eRMail : Env := env Tryd.prog [(69, dRNum), (70, dRText), (71, dRHead), (72, dRFail), (40, dMailCheck)] [] []
theorem q_rMail (q : RIn) : evFn eRMail 36 ((aOne (vPtr 0)).enc ()) ((bOne cRIn).enc q) some =
 cond (N.goodR q) (cond (N.goodR (Prod.snd (N.rNum q (8 : Int)))) (cond (N.goodR (Prod.snd (N.rText (Prod.snd (N.rNum q (8 : Int))) (16 : Int)))) (cond (N.goodR (Prod.snd (N.rText (Prod.snd (N.rText (Prod.snd (N.rNum q (8 : Int))) (16 : Int))) (64 : Int)))) (cond (N.goodR (Prod.snd (N.rHead (Prod.snd (N.rText (Prod.snd (N.rText (Prod.snd (N.rNum q (8 : Int))) (16 : Int))) (64 : Int)))))) (cond (N.goodR (Prod.snd (N.rText (Prod.snd (N.rHead (Prod.snd (N.rText (Prod.snd (N.rText (Prod.snd (N.rNum q (8 : Int))) (16 : Int))) (64 : Int))))) (256 : Int)))) (cond (N.goodR (Prod.snd (N.rNum (Prod.snd (N.rText (Prod.snd (N.rHead (Prod.snd (N.rText (Prod.snd (N.rText (Prod.snd (N.rNum q (8 : Int))) (16 : Int))) (64 : Int))))) (256 : Int))) (8 : Int)))) (cond (RIn.code (Prod.snd (N.rNum (Prod.snd (N.rNum (Prod.snd (N.rText (Prod.snd (N.rHead (Prod.snd (N.rText (Prod.snd (N.rText (Prod.snd (N.rNum q (8 : Int))) (16 : Int))) (64 : Int))))) (256 : Int))) (8 : Int))) (1 : Int))) == (0 : Int)) (cond (RIn.code (N.rFail (Prod.snd (N.rNum (Prod.snd (N.rNum (Prod.snd (N.rText (Prod.snd (N.rHead (Prod.snd (N.rText (Prod.snd (N.rText (Prod.snd (N.rNum q (8 : Int))) (16 : Int))) (64 : Int))))) (256 : Int))) (8 : Int))) (1 : Int))) (N.mailCheck { id := Prod.fst (N.rNum q (8 : Int)), shop := Prod.fst (N.rText (Prod.snd (N.rNum q (8 : Int))) (16 : Int)), key := Prod.fst (N.rText (Prod.snd (N.rText (Prod.snd (N.rNum q (8 : Int))) (16 : Int))) (64 : Int)), head := List.map (fun r => { key := V.toStr (List.getD r (0 : Nat) V.undef), kind := V.toInt (List.getD r (1 : Nat) V.undef), num := V.toInt (List.getD r (2 : Nat) V.undef), text := V.toStr (List.getD r (3 : Nat) V.undef) : HPair }) (List.map (fun p => [V.str (HPair.key p), V.int IntKind.u8 (HPair.kind p), V.int IntKind.i64 (HPair.num p), V.str (HPair.text p)]) (Prod.fst (N.rHead (Prod.snd (N.rText (Prod.snd (N.rText (Prod.snd (N.rNum q (8 : Int))) (16 : Int))) (64 : Int)))))), body := Prod.fst (N.rText (Prod.snd (N.rHead (Prod.snd (N.rText (Prod.snd (N.rText (Prod.snd (N.rNum q (8 : Int))) (16 : Int))) (64 : Int))))) (256 : Int)), due := Prod.fst (N.rNum (Prod.snd (N.rText (Prod.snd (N.rHead (Prod.snd (N.rText (Prod.snd (N.rText (Prod.snd (N.rNum q (8 : Int))) (16 : Int))) (64 : Int))))) (256 : Int))) (8 : Int)), hops := IntKind.wrap IntKind.u8 (Prod.fst (N.rNum (Prod.snd (N.rNum (Prod.snd (N.rText (Prod.snd (N.rHead (Prod.snd (N.rText (Prod.snd (N.rText (Prod.snd (N.rNum q (8 : Int))) (16 : Int))) (64 : Int))))) (256 : Int))) (8 : Int))) (1 : Int))) : HMail })) != (0 : Int)) (some { v := V.agg [V.int IntKind.u64 (0 : Int), V.str [], V.str [], V.slc [Sh.str, Sh.int IntKind.u8, Sh.int IntKind.i64, Sh.str] [], V.str [], V.int IntKind.u64 (0 : Int), V.int IntKind.u8 (0 : Int)], bx := [[V.str (RIn.s (N.rFail (Prod.snd (N.rNum (Prod.snd (N.rNum (Prod.snd (N.rText (Prod.snd (N.rHead (Prod.snd (N.rText (Prod.snd (N.rText (Prod.snd (N.rNum q (8 : Int))) (16 : Int))) (64 : Int))))) (256 : Int))) (8 : Int))) (1 : Int))) (N.mailCheck { id := Prod.fst (N.rNum q (8 : Int)), shop := Prod.fst (N.rText (Prod.snd (N.rNum q (8 : Int))) (16 : Int)), key := Prod.fst (N.rText (Prod.snd (N.rText (Prod.snd (N.rNum q (8 : Int))) (16 : Int))) (64 : Int)), head := List.map (fun r => { key := V.toStr (List.getD r (0 : Nat) V.undef), kind := V.toInt (List.getD r (1 : Nat) V.undef), num := V.toInt (List.getD r (2 : Nat) V.undef), text := V.toStr (List.getD r (3 : Nat) V.undef) : HPair }) (List.map (fun p => [V.str (HPair.key p), V.int IntKind.u8 (HPair.kind p), V.int IntKind.i64 (HPair.num p), V.str (HPair.text p)]) (Prod.fst (N.rHead (Prod.snd (N.rText (Prod.snd (N.rText (Prod.snd (N.rNum q (8 : Int))) (16 : Int))) (64 : Int)))))), body := Prod.fst (N.rText (Prod.snd (N.rHead (Prod.snd (N.rText (Prod.snd (N.rText (Prod.snd (N.rNum q (8 : Int))) (16 : Int))) (64 : Int))))) (256 : Int)), due := Prod.fst (N.rNum (Prod.snd (N.rText (Prod.snd (N.rHead (Prod.snd (N.rText (Prod.snd (N.rText (Prod.snd (N.rNum q (8 : Int))) (16 : Int))) (64 : Int))))) (256 : Int))) (8 : Int)), hops := IntKind.wrap IntKind.u8 (Prod.fst (N.rNum (Prod.snd (N.rNum (Prod.snd (N.rText (Prod.snd (N.rHead (Prod.snd (N.rText (Prod.snd (N.rText (Prod.snd (N.rNum q (8 : Int))) (16 : Int))) (64 : Int))))) (256 : Int))) (8 : Int))) (1 : Int))) : HMail }))), V.int IntKind.i64 (RIn.at' (N.rFail (Prod.snd (N.rNum (Prod.snd (N.rNum (Prod.snd (N.rText (Prod.snd (N.rHead (Prod.snd (N.rText (Prod.snd (N.rText (Prod.snd (N.rNum q (8 : Int))) (16 : Int))) (64 : Int))))) (256 : Int))) (8 : Int))) (1 : Int))) (N.mailCheck { id := Prod.fst (N.rNum q (8 : Int)), shop := Prod.fst (N.rText (Prod.snd (N.rNum q (8 : Int))) (16 : Int)), key := Prod.fst (N.rText (Prod.snd (N.rText (Prod.snd (N.rNum q (8 : Int))) (16 : Int))) (64 : Int)), head := List.map (fun r => { key := V.toStr (List.getD r (0 : Nat) V.undef), kind := V.toInt (List.getD r (1 : Nat) V.undef), num := V.toInt (List.getD r (2 : Nat) V.undef), text := V.toStr (List.getD r (3 : Nat) V.undef) : HPair }) (List.map (fun p => [V.str (HPair.key p), V.int IntKind.u8 (HPair.kind p), V.int IntKind.i64 (HPair.num p), V.str (HPair.text p)]) (Prod.fst (N.rHead (Prod.snd (N.rText (Prod.snd (N.rText (Prod.snd (N.rNum q (8 : Int))) (16 : Int))) (64 : Int)))))), body := Prod.fst (N.rText (Prod.snd (N.rHead (Prod.snd (N.rText (Prod.snd (N.rText (Prod.snd (N.rNum q (8 : Int))) (16 : Int))) (64 : Int))))) (256 : Int)), due := Prod.fst (N.rNum (Prod.snd (N.rText (Prod.snd (N.rHead (Prod.snd (N.rText (Prod.snd (N.rText (Prod.snd (N.rNum q (8 : Int))) (16 : Int))) (64 : Int))))) (256 : Int))) (8 : Int)), hops := IntKind.wrap IntKind.u8 (Prod.fst (N.rNum (Prod.snd (N.rNum (Prod.snd (N.rText (Prod.snd (N.rHead (Prod.snd (N.rText (Prod.snd (N.rText (Prod.snd (N.rNum q (8 : Int))) (16 : Int))) (64 : Int))))) (256 : Int))) (8 : Int))) (1 : Int))) : HMail }))), V.int IntKind.i64 (RIn.code (N.rFail (Prod.snd (N.rNum (Prod.snd (N.rNum (Prod.snd (N.rText (Prod.snd (N.rHead (Prod.snd (N.rText (Prod.snd (N.rText (Prod.snd (N.rNum q (8 : Int))) (16 : Int))) (64 : Int))))) (256 : Int))) (8 : Int))) (1 : Int))) (N.mailCheck { id := Prod.fst (N.rNum q (8 : Int)), shop := Prod.fst (N.rText (Prod.snd (N.rNum q (8 : Int))) (16 : Int)), key := Prod.fst (N.rText (Prod.snd (N.rText (Prod.snd (N.rNum q (8 : Int))) (16 : Int))) (64 : Int)), head := List.map (fun r => { key := V.toStr (List.getD r (0 : Nat) V.undef), kind := V.toInt (List.getD r (1 : Nat) V.undef), num := V.toInt (List.getD r (2 : Nat) V.undef), text := V.toStr (List.getD r (3 : Nat) V.undef) : HPair }) (List.map (fun p => [V.str (HPair.key p), V.int IntKind.u8 (HPair.kind p), V.int IntKind.i64 (HPair.num p), V.str (HPair.text p)]) (Prod.fst (N.rHead (Prod.snd (N.rText (Prod.snd (N.rText (Prod.snd (N.rNum q (8 : Int))) (16 : Int))) (64 : Int)))))), body := Prod.fst (N.rText (Prod.snd (N.rHead (Prod.snd (N.rText (Prod.snd (N.rText (Prod.snd (N.rNum q (8 : Int))) (16 : Int))) (64 : Int))))) (256 : Int)), due := Prod.fst (N.rNum (Prod.snd (N.rText (Prod.snd (N.rHead (Prod.snd (N.rText (Prod.snd (N.rText (Prod.snd (N.rNum q (8 : Int))) (16 : Int))) (64 : Int))))) (256 : Int))) (8 : Int)), hops := IntKind.wrap IntKind.u8 (Prod.fst (N.rNum (Prod.snd (N.rNum (Prod.snd (N.rText (Prod.snd (N.rHead (Prod.snd (N.rText (Prod.snd (N.rText (Prod.snd (N.rNum q (8 : Int))) (16 : Int))) (64 : Int))))) (256 : Int))) (8 : Int))) (1 : Int))) : HMail })))]] : DRes }) (some { v := V.agg [V.int IntKind.u64 (Prod.fst (N.rNum q (8 : Int))), V.str (Prod.fst (N.rText (Prod.snd (N.rNum q (8 : Int))) (16 : Int))), V.str (Prod.fst (N.rText (Prod.snd (N.rText (Prod.snd (N.rNum q (8 : Int))) (16 : Int))) (64 : Int))), V.slc [Sh.str, Sh.int IntKind.u8, Sh.int IntKind.i64, Sh.str] (List.map (fun p => [V.str (HPair.key p), V.int IntKind.u8 (HPair.kind p), V.int IntKind.i64 (HPair.num p), V.str (HPair.text p)]) (Prod.fst (N.rHead (Prod.snd (N.rText (Prod.snd (N.rText (Prod.snd (N.rNum q (8 : Int))) (16 : Int))) (64 : Int)))))), V.str (Prod.fst (N.rText (Prod.snd (N.rHead (Prod.snd (N.rText (Prod.snd (N.rText (Prod.snd (N.rNum q (8 : Int))) (16 : Int))) (64 : Int))))) (256 : Int))), V.int IntKind.u64 (Prod.fst (N.rNum (Prod.snd (N.rText (Prod.snd (N.rHead (Prod.snd (N.rText (Prod.snd (N.rText (Prod.snd (N.rNum q (8 : Int))) (16 : Int))) (64 : Int))))) (256 : Int))) (8 : Int))), V.int IntKind.u8 (IntKind.wrap IntKind.u8 (Prod.fst (N.rNum (Prod.snd (N.rNum (Prod.snd (N.rText (Prod.snd (N.rHead (Prod.snd (N.rText (Prod.snd (N.rText (Prod.snd (N.rNum q (8 : Int))) (16 : Int))) (64 : Int))))) (256 : Int))) (8 : Int))) (1 : Int))))], bx := [[V.str (RIn.s (N.rFail (Prod.snd (N.rNum (Prod.snd (N.rNum (Prod.snd (N.rText (Prod.snd (N.rHead (Prod.snd (N.rText (Prod.snd (N.rText (Prod.snd (N.rNum q (8 : Int))) (16 : Int))) (64 : Int))))) (256 : Int))) (8 : Int))) (1 : Int))) (N.mailCheck { id := Prod.fst (N.rNum q (8 : Int)), shop := Prod.fst (N.rText (Prod.snd (N.rNum q (8 : Int))) (16 : Int)), key := Prod.fst (N.rText (Prod.snd (N.rText (Prod.snd (N.rNum q (8 : Int))) (16 : Int))) (64 : Int)), head := List.map (fun r => { key := V.toStr (List.getD r (0 : Nat) V.undef), kind := V.toInt (List.getD r (1 : Nat) V.undef), num := V.toInt (List.getD r (2 : Nat) V.undef), text := V.toStr (List.getD r (3 : Nat) V.undef) : HPair }) (List.map (fun p => [V.str (HPair.key p), V.int IntKind.u8 (HPair.kind p), V.int IntKind.i64 (HPair.num p), V.str (HPair.text p)]) (Prod.fst (N.rHead (Prod.snd (N.rText (Prod.snd (N.rText (Prod.snd (N.rNum q (8 : Int))) (16 : Int))) (64 : Int)))))), body := Prod.fst (N.rText (Prod.snd (N.rHead (Prod.snd (N.rText (Prod.snd (N.rText (Prod.snd (N.rNum q (8 : Int))) (16 : Int))) (64 : Int))))) (256 : Int)), due := Prod.fst (N.rNum (Prod.snd (N.rText (Prod.snd (N.rHead (Prod.snd (N.rText (Prod.snd (N.rText (Prod.snd (N.rNum q (8 : Int))) (16 : Int))) (64 : Int))))) (256 : Int))) (8 : Int)), hops := IntKind.wrap IntKind.u8 (Prod.fst (N.rNum (Prod.snd (N.rNum (Prod.snd (N.rText (Prod.snd (N.rHead (Prod.snd (N.rText (Prod.snd (N.rText (Prod.snd (N.rNum q (8 : Int))) (16 : Int))) (64 : Int))))) (256 : Int))) (8 : Int))) (1 : Int))) : HMail }))), V.int IntKind.i64 (RIn.at' (N.rFail (Prod.snd (N.rNum (Prod.snd (N.rNum (Prod.snd (N.rText (Prod.snd (N.rHead (Prod.snd (N.rText (Prod.snd (N.rText (Prod.snd (N.rNum q (8 : Int))) (16 : Int))) (64 : Int))))) (256 : Int))) (8 : Int))) (1 : Int))) (N.mailCheck { id := Prod.fst (N.rNum q (8 : Int)), shop := Prod.fst (N.rText (Prod.snd (N.rNum q (8 : Int))) (16 : Int)), key := Prod.fst (N.rText (Prod.snd (N.rText (Prod.snd (N.rNum q (8 : Int))) (16 : Int))) (64 : Int)), head := List.map (fun r => { key := V.toStr (List.getD r (0 : Nat) V.undef), kind := V.toInt (List.getD r (1 : Nat) V.undef), num := V.toInt (List.getD r (2 : Nat) V.undef), text := V.toStr (List.getD r (3 : Nat) V.undef) : HPair }) (List.map (fun p => [V.str (HPair.key p), V.int IntKind.u8 (HPair.kind p), V.int IntKind.i64 (HPair.num p), V.str (HPair.text p)]) (Prod.fst (N.rHead (Prod.snd (N.rText (Prod.snd (N.rText (Prod.snd (N.rNum q (8 : Int))) (16 : Int))) (64 : Int)))))), body := Prod.fst (N.rText (Prod.snd (N.rHead (Prod.snd (N.rText (Prod.snd (N.rText (Prod.snd (N.rNum q (8 : Int))) (16 : Int))) (64 : Int))))) (256 : Int)), due := Prod.fst (N.rNum (Prod.snd (N.rText (Prod.snd (N.rHead (Prod.snd (N.rText (Prod.snd (N.rText (Prod.snd (N.rNum q (8 : Int))) (16 : Int))) (64 : Int))))) (256 : Int))) (8 : Int)), hops := IntKind.wrap IntKind.u8 (Prod.fst (N.rNum (Prod.snd (N.rNum (Prod.snd (N.rText (Prod.snd (N.rHead (Prod.snd (N.rText (Prod.snd (N.rText (Prod.snd (N.rNum q (8 : Int))) (16 : Int))) (64 : Int))))) (256 : Int))) (8 : Int))) (1 : Int))) : HMail }))), V.int IntKind.i64 (RIn.code (N.rFail (Prod.snd (N.rNum (Prod.snd (N.rNum (Prod.snd (N.rText (Prod.snd (N.rHead (Prod.snd (N.rText (Prod.snd (N.rText (Prod.snd (N.rNum q (8 : Int))) (16 : Int))) (64 : Int))))) (256 : Int))) (8 : Int))) (1 : Int))) (N.mailCheck { id := Prod.fst (N.rNum q (8 : Int)), shop := Prod.fst (N.rText (Prod.snd (N.rNum q (8 : Int))) (16 : Int)), key := Prod.fst (N.rText (Prod.snd (N.rText (Prod.snd (N.rNum q (8 : Int))) (16 : Int))) (64 : Int)), head := List.map (fun r => { key := V.toStr (List.getD r (0 : Nat) V.undef), kind := V.toInt (List.getD r (1 : Nat) V.undef), num := V.toInt (List.getD r (2 : Nat) V.undef), text := V.toStr (List.getD r (3 : Nat) V.undef) : HPair }) (List.map (fun p => [V.str (HPair.key p), V.int IntKind.u8 (HPair.kind p), V.int IntKind.i64 (HPair.num p), V.str (HPair.text p)]) (Prod.fst (N.rHead (Prod.snd (N.rText (Prod.snd (N.rText (Prod.snd (N.rNum q (8 : Int))) (16 : Int))) (64 : Int)))))), body := Prod.fst (N.rText (Prod.snd (N.rHead (Prod.snd (N.rText (Prod.snd (N.rText (Prod.snd (N.rNum q (8 : Int))) (16 : Int))) (64 : Int))))) (256 : Int)), due := Prod.fst (N.rNum (Prod.snd (N.rText (Prod.snd (N.rHead (Prod.snd (N.rText (Prod.snd (N.rText (Prod.snd (N.rNum q (8 : Int))) (16 : Int))) (64 : Int))))) (256 : Int))) (8 : Int)), hops := IntKind.wrap IntKind.u8 (Prod.fst (N.rNum (Prod.snd (N.rNum (Prod.snd (N.rText (Prod.snd (N.rHead (Prod.snd (N.rText (Prod.snd (N.rText (Prod.snd (N.rNum q (8 : Int))) (16 : Int))) (64 : Int))))) (256 : Int))) (8 : Int))) (1 : Int))) : HMail })))]] : DRes })) (cond (RIn.code (Prod.snd (N.rNum (Prod.snd (N.rNum (Prod.snd (N.rText (Prod.snd (N.rHead (Prod.snd (N.rText (Prod.snd (N.rText (Prod.snd (N.rNum q (8 : Int))) (16 : Int))) (64 : Int))))) (256 : Int))) (8 : Int))) (1 : Int))) != (0 : Int)) (some { v := V.agg [V.int IntKind.u64 (0 : Int), V.str [], V.str [], V.slc [Sh.str, Sh.int IntKind.u8, Sh.int IntKind.i64, Sh.str] [], V.str [], V.int IntKind.u64 (0 : Int), V.int IntKind.u8 (0 : Int)], bx := [[V.str (RIn.s (Prod.snd (N.rNum (Prod.snd (N.rNum (Prod.snd (N.rText (Prod.snd (N.rHead (Prod.snd (N.rText (Prod.snd (N.rText (Prod.snd (N.rNum q (8 : Int))) (16 : Int))) (64 : Int))))) (256 : Int))) (8 : Int))) (1 : Int)))), V.int IntKind.i64 (RIn.at' (Prod.snd (N.rNum (Prod.snd (N.rNum (Prod.snd (N.rText (Prod.snd (N.rHead (Prod.snd (N.rText (Prod.snd (N.rText (Prod.snd (N.rNum q (8 : Int))) (16 : Int))) (64 : Int))))) (256 : Int))) (8 : Int))) (1 : Int)))), V.int IntKind.i64 (RIn.code (Prod.snd (N.rNum (Prod.snd (N.rNum (Prod.snd (N.rText (Prod.snd (N.rHead (Prod.snd (N.rText (Prod.snd (N.rText (Prod.snd (N.rNum q (8 : Int))) (16 : Int))) (64 : Int))))) (256 : Int))) (8 : Int))) (1 : Int))))]] : DRes }) (some { v := V.agg [V.int IntKind.u64 (Prod.fst (N.rNum q (8 : Int))), V.str (Prod.fst (N.rText (Prod.snd (N.rNum q (8 : Int))) (16 : Int))), V.str (Prod.fst (N.rText (Prod.snd (N.rText (Prod.snd (N.rNum q (8 : Int))) (16 : Int))) (64 : Int))), V.slc [Sh.str, Sh.int IntKind.u8, Sh.int IntKind.i64, Sh.str] (List.map (fun p => [V.str (HPair.key p), V.int IntKind.u8 (HPair.kind p), V.int IntKind.i64 (HPair.num p), V.str (HPair.text p)]) (Prod.fst (N.rHead (Prod.snd (N.rText (Prod.snd (N.rText (Prod.snd (N.rNum q (8 : Int))) (16 : Int))) (64 : Int)))))), V.str (Prod.fst (N.rText (Prod.snd (N.rHead (Prod.snd (N.rText (Prod.snd (N.rText (Prod.snd (N.rNum q (8 : Int))) (16 : Int))) (64 : Int))))) (256 : Int))), V.int IntKind.u64 (Prod.fst (N.rNum (Prod.snd (N.rText (Prod.snd (N.rHead (Prod.snd (N.rText (Prod.snd (N.rText (Prod.snd (N.rNum q (8 : Int))) (16 : Int))) (64 : Int))))) (256 : Int))) (8 : Int))), V.int IntKind.u8 (IntKind.wrap IntKind.u8 (Prod.fst (N.rNum (Prod.snd (N.rNum (Prod.snd (N.rText (Prod.snd (N.rHead (Prod.snd (N.rText (Prod.snd (N.rText (Prod.snd (N.rNum q (8 : Int))) (16 : Int))) (64 : Int))))) (256 : Int))) (8 : Int))) (1 : Int))))], bx := [[V.str (RIn.s (Prod.snd (N.rNum (Prod.snd (N.rNum (Prod.snd (N.rText (Prod.snd (N.rHead (Prod.snd (N.rText (Prod.snd (N.rText (Prod.snd (N.rNum q (8 : Int))) (16 : Int))) (64 : Int))))) (256 : Int))) (8 : Int))) (1 : Int)))), V.int IntKind.i64 (RIn.at' (Prod.snd (N.rNum (Prod.snd (N.rNum (Prod.snd (N.rText (Prod.snd (N.rHead (Prod.snd (N.rText (Prod.snd (N.rText (Prod.snd (N.rNum q (8 : Int))) (16 : Int))) (64 : Int))))) (256 : Int))) (8 : Int))) (1 : Int)))), V.int IntKind.i64 (RIn.code (Prod.snd (N.rNum (Prod.snd (N.rNum (Prod.snd (N.rText (Prod.snd (N.rHead (Prod.snd (N.rText (Prod.snd (N.rText (Prod.snd (N.rNum q (8 : Int))) (16 : Int))) (64 : Int))))) (256 : Int))) (8 : Int))) (1 : Int))))]] : DRes }))) (none)) (none)) (none)) (none)) (none)) (none)) (none) := by kernel_rfl
theorem ok_mailRead : FnOk Tryd.prog 35 dMailRead := by
  refine den_okF (env_ok (((((((TOk.nil _).cons ok_mailCheck).cons ok_fail).cons ok_inErr).cons ok_headRead).cons ok_inText).cons ok_num)) (E := eMailRead) Tryd.func35 [] (by kernel_rfl) none0 fun _ i _ => ?_
  refine (q_mailRead i).trans ?_
  show _ = some (⟨.agg (cMail.enc (N.mailRead i).1), [cIn.enc (N.mailRead i).2], []⟩ : DRes)
  simp only [nrm_rows]
  unfold N.mailRead
  dsimp only
  generalize N.inNum i 8 = a
  generalize N.inText a.2 16 = b
  generalize N.inText b.2 64 = c
  generalize N.headRead c.2 = d
  generalize N.inText d.2 256 = e
  generalize N.inNum e.2 8 = f
  generalize N.inNum f.2 1 = g
  unfold N.mailEnd
  cases h1 : g.2.err == 0 with
  | true =>
    simp only [cond_true]
    generalize N.inFail g.2 _ = z
    cases z.err != 0 <;> rfl
  | false =>
    simp only [cond_false]
    cases g.2.err != 0 <;> rfl
theorem ok_rMail : FnOk Tryd.prog 36 dRMail := by
  refine den_okF (env_ok ((((((TOk.nil _).cons ok_refMailCheck).cons ok_rFail).cons ok_rHead).cons ok_rText).cons ok_rNum)) (E := eRMail) Tryd.func36 [] (by kernel_rfl) none0 fun _ q h => ?_
  refine (q_rMail q).trans ?_
  show _ = some (⟨.agg (cMail.enc (N.rMail q).1), [cRIn.enc (N.rMail q).2], []⟩ : DRes)
  have h : N.goodR q = true := h
  have g1 := good_num h 8
  have g2 := good_text g1 16
  have g3 := good_text g2 64
  have g4 := rl_good (rl_read (good_rl g3).1).2 (good_rl g3).2
  have g5 := good_text g4 256
  have g6 := good_num g5 8
  have g7 := good_num g6 1
  simp only [nrm_rows]
  unfold N.rMail
  dsimp only
  generalize N.rNum q 8 = a at *
  generalize N.rText a.2 16 = b at *
  generalize N.rText b.2 64 = c at *
  generalize N.rHead c.2 = d at *
  generalize N.rText d.2 256 = e at *
  generalize N.rNum e.2 8 = f at *
  generalize N.rNum f.2 1 = g at *
  rw [h, g1, g2, g3, g4, g5, g6]
  simp only [cond_true]
  unfold N.rMailEnd
  cases h1 : g.2.code == 0 with
  | true =>
    simp only [cond_true]
    generalize N.rFail g.2 _ = z
    cases z.code != 0 <;> rfl
  | false =>
    simp only [cond_false]
    cases g.2.code != 0 <;> rfl
theorem numB8 (n : Int) : N.outNum ⟨[], 0⟩ n 8 = ⟨N.numB n 8, 0⟩ := rfl
theorem raw_le (x s : Bytes) : N.outRaw ⟨x, 0⟩ s = ⟨x ++ s, 0⟩ := rfl
noncomputable def eMailBytes : Env := env Tryd.prog [(42, dMailCheck), (74, dHeadBytes), (75, dOutNum), (76, dOutText), (77, dOutRaw), (78, dOutString)] [] []
theorem q_mailBytes (m : HMail) : evFn eMailBytes 41 ((aOne (vAgg cMail)).enc m) ([]) some =
 cond (N.mailCheck { id := HMail.id m, shop := HMail.shop m, key := HMail.key m, head := List.map (fun r => { key := V.toStr (List.getD r (0 : Nat) V.undef), kind := V.toInt (List.getD r (1 : Nat) V.undef), num := V.toInt (List.getD r (2 : Nat) V.undef), text := V.toStr (List.getD r (3 : Nat) V.undef) : HPair }) (List.map (fun p => [V.str (HPair.key p), V.int IntKind.u8 (HPair.kind p), V.int IntKind.i64 (HPair.num p), V.str (HPair.text p)]) (HMail.head m)), body := HMail.body m, due := HMail.due m, hops := HMail.hops m : HMail } != (0 : Int)) (some { v := V.tup [V.str [], V.int IntKind.i64 (N.mailCheck { id := HMail.id m, shop := HMail.shop m, key := HMail.key m, head := List.map (fun r => { key := V.toStr (List.getD r (0 : Nat) V.undef), kind := V.toInt (List.getD r (1 : Nat) V.undef), num := V.toInt (List.getD r (2 : Nat) V.undef), text := V.toStr (List.getD r (3 : Nat) V.undef) : HPair }) (List.map (fun p => [V.str (HPair.key p), V.int IntKind.u8 (HPair.kind p), V.int IntKind.i64 (HPair.num p), V.str (HPair.text p)]) (HMail.head m)), body := HMail.body m, due := HMail.due m, hops := HMail.hops m : HMail })], bx := [] : DRes }) (cond (bif ile (0 : Int) (HMail.id m) then bif ilt (HMail.id m) (18446744073709551616 : Int) then true else false else false) (cond (Nat.ble ((8 : Nat) + List.length (HMail.shop m)) (9223372036854775790 : Nat)) (cond (Nat.ble (List.length (OutS.s (N.outText (N.outNum { s := [], err := (0 : Int) : OutS } (HMail.id m) (8 : Int)) (HMail.shop m))) + List.length (HMail.key m)) (9223372036854775790 : Nat)) (cond (Nat.ble (List.length (OutS.s (N.outText (N.outText (N.outNum { s := [], err := (0 : Int) : OutS } (HMail.id m) (8 : Int)) (HMail.shop m)) (HMail.key m))) + List.length (Prod.fst (bif N.headCheck (List.map (fun r => { key := V.toStr (List.getD r (0 : Nat) V.undef), kind := V.toInt (List.getD r (1 : Nat) V.undef), num := V.toInt (List.getD r (2 : Nat) V.undef), text := V.toStr (List.getD r (3 : Nat) V.undef) : HPair }) (List.map (fun p => [V.str (HPair.key p), V.int IntKind.u8 (HPair.kind p), V.int IntKind.i64 (HPair.num p), V.str (HPair.text p)]) (HMail.head m))) != (0 : Int) then ([], N.headCheck (List.map (fun r => { key := V.toStr (List.getD r (0 : Nat) V.undef), kind := V.toInt (List.getD r (1 : Nat) V.undef), num := V.toInt (List.getD r (2 : Nat) V.undef), text := V.toStr (List.getD r (3 : Nat) V.undef) : HPair }) (List.map (fun p => [V.str (HPair.key p), V.int IntKind.u8 (HPair.kind p), V.int IntKind.i64 (HPair.num p), V.str (HPair.text p)]) (HMail.head m)))) else (N.headBytes (List.map (fun r => { key := V.toStr (List.getD r (0 : Nat) V.undef), kind := V.toInt (List.getD r (1 : Nat) V.undef), num := V.toInt (List.getD r (2 : Nat) V.undef), text := V.toStr (List.getD r (3 : Nat) V.undef) : HPair }) (List.map (fun p => [V.str (HPair.key p), V.int IntKind.u8 (HPair.kind p), V.int IntKind.i64 (HPair.num p), V.str (HPair.text p)]) (HMail.head m))), (0 : Int))))) (9223372036854775807 : Nat)) (cond (Nat.ble (List.length (OutS.s (N.outRaw (N.outText (N.outText (N.outNum { s := [], err := (0 : Int) : OutS } (HMail.id m) (8 : Int)) (HMail.shop m)) (HMail.key m)) (Prod.fst (bif N.headCheck (List.map (fun r => { key := V.toStr (List.getD r (0 : Nat) V.undef), kind := V.toInt (List.getD r (1 : Nat) V.undef), num := V.toInt (List.getD r (2 : Nat) V.undef), text := V.toStr (List.getD r (3 : Nat) V.undef) : HPair }) (List.map (fun p => [V.str (HPair.key p), V.int IntKind.u8 (HPair.kind p), V.int IntKind.i64 (HPair.num p), V.str (HPair.text p)]) (HMail.head m))) != (0 : Int) then ([], N.headCheck (List.map (fun r => { key := V.toStr (List.getD r (0 : Nat) V.undef), kind := V.toInt (List.getD r (1 : Nat) V.undef), num := V.toInt (List.getD r (2 : Nat) V.undef), text := V.toStr (List.getD r (3 : Nat) V.undef) : HPair }) (List.map (fun p => [V.str (HPair.key p), V.int IntKind.u8 (HPair.kind p), V.int IntKind.i64 (HPair.num p), V.str (HPair.text p)]) (HMail.head m)))) else (N.headBytes (List.map (fun r => { key := V.toStr (List.getD r (0 : Nat) V.undef), kind := V.toInt (List.getD r (1 : Nat) V.undef), num := V.toInt (List.getD r (2 : Nat) V.undef), text := V.toStr (List.getD r (3 : Nat) V.undef) : HPair }) (List.map (fun p => [V.str (HPair.key p), V.int IntKind.u8 (HPair.kind p), V.int IntKind.i64 (HPair.num p), V.str (HPair.text p)]) (HMail.head m))), (0 : Int)))))) + List.length (HMail.body m)) (9223372036854775790 : Nat)) (cond (bif ile (0 : Int) (HMail.due m) then bif ilt (HMail.due m) (18446744073709551616 : Int) then Nat.ble (List.length (OutS.s (N.outText (N.outRaw (N.outText (N.outText (N.outNum { s := [], err := (0 : Int) : OutS } (HMail.id m) (8 : Int)) (HMail.shop m)) (HMail.key m)) (Prod.fst (bif N.headCheck (List.map (fun r => { key := V.toStr (List.getD r (0 : Nat) V.undef), kind := V.toInt (List.getD r (1 : Nat) V.undef), num := V.toInt (List.getD r (2 : Nat) V.undef), text := V.toStr (List.getD r (3 : Nat) V.undef) : HPair }) (List.map (fun p => [V.str (HPair.key p), V.int IntKind.u8 (HPair.kind p), V.int IntKind.i64 (HPair.num p), V.str (HPair.text p)]) (HMail.head m))) != (0 : Int) then ([], N.headCheck (List.map (fun r => { key := V.toStr (List.getD r (0 : Nat) V.undef), kind := V.toInt (List.getD r (1 : Nat) V.undef), num := V.toInt (List.getD r (2 : Nat) V.undef), text := V.toStr (List.getD r (3 : Nat) V.undef) : HPair }) (List.map (fun p => [V.str (HPair.key p), V.int IntKind.u8 (HPair.kind p), V.int IntKind.i64 (HPair.num p), V.str (HPair.text p)]) (HMail.head m)))) else (N.headBytes (List.map (fun r => { key := V.toStr (List.getD r (0 : Nat) V.undef), kind := V.toInt (List.getD r (1 : Nat) V.undef), num := V.toInt (List.getD r (2 : Nat) V.undef), text := V.toStr (List.getD r (3 : Nat) V.undef) : HPair }) (List.map (fun p => [V.str (HPair.key p), V.int IntKind.u8 (HPair.kind p), V.int IntKind.i64 (HPair.num p), V.str (HPair.text p)]) (HMail.head m))), (0 : Int))))) (HMail.body m)))) (9223372036854775799 : Nat) else false else false) (cond (bif ile (0 : Int) (IntKind.wrap IntKind.u64 (HMail.hops m)) then bif ilt (IntKind.wrap IntKind.u64 (HMail.hops m)) (18446744073709551616 : Int) then Nat.ble (List.length (OutS.s (N.outNum (N.outText (N.outRaw (N.outText (N.outText (N.outNum { s := [], err := (0 : Int) : OutS } (HMail.id m) (8 : Int)) (HMail.shop m)) (HMail.key m)) (Prod.fst (bif N.headCheck (List.map (fun r => { key := V.toStr (List.getD r (0 : Nat) V.undef), kind := V.toInt (List.getD r (1 : Nat) V.undef), num := V.toInt (List.getD r (2 : Nat) V.undef), text := V.toStr (List.getD r (3 : Nat) V.undef) : HPair }) (List.map (fun p => [V.str (HPair.key p), V.int IntKind.u8 (HPair.kind p), V.int IntKind.i64 (HPair.num p), V.str (HPair.text p)]) (HMail.head m))) != (0 : Int) then ([], N.headCheck (List.map (fun r => { key := V.toStr (List.getD r (0 : Nat) V.undef), kind := V.toInt (List.getD r (1 : Nat) V.undef), num := V.toInt (List.getD r (2 : Nat) V.undef), text := V.toStr (List.getD r (3 : Nat) V.undef) : HPair }) (List.map (fun p => [V.str (HPair.key p), V.int IntKind.u8 (HPair.kind p), V.int IntKind.i64 (HPair.num p), V.str (HPair.text p)]) (HMail.head m)))) else (N.headBytes (List.map (fun r => { key := V.toStr (List.getD r (0 : Nat) V.undef), kind := V.toInt (List.getD r (1 : Nat) V.undef), num := V.toInt (List.getD r (2 : Nat) V.undef), text := V.toStr (List.getD r (3 : Nat) V.undef) : HPair }) (List.map (fun p => [V.str (HPair.key p), V.int IntKind.u8 (HPair.kind p), V.int IntKind.i64 (HPair.num p), V.str (HPair.text p)]) (HMail.head m))), (0 : Int))))) (HMail.body m)) (HMail.due m) (8 : Int)))) (9223372036854775799 : Nat) else false else false) (some { v := V.tup [V.str (OutS.s (N.outNum (N.outNum (N.outText (N.outRaw (N.outText (N.outText (N.outNum { s := [], err := (0 : Int) : OutS } (HMail.id m) (8 : Int)) (HMail.shop m)) (HMail.key m)) (Prod.fst (bif N.headCheck (List.map (fun r => { key := V.toStr (List.getD r (0 : Nat) V.undef), kind := V.toInt (List.getD r (1 : Nat) V.undef), num := V.toInt (List.getD r (2 : Nat) V.undef), text := V.toStr (List.getD r (3 : Nat) V.undef) : HPair }) (List.map (fun p => [V.str (HPair.key p), V.int IntKind.u8 (HPair.kind p), V.int IntKind.i64 (HPair.num p), V.str (HPair.text p)]) (HMail.head m))) != (0 : Int) then ([], N.headCheck (List.map (fun r => { key := V.toStr (List.getD r (0 : Nat) V.undef), kind := V.toInt (List.getD r (1 : Nat) V.undef), num := V.toInt (List.getD r (2 : Nat) V.undef), text := V.toStr (List.getD r (3 : Nat) V.undef) : HPair }) (List.map (fun p => [V.str (HPair.key p), V.int IntKind.u8 (HPair.kind p), V.int IntKind.i64 (HPair.num p), V.str (HPair.text p)]) (HMail.head m)))) else (N.headBytes (List.map (fun r => { key := V.toStr (List.getD r (0 : Nat) V.undef), kind := V.toInt (List.getD r (1 : Nat) V.undef), num := V.toInt (List.getD r (2 : Nat) V.undef), text := V.toStr (List.getD r (3 : Nat) V.undef) : HPair }) (List.map (fun p => [V.str (HPair.key p), V.int IntKind.u8 (HPair.kind p), V.int IntKind.i64 (HPair.num p), V.str (HPair.text p)]) (HMail.head m))), (0 : Int))))) (HMail.body m)) (HMail.due m) (8 : Int)) (IntKind.wrap IntKind.u64 (HMail.hops m)) (1 : Int))), V.int IntKind.i64 (0 : Int)], bx := [] : DRes }) (none)) (none)) (none)) (none)) (none)) (none)) (none)) := by kernel_rfl
theorem mailCheck_fit {m : HMail} (h : N.mailCheck m = 0) : m.shop.length ≤ 16 ∧ m.key.length ≤ 64 ∧ N.headCheck m.head = 0 ∧ m.body.length ≤ 256 ∧ m.hops ≤ 4 ∧ N.name m.shop = 0 ∧ N.key m.key [] = 0 := by
  unfold N.mailCheck at h
  have key : ∀ x y : Int, cond (x != 0) x y = 0 → x = 0 ∧ y = 0 := fun x y h => by
    cases e : x != 0 with
    | true => rw [e, cond_true] at h; rw [h] at e; cases e
    | false => rw [e, cond_false] at h; exact ⟨by simpa using e, h⟩
  obtain ⟨h1, h⟩ := key _ _ h
  obtain ⟨h2, h⟩ := key _ _ h
  obtain ⟨h3, h⟩ := key _ _ h
  cases h4 : ilt 256 (m.body.length : Int) with
  | true => rw [h4] at h; cases h
  | false =>
    rw [h4] at h
    cases h5 : ilt 4 m.hops with
    | true => rw [h5] at h; cases h
    | false =>
      have a4 := ilt_nof h4
      have a5 := ilt_nof h5
      have a1 : m.shop.length ≤ 16 := by
        unfold N.name at h1
        cases e1 : m.shop == [] with
        | true => rw [e1] at h1; cases h1
        | false =>
          rw [e1] at h1
          cases e2 : ilt 16 m.shop.length with
          | true => rw [e2] at h1; cases h1
          | false => have := ilt_nof e2; omega
      have a2 : m.key.length ≤ 64 := by
        rw [key_eq] at h2
        exact refKey_len (b := false) (by rw [h2]; rfl)
      exact ⟨a1, a2, h3, by omega, a5, h1, h2⟩
theorem pairsB_len : ∀ {l : List HPair}, l.all N.fitP = true → (N.pairsB l).length ≤ 150 * l.length
  | [], _ => Nat.le_refl _
  | p :: r, h => by
    rw [List.all_cons, Bool.and_eq_true] at h
    have ih := pairsB_len h.2
    obtain ⟨f1, f2⟩ := bcond h.1
    have f1 := ble_of f1
    have f2 := ble_of f2
    have hlen : (N.pairB p).length ≤ 150 := by
      unfold N.pairB
      simp only [List.length_append, textB_len, numB_len]
      cases p.kind == 0 <;> cases p.kind == 1 <;> cases p.kind == 2 <;> simp only [cond_true, cond_false, numB_len, textB_len, List.length_nil] <;> omega
    show (N.pairB p ++ N.pairsB r).length ≤ _
    rw [List.length_append, List.length_cons]; omega
theorem headB_len {h : List HPair} (hz : N.headCheck h = 0) : (N.headBytes h).length ≤ 1201 := by
  obtain ⟨c1, c2⟩ := check_fit hz
  have := pairsB_len c2
  unfold N.headBytes
  rw [List.length_append, numB_len]; omega
theorem ok_mailBytes (hN : FnOk Tryd.prog 75 dOutNum) : FnOk Tryd.prog 41 dMailBytes := by
  refine den_okF (env_ok (((((((TOk.nil _).cons ok_outString).cons ok_outRaw).cons (ok_outText hN)).cons hN).cons (ok_headBytes hN)).cons ok_mailCheck)) (E := eMailBytes) Tryd.func41 [] (by kernel_rfl) none0 fun m _ h => ?_
  obtain ⟨id, shop, key, head, body, due, hops⟩ := m
  obtain ⟨b1, h⟩ := bcond h
  obtain ⟨b2, h⟩ := bcond h
  obtain ⟨i1, i2⟩ := bcond b1
  obtain ⟨i3, i4⟩ := bcond b2
  obtain ⟨i5, i6⟩ := bcond h
  simp only at i1 i2 i3 i4 i5 i6
  refine (q_mailBytes ⟨id, shop, key, head, body, due, hops⟩).trans ?_
  simp only [nrm_rows]
  show _ = some (⟨.tup [.str (cond (N.mailCheck ⟨id, shop, key, head, body, due, hops⟩ != 0) (([] : Bytes), N.mailCheck ⟨id, shop, key, head, body, due, hops⟩) (N.mailB ⟨id, shop, key, head, body, due, hops⟩, 0)).1,
    .int .i64 (cond (N.mailCheck ⟨id, shop, key, head, body, due, hops⟩ != 0) (([] : Bytes), N.mailCheck ⟨id, shop, key, head, body, due, hops⟩) (N.mailB ⟨id, shop, key, head, body, due, hops⟩, 0)).2], [], []⟩ : DRes)
  cases hc : N.mailCheck ⟨id, shop, key, head, body, due, hops⟩ != 0 with
  | true => rfl
  | false =>
    have hz : N.mailCheck ⟨id, shop, key, head, body, due, hops⟩ = 0 := by simpa using hc
    obtain ⟨c1, c2, c3, c4, c5, _⟩ := mailCheck_fit hz
    simp only at c1 c2 c3 c4 c5
    have hl := headB_len c3
    have wh : IntKind.wrap .u64 hops = hops := wrap_u64 (by have := ile_of i5; omega) (by omega)
    have i5' := ile_of i5
    have hb : cond (N.headCheck head != 0) (([] : Bytes), N.headCheck head) (N.headBytes head, 0) = (N.headBytes head, 0) := by rw [c3]; rfl
    have o1 : ∀ (x s : Bytes), s.length ≤ 65535 → N.outText ⟨x, 0⟩ s = ⟨x ++ N.textB s, 0⟩ := fun x s hs => outText_le hs
    unfold N.mailB
    simp only
    simp (disch := omega) only [evs, raw_le, i1, i2, i3, i4, o1, outNum_8, outNum_1, numB_len, textB_len, wh, List.nil_append]
noncomputable def eMailSize : Env := env Tryd.prog [(41, dMailBytes)] [] []
theorem q_mailSize (m : HMail) : evFn eMailSize 43 ((aOne (vAgg cMail)).enc m) ([]) some =
 cond (N.okM { id := HMail.id m, shop := HMail.shop m, key := HMail.key m, head := List.map (fun r => { key := V.toStr (List.getD r (0 : Nat) V.undef), kind := V.toInt (List.getD r (1 : Nat) V.undef), num := V.toInt (List.getD r (2 : Nat) V.undef), text := V.toStr (List.getD r (3 : Nat) V.undef) : HPair }) (List.map (fun p => [V.str (HPair.key p), V.int IntKind.u8 (HPair.kind p), V.int IntKind.i64 (HPair.num p), V.str (HPair.text p)]) (HMail.head m)), body := HMail.body m, due := HMail.due m, hops := HMail.hops m : HMail }) (some { v := V.int IntKind.i64 (↑(List.length (Prod.fst (bif N.mailCheck { id := HMail.id m, shop := HMail.shop m, key := HMail.key m, head := List.map (fun r => { key := V.toStr (List.getD r (0 : Nat) V.undef), kind := V.toInt (List.getD r (1 : Nat) V.undef), num := V.toInt (List.getD r (2 : Nat) V.undef), text := V.toStr (List.getD r (3 : Nat) V.undef) : HPair }) (List.map (fun p => [V.str (HPair.key p), V.int IntKind.u8 (HPair.kind p), V.int IntKind.i64 (HPair.num p), V.str (HPair.text p)]) (HMail.head m)), body := HMail.body m, due := HMail.due m, hops := HMail.hops m : HMail } != (0 : Int) then ([], N.mailCheck { id := HMail.id m, shop := HMail.shop m, key := HMail.key m, head := List.map (fun r => { key := V.toStr (List.getD r (0 : Nat) V.undef), kind := V.toInt (List.getD r (1 : Nat) V.undef), num := V.toInt (List.getD r (2 : Nat) V.undef), text := V.toStr (List.getD r (3 : Nat) V.undef) : HPair }) (List.map (fun p => [V.str (HPair.key p), V.int IntKind.u8 (HPair.kind p), V.int IntKind.i64 (HPair.num p), V.str (HPair.text p)]) (HMail.head m)), body := HMail.body m, due := HMail.due m, hops := HMail.hops m : HMail }) else (N.mailB { id := HMail.id m, shop := HMail.shop m, key := HMail.key m, head := List.map (fun r => { key := V.toStr (List.getD r (0 : Nat) V.undef), kind := V.toInt (List.getD r (1 : Nat) V.undef), num := V.toInt (List.getD r (2 : Nat) V.undef), text := V.toStr (List.getD r (3 : Nat) V.undef) : HPair }) (List.map (fun p => [V.str (HPair.key p), V.int IntKind.u8 (HPair.kind p), V.int IntKind.i64 (HPair.num p), V.str (HPair.text p)]) (HMail.head m)), body := HMail.body m, due := HMail.due m, hops := HMail.hops m : HMail }, (0 : Int))))) : Int), bx := [] : DRes }) (none) := by kernel_rfl
def N.fitM (m : HMail) : Bool := cond (N.okM m) (cond (Nat.ble m.shop.length 64) (cond (Nat.ble m.key.length 64) (cond (cond (Nat.ble m.head.length 8) (m.head.all N.fitP) false) (Nat.ble m.body.length 256) false) false) false) false
def N.refMailB (m : HMail) : Bytes := N.numB m.id 8 ++ N.textB m.shop ++ N.textB m.key ++ N.refHeadBytes m.head ++ N.textB m.body ++ N.numB m.due 8 ++ N.numB (IntKind.wrap .u64 m.hops) 1
def dRefMailB : Den := den (aOne (vAgg cMail)) bNil (oV vStr) (fun m _ => N.fitM m) fun m _ => (N.refMailB m, ())
noncomputable def eRefMailB : Env := env Tryd.prog [(80, dRefNum 8), (81, dRefText), (82, dRefBytes)] [] []
theorem q_refMailB (m : HMail) : evFn eRefMailB 45 ((aOne (vAgg cMail)).enc m) ([]) some =
 cond (bif ile (0 : Int) (HMail.id m) then bif ilt (HMail.id m) (18446744073709551616 : Int) then N.fuelOk (8 : Nat) (8 : Int) else false else false) (cond (Nat.ble (List.length (HMail.shop m)) (65535 : Nat)) (cond (Nat.ble ((8 : Nat) + List.length (N.textB (HMail.shop m))) (9223372036854775807 : Nat)) (cond (Nat.ble (List.length (HMail.key m)) (65535 : Nat)) (cond (Nat.ble (List.length (N.numB (HMail.id m) (N.clamp (8 : Int)) ++ N.textB (HMail.shop m)) + List.length (N.textB (HMail.key m))) (9223372036854775807 : Nat)) (cond (bif Nat.ble (List.length (List.map (fun r => { key := V.toStr (List.getD r (0 : Nat) V.undef), kind := V.toInt (List.getD r (1 : Nat) V.undef), num := V.toInt (List.getD r (2 : Nat) V.undef), text := V.toStr (List.getD r (3 : Nat) V.undef) : HPair }) (List.map (fun p => [V.str (HPair.key p), V.int IntKind.u8 (HPair.kind p), V.int IntKind.i64 (HPair.num p), V.str (HPair.text p)]) (HMail.head m)))) (8 : Nat) then List.all (List.map (fun r => { key := V.toStr (List.getD r (0 : Nat) V.undef), kind := V.toInt (List.getD r (1 : Nat) V.undef), num := V.toInt (List.getD r (2 : Nat) V.undef), text := V.toStr (List.getD r (3 : Nat) V.undef) : HPair }) (List.map (fun p => [V.str (HPair.key p), V.int IntKind.u8 (HPair.kind p), V.int IntKind.i64 (HPair.num p), V.str (HPair.text p)]) (HMail.head m))) N.fitP else false) (cond (Nat.ble (List.length (N.numB (HMail.id m) (N.clamp (8 : Int)) ++ N.textB (HMail.shop m) ++ N.textB (HMail.key m)) + List.length (N.refHeadBytes (List.map (fun r => { key := V.toStr (List.getD r (0 : Nat) V.undef), kind := V.toInt (List.getD r (1 : Nat) V.undef), num := V.toInt (List.getD r (2 : Nat) V.undef), text := V.toStr (List.getD r (3 : Nat) V.undef) : HPair }) (List.map (fun p => [V.str (HPair.key p), V.int IntKind.u8 (HPair.kind p), V.int IntKind.i64 (HPair.num p), V.str (HPair.text p)]) (HMail.head m))))) (9223372036854775807 : Nat)) (cond (Nat.ble (List.length (HMail.body m)) (65535 : Nat)) (cond (Nat.ble (List.length (N.numB (HMail.id m) (N.clamp (8 : Int)) ++ N.textB (HMail.shop m) ++ N.textB (HMail.key m) ++ N.refHeadBytes (List.map (fun r => { key := V.toStr (List.getD r (0 : Nat) V.undef), kind := V.toInt (List.getD r (1 : Nat) V.undef), num := V.toInt (List.getD r (2 : Nat) V.undef), text := V.toStr (List.getD r (3 : Nat) V.undef) : HPair }) (List.map (fun p => [V.str (HPair.key p), V.int IntKind.u8 (HPair.kind p), V.int IntKind.i64 (HPair.num p), V.str (HPair.text p)]) (HMail.head m)))) + List.length (N.textB (HMail.body m))) (9223372036854775807 : Nat)) (cond (bif ile (0 : Int) (HMail.due m) then bif ilt (HMail.due m) (18446744073709551616 : Int) then N.fuelOk (8 : Nat) (8 : Int) else false else false) (cond (Nat.ble (List.length (N.numB (HMail.id m) (N.clamp (8 : Int)) ++ N.textB (HMail.shop m) ++ N.textB (HMail.key m) ++ N.refHeadBytes (List.map (fun r => { key := V.toStr (List.getD r (0 : Nat) V.undef), kind := V.toInt (List.getD r (1 : Nat) V.undef), num := V.toInt (List.getD r (2 : Nat) V.undef), text := V.toStr (List.getD r (3 : Nat) V.undef) : HPair }) (List.map (fun p => [V.str (HPair.key p), V.int IntKind.u8 (HPair.kind p), V.int IntKind.i64 (HPair.num p), V.str (HPair.text p)]) (HMail.head m))) ++ N.textB (HMail.body m)) + (8 : Nat)) (9223372036854775807 : Nat)) (cond (bif ile (0 : Int) (IntKind.wrap IntKind.u64 (HMail.hops m)) then bif ilt (IntKind.wrap IntKind.u64 (HMail.hops m)) (18446744073709551616 : Int) then N.fuelOk (8 : Nat) (1 : Int) else false else false) (cond (Nat.ble (List.length (N.numB (HMail.id m) (N.clamp (8 : Int)) ++ N.textB (HMail.shop m) ++ N.textB (HMail.key m) ++ N.refHeadBytes (List.map (fun r => { key := V.toStr (List.getD r (0 : Nat) V.undef), kind := V.toInt (List.getD r (1 : Nat) V.undef), num := V.toInt (List.getD r (2 : Nat) V.undef), text := V.toStr (List.getD r (3 : Nat) V.undef) : HPair }) (List.map (fun p => [V.str (HPair.key p), V.int IntKind.u8 (HPair.kind p), V.int IntKind.i64 (HPair.num p), V.str (HPair.text p)]) (HMail.head m))) ++ N.textB (HMail.body m) ++ N.numB (HMail.due m) (N.clamp (8 : Int))) + (1 : Nat)) (9223372036854775807 : Nat)) (some { v := V.str (N.numB (HMail.id m) (N.clamp (8 : Int)) ++ N.textB (HMail.shop m) ++ N.textB (HMail.key m) ++ N.refHeadBytes (List.map (fun r => { key := V.toStr (List.getD r (0 : Nat) V.undef), kind := V.toInt (List.getD r (1 : Nat) V.undef), num := V.toInt (List.getD r (2 : Nat) V.undef), text := V.toStr (List.getD r (3 : Nat) V.undef) : HPair }) (List.map (fun p => [V.str (HPair.key p), V.int IntKind.u8 (HPair.kind p), V.int IntKind.i64 (HPair.num p), V.str (HPair.text p)]) (HMail.head m))) ++ N.textB (HMail.body m) ++ N.numB (HMail.due m) (N.clamp (8 : Int)) ++ N.numB (IntKind.wrap IntKind.u64 (HMail.hops m)) (N.clamp (1 : Int))), bx := [] : DRes }) (none)) (none)) (none)) (none)) (none)) (none)) (none)) (none)) (none)) (none)) (none)) (none)) (none) := by kernel_rfl
theorem ok_mailSize (hN : FnOk Tryd.prog 75 dOutNum) : FnOk Tryd.prog 43 dMailSize := by
  refine den_okF (env_ok ((TOk.nil _).cons (ok_mailBytes hN))) (E := eMailSize) Tryd.func43 [] (by kernel_rfl) none0 fun m _ h => ?_
  have h : N.okM m = true := h
  obtain ⟨id, shop, key, head, body, due, hops⟩ := m
  refine (q_mailSize ⟨id, shop, key, head, body, due, hops⟩).trans ?_
  simp only [nrm_rows]
  show _ = some (⟨.int .i64 (N.mailSize ⟨id, shop, key, head, body, due, hops⟩), [], []⟩ : DRes)
  unfold N.mailSize
  simp (disch := omega) only [evs, h]
  cases N.mailCheck ⟨id, shop, key, head, body, due, hops⟩ != 0 <;> rfl
theorem okM_of {m : HMail} (h : N.okM m = true) : (0 ≤ m.id ∧ m.id < 18446744073709551616) ∧ (0 ≤ m.due ∧ m.due < 18446744073709551616) ∧ (0 ≤ m.hops ∧ m.hops < 256) := by
  obtain ⟨b1, h⟩ := bcond h
  obtain ⟨b2, h⟩ := bcond h
  obtain ⟨i1, i2⟩ := bcond b1
  obtain ⟨i3, i4⟩ := bcond b2
  obtain ⟨i5, i6⟩ := bcond h
  exact ⟨⟨ile_of i1, ilt_of i2⟩, ⟨ile_of i3, ilt_of i4⟩, ⟨ile_of i5, ilt_of i6⟩⟩
theorem refPairsB_len : ∀ {l : List HPair}, l.all N.fitP = true → (N.refPairsB l).length ≤ 150 * l.length
  | [], _ => Nat.le_refl _
  | p :: r, h => by
    rw [List.all_cons, Bool.and_eq_true] at h
    have ih := refPairsB_len h.2
    obtain ⟨f1, f2⟩ := bcond h.1
    have f1 := ble_of f1
    have f2 := ble_of f2
    have hlen : (N.refPairB p).length ≤ 150 := by
      unfold N.refPairB
      cases p.kind == 0 <;> cases p.kind == 1 <;> simp only [cond_true, cond_false, List.length_append, numB_len, textB_len] <;> omega
    show (N.refPairB p ++ N.refPairsB r).length ≤ _
    rw [List.length_append, List.length_cons]; omega
theorem ok_refMailB : FnOk Tryd.prog 45 dRefMailB := by
  refine den_okF (env_ok ((((TOk.nil _).cons (ok_refBytes (ok_refNum 8))).cons (ok_refText (ok_refNum 8))).cons (ok_refNum 8))) (E := eRefMailB) Tryd.func45 [] (by kernel_rfl) none0 fun m _ h => ?_
  obtain ⟨id, shop, key, head, body, due, hops⟩ := m
  obtain ⟨h0, h⟩ := bcond h
  obtain ⟨h1, h⟩ := bcond h
  obtain ⟨h2, h⟩ := bcond h
  obtain ⟨h3, h4⟩ := bcond h
  have ho := okM_of h0
  simp only at ho
  obtain ⟨⟨a1, a2⟩, ⟨a3, a4⟩, ⟨a5, a6⟩⟩ := ho
  have h1 : shop.length ≤ 64 := ble_of h1
  have h2 : key.length ≤ 64 := ble_of h2
  have h4 : body.length ≤ 256 := ble_of h4
  obtain ⟨h5, h6⟩ := bcond h3
  have h5 : head.length ≤ 8 := ble_of h5
  have h6 : head.all N.fitP = true := h6
  have hl := refPairsB_len h6
  refine (q_refMailB ⟨id, shop, key, head, body, due, hops⟩).trans ?_
  simp only [nrm_rows]
  show _ = some (⟨.str (N.refMailB ⟨id, shop, key, head, body, due, hops⟩), [], []⟩ : DRes)
  have wh : IntKind.wrap .u64 hops = hops := wrap_u64 (by omega) (by omega)
  have hlen : (N.refHeadBytes head).length ≤ 1201 := by unfold N.refHeadBytes; rw [List.length_append, numB_len]; omega
  unfold N.refMailB
  simp only
  simp (disch := omega) only [evs, show N.fuelOk 8 8 = true from rfl, show N.fuelOk 8 1 = true from rfl, show N.clamp 8 = 8 from rfl, show N.clamp 1 = 1 from rfl, h6, wh, numB_len, textB_len]
noncomputable def eRefMailSize : Env := env Tryd.prog [(40, dMailCheck), (45, dRefMailB)] [] []
theorem q_refMailSize (m : HMail) : evFn eRefMailSize 44 ((aOne (vAgg cMail)).enc m) ([]) some =
 cond (N.mailCheck { id := HMail.id m, shop := HMail.shop m, key := HMail.key m, head := List.map (fun r => { key := V.toStr (List.getD r (0 : Nat) V.undef), kind := V.toInt (List.getD r (1 : Nat) V.undef), num := V.toInt (List.getD r (2 : Nat) V.undef), text := V.toStr (List.getD r (3 : Nat) V.undef) : HPair }) (List.map (fun p => [V.str (HPair.key p), V.int IntKind.u8 (HPair.kind p), V.int IntKind.i64 (HPair.num p), V.str (HPair.text p)]) (HMail.head m)), body := HMail.body m, due := HMail.due m, hops := HMail.hops m : HMail } != (0 : Int)) (some { v := V.int IntKind.i64 (0 : Int), bx := [] : DRes }) (cond (N.fitM { id := HMail.id m, shop := HMail.shop m, key := HMail.key m, head := List.map (fun r => { key := V.toStr (List.getD r (0 : Nat) V.undef), kind := V.toInt (List.getD r (1 : Nat) V.undef), num := V.toInt (List.getD r (2 : Nat) V.undef), text := V.toStr (List.getD r (3 : Nat) V.undef) : HPair }) (List.map (fun p => [V.str (HPair.key p), V.int IntKind.u8 (HPair.kind p), V.int IntKind.i64 (HPair.num p), V.str (HPair.text p)]) (HMail.head m)), body := HMail.body m, due := HMail.due m, hops := HMail.hops m : HMail }) (some { v := V.int IntKind.i64 (↑(List.length (N.refMailB { id := HMail.id m, shop := HMail.shop m, key := HMail.key m, head := List.map (fun r => { key := V.toStr (List.getD r (0 : Nat) V.undef), kind := V.toInt (List.getD r (1 : Nat) V.undef), num := V.toInt (List.getD r (2 : Nat) V.undef), text := V.toStr (List.getD r (3 : Nat) V.undef) : HPair }) (List.map (fun p => [V.str (HPair.key p), V.int IntKind.u8 (HPair.kind p), V.int IntKind.i64 (HPair.num p), V.str (HPair.text p)]) (HMail.head m)), body := HMail.body m, due := HMail.due m, hops := HMail.hops m : HMail })) : Int), bx := [] : DRes }) (none)) := by kernel_rfl
end Go.Ev

/- What the statement on heads that are read reckons: lemmas; the function that writes numbers is a premise. -/
namespace Go.Ev
open Go Go.Proofs
set_option maxRecDepth 100000

noncomputable def eLHR : Env := env Tryd.prog [(84, dTrue), (34, dNew), (67, dHeadRead), (71, dRHead), (61, dSameP), (37, dInErr), (38, dInLeft), (39, dRLeft)] [] []
theorem headRead_len (i : InS) : (N.headRead i).1.length ≤ 255 := by
  obtain ⟨b1, b2⟩ := inNum1 i
  have w : IntKind.wrap .i64 (N.inNum i 1).1 = (N.inNum i 1).1 := wrap_i64 (by omega) (by omega)
  unfold N.headRead
  rw [w]
  have := readFrom_len (N.inNum i 1).1.toNat (cond (ilt 8 (N.inNum i 1).1) (N.inFail (N.inNum i 1).2 6) (N.inNum i 1).2) []
  rw [List.length_nil] at this
  omega
end Go.Ev

/- What the statement on heads' bytes reckons: lemmas; the functions that write numbers are premises. -/
namespace Go.Ev
open Go Go.Proofs
set_option maxRecDepth 100000

/-- The search from behind. -/
def N.back (key : Bytes) (l : List HPair) : Nat → HPair × Bool → HPair × Bool
  | 0, w => w
  | k + 1, w => back key l k (cond ((l.getD k pair0).key == key) (l.getD k pair0, true) w)
def schLawHB : SSch := { fr := [(0, .slc [.str, .int .u8, .int .i64, .str]), (1, .str), (5, .int .i64), (6, .str), (8, .ptr 10000 0 0), (9, .bool), (10, .ptr 10001 0 0), (11, .bool), (12, .int .i64)], tab := [(10000, .var [.str, .int .u8, .int .i64, .str]), (10001, .var [.str, .int .u8, .int .i64, .str])] }
/-- The state behind the search. -/
def stHB (r0 : List (List V)) (i5 : Int) (s6 : Bytes) (b9 : Bool) (x : HPair) (w : HPair × Bool) : St := { fr := [(0, .slc [.str, .int .u8, .int .i64, .str] r0), (5, .int .i64 i5), (6, .str s6), (8, .ptr 10000 0 0 0), (9, .bool b9), (10, .ptr 10001 0 0 0), (11, .bool w.2)], tab := [(10000, .var [.str x.key, .int .u8 x.kind, .int .i64 x.num, .str x.text]), (10001, .var [.str w.1.key, .int .u8 w.1.kind, .int .i64 w.1.num, .str w.1.text])] }
def gLawHB : List Leaf → (Ex → St → Option R) → Option R
  | [.r r0, .s s1, .i i5, .s s6, .b b9, .b b11, .i i12, .s sx0, .i ix0, .i ix0_1, .s sx0_1, .s sx1, .i ix1, .i ix1_1, .s sx1_1], K => cond (ile (-1) i12) (cond (ilt i12 r0.length) (cond (Nat.ble r0.length LIM)
      (K (.exit 0) (stHB r0 i5 s6 b9 ⟨sx0, ix0, ix0_1, sx0_1⟩ (N.back s1 (rowsP r0) (i12 + 1).toNat (⟨sx1, ix1, ix1_1, sx1_1⟩, b11)))) none) none) none
  | _, _ => none
noncomputable def eLawHB : Env := env Tryd.prog [(84, dTrue), (13, dLight), (18, dHeadCheck), (74, dHeadBytes), (51, dHeadCheck), (88, dFind), (34, dNew), (82, dRefBytes), (67, dHeadRead), (61, dSameP), (46, dInEnd)] [(12, loopF schLawHB gLawHB)] [(12, [(0, [0, 1, 5, 6, 8, 9, 10, 11, 12]), (1, [0, 5, 6, 8, 9, 10, 11]), (1000, [4])])]
/-- The search from ahead. -/
def findOr (key : Bytes) (w : HPair × Bool) : List HPair → HPair × Bool
  | [] => w
  | p :: r => cond (p.key == key) (p, true) (findOr key w r)
theorem findOr_app (key : Bytes) (w : HPair × Bool) (x : HPair) : ∀ l, findOr key w (l ++ [x]) = findOr key (cond (x.key == key) (x, true) w) l
  | [] => rfl
  | p :: l => by
    show cond (p.key == key) (p, true) (findOr key w (l ++ [x])) = cond (p.key == key) (p, true) (findOr key _ l)
    rw [findOr_app key w x l]
theorem back_find (key : Bytes) (l : List HPair) : ∀ (k : Nat) (w : HPair × Bool), k ≤ l.length → N.back key l k w = findOr key w (l.take k)
  | 0, _, _ => rfl
  | k + 1, w, hk => by
    unfold N.back
    rw [back_find key l k _ (by omega)]
    have : l.take (k + 1) = l.take k ++ [l.getD k pair0] := by
      rw [List.take_add_one, List.getD_eq_getElem?_getD, List.getElem?_eq_getElem (by omega)]; rfl
    rw [this, findOr_app]
theorem findIx_findOr (key : Bytes) : ∀ (l : List HPair) (i : Int) (a : List HPair), i = a.length → cond (ilt (N.findIx key l i) 0) (pair0, false) ((a ++ l).getD (N.findIx key l i).toNat pair0, true) = findOr key (pair0, false) l
  | [], i, a, h => rfl
  | p :: l, i, a, h => by
    unfold N.findIx findOr
    cases hc : p.key == key with
    | true =>
      simp only [cond_true]
      rw [ilt_f (by omega), h]
      simp
    | false =>
      simp only [cond_false]
      have := findIx_findOr key l (i + 1) (a ++ [p]) (by rw [List.length_append, h]; rfl)
      rw [List.append_assoc] at this
      exact this
theorem find_back (h : List HPair) (key : Bytes) : N.back key h h.length (pair0, false) = N.find h key := by
  rw [back_find key h h.length _ (Nat.le_refl _), List.take_length]
  exact (findIx_findOr key h 0 [] rfl).symm
end Go.Ev

/- What the statement on heads' bytes reckons: it is true; the functions that write numbers are premises. -/
namespace Go.Ev
open Go Go.Proofs
set_option maxRecDepth 100000

def N.okP (p : HPair) : Bool := cond (ile 0 p.kind) (cond (ilt p.kind 256) (cond (ile (-9223372036854775808) p.num) (ile p.num 9223372036854775807) false) false) false
theorem okP_of {p : HPair} (h : N.okP p = true) : PairOk p := by
  obtain ⟨h1, h⟩ := bcond h
  obtain ⟨h2, h⟩ := bcond h
  obtain ⟨h3, h4⟩ := bcond h
  exact ⟨ile_of h1, ilt_of h2, ile_of h3, ile_of h4⟩
theorem refPairB_eq {p : HPair} {l : List HPair} (ho : PairOk p) (h : N.pairE p l = 0) : N.refPairB p = N.pairB p := by
  obtain ⟨_, h2, _⟩ := pairE_zero h
  have h1 := ho.1
  unfold N.refPairB N.pairB
  rcases (by omega : p.kind = 0 ∨ p.kind = 1 ∨ p.kind = 2) with k | k | k <;> rw [k] <;> rfl
theorem refPairs_eq (h : List HPair) (ho : ∀ p ∈ h, PairOk p) (hc : ∀ j, j < h.length → N.pairE (h.getD j pair0) (h.take j) = 0) : ∀ (f i : Nat), i + f = h.length → N.refPairsB (h.drop i) = N.pairsB (h.drop i)
  | 0, i, hi => by rw [List.drop_eq_nil_of_le (by omega)]; rfl
  | f + 1, i, hi => by
    have hlt : i < h.length := by omega
    have hm : h.getD i pair0 ∈ h := by rw [List.getD_eq_getElem?_getD, List.getElem?_eq_getElem hlt]; exact List.getElem_mem _
    rw [getD_drop pair0 hlt]
    show N.refPairB _ ++ N.refPairsB (h.drop (i + 1)) = N.pairB _ ++ N.pairsB (h.drop (i + 1))
    rw [refPairB_eq (ho _ hm) (hc i hlt), refPairs_eq h ho hc f (i + 1) (by omega)]
theorem refHead_eq (h : List HPair) (ho : ∀ p ∈ h, PairOk p) (hz : N.headCheck h = 0) : N.refHeadBytes h = N.headBytes h := by
  unfold N.headCheck at hz
  cases e : ilt 8 h.length with
  | true => rw [e] at hz; cases hz
  | false =>
    have e' := ilt_nof e
    rw [e, cond_false] at hz
    have hc : ∀ j, j < h.length → N.pairE (h.getD j pair0) (h.take j) = 0 := fun j hj => checkFrom_all h h.length 0 (Int.le_refl _) hz j (by omega) (by omega)
    unfold N.refHeadBytes N.headBytes
    have := refPairs_eq h ho hc h.length 0 (by omega)
    rw [List.drop_zero] at this
    rw [this, wrap_u64 (n := (h.length : Int)) (by omega) (by omega)]
end Go.Ev

/- Messages: what was written is read again; the program's reader and the document's go together: lemmas on the plain functions. -/
namespace Go.Ev
open Go

theorem from_appR (z : Bytes) (h : List HPair) (ho : ∀ p ∈ h, PairOk p) (hc : ∀ j, j < h.length → N.pairE (h.getD j pair0) (h.take j) = 0) : ∀ (f i : Nat), i + f = h.length → N.readFrom f ⟨N.pairsB (h.drop i) ++ z, 0⟩ (h.take i) = (h, ⟨z, 0⟩)
  | 0, i, hi => by
    rw [List.drop_eq_nil_of_le (by omega), List.take_of_length_le (by omega)]; rfl
  | f + 1, i, hi => by
    have hlt : i < h.length := by omega
    have hm : h.getD i pair0 ∈ h := by rw [List.getD_eq_getElem?_getD, List.getElem?_eq_getElem hlt]; exact List.getElem_mem _
    rw [getD_drop pair0 hlt]
    have e : N.pairsB (h.getD i pair0 :: h.drop (i + 1)) ++ z = N.pairB (h.getD i pair0) ++ (N.pairsB (h.drop (i + 1)) ++ z) := List.append_assoc ..
    rw [e]
    unfold N.readFrom
    rw [one_app (ho _ hm) (hc i hlt)]
    have b : N.bad (h.getD i pair0) (h.take i) ⟨N.pairsB (h.drop (i + 1)) ++ z, 0⟩ = ⟨N.pairsB (h.drop (i + 1)) ++ z, 0⟩ := by
      unfold N.bad N.inFail
      rw [hc i hlt]; rfl
    show cond ((N.bad (h.getD i pair0) (h.take i) ⟨N.pairsB (h.drop (i + 1)) ++ z, 0⟩).err != 0) _ (N.readFrom f (N.bad (h.getD i pair0) (h.take i) ⟨N.pairsB (h.drop (i + 1)) ++ z, 0⟩) (h.take i ++ [h.getD i pair0])) = _
    rw [b]
    have ht : h.take i ++ [h.getD i pair0] = h.take (i + 1) := by
      rw [List.take_add_one, List.getD_eq_getElem?_getD, List.getElem?_eq_getElem hlt]; rfl
    rw [ht]
    exact from_appR z h ho hc f (i + 1) (by omega)
theorem read_backR (z : Bytes) (h : List HPair) (ho : ∀ p ∈ h, PairOk p) (hz : N.headCheck h = 0) : N.headRead ⟨N.headBytes h ++ z, 0⟩ = (h, ⟨z, 0⟩) := by
  unfold N.headCheck at hz
  cases e : ilt 8 h.length with
  | true => rw [e] at hz; cases hz
  | false =>
    have e' := ilt_nof e
    rw [e, cond_false] at hz
    have hc : ∀ j, j < h.length → N.pairE (h.getD j pair0) (h.take j) = 0 := fun j hj => checkFrom_all h h.length 0 (Int.le_refl _) hz j (by omega) (by omega)
    unfold N.headRead N.headBytes
    have en : N.inNum ⟨N.numB h.length 1 ++ (N.pairsB h ++ z), 0⟩ 1 = ((h.length : Int), ⟨N.pairsB h ++ z, 0⟩) := num_app 1 (by decide) _ (by omega) (by show (h.length : Int) < 256; omega) _
    rw [List.append_assoc, en]
    show N.readFrom (IntKind.wrap .i64 h.length).toNat (cond (ilt 8 (IntKind.wrap .i64 h.length)) _ _) [] = _
    rw [wrap_i64 (n := (h.length : Int)) (by omega) (by omega), e, cond_false, Int.toNat_natCast]
    exact from_appR z h ho hc h.length 0 (by omega)
theorem mail_back (z : Bytes) (m : HMail) (hk : N.okM m = true) (ho : ∀ p ∈ m.head, PairOk p) (hz : N.mailCheck m = 0) : N.mailRead ⟨N.mailB m ++ z, 0⟩ = (m, ⟨z, 0⟩) := by
  obtain ⟨⟨a1, a2⟩, ⟨a3, a4⟩, ⟨a5, a6⟩⟩ := okM_of hk
  obtain ⟨c1, c2, c3, c4, c5, _⟩ := mailCheck_fit hz
  have wh : IntKind.wrap .u64 m.hops = m.hops := wrap_u64 (by omega) (by omega)
  have wh8 : IntKind.wrap .u8 m.hops = m.hops := wrap_u8' a5 a6
  have e : N.mailB m ++ z = N.numB m.id 8 ++ (N.textB m.shop ++ (N.textB m.key ++ (N.headBytes m.head ++ (N.textB m.body ++ (N.numB m.due 8 ++ (N.numB m.hops 1 ++ z)))))) := by
    unfold N.mailB; rw [wh]; simp only [List.append_assoc]
  unfold N.mailRead
  dsimp only
  rw [e]
  have p8 : (256 : Int) ^ 8 = 18446744073709551616 := rfl
  have p1 : (256 : Int) ^ 1 = 256 := rfl
  have s1 := num_app 8 (by decide) m.id a1 (by rw [p8]; exact a2) (N.textB m.shop ++ (N.textB m.key ++ (N.headBytes m.head ++ (N.textB m.body ++ (N.numB m.due 8 ++ (N.numB m.hops 1 ++ z))))))
  have s2 := text_app m.shop 16 (by omega) (by omega) (N.textB m.key ++ (N.headBytes m.head ++ (N.textB m.body ++ (N.numB m.due 8 ++ (N.numB m.hops 1 ++ z)))))
  have s3 := text_app m.key 64 (by omega) (by omega) (N.headBytes m.head ++ (N.textB m.body ++ (N.numB m.due 8 ++ (N.numB m.hops 1 ++ z))))
  have s4 := read_backR (N.textB m.body ++ (N.numB m.due 8 ++ (N.numB m.hops 1 ++ z))) m.head ho c3
  have s5 := text_app m.body 256 (by omega) (by omega) (N.numB m.due 8 ++ (N.numB m.hops 1 ++ z))
  have s6 := num_app 8 (by decide) m.due a3 (by rw [p8]; exact a4) (N.numB m.hops 1 ++ z)
  have s7 := num_app 1 (by decide) m.hops a5 (by rw [p1]; exact a6) z
  have k8 : ((8 : Nat) : Int) = 8 := rfl
  have k1 : ((1 : Nat) : Int) = 1 := rfl
  rw [k8] at s1 s6
  rw [k1] at s7
  rw [s1]
  dsimp only
  rw [s2]
  dsimp only
  rw [s3]
  dsimp only
  rw [s4]
  dsimp only
  rw [s5]
  dsimp only
  rw [s6]
  dsimp only
  rw [s7]
  dsimp only
  rw [wh8]
  unfold N.mailEnd N.inFail
  have ez : N.mailCheck ⟨m.id, m.shop, m.key, m.head, m.body, m.due, m.hops⟩ = 0 := hz
  rw [ez]; rfl
theorem rl_mail {s : Bytes} {i : InS} {q : RIn} (h : Rl s i q) : (N.mailRead i).1 = (N.rMail q).1 ∧ Rl s (N.mailRead i).2 (N.rMail q).2 := by
  unfold N.mailRead N.rMail
  dsimp only
  have t1 := rl_num h 8
  have t2 := rl_text t1.2 16
  have t3 := rl_text t2.2 64
  have t4 := rl_read t3.2
  have t5 := rl_text t4.2 256
  have t6 := rl_num t5.2 8
  have t7 := rl_num t6.2 1
  rw [t1.1, t2.1, t3.1, t4.1, t5.1, t6.1, t7.1]
  revert t7
  generalize (N.inNum _ 1).2 = i'
  generalize (N.rNum _ 1).2 = q'
  intro t7
  replace t7 := t7.2
  generalize (⟨_, _, _, _, _, _, _⟩ : HMail) = m
  unfold N.mailEnd N.rMailEnd
  have he : i'.err = q'.code := t7.2.2.2.1
  have tf := rl_fail t7 (N.mailCheck m)
  have hf : (N.inFail i' (N.mailCheck m)).err = (N.rFail q' (N.mailCheck m)).code := tf.2.2.2.1
  rw [he]
  cases q'.code == 0 with
  | true =>
    simp only [cond_true]
    rw [hf]
    cases (N.rFail q' (N.mailCheck m)).code != 0 <;> exact ⟨rfl, tf⟩
  | false =>
    simp only [cond_false]
    rw [he]
    cases q'.code != 0 <;> exact ⟨rfl, t7⟩
theorem refMailB_eq {m : HMail} (ho : ∀ p ∈ m.head, PairOk p) (hz : N.mailCheck m = 0) : N.refMailB m = N.mailB m := by
  unfold N.refMailB N.mailB
  rw [refHead_eq m.head ho (mailCheck_fit hz).2.2.1]
theorem fitM_of {m : HMail} (hk : N.okM m = true) (hz : N.mailCheck m = 0) : N.fitM m = true := by
  obtain ⟨c1, c2, c3, c4, c5, _⟩ := mailCheck_fit hz
  obtain ⟨c6, c7⟩ := check_fit c3
  unfold N.fitM
  rw [hk, ble_t (by omega), ble_t (by omega), ble_t (by omega), c7, ble_t (by omega)]; rfl
theorem mailSame_refl (m : HMail) : N.mailSame m m = true := by
  unfold N.mailSame
  simp only [beq_self_eq_true, samePs_refl, cond_true]
theorem mailB_len {m : HMail} (hz : N.mailCheck m = 0) : (N.mailB m).length ≤ 1570 := by
  obtain ⟨c1, c2, c3, c4, c5, _⟩ := mailCheck_fit hz
  have := headB_len c3
  unfold N.mailB
  simp only [List.length_append, numB_len, textB_len]; omega
end Go.Ev

/- Rules: the program's way and the document's are one: lemmas on the plain functions. -/
namespace Go.Ev
open Go

theorem eqP_iff {p q : HPair} : N.eqP p q = true ↔ p = q := by
  unfold N.eqP
  constructor
  · intro h
    simp only [Bool.and_eq_true, beq_iff_eq, and_true] at h
    obtain ⟨h1, h2, h3, h4⟩ := h
    cases p; cases q; simp only at h1 h2 h3 h4; subst h1 h2 h3 h4; rfl
  · intro h
    subst h; simp
theorem refHas_iff (p : HPair) : ∀ h : List HPair, N.refHas p h = true ↔ p ∈ h
  | [] => by simp [N.refHas]
  | q :: r => by
    unfold N.refHas
    cases e : N.eqP q p with
    | true => simp [eqP_iff.1 e]
    | false =>
      rw [cond_false, refHas_iff p r]
      have : p ≠ q := fun e' => by rw [e'] at e; rw [eqP_iff.2 rfl] at e; cases e
      simp [this]
theorem findIx_spec (key : Bytes) : ∀ (h : List HPair) (i : Int), 0 ≤ i → (N.findIx key h i = -1 ∧ ∀ q ∈ h, q.key ≠ key) ∨ ∃ j, j < h.length ∧ N.findIx key h i = i + j ∧ (h.getD j pair0).key = key ∧ ∀ k, k < j → (h.getD k pair0).key ≠ key
  | [], i, _ => .inl ⟨rfl, fun q hq => by cases hq⟩
  | p :: r, i, hi => by
    unfold N.findIx
    cases e : p.key == key with
    | true => exact .inr ⟨0, by simp, by simp, by simpa using e, fun k hk => by omega⟩
    | false =>
      have hne : p.key ≠ key := fun e' => by simp [e'] at e
      rcases findIx_spec key r (i + 1) (by omega) with ⟨h1, h2⟩ | ⟨j, h1, h2, h3, h4⟩
      · refine .inl ⟨by rw [cond_false, h1], fun q hq => ?_⟩
        rcases List.mem_cons.1 hq with rfl | hq
        · exact hne
        · exact h2 q hq
      · refine .inr ⟨j + 1, by simpa using h1, by rw [cond_false, h2]; omega, by simpa using h3, fun k hk => ?_⟩
        cases k with
        | zero => simpa using hne
        | succ k => simpa using h4 k (by omega)
theorem find_spec (key : Bytes) (h : List HPair) : ((N.find h key).2 = false ∧ ∀ q ∈ h, q.key ≠ key) ∨ ∃ j, j < h.length ∧ N.find h key = (h.getD j pair0, true) ∧ (h.getD j pair0).key = key ∧ ∀ k, k < j → (h.getD k pair0).key ≠ key := by
  unfold N.find
  rcases findIx_spec key h 0 (Int.le_refl _) with ⟨h1, h2⟩ | ⟨j, h1, h2, h3, h4⟩
  · exact .inl ⟨by rw [h1]; rfl, h2⟩
  · refine .inr ⟨j, h1, ?_, h3, h4⟩
    rw [h2, ilt_f (by omega), cond_false]
    simp
theorem pairE_find {p : HPair} {l : List HPair} (h : N.pairE p l = 0) : ∀ q ∈ l, q.key ≠ p.key := by
  rcases find_spec p.key l with ⟨_, h2⟩ | ⟨j, _, h2, _, _⟩
  · exact h2
  · exfalso
    unfold N.pairE at h
    rw [h2] at h
    cases e1 : N.name p.key != 0 with
    | true =>
      rw [e1, cond_true] at h
      rw [h] at e1; cases e1
    | false =>
      rw [e1] at h
      simp only [cond_false, cond_true] at h
      revert h
      cases ilt 2 p.kind <;> cases cond (p.kind == 1) (ilt 64 p.text.length) false <;> cases cond (cond (p.kind == 2) (p.num != 0) false) (p.num != 1) false <;>
        cases cond (cond (p.kind == 1) (p.num != 0) false) true (cond (p.kind != 1) (!(p.text == [])) false) <;> intro h <;> cases h
theorem hasP_eq {h : List HPair} (hz : N.headCheck h = 0) (p : HPair) : N.hasP h p = N.refHas p h := by
  have hc : ∀ j, j < h.length → N.pairE (h.getD j pair0) (h.take j) = 0 := fun j hj => by
    unfold N.headCheck at hz
    cases e : ilt 8 h.length with
    | true => rw [e] at hz; cases hz
    | false => rw [e, cond_false] at hz; exact checkFrom_all h h.length 0 (Int.le_refl _) hz j (by omega) (by omega)
  rw [Bool.eq_iff_iff, refHas_iff]
  unfold N.hasP
  rcases find_spec p.key h with ⟨h1, h2⟩ | ⟨j, h1, h2, h3, h4⟩
  · rw [h1]
    exact ⟨fun e => (by cases e), fun e => absurd rfl (h2 p e)⟩
  · rw [h2]
    simp only [cond_true, eqP_iff]
    have hm : h.getD j pair0 ∈ h := by rw [List.getD_eq_getElem?_getD, List.getElem?_eq_getElem h1]; exact List.getElem_mem _
    refine ⟨fun e => e ▸ hm, fun e => ?_⟩
    obtain ⟨m, hm, rfl⟩ := List.getElem_of_mem e
    have eg : h.getD m pair0 = h[m] := by rw [List.getD_eq_getElem?_getD, List.getElem?_eq_getElem hm]; rfl
    rcases Nat.lt_trichotomy j m with hlt | rfl | hlt
    · have := pairE_find (hc m hm) (h.getD j pair0) (by
        rw [List.getD_eq_getElem?_getD, List.getElem?_eq_getElem h1, Option.getD_some]
        exact List.mem_take_iff_getElem.2 ⟨j, by omega, rfl⟩)
      rw [eg] at this
      exact absurd h3 this
    · exact eg
    · have := h4 m hlt
      rw [eg] at this
      exact absurd rfl this
theorem refCount_add (h : List HPair) : ∀ (l : List HPair) (n : Int), N.refCount h l n = n + N.refCount h l 0
  | [], n => by show n = n + 0; omega
  | p :: r, n => by
    unfold N.refCount
    have e1 := refCount_add h r (n + 1)
    have e2 := refCount_add h r n
    have e3 := refCount_add h r (0 + 1)
    cases N.refHas p h <;> simp only [cond_true, cond_false] <;> omega
theorem refCount_le (h : List HPair) : ∀ l : List HPair, 0 ≤ N.refCount h l 0 ∧ N.refCount h l 0 ≤ l.length
  | [] => by simp [N.refCount]
  | p :: r => by
    have := refCount_le h r
    have e3 := refCount_add h r (0 + 1)
    unfold N.refCount
    cases N.refHas p h <;> simp only [cond_true, cond_false, List.length_cons] <;> omega
theorem heads_all {h : List HPair} (hz : N.headCheck h = 0) : ∀ l : List HPair, N.headsP h true l = (N.refCount h l 0 == l.length)
  | [] => rfl
  | p :: r => by
    have ih := heads_all hz r
    have := refCount_le h r
    have e3 := refCount_add h r (0 + 1)
    unfold N.headsP N.refCount
    rw [hasP_eq hz]
    cases N.refHas p h with
    | true =>
      simp only [cond_true, List.length_cons]
      rw [ih, Bool.eq_iff_iff, beq_iff_eq, beq_iff_eq]; omega
    | false =>
      simp only [cond_true, cond_false, List.length_cons]
      rw [ieq_f (by omega)]
theorem heads_any {h : List HPair} (hz : N.headCheck h = 0) : ∀ l : List HPair, N.headsP h false l = ilt 0 (N.refCount h l 0)
  | [] => rfl
  | p :: r => by
    have ih := heads_any hz r
    have := refCount_le h r
    have e3 := refCount_add h r (0 + 1)
    unfold N.headsP N.refCount
    rw [hasP_eq hz]
    cases N.refHas p h with
    | true =>
      simp only [cond_true, cond_false]
      rw [ilt_t (by omega)]
    | false => simp only [cond_false]; exact ih
theorem goes_eq {r : HRule} {k : Bytes} {h : List HPair} (h0 : 0 ≤ r.sort) (h3 : r.sort ≤ 3) (hz : N.headCheck h = 0) : N.goes r k h = N.refGoes r k h := by
  unfold N.goes N.refGoes
  have ec : (k == r.key) = (r.key == k) := by rw [Bool.eq_iff_iff, beq_iff_eq, beq_iff_eq]; exact eq_comm
  rcases (by omega : r.sort = 0 ∨ r.sort = 1 ∨ r.sort = 2 ∨ r.sort = 3) with e | e | e | e <;> rw [e]
  · exact ec
  · rfl
  · exact matchW_eq _ _
  · show N.headsP h r.all r.want = _
    cases e2 : r.all with
    | true => exact heads_all hz _
    | false => exact heads_any hz _
theorem ruleCheck_eq {r : HRule} (h0 : 0 ≤ r.sort) : N.ruleCheck r = N.refRuleCheck r := by
  unfold N.ruleCheck N.refRuleCheck
  cases e : r.sort == 0 with
  | true =>
    have e' := ieq_of e
    rw [e', key_eq]; rfl
  | false =>
    have e' : r.sort ≠ 0 := fun e' => by rw [e'] at e; cases e
    rw [ilt_t (show 0 < r.sort by omega), pattern_eq]; rfl
end Go.Ev
