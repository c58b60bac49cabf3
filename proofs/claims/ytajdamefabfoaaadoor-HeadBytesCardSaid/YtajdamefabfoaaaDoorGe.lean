/- The program's functions that read heads, those with loops, answer what the plain ones do: lemmas. -/
import Derived.Test.YtajdamefabfoaaaDoorGd
import Derived.Test.YtajdamefabfoaaaDoorGc
import Derived.Test.YtajdamefabfoaaaDoorProg
import Derived.KernelRfl
import Derived.Shelf.Strings.Builder1
import Derived.RegionTactic
import Derived.Deep.RegionWith
namespace Go.Ev
open Go Go.Proofs
set_option maxRecDepth 100000

namespace N
/-- The loop over a head's pairs: went through, what was read, the reader. -/
def hl : Nat → InS → List (List V) → Bool × List (List V) × InS
  | 0, i, rows => (true, rows, i)
  | k + 1, i, rows => cond ((bad (one i).1 (rowsP rows) (one i).2).err != 0) (false, [], bad (one i).1 (rowsP rows) (one i).2) (hl k (bad (one i).1 (rowsP rows) (one i).2) (rows ++ [cPair.enc (one i).1]))
def rhl : Nat → RIn → List (List V) → List (List V) × RIn
  | 0, q, rows => (rows, q)
  | k + 1, q, rows => cond (q.code == 0) (rhl k (rBad (rOne q).1 (rowsP rows) (rOne q).2) (rows ++ [cPair.enc (rOne q).1])) (rows, q)
end N
def schHeadRead : SSch := { fr := [(0, .ptr 0 0 0), (4, .own 10000), (13, .int .i64), (14, .int .i64)], tab := [(0, .var [.str, .int .i64]), (10000, .sl [.str, .int .u8, .int .i64, .str])] }
def gHeadRead : List Leaf → (Ex → St → Option R) → Option R
  | [.i n, .i j, .s s, .i e, .r rows], K => cond (ile 0 j) (cond (ile n 300) (cond (Nat.ble (rows.length + (n - j).toNat) LIM) (cond (N.hl (n - j).toNat ⟨s, e⟩ rows).1
      (K (.exit 0) { fr := [(4, .own 10000 0)], tab := [(0, .var [.str (N.hl (n - j).toNat ⟨s, e⟩ rows).2.2.s, .int .i64 (N.hl (n - j).toNat ⟨s, e⟩ rows).2.2.err]), (10000, .sl [.str, .int .u8, .int .i64, .str] (N.hl (n - j).toNat ⟨s, e⟩ rows).2.1 0)] })
      (K .ret { fr := [(2, .own 10000 0)], tab := [(0, .var [.str (N.hl (n - j).toNat ⟨s, e⟩ rows).2.2.s, .int .i64 (N.hl (n - j).toNat ⟨s, e⟩ rows).2.2.err]), (10000, .sl [.str, .int .u8, .int .i64, .str] [] 0)] })) none) none) none
  | _, _ => none
noncomputable def eHeadRead : Env := env Tryd.prog [(64, dNum), (65, dFail), (36, dInErr), (66, dOne), (67, dPairE)] [(6, loopF schHeadRead gHeadRead)] [(6, [(0, [0, 4, 13, 14]), (1, [4]), (1000, [2])])]
theorem q_headRead (i : InS) : evFn eHeadRead 34 (((aOne (vPtr 0)).enc ())) (((bOne cIn).enc i)) some =
 cond (ilt (8 : Int) (IntKind.wrap IntKind.i64 (Prod.fst (N.inNum i (1 : Int))))) (cond (ile (IntKind.wrap IntKind.i64 (Prod.fst (N.inNum i (1 : Int)))) (300 : Int)) (cond (Nat.ble ((0 : Nat) + Int.toNat (IntKind.wrap IntKind.i64 (Prod.fst (N.inNum i (1 : Int))) - (0 : Int))) (1000000 : Nat)) (cond (Prod.fst (N.hl (Int.toNat (IntKind.wrap IntKind.i64 (Prod.fst (N.inNum i (1 : Int))) - (0 : Int))) (N.inFail (Prod.snd (N.inNum i (1 : Int))) (6 : Int)) [])) (some { v := V.slc [Sh.str, Sh.int IntKind.u8, Sh.int IntKind.i64, Sh.str] (Prod.fst (Prod.snd (N.hl (Int.toNat (IntKind.wrap IntKind.i64 (Prod.fst (N.inNum i (1 : Int))) - (0 : Int))) (N.inFail (Prod.snd (N.inNum i (1 : Int))) (6 : Int)) []))), bx := [[V.str (InS.s (Prod.snd (Prod.snd (N.hl (Int.toNat (IntKind.wrap IntKind.i64 (Prod.fst (N.inNum i (1 : Int))) - (0 : Int))) (N.inFail (Prod.snd (N.inNum i (1 : Int))) (6 : Int)) [])))), V.int IntKind.i64 (InS.err (Prod.snd (Prod.snd (N.hl (Int.toNat (IntKind.wrap IntKind.i64 (Prod.fst (N.inNum i (1 : Int))) - (0 : Int))) (N.inFail (Prod.snd (N.inNum i (1 : Int))) (6 : Int)) []))))]] : DRes }) (some { v := V.slc [Sh.str, Sh.int IntKind.u8, Sh.int IntKind.i64, Sh.str] [], bx := [[V.str (InS.s (Prod.snd (Prod.snd (N.hl (Int.toNat (IntKind.wrap IntKind.i64 (Prod.fst (N.inNum i (1 : Int))) - (0 : Int))) (N.inFail (Prod.snd (N.inNum i (1 : Int))) (6 : Int)) [])))), V.int IntKind.i64 (InS.err (Prod.snd (Prod.snd (N.hl (Int.toNat (IntKind.wrap IntKind.i64 (Prod.fst (N.inNum i (1 : Int))) - (0 : Int))) (N.inFail (Prod.snd (N.inNum i (1 : Int))) (6 : Int)) []))))]] : DRes })) (none)) (none)) (cond (ile (IntKind.wrap IntKind.i64 (Prod.fst (N.inNum i (1 : Int)))) (300 : Int)) (cond (Nat.ble ((0 : Nat) + Int.toNat (IntKind.wrap IntKind.i64 (Prod.fst (N.inNum i (1 : Int))) - (0 : Int))) (1000000 : Nat)) (cond (Prod.fst (N.hl (Int.toNat (IntKind.wrap IntKind.i64 (Prod.fst (N.inNum i (1 : Int))) - (0 : Int))) (Prod.snd (N.inNum i (1 : Int))) [])) (some { v := V.slc [Sh.str, Sh.int IntKind.u8, Sh.int IntKind.i64, Sh.str] (Prod.fst (Prod.snd (N.hl (Int.toNat (IntKind.wrap IntKind.i64 (Prod.fst (N.inNum i (1 : Int))) - (0 : Int))) (Prod.snd (N.inNum i (1 : Int))) []))), bx := [[V.str (InS.s (Prod.snd (Prod.snd (N.hl (Int.toNat (IntKind.wrap IntKind.i64 (Prod.fst (N.inNum i (1 : Int))) - (0 : Int))) (Prod.snd (N.inNum i (1 : Int))) [])))), V.int IntKind.i64 (InS.err (Prod.snd (Prod.snd (N.hl (Int.toNat (IntKind.wrap IntKind.i64 (Prod.fst (N.inNum i (1 : Int))) - (0 : Int))) (Prod.snd (N.inNum i (1 : Int))) []))))]] : DRes }) (some { v := V.slc [Sh.str, Sh.int IntKind.u8, Sh.int IntKind.i64, Sh.str] [], bx := [[V.str (InS.s (Prod.snd (Prod.snd (N.hl (Int.toNat (IntKind.wrap IntKind.i64 (Prod.fst (N.inNum i (1 : Int))) - (0 : Int))) (Prod.snd (N.inNum i (1 : Int))) [])))), V.int IntKind.i64 (InS.err (Prod.snd (Prod.snd (N.hl (Int.toNat (IntKind.wrap IntKind.i64 (Prod.fst (N.inNum i (1 : Int))) - (0 : Int))) (Prod.snd (N.inNum i (1 : Int))) []))))]] : DRes })) (none)) (none)) := by kernel_rfl
theorem q_headReadR (i13 : Int) (i14 : Int) (sx0 : Bytes) (ix0 : Int) (rx0 : List (List V)) (K : Ex → St → Option R) : evRound eHeadRead 34 6 { fr := [(0, .ptr 0 0 0 0), (4, .own 10000 0), (13, .int .i64 i13), (14, .int .i64 i14)], tab := [(0, .var [.str sx0, .int .i64 ix0]), (10000, .sl [.str, .int .u8, .int .i64, .str] rx0 0)] } K =
 cond (ilt i14 i13) (cond (InS.err (Prod.snd (N.one { s := sx0, err := ix0 : InS })) == (0 : Int)) (cond (Nat.ble (List.length (List.map (fun r => { key := V.toStr (List.getD r (0 : Nat) V.undef), kind := V.toInt (List.getD r (1 : Nat) V.undef), num := V.toInt (List.getD r (2 : Nat) V.undef), text := V.toStr (List.getD r (3 : Nat) V.undef) : HPair }) rx0)) (1000000 : Nat)) (cond (InS.err (N.inFail (Prod.snd (N.one { s := sx0, err := ix0 : InS })) (N.pairE (Prod.fst (N.one { s := sx0, err := ix0 : InS })) (List.map (fun r => { key := V.toStr (List.getD r (0 : Nat) V.undef), kind := V.toInt (List.getD r (1 : Nat) V.undef), num := V.toInt (List.getD r (2 : Nat) V.undef), text := V.toStr (List.getD r (3 : Nat) V.undef) : HPair }) rx0))) != (0 : Int)) (K Ex.ret { fr := [((2 : Nat), V.own (10000 : Nat) (0 : Nat))], tab := [((0 : Nat), Box.var [V.str (InS.s (N.inFail (Prod.snd (N.one { s := sx0, err := ix0 : InS })) (N.pairE (Prod.fst (N.one { s := sx0, err := ix0 : InS })) (List.map (fun r => { key := V.toStr (List.getD r (0 : Nat) V.undef), kind := V.toInt (List.getD r (1 : Nat) V.undef), num := V.toInt (List.getD r (2 : Nat) V.undef), text := V.toStr (List.getD r (3 : Nat) V.undef) : HPair }) rx0)))), V.int IntKind.i64 (InS.err (N.inFail (Prod.snd (N.one { s := sx0, err := ix0 : InS })) (N.pairE (Prod.fst (N.one { s := sx0, err := ix0 : InS })) (List.map (fun r => { key := V.toStr (List.getD r (0 : Nat) V.undef), kind := V.toInt (List.getD r (1 : Nat) V.undef), num := V.toInt (List.getD r (2 : Nat) V.undef), text := V.toStr (List.getD r (3 : Nat) V.undef) : HPair }) rx0))))]), ((10000 : Nat), Box.sl [Sh.str, Sh.int IntKind.u8, Sh.int IntKind.i64, Sh.str] [] (0 : Nat))] : St }) (cond (decide ((List.length rx0 + (1 : Nat)) * (48 : Nat) ≤ (140737488355328 : Nat))) (K Ex.normal { fr := [((0 : Nat), V.ptr (0 : Nat) (0 : Nat) (0 : Nat) (0 : Nat)), ((4 : Nat), V.own (10000 : Nat) (0 : Nat)), ((13 : Nat), V.int IntKind.i64 i13), ((14 : Nat), V.int IntKind.i64 (IntKind.wrap IntKind.i64 (i14 + (1 : Int))))], tab := [((0 : Nat), Box.var [V.str (InS.s (N.inFail (Prod.snd (N.one { s := sx0, err := ix0 : InS })) (N.pairE (Prod.fst (N.one { s := sx0, err := ix0 : InS })) (List.map (fun r => { key := V.toStr (List.getD r (0 : Nat) V.undef), kind := V.toInt (List.getD r (1 : Nat) V.undef), num := V.toInt (List.getD r (2 : Nat) V.undef), text := V.toStr (List.getD r (3 : Nat) V.undef) : HPair }) rx0)))), V.int IntKind.i64 (InS.err (N.inFail (Prod.snd (N.one { s := sx0, err := ix0 : InS })) (N.pairE (Prod.fst (N.one { s := sx0, err := ix0 : InS })) (List.map (fun r => { key := V.toStr (List.getD r (0 : Nat) V.undef), kind := V.toInt (List.getD r (1 : Nat) V.undef), num := V.toInt (List.getD r (2 : Nat) V.undef), text := V.toStr (List.getD r (3 : Nat) V.undef) : HPair }) rx0))))]), ((10000 : Nat), Box.sl [Sh.str, Sh.int IntKind.u8, Sh.int IntKind.i64, Sh.str] (rx0 ++ [[V.str (HPair.key (Prod.fst (N.one { s := sx0, err := ix0 : InS }))), V.int IntKind.u8 (HPair.kind (Prod.fst (N.one { s := sx0, err := ix0 : InS }))), V.int IntKind.i64 (HPair.num (Prod.fst (N.one { s := sx0, err := ix0 : InS }))), V.str (HPair.text (Prod.fst (N.one { s := sx0, err := ix0 : InS })))]]) (0 : Nat))] : St }) (none))) (none)) (cond (InS.err (Prod.snd (N.one { s := sx0, err := ix0 : InS })) != (0 : Int)) (K Ex.ret { fr := [((2 : Nat), V.own (10000 : Nat) (0 : Nat))], tab := [((0 : Nat), Box.var [V.str (InS.s (Prod.snd (N.one { s := sx0, err := ix0 : InS }))), V.int IntKind.i64 (InS.err (Prod.snd (N.one { s := sx0, err := ix0 : InS })))]), ((10000 : Nat), Box.sl [Sh.str, Sh.int IntKind.u8, Sh.int IntKind.i64, Sh.str] [] (0 : Nat))] : St }) (cond (decide ((List.length rx0 + (1 : Nat)) * (48 : Nat) ≤ (140737488355328 : Nat))) (K Ex.normal { fr := [((0 : Nat), V.ptr (0 : Nat) (0 : Nat) (0 : Nat) (0 : Nat)), ((4 : Nat), V.own (10000 : Nat) (0 : Nat)), ((13 : Nat), V.int IntKind.i64 i13), ((14 : Nat), V.int IntKind.i64 (IntKind.wrap IntKind.i64 (i14 + (1 : Int))))], tab := [((0 : Nat), Box.var [V.str (InS.s (Prod.snd (N.one { s := sx0, err := ix0 : InS }))), V.int IntKind.i64 (InS.err (Prod.snd (N.one { s := sx0, err := ix0 : InS })))]), ((10000 : Nat), Box.sl [Sh.str, Sh.int IntKind.u8, Sh.int IntKind.i64, Sh.str] (rx0 ++ [[V.str (HPair.key (Prod.fst (N.one { s := sx0, err := ix0 : InS }))), V.int IntKind.u8 (HPair.kind (Prod.fst (N.one { s := sx0, err := ix0 : InS }))), V.int IntKind.i64 (HPair.num (Prod.fst (N.one { s := sx0, err := ix0 : InS }))), V.str (HPair.text (Prod.fst (N.one { s := sx0, err := ix0 : InS })))]]) (0 : Nat))] : St }) (none)))) (K (Ex.exit (0 : Nat)) { fr := [((4 : Nat), V.own (10000 : Nat) (0 : Nat))], tab := [((0 : Nat), Box.var [V.str sx0, V.int IntKind.i64 ix0]), ((10000 : Nat), Box.sl [Sh.str, Sh.int IntKind.u8, Sh.int IntKind.i64, Sh.str] rx0 (0 : Nat))] : St }) := by kernel_rfl
theorem rowsP_append (rows : List (List V)) (p : HPair) : rowsP (rows ++ [cPair.enc p]) = rowsP rows ++ [p] := by unfold rowsP; rw [List.map_append]; rfl
theorem hl_enc : ∀ (k : Nat) (i : InS) (l : List HPair), (N.hl k i (l.map cPair.enc)).2 = ((N.readFrom k i l).1.map cPair.enc, (N.readFrom k i l).2)
  | 0, _, _ => rfl
  | k + 1, i, l => by
    unfold N.hl N.readFrom
    rw [rowsP_enc]
    cases (N.bad (N.one i).1 l (N.one i).2).err != 0 with
    | true => rfl
    | false =>
      have := hl_enc k (N.bad (N.one i).1 l (N.one i).2) (l ++ [(N.one i).1])
      rw [List.map_append] at this
      exact this
theorem hl_none : ∀ (k : Nat) (i : InS) (rows : List (List V)), (N.hl k i rows).1 = false → (N.hl k i rows).2.1 = []
  | 0, _, _, h => by cases h
  | k + 1, i, rows, h => by
    unfold N.hl at h ⊢
    cases hc : (N.bad (N.one i).1 (rowsP rows) (N.one i).2).err != 0 with
    | true => rfl
    | false => rw [hc] at h; exact hl_none k _ _ h
theorem inNum1 (i : InS) : 0 ≤ (N.inNum i 1).1 ∧ (N.inNum i 1).1 < 256 := by
  have h := N.inRaw_len i (bif ilt 8 1 then (8 : Int) else 1) 1 (Int.le_refl 1)
  unfold N.inNum
  revert h
  cases (N.inRaw i (bif ilt 8 1 then (8 : Int) else 1)).1 with
  | nil => intro _; exact ⟨Int.le_refl 0, (by decide : (0 : Int) < 256)⟩
  | cons c r =>
    intro h
    cases r with
    | nil =>
      have := c.toNat_lt
      show 0 ≤ (0 * 256 + (c.toNat : Int)) ∧ (0 * 256 + (c.toNat : Int)) < 256
      omega
    | cons _ _ => simp at h
theorem ok_headRead : FnOk Tryd.prog 34 dHeadRead := by
  refine den_okF (env_ok ((((((TOk.nil _).cons ok_pairE).cons ok_one).cons ok_inErr).cons ok_fail).cons ok_num)) (E := eHeadRead) Tryd.func34 [6] (by kernel_rfl) (one1 (rounds_of rfl fun l K q h => ?_)) fun _ i _ => ?_
  · unfold gHeadRead at h
    split at h
    · rename_i n j s e rows
      have h1 := (cond_none h).1; replace h := (cond_none h).2; have h2 := (cond_none h).1; replace h := (cond_none h).2; have h3 := (cond_none h).1; replace h := (cond_none h).2
      have h2 := ile_of h2
      have h3 : rows.length + (n - j).toNat ≤ 1000000 := ble_of h3
      refine loop_ind (E := eHeadRead) (f := 34) (id := 6) (σ := Int × InS × List (List V)) (fun x => { fr := [(0, .ptr 0 0 0 0), (4, .own 10000 0), (13, .int .i64 n), (14, .int .i64 x.1)], tab := [(0, .var [.str x.2.1.s, .int .i64 x.2.1.err]), (10000, .sl [.str, .int .u8, .int .i64, .str] x.2.2 0)] })
        (fun x => 0 ≤ x.1 ∧ x.2.2.length + (n - x.1).toNat ≤ 1000000) (fun x => (n - x.1).toNat)
        (fun x K => cond (N.hl (n - x.1).toNat x.2.1 x.2.2).1
          (K (.exit 0) { fr := [(4, .own 10000 0)], tab := [(0, .var [.str (N.hl (n - x.1).toNat x.2.1 x.2.2).2.2.s, .int .i64 (N.hl (n - x.1).toNat x.2.1 x.2.2).2.2.err]), (10000, .sl [.str, .int .u8, .int .i64, .str] (N.hl (n - x.1).toNat x.2.1 x.2.2).2.1 0)] })
          (K .ret { fr := [(2, .own 10000 0)], tab := [(0, .var [.str (N.hl (n - x.1).toNat x.2.1 x.2.2).2.2.s, .int .i64 (N.hl (n - x.1).toNat x.2.1 x.2.2).2.2.err]), (10000, .sl [.str, .int .u8, .int .i64, .str] [] 0)] })) ?_ (j, ⟨s, e⟩, rows) ⟨ile_of h1, h3⟩ K q (by assumption)
      rintro ⟨j, ⟨s, e⟩, rows⟩ ⟨hj, hr⟩
      simp only at hj hr ⊢
      by_cases hl : j < n
      · rw [show (n - j).toNat = (n - (j + 1)).toNat + 1 by omega]
        simp only [N.hl]
        cases hc : ((N.bad (N.one ⟨s, e⟩).1 (rowsP rows) (N.one ⟨s, e⟩).2).err != 0) with
        | true =>
          refine .inr ⟨.ret, { fr := [(2, .own 10000 0)], tab := [(0, .var [.str (N.bad (N.one ⟨s, e⟩).1 (rowsP rows) (N.one ⟨s, e⟩).2).s, .int .i64 (N.bad (N.one ⟨s, e⟩).1 (rowsP rows) (N.one ⟨s, e⟩).2).err]), (10000, .sl [.str, .int .u8, .int .i64, .str] [] 0)] }, by simp, fun K => ?_, fun K => rfl⟩
          rw [q_headReadR]
          unfold N.bad rowsP rowP at hc ⊢
          cases hz : (N.one ⟨s, e⟩).2.err == 0 with
          | true => rw [hz, cond_true] at hc; simp (disch := omega) only [evs, hc]
          | false => rw [hz, cond_false] at hc; simp (disch := omega) only [evs, hc]
        | false =>
          refine .inl ⟨(j + 1, N.bad (N.one ⟨s, e⟩).1 (rowsP rows) (N.one ⟨s, e⟩).2, rows ++ [cPair.enc (N.one ⟨s, e⟩).1]), ⟨by simp only; omega, by simp only [List.length_append, List.length_cons, List.length_nil]; omega⟩, by simp only; omega, fun K => ?_, fun K => rfl⟩
          rw [q_headReadR]
          unfold N.bad rowsP rowP at hc ⊢
          cases hz : (N.one ⟨s, e⟩).2.err == 0 with
          | true => rw [hz, cond_true] at hc; simp (disch := omega) only [evs, hc]; rfl
          | false => rw [hz, cond_false] at hc; simp (disch := omega) only [evs, hc]; rfl
      · refine .inr ⟨.exit 0, { fr := [(4, .own 10000 0)], tab := [(0, .var [.str s, .int .i64 e]), (10000, .sl [.str, .int .u8, .int .i64, .str] rows 0)] }, by simp, fun K => ?_, fun K => ?_⟩
        · rw [q_headReadR]
          simp (disch := omega) only [evs]
        · rw [show (n - j).toNat = 0 by omega]; rfl
    · cases h
  · refine (q_headRead i).trans ?_
    obtain ⟨b1, b2⟩ := inNum1 i
    have w : IntKind.wrap .i64 (N.inNum i 1).1 = (N.inNum i 1).1 := wrap_i64 (by omega) (by omega)
    show _ = some (⟨.slc [.str, .int .u8, .int .i64, .str] ((N.headRead i).1.map cPair.enc), [[.str (N.headRead i).2.s, .int .i64 (N.headRead i).2.err]], []⟩ : DRes)
    unfold N.headRead
    rw [w]
    simp (disch := omega) only [evs, Int.sub_zero, Nat.zero_add]
    cases ilt 8 (N.inNum i 1).1 with
    | true =>
      have e1 := hl_enc (N.inNum i 1).1.toNat (N.inFail (N.inNum i 1).2 6) []
      have e2 := hl_none (N.inNum i 1).1.toNat (N.inFail (N.inNum i 1).2 6) []
      rw [List.map_nil] at e1
      cases hc : (N.hl (N.inNum i 1).1.toNat (N.inFail (N.inNum i 1).2 6) []).1 with
      | true => simp only [cond_true, e1]
      | false =>
        rw [e1] at e2
        have e3 : (N.readFrom (N.inNum i 1).1.toNat (N.inFail (N.inNum i 1).2 6) []).1.map cPair.enc = [] := e2 hc
        simp only [cond_true, cond_false, e1, e3]
    | false =>
      have e1 := hl_enc (N.inNum i 1).1.toNat (N.inNum i 1).2 []
      have e2 := hl_none (N.inNum i 1).1.toNat (N.inNum i 1).2 []
      rw [List.map_nil] at e1
      cases hc : (N.hl (N.inNum i 1).1.toNat (N.inNum i 1).2 []).1 with
      | true => simp only [cond_true, cond_false, e1]
      | false =>
        rw [e1] at e2
        have e3 : (N.readFrom (N.inNum i 1).1.toNat (N.inNum i 1).2 []).1.map cPair.enc = [] := e2 hc
        simp only [cond_false, e1, e3]
def schRNum : SSch := { fr := [(5, .str), (6, .int .u64), (7, .int .i64)], tab := [(0, .var [.str, .int .i64, .int .i64])] }
namespace N
def beW : Bytes → Int → Int
  | [], n => n
  | c :: r, n => beW r (IntKind.wrap .u64 (IntKind.wrap .u64 (n * 256) + IntKind.wrap .u64 c.toNat))
end N
def gRNum : List Leaf → (Ex → St → Option R) → Option R
  | [.s s5, .i i6, .i i7, .s sx0, .i ix0, .i ix0_1], K => cond (ile 0 i7) (cond (Nat.ble s5.length LIM) (K (.exit 0) { fr := [(6, .int .u64 (N.beW (s5.drop i7.toNat) i6))], tab := [(0, .var [.str sx0, .int .i64 ix0, .int .i64 ix0_1])] }) none) none
  | _, _ => none
noncomputable def eRNum : Env := env Tryd.prog [(89, dRRaw)] [(6, loopF schRNum gRNum)] [(6, [(0, [5, 6, 7]), (1, [6]), (1000, [4])])]
theorem q_rNum (q : RIn) (n : Int) : evFn eRNum 68 (((aCons (vPtr 0) (aOne (vInt .i64))).enc ((), n))) (((bOne cRIn).enc q)) some =
 cond (ilt (8 : Int) n) (cond (N.goodR q) (cond (Nat.ble (List.length (Prod.fst (N.rRaw q (8 : Int)))) (1000000 : Nat)) (some { v := V.int IntKind.u64 (N.beW (List.drop (0 : Nat) (Prod.fst (N.rRaw q (8 : Int)))) (0 : Int)), bx := [[V.str (RIn.s (Prod.snd (N.rRaw q (8 : Int)))), V.int IntKind.i64 (RIn.at' (Prod.snd (N.rRaw q (8 : Int)))), V.int IntKind.i64 (RIn.code (Prod.snd (N.rRaw q (8 : Int))))]] : DRes }) (none)) (none)) (cond (N.goodR q) (cond (Nat.ble (List.length (Prod.fst (N.rRaw q n))) (1000000 : Nat)) (some { v := V.int IntKind.u64 (N.beW (List.drop (0 : Nat) (Prod.fst (N.rRaw q n))) (0 : Int)), bx := [[V.str (RIn.s (Prod.snd (N.rRaw q n))), V.int IntKind.i64 (RIn.at' (Prod.snd (N.rRaw q n))), V.int IntKind.i64 (RIn.code (Prod.snd (N.rRaw q n)))]] : DRes }) (none)) (none)) := by kernel_rfl
theorem q_rNumR (s5 : Bytes) (i6 : Int) (i7 : Int) (sx0 : Bytes) (ix0 : Int) (ix0_1 : Int) (K : Ex → St → Option R) : evRound eRNum 68 6 { fr := [(5, .str s5), (6, .int .u64 i6), (7, .int .i64 i7)], tab := [(0, .var [.str sx0, .int .i64 ix0, .int .i64 ix0_1])] } K =
 cond (ilt i7 (↑(List.length s5) : Int)) (cond (decide ((0 : Int) ≤ i7 ∧ i7 < (↑(List.length s5) : Int))) (K Ex.normal { fr := [((5 : Nat), V.str s5), ((6 : Nat), V.int IntKind.u64 (IntKind.wrap IntKind.u64 (IntKind.wrap IntKind.u64 (i6 * (256 : Int)) + IntKind.wrap IntKind.u64 (↑(UInt8.toNat (List.getD s5 (Int.toNat i7) (0 : UInt8))) : Int)))), ((7 : Nat), V.int IntKind.i64 (IntKind.wrap IntKind.i64 (i7 + (1 : Int))))], tab := [((0 : Nat), Box.var [V.str sx0, V.int IntKind.i64 ix0, V.int IntKind.i64 ix0_1])] : St }) (none)) (K (Ex.exit (0 : Nat)) { fr := [((6 : Nat), V.int IntKind.u64 i6)], tab := [((0 : Nat), Box.var [V.str sx0, V.int IntKind.i64 ix0, V.int IntKind.i64 ix0_1])] : St }) := by kernel_rfl
theorem beW_eq : ∀ (l : Bytes) (n : Int) (k : Nat), 0 ≤ n → l.length ≤ k → k ≤ 8 → n < ((256 ^ (8 - k) : Nat) : Int) → N.beW l n = N.be l n
  | [], n, k, _, _, _, _ => rfl
  | c :: r, n, k, hn, hl, hk, h => by
    have hc : c.toNat < 256 := c.toNat_lt
    have hl' : r.length + 1 ≤ k := hl
    have h7 : n < 72057594037927936 := by
      have h1 : 256 ^ (8 - k) ≤ 256 ^ 7 := Nat.pow_le_pow_right (by decide) (by omega)
      have e : (256 : Nat) ^ 7 = 72057594037927936 := by decide
      rw [e] at h1
      omega
    show N.beW r (IntKind.wrap .u64 (IntKind.wrap .u64 (n * 256) + IntKind.wrap .u64 ((c.toNat : Nat) : Int))) = N.be r (n * 256 + c.toNat)
    rw [wrap_u64 (n := n * 256) (by omega) (by omega), wrap_u64 (n := (c.toNat : Int)) (by omega) (by omega), wrap_u64 (by omega) (by omega)]
    refine beW_eq r _ (k - 1) (by omega) (by omega) (by omega) ?_
    have : (256 : Nat) ^ (8 - (k - 1)) = 256 ^ (8 - k) * 256 := by
      rw [show 8 - (k - 1) = (8 - k) + 1 by omega, Nat.pow_succ]
    rw [this]; omega
theorem rRaw_len {q : RIn} (h : N.goodR q = true) (n : Int) (m : Nat) (hm : n ≤ m) : (N.rRaw q n).1.length ≤ m := by
  rw [← (rl_raw (good_rl h).1 n).1]; exact N.inRaw_len _ n m hm
theorem ok_rNum : FnOk Tryd.prog 68 dRNum := by
  refine den_okF (env_ok ((TOk.nil _).cons ok_rRaw)) (E := eRNum) Tryd.func68 [6] (by kernel_rfl) (one1 (rounds_of rfl fun l K q h => ?_)) fun a q h => ?_
  · unfold gRNum at h
    split at h
    · rename_i s n k x1 x2 x3
      have h1 := (cond_none h).1; replace h := (cond_none h).2; have h2 := (cond_none h).1; replace h := (cond_none h).2
      have h2 : s.length ≤ 1000000 := ble_of h2
      refine loop_ind (E := eRNum) (f := 68) (id := 6) (σ := Int × Int) (fun x => { fr := [(5, .str s), (6, .int .u64 x.1), (7, .int .i64 x.2)], tab := [(0, .var [.str x1, .int .i64 x2, .int .i64 x3])] })
        (fun x => 0 ≤ x.2) (fun x => s.length - x.2.toNat)
        (fun x K => K (.exit 0) { fr := [(6, .int .u64 (N.beW (s.drop x.2.toNat) x.1))], tab := [(0, .var [.str x1, .int .i64 x2, .int .i64 x3])] }) ?_ (n, k) (ile_of h1) K q (by assumption)
      rintro ⟨n, k⟩ hk
      simp only at hk ⊢
      by_cases hl : k < s.length
      · rw [drop_byte (show k.toNat < s.length by omega)]
        refine .inl ⟨(IntKind.wrap .u64 (IntKind.wrap .u64 (n * 256) + IntKind.wrap .u64 (s.getD k.toNat 0).toNat), k + 1), by simp only; omega, by simp only; omega, fun K => ?_, fun K => ?_⟩
        · rw [q_rNumR]
          simp (disch := omega) only [evs]
        · rw [show (k + 1).toNat = k.toNat + 1 by omega]; rfl
      · refine .inr ⟨.exit 0, { fr := [(6, .int .u64 n)], tab := [(0, .var [.str x1, .int .i64 x2, .int .i64 x3])] }, by simp, fun K => ?_, fun K => ?_⟩
        · rw [q_rNumR]
          simp (disch := omega) only [evs]
        · rw [List.drop_eq_nil_of_le (by omega)]; rfl
    · cases h
  · refine (q_rNum q a.2).trans ?_
    show _ = some (⟨.int .u64 (N.rNum q a.2).1, [[.str (N.rNum q a.2).2.s, .int .i64 (N.rNum q a.2).2.at', .int .i64 (N.rNum q a.2).2.code]], []⟩ : DRes)
    unfold N.rNum
    have h : N.goodR q = true := h
    by_cases e : 8 < a.2
    · have l := rRaw_len h 8 8 (Int.le_refl 8)
      have b := beW_eq (N.rRaw q 8).1 0 8 (by decide) l (by decide) (by decide)
      simp (disch := omega) only [evs, h, List.drop_zero, b]
    · have l := rRaw_len h a.2 8 (by omega)
      have b := beW_eq (N.rRaw q a.2).1 0 8 (by decide) l (by decide) (by decide)
      simp (disch := omega) only [evs, h, List.drop_zero, b]
noncomputable def eRText : Env := env Tryd.prog [(68, dRNum), (69, dRFail), (89, dRRaw)] [] []
theorem q_rText (q : RIn) (n : Int) : evFn eRText 70 ((aCons (vPtr 0) (aOne (vInt .i64))).enc ((), n)) ((bOne cRIn).enc q) some =
 cond (N.goodR q) (cond (ilt n (IntKind.wrap IntKind.i64 (Prod.fst (N.rNum q (2 : Int))))) (cond (N.goodR (N.rFail (Prod.snd (N.rNum q (2 : Int))) (5 : Int))) (some { v := V.str (Prod.fst (N.rRaw (N.rFail (Prod.snd (N.rNum q (2 : Int))) (5 : Int)) (IntKind.wrap IntKind.i64 (Prod.fst (N.rNum q (2 : Int)))))), bx := [[V.str (RIn.s (Prod.snd (N.rRaw (N.rFail (Prod.snd (N.rNum q (2 : Int))) (5 : Int)) (IntKind.wrap IntKind.i64 (Prod.fst (N.rNum q (2 : Int))))))), V.int IntKind.i64 (RIn.at' (Prod.snd (N.rRaw (N.rFail (Prod.snd (N.rNum q (2 : Int))) (5 : Int)) (IntKind.wrap IntKind.i64 (Prod.fst (N.rNum q (2 : Int))))))), V.int IntKind.i64 (RIn.code (Prod.snd (N.rRaw (N.rFail (Prod.snd (N.rNum q (2 : Int))) (5 : Int)) (IntKind.wrap IntKind.i64 (Prod.fst (N.rNum q (2 : Int)))))))]] : DRes }) (none)) (cond (N.goodR (Prod.snd (N.rNum q (2 : Int)))) (some { v := V.str (Prod.fst (N.rRaw (Prod.snd (N.rNum q (2 : Int))) (IntKind.wrap IntKind.i64 (Prod.fst (N.rNum q (2 : Int)))))), bx := [[V.str (RIn.s (Prod.snd (N.rRaw (Prod.snd (N.rNum q (2 : Int))) (IntKind.wrap IntKind.i64 (Prod.fst (N.rNum q (2 : Int))))))), V.int IntKind.i64 (RIn.at' (Prod.snd (N.rRaw (Prod.snd (N.rNum q (2 : Int))) (IntKind.wrap IntKind.i64 (Prod.fst (N.rNum q (2 : Int))))))), V.int IntKind.i64 (RIn.code (Prod.snd (N.rRaw (Prod.snd (N.rNum q (2 : Int))) (IntKind.wrap IntKind.i64 (Prod.fst (N.rNum q (2 : Int)))))))]] : DRes }) (none))) (none) := by kernel_rfl
theorem ok_rText : FnOk Tryd.prog 70 dRText := by
  refine den_okF (env_ok ((((TOk.nil _).cons ok_rRaw).cons ok_rFail).cons ok_rNum)) (E := eRText) Tryd.func70 [] (by kernel_rfl) none0 fun a q h => ?_
  refine (q_rText q a.2).trans ?_
  show _ = some (⟨.str (N.rText q a.2).1, [[.str (N.rText q a.2).2.s, .int .i64 (N.rText q a.2).2.at', .int .i64 (N.rText q a.2).2.code]], []⟩ : DRes)
  unfold N.rText
  have h : N.goodR q = true := h
  have h1 := good_num h 2
  have h2 := good_fail h1 5
  simp (disch := omega) only [evs, h, h1, h2]
  cases ilt a.2 (IntKind.wrap .i64 (N.rNum q 2).1) <;> rfl
def schRefPair : SSch := { fr := [(2, .ptr 10000 0 0), (57, .slc [.str, .int .u8, .int .i64, .str]), (58, .int .i64), (59, .int .i64)], tab := [(10000, .var [.str, .int .u8, .int .i64, .str])] }
def gRefPair : List Leaf → (Ex → St → Option R) → Option R
  | [.r r57, .i i58, .i i59, .s sx0, .i _, .i _, .s _], K => cond (i58 == r57.length) (cond (ile 0 i59) (cond (Nat.ble r57.length LIM)
      (cond (ile 0 (N.findIx sx0 ((rowsP r57).drop i59.toNat) i59)) (K .ret { fr := [(4, .int .i64 9)], tab := [] }) (K (.exit 0) { fr := [], tab := [] })) none) none) none
  | _, _ => none
noncomputable def eRefPair : Env := env Tryd.prog [(17, dName)] [(13, loopF schRefPair gRefPair)] [(13, [(0, [2, 57, 58, 59]), (1, []), (1000, [4])])]
theorem q_refPair (p : HPair) (l : List HPair) : evFn eRefPair 71 (((aCons (vAgg cPair) (aOne (vSl cPair))).enc (p, l))) ([]) some =
 cond (N.name (HPair.key p) != (0 : Int)) (some { v := V.int IntKind.i64 (N.name (HPair.key p)), bx := [] : DRes }) (cond (ilt (2 : Int) (HPair.kind p)) (some { v := V.int IntKind.i64 (8 : Int), bx := [] : DRes }) (cond (HPair.kind p == (1 : Int)) (cond (ilt (64 : Int) (↑(List.length (HPair.text p)) : Int)) (some { v := V.int IntKind.i64 (5 : Int), bx := [] : DRes }) (cond (HPair.kind p == (2 : Int)) (cond (ilt (HPair.num p) (0 : Int)) (some { v := V.int IntKind.i64 (7 : Int), bx := [] : DRes }) (cond (ilt (1 : Int) (HPair.num p)) (some { v := V.int IntKind.i64 (7 : Int), bx := [] : DRes }) (cond (HPair.kind p == (1 : Int)) (cond (HPair.num p != (0 : Int)) (some { v := V.int IntKind.i64 (4 : Int), bx := [] : DRes }) (cond (HPair.kind p != (1 : Int)) (cond (!HPair.text p == []) (some { v := V.int IntKind.i64 (4 : Int), bx := [] : DRes }) (cond ((↑(List.length (List.map (fun p => [V.str (HPair.key p), V.int IntKind.u8 (HPair.kind p), V.int IntKind.i64 (HPair.num p), V.str (HPair.text p)]) l)) : Int) == (↑(List.length (List.map (fun p => [V.str (HPair.key p), V.int IntKind.u8 (HPair.kind p), V.int IntKind.i64 (HPair.num p), V.str (HPair.text p)]) l)) : Int)) (cond (Nat.ble (List.length (List.map (fun p => [V.str (HPair.key p), V.int IntKind.u8 (HPair.kind p), V.int IntKind.i64 (HPair.num p), V.str (HPair.text p)]) l)) (1000000 : Nat)) (cond (ile (0 : Int) (N.findIx (HPair.key p) (List.drop (0 : Nat) (List.map (fun r => { key := V.toStr (List.getD r (0 : Nat) V.undef), kind := V.toInt (List.getD r (1 : Nat) V.undef), num := V.toInt (List.getD r (2 : Nat) V.undef), text := V.toStr (List.getD r (3 : Nat) V.undef) : HPair }) (List.map (fun p => [V.str (HPair.key p), V.int IntKind.u8 (HPair.kind p), V.int IntKind.i64 (HPair.num p), V.str (HPair.text p)]) l))) (0 : Int))) (some { v := V.int IntKind.i64 (9 : Int), bx := [] : DRes }) (some { v := V.int IntKind.i64 (0 : Int), bx := [] : DRes })) (none)) (none))) (cond ((↑(List.length (List.map (fun p => [V.str (HPair.key p), V.int IntKind.u8 (HPair.kind p), V.int IntKind.i64 (HPair.num p), V.str (HPair.text p)]) l)) : Int) == (↑(List.length (List.map (fun p => [V.str (HPair.key p), V.int IntKind.u8 (HPair.kind p), V.int IntKind.i64 (HPair.num p), V.str (HPair.text p)]) l)) : Int)) (cond (Nat.ble (List.length (List.map (fun p => [V.str (HPair.key p), V.int IntKind.u8 (HPair.kind p), V.int IntKind.i64 (HPair.num p), V.str (HPair.text p)]) l)) (1000000 : Nat)) (cond (ile (0 : Int) (N.findIx (HPair.key p) (List.drop (0 : Nat) (List.map (fun r => { key := V.toStr (List.getD r (0 : Nat) V.undef), kind := V.toInt (List.getD r (1 : Nat) V.undef), num := V.toInt (List.getD r (2 : Nat) V.undef), text := V.toStr (List.getD r (3 : Nat) V.undef) : HPair }) (List.map (fun p => [V.str (HPair.key p), V.int IntKind.u8 (HPair.kind p), V.int IntKind.i64 (HPair.num p), V.str (HPair.text p)]) l))) (0 : Int))) (some { v := V.int IntKind.i64 (9 : Int), bx := [] : DRes }) (some { v := V.int IntKind.i64 (0 : Int), bx := [] : DRes })) (none)) (none)))) (cond (HPair.kind p != (1 : Int)) (cond (!HPair.text p == []) (some { v := V.int IntKind.i64 (4 : Int), bx := [] : DRes }) (cond ((↑(List.length (List.map (fun p => [V.str (HPair.key p), V.int IntKind.u8 (HPair.kind p), V.int IntKind.i64 (HPair.num p), V.str (HPair.text p)]) l)) : Int) == (↑(List.length (List.map (fun p => [V.str (HPair.key p), V.int IntKind.u8 (HPair.kind p), V.int IntKind.i64 (HPair.num p), V.str (HPair.text p)]) l)) : Int)) (cond (Nat.ble (List.length (List.map (fun p => [V.str (HPair.key p), V.int IntKind.u8 (HPair.kind p), V.int IntKind.i64 (HPair.num p), V.str (HPair.text p)]) l)) (1000000 : Nat)) (cond (ile (0 : Int) (N.findIx (HPair.key p) (List.drop (0 : Nat) (List.map (fun r => { key := V.toStr (List.getD r (0 : Nat) V.undef), kind := V.toInt (List.getD r (1 : Nat) V.undef), num := V.toInt (List.getD r (2 : Nat) V.undef), text := V.toStr (List.getD r (3 : Nat) V.undef) : HPair }) (List.map (fun p => [V.str (HPair.key p), V.int IntKind.u8 (HPair.kind p), V.int IntKind.i64 (HPair.num p), V.str (HPair.text p)]) l))) (0 : Int))) (some { v := V.int IntKind.i64 (9 : Int), bx := [] : DRes }) (some { v := V.int IntKind.i64 (0 : Int), bx := [] : DRes })) (none)) (none))) (cond ((↑(List.length (List.map (fun p => [V.str (HPair.key p), V.int IntKind.u8 (HPair.kind p), V.int IntKind.i64 (HPair.num p), V.str (HPair.text p)]) l)) : Int) == (↑(List.length (List.map (fun p => [V.str (HPair.key p), V.int IntKind.u8 (HPair.kind p), V.int IntKind.i64 (HPair.num p), V.str (HPair.text p)]) l)) : Int)) (cond (Nat.ble (List.length (List.map (fun p => [V.str (HPair.key p), V.int IntKind.u8 (HPair.kind p), V.int IntKind.i64 (HPair.num p), V.str (HPair.text p)]) l)) (1000000 : Nat)) (cond (ile (0 : Int) (N.findIx (HPair.key p) (List.drop (0 : Nat) (List.map (fun r => { key := V.toStr (List.getD r (0 : Nat) V.undef), kind := V.toInt (List.getD r (1 : Nat) V.undef), num := V.toInt (List.getD r (2 : Nat) V.undef), text := V.toStr (List.getD r (3 : Nat) V.undef) : HPair }) (List.map (fun p => [V.str (HPair.key p), V.int IntKind.u8 (HPair.kind p), V.int IntKind.i64 (HPair.num p), V.str (HPair.text p)]) l))) (0 : Int))) (some { v := V.int IntKind.i64 (9 : Int), bx := [] : DRes }) (some { v := V.int IntKind.i64 (0 : Int), bx := [] : DRes })) (none)) (none)))))) (cond (HPair.kind p == (1 : Int)) (cond (HPair.num p != (0 : Int)) (some { v := V.int IntKind.i64 (4 : Int), bx := [] : DRes }) (cond (HPair.kind p != (1 : Int)) (cond (!HPair.text p == []) (some { v := V.int IntKind.i64 (4 : Int), bx := [] : DRes }) (cond ((↑(List.length (List.map (fun p => [V.str (HPair.key p), V.int IntKind.u8 (HPair.kind p), V.int IntKind.i64 (HPair.num p), V.str (HPair.text p)]) l)) : Int) == (↑(List.length (List.map (fun p => [V.str (HPair.key p), V.int IntKind.u8 (HPair.kind p), V.int IntKind.i64 (HPair.num p), V.str (HPair.text p)]) l)) : Int)) (cond (Nat.ble (List.length (List.map (fun p => [V.str (HPair.key p), V.int IntKind.u8 (HPair.kind p), V.int IntKind.i64 (HPair.num p), V.str (HPair.text p)]) l)) (1000000 : Nat)) (cond (ile (0 : Int) (N.findIx (HPair.key p) (List.drop (0 : Nat) (List.map (fun r => { key := V.toStr (List.getD r (0 : Nat) V.undef), kind := V.toInt (List.getD r (1 : Nat) V.undef), num := V.toInt (List.getD r (2 : Nat) V.undef), text := V.toStr (List.getD r (3 : Nat) V.undef) : HPair }) (List.map (fun p => [V.str (HPair.key p), V.int IntKind.u8 (HPair.kind p), V.int IntKind.i64 (HPair.num p), V.str (HPair.text p)]) l))) (0 : Int))) (some { v := V.int IntKind.i64 (9 : Int), bx := [] : DRes }) (some { v := V.int IntKind.i64 (0 : Int), bx := [] : DRes })) (none)) (none))) (cond ((↑(List.length (List.map (fun p => [V.str (HPair.key p), V.int IntKind.u8 (HPair.kind p), V.int IntKind.i64 (HPair.num p), V.str (HPair.text p)]) l)) : Int) == (↑(List.length (List.map (fun p => [V.str (HPair.key p), V.int IntKind.u8 (HPair.kind p), V.int IntKind.i64 (HPair.num p), V.str (HPair.text p)]) l)) : Int)) (cond (Nat.ble (List.length (List.map (fun p => [V.str (HPair.key p), V.int IntKind.u8 (HPair.kind p), V.int IntKind.i64 (HPair.num p), V.str (HPair.text p)]) l)) (1000000 : Nat)) (cond (ile (0 : Int) (N.findIx (HPair.key p) (List.drop (0 : Nat) (List.map (fun r => { key := V.toStr (List.getD r (0 : Nat) V.undef), kind := V.toInt (List.getD r (1 : Nat) V.undef), num := V.toInt (List.getD r (2 : Nat) V.undef), text := V.toStr (List.getD r (3 : Nat) V.undef) : HPair }) (List.map (fun p => [V.str (HPair.key p), V.int IntKind.u8 (HPair.kind p), V.int IntKind.i64 (HPair.num p), V.str (HPair.text p)]) l))) (0 : Int))) (some { v := V.int IntKind.i64 (9 : Int), bx := [] : DRes }) (some { v := V.int IntKind.i64 (0 : Int), bx := [] : DRes })) (none)) (none)))) (cond (HPair.kind p != (1 : Int)) (cond (!HPair.text p == []) (some { v := V.int IntKind.i64 (4 : Int), bx := [] : DRes }) (cond ((↑(List.length (List.map (fun p => [V.str (HPair.key p), V.int IntKind.u8 (HPair.kind p), V.int IntKind.i64 (HPair.num p), V.str (HPair.text p)]) l)) : Int) == (↑(List.length (List.map (fun p => [V.str (HPair.key p), V.int IntKind.u8 (HPair.kind p), V.int IntKind.i64 (HPair.num p), V.str (HPair.text p)]) l)) : Int)) (cond (Nat.ble (List.length (List.map (fun p => [V.str (HPair.key p), V.int IntKind.u8 (HPair.kind p), V.int IntKind.i64 (HPair.num p), V.str (HPair.text p)]) l)) (1000000 : Nat)) (cond (ile (0 : Int) (N.findIx (HPair.key p) (List.drop (0 : Nat) (List.map (fun r => { key := V.toStr (List.getD r (0 : Nat) V.undef), kind := V.toInt (List.getD r (1 : Nat) V.undef), num := V.toInt (List.getD r (2 : Nat) V.undef), text := V.toStr (List.getD r (3 : Nat) V.undef) : HPair }) (List.map (fun p => [V.str (HPair.key p), V.int IntKind.u8 (HPair.kind p), V.int IntKind.i64 (HPair.num p), V.str (HPair.text p)]) l))) (0 : Int))) (some { v := V.int IntKind.i64 (9 : Int), bx := [] : DRes }) (some { v := V.int IntKind.i64 (0 : Int), bx := [] : DRes })) (none)) (none))) (cond ((↑(List.length (List.map (fun p => [V.str (HPair.key p), V.int IntKind.u8 (HPair.kind p), V.int IntKind.i64 (HPair.num p), V.str (HPair.text p)]) l)) : Int) == (↑(List.length (List.map (fun p => [V.str (HPair.key p), V.int IntKind.u8 (HPair.kind p), V.int IntKind.i64 (HPair.num p), V.str (HPair.text p)]) l)) : Int)) (cond (Nat.ble (List.length (List.map (fun p => [V.str (HPair.key p), V.int IntKind.u8 (HPair.kind p), V.int IntKind.i64 (HPair.num p), V.str (HPair.text p)]) l)) (1000000 : Nat)) (cond (ile (0 : Int) (N.findIx (HPair.key p) (List.drop (0 : Nat) (List.map (fun r => { key := V.toStr (List.getD r (0 : Nat) V.undef), kind := V.toInt (List.getD r (1 : Nat) V.undef), num := V.toInt (List.getD r (2 : Nat) V.undef), text := V.toStr (List.getD r (3 : Nat) V.undef) : HPair }) (List.map (fun p => [V.str (HPair.key p), V.int IntKind.u8 (HPair.kind p), V.int IntKind.i64 (HPair.num p), V.str (HPair.text p)]) l))) (0 : Int))) (some { v := V.int IntKind.i64 (9 : Int), bx := [] : DRes }) (some { v := V.int IntKind.i64 (0 : Int), bx := [] : DRes })) (none)) (none)))))) (cond (HPair.kind p == (2 : Int)) (cond (ilt (HPair.num p) (0 : Int)) (some { v := V.int IntKind.i64 (7 : Int), bx := [] : DRes }) (cond (ilt (1 : Int) (HPair.num p)) (some { v := V.int IntKind.i64 (7 : Int), bx := [] : DRes }) (cond (HPair.kind p == (1 : Int)) (cond (HPair.num p != (0 : Int)) (some { v := V.int IntKind.i64 (4 : Int), bx := [] : DRes }) (cond (HPair.kind p != (1 : Int)) (cond (!HPair.text p == []) (some { v := V.int IntKind.i64 (4 : Int), bx := [] : DRes }) (cond ((↑(List.length (List.map (fun p => [V.str (HPair.key p), V.int IntKind.u8 (HPair.kind p), V.int IntKind.i64 (HPair.num p), V.str (HPair.text p)]) l)) : Int) == (↑(List.length (List.map (fun p => [V.str (HPair.key p), V.int IntKind.u8 (HPair.kind p), V.int IntKind.i64 (HPair.num p), V.str (HPair.text p)]) l)) : Int)) (cond (Nat.ble (List.length (List.map (fun p => [V.str (HPair.key p), V.int IntKind.u8 (HPair.kind p), V.int IntKind.i64 (HPair.num p), V.str (HPair.text p)]) l)) (1000000 : Nat)) (cond (ile (0 : Int) (N.findIx (HPair.key p) (List.drop (0 : Nat) (List.map (fun r => { key := V.toStr (List.getD r (0 : Nat) V.undef), kind := V.toInt (List.getD r (1 : Nat) V.undef), num := V.toInt (List.getD r (2 : Nat) V.undef), text := V.toStr (List.getD r (3 : Nat) V.undef) : HPair }) (List.map (fun p => [V.str (HPair.key p), V.int IntKind.u8 (HPair.kind p), V.int IntKind.i64 (HPair.num p), V.str (HPair.text p)]) l))) (0 : Int))) (some { v := V.int IntKind.i64 (9 : Int), bx := [] : DRes }) (some { v := V.int IntKind.i64 (0 : Int), bx := [] : DRes })) (none)) (none))) (cond ((↑(List.length (List.map (fun p => [V.str (HPair.key p), V.int IntKind.u8 (HPair.kind p), V.int IntKind.i64 (HPair.num p), V.str (HPair.text p)]) l)) : Int) == (↑(List.length (List.map (fun p => [V.str (HPair.key p), V.int IntKind.u8 (HPair.kind p), V.int IntKind.i64 (HPair.num p), V.str (HPair.text p)]) l)) : Int)) (cond (Nat.ble (List.length (List.map (fun p => [V.str (HPair.key p), V.int IntKind.u8 (HPair.kind p), V.int IntKind.i64 (HPair.num p), V.str (HPair.text p)]) l)) (1000000 : Nat)) (cond (ile (0 : Int) (N.findIx (HPair.key p) (List.drop (0 : Nat) (List.map (fun r => { key := V.toStr (List.getD r (0 : Nat) V.undef), kind := V.toInt (List.getD r (1 : Nat) V.undef), num := V.toInt (List.getD r (2 : Nat) V.undef), text := V.toStr (List.getD r (3 : Nat) V.undef) : HPair }) (List.map (fun p => [V.str (HPair.key p), V.int IntKind.u8 (HPair.kind p), V.int IntKind.i64 (HPair.num p), V.str (HPair.text p)]) l))) (0 : Int))) (some { v := V.int IntKind.i64 (9 : Int), bx := [] : DRes }) (some { v := V.int IntKind.i64 (0 : Int), bx := [] : DRes })) (none)) (none)))) (cond (HPair.kind p != (1 : Int)) (cond (!HPair.text p == []) (some { v := V.int IntKind.i64 (4 : Int), bx := [] : DRes }) (cond ((↑(List.length (List.map (fun p => [V.str (HPair.key p), V.int IntKind.u8 (HPair.kind p), V.int IntKind.i64 (HPair.num p), V.str (HPair.text p)]) l)) : Int) == (↑(List.length (List.map (fun p => [V.str (HPair.key p), V.int IntKind.u8 (HPair.kind p), V.int IntKind.i64 (HPair.num p), V.str (HPair.text p)]) l)) : Int)) (cond (Nat.ble (List.length (List.map (fun p => [V.str (HPair.key p), V.int IntKind.u8 (HPair.kind p), V.int IntKind.i64 (HPair.num p), V.str (HPair.text p)]) l)) (1000000 : Nat)) (cond (ile (0 : Int) (N.findIx (HPair.key p) (List.drop (0 : Nat) (List.map (fun r => { key := V.toStr (List.getD r (0 : Nat) V.undef), kind := V.toInt (List.getD r (1 : Nat) V.undef), num := V.toInt (List.getD r (2 : Nat) V.undef), text := V.toStr (List.getD r (3 : Nat) V.undef) : HPair }) (List.map (fun p => [V.str (HPair.key p), V.int IntKind.u8 (HPair.kind p), V.int IntKind.i64 (HPair.num p), V.str (HPair.text p)]) l))) (0 : Int))) (some { v := V.int IntKind.i64 (9 : Int), bx := [] : DRes }) (some { v := V.int IntKind.i64 (0 : Int), bx := [] : DRes })) (none)) (none))) (cond ((↑(List.length (List.map (fun p => [V.str (HPair.key p), V.int IntKind.u8 (HPair.kind p), V.int IntKind.i64 (HPair.num p), V.str (HPair.text p)]) l)) : Int) == (↑(List.length (List.map (fun p => [V.str (HPair.key p), V.int IntKind.u8 (HPair.kind p), V.int IntKind.i64 (HPair.num p), V.str (HPair.text p)]) l)) : Int)) (cond (Nat.ble (List.length (List.map (fun p => [V.str (HPair.key p), V.int IntKind.u8 (HPair.kind p), V.int IntKind.i64 (HPair.num p), V.str (HPair.text p)]) l)) (1000000 : Nat)) (cond (ile (0 : Int) (N.findIx (HPair.key p) (List.drop (0 : Nat) (List.map (fun r => { key := V.toStr (List.getD r (0 : Nat) V.undef), kind := V.toInt (List.getD r (1 : Nat) V.undef), num := V.toInt (List.getD r (2 : Nat) V.undef), text := V.toStr (List.getD r (3 : Nat) V.undef) : HPair }) (List.map (fun p => [V.str (HPair.key p), V.int IntKind.u8 (HPair.kind p), V.int IntKind.i64 (HPair.num p), V.str (HPair.text p)]) l))) (0 : Int))) (some { v := V.int IntKind.i64 (9 : Int), bx := [] : DRes }) (some { v := V.int IntKind.i64 (0 : Int), bx := [] : DRes })) (none)) (none)))))) (cond (HPair.kind p == (1 : Int)) (cond (HPair.num p != (0 : Int)) (some { v := V.int IntKind.i64 (4 : Int), bx := [] : DRes }) (cond (HPair.kind p != (1 : Int)) (cond (!HPair.text p == []) (some { v := V.int IntKind.i64 (4 : Int), bx := [] : DRes }) (cond ((↑(List.length (List.map (fun p => [V.str (HPair.key p), V.int IntKind.u8 (HPair.kind p), V.int IntKind.i64 (HPair.num p), V.str (HPair.text p)]) l)) : Int) == (↑(List.length (List.map (fun p => [V.str (HPair.key p), V.int IntKind.u8 (HPair.kind p), V.int IntKind.i64 (HPair.num p), V.str (HPair.text p)]) l)) : Int)) (cond (Nat.ble (List.length (List.map (fun p => [V.str (HPair.key p), V.int IntKind.u8 (HPair.kind p), V.int IntKind.i64 (HPair.num p), V.str (HPair.text p)]) l)) (1000000 : Nat)) (cond (ile (0 : Int) (N.findIx (HPair.key p) (List.drop (0 : Nat) (List.map (fun r => { key := V.toStr (List.getD r (0 : Nat) V.undef), kind := V.toInt (List.getD r (1 : Nat) V.undef), num := V.toInt (List.getD r (2 : Nat) V.undef), text := V.toStr (List.getD r (3 : Nat) V.undef) : HPair }) (List.map (fun p => [V.str (HPair.key p), V.int IntKind.u8 (HPair.kind p), V.int IntKind.i64 (HPair.num p), V.str (HPair.text p)]) l))) (0 : Int))) (some { v := V.int IntKind.i64 (9 : Int), bx := [] : DRes }) (some { v := V.int IntKind.i64 (0 : Int), bx := [] : DRes })) (none)) (none))) (cond ((↑(List.length (List.map (fun p => [V.str (HPair.key p), V.int IntKind.u8 (HPair.kind p), V.int IntKind.i64 (HPair.num p), V.str (HPair.text p)]) l)) : Int) == (↑(List.length (List.map (fun p => [V.str (HPair.key p), V.int IntKind.u8 (HPair.kind p), V.int IntKind.i64 (HPair.num p), V.str (HPair.text p)]) l)) : Int)) (cond (Nat.ble (List.length (List.map (fun p => [V.str (HPair.key p), V.int IntKind.u8 (HPair.kind p), V.int IntKind.i64 (HPair.num p), V.str (HPair.text p)]) l)) (1000000 : Nat)) (cond (ile (0 : Int) (N.findIx (HPair.key p) (List.drop (0 : Nat) (List.map (fun r => { key := V.toStr (List.getD r (0 : Nat) V.undef), kind := V.toInt (List.getD r (1 : Nat) V.undef), num := V.toInt (List.getD r (2 : Nat) V.undef), text := V.toStr (List.getD r (3 : Nat) V.undef) : HPair }) (List.map (fun p => [V.str (HPair.key p), V.int IntKind.u8 (HPair.kind p), V.int IntKind.i64 (HPair.num p), V.str (HPair.text p)]) l))) (0 : Int))) (some { v := V.int IntKind.i64 (9 : Int), bx := [] : DRes }) (some { v := V.int IntKind.i64 (0 : Int), bx := [] : DRes })) (none)) (none)))) (cond (HPair.kind p != (1 : Int)) (cond (!HPair.text p == []) (some { v := V.int IntKind.i64 (4 : Int), bx := [] : DRes }) (cond ((↑(List.length (List.map (fun p => [V.str (HPair.key p), V.int IntKind.u8 (HPair.kind p), V.int IntKind.i64 (HPair.num p), V.str (HPair.text p)]) l)) : Int) == (↑(List.length (List.map (fun p => [V.str (HPair.key p), V.int IntKind.u8 (HPair.kind p), V.int IntKind.i64 (HPair.num p), V.str (HPair.text p)]) l)) : Int)) (cond (Nat.ble (List.length (List.map (fun p => [V.str (HPair.key p), V.int IntKind.u8 (HPair.kind p), V.int IntKind.i64 (HPair.num p), V.str (HPair.text p)]) l)) (1000000 : Nat)) (cond (ile (0 : Int) (N.findIx (HPair.key p) (List.drop (0 : Nat) (List.map (fun r => { key := V.toStr (List.getD r (0 : Nat) V.undef), kind := V.toInt (List.getD r (1 : Nat) V.undef), num := V.toInt (List.getD r (2 : Nat) V.undef), text := V.toStr (List.getD r (3 : Nat) V.undef) : HPair }) (List.map (fun p => [V.str (HPair.key p), V.int IntKind.u8 (HPair.kind p), V.int IntKind.i64 (HPair.num p), V.str (HPair.text p)]) l))) (0 : Int))) (some { v := V.int IntKind.i64 (9 : Int), bx := [] : DRes }) (some { v := V.int IntKind.i64 (0 : Int), bx := [] : DRes })) (none)) (none))) (cond ((↑(List.length (List.map (fun p => [V.str (HPair.key p), V.int IntKind.u8 (HPair.kind p), V.int IntKind.i64 (HPair.num p), V.str (HPair.text p)]) l)) : Int) == (↑(List.length (List.map (fun p => [V.str (HPair.key p), V.int IntKind.u8 (HPair.kind p), V.int IntKind.i64 (HPair.num p), V.str (HPair.text p)]) l)) : Int)) (cond (Nat.ble (List.length (List.map (fun p => [V.str (HPair.key p), V.int IntKind.u8 (HPair.kind p), V.int IntKind.i64 (HPair.num p), V.str (HPair.text p)]) l)) (1000000 : Nat)) (cond (ile (0 : Int) (N.findIx (HPair.key p) (List.drop (0 : Nat) (List.map (fun r => { key := V.toStr (List.getD r (0 : Nat) V.undef), kind := V.toInt (List.getD r (1 : Nat) V.undef), num := V.toInt (List.getD r (2 : Nat) V.undef), text := V.toStr (List.getD r (3 : Nat) V.undef) : HPair }) (List.map (fun p => [V.str (HPair.key p), V.int IntKind.u8 (HPair.kind p), V.int IntKind.i64 (HPair.num p), V.str (HPair.text p)]) l))) (0 : Int))) (some { v := V.int IntKind.i64 (9 : Int), bx := [] : DRes }) (some { v := V.int IntKind.i64 (0 : Int), bx := [] : DRes })) (none)) (none))))))) := by kernel_rfl
theorem q_refPairR (r57 : List (List V)) (i58 : Int) (i59 : Int) (sx0 : Bytes) (ix0 : Int) (ix0_1 : Int) (sx0_1 : Bytes) (K : Ex → St → Option R) : evRound eRefPair 71 13 { fr := [(2, .ptr 10000 0 0 0), (57, .slc [.str, .int .u8, .int .i64, .str] r57), (58, .int .i64 i58), (59, .int .i64 i59)], tab := [(10000, .var [.str sx0, .int .u8 ix0, .int .i64 ix0_1, .str sx0_1])] } K =
 cond (ilt i59 i58) (cond (decide ((0 : Int) ≤ i59 ∧ i59 < (↑(List.length r57) : Int))) (cond (V.toStr (List.getD (List.getD r57 (Int.toNat i59) []) (0 : Nat) V.undef) == sx0) (K Ex.ret { fr := [((4 : Nat), V.int IntKind.i64 (9 : Int))], tab := [] : St }) (K Ex.normal { fr := [((2 : Nat), V.ptr (10000 : Nat) (0 : Nat) (0 : Nat) (0 : Nat)), ((57 : Nat), V.slc [Sh.str, Sh.int IntKind.u8, Sh.int IntKind.i64, Sh.str] r57), ((58 : Nat), V.int IntKind.i64 i58), ((59 : Nat), V.int IntKind.i64 (IntKind.wrap IntKind.i64 (i59 + (1 : Int))))], tab := [((10000 : Nat), Box.var [V.str sx0, V.int IntKind.u8 ix0, V.int IntKind.i64 ix0_1, V.str sx0_1])] : St })) (none)) (K (Ex.exit (0 : Nat)) { fr := [], tab := [] : St }) := by kernel_rfl
theorem ok_refPair : FnOk Tryd.prog 71 dPairE := by
  refine den_okF (env_ok ((TOk.nil _).cons ok_refName)) (E := eRefPair) Tryd.func71 [13] (by kernel_rfl) (one1 (rounds_of rfl fun l K q h => ?_)) fun a _ h => ?_
  · unfold gRefPair at h
    split at h
    · rename_i r n i key x1 x2 x3
      have h1 := (cond_none h).1; replace h := (cond_none h).2; have h2 := (cond_none h).1; replace h := (cond_none h).2; have h3 := (cond_none h).1; replace h := (cond_none h).2
      have e1 := ieq_of h1
      subst e1
      have h3 : r.length ≤ 1000000 := ble_of h3
      refine loop_ind (E := eRefPair) (f := 71) (id := 13) (fun i : Int => { fr := [(2, .ptr 10000 0 0 0), (57, .slc [.str, .int .u8, .int .i64, .str] r), (58, .int .i64 r.length), (59, .int .i64 i)], tab := [(10000, .var [.str key, .int .u8 x1, .int .i64 x2, .str x3])] }) (fun i => 0 ≤ i) (fun i => r.length - i.toNat)
        (fun i K => cond (ile 0 (N.findIx key ((rowsP r).drop i.toNat) i)) (K .ret { fr := [(4, .int .i64 9)], tab := [] }) (K (.exit 0) { fr := [], tab := [] })) (fun i hi => ?_) i (ile_of h2) K q (by assumption)
      by_cases hl : i < r.length
      · rw [drop_pair (show i.toNat < r.length by omega)]
        have e : N.findIx key (rowP (r.getD i.toNat []) :: (rowsP r).drop (i.toNat + 1)) i = cond ((rowP (r.getD i.toNat [])).key == key) i (N.findIx key ((rowsP r).drop (i.toNat + 1)) (i + 1)) := rfl
        rw [e]
        cases hc : (rowP (r.getD i.toNat [])).key == key with
        | true =>
          rw [cond_true, ile_t hi]
          refine .inr ⟨.ret, { fr := [(4, .int .i64 9)], tab := [] }, by simp, fun K => ?_, fun K => rfl⟩
          rw [q_refPairR]
          unfold rowP at hc
          simp (disch := omega) only [evs, hc]
        | false =>
          refine .inl ⟨i + 1, by omega, by omega, fun K => ?_, fun K => ?_⟩
          · rw [q_refPairR]
            unfold rowP at hc
            simp (disch := omega) only [evs, hc]
          · rw [cond_false, show (i + 1).toNat = i.toNat + 1 by omega]
      · refine .inr ⟨.exit 0, { fr := [], tab := [] }, by simp, fun K => ?_, fun K => ?_⟩
        · rw [q_refPairR]
          simp (disch := omega) only [evs]
        · rw [List.drop_eq_nil_of_le (by rw [rowsP_length]; omega)]; rfl
    · cases h
  · obtain ⟨p, l⟩ := a
    have h : l.length ≤ 1000000 := ble_of h
    refine (q_refPair p l).trans ?_
    show _ = some (⟨.int .i64 (N.pairE p l), [], []⟩ : DRes)
    unfold N.pairE N.find
    have en : (cond (p.num != 0) (p.num != 1) false) = cond (ilt p.num 0) true (ilt 1 p.num) := by
      rcases (by omega : p.num < 0 ∨ p.num = 0 ∨ p.num = 1 ∨ 1 < p.num) with h | h | h | h
      · simp (disch := omega) only [evs]
      · rw [h]; rfl
      · rw [h]; rfl
      · simp (disch := omega) only [evs]
    have en' : cond (cond (p.kind == 2) (p.num != 0) false) (p.num != 1) false = cond (p.kind == 2) (cond (ilt p.num 0) true (ilt 1 p.num)) false := by
      rw [← en]; cases p.kind == 2 <;> rfl
    rw [en']
    have ef : (cond (ilt (N.findIx p.key l 0) 0) (pair0, false) (l.getD (N.findIx p.key l 0).toNat pair0, true)).2 = ile 0 (N.findIx p.key l 0) := by
      by_cases h : N.findIx p.key l 0 < 0
      · simp (disch := omega) only [evs]
      · simp (disch := omega) only [evs]
    rw [ef]
    simp (disch := omega) only [evs, pairs_enc, List.drop_zero, bne]
    cases hn : N.name p.key == 0 with
    | false => rfl
    | true =>
      cases ilt 2 p.kind with
      | true => rfl
      | false =>
        cases p.kind == 1 <;> cases ilt 64 p.text.length <;> cases p.kind == 2 <;> cases ilt p.num 0 <;> cases ilt 1 p.num <;> cases p.num == 0 <;> cases p.text == [] <;> cases ile 0 (N.findIx p.key l 0) <;> rfl
end Go.Ev

/- What was written is read again: lemmas on the plain functions. -/
namespace Go.Ev
open Go

theorem numB_succ : ∀ (k : Nat) (n : Int), N.numB n (k + 1) = N.numB (n / 256) k ++ [UInt8.ofNat (n % 256).toNat]
  | 0, n => by
    show [UInt8.ofNat ((n / 2 ^ (8 * 0)) % 256).toNat] = [] ++ [UInt8.ofNat (n % 256).toNat]
    rw [show (2 : Int) ^ (8 * 0) = 1 from rfl, Int.ediv_one]; rfl
  | k + 1, n => by
    show UInt8.ofNat ((n / 2 ^ (8 * (k + 1))) % 256).toNat :: N.numB n (k + 1) = (UInt8.ofNat ((n / 256 / 2 ^ (8 * k)) % 256).toNat :: N.numB (n / 256) k) ++ [UInt8.ofNat (n % 256).toNat]
    rw [numB_succ k n, Int.ediv_ediv_of_nonneg (by decide), show (256 : Int) * 2 ^ (8 * k) = 2 ^ (8 * (k + 1)) by rw [show 8 * (k + 1) = 8 + 8 * k by omega, Int.pow_add]; rfl]
    rfl
theorem be_app : ∀ (l m : Bytes) (n : Int), N.be (l ++ m) n = N.be m (N.be l n)
  | [], _, _ => rfl
  | _ :: l, m, _ => be_app l m _
theorem ofNat_byte (n : Int) : ((UInt8.ofNat (n % 256).toNat).toNat : Int) = n % 256 := by
  have : (n % 256).toNat < 256 := by omega
  rw [UInt8.toNat_ofNat', Nat.mod_eq_of_lt this]; omega
theorem be_numB : ∀ (k : Nat) (n : Int), 0 ≤ n → n < 256 ^ k → N.be (N.numB n k) 0 = n
  | 0, n, h0, h => by
    have : n = 0 := by rw [Int.pow_zero] at h; omega
    rw [this]; rfl
  | k + 1, n, h0, h => by
    rw [Int.pow_succ] at h
    rw [numB_succ, be_app, be_numB k (n / 256) (by omega) (by omega)]
    show n / 256 * 256 + ((UInt8.ofNat (n % 256).toNat).toNat : Int) = n
    rw [ofNat_byte]; omega
theorem raw_app (x r : Bytes) : N.inRaw ⟨x ++ r, 0⟩ x.length = (x, ⟨r, 0⟩) := by
  unfold N.inRaw
  cases x with
  | nil => rfl
  | cons c x =>
    have h1 : ile ((c :: x).length : Int) 0 = false := ile_f (by simp only [List.length_cons]; omega)
    have h2 : ilt (((c :: x ++ r).length : Nat) : Int) ((c :: x).length : Int) = false := ilt_f (by rw [List.length_append]; omega)
    simp only [h1, h2, cond_false, show ((0 : Int) != 0) = false from rfl, Int.toNat_natCast, List.take_left, List.drop_left]
theorem num_app (k : Nat) (hk : k ≤ 8) (n : Int) (h0 : 0 ≤ n) (h : n < 256 ^ k) (r : Bytes) : N.inNum ⟨N.numB n k ++ r, 0⟩ k = (n, ⟨r, 0⟩) := by
  unfold N.inNum
  have e : (cond (ilt 8 (k : Int)) (8 : Int) k) = ((N.numB n k).length : Int) := by rw [ilt_f (by omega), numB_len]; rfl
  rw [e, raw_app]
  show (N.be (N.numB n k) 0, _) = _
  rw [be_numB k n h0 h]
theorem text_app (s : Bytes) (m : Int) (hs : s.length ≤ m) (hm : m ≤ 65535) (r : Bytes) : N.inText ⟨N.textB s ++ r, 0⟩ m = (s, ⟨r, 0⟩) := by
  unfold N.inText N.textB
  rw [List.append_assoc]
  have e := num_app 2 (by decide) s.length (by omega) (by show (s.length : Int) < 65536; omega) (s ++ r)
  have e' : N.inNum ⟨N.numB s.length 2 ++ (s ++ r), 0⟩ 2 = ((s.length : Int), ⟨s ++ r, 0⟩) := e
  rw [e']
  show N.inRaw (cond (ilt m (IntKind.wrap .i64 s.length)) _ _) (IntKind.wrap .i64 s.length) = _
  rw [wrap_i64 (n := (s.length : Int)) (by omega) (by omega), ilt_f hs]
  exact raw_app s r
/-- What a value of the pairs' type is. -/
def PairOk (p : HPair) : Prop := 0 ≤ p.kind ∧ p.kind < 256 ∧ -9223372036854775808 ≤ p.num ∧ p.num ≤ 9223372036854775807
theorem wrap_back {n : Int} (h1 : -9223372036854775808 ≤ n) (h2 : n ≤ 9223372036854775807) : IntKind.wrap .i64 (IntKind.wrap .u64 n) = n := by
  simp only [IntKind.wrap, IntKind.signed, IntKind.bits]
  simp
  omega
theorem pairE_zero {p : HPair} {l : List HPair} (h : N.pairE p l = 0) : p.key.length ≤ 16 ∧ p.kind ≤ 2 ∧ (p.kind = 1 → p.text.length ≤ 64 ∧ p.num = 0) ∧ (p.kind = 2 → (p.num = 0 ∨ p.num = 1)) ∧ (p.kind ≠ 1 → p.text = []) := by
  unfold N.pairE at h
  cases h1 : N.name p.key == 0 with
  | false =>
    rw [bne, h1] at h
    simp only [Bool.not_false, cond_true] at h
    rw [h] at h1; cases h1
  | true =>
    rw [bne, h1] at h
    simp only [Bool.not_true, cond_false] at h
    have hk : p.key.length ≤ 16 := by
      unfold N.name at h1
      cases e1 : p.key == [] with
      | true => rw [e1] at h1; cases h1
      | false =>
        rw [e1] at h1
        cases e2 : ilt 16 p.key.length with
        | true => rw [e2] at h1; cases h1
        | false => have := ilt_nof e2; omega
    cases h2 : ilt 2 p.kind with
    | true => rw [h2] at h; cases h
    | false =>
      rw [h2] at h
      have h2 := ilt_nof h2
      simp only [cond_false] at h
      by_cases k1 : p.kind = 1
      · simp only [k1, beq_self_eq_true, cond_true, bne, show ((1 : Int) == 2) = false from rfl, cond_false, Bool.not_true] at h
        cases h3 : ilt 64 p.text.length with
        | true => rw [h3] at h; cases h
        | false =>
          rw [h3] at h
          have h3 := ilt_nof h3
          cases h4 : p.num == 0 with
          | false => rw [h4] at h; cases h
          | true => exact ⟨hk, by omega, fun _ => ⟨by omega, by simpa using h4⟩, fun e => by omega, fun e => absurd k1 e⟩
      · have e1 : (p.kind == 1) = false := by simpa using k1
        simp only [e1, cond_false, bne, Bool.not_false, cond_true] at h
        have ht : p.text = [] := by
          cases h4 : p.text == [] with
          | true => simpa using h4
          | false =>
            rw [h4] at h
            revert h
            cases (cond (cond (p.kind == 2) (!p.num == 0) false) (!p.num == 1) false) <;> intro h <;> cases h
        refine ⟨hk, by omega, fun e => absurd e k1, fun e => ?_, fun _ => ht⟩
        simp only [e, beq_self_eq_true, cond_true] at h
        by_cases z : p.num = 0
        · exact .inl z
        · by_cases o : p.num = 1
          · exact .inr o
          · rw [show (p.num == 0) = false by simpa using z, show (p.num == 1) = false by simpa using o] at h
            cases h
theorem one_app {p : HPair} {l : List HPair} (ho : PairOk p) (h : N.pairE p l = 0) (r : Bytes) : N.one ⟨N.pairB p ++ r, 0⟩ = (p, ⟨r, 0⟩) := by
  obtain ⟨hk, h2, ht, hn, hx⟩ := pairE_zero h
  obtain ⟨o1, o2, o3, o4⟩ := ho
  have hw : IntKind.wrap .u64 p.kind = p.kind := wrap_u64 o1 (by omega)
  unfold N.one N.pairB
  rw [hw, List.append_assoc, List.append_assoc, text_app p.key 16 (by omega) (by decide)]
  show N.oneOf p.key (IntKind.wrap .u8 (N.inNum ⟨N.numB p.kind 1 ++ _, 0⟩ 1).1) (N.inNum ⟨N.numB p.kind 1 ++ _, 0⟩ 1).2 = _
  have e : ∀ x : Bytes, N.inNum ⟨N.numB p.kind 1 ++ x, 0⟩ 1 = (p.kind, ⟨x, 0⟩) := fun x => num_app 1 (by decide) p.kind o1 (by show p.kind < 256; omega) x
  rw [e]
  have hw8 : IntKind.wrap .u8 p.kind = p.kind := by simp only [IntKind.wrap, IntKind.signed, IntKind.bits]; simp; omega
  show N.oneOf p.key (IntKind.wrap .u8 p.kind) ⟨_, 0⟩ = _
  rw [hw8]
  unfold N.oneOf
  rcases (by omega : p.kind = 0 ∨ p.kind = 1 ∨ p.kind = 2) with k | k | k
  · have u := wu64 p.num
    have e8 : N.inNum ⟨N.numB (IntKind.wrap .u64 p.num) 8 ++ r, 0⟩ 8 = (IntKind.wrap .u64 p.num, ⟨r, 0⟩) := num_app 8 (by decide) _ u.1 (by show _ < (18446744073709551616 : Int); exact u.2) r
    have hx := hx (by omega)
    simp only [k, beq_self_eq_true, cond_true, e8, wrap_back o3 o4]
    cases p; simp_all
  · obtain ⟨t1, t2⟩ := ht k
    simp only [k, show ((1 : Int) == 0) = false from rfl, beq_self_eq_true, cond_true, cond_false, text_app p.text 64 (by omega) (by decide)]
    cases p; simp_all
  · have hx := hx (by omega)
    have hn := hn k
    have hwn : IntKind.wrap .u64 p.num = p.num := wrap_u64 (by omega) (by omega)
    have e1 : N.inNum ⟨N.numB p.num 1 ++ r, 0⟩ 1 = (p.num, ⟨r, 0⟩) := num_app 1 (by decide) _ (by omega) (by show p.num < 256; omega) r
    simp only [k, show ((2 : Int) == 0) = false from rfl, show ((2 : Int) == 1) = false from rfl, beq_self_eq_true, cond_true, cond_false, hwn, e1, wrap_i64 o3 o4]
    cases p; simp_all
theorem checkFrom_all (h : List HPair) : ∀ (f : Nat) (i : Int), 0 ≤ i → N.checkFrom h f i = 0 → ∀ j : Nat, i ≤ j → (j : Int) < i + f → N.pairE (h.getD j pair0) (h.take j) = 0
  | 0, i, _, _, j, h1, h2 => by omega
  | f + 1, i, h0, hc, j, h1, h2 => by
    unfold N.checkFrom at hc
    cases e : N.pairE (h.getD i.toNat pair0) (h.take i.toNat) != 0 with
    | true => rw [e, cond_true] at hc; rw [hc] at e; cases e
    | false =>
      rw [e] at hc
      by_cases hj : (j : Int) = i
      · have : j = i.toNat := by omega
        rw [this]; simpa using e
      · exact checkFrom_all h f (i + 1) (by omega) hc j (by omega) (by omega)
theorem from_app (h : List HPair) (ho : ∀ p ∈ h, PairOk p) (hc : ∀ j, j < h.length → N.pairE (h.getD j pair0) (h.take j) = 0) : ∀ (f i : Nat), i + f = h.length → N.readFrom f ⟨N.pairsB (h.drop i), 0⟩ (h.take i) = (h, ⟨[], 0⟩)
  | 0, i, hi => by
    rw [List.drop_eq_nil_of_le (by omega), List.take_of_length_le (by omega)]; rfl
  | f + 1, i, hi => by
    have hlt : i < h.length := by omega
    have hm : h.getD i pair0 ∈ h := by rw [List.getD_eq_getElem?_getD, List.getElem?_eq_getElem hlt]; exact List.getElem_mem _
    rw [getD_drop pair0 hlt]
    have e : N.pairsB (h.getD i pair0 :: h.drop (i + 1)) = N.pairB (h.getD i pair0) ++ N.pairsB (h.drop (i + 1)) := rfl
    rw [e]
    unfold N.readFrom
    rw [one_app (ho _ hm) (hc i hlt)]
    have b : N.bad (h.getD i pair0) (h.take i) ⟨N.pairsB (h.drop (i + 1)), 0⟩ = ⟨N.pairsB (h.drop (i + 1)), 0⟩ := by
      unfold N.bad N.inFail
      rw [hc i hlt]; rfl
    show cond ((N.bad (h.getD i pair0) (h.take i) ⟨N.pairsB (h.drop (i + 1)), 0⟩).err != 0) _ (N.readFrom f (N.bad (h.getD i pair0) (h.take i) ⟨N.pairsB (h.drop (i + 1)), 0⟩) (h.take i ++ [h.getD i pair0])) = _
    rw [b]
    have ht : h.take i ++ [h.getD i pair0] = h.take (i + 1) := by
      rw [List.take_add_one, List.getD_eq_getElem?_getD, List.getElem?_eq_getElem hlt]; rfl
    rw [ht]
    exact from_app h ho hc f (i + 1) (by omega)
theorem read_back (h : List HPair) (ho : ∀ p ∈ h, PairOk p) (hz : N.headCheck h = 0) : N.headRead ⟨N.headBytes h, 0⟩ = (h, ⟨[], 0⟩) := by
  unfold N.headCheck at hz
  cases e : ilt 8 h.length with
  | true => rw [e] at hz; cases hz
  | false =>
    have e' := ilt_nof e
    rw [e, cond_false] at hz
    have hc : ∀ j, j < h.length → N.pairE (h.getD j pair0) (h.take j) = 0 := fun j hj => checkFrom_all h h.length 0 (Int.le_refl _) hz j (by omega) (by omega)
    unfold N.headRead N.headBytes
    have en : N.inNum ⟨N.numB h.length 1 ++ N.pairsB h, 0⟩ 1 = ((h.length : Int), ⟨N.pairsB h, 0⟩) := num_app 1 (by decide) _ (by omega) (by show (h.length : Int) < 256; omega) _
    rw [en]
    show N.readFrom (IntKind.wrap .i64 h.length).toNat (cond (ilt 8 (IntKind.wrap .i64 h.length)) _ _) [] = _
    rw [wrap_i64 (n := (h.length : Int)) (by omega) (by omega), e, cond_false, Int.toNat_natCast]
    have := from_app h ho hc h.length 0 (by omega)
    exact this
end Go.Ev

/- The document's functions that write heads answer what the plain ones do: lemmas; its function that writes numbers is a premise. -/
namespace Go.Ev
open Go Go.Proofs
set_option maxRecDepth 100000

def N.fuelOk (k : Nat) (b : Int) : Bool := cond (ilt 8 b) (Nat.ble 8 k) (ile b k)
def dRefNum (k : Nat) : Den := den (aCons (vInt .u64) (aOne (vInt .i64))) bNil (oV vStr) (fun a _ => cond (ile 0 a.1) (cond (ilt a.1 18446744073709551616) (N.fuelOk k a.2) false) false) fun a _ => (N.numB a.1 (N.clamp a.2), ())
def dRefText : Den := den (aOne vStr) bNil (oV vStr) (fun s _ => Nat.ble s.length 65535) fun s _ => (N.textB s, ())
namespace N
def refPairB (p : HPair) : Bytes := cond (p.kind == 0) (textB p.key ++ numB (IntKind.wrap .u64 p.kind) 1 ++ numB (IntKind.wrap .u64 p.num) 8) (cond (p.kind == 1) (textB p.key ++ numB (IntKind.wrap .u64 p.kind) 1 ++ textB p.text) (textB p.key ++ numB (IntKind.wrap .u64 p.kind) 1 ++ numB (IntKind.wrap .u64 p.num) 1))
def refPairsB : List HPair → Bytes
  | [] => [] | p :: r => refPairB p ++ refPairsB r
def refHeadBytes (h : List HPair) : Bytes := numB (IntKind.wrap .u64 h.length) 1 ++ refPairsB h
end N
def dRefBytes : Den := den (aOne (vSl cPair)) bNil (oV vStr) (fun h _ => cond (Nat.ble h.length 8) (h.all N.fitP) false) fun h _ => (N.refHeadBytes h, ())
noncomputable def eRefText : Env := env Tryd.prog [(77, dRefNum 8)] [] []
theorem q_refText (s : Bytes) : evFn eRefText 78 ((aOne vStr).enc s) ([]) some =
 cond (bif ilt (IntKind.wrap IntKind.u64 (↑(List.length s) : Int)) (18446744073709551616 : Int) then N.fuelOk (8 : Nat) (2 : Int) else false) (cond (Nat.ble ((2 : Nat) + List.length s) (9223372036854775807 : Nat)) (some { v := V.str (N.numB (IntKind.wrap IntKind.u64 (↑(List.length s) : Int)) (N.clamp (2 : Int)) ++ s), bx := [] : DRes }) (none)) (none) := by kernel_rfl
theorem ok_refText (hR : FnOk Tryd.prog 77 (dRefNum 8)) : FnOk Tryd.prog 78 dRefText := by
  refine den_okF (env_ok ((TOk.nil _).cons hR)) (E := eRefText) Tryd.func78 [] (by kernel_rfl) none0 fun s _ h => ?_
  have h : s.length ≤ 65535 := ble_of h
  refine (q_refText s).trans ?_
  show _ = some (⟨.str (N.textB s), [], []⟩ : DRes)
  have w : IntKind.wrap .u64 (s.length : Int) = s.length := wrap_u64 (by omega) (by omega)
  rw [w]
  simp (disch := omega) only [evs, show N.fuelOk 8 2 = true from rfl]
  rfl
def schRefBytes : SSch := { fr := [(3, .str), (10, .slc [.str, .int .u8, .int .i64, .str]), (11, .int .i64), (12, .int .i64)], tab := [] }
def gRefBytes : List Leaf → (Ex → St → Option R) → Option R
  | [.s s, .r r, .i n, .i i], K => cond (n == r.length) (cond (ile 0 i) (cond (Nat.ble r.length 8) (cond ((rowsP r).all N.fitP) (cond (ile s.length (1 + 150 * i))
      (K (.exit 0) { fr := [(3, .str (s ++ N.refPairsB ((rowsP r).drop i.toNat)))], tab := [] }) none) none) none) none) none
  | _, _ => none
noncomputable def eRefBytes : Env := env Tryd.prog [(77, dRefNum 8), (78, dRefText)] [(3, loopF schRefBytes gRefBytes)] [(3, [(0, [3, 10, 11, 12]), (1, [3]), (1000, [2])])]
theorem q_refBytes (h : List HPair) : evFn eRefBytes 43 (((aOne (vSl cPair)).enc h)) ([]) some =
 cond (bif ilt (IntKind.wrap IntKind.u64 (↑(List.length (List.map (fun p => [V.str (HPair.key p), V.int IntKind.u8 (HPair.kind p), V.int IntKind.i64 (HPair.num p), V.str (HPair.text p)]) h)) : Int)) (18446744073709551616 : Int) then N.fuelOk (8 : Nat) (1 : Int) else false) (cond ((↑(List.length (List.map (fun p => [V.str (HPair.key p), V.int IntKind.u8 (HPair.kind p), V.int IntKind.i64 (HPair.num p), V.str (HPair.text p)]) h)) : Int) == (↑(List.length (List.map (fun p => [V.str (HPair.key p), V.int IntKind.u8 (HPair.kind p), V.int IntKind.i64 (HPair.num p), V.str (HPair.text p)]) h)) : Int)) (cond (Nat.ble (List.length (List.map (fun p => [V.str (HPair.key p), V.int IntKind.u8 (HPair.kind p), V.int IntKind.i64 (HPair.num p), V.str (HPair.text p)]) h)) (8 : Nat)) (cond (List.all (List.map (fun r => { key := V.toStr (List.getD r (0 : Nat) V.undef), kind := V.toInt (List.getD r (1 : Nat) V.undef), num := V.toInt (List.getD r (2 : Nat) V.undef), text := V.toStr (List.getD r (3 : Nat) V.undef) : HPair }) (List.map (fun p => [V.str (HPair.key p), V.int IntKind.u8 (HPair.kind p), V.int IntKind.i64 (HPair.num p), V.str (HPair.text p)]) h)) N.fitP) (some { v := V.str (N.numB (IntKind.wrap IntKind.u64 (↑(List.length (List.map (fun p => [V.str (HPair.key p), V.int IntKind.u8 (HPair.kind p), V.int IntKind.i64 (HPair.num p), V.str (HPair.text p)]) h)) : Int)) (N.clamp (1 : Int)) ++ N.refPairsB (List.drop (0 : Nat) (List.map (fun r => { key := V.toStr (List.getD r (0 : Nat) V.undef), kind := V.toInt (List.getD r (1 : Nat) V.undef), num := V.toInt (List.getD r (2 : Nat) V.undef), text := V.toStr (List.getD r (3 : Nat) V.undef) : HPair }) (List.map (fun p => [V.str (HPair.key p), V.int IntKind.u8 (HPair.kind p), V.int IntKind.i64 (HPair.num p), V.str (HPair.text p)]) h)))), bx := [] : DRes }) (none)) (none)) (none)) (none) := by kernel_rfl
theorem q_refBytesR (s3 : Bytes) (r10 : List (List V)) (i11 : Int) (i12 : Int) (K : Ex → St → Option R) : evRound eRefBytes 43 3 { fr := [(3, .str s3), (10, .slc [.str, .int .u8, .int .i64, .str] r10), (11, .int .i64 i11), (12, .int .i64 i12)], tab := [] } K =
 cond (ilt i12 i11) (cond (decide ((0 : Int) ≤ i12 ∧ i12 < (↑(List.length r10) : Int))) (cond (Nat.ble (List.length (V.toStr (List.getD (List.getD r10 (Int.toNat i12) []) (0 : Nat) V.undef))) (65535 : Nat)) (cond (Nat.ble (List.length s3 + List.length (N.textB (V.toStr (List.getD (List.getD r10 (Int.toNat i12) []) (0 : Nat) V.undef)))) (9223372036854775807 : Nat)) (cond (bif ile (0 : Int) (IntKind.wrap IntKind.u64 (V.toInt (List.getD (List.getD r10 (Int.toNat i12) []) (1 : Nat) V.undef))) then bif ilt (IntKind.wrap IntKind.u64 (V.toInt (List.getD (List.getD r10 (Int.toNat i12) []) (1 : Nat) V.undef))) (18446744073709551616 : Int) then N.fuelOk (8 : Nat) (1 : Int) else false else false) (cond (Nat.ble (List.length (s3 ++ N.textB (V.toStr (List.getD (List.getD r10 (Int.toNat i12) []) (0 : Nat) V.undef))) + (1 : Nat)) (9223372036854775807 : Nat)) (cond (V.toInt (List.getD (List.getD r10 (Int.toNat i12) []) (1 : Nat) V.undef) == (0 : Int)) (cond (bif ile (0 : Int) (IntKind.wrap IntKind.u64 (V.toInt (List.getD (List.getD r10 (Int.toNat i12) []) (2 : Nat) V.undef))) then bif ilt (IntKind.wrap IntKind.u64 (V.toInt (List.getD (List.getD r10 (Int.toNat i12) []) (2 : Nat) V.undef))) (18446744073709551616 : Int) then N.fuelOk (8 : Nat) (8 : Int) else false else false) (cond (Nat.ble (List.length (s3 ++ N.textB (V.toStr (List.getD (List.getD r10 (Int.toNat i12) []) (0 : Nat) V.undef)) ++ N.numB (IntKind.wrap IntKind.u64 (V.toInt (List.getD (List.getD r10 (Int.toNat i12) []) (1 : Nat) V.undef))) (N.clamp (1 : Int))) + (8 : Nat)) (9223372036854775807 : Nat)) (K Ex.normal { fr := [((3 : Nat), V.str (s3 ++ N.textB (V.toStr (List.getD (List.getD r10 (Int.toNat i12) []) (0 : Nat) V.undef)) ++ N.numB (IntKind.wrap IntKind.u64 (V.toInt (List.getD (List.getD r10 (Int.toNat i12) []) (1 : Nat) V.undef))) (N.clamp (1 : Int)) ++ N.numB (IntKind.wrap IntKind.u64 (V.toInt (List.getD (List.getD r10 (Int.toNat i12) []) (2 : Nat) V.undef))) (N.clamp (8 : Int)))), ((10 : Nat), V.slc [Sh.str, Sh.int IntKind.u8, Sh.int IntKind.i64, Sh.str] r10), ((11 : Nat), V.int IntKind.i64 i11), ((12 : Nat), V.int IntKind.i64 (IntKind.wrap IntKind.i64 (i12 + (1 : Int))))], tab := [] : St }) (none)) (none)) (cond (V.toInt (List.getD (List.getD r10 (Int.toNat i12) []) (1 : Nat) V.undef) == (1 : Int)) (cond (Nat.ble (List.length (V.toStr (List.getD (List.getD r10 (Int.toNat i12) []) (3 : Nat) V.undef))) (65535 : Nat)) (cond (Nat.ble (List.length (s3 ++ N.textB (V.toStr (List.getD (List.getD r10 (Int.toNat i12) []) (0 : Nat) V.undef)) ++ N.numB (IntKind.wrap IntKind.u64 (V.toInt (List.getD (List.getD r10 (Int.toNat i12) []) (1 : Nat) V.undef))) (N.clamp (1 : Int))) + List.length (N.textB (V.toStr (List.getD (List.getD r10 (Int.toNat i12) []) (3 : Nat) V.undef)))) (9223372036854775807 : Nat)) (K Ex.normal { fr := [((3 : Nat), V.str (s3 ++ N.textB (V.toStr (List.getD (List.getD r10 (Int.toNat i12) []) (0 : Nat) V.undef)) ++ N.numB (IntKind.wrap IntKind.u64 (V.toInt (List.getD (List.getD r10 (Int.toNat i12) []) (1 : Nat) V.undef))) (N.clamp (1 : Int)) ++ N.textB (V.toStr (List.getD (List.getD r10 (Int.toNat i12) []) (3 : Nat) V.undef)))), ((10 : Nat), V.slc [Sh.str, Sh.int IntKind.u8, Sh.int IntKind.i64, Sh.str] r10), ((11 : Nat), V.int IntKind.i64 i11), ((12 : Nat), V.int IntKind.i64 (IntKind.wrap IntKind.i64 (i12 + (1 : Int))))], tab := [] : St }) (none)) (none)) (cond (bif ile (0 : Int) (IntKind.wrap IntKind.u64 (V.toInt (List.getD (List.getD r10 (Int.toNat i12) []) (2 : Nat) V.undef))) then bif ilt (IntKind.wrap IntKind.u64 (V.toInt (List.getD (List.getD r10 (Int.toNat i12) []) (2 : Nat) V.undef))) (18446744073709551616 : Int) then N.fuelOk (8 : Nat) (1 : Int) else false else false) (cond (Nat.ble (List.length (s3 ++ N.textB (V.toStr (List.getD (List.getD r10 (Int.toNat i12) []) (0 : Nat) V.undef)) ++ N.numB (IntKind.wrap IntKind.u64 (V.toInt (List.getD (List.getD r10 (Int.toNat i12) []) (1 : Nat) V.undef))) (N.clamp (1 : Int))) + (1 : Nat)) (9223372036854775807 : Nat)) (K Ex.normal { fr := [((3 : Nat), V.str (s3 ++ N.textB (V.toStr (List.getD (List.getD r10 (Int.toNat i12) []) (0 : Nat) V.undef)) ++ N.numB (IntKind.wrap IntKind.u64 (V.toInt (List.getD (List.getD r10 (Int.toNat i12) []) (1 : Nat) V.undef))) (N.clamp (1 : Int)) ++ N.numB (IntKind.wrap IntKind.u64 (V.toInt (List.getD (List.getD r10 (Int.toNat i12) []) (2 : Nat) V.undef))) (N.clamp (1 : Int)))), ((10 : Nat), V.slc [Sh.str, Sh.int IntKind.u8, Sh.int IntKind.i64, Sh.str] r10), ((11 : Nat), V.int IntKind.i64 i11), ((12 : Nat), V.int IntKind.i64 (IntKind.wrap IntKind.i64 (i12 + (1 : Int))))], tab := [] : St }) (none)) (none)))) (none)) (none)) (none)) (none)) (none)) (K (Ex.exit (0 : Nat)) { fr := [((3 : Nat), V.str s3)], tab := [] : St }) := by kernel_rfl
theorem ok_refBytes (hR : FnOk Tryd.prog 77 (dRefNum 8)) : FnOk Tryd.prog 43 dRefBytes := by
  refine den_okF (env_ok (((TOk.nil _).cons (ok_refText hR)).cons hR)) (E := eRefBytes) Tryd.func43 [3] (by kernel_rfl) (one1 (rounds_of rfl fun l K q h => ?_)) fun h _ hp => ?_
  · unfold gRefBytes at h
    split at h
    · rename_i s r n i
      have h1 := (cond_none h).1; replace h := (cond_none h).2; have h3 := (cond_none h).1; replace h := (cond_none h).2; have h4 := (cond_none h).1; replace h := (cond_none h).2; have h5 := (cond_none h).1; replace h := (cond_none h).2; have h6 := (cond_none h).1; replace h := (cond_none h).2
      have e1 := ieq_of h1
      subst e1
      have h4 : r.length ≤ 8 := ble_of h4
      refine loop_ind (E := eRefBytes) (f := 43) (id := 3) (σ := Int × Bytes) (fun x => { fr := [(3, .str x.2), (10, .slc [.str, .int .u8, .int .i64, .str] r), (11, .int .i64 r.length), (12, .int .i64 x.1)], tab := [] })
        (fun x => 0 ≤ x.1 ∧ (x.2.length : Int) ≤ 1 + 150 * x.1) (fun x => r.length - x.1.toNat)
        (fun x K => K (.exit 0) { fr := [(3, .str (x.2 ++ N.refPairsB ((rowsP r).drop x.1.toNat)))], tab := [] }) ?_ (i, s) ⟨ile_of h3, ile_of h6⟩ K q (by assumption)
      rintro ⟨i, s⟩ ⟨hi, hs⟩
      simp only at hi hs ⊢
      by_cases hl : i < r.length
      · have hlt : i.toNat < r.length := by omega
        have hfit : N.fitP (rowP (r.getD i.toNat [])) = true := List.all_eq_true.1 h5 _ (by
          rw [List.getD_eq_getElem?_getD, List.getElem?_eq_getElem hlt]; exact List.mem_map_of_mem (List.getElem_mem _))
        obtain ⟨f1, f2⟩ := bcond hfit
        have f1 : (V.toStr (List.getD (List.getD r i.toNat []) 0 V.undef)).length ≤ 64 := ble_of f1
        have f2 : (V.toStr (List.getD (List.getD r i.toNat []) 3 V.undef)).length ≤ 64 := ble_of f2
        have u1 := wu64 (V.toInt (List.getD (List.getD r i.toNat []) 1 V.undef))
        have u2 := wu64 (V.toInt (List.getD (List.getD r i.toNat []) 2 V.undef))
        rw [drop_pair hlt]
        have e : N.refPairsB (rowP (r.getD i.toNat []) :: (rowsP r).drop (i.toNat + 1)) = N.refPairB (rowP (r.getD i.toNat [])) ++ N.refPairsB ((rowsP r).drop (i.toNat + 1)) := rfl
        rw [e, ← List.append_assoc]
        have hlen : (N.refPairB (rowP (r.getD i.toNat []))).length ≤ 150 := by
          unfold N.refPairB rowP
          cases V.toInt (List.getD (List.getD r i.toNat []) 1 V.undef) == 0 <;> cases V.toInt (List.getD (List.getD r i.toNat []) 1 V.undef) == 1 <;> simp only [cond_true, cond_false, numB_len, textB_len, List.length_append] <;> omega
        refine .inl ⟨(i + 1, s ++ N.refPairB (rowP (r.getD i.toNat []))), ⟨by simp only; omega, by simp only [List.length_append]; omega⟩, by simp only; omega, fun K => ?_, fun K => ?_⟩
        · rw [q_refBytesR]
          unfold N.refPairB rowP
          simp (disch := omega) only [evs, textB_len, numB_len, show N.fuelOk 8 1 = true from rfl, show N.fuelOk 8 8 = true from rfl, show N.clamp 1 = 1 from rfl, show N.clamp 8 = 8 from rfl]
          cases V.toInt (List.getD (List.getD r i.toNat []) 1 V.undef) == 0 <;> cases V.toInt (List.getD (List.getD r i.toNat []) 1 V.undef) == 1 <;> simp only [cond_true, cond_false, List.append_assoc]
        · rw [show (i + 1).toNat = i.toNat + 1 by omega]
      · refine .inr ⟨.exit 0, { fr := [(3, .str s)], tab := [] }, by simp, fun K => ?_, fun K => ?_⟩
        · rw [q_refBytesR]
          simp (disch := omega) only [evs]
        · rw [List.drop_eq_nil_of_le (by rw [rowsP_length]; omega)]
          show K _ { fr := [(3, .str (s ++ []))], tab := [] } = _
          rw [List.append_nil]
    · cases h
  · obtain ⟨c1, c2⟩ := bcond hp
    have c1 : h.length ≤ 8 := ble_of c1
    refine (q_refBytes h).trans ?_
    show _ = some (⟨.str (N.refHeadBytes h), [], []⟩ : DRes)
    have u := wu64 (h.length : Int)
    simp (disch := omega) only [evs, pairs_enc, c2, List.drop_zero, show N.fuelOk 8 1 = true from rfl, show N.clamp 1 = 1 from rfl]
    rfl
end Go.Ev

/- The document's function that checks heads answers what the plain one does: lemmas. -/
namespace Go.Ev
open Go Go.Proofs
set_option maxRecDepth 100000

def schRefCheck : SSch := { fr := [(0, .slc [.str, .int .u8, .int .i64, .str]), (9, .slc [.str, .int .u8, .int .i64, .str]), (10, .int .i64), (11, .int .i64)], tab := [] }
def gRefCheck : List Leaf → (Ex → St → Option R) → Option R
  | [.r r0, .r r9, .i i10, .i i11], K => cond (i10 == r9.length) (cond (Nat.beq r0.length r9.length) (cond (ile 0 i11) (cond (Nat.ble r0.length LIM) (cond (N.samePs (rowsP r0) (rowsP r9))
      (cond (N.checkFrom (rowsP r9) (r9.length - i11.toNat) i11 != 0) (K .ret { fr := [(2, .int .i64 (N.checkFrom (rowsP r9) (r9.length - i11.toNat) i11))], tab := [] }) (K (.exit 0) { fr := [], tab := [] })) none) none) none) none) none
  | _, _ => none
noncomputable def eRefCheck : Env := env Tryd.prog [(71, dPairE)] [(4, loopF schRefCheck gRefCheck)] [(4, [(0, [0, 9, 10, 11]), (1, []), (1000, [2])])]
theorem q_refCheck (h : List HPair) : evFn eRefCheck 39 ((aOne (vSl cPair)).enc h) ([]) some =
 cond (ilt (8 : Int) (↑(List.length (List.map (fun p => [V.str (HPair.key p), V.int IntKind.u8 (HPair.kind p), V.int IntKind.i64 (HPair.num p), V.str (HPair.text p)]) h)) : Int)) (some { v := V.int IntKind.i64 (6 : Int), bx := [] : DRes }) (cond ((↑(List.length (List.map (fun p => [V.str (HPair.key p), V.int IntKind.u8 (HPair.kind p), V.int IntKind.i64 (HPair.num p), V.str (HPair.text p)]) h)) : Int) == (↑(List.length (List.map (fun p => [V.str (HPair.key p), V.int IntKind.u8 (HPair.kind p), V.int IntKind.i64 (HPair.num p), V.str (HPair.text p)]) h)) : Int)) (cond (Nat.beq (List.length (List.map (fun p => [V.str (HPair.key p), V.int IntKind.u8 (HPair.kind p), V.int IntKind.i64 (HPair.num p), V.str (HPair.text p)]) h)) (List.length (List.map (fun p => [V.str (HPair.key p), V.int IntKind.u8 (HPair.kind p), V.int IntKind.i64 (HPair.num p), V.str (HPair.text p)]) h))) (cond (Nat.ble (List.length (List.map (fun p => [V.str (HPair.key p), V.int IntKind.u8 (HPair.kind p), V.int IntKind.i64 (HPair.num p), V.str (HPair.text p)]) h)) (1000000 : Nat)) (cond (N.samePs (List.map (fun r => { key := V.toStr (List.getD r (0 : Nat) V.undef), kind := V.toInt (List.getD r (1 : Nat) V.undef), num := V.toInt (List.getD r (2 : Nat) V.undef), text := V.toStr (List.getD r (3 : Nat) V.undef) : HPair }) (List.map (fun p => [V.str (HPair.key p), V.int IntKind.u8 (HPair.kind p), V.int IntKind.i64 (HPair.num p), V.str (HPair.text p)]) h)) (List.map (fun r => { key := V.toStr (List.getD r (0 : Nat) V.undef), kind := V.toInt (List.getD r (1 : Nat) V.undef), num := V.toInt (List.getD r (2 : Nat) V.undef), text := V.toStr (List.getD r (3 : Nat) V.undef) : HPair }) (List.map (fun p => [V.str (HPair.key p), V.int IntKind.u8 (HPair.kind p), V.int IntKind.i64 (HPair.num p), V.str (HPair.text p)]) h))) (cond (N.checkFrom (List.map (fun r => { key := V.toStr (List.getD r (0 : Nat) V.undef), kind := V.toInt (List.getD r (1 : Nat) V.undef), num := V.toInt (List.getD r (2 : Nat) V.undef), text := V.toStr (List.getD r (3 : Nat) V.undef) : HPair }) (List.map (fun p => [V.str (HPair.key p), V.int IntKind.u8 (HPair.kind p), V.int IntKind.i64 (HPair.num p), V.str (HPair.text p)]) h)) (List.length (List.map (fun p => [V.str (HPair.key p), V.int IntKind.u8 (HPair.kind p), V.int IntKind.i64 (HPair.num p), V.str (HPair.text p)]) h) - (0 : Nat)) (0 : Int) != (0 : Int)) (some { v := V.int IntKind.i64 (N.checkFrom (List.map (fun r => { key := V.toStr (List.getD r (0 : Nat) V.undef), kind := V.toInt (List.getD r (1 : Nat) V.undef), num := V.toInt (List.getD r (2 : Nat) V.undef), text := V.toStr (List.getD r (3 : Nat) V.undef) : HPair }) (List.map (fun p => [V.str (HPair.key p), V.int IntKind.u8 (HPair.kind p), V.int IntKind.i64 (HPair.num p), V.str (HPair.text p)]) h)) (List.length (List.map (fun p => [V.str (HPair.key p), V.int IntKind.u8 (HPair.kind p), V.int IntKind.i64 (HPair.num p), V.str (HPair.text p)]) h) - (0 : Nat)) (0 : Int)), bx := [] : DRes }) (some { v := V.int IntKind.i64 (0 : Int), bx := [] : DRes })) (none)) (none)) (none)) (none)) := by kernel_rfl
theorem q_refCheckR (r0 : List (List V)) (r9 : List (List V)) (i11 : Int) (K : Ex → St → Option R) : evRound eRefCheck 39 4 { fr := [(0, .slc [.str, .int .u8, .int .i64, .str] r0), (9, .slc [.str, .int .u8, .int .i64, .str] r9), (10, .int .i64 r9.length), (11, .int .i64 i11)], tab := [] } K =
 cond (ilt i11 (↑(List.length r9) : Int)) (cond (decide ((0 : Int) ≤ i11 ∧ i11 < (↑(List.length r9) : Int))) (cond (decide ((0 : Int) ≤ i11 ∧ i11 ≤ (↑(List.length r0) : Int))) (cond (Nat.ble (List.length (List.map (fun r => { key := V.toStr (List.getD r (0 : Nat) V.undef), kind := V.toInt (List.getD r (1 : Nat) V.undef), num := V.toInt (List.getD r (2 : Nat) V.undef), text := V.toStr (List.getD r (3 : Nat) V.undef) : HPair }) (List.drop (0 : Nat) (List.take (Int.toNat i11) r0)))) (1000000 : Nat)) (cond (N.pairE { key := V.toStr (List.getD (List.getD r9 (Int.toNat i11) []) (0 : Nat) V.undef), kind := V.toInt (List.getD (List.getD r9 (Int.toNat i11) []) (1 : Nat) V.undef), num := V.toInt (List.getD (List.getD r9 (Int.toNat i11) []) (2 : Nat) V.undef), text := V.toStr (List.getD (List.getD r9 (Int.toNat i11) []) (3 : Nat) V.undef) : HPair } (List.map (fun r => { key := V.toStr (List.getD r (0 : Nat) V.undef), kind := V.toInt (List.getD r (1 : Nat) V.undef), num := V.toInt (List.getD r (2 : Nat) V.undef), text := V.toStr (List.getD r (3 : Nat) V.undef) : HPair }) (List.drop (0 : Nat) (List.take (Int.toNat i11) r0))) != (0 : Int)) (K Ex.ret { fr := [((2 : Nat), V.int IntKind.i64 (N.pairE { key := V.toStr (List.getD (List.getD r9 (Int.toNat i11) []) (0 : Nat) V.undef), kind := V.toInt (List.getD (List.getD r9 (Int.toNat i11) []) (1 : Nat) V.undef), num := V.toInt (List.getD (List.getD r9 (Int.toNat i11) []) (2 : Nat) V.undef), text := V.toStr (List.getD (List.getD r9 (Int.toNat i11) []) (3 : Nat) V.undef) : HPair } (List.map (fun r => { key := V.toStr (List.getD r (0 : Nat) V.undef), kind := V.toInt (List.getD r (1 : Nat) V.undef), num := V.toInt (List.getD r (2 : Nat) V.undef), text := V.toStr (List.getD r (3 : Nat) V.undef) : HPair }) (List.drop (0 : Nat) (List.take (Int.toNat i11) r0)))))], tab := [] : St }) (K Ex.normal { fr := [((0 : Nat), V.slc [Sh.str, Sh.int IntKind.u8, Sh.int IntKind.i64, Sh.str] r0), ((9 : Nat), V.slc [Sh.str, Sh.int IntKind.u8, Sh.int IntKind.i64, Sh.str] r9), ((10 : Nat), V.int IntKind.i64 (↑(List.length r9) : Int)), ((11 : Nat), V.int IntKind.i64 (IntKind.wrap IntKind.i64 (i11 + (1 : Int))))], tab := [] : St })) (none)) (none)) (none)) (K (Ex.exit (0 : Nat)) { fr := [], tab := [] : St }) := by kernel_rfl
theorem ok_refCheck : FnOk Tryd.prog 39 dHeadCheck := by
  refine den_okF (env_ok ((TOk.nil _).cons ok_refPair)) (E := eRefCheck) Tryd.func39 [4] (by kernel_rfl) (one1 (rounds_of rfl fun l K q h => ?_)) fun h _ _ => ?_
  · unfold gRefCheck at h
    split at h
    · rename_i r0 r n i
      have h1 := (cond_none h).1; replace h := (cond_none h).2; have h2 := (cond_none h).1; replace h := (cond_none h).2; have h3 := (cond_none h).1; replace h := (cond_none h).2; have h4 := (cond_none h).1; replace h := (cond_none h).2; have h5 := (cond_none h).1; replace h := (cond_none h).2
      have e1 := ieq_of h1
      subst e1
      have h2 := Nat.eq_of_beq_eq_true h2
      have h4 : r0.length ≤ 1000000 := ble_of h4
      have h5 := samePs_eq h5
      refine loop_ind (E := eRefCheck) (f := 39) (id := 4) (fun i : Int => { fr := [(0, .slc [.str, .int .u8, .int .i64, .str] r0), (9, .slc [.str, .int .u8, .int .i64, .str] r), (10, .int .i64 r.length), (11, .int .i64 i)], tab := [] }) (fun i => 0 ≤ i) (fun i => r.length - i.toNat)
        (fun i11 K => cond (N.checkFrom (rowsP r) (r.length - i11.toNat) i11 != 0) (K .ret { fr := [(2, .int .i64 (N.checkFrom (rowsP r) (r.length - i11.toNat) i11))], tab := [] }) (K (.exit 0) { fr := [], tab := [] })) (fun i hi => ?_) i (ile_of h3) K q (by assumption)
      by_cases hl : i < r.length
      · have e : N.checkFrom (rowsP r) (r.length - i.toNat) i = cond (N.pairE (rowP (r.getD i.toNat [])) ((rowsP r).take i.toNat) != 0) (N.pairE (rowP (r.getD i.toNat [])) ((rowsP r).take i.toNat)) (N.checkFrom (rowsP r) (r.length - (i + 1).toNat) (i + 1)) := by
          rw [show r.length - i.toNat = (r.length - (i + 1).toNat) + 1 by omega, N.checkFrom, rowsP_getD]
        rw [e]
        have hm : List.map rowP (List.take i.toNat r0) = (rowsP r).take i.toNat := by rw [← h5, rowsP, List.map_take]
        unfold rowP at hm
        cases hc : N.pairE (rowP (r.getD i.toNat [])) ((rowsP r).take i.toNat) != 0 with
        | true =>
          rw [cond_true, hc]
          refine .inr ⟨.ret, _, by simp, fun K => ?_, fun K => rfl⟩
          rw [q_refCheckR]
          unfold rowP at hc
          simp (disch := omega) only [evs, hc, hm, List.length_take, List.drop_zero]
          rfl
        | false =>
          refine .inl ⟨i + 1, by omega, by omega, fun K => ?_, fun K => ?_⟩
          · rw [q_refCheckR]
            unfold rowP at hc
            simp (disch := omega) only [evs, hc, hm, List.length_take, List.drop_zero]
          · rw [cond_false]
      · refine .inr ⟨.exit 0, { fr := [], tab := [] }, by simp, fun K => ?_, fun K => ?_⟩
        · rw [q_refCheckR]
          simp (disch := omega) only [evs]
        · rw [show r.length - i.toNat = 0 by omega]; rfl
    · cases h
  · refine (q_refCheck h).trans ?_
    show _ = some (⟨.int .i64 (N.headCheck h), [], []⟩ : DRes)
    unfold N.headCheck
    by_cases hl : 8 < h.length
    · simp (disch := omega) only [evs]
    · simp (disch := omega) only [evs, pairs_enc, samePs_refl, Nat.sub_zero]
      cases hc : N.checkFrom h h.length 0 != 0 with
      | true => rfl
      | false =>
        have : N.checkFrom h h.length 0 = 0 := by simpa using hc
        rw [this]; rfl
end Go.Ev

/- The document's function that reads heads answers what the plain one does: lemmas. -/
namespace Go.Ev
open Go Go.Proofs
set_option maxRecDepth 100000

def schRHead : SSch := { fr := [(0, .ptr 0 0 0), (3, .int .i64), (4, .own 10000), (5, .int .i64)], tab := [(0, .var [.str, .int .i64, .int .i64]), (10000, .sl [.str, .int .u8, .int .i64, .str])] }
def gRHead : List Leaf → (Ex → St → Option R) → Option R
  | [.i n, .i j, .s s, .i a, .i c, .r rows], K => cond (ile 0 j) (cond (ile n 300) (cond (Nat.ble (rows.length + (n - j).toNat) LIM) (cond (N.goodR ⟨s, a, c⟩)
      (K (.exit 0) { fr := [(0, .ptr 0 0 0 0), (4, .own 10000 0)], tab := [(0, .var [.str (N.rhl (n - j).toNat ⟨s, a, c⟩ rows).2.s, .int .i64 (N.rhl (n - j).toNat ⟨s, a, c⟩ rows).2.at', .int .i64 (N.rhl (n - j).toNat ⟨s, a, c⟩ rows).2.code]), (10000, .sl [.str, .int .u8, .int .i64, .str] (N.rhl (n - j).toNat ⟨s, a, c⟩ rows).1 0)] }) none) none) none) none
  | _, _ => none
noncomputable def eRHead : Env := env Tryd.prog [(68, dRNum), (69, dRFail), (70, dRText), (71, dPairE)] [(6, loopF schRHead gRHead)] [(6, [(0, [0, 3, 4, 5]), (1, [0, 4]), (1000, [2])])]
theorem q_rHead (q : RIn) : evFn eRHead 35 (((aOne (vPtr 0)).enc ())) (((bOne cRIn).enc q)) some =
 cond (N.goodR q) (cond (ilt (8 : Int) (IntKind.wrap IntKind.i64 (Prod.fst (N.rNum q (1 : Int))))) (cond (ile (IntKind.wrap IntKind.i64 (Prod.fst (N.rNum q (1 : Int)))) (300 : Int)) (cond (Nat.ble ((0 : Nat) + Int.toNat (IntKind.wrap IntKind.i64 (Prod.fst (N.rNum q (1 : Int))) - (0 : Int))) (1000000 : Nat)) (cond (N.goodR (N.rFail (Prod.snd (N.rNum q (1 : Int))) (6 : Int))) (cond (RIn.code (Prod.snd (N.rhl (Int.toNat (IntKind.wrap IntKind.i64 (Prod.fst (N.rNum q (1 : Int))) - (0 : Int))) (N.rFail (Prod.snd (N.rNum q (1 : Int))) (6 : Int)) [])) != (0 : Int)) (some { v := V.slc [Sh.str, Sh.int IntKind.u8, Sh.int IntKind.i64, Sh.str] [], bx := [[V.str (RIn.s (Prod.snd (N.rhl (Int.toNat (IntKind.wrap IntKind.i64 (Prod.fst (N.rNum q (1 : Int))) - (0 : Int))) (N.rFail (Prod.snd (N.rNum q (1 : Int))) (6 : Int)) []))), V.int IntKind.i64 (RIn.at' (Prod.snd (N.rhl (Int.toNat (IntKind.wrap IntKind.i64 (Prod.fst (N.rNum q (1 : Int))) - (0 : Int))) (N.rFail (Prod.snd (N.rNum q (1 : Int))) (6 : Int)) []))), V.int IntKind.i64 (RIn.code (Prod.snd (N.rhl (Int.toNat (IntKind.wrap IntKind.i64 (Prod.fst (N.rNum q (1 : Int))) - (0 : Int))) (N.rFail (Prod.snd (N.rNum q (1 : Int))) (6 : Int)) [])))]] : DRes }) (some { v := V.slc [Sh.str, Sh.int IntKind.u8, Sh.int IntKind.i64, Sh.str] (Prod.fst (N.rhl (Int.toNat (IntKind.wrap IntKind.i64 (Prod.fst (N.rNum q (1 : Int))) - (0 : Int))) (N.rFail (Prod.snd (N.rNum q (1 : Int))) (6 : Int)) [])), bx := [[V.str (RIn.s (Prod.snd (N.rhl (Int.toNat (IntKind.wrap IntKind.i64 (Prod.fst (N.rNum q (1 : Int))) - (0 : Int))) (N.rFail (Prod.snd (N.rNum q (1 : Int))) (6 : Int)) []))), V.int IntKind.i64 (RIn.at' (Prod.snd (N.rhl (Int.toNat (IntKind.wrap IntKind.i64 (Prod.fst (N.rNum q (1 : Int))) - (0 : Int))) (N.rFail (Prod.snd (N.rNum q (1 : Int))) (6 : Int)) []))), V.int IntKind.i64 (RIn.code (Prod.snd (N.rhl (Int.toNat (IntKind.wrap IntKind.i64 (Prod.fst (N.rNum q (1 : Int))) - (0 : Int))) (N.rFail (Prod.snd (N.rNum q (1 : Int))) (6 : Int)) [])))]] : DRes })) (none)) (none)) (none)) (cond (ile (IntKind.wrap IntKind.i64 (Prod.fst (N.rNum q (1 : Int)))) (300 : Int)) (cond (Nat.ble ((0 : Nat) + Int.toNat (IntKind.wrap IntKind.i64 (Prod.fst (N.rNum q (1 : Int))) - (0 : Int))) (1000000 : Nat)) (cond (N.goodR (Prod.snd (N.rNum q (1 : Int)))) (cond (RIn.code (Prod.snd (N.rhl (Int.toNat (IntKind.wrap IntKind.i64 (Prod.fst (N.rNum q (1 : Int))) - (0 : Int))) (Prod.snd (N.rNum q (1 : Int))) [])) != (0 : Int)) (some { v := V.slc [Sh.str, Sh.int IntKind.u8, Sh.int IntKind.i64, Sh.str] [], bx := [[V.str (RIn.s (Prod.snd (N.rhl (Int.toNat (IntKind.wrap IntKind.i64 (Prod.fst (N.rNum q (1 : Int))) - (0 : Int))) (Prod.snd (N.rNum q (1 : Int))) []))), V.int IntKind.i64 (RIn.at' (Prod.snd (N.rhl (Int.toNat (IntKind.wrap IntKind.i64 (Prod.fst (N.rNum q (1 : Int))) - (0 : Int))) (Prod.snd (N.rNum q (1 : Int))) []))), V.int IntKind.i64 (RIn.code (Prod.snd (N.rhl (Int.toNat (IntKind.wrap IntKind.i64 (Prod.fst (N.rNum q (1 : Int))) - (0 : Int))) (Prod.snd (N.rNum q (1 : Int))) [])))]] : DRes }) (some { v := V.slc [Sh.str, Sh.int IntKind.u8, Sh.int IntKind.i64, Sh.str] (Prod.fst (N.rhl (Int.toNat (IntKind.wrap IntKind.i64 (Prod.fst (N.rNum q (1 : Int))) - (0 : Int))) (Prod.snd (N.rNum q (1 : Int))) [])), bx := [[V.str (RIn.s (Prod.snd (N.rhl (Int.toNat (IntKind.wrap IntKind.i64 (Prod.fst (N.rNum q (1 : Int))) - (0 : Int))) (Prod.snd (N.rNum q (1 : Int))) []))), V.int IntKind.i64 (RIn.at' (Prod.snd (N.rhl (Int.toNat (IntKind.wrap IntKind.i64 (Prod.fst (N.rNum q (1 : Int))) - (0 : Int))) (Prod.snd (N.rNum q (1 : Int))) []))), V.int IntKind.i64 (RIn.code (Prod.snd (N.rhl (Int.toNat (IntKind.wrap IntKind.i64 (Prod.fst (N.rNum q (1 : Int))) - (0 : Int))) (Prod.snd (N.rNum q (1 : Int))) [])))]] : DRes })) (none)) (none)) (none))) (none) := by kernel_rfl
theorem q_rHeadR (i3 : Int) (i5 : Int) (sx0 : Bytes) (ix0 : Int) (ix0_1 : Int) (rx0 : List (List V)) (K : Ex → St → Option R) : evRound eRHead 35 6 { fr := [(0, .ptr 0 0 0 0), (3, .int .i64 i3), (4, .own 10000 0), (5, .int .i64 i5)], tab := [(0, .var [.str sx0, .int .i64 ix0, .int .i64 ix0_1]), (10000, .sl [.str, .int .u8, .int .i64, .str] rx0 0)] } K =
 cond (ilt i5 i3) (cond (ix0_1 == (0 : Int)) (cond (N.goodR { s := sx0, at' := ix0, code := ix0_1 : RIn }) (cond (N.goodR (Prod.snd (N.rText { s := sx0, at' := ix0, code := ix0_1 : RIn } (16 : Int)))) (cond (IntKind.wrap IntKind.u8 (Prod.fst (N.rNum (Prod.snd (N.rText { s := sx0, at' := ix0, code := ix0_1 : RIn } (16 : Int))) (1 : Int))) == (0 : Int)) (cond (N.goodR (Prod.snd (N.rNum (Prod.snd (N.rText { s := sx0, at' := ix0, code := ix0_1 : RIn } (16 : Int))) (1 : Int)))) (cond (RIn.code (Prod.snd (N.rNum (Prod.snd (N.rNum (Prod.snd (N.rText { s := sx0, at' := ix0, code := ix0_1 : RIn } (16 : Int))) (1 : Int))) (8 : Int))) == (0 : Int)) (cond (Nat.ble (List.length (List.map (fun r => { key := V.toStr (List.getD r (0 : Nat) V.undef), kind := V.toInt (List.getD r (1 : Nat) V.undef), num := V.toInt (List.getD r (2 : Nat) V.undef), text := V.toStr (List.getD r (3 : Nat) V.undef) : HPair }) rx0)) (1000000 : Nat)) (cond (decide ((List.length rx0 + (1 : Nat)) * (48 : Nat) ≤ (140737488355328 : Nat))) (K Ex.normal { fr := [((0 : Nat), V.ptr (0 : Nat) (0 : Nat) (0 : Nat) (0 : Nat)), ((3 : Nat), V.int IntKind.i64 i3), ((4 : Nat), V.own (10000 : Nat) (0 : Nat)), ((5 : Nat), V.int IntKind.i64 (IntKind.wrap IntKind.i64 (i5 + (1 : Int))))], tab := [((0 : Nat), Box.var [V.str (RIn.s (N.rFail (Prod.snd (N.rNum (Prod.snd (N.rNum (Prod.snd (N.rText { s := sx0, at' := ix0, code := ix0_1 : RIn } (16 : Int))) (1 : Int))) (8 : Int))) (N.pairE { key := Prod.fst (N.rText { s := sx0, at' := ix0, code := ix0_1 : RIn } (16 : Int)), kind := IntKind.wrap IntKind.u8 (Prod.fst (N.rNum (Prod.snd (N.rText { s := sx0, at' := ix0, code := ix0_1 : RIn } (16 : Int))) (1 : Int))), num := IntKind.wrap IntKind.i64 (Prod.fst (N.rNum (Prod.snd (N.rNum (Prod.snd (N.rText { s := sx0, at' := ix0, code := ix0_1 : RIn } (16 : Int))) (1 : Int))) (8 : Int))), text := [] : HPair } (List.map (fun r => { key := V.toStr (List.getD r (0 : Nat) V.undef), kind := V.toInt (List.getD r (1 : Nat) V.undef), num := V.toInt (List.getD r (2 : Nat) V.undef), text := V.toStr (List.getD r (3 : Nat) V.undef) : HPair }) rx0)))), V.int IntKind.i64 (RIn.at' (N.rFail (Prod.snd (N.rNum (Prod.snd (N.rNum (Prod.snd (N.rText { s := sx0, at' := ix0, code := ix0_1 : RIn } (16 : Int))) (1 : Int))) (8 : Int))) (N.pairE { key := Prod.fst (N.rText { s := sx0, at' := ix0, code := ix0_1 : RIn } (16 : Int)), kind := IntKind.wrap IntKind.u8 (Prod.fst (N.rNum (Prod.snd (N.rText { s := sx0, at' := ix0, code := ix0_1 : RIn } (16 : Int))) (1 : Int))), num := IntKind.wrap IntKind.i64 (Prod.fst (N.rNum (Prod.snd (N.rNum (Prod.snd (N.rText { s := sx0, at' := ix0, code := ix0_1 : RIn } (16 : Int))) (1 : Int))) (8 : Int))), text := [] : HPair } (List.map (fun r => { key := V.toStr (List.getD r (0 : Nat) V.undef), kind := V.toInt (List.getD r (1 : Nat) V.undef), num := V.toInt (List.getD r (2 : Nat) V.undef), text := V.toStr (List.getD r (3 : Nat) V.undef) : HPair }) rx0)))), V.int IntKind.i64 (RIn.code (N.rFail (Prod.snd (N.rNum (Prod.snd (N.rNum (Prod.snd (N.rText { s := sx0, at' := ix0, code := ix0_1 : RIn } (16 : Int))) (1 : Int))) (8 : Int))) (N.pairE { key := Prod.fst (N.rText { s := sx0, at' := ix0, code := ix0_1 : RIn } (16 : Int)), kind := IntKind.wrap IntKind.u8 (Prod.fst (N.rNum (Prod.snd (N.rText { s := sx0, at' := ix0, code := ix0_1 : RIn } (16 : Int))) (1 : Int))), num := IntKind.wrap IntKind.i64 (Prod.fst (N.rNum (Prod.snd (N.rNum (Prod.snd (N.rText { s := sx0, at' := ix0, code := ix0_1 : RIn } (16 : Int))) (1 : Int))) (8 : Int))), text := [] : HPair } (List.map (fun r => { key := V.toStr (List.getD r (0 : Nat) V.undef), kind := V.toInt (List.getD r (1 : Nat) V.undef), num := V.toInt (List.getD r (2 : Nat) V.undef), text := V.toStr (List.getD r (3 : Nat) V.undef) : HPair }) rx0))))]), ((10000 : Nat), Box.sl [Sh.str, Sh.int IntKind.u8, Sh.int IntKind.i64, Sh.str] (rx0 ++ [[V.str (Prod.fst (N.rText { s := sx0, at' := ix0, code := ix0_1 : RIn } (16 : Int))), V.int IntKind.u8 (IntKind.wrap IntKind.u8 (Prod.fst (N.rNum (Prod.snd (N.rText { s := sx0, at' := ix0, code := ix0_1 : RIn } (16 : Int))) (1 : Int)))), V.int IntKind.i64 (IntKind.wrap IntKind.i64 (Prod.fst (N.rNum (Prod.snd (N.rNum (Prod.snd (N.rText { s := sx0, at' := ix0, code := ix0_1 : RIn } (16 : Int))) (1 : Int))) (8 : Int)))), V.str []]]) (0 : Nat))] : St }) (none)) (none)) (cond (decide ((List.length rx0 + (1 : Nat)) * (48 : Nat) ≤ (140737488355328 : Nat))) (K Ex.normal { fr := [((0 : Nat), V.ptr (0 : Nat) (0 : Nat) (0 : Nat) (0 : Nat)), ((3 : Nat), V.int IntKind.i64 i3), ((4 : Nat), V.own (10000 : Nat) (0 : Nat)), ((5 : Nat), V.int IntKind.i64 (IntKind.wrap IntKind.i64 (i5 + (1 : Int))))], tab := [((0 : Nat), Box.var [V.str (RIn.s (Prod.snd (N.rNum (Prod.snd (N.rNum (Prod.snd (N.rText { s := sx0, at' := ix0, code := ix0_1 : RIn } (16 : Int))) (1 : Int))) (8 : Int)))), V.int IntKind.i64 (RIn.at' (Prod.snd (N.rNum (Prod.snd (N.rNum (Prod.snd (N.rText { s := sx0, at' := ix0, code := ix0_1 : RIn } (16 : Int))) (1 : Int))) (8 : Int)))), V.int IntKind.i64 (RIn.code (Prod.snd (N.rNum (Prod.snd (N.rNum (Prod.snd (N.rText { s := sx0, at' := ix0, code := ix0_1 : RIn } (16 : Int))) (1 : Int))) (8 : Int))))]), ((10000 : Nat), Box.sl [Sh.str, Sh.int IntKind.u8, Sh.int IntKind.i64, Sh.str] (rx0 ++ [[V.str (Prod.fst (N.rText { s := sx0, at' := ix0, code := ix0_1 : RIn } (16 : Int))), V.int IntKind.u8 (IntKind.wrap IntKind.u8 (Prod.fst (N.rNum (Prod.snd (N.rText { s := sx0, at' := ix0, code := ix0_1 : RIn } (16 : Int))) (1 : Int)))), V.int IntKind.i64 (IntKind.wrap IntKind.i64 (Prod.fst (N.rNum (Prod.snd (N.rNum (Prod.snd (N.rText { s := sx0, at' := ix0, code := ix0_1 : RIn } (16 : Int))) (1 : Int))) (8 : Int)))), V.str []]]) (0 : Nat))] : St }) (none))) (none)) (cond (IntKind.wrap IntKind.u8 (Prod.fst (N.rNum (Prod.snd (N.rText { s := sx0, at' := ix0, code := ix0_1 : RIn } (16 : Int))) (1 : Int))) == (1 : Int)) (cond (N.goodR (Prod.snd (N.rNum (Prod.snd (N.rText { s := sx0, at' := ix0, code := ix0_1 : RIn } (16 : Int))) (1 : Int)))) (cond (RIn.code (Prod.snd (N.rText (Prod.snd (N.rNum (Prod.snd (N.rText { s := sx0, at' := ix0, code := ix0_1 : RIn } (16 : Int))) (1 : Int))) (64 : Int))) == (0 : Int)) (cond (Nat.ble (List.length (List.map (fun r => { key := V.toStr (List.getD r (0 : Nat) V.undef), kind := V.toInt (List.getD r (1 : Nat) V.undef), num := V.toInt (List.getD r (2 : Nat) V.undef), text := V.toStr (List.getD r (3 : Nat) V.undef) : HPair }) rx0)) (1000000 : Nat)) (cond (decide ((List.length rx0 + (1 : Nat)) * (48 : Nat) ≤ (140737488355328 : Nat))) (K Ex.normal { fr := [((0 : Nat), V.ptr (0 : Nat) (0 : Nat) (0 : Nat) (0 : Nat)), ((3 : Nat), V.int IntKind.i64 i3), ((4 : Nat), V.own (10000 : Nat) (0 : Nat)), ((5 : Nat), V.int IntKind.i64 (IntKind.wrap IntKind.i64 (i5 + (1 : Int))))], tab := [((0 : Nat), Box.var [V.str (RIn.s (N.rFail (Prod.snd (N.rText (Prod.snd (N.rNum (Prod.snd (N.rText { s := sx0, at' := ix0, code := ix0_1 : RIn } (16 : Int))) (1 : Int))) (64 : Int))) (N.pairE { key := Prod.fst (N.rText { s := sx0, at' := ix0, code := ix0_1 : RIn } (16 : Int)), kind := IntKind.wrap IntKind.u8 (Prod.fst (N.rNum (Prod.snd (N.rText { s := sx0, at' := ix0, code := ix0_1 : RIn } (16 : Int))) (1 : Int))), num := (0 : Int), text := Prod.fst (N.rText (Prod.snd (N.rNum (Prod.snd (N.rText { s := sx0, at' := ix0, code := ix0_1 : RIn } (16 : Int))) (1 : Int))) (64 : Int)) : HPair } (List.map (fun r => { key := V.toStr (List.getD r (0 : Nat) V.undef), kind := V.toInt (List.getD r (1 : Nat) V.undef), num := V.toInt (List.getD r (2 : Nat) V.undef), text := V.toStr (List.getD r (3 : Nat) V.undef) : HPair }) rx0)))), V.int IntKind.i64 (RIn.at' (N.rFail (Prod.snd (N.rText (Prod.snd (N.rNum (Prod.snd (N.rText { s := sx0, at' := ix0, code := ix0_1 : RIn } (16 : Int))) (1 : Int))) (64 : Int))) (N.pairE { key := Prod.fst (N.rText { s := sx0, at' := ix0, code := ix0_1 : RIn } (16 : Int)), kind := IntKind.wrap IntKind.u8 (Prod.fst (N.rNum (Prod.snd (N.rText { s := sx0, at' := ix0, code := ix0_1 : RIn } (16 : Int))) (1 : Int))), num := (0 : Int), text := Prod.fst (N.rText (Prod.snd (N.rNum (Prod.snd (N.rText { s := sx0, at' := ix0, code := ix0_1 : RIn } (16 : Int))) (1 : Int))) (64 : Int)) : HPair } (List.map (fun r => { key := V.toStr (List.getD r (0 : Nat) V.undef), kind := V.toInt (List.getD r (1 : Nat) V.undef), num := V.toInt (List.getD r (2 : Nat) V.undef), text := V.toStr (List.getD r (3 : Nat) V.undef) : HPair }) rx0)))), V.int IntKind.i64 (RIn.code (N.rFail (Prod.snd (N.rText (Prod.snd (N.rNum (Prod.snd (N.rText { s := sx0, at' := ix0, code := ix0_1 : RIn } (16 : Int))) (1 : Int))) (64 : Int))) (N.pairE { key := Prod.fst (N.rText { s := sx0, at' := ix0, code := ix0_1 : RIn } (16 : Int)), kind := IntKind.wrap IntKind.u8 (Prod.fst (N.rNum (Prod.snd (N.rText { s := sx0, at' := ix0, code := ix0_1 : RIn } (16 : Int))) (1 : Int))), num := (0 : Int), text := Prod.fst (N.rText (Prod.snd (N.rNum (Prod.snd (N.rText { s := sx0, at' := ix0, code := ix0_1 : RIn } (16 : Int))) (1 : Int))) (64 : Int)) : HPair } (List.map (fun r => { key := V.toStr (List.getD r (0 : Nat) V.undef), kind := V.toInt (List.getD r (1 : Nat) V.undef), num := V.toInt (List.getD r (2 : Nat) V.undef), text := V.toStr (List.getD r (3 : Nat) V.undef) : HPair }) rx0))))]), ((10000 : Nat), Box.sl [Sh.str, Sh.int IntKind.u8, Sh.int IntKind.i64, Sh.str] (rx0 ++ [[V.str (Prod.fst (N.rText { s := sx0, at' := ix0, code := ix0_1 : RIn } (16 : Int))), V.int IntKind.u8 (IntKind.wrap IntKind.u8 (Prod.fst (N.rNum (Prod.snd (N.rText { s := sx0, at' := ix0, code := ix0_1 : RIn } (16 : Int))) (1 : Int)))), V.int IntKind.i64 (0 : Int), V.str (Prod.fst (N.rText (Prod.snd (N.rNum (Prod.snd (N.rText { s := sx0, at' := ix0, code := ix0_1 : RIn } (16 : Int))) (1 : Int))) (64 : Int)))]]) (0 : Nat))] : St }) (none)) (none)) (cond (decide ((List.length rx0 + (1 : Nat)) * (48 : Nat) ≤ (140737488355328 : Nat))) (K Ex.normal { fr := [((0 : Nat), V.ptr (0 : Nat) (0 : Nat) (0 : Nat) (0 : Nat)), ((3 : Nat), V.int IntKind.i64 i3), ((4 : Nat), V.own (10000 : Nat) (0 : Nat)), ((5 : Nat), V.int IntKind.i64 (IntKind.wrap IntKind.i64 (i5 + (1 : Int))))], tab := [((0 : Nat), Box.var [V.str (RIn.s (Prod.snd (N.rText (Prod.snd (N.rNum (Prod.snd (N.rText { s := sx0, at' := ix0, code := ix0_1 : RIn } (16 : Int))) (1 : Int))) (64 : Int)))), V.int IntKind.i64 (RIn.at' (Prod.snd (N.rText (Prod.snd (N.rNum (Prod.snd (N.rText { s := sx0, at' := ix0, code := ix0_1 : RIn } (16 : Int))) (1 : Int))) (64 : Int)))), V.int IntKind.i64 (RIn.code (Prod.snd (N.rText (Prod.snd (N.rNum (Prod.snd (N.rText { s := sx0, at' := ix0, code := ix0_1 : RIn } (16 : Int))) (1 : Int))) (64 : Int))))]), ((10000 : Nat), Box.sl [Sh.str, Sh.int IntKind.u8, Sh.int IntKind.i64, Sh.str] (rx0 ++ [[V.str (Prod.fst (N.rText { s := sx0, at' := ix0, code := ix0_1 : RIn } (16 : Int))), V.int IntKind.u8 (IntKind.wrap IntKind.u8 (Prod.fst (N.rNum (Prod.snd (N.rText { s := sx0, at' := ix0, code := ix0_1 : RIn } (16 : Int))) (1 : Int)))), V.int IntKind.i64 (0 : Int), V.str (Prod.fst (N.rText (Prod.snd (N.rNum (Prod.snd (N.rText { s := sx0, at' := ix0, code := ix0_1 : RIn } (16 : Int))) (1 : Int))) (64 : Int)))]]) (0 : Nat))] : St }) (none))) (none)) (cond (IntKind.wrap IntKind.u8 (Prod.fst (N.rNum (Prod.snd (N.rText { s := sx0, at' := ix0, code := ix0_1 : RIn } (16 : Int))) (1 : Int))) == (2 : Int)) (cond (N.goodR (Prod.snd (N.rNum (Prod.snd (N.rText { s := sx0, at' := ix0, code := ix0_1 : RIn } (16 : Int))) (1 : Int)))) (cond (RIn.code (Prod.snd (N.rNum (Prod.snd (N.rNum (Prod.snd (N.rText { s := sx0, at' := ix0, code := ix0_1 : RIn } (16 : Int))) (1 : Int))) (1 : Int))) == (0 : Int)) (cond (Nat.ble (List.length (List.map (fun r => { key := V.toStr (List.getD r (0 : Nat) V.undef), kind := V.toInt (List.getD r (1 : Nat) V.undef), num := V.toInt (List.getD r (2 : Nat) V.undef), text := V.toStr (List.getD r (3 : Nat) V.undef) : HPair }) rx0)) (1000000 : Nat)) (cond (decide ((List.length rx0 + (1 : Nat)) * (48 : Nat) ≤ (140737488355328 : Nat))) (K Ex.normal { fr := [((0 : Nat), V.ptr (0 : Nat) (0 : Nat) (0 : Nat) (0 : Nat)), ((3 : Nat), V.int IntKind.i64 i3), ((4 : Nat), V.own (10000 : Nat) (0 : Nat)), ((5 : Nat), V.int IntKind.i64 (IntKind.wrap IntKind.i64 (i5 + (1 : Int))))], tab := [((0 : Nat), Box.var [V.str (RIn.s (N.rFail (Prod.snd (N.rNum (Prod.snd (N.rNum (Prod.snd (N.rText { s := sx0, at' := ix0, code := ix0_1 : RIn } (16 : Int))) (1 : Int))) (1 : Int))) (N.pairE { key := Prod.fst (N.rText { s := sx0, at' := ix0, code := ix0_1 : RIn } (16 : Int)), kind := IntKind.wrap IntKind.u8 (Prod.fst (N.rNum (Prod.snd (N.rText { s := sx0, at' := ix0, code := ix0_1 : RIn } (16 : Int))) (1 : Int))), num := IntKind.wrap IntKind.i64 (Prod.fst (N.rNum (Prod.snd (N.rNum (Prod.snd (N.rText { s := sx0, at' := ix0, code := ix0_1 : RIn } (16 : Int))) (1 : Int))) (1 : Int))), text := [] : HPair } (List.map (fun r => { key := V.toStr (List.getD r (0 : Nat) V.undef), kind := V.toInt (List.getD r (1 : Nat) V.undef), num := V.toInt (List.getD r (2 : Nat) V.undef), text := V.toStr (List.getD r (3 : Nat) V.undef) : HPair }) rx0)))), V.int IntKind.i64 (RIn.at' (N.rFail (Prod.snd (N.rNum (Prod.snd (N.rNum (Prod.snd (N.rText { s := sx0, at' := ix0, code := ix0_1 : RIn } (16 : Int))) (1 : Int))) (1 : Int))) (N.pairE { key := Prod.fst (N.rText { s := sx0, at' := ix0, code := ix0_1 : RIn } (16 : Int)), kind := IntKind.wrap IntKind.u8 (Prod.fst (N.rNum (Prod.snd (N.rText { s := sx0, at' := ix0, code := ix0_1 : RIn } (16 : Int))) (1 : Int))), num := IntKind.wrap IntKind.i64 (Prod.fst (N.rNum (Prod.snd (N.rNum (Prod.snd (N.rText { s := sx0, at' := ix0, code := ix0_1 : RIn } (16 : Int))) (1 : Int))) (1 : Int))), text := [] : HPair } (List.map (fun r => { key := V.toStr (List.getD r (0 : Nat) V.undef), kind := V.toInt (List.getD r (1 : Nat) V.undef), num := V.toInt (List.getD r (2 : Nat) V.undef), text := V.toStr (List.getD r (3 : Nat) V.undef) : HPair }) rx0)))), V.int IntKind.i64 (RIn.code (N.rFail (Prod.snd (N.rNum (Prod.snd (N.rNum (Prod.snd (N.rText { s := sx0, at' := ix0, code := ix0_1 : RIn } (16 : Int))) (1 : Int))) (1 : Int))) (N.pairE { key := Prod.fst (N.rText { s := sx0, at' := ix0, code := ix0_1 : RIn } (16 : Int)), kind := IntKind.wrap IntKind.u8 (Prod.fst (N.rNum (Prod.snd (N.rText { s := sx0, at' := ix0, code := ix0_1 : RIn } (16 : Int))) (1 : Int))), num := IntKind.wrap IntKind.i64 (Prod.fst (N.rNum (Prod.snd (N.rNum (Prod.snd (N.rText { s := sx0, at' := ix0, code := ix0_1 : RIn } (16 : Int))) (1 : Int))) (1 : Int))), text := [] : HPair } (List.map (fun r => { key := V.toStr (List.getD r (0 : Nat) V.undef), kind := V.toInt (List.getD r (1 : Nat) V.undef), num := V.toInt (List.getD r (2 : Nat) V.undef), text := V.toStr (List.getD r (3 : Nat) V.undef) : HPair }) rx0))))]), ((10000 : Nat), Box.sl [Sh.str, Sh.int IntKind.u8, Sh.int IntKind.i64, Sh.str] (rx0 ++ [[V.str (Prod.fst (N.rText { s := sx0, at' := ix0, code := ix0_1 : RIn } (16 : Int))), V.int IntKind.u8 (IntKind.wrap IntKind.u8 (Prod.fst (N.rNum (Prod.snd (N.rText { s := sx0, at' := ix0, code := ix0_1 : RIn } (16 : Int))) (1 : Int)))), V.int IntKind.i64 (IntKind.wrap IntKind.i64 (Prod.fst (N.rNum (Prod.snd (N.rNum (Prod.snd (N.rText { s := sx0, at' := ix0, code := ix0_1 : RIn } (16 : Int))) (1 : Int))) (1 : Int)))), V.str []]]) (0 : Nat))] : St }) (none)) (none)) (cond (decide ((List.length rx0 + (1 : Nat)) * (48 : Nat) ≤ (140737488355328 : Nat))) (K Ex.normal { fr := [((0 : Nat), V.ptr (0 : Nat) (0 : Nat) (0 : Nat) (0 : Nat)), ((3 : Nat), V.int IntKind.i64 i3), ((4 : Nat), V.own (10000 : Nat) (0 : Nat)), ((5 : Nat), V.int IntKind.i64 (IntKind.wrap IntKind.i64 (i5 + (1 : Int))))], tab := [((0 : Nat), Box.var [V.str (RIn.s (Prod.snd (N.rNum (Prod.snd (N.rNum (Prod.snd (N.rText { s := sx0, at' := ix0, code := ix0_1 : RIn } (16 : Int))) (1 : Int))) (1 : Int)))), V.int IntKind.i64 (RIn.at' (Prod.snd (N.rNum (Prod.snd (N.rNum (Prod.snd (N.rText { s := sx0, at' := ix0, code := ix0_1 : RIn } (16 : Int))) (1 : Int))) (1 : Int)))), V.int IntKind.i64 (RIn.code (Prod.snd (N.rNum (Prod.snd (N.rNum (Prod.snd (N.rText { s := sx0, at' := ix0, code := ix0_1 : RIn } (16 : Int))) (1 : Int))) (1 : Int))))]), ((10000 : Nat), Box.sl [Sh.str, Sh.int IntKind.u8, Sh.int IntKind.i64, Sh.str] (rx0 ++ [[V.str (Prod.fst (N.rText { s := sx0, at' := ix0, code := ix0_1 : RIn } (16 : Int))), V.int IntKind.u8 (IntKind.wrap IntKind.u8 (Prod.fst (N.rNum (Prod.snd (N.rText { s := sx0, at' := ix0, code := ix0_1 : RIn } (16 : Int))) (1 : Int)))), V.int IntKind.i64 (IntKind.wrap IntKind.i64 (Prod.fst (N.rNum (Prod.snd (N.rNum (Prod.snd (N.rText { s := sx0, at' := ix0, code := ix0_1 : RIn } (16 : Int))) (1 : Int))) (1 : Int)))), V.str []]]) (0 : Nat))] : St }) (none))) (none)) (cond (RIn.code (N.rFail (Prod.snd (N.rNum (Prod.snd (N.rText { s := sx0, at' := ix0, code := ix0_1 : RIn } (16 : Int))) (1 : Int))) (8 : Int)) == (0 : Int)) (cond (Nat.ble (List.length (List.map (fun r => { key := V.toStr (List.getD r (0 : Nat) V.undef), kind := V.toInt (List.getD r (1 : Nat) V.undef), num := V.toInt (List.getD r (2 : Nat) V.undef), text := V.toStr (List.getD r (3 : Nat) V.undef) : HPair }) rx0)) (1000000 : Nat)) (cond (decide ((List.length rx0 + (1 : Nat)) * (48 : Nat) ≤ (140737488355328 : Nat))) (K Ex.normal { fr := [((0 : Nat), V.ptr (0 : Nat) (0 : Nat) (0 : Nat) (0 : Nat)), ((3 : Nat), V.int IntKind.i64 i3), ((4 : Nat), V.own (10000 : Nat) (0 : Nat)), ((5 : Nat), V.int IntKind.i64 (IntKind.wrap IntKind.i64 (i5 + (1 : Int))))], tab := [((0 : Nat), Box.var [V.str (RIn.s (N.rFail (N.rFail (Prod.snd (N.rNum (Prod.snd (N.rText { s := sx0, at' := ix0, code := ix0_1 : RIn } (16 : Int))) (1 : Int))) (8 : Int)) (N.pairE { key := Prod.fst (N.rText { s := sx0, at' := ix0, code := ix0_1 : RIn } (16 : Int)), kind := IntKind.wrap IntKind.u8 (Prod.fst (N.rNum (Prod.snd (N.rText { s := sx0, at' := ix0, code := ix0_1 : RIn } (16 : Int))) (1 : Int))), num := (0 : Int), text := [] : HPair } (List.map (fun r => { key := V.toStr (List.getD r (0 : Nat) V.undef), kind := V.toInt (List.getD r (1 : Nat) V.undef), num := V.toInt (List.getD r (2 : Nat) V.undef), text := V.toStr (List.getD r (3 : Nat) V.undef) : HPair }) rx0)))), V.int IntKind.i64 (RIn.at' (N.rFail (N.rFail (Prod.snd (N.rNum (Prod.snd (N.rText { s := sx0, at' := ix0, code := ix0_1 : RIn } (16 : Int))) (1 : Int))) (8 : Int)) (N.pairE { key := Prod.fst (N.rText { s := sx0, at' := ix0, code := ix0_1 : RIn } (16 : Int)), kind := IntKind.wrap IntKind.u8 (Prod.fst (N.rNum (Prod.snd (N.rText { s := sx0, at' := ix0, code := ix0_1 : RIn } (16 : Int))) (1 : Int))), num := (0 : Int), text := [] : HPair } (List.map (fun r => { key := V.toStr (List.getD r (0 : Nat) V.undef), kind := V.toInt (List.getD r (1 : Nat) V.undef), num := V.toInt (List.getD r (2 : Nat) V.undef), text := V.toStr (List.getD r (3 : Nat) V.undef) : HPair }) rx0)))), V.int IntKind.i64 (RIn.code (N.rFail (N.rFail (Prod.snd (N.rNum (Prod.snd (N.rText { s := sx0, at' := ix0, code := ix0_1 : RIn } (16 : Int))) (1 : Int))) (8 : Int)) (N.pairE { key := Prod.fst (N.rText { s := sx0, at' := ix0, code := ix0_1 : RIn } (16 : Int)), kind := IntKind.wrap IntKind.u8 (Prod.fst (N.rNum (Prod.snd (N.rText { s := sx0, at' := ix0, code := ix0_1 : RIn } (16 : Int))) (1 : Int))), num := (0 : Int), text := [] : HPair } (List.map (fun r => { key := V.toStr (List.getD r (0 : Nat) V.undef), kind := V.toInt (List.getD r (1 : Nat) V.undef), num := V.toInt (List.getD r (2 : Nat) V.undef), text := V.toStr (List.getD r (3 : Nat) V.undef) : HPair }) rx0))))]), ((10000 : Nat), Box.sl [Sh.str, Sh.int IntKind.u8, Sh.int IntKind.i64, Sh.str] (rx0 ++ [[V.str (Prod.fst (N.rText { s := sx0, at' := ix0, code := ix0_1 : RIn } (16 : Int))), V.int IntKind.u8 (IntKind.wrap IntKind.u8 (Prod.fst (N.rNum (Prod.snd (N.rText { s := sx0, at' := ix0, code := ix0_1 : RIn } (16 : Int))) (1 : Int)))), V.int IntKind.i64 (0 : Int), V.str []]]) (0 : Nat))] : St }) (none)) (none)) (cond (decide ((List.length rx0 + (1 : Nat)) * (48 : Nat) ≤ (140737488355328 : Nat))) (K Ex.normal { fr := [((0 : Nat), V.ptr (0 : Nat) (0 : Nat) (0 : Nat) (0 : Nat)), ((3 : Nat), V.int IntKind.i64 i3), ((4 : Nat), V.own (10000 : Nat) (0 : Nat)), ((5 : Nat), V.int IntKind.i64 (IntKind.wrap IntKind.i64 (i5 + (1 : Int))))], tab := [((0 : Nat), Box.var [V.str (RIn.s (N.rFail (Prod.snd (N.rNum (Prod.snd (N.rText { s := sx0, at' := ix0, code := ix0_1 : RIn } (16 : Int))) (1 : Int))) (8 : Int))), V.int IntKind.i64 (RIn.at' (N.rFail (Prod.snd (N.rNum (Prod.snd (N.rText { s := sx0, at' := ix0, code := ix0_1 : RIn } (16 : Int))) (1 : Int))) (8 : Int))), V.int IntKind.i64 (RIn.code (N.rFail (Prod.snd (N.rNum (Prod.snd (N.rText { s := sx0, at' := ix0, code := ix0_1 : RIn } (16 : Int))) (1 : Int))) (8 : Int)))]), ((10000 : Nat), Box.sl [Sh.str, Sh.int IntKind.u8, Sh.int IntKind.i64, Sh.str] (rx0 ++ [[V.str (Prod.fst (N.rText { s := sx0, at' := ix0, code := ix0_1 : RIn } (16 : Int))), V.int IntKind.u8 (IntKind.wrap IntKind.u8 (Prod.fst (N.rNum (Prod.snd (N.rText { s := sx0, at' := ix0, code := ix0_1 : RIn } (16 : Int))) (1 : Int)))), V.int IntKind.i64 (0 : Int), V.str []]]) (0 : Nat))] : St }) (none)))))) (none)) (none)) (K (Ex.exit (0 : Nat)) { fr := [((0 : Nat), V.ptr (0 : Nat) (0 : Nat) (0 : Nat) (0 : Nat)), ((4 : Nat), V.own (10000 : Nat) (0 : Nat))], tab := [((0 : Nat), Box.var [V.str sx0, V.int IntKind.i64 ix0, V.int IntKind.i64 ix0_1]), ((10000 : Nat), Box.sl [Sh.str, Sh.int IntKind.u8, Sh.int IntKind.i64, Sh.str] rx0 (0 : Nat))] : St })) (K (Ex.exit (0 : Nat)) { fr := [((0 : Nat), V.ptr (0 : Nat) (0 : Nat) (0 : Nat) (0 : Nat)), ((4 : Nat), V.own (10000 : Nat) (0 : Nat))], tab := [((0 : Nat), Box.var [V.str sx0, V.int IntKind.i64 ix0, V.int IntKind.i64 ix0_1]), ((10000 : Nat), Box.sl [Sh.str, Sh.int IntKind.u8, Sh.int IntKind.i64, Sh.str] rx0 (0 : Nat))] : St }) := by kernel_rfl
theorem rhl_enc : ∀ (k : Nat) (q : RIn) (l : List HPair), N.rhl k q (l.map cPair.enc) = ((N.rReadFrom k q l).1.map cPair.enc, (N.rReadFrom k q l).2)
  | 0, _, _ => rfl
  | k + 1, q, l => by
    unfold N.rhl N.rReadFrom
    rw [rowsP_enc]
    cases q.code == 0 with
    | false => rfl
    | true =>
      have := rhl_enc k (N.rBad (N.rOne q).1 l (N.rOne q).2) (l ++ [(N.rOne q).1])
      rw [List.map_append] at this
      exact this
theorem rNum1 {q : RIn} (h : N.goodR q = true) : 0 ≤ (N.rNum q 1).1 ∧ (N.rNum q 1).1 < 256 := by
  rw [← (rl_num (good_rl h).1 1).1]; exact inNum1 _
theorem ok_rHead : FnOk Tryd.prog 35 dRHead := by
  refine den_okF (env_ok (((((TOk.nil _).cons ok_refPair).cons ok_rText).cons ok_rFail).cons ok_rNum)) (E := eRHead) Tryd.func35 [6] (by kernel_rfl) (one1 (rounds_of rfl fun l K q h => ?_)) fun _ q h => ?_
  · unfold gRHead at h
    split at h
    · rename_i n j s a c rows
      have h1 := (cond_none h).1; replace h := (cond_none h).2; have h2 := (cond_none h).1; replace h := (cond_none h).2; have h3 := (cond_none h).1; replace h := (cond_none h).2; have h4 := (cond_none h).1; replace h := (cond_none h).2
      have h2 := ile_of h2
      have h3 : rows.length + (n - j).toNat ≤ 1000000 := ble_of h3
      refine loop_ind (E := eRHead) (f := 35) (id := 6) (σ := Int × RIn × List (List V)) (fun x => { fr := [(0, .ptr 0 0 0 0), (3, .int .i64 n), (4, .own 10000 0), (5, .int .i64 x.1)], tab := [(0, .var [.str x.2.1.s, .int .i64 x.2.1.at', .int .i64 x.2.1.code]), (10000, .sl [.str, .int .u8, .int .i64, .str] x.2.2 0)] })
        (fun x => 0 ≤ x.1 ∧ x.2.2.length + (n - x.1).toNat ≤ 1000000 ∧ N.goodR x.2.1 = true) (fun x => (n - x.1).toNat)
        (fun x K => K (.exit 0) { fr := [(0, .ptr 0 0 0 0), (4, .own 10000 0)], tab := [(0, .var [.str (N.rhl (n - x.1).toNat x.2.1 x.2.2).2.s, .int .i64 (N.rhl (n - x.1).toNat x.2.1 x.2.2).2.at', .int .i64 (N.rhl (n - x.1).toNat x.2.1 x.2.2).2.code]), (10000, .sl [.str, .int .u8, .int .i64, .str] (N.rhl (n - x.1).toNat x.2.1 x.2.2).1 0)] }) ?_ (j, ⟨s, a, c⟩, rows) ⟨ile_of h1, h3, h4⟩ K q (by assumption)
      rintro ⟨j, ⟨s, a, c⟩, rows⟩ ⟨hj, hr, h0⟩
      simp only at hj hr h0 ⊢
      by_cases hl : j < n
      · rw [show (n - j).toNat = (n - (j + 1)).toNat + 1 by omega]
        have h1 := good_text h0 16
        have h2 := good_num h1 1
        cases hz : c == 0 with
        | true =>
          refine .inl ⟨(j + 1, N.rBad (N.rOne ⟨s, a, c⟩).1 (rowsP rows) (N.rOne ⟨s, a, c⟩).2, rows ++ [cPair.enc (N.rOne ⟨s, a, c⟩).1]), ⟨by simp only; omega, by simp only [List.length_append, List.length_cons, List.length_nil]; omega, good_bad (good_one h0) _ _⟩, by simp only; omega, fun K => ?_, fun K => ?_⟩
          · rw [q_rHeadR]
            unfold N.rBad N.rOne N.rOneOf rowsP rowP
            simp (disch := omega) only [evs, h0, h1, h2, hz]
            generalize (N.rText ⟨s, a, c⟩ 16).1 = key
            generalize hq : (N.rNum (N.rText ⟨s, a, c⟩ 16).2 1) = kq at *
            obtain ⟨x, q⟩ := kq
            simp only
            generalize IntKind.wrap .u8 x = kind
            cases kind == 0 with
            | true => cases hc : (N.rNum q 8).2.code == 0 <;> simp only [cond_true, cond_false, hc] <;> rfl
            | false =>
              cases kind == 1 with
              | true => cases hc : (N.rText q 64).2.code == 0 <;> simp only [cond_true, cond_false, hc] <;> rfl
              | false =>
                cases kind == 2 with
                | true => cases hc : (N.rNum q 1).2.code == 0 <;> simp only [cond_true, cond_false, hc] <;> rfl
                | false => cases hc : (N.rFail q 8).code == 0 <;> simp only [cond_true, cond_false, hc] <;> rfl
          · simp only [N.rhl, hz, cond_true]
        | false =>
          refine .inr ⟨.exit 0, { fr := [(0, .ptr 0 0 0 0), (4, .own 10000 0)], tab := [(0, .var [.str s, .int .i64 a, .int .i64 c]), (10000, .sl [.str, .int .u8, .int .i64, .str] rows 0)] }, by simp, fun K => ?_, fun K => ?_⟩
          · rw [q_rHeadR]
            simp (disch := omega) only [evs, hz]
          · simp only [N.rhl, hz, cond_false]
      · refine .inr ⟨.exit 0, { fr := [(0, .ptr 0 0 0 0), (4, .own 10000 0)], tab := [(0, .var [.str s, .int .i64 a, .int .i64 c]), (10000, .sl [.str, .int .u8, .int .i64, .str] rows 0)] }, by simp, fun K => ?_, fun K => ?_⟩
        · rw [q_rHeadR]
          simp (disch := omega) only [evs]
        · rw [show (n - j).toNat = 0 by omega]; rfl
    · cases h
  · refine (q_rHead q).trans ?_
    have h : N.goodR q = true := h
    obtain ⟨b1, b2⟩ := rNum1 h
    have g1 := good_num h 1
    have g2 := good_fail g1 6
    have w : IntKind.wrap .i64 (N.rNum q 1).1 = (N.rNum q 1).1 := wrap_i64 (by omega) (by omega)
    show _ = some (⟨.slc [.str, .int .u8, .int .i64, .str] ((N.rHead q).1.map cPair.enc), [[.str (N.rHead q).2.s, .int .i64 (N.rHead q).2.at', .int .i64 (N.rHead q).2.code]], []⟩ : DRes)
    unfold N.rHead N.rRead
    rw [w]
    simp (disch := omega) only [evs, Int.sub_zero, Nat.zero_add, h, g1, g2]
    cases ilt 8 (N.rNum q 1).1 with
    | true =>
      have e1 := rhl_enc (N.rNum q 1).1.toNat (N.rFail (N.rNum q 1).2 6) []
      rw [List.map_nil] at e1
      rw [e1]
      simp only [cond_true]
      cases (N.rReadFrom (N.rNum q 1).1.toNat (N.rFail (N.rNum q 1).2 6) []).2.code != 0 <;> rfl
    | false =>
      have e1 := rhl_enc (N.rNum q 1).1.toNat (N.rNum q 1).2 []
      rw [List.map_nil] at e1
      rw [e1]
      simp only [cond_false]
      cases (N.rReadFrom (N.rNum q 1).1.toNat (N.rNum q 1).2 []).2.code != 0 <;> rfl
end Go.Ev

/- What the statement on same heads reckons: lemmas; the function that writes numbers is a premise. -/
namespace Go.Ev
open Go Go.Proofs
set_option maxRecDepth 100000

noncomputable def eAw4' : Env := env Tryd.prog [(11, dTrueW)] [] []
theorem q_aw4'  : evFn eAw4' 62 [] [] some =
 some { v := V.bool true, bx := [] : DRes } := by kernel_rfl
theorem ok_aw4' : FnOk Tryd.prog 62 dTrue := den_okF (env_ok ((TOk.nil _).cons ok_awW)) (E := eAw4') Tryd.func62 [] (by kernel_rfl) none0 fun _ _ _ => q_aw4'
noncomputable def eAw9 : Env := env Tryd.prog [(40, dHeadBytes), (49, dTrue), (62, dTrue)] [] []
theorem q_aw9  : evFn eAw9 29 [] [] some =
 some { v := V.bool true, bx := [] : DRes } := by kernel_rfl
theorem ok_aw9 (hN : FnOk Tryd.prog 72 dOutNum) : FnOk Tryd.prog 29 dTrue :=
  den_okF (env_ok ((((TOk.nil _).cons ok_aw4').cons (ok_aw1' hN)).cons (ok_headBytes hN))) (E := eAw9) Tryd.func29 [] (by kernel_rfl) none0 fun _ _ _ => q_aw9
noncomputable def eHSame : Env := env Tryd.prog [(63, dSameP)] [] []
theorem q_hsame (a b : List HPair) : evFn eHSame 31 ((aCons (vSl cPair) (aOne (vSl cPair))).enc (a, b)) ([]) some =
 cond (Nat.ble (List.length (List.map (fun r => { key := V.toStr (List.getD r (0 : Nat) V.undef), kind := V.toInt (List.getD r (1 : Nat) V.undef), num := V.toInt (List.getD r (2 : Nat) V.undef), text := V.toStr (List.getD r (3 : Nat) V.undef) : HPair }) (List.map (fun p => [V.str (HPair.key p), V.int IntKind.u8 (HPair.kind p), V.int IntKind.i64 (HPair.num p), V.str (HPair.text p)]) a))) (1000000 : Nat)) (some { v := V.bool (N.samePs (List.map (fun r => { key := V.toStr (List.getD r (0 : Nat) V.undef), kind := V.toInt (List.getD r (1 : Nat) V.undef), num := V.toInt (List.getD r (2 : Nat) V.undef), text := V.toStr (List.getD r (3 : Nat) V.undef) : HPair }) (List.map (fun p => [V.str (HPair.key p), V.int IntKind.u8 (HPair.kind p), V.int IntKind.i64 (HPair.num p), V.str (HPair.text p)]) a)) (List.map (fun r => { key := V.toStr (List.getD r (0 : Nat) V.undef), kind := V.toInt (List.getD r (1 : Nat) V.undef), num := V.toInt (List.getD r (2 : Nat) V.undef), text := V.toStr (List.getD r (3 : Nat) V.undef) : HPair }) (List.map (fun p => [V.str (HPair.key p), V.int IntKind.u8 (HPair.kind p), V.int IntKind.i64 (HPair.num p), V.str (HPair.text p)]) b))), bx := [] : DRes }) (none) := by kernel_rfl
theorem ok_hsame : FnOk Tryd.prog 31 dSameP := by
  refine den_okF (env_ok ((TOk.nil _).cons ok_eqP)) (E := eHSame) Tryd.func31 [] (by kernel_rfl) none0 fun a _ h => ?_
  obtain ⟨a, b⟩ := a
  have h : a.length ≤ 1000000 := ble_of h
  refine (q_hsame a b).trans ?_
  show _ = some (⟨.bool (N.samePs a b), [], []⟩ : DRes)
  simp (disch := omega) only [evs, pairs_enc]
noncomputable def eLHS : Env := env Tryd.prog [(29, dTrue), (30, dLight), (31, dSameP), (32, dSameP)] [] []
theorem q_lawHS (a b : List HPair) : evFn eLHS 8 ((aCons (vSl cPair) (aOne (vSl cPair))).enc (a, b)) ([]) some =
 cond (!N.light (List.map (fun r => { key := V.toStr (List.getD r (0 : Nat) V.undef), kind := V.toInt (List.getD r (1 : Nat) V.undef), num := V.toInt (List.getD r (2 : Nat) V.undef), text := V.toStr (List.getD r (3 : Nat) V.undef) : HPair }) (List.map (fun p => [V.str (HPair.key p), V.int IntKind.u8 (HPair.kind p), V.int IntKind.i64 (HPair.num p), V.str (HPair.text p)]) a))) (some { v := V.bool true, bx := [] : DRes }) (cond (!N.light (List.map (fun r => { key := V.toStr (List.getD r (0 : Nat) V.undef), kind := V.toInt (List.getD r (1 : Nat) V.undef), num := V.toInt (List.getD r (2 : Nat) V.undef), text := V.toStr (List.getD r (3 : Nat) V.undef) : HPair }) (List.map (fun p => [V.str (HPair.key p), V.int IntKind.u8 (HPair.kind p), V.int IntKind.i64 (HPair.num p), V.str (HPair.text p)]) b))) (some { v := V.bool true, bx := [] : DRes }) (cond (Nat.ble (List.length (List.map (fun r => { key := V.toStr (List.getD r (0 : Nat) V.undef), kind := V.toInt (List.getD r (1 : Nat) V.undef), num := V.toInt (List.getD r (2 : Nat) V.undef), text := V.toStr (List.getD r (3 : Nat) V.undef) : HPair }) (List.map (fun p => [V.str (HPair.key p), V.int IntKind.u8 (HPair.kind p), V.int IntKind.i64 (HPair.num p), V.str (HPair.text p)]) a))) (1000000 : Nat)) (cond (Nat.ble (List.length (List.map (fun r => { key := V.toStr (List.getD r (0 : Nat) V.undef), kind := V.toInt (List.getD r (1 : Nat) V.undef), num := V.toInt (List.getD r (2 : Nat) V.undef), text := V.toStr (List.getD r (3 : Nat) V.undef) : HPair }) (List.map (fun p => [V.str (HPair.key p), V.int IntKind.u8 (HPair.kind p), V.int IntKind.i64 (HPair.num p), V.str (HPair.text p)]) a))) (1000000 : Nat)) (cond (N.samePs (List.map (fun r => { key := V.toStr (List.getD r (0 : Nat) V.undef), kind := V.toInt (List.getD r (1 : Nat) V.undef), num := V.toInt (List.getD r (2 : Nat) V.undef), text := V.toStr (List.getD r (3 : Nat) V.undef) : HPair }) (List.map (fun p => [V.str (HPair.key p), V.int IntKind.u8 (HPair.kind p), V.int IntKind.i64 (HPair.num p), V.str (HPair.text p)]) a)) (List.map (fun r => { key := V.toStr (List.getD r (0 : Nat) V.undef), kind := V.toInt (List.getD r (1 : Nat) V.undef), num := V.toInt (List.getD r (2 : Nat) V.undef), text := V.toStr (List.getD r (3 : Nat) V.undef) : HPair }) (List.map (fun p => [V.str (HPair.key p), V.int IntKind.u8 (HPair.kind p), V.int IntKind.i64 (HPair.num p), V.str (HPair.text p)]) b)) == N.samePs (List.map (fun r => { key := V.toStr (List.getD r (0 : Nat) V.undef), kind := V.toInt (List.getD r (1 : Nat) V.undef), num := V.toInt (List.getD r (2 : Nat) V.undef), text := V.toStr (List.getD r (3 : Nat) V.undef) : HPair }) (List.map (fun p => [V.str (HPair.key p), V.int IntKind.u8 (HPair.kind p), V.int IntKind.i64 (HPair.num p), V.str (HPair.text p)]) a)) (List.map (fun r => { key := V.toStr (List.getD r (0 : Nat) V.undef), kind := V.toInt (List.getD r (1 : Nat) V.undef), num := V.toInt (List.getD r (2 : Nat) V.undef), text := V.toStr (List.getD r (3 : Nat) V.undef) : HPair }) (List.map (fun p => [V.str (HPair.key p), V.int IntKind.u8 (HPair.kind p), V.int IntKind.i64 (HPair.num p), V.str (HPair.text p)]) b))) (cond (Nat.ble (List.length (List.map (fun r => { key := V.toStr (List.getD r (0 : Nat) V.undef), kind := V.toInt (List.getD r (1 : Nat) V.undef), num := V.toInt (List.getD r (2 : Nat) V.undef), text := V.toStr (List.getD r (3 : Nat) V.undef) : HPair }) (List.map (fun p => [V.str (HPair.key p), V.int IntKind.u8 (HPair.kind p), V.int IntKind.i64 (HPair.num p), V.str (HPair.text p)]) a))) (1000000 : Nat)) (some { v := V.bool (N.samePs (List.map (fun r => { key := V.toStr (List.getD r (0 : Nat) V.undef), kind := V.toInt (List.getD r (1 : Nat) V.undef), num := V.toInt (List.getD r (2 : Nat) V.undef), text := V.toStr (List.getD r (3 : Nat) V.undef) : HPair }) (List.map (fun p => [V.str (HPair.key p), V.int IntKind.u8 (HPair.kind p), V.int IntKind.i64 (HPair.num p), V.str (HPair.text p)]) a)) (List.map (fun r => { key := V.toStr (List.getD r (0 : Nat) V.undef), kind := V.toInt (List.getD r (1 : Nat) V.undef), num := V.toInt (List.getD r (2 : Nat) V.undef), text := V.toStr (List.getD r (3 : Nat) V.undef) : HPair }) (List.map (fun p => [V.str (HPair.key p), V.int IntKind.u8 (HPair.kind p), V.int IntKind.i64 (HPair.num p), V.str (HPair.text p)]) a))), bx := [] : DRes }) (none)) (some { v := V.bool false, bx := [] : DRes })) (none)) (none))) := by kernel_rfl
theorem light_small {h : List HPair} (hl : N.light h = true) : h.length ≤ 12 := by
  unfold N.light at hl
  cases e : ilt 12 h.length with
  | true => rw [e] at hl; cases hl
  | false => have := ilt_nof e; omega
theorem ok_lawHS (hN : FnOk Tryd.prog 72 dOutNum) : FnOk Tryd.prog 8 (den (aCons (vSl cPair) (aOne (vSl cPair))) bNil (oV vBool) (fun _ _ => true) fun _ _ => (true, ())) := by
  refine den_okF (env_ok (((((TOk.nil _).cons ok_refSame).cons ok_hsame).cons ok_light).cons (ok_aw9 hN))) (E := eLHS) Tryd.func8 [] (by kernel_rfl) none0 fun a _ _ => ?_
  obtain ⟨a, b⟩ := a
  refine (q_lawHS a b).trans ?_
  show _ = some (⟨.bool true, [], []⟩ : DRes)
  simp (disch := omega) only [evs, pairs_enc, samePs_refl, beq_self_eq_true]
  cases h1 : N.light a with
  | false => rfl
  | true =>
    cases h2 : N.light b with
    | false => rfl
    | true =>
      have := light_small h1
      simp (disch := omega) only [evs, Bool.not_true]
end Go.Ev

/- What the statement on heads that are read reckons: lemmas; the function that writes numbers is a premise. -/
namespace Go.Ev
open Go Go.Proofs
set_option maxRecDepth 100000

noncomputable def eLHR : Env := env Tryd.prog [(29, dTrue), (33, dNew), (34, dHeadRead), (35, dRHead), (32, dSameP), (36, dInErr), (37, dInLeft), (38, dRLeft)] [] []
theorem q_lawHR (s : Bytes) : evFn eLHR 9 ((aOne vStr).enc s) ([]) some =
 cond (ilt (300 : Int) (↑(List.length s) : Int)) (some { v := V.bool true, bx := [] : DRes }) (cond (N.goodR { s := s, at' := (0 : Int), code := (0 : Int) : RIn }) (cond (Nat.ble (List.length (List.map (fun r => { key := V.toStr (List.getD r (0 : Nat) V.undef), kind := V.toInt (List.getD r (1 : Nat) V.undef), num := V.toInt (List.getD r (2 : Nat) V.undef), text := V.toStr (List.getD r (3 : Nat) V.undef) : HPair }) (List.map (fun p => [V.str (HPair.key p), V.int IntKind.u8 (HPair.kind p), V.int IntKind.i64 (HPair.num p), V.str (HPair.text p)]) (Prod.fst (N.headRead { s := s, err := (0 : Int) : InS }))))) (1000000 : Nat)) (cond (N.samePs (List.map (fun r => { key := V.toStr (List.getD r (0 : Nat) V.undef), kind := V.toInt (List.getD r (1 : Nat) V.undef), num := V.toInt (List.getD r (2 : Nat) V.undef), text := V.toStr (List.getD r (3 : Nat) V.undef) : HPair }) (List.map (fun p => [V.str (HPair.key p), V.int IntKind.u8 (HPair.kind p), V.int IntKind.i64 (HPair.num p), V.str (HPair.text p)]) (Prod.fst (N.headRead { s := s, err := (0 : Int) : InS })))) (List.map (fun r => { key := V.toStr (List.getD r (0 : Nat) V.undef), kind := V.toInt (List.getD r (1 : Nat) V.undef), num := V.toInt (List.getD r (2 : Nat) V.undef), text := V.toStr (List.getD r (3 : Nat) V.undef) : HPair }) (List.map (fun p => [V.str (HPair.key p), V.int IntKind.u8 (HPair.kind p), V.int IntKind.i64 (HPair.num p), V.str (HPair.text p)]) (Prod.fst (N.rHead { s := s, at' := (0 : Int), code := (0 : Int) : RIn }))))) (cond (InS.err (Prod.snd (N.headRead { s := s, err := (0 : Int) : InS })) == RIn.code (Prod.snd (N.rHead { s := s, at' := (0 : Int), code := (0 : Int) : RIn }))) (cond (N.goodR (Prod.snd (N.rHead { s := s, at' := (0 : Int), code := (0 : Int) : RIn }))) (some { v := V.bool (N.inLeft (Prod.snd (N.headRead { s := s, err := (0 : Int) : InS })) == N.rLeft (Prod.snd (N.rHead { s := s, at' := (0 : Int), code := (0 : Int) : RIn }))), bx := [] : DRes }) (none)) (some { v := V.bool false, bx := [] : DRes })) (some { v := V.bool false, bx := [] : DRes })) (none)) (none)) := by kernel_rfl
theorem headRead_len (i : InS) : (N.headRead i).1.length ≤ 255 := by
  obtain ⟨b1, b2⟩ := inNum1 i
  have w : IntKind.wrap .i64 (N.inNum i 1).1 = (N.inNum i 1).1 := wrap_i64 (by omega) (by omega)
  unfold N.headRead
  rw [w]
  have := readFrom_len (N.inNum i 1).1.toNat (cond (ilt 8 (N.inNum i 1).1) (N.inFail (N.inNum i 1).2 6) (N.inNum i 1).2) []
  rw [List.length_nil] at this
  omega
theorem ok_lawHR (hN : FnOk Tryd.prog 72 dOutNum) : FnOk Tryd.prog 9 (den (aOne vStr) bNil (oV vBool) (fun _ _ => true) fun _ _ => (true, ())) := by
  refine den_okF (env_ok (((((((((TOk.nil _).cons ok_rLeft).cons ok_inLeft).cons ok_inErr).cons ok_refSame).cons ok_rHead).cons ok_headRead).cons ok_new).cons (ok_aw9 hN))) (E := eLHR) Tryd.func9 [] (by kernel_rfl) none0 fun s _ _ => ?_
  refine (q_lawHR s).trans ?_
  show _ = some (⟨.bool true, [], []⟩ : DRes)
  by_cases hl : 300 < s.length
  · simp (disch := omega) only [evs]
  · obtain ⟨e1, e2⟩ := rl_read (rl_new s)
    have hs : s.length ≤ LIM := by have : LIM = 1000000 := rfl; omega
    have g0 : N.goodR ⟨s, 0, 0⟩ = true := rl_good (rl_new s) hs
    have g1 := rl_good e2 hs
    have hlen := headRead_len ⟨s, 0⟩
    have e3 := e2.2.2.2.1
    have e4 := rl_left e2
    rw [e1] at hlen
    simp (disch := omega) only [evs, pairs_enc, g0, g1, e1, e3, e4, samePs_refl, beq_self_eq_true]
end Go.Ev

/- What the statement on heads' bytes reckons: lemmas; the functions that write numbers are premises. -/
namespace Go.Ev
open Go Go.Proofs
set_option maxRecDepth 100000

/-- The search from behind. -/
def N.back (key : Bytes) (l : List HPair) : Nat → HPair × Bool → HPair × Bool
  | 0, w => w
  | k + 1, w => back key l k (cond ((l.getD k pair0).key == key) (l.getD k pair0, true) w)
def schLawHB : SSch := { fr := [(0, .slc [.str, .int .u8, .int .i64, .str]), (1, .str), (5, .int .i64), (6, .str), (8, .ptr 10000 0 0), (9, .bool), (10, .ptr 10001 0 0), (11, .bool), (12, .int .i64)], tab := [(10000, .var [.str, .int .u8, .int .i64, .str]), (10001, .var [.str, .int .u8, .int .i64, .str])] }
/-- The state behind the search. -/
def stHB (r0 : List (List V)) (i5 : Int) (s6 : Bytes) (b9 : Bool) (x : HPair) (w : HPair × Bool) : St := { fr := [(0, .slc [.str, .int .u8, .int .i64, .str] r0), (5, .int .i64 i5), (6, .str s6), (8, .ptr 10000 0 0 0), (9, .bool b9), (10, .ptr 10001 0 0 0), (11, .bool w.2)], tab := [(10000, .var [.str x.key, .int .u8 x.kind, .int .i64 x.num, .str x.text]), (10001, .var [.str w.1.key, .int .u8 w.1.kind, .int .i64 w.1.num, .str w.1.text])] }
def gLawHB : List Leaf → (Ex → St → Option R) → Option R
  | [.r r0, .s s1, .i i5, .s s6, .b b9, .b b11, .i i12, .s sx0, .i ix0, .i ix0_1, .s sx0_1, .s sx1, .i ix1, .i ix1_1, .s sx1_1], K => cond (ile (-1) i12) (cond (ilt i12 r0.length) (cond (Nat.ble r0.length LIM)
      (K (.exit 0) (stHB r0 i5 s6 b9 ⟨sx0, ix0, ix0_1, sx0_1⟩ (N.back s1 (rowsP r0) (i12 + 1).toNat (⟨sx1, ix1, ix1_1, sx1_1⟩, b11)))) none) none) none
  | _, _ => none
noncomputable def eLawHB : Env := env Tryd.prog [(29, dTrue), (30, dLight), (39, dHeadCheck), (40, dHeadBytes), (41, dHeadCheck), (42, dFind), (33, dNew), (43, dRefBytes), (34, dHeadRead), (32, dSameP), (44, dInEnd)] [(12, loopF schLawHB gLawHB)] [(12, [(0, [0, 1, 5, 6, 8, 9, 10, 11, 12]), (1, [0, 5, 6, 8, 9, 10, 11]), (1000, [4])])]
theorem q_lawHB (h : List HPair) (key : Bytes) : evFn eLawHB 10 (((aCons (vSl cPair) (aOne vStr)).enc (h, key))) ([]) some =
 cond (!N.light (List.map (fun r => { key := V.toStr (List.getD r (0 : Nat) V.undef), kind := V.toInt (List.getD r (1 : Nat) V.undef), num := V.toInt (List.getD r (2 : Nat) V.undef), text := V.toStr (List.getD r (3 : Nat) V.undef) : HPair }) (List.map (fun p => [V.str (HPair.key p), V.int IntKind.u8 (HPair.kind p), V.int IntKind.i64 (HPair.num p), V.str (HPair.text p)]) h))) (some { v := V.bool true, bx := [] : DRes }) (cond (ilt (40 : Int) (↑(List.length key) : Int)) (some { v := V.bool true, bx := [] : DRes }) (cond (N.headCheck (List.map (fun r => { key := V.toStr (List.getD r (0 : Nat) V.undef), kind := V.toInt (List.getD r (1 : Nat) V.undef), num := V.toInt (List.getD r (2 : Nat) V.undef), text := V.toStr (List.getD r (3 : Nat) V.undef) : HPair }) (List.map (fun p => [V.str (HPair.key p), V.int IntKind.u8 (HPair.kind p), V.int IntKind.i64 (HPair.num p), V.str (HPair.text p)]) h)) != N.headCheck (List.map (fun r => { key := V.toStr (List.getD r (0 : Nat) V.undef), kind := V.toInt (List.getD r (1 : Nat) V.undef), num := V.toInt (List.getD r (2 : Nat) V.undef), text := V.toStr (List.getD r (3 : Nat) V.undef) : HPair }) (List.map (fun p => [V.str (HPair.key p), V.int IntKind.u8 (HPair.kind p), V.int IntKind.i64 (HPair.num p), V.str (HPair.text p)]) h))) (some { v := V.bool false, bx := [] : DRes }) (cond (Prod.snd (bif N.headCheck (List.map (fun r => { key := V.toStr (List.getD r (0 : Nat) V.undef), kind := V.toInt (List.getD r (1 : Nat) V.undef), num := V.toInt (List.getD r (2 : Nat) V.undef), text := V.toStr (List.getD r (3 : Nat) V.undef) : HPair }) (List.map (fun p => [V.str (HPair.key p), V.int IntKind.u8 (HPair.kind p), V.int IntKind.i64 (HPair.num p), V.str (HPair.text p)]) h)) != (0 : Int) then ([], N.headCheck (List.map (fun r => { key := V.toStr (List.getD r (0 : Nat) V.undef), kind := V.toInt (List.getD r (1 : Nat) V.undef), num := V.toInt (List.getD r (2 : Nat) V.undef), text := V.toStr (List.getD r (3 : Nat) V.undef) : HPair }) (List.map (fun p => [V.str (HPair.key p), V.int IntKind.u8 (HPair.kind p), V.int IntKind.i64 (HPair.num p), V.str (HPair.text p)]) h))) else (N.headBytes (List.map (fun r => { key := V.toStr (List.getD r (0 : Nat) V.undef), kind := V.toInt (List.getD r (1 : Nat) V.undef), num := V.toInt (List.getD r (2 : Nat) V.undef), text := V.toStr (List.getD r (3 : Nat) V.undef) : HPair }) (List.map (fun p => [V.str (HPair.key p), V.int IntKind.u8 (HPair.kind p), V.int IntKind.i64 (HPair.num p), V.str (HPair.text p)]) h)), (0 : Int))) != N.headCheck (List.map (fun r => { key := V.toStr (List.getD r (0 : Nat) V.undef), kind := V.toInt (List.getD r (1 : Nat) V.undef), num := V.toInt (List.getD r (2 : Nat) V.undef), text := V.toStr (List.getD r (3 : Nat) V.undef) : HPair }) (List.map (fun p => [V.str (HPair.key p), V.int IntKind.u8 (HPair.kind p), V.int IntKind.i64 (HPair.num p), V.str (HPair.text p)]) h))) (some { v := V.bool false, bx := [] : DRes }) (cond (Nat.ble (List.length (List.map (fun r => { key := V.toStr (List.getD r (0 : Nat) V.undef), kind := V.toInt (List.getD r (1 : Nat) V.undef), num := V.toInt (List.getD r (2 : Nat) V.undef), text := V.toStr (List.getD r (3 : Nat) V.undef) : HPair }) (List.map (fun p => [V.str (HPair.key p), V.int IntKind.u8 (HPair.kind p), V.int IntKind.i64 (HPair.num p), V.str (HPair.text p)]) h))) (1000000 : Nat)) (cond (ile (-1 : Int) (IntKind.wrap IntKind.i64 ((↑(List.length (List.map (fun p => [V.str (HPair.key p), V.int IntKind.u8 (HPair.kind p), V.int IntKind.i64 (HPair.num p), V.str (HPair.text p)]) h)) : Int) - (1 : Int)))) (cond (ilt (IntKind.wrap IntKind.i64 ((↑(List.length (List.map (fun p => [V.str (HPair.key p), V.int IntKind.u8 (HPair.kind p), V.int IntKind.i64 (HPair.num p), V.str (HPair.text p)]) h)) : Int) - (1 : Int))) (↑(List.length (List.map (fun p => [V.str (HPair.key p), V.int IntKind.u8 (HPair.kind p), V.int IntKind.i64 (HPair.num p), V.str (HPair.text p)]) h)) : Int)) (cond (Nat.ble (List.length (List.map (fun p => [V.str (HPair.key p), V.int IntKind.u8 (HPair.kind p), V.int IntKind.i64 (HPair.num p), V.str (HPair.text p)]) h)) (1000000 : Nat)) (cond (!(HPair.key (Prod.fst (N.find (List.map (fun r => { key := V.toStr (List.getD r (0 : Nat) V.undef), kind := V.toInt (List.getD r (1 : Nat) V.undef), num := V.toInt (List.getD r (2 : Nat) V.undef), text := V.toStr (List.getD r (3 : Nat) V.undef) : HPair }) (List.map (fun p => [V.str (HPair.key p), V.int IntKind.u8 (HPair.kind p), V.int IntKind.i64 (HPair.num p), V.str (HPair.text p)]) h)) key)) == HPair.key (Prod.fst (N.back key (List.map (fun r => { key := V.toStr (List.getD r (0 : Nat) V.undef), kind := V.toInt (List.getD r (1 : Nat) V.undef), num := V.toInt (List.getD r (2 : Nat) V.undef), text := V.toStr (List.getD r (3 : Nat) V.undef) : HPair }) (List.map (fun p => [V.str (HPair.key p), V.int IntKind.u8 (HPair.kind p), V.int IntKind.i64 (HPair.num p), V.str (HPair.text p)]) h)) (Int.toNat (IntKind.wrap IntKind.i64 ((↑(List.length (List.map (fun p => [V.str (HPair.key p), V.int IntKind.u8 (HPair.kind p), V.int IntKind.i64 (HPair.num p), V.str (HPair.text p)]) h)) : Int) - (1 : Int)) + (1 : Int))) ({ key := [], kind := (0 : Int), num := (0 : Int), text := [] : HPair }, false))) && (HPair.kind (Prod.fst (N.find (List.map (fun r => { key := V.toStr (List.getD r (0 : Nat) V.undef), kind := V.toInt (List.getD r (1 : Nat) V.undef), num := V.toInt (List.getD r (2 : Nat) V.undef), text := V.toStr (List.getD r (3 : Nat) V.undef) : HPair }) (List.map (fun p => [V.str (HPair.key p), V.int IntKind.u8 (HPair.kind p), V.int IntKind.i64 (HPair.num p), V.str (HPair.text p)]) h)) key)) == HPair.kind (Prod.fst (N.back key (List.map (fun r => { key := V.toStr (List.getD r (0 : Nat) V.undef), kind := V.toInt (List.getD r (1 : Nat) V.undef), num := V.toInt (List.getD r (2 : Nat) V.undef), text := V.toStr (List.getD r (3 : Nat) V.undef) : HPair }) (List.map (fun p => [V.str (HPair.key p), V.int IntKind.u8 (HPair.kind p), V.int IntKind.i64 (HPair.num p), V.str (HPair.text p)]) h)) (Int.toNat (IntKind.wrap IntKind.i64 ((↑(List.length (List.map (fun p => [V.str (HPair.key p), V.int IntKind.u8 (HPair.kind p), V.int IntKind.i64 (HPair.num p), V.str (HPair.text p)]) h)) : Int) - (1 : Int)) + (1 : Int))) ({ key := [], kind := (0 : Int), num := (0 : Int), text := [] : HPair }, false))) && (HPair.num (Prod.fst (N.find (List.map (fun r => { key := V.toStr (List.getD r (0 : Nat) V.undef), kind := V.toInt (List.getD r (1 : Nat) V.undef), num := V.toInt (List.getD r (2 : Nat) V.undef), text := V.toStr (List.getD r (3 : Nat) V.undef) : HPair }) (List.map (fun p => [V.str (HPair.key p), V.int IntKind.u8 (HPair.kind p), V.int IntKind.i64 (HPair.num p), V.str (HPair.text p)]) h)) key)) == HPair.num (Prod.fst (N.back key (List.map (fun r => { key := V.toStr (List.getD r (0 : Nat) V.undef), kind := V.toInt (List.getD r (1 : Nat) V.undef), num := V.toInt (List.getD r (2 : Nat) V.undef), text := V.toStr (List.getD r (3 : Nat) V.undef) : HPair }) (List.map (fun p => [V.str (HPair.key p), V.int IntKind.u8 (HPair.kind p), V.int IntKind.i64 (HPair.num p), V.str (HPair.text p)]) h)) (Int.toNat (IntKind.wrap IntKind.i64 ((↑(List.length (List.map (fun p => [V.str (HPair.key p), V.int IntKind.u8 (HPair.kind p), V.int IntKind.i64 (HPair.num p), V.str (HPair.text p)]) h)) : Int) - (1 : Int)) + (1 : Int))) ({ key := [], kind := (0 : Int), num := (0 : Int), text := [] : HPair }, false))) && (HPair.text (Prod.fst (N.find (List.map (fun r => { key := V.toStr (List.getD r (0 : Nat) V.undef), kind := V.toInt (List.getD r (1 : Nat) V.undef), num := V.toInt (List.getD r (2 : Nat) V.undef), text := V.toStr (List.getD r (3 : Nat) V.undef) : HPair }) (List.map (fun p => [V.str (HPair.key p), V.int IntKind.u8 (HPair.kind p), V.int IntKind.i64 (HPair.num p), V.str (HPair.text p)]) h)) key)) == HPair.text (Prod.fst (N.back key (List.map (fun r => { key := V.toStr (List.getD r (0 : Nat) V.undef), kind := V.toInt (List.getD r (1 : Nat) V.undef), num := V.toInt (List.getD r (2 : Nat) V.undef), text := V.toStr (List.getD r (3 : Nat) V.undef) : HPair }) (List.map (fun p => [V.str (HPair.key p), V.int IntKind.u8 (HPair.kind p), V.int IntKind.i64 (HPair.num p), V.str (HPair.text p)]) h)) (Int.toNat (IntKind.wrap IntKind.i64 ((↑(List.length (List.map (fun p => [V.str (HPair.key p), V.int IntKind.u8 (HPair.kind p), V.int IntKind.i64 (HPair.num p), V.str (HPair.text p)]) h)) : Int) - (1 : Int)) + (1 : Int))) ({ key := [], kind := (0 : Int), num := (0 : Int), text := [] : HPair }, false))) && true))))) (some { v := V.bool false, bx := [] : DRes }) (cond (!Prod.snd (N.find (List.map (fun r => { key := V.toStr (List.getD r (0 : Nat) V.undef), kind := V.toInt (List.getD r (1 : Nat) V.undef), num := V.toInt (List.getD r (2 : Nat) V.undef), text := V.toStr (List.getD r (3 : Nat) V.undef) : HPair }) (List.map (fun p => [V.str (HPair.key p), V.int IntKind.u8 (HPair.kind p), V.int IntKind.i64 (HPair.num p), V.str (HPair.text p)]) h)) key) == Prod.snd (N.back key (List.map (fun r => { key := V.toStr (List.getD r (0 : Nat) V.undef), kind := V.toInt (List.getD r (1 : Nat) V.undef), num := V.toInt (List.getD r (2 : Nat) V.undef), text := V.toStr (List.getD r (3 : Nat) V.undef) : HPair }) (List.map (fun p => [V.str (HPair.key p), V.int IntKind.u8 (HPair.kind p), V.int IntKind.i64 (HPair.num p), V.str (HPair.text p)]) h)) (Int.toNat (IntKind.wrap IntKind.i64 ((↑(List.length (List.map (fun p => [V.str (HPair.key p), V.int IntKind.u8 (HPair.kind p), V.int IntKind.i64 (HPair.num p), V.str (HPair.text p)]) h)) : Int) - (1 : Int)) + (1 : Int))) ({ key := [], kind := (0 : Int), num := (0 : Int), text := [] : HPair }, false))) (some { v := V.bool false, bx := [] : DRes }) (cond (N.headCheck (List.map (fun r => { key := V.toStr (List.getD r (0 : Nat) V.undef), kind := V.toInt (List.getD r (1 : Nat) V.undef), num := V.toInt (List.getD r (2 : Nat) V.undef), text := V.toStr (List.getD r (3 : Nat) V.undef) : HPair }) (List.map (fun p => [V.str (HPair.key p), V.int IntKind.u8 (HPair.kind p), V.int IntKind.i64 (HPair.num p), V.str (HPair.text p)]) h)) != (0 : Int)) (some { v := V.bool (Prod.fst (bif N.headCheck (List.map (fun r => { key := V.toStr (List.getD r (0 : Nat) V.undef), kind := V.toInt (List.getD r (1 : Nat) V.undef), num := V.toInt (List.getD r (2 : Nat) V.undef), text := V.toStr (List.getD r (3 : Nat) V.undef) : HPair }) (List.map (fun p => [V.str (HPair.key p), V.int IntKind.u8 (HPair.kind p), V.int IntKind.i64 (HPair.num p), V.str (HPair.text p)]) h)) != (0 : Int) then ([], N.headCheck (List.map (fun r => { key := V.toStr (List.getD r (0 : Nat) V.undef), kind := V.toInt (List.getD r (1 : Nat) V.undef), num := V.toInt (List.getD r (2 : Nat) V.undef), text := V.toStr (List.getD r (3 : Nat) V.undef) : HPair }) (List.map (fun p => [V.str (HPair.key p), V.int IntKind.u8 (HPair.kind p), V.int IntKind.i64 (HPair.num p), V.str (HPair.text p)]) h))) else (N.headBytes (List.map (fun r => { key := V.toStr (List.getD r (0 : Nat) V.undef), kind := V.toInt (List.getD r (1 : Nat) V.undef), num := V.toInt (List.getD r (2 : Nat) V.undef), text := V.toStr (List.getD r (3 : Nat) V.undef) : HPair }) (List.map (fun p => [V.str (HPair.key p), V.int IntKind.u8 (HPair.kind p), V.int IntKind.i64 (HPair.num p), V.str (HPair.text p)]) h)), (0 : Int))) == []), bx := [] : DRes }) (cond (bif Nat.ble (List.length (List.map (fun r => { key := V.toStr (List.getD r (0 : Nat) V.undef), kind := V.toInt (List.getD r (1 : Nat) V.undef), num := V.toInt (List.getD r (2 : Nat) V.undef), text := V.toStr (List.getD r (3 : Nat) V.undef) : HPair }) (List.map (fun p => [V.str (HPair.key p), V.int IntKind.u8 (HPair.kind p), V.int IntKind.i64 (HPair.num p), V.str (HPair.text p)]) h))) (8 : Nat) then List.all (List.map (fun r => { key := V.toStr (List.getD r (0 : Nat) V.undef), kind := V.toInt (List.getD r (1 : Nat) V.undef), num := V.toInt (List.getD r (2 : Nat) V.undef), text := V.toStr (List.getD r (3 : Nat) V.undef) : HPair }) (List.map (fun p => [V.str (HPair.key p), V.int IntKind.u8 (HPair.kind p), V.int IntKind.i64 (HPair.num p), V.str (HPair.text p)]) h)) N.fitP else false) (cond (Prod.fst (bif N.headCheck (List.map (fun r => { key := V.toStr (List.getD r (0 : Nat) V.undef), kind := V.toInt (List.getD r (1 : Nat) V.undef), num := V.toInt (List.getD r (2 : Nat) V.undef), text := V.toStr (List.getD r (3 : Nat) V.undef) : HPair }) (List.map (fun p => [V.str (HPair.key p), V.int IntKind.u8 (HPair.kind p), V.int IntKind.i64 (HPair.num p), V.str (HPair.text p)]) h)) != (0 : Int) then ([], N.headCheck (List.map (fun r => { key := V.toStr (List.getD r (0 : Nat) V.undef), kind := V.toInt (List.getD r (1 : Nat) V.undef), num := V.toInt (List.getD r (2 : Nat) V.undef), text := V.toStr (List.getD r (3 : Nat) V.undef) : HPair }) (List.map (fun p => [V.str (HPair.key p), V.int IntKind.u8 (HPair.kind p), V.int IntKind.i64 (HPair.num p), V.str (HPair.text p)]) h))) else (N.headBytes (List.map (fun r => { key := V.toStr (List.getD r (0 : Nat) V.undef), kind := V.toInt (List.getD r (1 : Nat) V.undef), num := V.toInt (List.getD r (2 : Nat) V.undef), text := V.toStr (List.getD r (3 : Nat) V.undef) : HPair }) (List.map (fun p => [V.str (HPair.key p), V.int IntKind.u8 (HPair.kind p), V.int IntKind.i64 (HPair.num p), V.str (HPair.text p)]) h)), (0 : Int))) == N.refHeadBytes (List.map (fun r => { key := V.toStr (List.getD r (0 : Nat) V.undef), kind := V.toInt (List.getD r (1 : Nat) V.undef), num := V.toInt (List.getD r (2 : Nat) V.undef), text := V.toStr (List.getD r (3 : Nat) V.undef) : HPair }) (List.map (fun p => [V.str (HPair.key p), V.int IntKind.u8 (HPair.kind p), V.int IntKind.i64 (HPair.num p), V.str (HPair.text p)]) h))) (cond (Nat.ble (List.length (List.map (fun r => { key := V.toStr (List.getD r (0 : Nat) V.undef), kind := V.toInt (List.getD r (1 : Nat) V.undef), num := V.toInt (List.getD r (2 : Nat) V.undef), text := V.toStr (List.getD r (3 : Nat) V.undef) : HPair }) (List.map (fun p => [V.str (HPair.key p), V.int IntKind.u8 (HPair.kind p), V.int IntKind.i64 (HPair.num p), V.str (HPair.text p)]) (Prod.fst (N.headRead { s := Prod.fst (bif N.headCheck (List.map (fun r => { key := V.toStr (List.getD r (0 : Nat) V.undef), kind := V.toInt (List.getD r (1 : Nat) V.undef), num := V.toInt (List.getD r (2 : Nat) V.undef), text := V.toStr (List.getD r (3 : Nat) V.undef) : HPair }) (List.map (fun p => [V.str (HPair.key p), V.int IntKind.u8 (HPair.kind p), V.int IntKind.i64 (HPair.num p), V.str (HPair.text p)]) h)) != (0 : Int) then ([], N.headCheck (List.map (fun r => { key := V.toStr (List.getD r (0 : Nat) V.undef), kind := V.toInt (List.getD r (1 : Nat) V.undef), num := V.toInt (List.getD r (2 : Nat) V.undef), text := V.toStr (List.getD r (3 : Nat) V.undef) : HPair }) (List.map (fun p => [V.str (HPair.key p), V.int IntKind.u8 (HPair.kind p), V.int IntKind.i64 (HPair.num p), V.str (HPair.text p)]) h))) else (N.headBytes (List.map (fun r => { key := V.toStr (List.getD r (0 : Nat) V.undef), kind := V.toInt (List.getD r (1 : Nat) V.undef), num := V.toInt (List.getD r (2 : Nat) V.undef), text := V.toStr (List.getD r (3 : Nat) V.undef) : HPair }) (List.map (fun p => [V.str (HPair.key p), V.int IntKind.u8 (HPair.kind p), V.int IntKind.i64 (HPair.num p), V.str (HPair.text p)]) h)), (0 : Int))), err := (0 : Int) : InS }))))) (1000000 : Nat)) (cond (N.samePs (List.map (fun r => { key := V.toStr (List.getD r (0 : Nat) V.undef), kind := V.toInt (List.getD r (1 : Nat) V.undef), num := V.toInt (List.getD r (2 : Nat) V.undef), text := V.toStr (List.getD r (3 : Nat) V.undef) : HPair }) (List.map (fun p => [V.str (HPair.key p), V.int IntKind.u8 (HPair.kind p), V.int IntKind.i64 (HPair.num p), V.str (HPair.text p)]) (Prod.fst (N.headRead { s := Prod.fst (bif N.headCheck (List.map (fun r => { key := V.toStr (List.getD r (0 : Nat) V.undef), kind := V.toInt (List.getD r (1 : Nat) V.undef), num := V.toInt (List.getD r (2 : Nat) V.undef), text := V.toStr (List.getD r (3 : Nat) V.undef) : HPair }) (List.map (fun p => [V.str (HPair.key p), V.int IntKind.u8 (HPair.kind p), V.int IntKind.i64 (HPair.num p), V.str (HPair.text p)]) h)) != (0 : Int) then ([], N.headCheck (List.map (fun r => { key := V.toStr (List.getD r (0 : Nat) V.undef), kind := V.toInt (List.getD r (1 : Nat) V.undef), num := V.toInt (List.getD r (2 : Nat) V.undef), text := V.toStr (List.getD r (3 : Nat) V.undef) : HPair }) (List.map (fun p => [V.str (HPair.key p), V.int IntKind.u8 (HPair.kind p), V.int IntKind.i64 (HPair.num p), V.str (HPair.text p)]) h))) else (N.headBytes (List.map (fun r => { key := V.toStr (List.getD r (0 : Nat) V.undef), kind := V.toInt (List.getD r (1 : Nat) V.undef), num := V.toInt (List.getD r (2 : Nat) V.undef), text := V.toStr (List.getD r (3 : Nat) V.undef) : HPair }) (List.map (fun p => [V.str (HPair.key p), V.int IntKind.u8 (HPair.kind p), V.int IntKind.i64 (HPair.num p), V.str (HPair.text p)]) h)), (0 : Int))), err := (0 : Int) : InS })))) (List.map (fun r => { key := V.toStr (List.getD r (0 : Nat) V.undef), kind := V.toInt (List.getD r (1 : Nat) V.undef), num := V.toInt (List.getD r (2 : Nat) V.undef), text := V.toStr (List.getD r (3 : Nat) V.undef) : HPair }) (List.map (fun p => [V.str (HPair.key p), V.int IntKind.u8 (HPair.kind p), V.int IntKind.i64 (HPair.num p), V.str (HPair.text p)]) h))) (some { v := V.bool ((bif InS.err (Prod.snd (N.headRead { s := Prod.fst (bif N.headCheck (List.map (fun r => { key := V.toStr (List.getD r (0 : Nat) V.undef), kind := V.toInt (List.getD r (1 : Nat) V.undef), num := V.toInt (List.getD r (2 : Nat) V.undef), text := V.toStr (List.getD r (3 : Nat) V.undef) : HPair }) (List.map (fun p => [V.str (HPair.key p), V.int IntKind.u8 (HPair.kind p), V.int IntKind.i64 (HPair.num p), V.str (HPair.text p)]) h)) != (0 : Int) then ([], N.headCheck (List.map (fun r => { key := V.toStr (List.getD r (0 : Nat) V.undef), kind := V.toInt (List.getD r (1 : Nat) V.undef), num := V.toInt (List.getD r (2 : Nat) V.undef), text := V.toStr (List.getD r (3 : Nat) V.undef) : HPair }) (List.map (fun p => [V.str (HPair.key p), V.int IntKind.u8 (HPair.kind p), V.int IntKind.i64 (HPair.num p), V.str (HPair.text p)]) h))) else (N.headBytes (List.map (fun r => { key := V.toStr (List.getD r (0 : Nat) V.undef), kind := V.toInt (List.getD r (1 : Nat) V.undef), num := V.toInt (List.getD r (2 : Nat) V.undef), text := V.toStr (List.getD r (3 : Nat) V.undef) : HPair }) (List.map (fun p => [V.str (HPair.key p), V.int IntKind.u8 (HPair.kind p), V.int IntKind.i64 (HPair.num p), V.str (HPair.text p)]) h)), (0 : Int))), err := (0 : Int) : InS })) == (0 : Int) then bif ilt (0 : Int) (↑(List.length (InS.s (Prod.snd (N.headRead { s := Prod.fst (bif N.headCheck (List.map (fun r => { key := V.toStr (List.getD r (0 : Nat) V.undef), kind := V.toInt (List.getD r (1 : Nat) V.undef), num := V.toInt (List.getD r (2 : Nat) V.undef), text := V.toStr (List.getD r (3 : Nat) V.undef) : HPair }) (List.map (fun p => [V.str (HPair.key p), V.int IntKind.u8 (HPair.kind p), V.int IntKind.i64 (HPair.num p), V.str (HPair.text p)]) h)) != (0 : Int) then ([], N.headCheck (List.map (fun r => { key := V.toStr (List.getD r (0 : Nat) V.undef), kind := V.toInt (List.getD r (1 : Nat) V.undef), num := V.toInt (List.getD r (2 : Nat) V.undef), text := V.toStr (List.getD r (3 : Nat) V.undef) : HPair }) (List.map (fun p => [V.str (HPair.key p), V.int IntKind.u8 (HPair.kind p), V.int IntKind.i64 (HPair.num p), V.str (HPair.text p)]) h))) else (N.headBytes (List.map (fun r => { key := V.toStr (List.getD r (0 : Nat) V.undef), kind := V.toInt (List.getD r (1 : Nat) V.undef), num := V.toInt (List.getD r (2 : Nat) V.undef), text := V.toStr (List.getD r (3 : Nat) V.undef) : HPair }) (List.map (fun p => [V.str (HPair.key p), V.int IntKind.u8 (HPair.kind p), V.int IntKind.i64 (HPair.num p), V.str (HPair.text p)]) h)), (0 : Int))), err := (0 : Int) : InS })))) : Int) then (4 : Int) else (0 : Int) else InS.err (Prod.snd (N.headRead { s := Prod.fst (bif N.headCheck (List.map (fun r => { key := V.toStr (List.getD r (0 : Nat) V.undef), kind := V.toInt (List.getD r (1 : Nat) V.undef), num := V.toInt (List.getD r (2 : Nat) V.undef), text := V.toStr (List.getD r (3 : Nat) V.undef) : HPair }) (List.map (fun p => [V.str (HPair.key p), V.int IntKind.u8 (HPair.kind p), V.int IntKind.i64 (HPair.num p), V.str (HPair.text p)]) h)) != (0 : Int) then ([], N.headCheck (List.map (fun r => { key := V.toStr (List.getD r (0 : Nat) V.undef), kind := V.toInt (List.getD r (1 : Nat) V.undef), num := V.toInt (List.getD r (2 : Nat) V.undef), text := V.toStr (List.getD r (3 : Nat) V.undef) : HPair }) (List.map (fun p => [V.str (HPair.key p), V.int IntKind.u8 (HPair.kind p), V.int IntKind.i64 (HPair.num p), V.str (HPair.text p)]) h))) else (N.headBytes (List.map (fun r => { key := V.toStr (List.getD r (0 : Nat) V.undef), kind := V.toInt (List.getD r (1 : Nat) V.undef), num := V.toInt (List.getD r (2 : Nat) V.undef), text := V.toStr (List.getD r (3 : Nat) V.undef) : HPair }) (List.map (fun p => [V.str (HPair.key p), V.int IntKind.u8 (HPair.kind p), V.int IntKind.i64 (HPair.num p), V.str (HPair.text p)]) h)), (0 : Int))), err := (0 : Int) : InS }))) == (0 : Int)), bx := [] : DRes }) (some { v := V.bool false, bx := [] : DRes })) (none)) (some { v := V.bool false, bx := [] : DRes })) (none))))) (none)) (none)) (none)) (none))))) := by kernel_rfl
theorem q_lawHBR (r0 : List (List V)) (s1 : Bytes) (i5 : Int) (s6 : Bytes) (b9 : Bool) (b11 : Bool) (i12 : Int) (sx0 : Bytes) (ix0 : Int) (ix0_1 : Int) (sx0_1 : Bytes) (sx1 : Bytes) (ix1 : Int) (ix1_1 : Int) (sx1_1 : Bytes) (K : Ex → St → Option R) : evRound eLawHB 10 12 { fr := [(0, .slc [.str, .int .u8, .int .i64, .str] r0), (1, .str s1), (5, .int .i64 i5), (6, .str s6), (8, .ptr 10000 0 0 0), (9, .bool b9), (10, .ptr 10001 0 0 0), (11, .bool b11), (12, .int .i64 i12)], tab := [(10000, .var [.str sx0, .int .u8 ix0, .int .i64 ix0_1, .str sx0_1]), (10001, .var [.str sx1, .int .u8 ix1, .int .i64 ix1_1, .str sx1_1])] } K =
 cond (ile (0 : Int) i12) (cond (decide ((0 : Int) ≤ i12 ∧ i12 < (↑(List.length r0) : Int))) (cond (V.toStr (List.getD (List.getD r0 (Int.toNat i12) []) (0 : Nat) V.undef) == s1) (cond (decide ((0 : Int) ≤ i12 ∧ i12 < (↑(List.length r0) : Int))) (K Ex.normal { fr := [((0 : Nat), V.slc [Sh.str, Sh.int IntKind.u8, Sh.int IntKind.i64, Sh.str] r0), ((1 : Nat), V.str s1), ((5 : Nat), V.int IntKind.i64 i5), ((6 : Nat), V.str s6), ((8 : Nat), V.ptr (10000 : Nat) (0 : Nat) (0 : Nat) (0 : Nat)), ((9 : Nat), V.bool b9), ((10 : Nat), V.ptr (10001 : Nat) (0 : Nat) (0 : Nat) (0 : Nat)), ((11 : Nat), V.bool true), ((12 : Nat), V.int IntKind.i64 (IntKind.wrap IntKind.i64 (i12 - (1 : Int))))], tab := [((10000 : Nat), Box.var [V.str sx0, V.int IntKind.u8 ix0, V.int IntKind.i64 ix0_1, V.str sx0_1]), ((10001 : Nat), Box.var [V.str (V.toStr (List.getD (List.getD r0 (Int.toNat i12) []) (0 : Nat) V.undef)), V.int IntKind.u8 (V.toInt (List.getD (List.getD r0 (Int.toNat i12) []) (1 : Nat) V.undef)), V.int IntKind.i64 (V.toInt (List.getD (List.getD r0 (Int.toNat i12) []) (2 : Nat) V.undef)), V.str (V.toStr (List.getD (List.getD r0 (Int.toNat i12) []) (3 : Nat) V.undef))])] : St }) (none)) (K Ex.normal { fr := [((0 : Nat), V.slc [Sh.str, Sh.int IntKind.u8, Sh.int IntKind.i64, Sh.str] r0), ((1 : Nat), V.str s1), ((5 : Nat), V.int IntKind.i64 i5), ((6 : Nat), V.str s6), ((8 : Nat), V.ptr (10000 : Nat) (0 : Nat) (0 : Nat) (0 : Nat)), ((9 : Nat), V.bool b9), ((10 : Nat), V.ptr (10001 : Nat) (0 : Nat) (0 : Nat) (0 : Nat)), ((11 : Nat), V.bool b11), ((12 : Nat), V.int IntKind.i64 (IntKind.wrap IntKind.i64 (i12 - (1 : Int))))], tab := [((10000 : Nat), Box.var [V.str sx0, V.int IntKind.u8 ix0, V.int IntKind.i64 ix0_1, V.str sx0_1]), ((10001 : Nat), Box.var [V.str sx1, V.int IntKind.u8 ix1, V.int IntKind.i64 ix1_1, V.str sx1_1])] : St })) (none)) (K (Ex.exit (0 : Nat)) { fr := [((0 : Nat), V.slc [Sh.str, Sh.int IntKind.u8, Sh.int IntKind.i64, Sh.str] r0), ((5 : Nat), V.int IntKind.i64 i5), ((6 : Nat), V.str s6), ((8 : Nat), V.ptr (10000 : Nat) (0 : Nat) (0 : Nat) (0 : Nat)), ((9 : Nat), V.bool b9), ((10 : Nat), V.ptr (10001 : Nat) (0 : Nat) (0 : Nat) (0 : Nat)), ((11 : Nat), V.bool b11)], tab := [((10000 : Nat), Box.var [V.str sx0, V.int IntKind.u8 ix0, V.int IntKind.i64 ix0_1, V.str sx0_1]), ((10001 : Nat), Box.var [V.str sx1, V.int IntKind.u8 ix1, V.int IntKind.i64 ix1_1, V.str sx1_1])] : St }) := by kernel_rfl
/-- The search from ahead. -/
def findOr (key : Bytes) (w : HPair × Bool) : List HPair → HPair × Bool
  | [] => w
  | p :: r => cond (p.key == key) (p, true) (findOr key w r)
theorem findOr_app (key : Bytes) (w : HPair × Bool) (x : HPair) : ∀ l, findOr key w (l ++ [x]) = findOr key (cond (x.key == key) (x, true) w) l
  | [] => rfl
  | p :: l => by
    show cond (p.key == key) (p, true) (findOr key w (l ++ [x])) = cond (p.key == key) (p, true) (findOr key _ l)
    rw [findOr_app key w x l]
theorem back_find (key : Bytes) (l : List HPair) : ∀ (k : Nat) (w : HPair × Bool), k ≤ l.length → N.back key l k w = findOr key w (l.take k)
  | 0, _, _ => rfl
  | k + 1, w, hk => by
    unfold N.back
    rw [back_find key l k _ (by omega)]
    have : l.take (k + 1) = l.take k ++ [l.getD k pair0] := by
      rw [List.take_add_one, List.getD_eq_getElem?_getD, List.getElem?_eq_getElem (by omega)]; rfl
    rw [this, findOr_app]
theorem findIx_findOr (key : Bytes) : ∀ (l : List HPair) (i : Int) (a : List HPair), i = a.length → cond (ilt (N.findIx key l i) 0) (pair0, false) ((a ++ l).getD (N.findIx key l i).toNat pair0, true) = findOr key (pair0, false) l
  | [], i, a, h => rfl
  | p :: l, i, a, h => by
    unfold N.findIx findOr
    cases hc : p.key == key with
    | true =>
      simp only [cond_true]
      rw [ilt_f (by omega), h]
      simp
    | false =>
      simp only [cond_false]
      have := findIx_findOr key l (i + 1) (a ++ [p]) (by rw [List.length_append, h]; rfl)
      rw [List.append_assoc] at this
      exact this
theorem find_back (h : List HPair) (key : Bytes) : N.back key h h.length (pair0, false) = N.find h key := by
  rw [back_find key h h.length _ (Nat.le_refl _), List.take_length]
  exact (findIx_findOr key h 0 [] rfl).symm
theorem ok_rounds : RoundsOk eLawHB 10 12 := by
  refine rounds_of rfl fun l K q h => ?_
  unfold gLawHB at h
  split at h
  · rename_i r key e s b9 b11 j x0 x1 x2 x3 y0 y1 y2 y3
    have h1 := (cond_none h).1; replace h := (cond_none h).2; have h2 := (cond_none h).1; replace h := (cond_none h).2; have h3 := (cond_none h).1; replace h := (cond_none h).2
    have h3 : r.length ≤ 1000000 := ble_of h3
    refine loop_ind (E := eLawHB) (f := 10) (id := 12) (σ := Int × HPair × Bool) (fun x => { fr := [(0, .slc [.str, .int .u8, .int .i64, .str] r), (1, .str key), (5, .int .i64 e), (6, .str s), (8, .ptr 10000 0 0 0), (9, .bool b9), (10, .ptr 10001 0 0 0), (11, .bool x.2.2), (12, .int .i64 x.1)], tab := [(10000, .var [.str x0, .int .u8 x1, .int .i64 x2, .str x3]), (10001, .var [.str x.2.1.key, .int .u8 x.2.1.kind, .int .i64 x.2.1.num, .str x.2.1.text])] })
      (fun x => -1 ≤ x.1 ∧ x.1 < r.length) (fun x => (x.1 + 1).toNat)
      (fun x K => K (.exit 0) (stHB r e s b9 ⟨x0, x1, x2, x3⟩ (N.back key (rowsP r) (x.1 + 1).toNat x.2))) ?_ (j, ⟨y0, y1, y2, y3⟩, b11) ⟨ile_of h1, ilt_of h2⟩ K q (by assumption)
    rintro ⟨j, p, b⟩ ⟨hj1, hj2⟩
    simp only at hj1 hj2 ⊢
    by_cases hl : 0 ≤ j
    · have eb : N.back key (rowsP r) (j.toNat + 1) (p, b) = N.back key (rowsP r) j.toNat (cond ((rowP (r.getD j.toNat [])).key == key) (rowP (r.getD j.toNat []), true) (p, b)) := by
        rw [← rowsP_getD]; rfl
      rw [show (j + 1).toNat = j.toNat + 1 by omega, eb]
      cases hc : (rowP (r.getD j.toNat [])).key == key with
      | true =>
        refine .inl ⟨(j - 1, rowP (r.getD j.toNat []), true), ⟨by simp only; omega, by simp only; omega⟩, by simp only; omega, fun K => ?_, fun K => ?_⟩
        · rw [q_lawHBR]
          unfold rowP at hc ⊢
          simp (disch := omega) only [evs, hc]
        · rw [show (j - 1 + 1).toNat = j.toNat by omega]; rfl
      | false =>
        refine .inl ⟨(j - 1, p, b), ⟨by simp only; omega, by simp only; omega⟩, by simp only; omega, fun K => ?_, fun K => ?_⟩
        · rw [q_lawHBR]
          unfold rowP at hc
          simp (disch := omega) only [evs, hc]
        · rw [show (j - 1 + 1).toNat = j.toNat by omega]; rfl
    · refine .inr ⟨.exit 0, stHB r e s b9 ⟨x0, x1, x2, x3⟩ (p, b), by simp, fun K => ?_, fun K => ?_⟩
      · rw [q_lawHBR]
        simp (disch := omega) only [evs]
        rfl
      · rw [show (j + 1).toNat = 0 by omega]; rfl
  · cases h
end Go.Ev

/- What the statement on heads' bytes reckons: it is true; the functions that write numbers are premises. -/
namespace Go.Ev
open Go Go.Proofs
set_option maxRecDepth 100000

def N.okP (p : HPair) : Bool := cond (ile 0 p.kind) (cond (ilt p.kind 256) (cond (ile (-9223372036854775808) p.num) (ile p.num 9223372036854775807) false) false) false
theorem okP_of {p : HPair} (h : N.okP p = true) : PairOk p := by
  obtain ⟨h1, h⟩ := bcond h
  obtain ⟨h2, h⟩ := bcond h
  obtain ⟨h3, h4⟩ := bcond h
  exact ⟨ile_of h1, ilt_of h2, ile_of h3, ile_of h4⟩
theorem refPairB_eq {p : HPair} {l : List HPair} (ho : PairOk p) (h : N.pairE p l = 0) : N.refPairB p = N.pairB p := by
  obtain ⟨_, h2, _⟩ := pairE_zero h
  have h1 := ho.1
  unfold N.refPairB N.pairB
  rcases (by omega : p.kind = 0 ∨ p.kind = 1 ∨ p.kind = 2) with k | k | k <;> rw [k] <;> rfl
theorem refPairs_eq (h : List HPair) (ho : ∀ p ∈ h, PairOk p) (hc : ∀ j, j < h.length → N.pairE (h.getD j pair0) (h.take j) = 0) : ∀ (f i : Nat), i + f = h.length → N.refPairsB (h.drop i) = N.pairsB (h.drop i)
  | 0, i, hi => by rw [List.drop_eq_nil_of_le (by omega)]; rfl
  | f + 1, i, hi => by
    have hlt : i < h.length := by omega
    have hm : h.getD i pair0 ∈ h := by rw [List.getD_eq_getElem?_getD, List.getElem?_eq_getElem hlt]; exact List.getElem_mem _
    rw [getD_drop pair0 hlt]
    show N.refPairB _ ++ N.refPairsB (h.drop (i + 1)) = N.pairB _ ++ N.pairsB (h.drop (i + 1))
    rw [refPairB_eq (ho _ hm) (hc i hlt), refPairs_eq h ho hc f (i + 1) (by omega)]
theorem refHead_eq (h : List HPair) (ho : ∀ p ∈ h, PairOk p) (hz : N.headCheck h = 0) : N.refHeadBytes h = N.headBytes h := by
  unfold N.headCheck at hz
  cases e : ilt 8 h.length with
  | true => rw [e] at hz; cases hz
  | false =>
    have e' := ilt_nof e
    rw [e, cond_false] at hz
    have hc : ∀ j, j < h.length → N.pairE (h.getD j pair0) (h.take j) = 0 := fun j hj => checkFrom_all h h.length 0 (Int.le_refl _) hz j (by omega) (by omega)
    unfold N.refHeadBytes N.headBytes
    have := refPairs_eq h ho hc h.length 0 (by omega)
    rw [List.drop_zero] at this
    rw [this, wrap_u64 (n := (h.length : Int)) (by omega) (by omega)]
theorem ok_lawHB (hN : FnOk Tryd.prog 72 dOutNum) (hR : FnOk Tryd.prog 77 (dRefNum 8)) :
    FnOk Tryd.prog 10 (den (aCons (vSl cPair) (aOne vStr)) bNil (oV vBool) (fun a _ => a.1.all N.okP) fun _ _ => (true, ())) := by
  refine den_okF (env_ok ((((((((((((TOk.nil _).cons ok_inEnd).cons ok_refSame).cons ok_headRead).cons (ok_refBytes hR)).cons ok_new).cons ok_find).cons ok_headCheck).cons (ok_headBytes hN)).cons ok_refCheck).cons ok_light).cons (ok_aw9 hN))) (E := eLawHB) Tryd.func10 [12] (by kernel_rfl) (one1 ok_rounds) fun a _ hp => ?_
  obtain ⟨h, key⟩ := a
  have hp : ∀ p ∈ h, PairOk p := fun p hm => okP_of (List.all_eq_true.1 hp p hm)
  refine (q_lawHB h key).trans ?_
  show _ = some (⟨.bool true, [], []⟩ : DRes)
  simp only [pairs_enc]
  cases hl : N.light h with
  | false => rfl
  | true =>
    have hl := light_small hl
    by_cases hk : 40 < key.length
    · simp (disch := omega) only [evs, Bool.not_true]
    · have fb := find_back h key
      have ew : ((h.length : Int) - 1 + 1).toNat = h.length := by omega
      unfold pair0 at fb
      cases hc : N.headCheck h != 0 with
      | true =>
        simp (disch := omega) only [evs, Bool.not_true, bne, beq_self_eq_true, ew]
        rw [fb]
        simp only [beq_self_eq_true, Bool.and_self, Bool.not_true, cond_false]
      | false =>
        have hz : N.headCheck h = 0 := by simpa using hc
        have rb := read_back h hp hz
        have re := refHead_eq h hp hz
        obtain ⟨c1, c2⟩ := check_fit hz
        simp (disch := omega) only [evs, Bool.not_true, hz, bne, beq_self_eq_true, ew, rb, re, c2, samePs_refl]
        rw [fb]
        simp only [beq_self_eq_true, Bool.and_self, Bool.not_true, cond_false]
        rfl
end Go.Ev

/- The document's function that writes numbers answers what the plain one does: lemmas, no condition. -/
namespace Go.Ev
open Go Go.Proofs
set_option maxRecDepth 100000

noncomputable def eRefNum0 : Env := env Tryd.prog [] [] []
noncomputable def eRefNum (k : Nat) : Env := env Tryd.prog [(77, dRefNum k)] [] []
theorem q_refNum0 (n b : Int) : evFn eRefNum0 77 ((aCons (vInt .u64) (aOne (vInt .i64))).enc (n, b)) ([]) some =
 cond (ilt (8 : Int) b) (none) (cond (ile b (0 : Int)) (some { v := V.str [], bx := [] : DRes }) (none)) := by kernel_rfl
theorem q_refNum (k : Nat) (n b : Int) : evFn (eRefNum k) 77 ((aCons (vInt .u64) (aOne (vInt .i64))).enc (n, b)) ([]) some =
 cond (ilt (8 : Int) b) (cond (bif bif bif ile (0 : Int) (IntKind.wrap IntKind.u64 (Int.tdiv n (256 : Int))) then bif ilt (IntKind.wrap IntKind.u64 (Int.tdiv n (256 : Int))) (18446744073709551616 : Int) then N.fuelOk k (IntKind.wrap IntKind.i64 ((8 : Int) - (1 : Int))) else false else false then true else false then true else false) (cond (bif bif bif ile (0 : Int) (IntKind.wrap IntKind.u64 (Int.tdiv n (256 : Int))) then bif ilt (IntKind.wrap IntKind.u64 (Int.tdiv n (256 : Int))) (18446744073709551616 : Int) then N.fuelOk k (IntKind.wrap IntKind.i64 ((8 : Int) - (1 : Int))) else false else false then true else false then true else false) (cond (bif ile (0 : Int) (IntKind.wrap IntKind.u64 (Int.tdiv n (256 : Int))) then bif ilt (IntKind.wrap IntKind.u64 (Int.tdiv n (256 : Int))) (18446744073709551616 : Int) then N.fuelOk k (IntKind.wrap IntKind.i64 ((8 : Int) - (1 : Int))) else false else false) (some { v := V.str (N.numB (IntKind.wrap IntKind.u64 (Int.tdiv n (256 : Int))) (N.clamp (IntKind.wrap IntKind.i64 ((8 : Int) - (1 : Int)))) ++ strOfBytes [[V.int IntKind.u8 (IntKind.wrap IntKind.u8 (Int.tmod n (256 : Int)))]]), bx := [] : DRes }) (none)) (none)) (none)) (cond (ile b (0 : Int)) (some { v := V.str [], bx := [] : DRes }) (cond (bif bif bif ile (0 : Int) (IntKind.wrap IntKind.u64 (Int.tdiv n (256 : Int))) then bif ilt (IntKind.wrap IntKind.u64 (Int.tdiv n (256 : Int))) (18446744073709551616 : Int) then N.fuelOk k (IntKind.wrap IntKind.i64 (b - (1 : Int))) else false else false then true else false then true else false) (cond (bif bif bif ile (0 : Int) (IntKind.wrap IntKind.u64 (Int.tdiv n (256 : Int))) then bif ilt (IntKind.wrap IntKind.u64 (Int.tdiv n (256 : Int))) (18446744073709551616 : Int) then N.fuelOk k (IntKind.wrap IntKind.i64 (b - (1 : Int))) else false else false then true else false then true else false) (cond (bif ile (0 : Int) (IntKind.wrap IntKind.u64 (Int.tdiv n (256 : Int))) then bif ilt (IntKind.wrap IntKind.u64 (Int.tdiv n (256 : Int))) (18446744073709551616 : Int) then N.fuelOk k (IntKind.wrap IntKind.i64 (b - (1 : Int))) else false else false) (cond (Nat.ble (List.length (N.numB (IntKind.wrap IntKind.u64 (Int.tdiv n (256 : Int))) (N.clamp (IntKind.wrap IntKind.i64 (b - (1 : Int))))) + (1 : Nat)) (9223372036854775807 : Nat)) (some { v := V.str (N.numB (IntKind.wrap IntKind.u64 (Int.tdiv n (256 : Int))) (N.clamp (IntKind.wrap IntKind.i64 (b - (1 : Int)))) ++ strOfBytes [[V.int IntKind.u8 (IntKind.wrap IntKind.u8 (Int.tmod n (256 : Int)))]]), bx := [] : DRes }) (none)) (none)) (none)) (none))) := by kernel_rfl
theorem clamp_mid {b : Int} (h1 : 1 ≤ b) (h2 : b ≤ 8) : N.clamp b = N.clamp (b - 1) + 1 := by
  unfold N.clamp
  by_cases h : b = 1
  · subst h; rfl
  · rw [ilt_t (show (0 : Int) < b by omega), ilt_f (show b ≤ 8 from h2), ilt_t (show (0 : Int) < b - 1 by omega), ilt_f (show b - 1 ≤ 8 by omega)]
    simp only [cond_true, cond_false]; omega
theorem tdiv_256 {n : Int} (h : 0 ≤ n) : Int.tdiv n 256 = n / 256 := Int.tdiv_eq_ediv_of_nonneg h
theorem tmod_256 {n : Int} (h : 0 ≤ n) : Int.tmod n 256 = n % 256 := Int.tmod_eq_emod_of_nonneg h
theorem wrap_u8' {n : Int} (h1 : 0 ≤ n) (h2 : n < 256) : IntKind.wrap .u8 n = n := by
  simp only [IntKind.wrap, IntKind.signed, IntKind.bits]
  simp
  omega
theorem ok_refNum0 : FnOk Tryd.prog 77 (dRefNum 0) := by
  refine den_okF (env_ok (TOk.nil _)) (E := eRefNum0) Tryd.func77 [] (by kernel_rfl) none0 fun a _ h => ?_
  obtain ⟨n, b⟩ := a
  obtain ⟨h1, h⟩ := bcond h
  obtain ⟨h2, h⟩ := bcond h
  have h : cond (ilt 8 b) (Nat.ble 8 0) (ile b 0) = true := h
  refine (q_refNum0 n b).trans ?_
  cases e : ilt 8 b with
  | true => rw [e] at h; cases h
  | false =>
    rw [e] at h
    have h : ile b 0 = true := h
    have h' := ile_of h
    show cond false none (cond (ile b 0) _ none) = some (⟨.str (N.numB n (N.clamp b)), [], []⟩ : DRes)
    rw [h]
    have : N.clamp b = 0 := by unfold N.clamp; rw [ilt_f h']; rfl
    rw [this]; rfl
theorem ok_refNumS (k : Nat) (hk : FnOk Tryd.prog 77 (dRefNum k)) : FnOk Tryd.prog 77 (dRefNum (k + 1)) := by
  refine den_okF (env_ok ((TOk.nil _).cons hk)) (E := eRefNum k) Tryd.func77 [] (by kernel_rfl) none0 fun a _ h => ?_
  obtain ⟨n, b⟩ := a
  obtain ⟨h1, h⟩ := bcond h
  obtain ⟨h2, h⟩ := bcond h
  have h : cond (ilt 8 b) (Nat.ble 8 (k + 1)) (ile b ((k + 1 : Nat) : Int)) = true := h
  have h1 : 0 ≤ n := ile_of h1
  have h2 : n < 18446744073709551616 := ilt_of h2
  refine (q_refNum k n b).trans ?_
  show _ = some (⟨.str (N.numB n (N.clamp b)), [], []⟩ : DRes)
  have w1 : IntKind.wrap .u64 (n / 256) = n / 256 := wrap_u64 (by omega) (by omega)
  have w2 : IntKind.wrap .u8 (n % 256) = n % 256 := wrap_u8' (by omega) (by omega)
  have w3 : IntKind.wrap .i64 ((8 : Int) - 1) = 7 := rfl
  have es : strOfBytes [[V.int .u8 (n % 256)]] = [UInt8.ofNat (n % 256).toNat] := rfl
  rw [tdiv_256 h1, tmod_256 h1, w1, w2, w3, es]
  have c1 : ile 0 (n / 256) = true := ile_t (by omega)
  have c2 : ilt (n / 256) 18446744073709551616 = true := ilt_t (by omega)
  rw [c1, c2]
  simp only [cond_true]
  cases e : ilt 8 b with
  | true =>
    rw [e] at h
    have h : 8 ≤ k + 1 := ble_of h
    have hb := ilt_of e
    have f7 : N.fuelOk k 7 = true := by unfold N.fuelOk; rw [ilt_f (by omega), cond_false]; exact ile_t (by omega)
    have hc : N.clamp b = 8 := by unfold N.clamp; rw [ilt_t (by omega), e]; rfl
    rw [f7, hc]
    simp only [cond_true]
    rw [show N.clamp 7 = 7 from rfl, ← numB_succ]
  | false =>
    rw [e] at h
    have h : b ≤ (k + 1 : Nat) := ile_of h
    have hb := ilt_nof e
    simp only [cond_false]
    cases e2 : ile b 0 with
    | true =>
      have h' := ile_of e2
      have : N.clamp b = 0 := by unfold N.clamp; rw [ilt_f h']; rfl
      rw [this]; rfl
    | false =>
      have h0 := ile_nof e2
      have w4 : IntKind.wrap .i64 (b - 1) = b - 1 := wr_i64 (by omega) (by omega)
      have f : N.fuelOk k (b - 1) = true := by unfold N.fuelOk; rw [ilt_f (by omega), cond_false]; exact ile_t (by omega)
      rw [w4, f, clamp_mid (by omega) hb, numB_succ]
      have hl : (N.numB (n / 256) (N.clamp (b - 1))).length ≤ 8 := by
        rw [numB_len]; unfold N.clamp
        rw [ilt_f (show b - 1 ≤ 8 by omega)]
        cases ilt 0 (b - 1) <;> simp only [cond_true, cond_false] <;> omega
      simp (disch := omega) only [evs]
theorem ok_refNum : ∀ k, FnOk Tryd.prog 77 (dRefNum k)
  | 0 => ok_refNum0
  | k + 1 => ok_refNumS k (ok_refNum k)
end Go.Ev

/- The statement on heads' bytes: what it reckons is true of what comes in; lemmas, no condition. -/
namespace Go.Ev
open Go Go.Proofs
set_option maxRecDepth 100000

theorem int_wf {k : IntKind} {n : Int} (h : wfV (.int k n) = true) : k.min ≤ n ∧ n ≤ k.max := by
  unfold wfV Lit.wf at h
  simp at h
  exact h
theorem pair_wf {p : HPair} (h : wfL (cPair.enc p) = true) : N.okP p = true := by
  have h : cond (wfV (.str p.key)) (cond (wfV (.int .u8 p.kind)) (cond (wfV (.int .i64 p.num)) (wfL [V.str p.text]) false) false) false = true := h
  obtain ⟨_, h⟩ := bcond h
  obtain ⟨h1, h⟩ := bcond h
  obtain ⟨h2, _⟩ := bcond h
  obtain ⟨a1, a2⟩ := int_wf h1
  obtain ⟨b1, b2⟩ := int_wf h2
  have e1 : IntKind.u8.min = 0 := rfl
  have e2 : IntKind.u8.max = 255 := rfl
  have e3 : IntKind.i64.min = -9223372036854775808 := rfl
  have e4 : IntKind.i64.max = 9223372036854775807 := rfl
  unfold N.okP
  rw [ile_t (by omega), ilt_t (by omega), ile_t (by omega), ile_t (by omega)]; rfl
theorem pairs_wfR : ∀ l : List HPair, wfRs (l.map cPair.enc) = true → l.all N.okP = true
  | [], _ => rfl
  | p :: r, h => by
    have h : cond (wfL (cPair.enc p)) (wfRs (r.map cPair.enc)) false = true := h
    obtain ⟨h1, h2⟩ := bcond h
    rw [List.all_cons, pair_wf h1, pairs_wfR r h2]; rfl
theorem pairs_wf {l : List HPair} (h : wfL ((rSl cPair).enc l) = true) : l.all N.okP = true := by
  have h : cond (cond (Nat.ble (l.map cPair.enc).length 9223372036854775807) (cond (fitsRows cPair.sh (l.map cPair.enc)) (wfRs (l.map cPair.enc)) false) false) true false = true := h
  obtain ⟨h, _⟩ := bcond h
  obtain ⟨_, h⟩ := bcond h
  obtain ⟨_, h⟩ := bcond h
  exact pairs_wfR l h
end Go.Ev

/- The library's text builder in this program, and the function that writes a number's bytes with it: lemmas, no condition but the text's length. -/
namespace Go.Ev
open Go Go.Proofs Go.RowKit Go.Shelf

theorem bSize : (Tryd.prog.info? 81).map (·.size) = some 2 := by kernel_rfl
theorem bLies : liesAt Tryd.prog Tryd.prog.depth 81 (2 / Tryd.prog.cellsOf 81) 0 81 1 = true := by kernel_rfl
theorem bByte : (Tryd.prog.info? 5).map (fun i => (i.zero, i.size, i.bytes)) = some (some (.int .u8 0), 1, 1) := by kernel_rfl

set_option maxHeartbeats 1000000 in
set_option maxRecDepth 100000 in
theorem cc_used (b : Nat) (w : World) (h0 : w.cell? ⟨b, 0, none⟩ = some (.pointer (some ⟨b, 0, none⟩))) :
    Calls Tryd.prog 82 #[.pointer (some ⟨b, 0, none⟩)] w fun e w' => e = .returned (.tuple #[]) ∧ w' = w := by
  obtain ⟨j, hj, _⟩ := Option.map_eq_some_iff.1 bSize
  go_enter Tryd.func82, Tryd.ntmps82
  go_wp2
  rw [Lib.run_neq_ptr_same w _ Tryd.underlying78 hj]
  go_wp2
  go_end0
  exact ⟨rfl, rfl⟩
set_option maxHeartbeats 1000000 in
set_option maxRecDepth 100000 in
theorem cc_fresh (b : Nat) (w : World) (h0 : w.cell? ⟨b, 0, none⟩ = some (.pointer none)) (hsh : w.shape? b = some (81, 2)) (hfz : w.frozen? ⟨b, 0, none⟩ = false) :
    Calls Tryd.prog 82 #[.pointer (some ⟨b, 0, none⟩)] w fun e w' => e = .returned (.tuple #[]) ∧ w' = w.setCell ⟨b, 0, none⟩ (.pointer (some ⟨b, 0, none⟩)) := by
  obtain ⟨j, hj, hjs⟩ := Option.map_eq_some_iff.1 bSize
  go_enter Tryd.func82, Tryd.ntmps82
  go_wp2
  rw [Lib.run_to_unsafe w ⟨b, 0, none⟩ Tryd.underlying78 Tryd.underlying116 hj (by rw [hjs]; decide) hsh (Nat.zero_lt_succ 1)]
  simp only [Result.andThen]
  rw [Oper.upon_value]
  go_wp2
  rw [run_callFunc_extern Tryd.func96 (by kernel_rfl) (by kernel_rfl) (by kernel_rfl) (e := Extern.AbiNoEscape.same) (by kernel_rfl)]
  rw [Lib.run_noEscape]
  simp only [Result.andThen]
  rw [Oper.upon_value]
  go_wp2
  rw [Lib.run_from_unsafe w ⟨b, 0, none⟩ Tryd.underlying116 Tryd.underlying78 hj hsh bLies]
  simp only [Result.andThen]
  rw [Oper.upon_value]
  go_wp2
  go_end0
  exact ⟨rfl, rfl⟩
theorem cc (B b : Nat) (bs : List Value) (w : World) (h : Lib.IsBuilder 81 5 B b bs w) :
    Calls Tryd.prog 82 #[.pointer (some ⟨b, 0, none⟩)] w fun e w' => e = .returned (.tuple #[]) ∧ (Lib.BuilderAt 81 5 B b (.pointer (some ⟨b, 0, none⟩)) bs w' ∧ Below B w w') := by
  rcases h with h | h
  · refine (cc_fresh b w h.cell0 h.shape h.frozen0).mono ?_
    rintro e w' ⟨rfl, rfl⟩
    exact ⟨rfl, h.used _, (Below.refl B w).setCell (p := ⟨b, 0, none⟩) h.1 _⟩
  · refine (cc_used b w h.cell0).mono ?_
    rintro e w' ⟨rfl, rfl⟩
    exact ⟨rfl, h, Below.refl B _⟩
set_option maxHeartbeats 2000000 in
set_option maxRecDepth 100000 in
theorem writeByte (B b : Nat) (bs : List Value) (c : Int) (w : World) (h : Lib.IsBuilder 81 5 B b bs w) (hlen : bs.length + 1 ≤ 140737488355328) (hBw : B ≤ w.heap.size) :
    Calls Tryd.prog 90 #[.pointer (some ⟨b, 0, none⟩), .int .u8 c] w fun e w' => e = .returned .nilIface ∧ (Lib.BuilderAt 81 5 B b (.pointer (some ⟨b, 0, none⟩)) (bs ++ [.int .u8 c]) w' ∧ Below B w w') := by
  obtain ⟨i0, hi, hz0, hz1, hz2⟩ := info_parts bByte
  go_enter Tryd.func90, Tryd.ntmps90
  go_wp2_with (go_at_call 82; refine (cc B b bs _ h).mono ?_)
  rintro e w1 ⟨rfl, h1, hb1⟩
  obtain ⟨hB, v, hbk, hown, hne⟩ := h1
  have c0 : w1.cell? ⟨b, 0, none⟩ = some (.pointer (some ⟨b, 0, none⟩)) := by rw [Lib.cell_of_heap hbk]; rfl
  have c1 : w1.cell? ⟨b, 1, none⟩ = some v := by rw [Lib.cell_of_heap hbk]; rfl
  go_wp2_with (at_builtin; refine wpList_append_own _ rfl _ _ 79 rfl B 5 i0 (.int .u8 0) 1 1 Tryd.underlying79 hi hz0 hz1 hz2 rfl (by decide) _ _ _ rfl (hown.alloc _) ⟨w1.heap.size, 0, none⟩ 1 1 [.int .u8 c] rfl rfl ?c1 ?c2 ?c3 ?c4 ?c5 ?_)
  case c1 =>
    intro j u hj
    match j, hj with
    | 0, hj => simp at hj; subst hj; simp [Addr.add]
  case c2 => intro u hu; simp at hu; subst hu; rfl
  case c3 => unfold maxLen; omega
  case c4 => omega
  case c5 => have := hb1.size; simp; omega
  intro v' w2 hown' hgrow _
  have hlt : b < w1.heap.size := by
    rcases Nat.lt_or_ge b w1.heap.size with h' | h'
    · exact h'
    · simp [Array.getElem?_eq_none h'] at hbk
  have hb2 : w2.heap[b]? = some (.cells #[.pointer (some ⟨b, 0, none⟩), v] 81 (0, 0)) := by
    rw [hgrow.block b (by simp; omega) (fun e => hne e.symm), Lib.alloc_old w1 _ b hlt]
    exact hbk
  have d0 : w2.cell? ⟨b, 0, none⟩ = some (.pointer (some ⟨b, 0, none⟩)) := by rw [Lib.cell_of_heap hb2]; rfl
  have d1 : w2.cell? ⟨b, 1, none⟩ = some v := by rw [Lib.cell_of_heap hb2]; rfl
  have f1 : w2.frozen? ⟨b, 1, none⟩ = false := Lib.frozen_of_heap hb2 1
  obtain ⟨g, cap, rfl⟩ : ∃ g cap, v' = .slice (some ⟨g, 0, none⟩) (bs.length + 1) cap := by
    rcases hown'.2 with ⟨_, h0⟩ | ⟨g, cap, cur, hv, _⟩
    · omega
    · exact ⟨g, cap, hv⟩
  go_wp2
  go_ret
  refine ⟨rfl, ?_, ?_⟩
  · exact Lib.BuilderAt.put (T := 81) (e := 5) hB hb2 (bs' := bs ++ [.int .u8 c]) (by simpa using hown') (by decide)
  · exact ((hb1.alloc (by have := hb1.size; omega) _).grown hgrow (by have := hb1.size; simp; omega) (fun k hk => (hown.lt k hk).1)).setCell (p := ⟨b, 1, none⟩) hB _
/-! ### The text of a builder: the library's contract at this program -/
def lays169_ren : Go.Shelf.Ren := ⟨fun | 169 => 58 | n => n, fun | 70 => 78 | 9 => 9 | 0 => 0 | 72 => 81 | 37 => 79 | 127 => 107 | 3 => 3 | 5 => 5 | n => n, fun | n => n⟩
theorem lays169 : Go.Proofs.Lays.n169 Tryd.prog lays169_ren := {
  mixed := by kernel_rfl
  f169 := Tryd.func58.trans (congrArg some (by kernel_rfl))
  t0 := Tryd.underlying0
  a0 := Tryd.isAgg0
  z0 := Tryd.sizeOf0
  v0 := Tryd.zeroValue0
  t3 := Tryd.underlying3
  a3 := Tryd.isAgg3
  z3 := Tryd.sizeOf3
  v3 := Tryd.zeroValue3
  t9 := Tryd.underlying9
  a9 := Tryd.isAgg9
  z9 := Tryd.sizeOf9
  v9 := Tryd.zeroValue9
  t37 := Tryd.underlying79
  a37 := Tryd.isAgg79
  z37 := Tryd.sizeOf79
  v37 := Tryd.zeroValue79
  t70 := Tryd.underlying78
  a70 := Tryd.isAgg78
  z70 := Tryd.sizeOf78
  v70 := Tryd.zeroValue78
  t72 := Tryd.underlying81
  a72 := Tryd.isAgg81
  z72 := Tryd.sizeOf81
  v72 := Tryd.zeroValue81
  t127 := Tryd.underlying107
  a127 := Tryd.isAgg107
  z127 := Tryd.sizeOf107
  v127 := Tryd.zeroValue107 }
theorem extra169 : Builder.Extra Tryd.prog lays169_ren := {
  sizeBuilder := by kernel_rfl
  liesBuilder := by kernel_rfl
  t5 := Tryd.underlying5
  a5 := Tryd.isAgg5
  z5 := Tryd.sizeOf5
  v5 := Tryd.zeroValue5
  infoByte := by kernel_rfl
  cellsByte := by kernel_rfl
  sizeByte := by kernel_rfl
  neB5 := by decide }
theorem bString (B b : Nat) (l : List UInt8) (w : World) (h : Lib.IsBuilder 81 5 B b (Lib.byteCells l) w) (hBw : B ≤ w.heap.size) :
    Calls Tryd.prog 58 #[.pointer (some ⟨b, 0, none⟩)] w fun e w' => e = .returned (.string ⟨l.toArray⟩) ∧ Below B w w' := Any.Builder_String_any lays169 extra169 B b l w h hBw
end Go.Ev

/- The function that writes a number's bytes: its walk. -/
namespace Go.Ev
open Go Go.Proofs Go.RowKit Go.Shelf

theorem clamp_eq {bytes : Int} : min (max bytes 0) 8 = (N.clamp bytes : Int) ∧ N.clamp bytes ≤ 8 := by
  unfold N.clamp
  rw [ilt_eq, ilt_eq]
  by_cases h1 : 0 < bytes
  · by_cases h2 : 8 < bytes
    · simp [h1, h2]; omega
    · simp [h1, h2]; omega
  · simp [h1]; omega

theorem two_blocks {w wr : World} {o1 o2 : Obj} (h : Below (w.heap.size + 1 + 1) ((w.alloc o1).alloc o2) wr) : wr.heap[w.heap.size]? = some o1 ∧ wr.heap[w.heap.size + 1]? = some o2 := by
  have e : (w.alloc o1).heap.size = w.heap.size + 1 := by simp
  refine ⟨?_, ?_⟩
  · rw [h.block _ (by omega), Below.heap_alloc _ _ _ (by omega)]; exact Go.heap_alloc_new w o1
  · rw [h.block _ (by omega), ← e]; exact Go.heap_alloc_new _ o2

set_option maxHeartbeats 4000000 in
set_option maxRecDepth 1000000 in
theorem outNum_walk (s : ByteArray) (er n bytes : Int) (w : World) (hs : (s.size : Int) ≤ 9223372036854775799) :
    Calls Tryd.prog 72 #[.agg #[.string s, .int .i64 er], .int .u64 n, .int .i64 bytes] w fun e w' =>
      e = .returned (.agg #[.string ⟨(s.data.toList ++ N.numB n (N.clamp bytes)).toArray⟩, .int .i64 er]) ∧ Below w.heap.size w w' := by
  go_enter Tryd.func72, Tryd.ntmps72
  go_wp2
  go_loopw [8] (fun i wr => ∃ (k : Int) (acc : List UInt8), i = .int .i64 k ∧ Lib.IsBuilder 81 5 (w.heap.size + 1 + 1) (w.heap.size + 1 + 1) (Lib.byteCells acc) wr ∧
      Below (w.heap.size + 1 + 1) ((w.alloc (Obj.cells #[Value.string s, Value.int IntKind.i64 er] 99)).alloc (Obj.cells #[Value.string { data := #[] }, Value.int IntKind.i64 0] 99)) wr ∧
      -1 ≤ k ∧ acc ++ N.numB n (k + 1).toNat = N.numB n (N.clamp bytes) ∧ acc.length + (k + 1).toNat ≤ 8) (fun i _ => (intOf i + 1).toNat)
  case atStart =>
    obtain ⟨hcl, hc8⟩ := clamp_eq (bytes := bytes)
    have hf := Lib.fresh_isBuilder 81 5 ((w.alloc (Obj.cells #[Value.string s, Value.int IntKind.i64 er] 99)).alloc (Obj.cells #[Value.string { data := #[] }, Value.int IntKind.i64 0] 99))
    have e0 : ((w.alloc (Obj.cells #[Value.string s, Value.int IntKind.i64 er] 99)).alloc (Obj.cells #[Value.string { data := #[] }, Value.int IntKind.i64 0] 99)).heap.size = w.heap.size + 1 + 1 := by simp
    rw [e0] at hf
    refine ⟨(N.clamp bytes : Int) - 1, [], by rw [hcl], hf, (Below.refl _ _).alloc (by simp) _, by omega, ?_, ?_⟩
    · rw [show ((N.clamp bytes : Int) - 1 + 1).toNat = N.clamp bytes by omega]; rfl
    · simp only [List.length_nil]; omega
  case round =>
    obtain ⟨k, acc, rfl, hI, hB, hk, hacc, hal⟩ := hrel
    by_cases hk0 : 0 ≤ k
    · go_wp2_with (go_at_call 90; refine (writeByte (w.heap.size + 1 + 1) (w.heap.size + 1 + 1) _ _ _ hI (by rw [Lib.byteCells_length]; omega) (by have := hB.size; simp at this; omega)).mono ?_)
      rintro e w1 ⟨rfl, h1, b1⟩
      go_wp2
      go_roundw
      case rel =>
        have e1 : N.numB n (k + 1).toNat = UInt8.ofNat ((n / 2 ^ (8 * k.toNat)) % 256).toNat :: N.numB n k.toNat := by
          rw [show (k + 1).toNat = k.toNat + 1 by omega]; rfl
        have e2 : ((UInt8.ofNat ((n / 2 ^ (8 * k.toNat)) % 256).toNat).toNat : Int) = n / 2 ^ (8 * k).toNat % 256 := by
          rw [show (8 * k).toNat = 8 * k.toNat by omega]
          have h0 : 0 ≤ (n / 2 ^ (8 * k.toNat)) % 256 := Int.emod_nonneg _ (by decide)
          have h1 : (n / 2 ^ (8 * k.toNat)) % 256 < 256 := Int.emod_lt_of_pos _ (by decide)
          have h2 : (UInt8.ofNat ((n / 2 ^ (8 * k.toNat)) % 256).toNat).toNat = ((n / 2 ^ (8 * k.toNat)) % 256).toNat := UInt8.toNat_ofNat_of_lt' (by
            show ((n / 2 ^ (8 * k.toNat)) % 256).toNat < 256
            omega)
          rw [h2]; omega
        refine ⟨k - 1, acc ++ [UInt8.ofNat ((n / 2 ^ (8 * k.toNat)) % 256).toNat], rfl, ?_, hB.trans b1, by omega, ?_, ?_⟩
        · rw [Lib.byteCells_append]
          have e3 : Lib.byteCells [UInt8.ofNat ((n / 2 ^ (8 * k.toNat)) % 256).toNat] = [Value.int .u8 (n / 2 ^ (8 * k).toNat % 256)] := by
            rw [← e2]; rfl
          rw [e3]; exact Or.inr h1
        · rw [e1] at hacc
          rw [← hacc, show (k - 1 + 1).toNat = k.toNat by omega, List.append_assoc]; rfl
        · rw [List.length_append]; simp only [List.length_cons, List.length_nil]; omega
      case measure => simp [intOf]; omega
    · have hk1 : k = -1 := by omega
      subst hk1
      have hfin : N.numB n (N.clamp bytes) = acc := by rw [← hacc]; show acc ++ [] = acc; simp
      have hal : acc.length ≤ 8 := by omega
      clear hacc
      rw [hfin]
      obtain ⟨hb0, hb1⟩ := two_blocks hB
      have c0 : wr.cell? ⟨w.heap.size, 0, none⟩ = some (.string s) := by rw [Lib.cell_of_heap hb0]; rfl
      have c1 : wr.cell? ⟨w.heap.size, 1, none⟩ = some (.int .i64 er) := by rw [Lib.cell_of_heap hb0]; rfl
      have c2 : wr.cell? ⟨w.heap.size + 1, 0, none⟩ = some (.string ⟨#[]⟩) := by rw [Lib.cell_of_heap hb1]; rfl
      have c3 : wr.cell? ⟨w.heap.size + 1, 1, none⟩ = some (.int .i64 0) := by rw [Lib.cell_of_heap hb1]; rfl
      have f0 : wr.frozen? ⟨w.heap.size, 0, none⟩ = false := Lib.frozen_of_heap hb0 0
      have f1 : wr.frozen? ⟨w.heap.size, 1, none⟩ = false := Lib.frozen_of_heap hb0 1
      have f2 : wr.frozen? ⟨w.heap.size + 1, 0, none⟩ = false := Lib.frozen_of_heap hb1 0
      have f3 : wr.frozen? ⟨w.heap.size + 1, 1, none⟩ = false := Lib.frozen_of_heap hb1 1
      have hBw : w.heap.size + 1 + 1 ≤ wr.heap.size := by have := hB.size; simp at this; omega
      have hadd : ¬ 9223372036854775807 < s.size + acc.length := by omega
      have hadd2 : ¬ 9223372036854775807 < s.size + (⟨acc.toArray⟩ : ByteArray).size := by
        show ¬ 9223372036854775807 < s.size + acc.toArray.size
        rw [List.size_toArray]; exact hadd
      have hadd3 : ¬ (s.size + (⟨acc.toArray⟩ : ByteArray).size > 9223372036854775807) := hadd2
      have hadd4 : s.size + (⟨acc.toArray⟩ : ByteArray).size ≤ 9223372036854775807 := Nat.not_lt.1 hadd2
      have hadd5 : s.size + acc.length ≤ 9223372036854775807 := Nat.not_lt.1 hadd
      go_wp2
      go_region_with (go_at_call 58; refine (bString (w.heap.size + 1 + 1) (w.heap.size + 1 + 1) acc _ (by exact hI) (by exact hBw)).mono ?_; rintro e w2 ⟨rfl, b2⟩
                      have d0 : w2.cell? ⟨w.heap.size, 0, none⟩ = some (.string s) := by rw [b2.cell (by show w.heap.size < w.heap.size + 1 + 1; omega)]; exact c0
                      have d1 : w2.cell? ⟨w.heap.size, 1, none⟩ = some (.int .i64 er) := by rw [b2.cell (by show w.heap.size < w.heap.size + 1 + 1; omega)]; exact c1
                      have d2 : w2.cell? ⟨w.heap.size + 1, 0, none⟩ = some (.string ⟨#[]⟩) := by rw [b2.cell (by show w.heap.size + 1 < w.heap.size + 1 + 1; omega)]; exact c2
                      have d3 : w2.cell? ⟨w.heap.size + 1, 1, none⟩ = some (.int .i64 0) := by rw [b2.cell (by show w.heap.size + 1 < w.heap.size + 1 + 1; omega)]; exact c3
                      have e0 : w2.frozen? ⟨w.heap.size, 0, none⟩ = false := by rw [b2.frozen (by show w.heap.size < w.heap.size + 1 + 1; omega)]; exact f0
                      have e1 : w2.frozen? ⟨w.heap.size, 1, none⟩ = false := by rw [b2.frozen (by show w.heap.size < w.heap.size + 1 + 1; omega)]; exact f1
                      have e2 : w2.frozen? ⟨w.heap.size + 1, 0, none⟩ = false := by rw [b2.frozen (by show w.heap.size + 1 < w.heap.size + 1 + 1; omega)]; exact f2
                      have e3 : w2.frozen? ⟨w.heap.size + 1, 1, none⟩ = false := by rw [b2.frozen (by show w.heap.size + 1 < w.heap.size + 1 + 1; omega)]; exact f3)
      all_goals go_wp2
      all_goals
        refine ⟨rfl, .agg #[.string (s ++ ⟨acc.toArray⟩), .int .i64 er], ?_, ?_, ?_⟩
        · simp [results, Tryd.results72, go_sem, d2, d3]
        · rw [hfin, ← bytes_append]
        · have b0 : Below w.heap.size w wr := (((Below.refl _ w).alloc (Nat.le_refl _) _).alloc (by simp) _).trans (hB.mono (by omega))
          exact (((b0.drew.trans (b2.mono (by omega))).setCell (p := ⟨w.heap.size, 0, none⟩) (Nat.le_refl _) _).setCell (p := ⟨w.heap.size + 1, 0, none⟩) (Nat.le_succ _) _).setCell (p := ⟨w.heap.size + 1, 1, none⟩) (Nat.le_succ _) _

/-- What leaves the memory at hand as it is keeps it. -/
theorem keeps_below {w w' : World} (X : Nat → Nat → Prop) (h : Below w.heap.size w w') : Keeps X w w' :=
  ⟨h.os, h.tape, h.output, h.size, fun b hb => ObjOk.same (h.block b hb)⟩
theorem outNum_ok : FnOk Tryd.prog 72 dOutNum := by
  refine den_of fun a b hp => ?_
  obtain ⟨o, n, bytes⟩ := a
  intro x y hxy w J locs xs hlen hJ hx _ _ _
  have hxy : x = (aCons (vAgg cOut) (aCons (vInt .u64) (aOne (vInt .i64)))).enc (o, n, bytes) ∧ y = bNil.enc b := by simpa using hxy
  obtain ⟨rfl, rfl⟩ := hxy
  have hlen : locs = [] := List.eq_nil_of_length_eq_zero hlen
  subst hlen
  obtain ⟨hp1, hp⟩ := bcond hp
  obtain ⟨hp2, hp3⟩ := bcond hp
  have hp3 : o.s.length ≤ 9223372036854775799 := Nat.le_of_ble_eq_true hp3
  obtain ⟨x0, xs1, rfl, hx0, hx⟩ := hx.uncons
  obtain ⟨x1, xs2, rfl, hx1, hx⟩ := hx.uncons
  obtain ⟨x2, rfl, hx2⟩ := hx.one
  obtain ⟨cs, rfl, hc1, hc2⟩ := Rv.agg_inv (show Rv w J _ (.agg [.str o.s, .int .i64 o.err]) x0 from hx0)
  have hx1 := Rv.int_inv (show Rv w J _ (.int .u64 n) x1 from hx1)
  have hx2 := Rv.int_inv (show Rv w J _ (.int .i64 bytes) x2 from hx2)
  subst hx1 hx2
  match cs, hc1, hc2 with
  | [c0, c1], _, hc2 =>
    have h0 := Rv.str_inv (show Rv w J _ (.str o.s) c0 from hc2 0 (by simp))
    have h1 := Rv.int_inv (show Rv w J _ (.int .i64 o.err) c1 from hc2 1 (by simp))
    subst h0 h1
    refine .inl ⟨?_, ?_⟩
    · have hnm : ¬ (Tryd.f72).name = "runtime.NumGoroutine" := by
        intro e
        have : ((Tryd.f72).name == "runtime.NumGoroutine") = false := by kernel_rfl
        rw [e] at this; cases this
      obtain ⟨c, hc⟩ := Option.isSome_iff_exists.1 (show (Tryd.f72).body.isSome = true by kernel_rfl)
      simp [callFunc, Tryd.func72, hnm, hc]
    · refine (outNum_walk ⟨o.s.toArray⟩ o.err n bytes w (by rw [bytes_size]; omega)).mono fun e w' ⟨he, hb⟩ => ⟨_, he, J, ?_⟩
      refine ⟨keeps_below _ hb, fun _ _ h => h, fun b o' h => Nat.lt_of_lt_of_le (hJ b o' h) hb.size, fun _ _ h _ => h, rfl, (fun j cs cs' p hj => by cases hj), .inl ⟨rfl, ?_⟩⟩
      refine .agg [.str (N.outNum o n bytes).s, .int .i64 (N.outNum o n bytes).err] [.string ⟨(o.s ++ N.numB n (N.clamp bytes)).toArray⟩, .int .i64 o.err] rfl fun i hi => ?_
      match i, hi with
      | 0, _ => exact .dat (.str _)
      | 1, _ => exact .dat (.int _ _)
end Go.Ev
