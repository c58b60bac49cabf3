/- The functions that tell which messages go by a rule answer what the plain ones do: lemmas, no condition. -/
import Derived.Test.YtaelkcinofhhcaaDoorGe
import Derived.Test.YtaelkcinofhhcaaDoorGc
import Derived.Test.YtaelkcinofhhcaaDoorProg
import Derived.KernelRfl
import Derived.Shelf.Strings.Builder1
import Derived.RegionTactic
import Derived.Deep.RegionWith
namespace Go.Ev
open Go Go.Proofs
set_option maxRecDepth 100000

noncomputable def eGoes : Env := env Tryd.prog [(55, dMatches), (56, dHeads)] [] []
theorem q_goes (r : HRule) (k : Bytes) (h : List HPair) : evFn eGoes 19 ((aCons (vAgg cRule) (aCons vStr (aOne (vSl cPair)))).enc (r, k, h)) ([]) some =
 cond (HRule.sort r == (0 : Int)) (some { v := V.bool (k == HRule.key r), bx := [] : DRes }) (cond (HRule.sort r == (2 : Int)) (cond (bif Nat.ble (List.length (HRule.key r)) (1000000 : Nat) then Nat.ble (List.length k) (1000000 : Nat) else false) (some { v := V.bool (N.matchW (N.words (HRule.key r)) (N.words k)), bx := [] : DRes }) (none)) (cond (HRule.sort r == (3 : Int)) (cond (bif Nat.ble (List.length (List.map (fun r => { key := V.toStr (List.getD r (0 : Nat) V.undef), kind := V.toInt (List.getD r (1 : Nat) V.undef), num := V.toInt (List.getD r (2 : Nat) V.undef), text := V.toStr (List.getD r (3 : Nat) V.undef) : HPair }) (List.map (fun p => [V.str (HPair.key p), V.int IntKind.u8 (HPair.kind p), V.int IntKind.i64 (HPair.num p), V.str (HPair.text p)]) (HRule.want r)))) (1000000 : Nat) then Nat.ble (List.length (List.map (fun r => { key := V.toStr (List.getD r (0 : Nat) V.undef), kind := V.toInt (List.getD r (1 : Nat) V.undef), num := V.toInt (List.getD r (2 : Nat) V.undef), text := V.toStr (List.getD r (3 : Nat) V.undef) : HPair }) (List.map (fun p => [V.str (HPair.key p), V.int IntKind.u8 (HPair.kind p), V.int IntKind.i64 (HPair.num p), V.str (HPair.text p)]) h))) (1000000 : Nat) else false) (some { v := V.bool (N.headsP (List.map (fun r => { key := V.toStr (List.getD r (0 : Nat) V.undef), kind := V.toInt (List.getD r (1 : Nat) V.undef), num := V.toInt (List.getD r (2 : Nat) V.undef), text := V.toStr (List.getD r (3 : Nat) V.undef) : HPair }) (List.map (fun p => [V.str (HPair.key p), V.int IntKind.u8 (HPair.kind p), V.int IntKind.i64 (HPair.num p), V.str (HPair.text p)]) h)) (HRule.all r) (List.map (fun r => { key := V.toStr (List.getD r (0 : Nat) V.undef), kind := V.toInt (List.getD r (1 : Nat) V.undef), num := V.toInt (List.getD r (2 : Nat) V.undef), text := V.toStr (List.getD r (3 : Nat) V.undef) : HPair }) (List.map (fun p => [V.str (HPair.key p), V.int IntKind.u8 (HPair.kind p), V.int IntKind.i64 (HPair.num p), V.str (HPair.text p)]) (HRule.want r)))), bx := [] : DRes }) (none)) (some { v := V.bool true, bx := [] : DRes }))) := by kernel_rfl
theorem ok_goes : FnOk Tryd.prog 19 dGoes := by
  refine den_okF (env_ok (((TOk.nil _).cons ok_heads).cons ok_matches)) (E := eGoes) Tryd.func19 [] (by kernel_rfl) none0 fun a _ h => ?_
  obtain ⟨r, k, h'⟩ := a
  obtain ⟨h1, h2⟩ := bcond h
  obtain ⟨h1, h3⟩ := bcond h1
  obtain ⟨h2, h4⟩ := bcond h2
  have h1 : r.key.length + 1 ≤ 1000000 := ble_of h1
  have h3 : k.length + 1 ≤ 1000000 := ble_of h3
  have h2 : r.want.length ≤ 1000000 := ble_of h2
  have h4 : h'.length ≤ 1000000 := ble_of h4
  refine (q_goes r k h').trans ?_
  show _ = some (⟨.bool (N.goes r k h'), [], []⟩ : DRes)
  unfold N.goes
  cases r.sort == 0 <;> cases r.sort == 2 <;> cases r.sort == 3 <;> first | rfl | simp (disch := omega) only [evs, pairs_enc]
def schRefGoes : SSch := { fr := [(2, .slc [.str, .int .u8, .int .i64, .str]), (3, .ptr 10000 0 0), (7, .int .i64), (30, .slc [.str, .int .u8, .int .i64, .str]), (31, .int .i64), (32, .int .i64)], tab := [(10000, .var [.int .u8, .str, .slc [.str, .int .u8, .int .i64, .str], .bool])] }
def gRefGoes : List Leaf → (Ex → St → Option R) → Option R
  | [.r r2, .i i7, .r r30, .i i31, .i i32, .i ix0, .s sx0, .r rx0, .b bx0], K => cond (i31 == r30.length) (cond (ile 0 i32) (cond (ile i32 r30.length) (cond (Nat.ble r30.length LIM) (cond (Nat.ble r2.length LIM) (cond (i7 == 0) (cond (i32 == 0)
      (K (.exit 0) { fr := [(3, .ptr 10000 0 0 0), (7, .int .i64 (N.refCount (rowsP r2) (rowsP (r30.drop i32.toNat)) i7))], tab := [(10000, .var [.int .u8 ix0, .str sx0, .slc [.str, .int .u8, .int .i64, .str] rx0, .bool bx0])] }) none) none) none) none) none) none) none
  | _, _ => none
noncomputable def eRefGoes : Env := env Tryd.prog [(58, dRefHas), (52, dWords), (57, dRefMatches)] [(9, loopF schRefGoes gRefGoes)] [(9, [(0, [2, 3, 7, 30, 31, 32]), (1, [3, 7]), (1000, [6])])]
theorem q_refGoes (r : HRule) (k : Bytes) (h : List HPair) : evFn eRefGoes 20 ((aCons (vAgg cRule) (aCons vStr (aOne (vSl cPair)))).enc (r, k, h)) ([]) some =
 cond (HRule.sort r == (0 : Int)) (some { v := V.bool (HRule.key r == k), bx := [] : DRes }) (cond (HRule.sort r == (1 : Int)) (some { v := V.bool true, bx := [] : DRes }) (cond (HRule.sort r == (2 : Int)) (cond (Nat.ble (List.length (HRule.key r)) (1000000 : Nat)) (cond (Nat.ble (List.length k) (1000000 : Nat)) (cond (bif Nat.ble (List.length (List.map (fun r => V.toStr (List.getD r (0 : Nat) V.undef)) (List.map (fun n => [V.str n]) (N.words (HRule.key r))))) (1000000 : Nat) then Nat.ble (List.length (List.map (fun r => V.toStr (List.getD r (0 : Nat) V.undef)) (List.map (fun n => [V.str n]) (N.words k)))) (1000000 : Nat) else false) (some { v := V.bool (N.refMatches (List.map (fun r => V.toStr (List.getD r (0 : Nat) V.undef)) (List.map (fun n => [V.str n]) (N.words (HRule.key r)))) (List.map (fun r => V.toStr (List.getD r (0 : Nat) V.undef)) (List.map (fun n => [V.str n]) (N.words k)))), bx := [] : DRes }) (none)) (none)) (none)) (cond ((↑(List.length (List.map (fun p => [V.str (HPair.key p), V.int IntKind.u8 (HPair.kind p), V.int IntKind.i64 (HPair.num p), V.str (HPair.text p)]) (HRule.want r))) : Int) == (↑(List.length (List.map (fun p => [V.str (HPair.key p), V.int IntKind.u8 (HPair.kind p), V.int IntKind.i64 (HPair.num p), V.str (HPair.text p)]) (HRule.want r))) : Int)) (cond (Nat.ble (List.length (List.map (fun p => [V.str (HPair.key p), V.int IntKind.u8 (HPair.kind p), V.int IntKind.i64 (HPair.num p), V.str (HPair.text p)]) (HRule.want r))) (1000000 : Nat)) (cond (Nat.ble (List.length (List.map (fun p => [V.str (HPair.key p), V.int IntKind.u8 (HPair.kind p), V.int IntKind.i64 (HPair.num p), V.str (HPair.text p)]) h)) (1000000 : Nat)) (cond (HRule.all r) (some { v := V.bool (N.refCount (List.map (fun r => { key := V.toStr (List.getD r (0 : Nat) V.undef), kind := V.toInt (List.getD r (1 : Nat) V.undef), num := V.toInt (List.getD r (2 : Nat) V.undef), text := V.toStr (List.getD r (3 : Nat) V.undef) : HPair }) (List.map (fun p => [V.str (HPair.key p), V.int IntKind.u8 (HPair.kind p), V.int IntKind.i64 (HPair.num p), V.str (HPair.text p)]) h)) (List.map (fun r => { key := V.toStr (List.getD r (0 : Nat) V.undef), kind := V.toInt (List.getD r (1 : Nat) V.undef), num := V.toInt (List.getD r (2 : Nat) V.undef), text := V.toStr (List.getD r (3 : Nat) V.undef) : HPair }) (List.drop (0 : Nat) (List.map (fun p => [V.str (HPair.key p), V.int IntKind.u8 (HPair.kind p), V.int IntKind.i64 (HPair.num p), V.str (HPair.text p)]) (HRule.want r)))) (0 : Int) == (↑(List.length (List.map (fun p => [V.str (HPair.key p), V.int IntKind.u8 (HPair.kind p), V.int IntKind.i64 (HPair.num p), V.str (HPair.text p)]) (HRule.want r))) : Int)), bx := [] : DRes }) (some { v := V.bool (ilt (0 : Int) (N.refCount (List.map (fun r => { key := V.toStr (List.getD r (0 : Nat) V.undef), kind := V.toInt (List.getD r (1 : Nat) V.undef), num := V.toInt (List.getD r (2 : Nat) V.undef), text := V.toStr (List.getD r (3 : Nat) V.undef) : HPair }) (List.map (fun p => [V.str (HPair.key p), V.int IntKind.u8 (HPair.kind p), V.int IntKind.i64 (HPair.num p), V.str (HPair.text p)]) h)) (List.map (fun r => { key := V.toStr (List.getD r (0 : Nat) V.undef), kind := V.toInt (List.getD r (1 : Nat) V.undef), num := V.toInt (List.getD r (2 : Nat) V.undef), text := V.toStr (List.getD r (3 : Nat) V.undef) : HPair }) (List.drop (0 : Nat) (List.map (fun p => [V.str (HPair.key p), V.int IntKind.u8 (HPair.kind p), V.int IntKind.i64 (HPair.num p), V.str (HPair.text p)]) (HRule.want r)))) (0 : Int))), bx := [] : DRes })) (none)) (none)) (none)))) := by kernel_rfl
theorem q_refGoesR (r2 : List (List V)) (i7 : Int) (r30 : List (List V)) (i31 : Int) (i32 : Int) (ix0 : Int) (sx0 : Bytes) (rx0 : List (List V)) (bx0 : Bool) (K : Ex → St → Option R) : evRound eRefGoes 20 9 { fr := [(2, .slc [.str, .int .u8, .int .i64, .str] r2), (3, .ptr 10000 0 0 0), (7, .int .i64 i7), (30, .slc [.str, .int .u8, .int .i64, .str] r30), (31, .int .i64 i31), (32, .int .i64 i32)], tab := [(10000, .var [.int .u8 ix0, .str sx0, .slc [.str, .int .u8, .int .i64, .str] rx0, .bool bx0])] } K =
 cond (ilt i32 i31) (cond (decide ((0 : Int) ≤ i32 ∧ i32 < (↑(List.length r30) : Int))) (cond (Nat.ble (List.length (List.map (fun r => { key := V.toStr (List.getD r (0 : Nat) V.undef), kind := V.toInt (List.getD r (1 : Nat) V.undef), num := V.toInt (List.getD r (2 : Nat) V.undef), text := V.toStr (List.getD r (3 : Nat) V.undef) : HPair }) r2)) (1000000 : Nat)) (cond (N.refHas { key := V.toStr (List.getD (List.getD r30 (Int.toNat i32) []) (0 : Nat) V.undef), kind := V.toInt (List.getD (List.getD r30 (Int.toNat i32) []) (1 : Nat) V.undef), num := V.toInt (List.getD (List.getD r30 (Int.toNat i32) []) (2 : Nat) V.undef), text := V.toStr (List.getD (List.getD r30 (Int.toNat i32) []) (3 : Nat) V.undef) : HPair } (List.map (fun r => { key := V.toStr (List.getD r (0 : Nat) V.undef), kind := V.toInt (List.getD r (1 : Nat) V.undef), num := V.toInt (List.getD r (2 : Nat) V.undef), text := V.toStr (List.getD r (3 : Nat) V.undef) : HPair }) r2)) (K Ex.normal { fr := [((2 : Nat), V.slc [Sh.str, Sh.int IntKind.u8, Sh.int IntKind.i64, Sh.str] r2), ((3 : Nat), V.ptr (10000 : Nat) (0 : Nat) (0 : Nat) (0 : Nat)), ((7 : Nat), V.int IntKind.i64 (IntKind.wrap IntKind.i64 (i7 + (1 : Int)))), ((30 : Nat), V.slc [Sh.str, Sh.int IntKind.u8, Sh.int IntKind.i64, Sh.str] r30), ((31 : Nat), V.int IntKind.i64 i31), ((32 : Nat), V.int IntKind.i64 (IntKind.wrap IntKind.i64 (i32 + (1 : Int))))], tab := [((10000 : Nat), Box.var [V.int IntKind.u8 ix0, V.str sx0, V.slc [Sh.str, Sh.int IntKind.u8, Sh.int IntKind.i64, Sh.str] rx0, V.bool bx0])] : St }) (K Ex.normal { fr := [((2 : Nat), V.slc [Sh.str, Sh.int IntKind.u8, Sh.int IntKind.i64, Sh.str] r2), ((3 : Nat), V.ptr (10000 : Nat) (0 : Nat) (0 : Nat) (0 : Nat)), ((7 : Nat), V.int IntKind.i64 i7), ((30 : Nat), V.slc [Sh.str, Sh.int IntKind.u8, Sh.int IntKind.i64, Sh.str] r30), ((31 : Nat), V.int IntKind.i64 i31), ((32 : Nat), V.int IntKind.i64 (IntKind.wrap IntKind.i64 (i32 + (1 : Int))))], tab := [((10000 : Nat), Box.var [V.int IntKind.u8 ix0, V.str sx0, V.slc [Sh.str, Sh.int IntKind.u8, Sh.int IntKind.i64, Sh.str] rx0, V.bool bx0])] : St })) (none)) (none)) (K (Ex.exit (0 : Nat)) { fr := [((3 : Nat), V.ptr (10000 : Nat) (0 : Nat) (0 : Nat) (0 : Nat)), ((7 : Nat), V.int IntKind.i64 i7)], tab := [((10000 : Nat), Box.var [V.int IntKind.u8 ix0, V.str sx0, V.slc [Sh.str, Sh.int IntKind.u8, Sh.int IntKind.i64, Sh.str] rx0, V.bool bx0])] : St }) := by kernel_rfl
theorem refCount_cons (h : List HPair) (p : HPair) (r : List HPair) (n : Int) : N.refCount h (p :: r) n = cond (N.refHas p h) (N.refCount h r (n + 1)) (N.refCount h r n) := rfl
theorem ok_refGoes : FnOk Tryd.prog 20 dRefGoes := by
  refine den_okF (env_ok ((((TOk.nil _).cons ok_refMatches).cons ok_refSplit).cons ok_refHas)) (E := eRefGoes) Tryd.func20 [9] (by kernel_rfl) (one1 (rounds_of rfl fun l K q h => ?_)) fun a _ h => ?_
  · unfold gRefGoes at h
    split at h
    · rename_i r2 n7 r n i s1 s2 s3 all
      have h1 := (cond_none h).1; replace h := (cond_none h).2; have h2 := (cond_none h).1; replace h := (cond_none h).2; have h3 := (cond_none h).1; replace h := (cond_none h).2; have h4 := (cond_none h).1; replace h := (cond_none h).2; have h5 := (cond_none h).1; replace h := (cond_none h).2; have h6 := (cond_none h).1; replace h := (cond_none h).2; have h7 := (cond_none h).1; replace h := (cond_none h).2
      have e1 := ieq_of h1
      have e6 := ieq_of h6
      have e7 := ieq_of h7
      subst e1 e6 e7
      have h4 : r.length ≤ 1000000 := ble_of h4
      have h5 : r2.length ≤ 1000000 := ble_of h5
      refine range_ind (E := eRefGoes) (f := 20) (id := 9) (A := Int) r (fun n i => { fr := [(2, .slc [.str, .int .u8, .int .i64, .str] r2), (3, .ptr 10000 0 0 0), (7, .int .i64 n), (30, .slc [.str, .int .u8, .int .i64, .str] r), (31, .int .i64 r.length), (32, .int .i64 i)], tab := [(10000, .var [.int .u8 s1, .str s2, .slc [.str, .int .u8, .int .i64, .str] s3, .bool all])] })
        (fun n i => 0 ≤ n ∧ n ≤ i)
        (fun n l K => K (.exit 0) { fr := [(3, .ptr 10000 0 0 0), (7, .int .i64 (N.refCount (rowsP r2) (rowsP l) n))], tab := [(10000, .var [.int .u8 s1, .str s2, .slc [.str, .int .u8, .int .i64, .str] s3, .bool all])] }) (fun n i ⟨hn, hn2⟩ hi => ?_) (fun n _ => ?_) 0 0 (Int.le_refl _) (by omega) ⟨Int.le_refl _, by simp⟩ K q (by assumption)
      · have e : ∀ l, N.refCount (rowsP r2) (rowsP (r.getD i [] :: l)) n = cond (N.refHas (rowP (r.getD i [])) (rowsP r2)) (N.refCount (rowsP r2) (rowsP l) (n + 1)) (N.refCount (rowsP r2) (rowsP l) n) := fun _ => rfl
        have T : ∀ K : Ex → St → Option R, evRound eRefGoes 20 9 { fr := [(2, .slc [.str, .int .u8, .int .i64, .str] r2), (3, .ptr 10000 0 0 0), (7, .int .i64 n), (30, .slc [.str, .int .u8, .int .i64, .str] r), (31, .int .i64 r.length), (32, .int .i64 i)], tab := [(10000, .var [.int .u8 s1, .str s2, .slc [.str, .int .u8, .int .i64, .str] s3, .bool all])] } K =
            cond (N.refHas (rowP (r.getD i [])) (rowsP r2)) (K .normal { fr := [(2, .slc [.str, .int .u8, .int .i64, .str] r2), (3, .ptr 10000 0 0 0), (7, .int .i64 (n + 1)), (30, .slc [.str, .int .u8, .int .i64, .str] r), (31, .int .i64 r.length), (32, .int .i64 ((i : Int) + 1))], tab := [(10000, .var [.int .u8 s1, .str s2, .slc [.str, .int .u8, .int .i64, .str] s3, .bool all])] })
              (K .normal { fr := [(2, .slc [.str, .int .u8, .int .i64, .str] r2), (3, .ptr 10000 0 0 0), (7, .int .i64 n), (30, .slc [.str, .int .u8, .int .i64, .str] r), (31, .int .i64 r.length), (32, .int .i64 ((i : Int) + 1))], tab := [(10000, .var [.int .u8 s1, .str s2, .slc [.str, .int .u8, .int .i64, .str] s3, .bool all])] }) := fun K => by
          rw [q_refGoesR]
          simp (disch := omega) only [evs, Int.toNat_natCast, fold_rowsP, rowsP_length]
          rfl
        cases hc : N.refHas (rowP (r.getD i [])) (rowsP r2) with
        | true => exact .inl ⟨n + 1, ⟨by omega, by omega⟩, fun K => by rw [T, hc]; rfl, fun K => by rw [e, hc]; rfl⟩
        | false => exact .inl ⟨n, ⟨by omega, by omega⟩, fun K => by rw [T, hc]; rfl, fun K => by rw [e, hc]; rfl⟩
      · refine ⟨.exit 0, { fr := [(3, .ptr 10000 0 0 0), (7, .int .i64 n)], tab := [(10000, .var [.int .u8 s1, .str s2, .slc [.str, .int .u8, .int .i64, .str] s3, .bool all])] }, by simp, fun K => ?_, fun K => rfl⟩
        rw [q_refGoesR]
        simp (disch := omega) only [evs]
    · cases h
  · obtain ⟨r, k, h'⟩ := a
    obtain ⟨h1, h2⟩ := bcond h
    obtain ⟨h1, h3⟩ := bcond h1
    obtain ⟨h2, h4⟩ := bcond h2
    have h1 : r.key.length + 1 ≤ 1000000 := ble_of h1
    have h3 : k.length + 1 ≤ 1000000 := ble_of h3
    have h2 : r.want.length ≤ 1000000 := ble_of h2
    have h4 : h'.length ≤ 1000000 := ble_of h4
    refine (q_refGoes r k h').trans ?_
    show _ = some (⟨.bool (N.refGoes r k h'), [], []⟩ : DRes)
    unfold N.refGoes
    have w1 := (words_small r.key).1
    have w2 := (words_small k).1
    have es : ∀ l : List Bytes, (l.map (fun n => [V.str n])).map (fun r => V.toStr (List.getD r 0 V.undef)) = l := fun l => rowsS_enc l
    cases r.sort == 0 with
    | true => rfl
    | false =>
      cases r.sort == 1 with
      | true => rfl
      | false =>
        cases r.sort == 2 with
        | true => simp (disch := omega) only [evs, es]
        | false =>
          simp (disch := omega) only [evs, List.drop_zero, pairs_enc]
          cases r.all <;> rfl
end Go.Ev

/- Words joined again, patterns of stars: plain lemmas, no condition. -/
namespace Go.Ev
open Go
namespace N
def joinTail (sep : Bytes) : List Bytes → Bytes
  | [] => [] | w :: r => sep ++ (w ++ joinTail sep r)
def joinS (sep : Bytes) : List Bytes → Bytes
  | [] => [] | w :: r => w ++ joinTail sep r
def rep (l : Bytes) : Nat → Bytes
  | 0 => [] | c + 1 => l ++ rep l c
end N
theorem joinTail_length (sep : Bytes) (m : Nat) : ∀ l : List Bytes, (∀ w ∈ l, w.length ≤ m) → (N.joinTail sep l).length ≤ l.length * (m + sep.length)
  | [], _ => Nat.zero_le _
  | w :: r, h => by
    have h1 := h w List.mem_cons_self
    have h2 := joinTail_length sep m r fun v hv => h v (List.mem_cons_of_mem _ hv)
    simp only [N.joinTail, List.length_append, List.length_cons, Nat.add_mul, Nat.one_mul]
    rw [Nat.mul_add] at h2 ⊢
    omega
theorem joinS_length (sep : Bytes) (m : Nat) : ∀ l : List Bytes, (∀ w ∈ l, w.length ≤ m) → (N.joinS sep l).length ≤ l.length * (m + sep.length)
  | [], _ => Nat.zero_le _
  | w :: r, h => by
    have h1 := h w List.mem_cons_self
    have h2 := joinTail_length sep m r fun v hv => h v (List.mem_cons_of_mem _ hv)
    simp only [N.joinS, List.length_append, List.length_cons, Nat.add_mul, Nat.one_mul]
    rw [Nat.mul_add] at h2 ⊢
    omega
/-- No word has a point in it. -/
def Free (l : List Bytes) : Prop := ∀ w ∈ l, ∀ c ∈ w, c ≠ 46
theorem splitDot_free : ∀ s, Free (N.splitDot s)
  | [] => fun w hw c hc => by
    have hw : w ∈ [[]] := hw
    rw [List.mem_singleton] at hw; subst hw; cases hc
  | c :: r => by
    have ih := splitDot_free r
    intro w hw x hx
    unfold N.splitDot at hw
    cases hc : c == 46 with
    | true =>
      rw [hc, cond_true] at hw
      rcases List.mem_cons.1 hw with rfl | hw
      · cases hx
      · exact ih w hw x hx
    | false =>
      rw [hc, cond_false] at hw
      cases hs : N.splitDot r with
      | nil => exact absurd hs (splitDot_ne _)
      | cons v vs =>
        rw [hs] at hw ih
        rcases List.mem_cons.1 hw with rfl | hw
        · rcases List.mem_cons.1 hx with rfl | hx
          · simpa using hc
          · exact ih v List.mem_cons_self x hx
        · exact ih w (List.mem_cons_of_mem _ hw) x hx
theorem splitDot_word : ∀ (w t : Bytes), (∀ c ∈ w, c ≠ 46) → N.splitDot (w ++ 46 :: t) = w :: N.splitDot t
  | [], t, _ => rfl
  | c :: w, t, h => by
    have hc : (c == 46) = false := by simpa using h c List.mem_cons_self
    have ih := splitDot_word w t fun x hx => h x (List.mem_cons_of_mem _ hx)
    show cond (c == 46) ([] :: N.splitDot (w ++ 46 :: t)) (match N.splitDot (w ++ 46 :: t) with | [] => [[c]] | v :: vs => (c :: v) :: vs) = _
    rw [hc, cond_false, ih]
theorem splitDot_last : ∀ (w : Bytes), (∀ c ∈ w, c ≠ 46) → N.splitDot w = [w]
  | [], _ => rfl
  | c :: w, h => by
    have hc : (c == 46) = false := by simpa using h c List.mem_cons_self
    have ih := splitDot_last w fun x hx => h x (List.mem_cons_of_mem _ hx)
    show cond (c == 46) ([] :: N.splitDot w) (match N.splitDot w with | [] => [[c]] | v :: vs => (c :: v) :: vs) = _
    rw [hc, cond_false, ih]
theorem splitDot_join : ∀ (l : List Bytes), l ≠ [] → Free l → N.splitDot (N.joinS [46] l) = l
  | [], h, _ => absurd rfl h
  | [w], _, h => by
    show N.splitDot (w ++ []) = _
    rw [List.append_nil]; exact splitDot_last w (h w List.mem_cons_self)
  | w :: v :: r, _, h => by
    show N.splitDot (w ++ 46 :: (v ++ N.joinTail [46] r)) = _
    rw [splitDot_word w _ (h w List.mem_cons_self)]
    have := splitDot_join (v :: r) (by simp) fun x hx => h x (List.mem_cons_of_mem _ hx)
    rw [show N.joinS [46] (v :: r) = v ++ N.joinTail [46] r from rfl] at this
    rw [this]
theorem join_splitDot : ∀ s, N.joinS [46] (N.splitDot s) = s
  | [] => rfl
  | c :: r => by
    have ih := join_splitDot r
    show N.joinS [46] (cond (c == 46) ([] :: N.splitDot r) (match N.splitDot r with | [] => [[c]] | w :: ws => (c :: w) :: ws)) = _
    cases hs : N.splitDot r with
    | nil => exact absurd hs (splitDot_ne _)
    | cons w ws =>
      rw [hs] at ih
      cases hc : c == 46 with
      | true =>
        have hc : c = 46 := by simpa using hc
        subst hc
        show 46 :: (w ++ N.joinTail [46] ws) = _
        rw [show w ++ N.joinTail [46] ws = r from ih]
      | false =>
        show c :: (w ++ N.joinTail [46] ws) = _
        rw [show w ++ N.joinTail [46] ws = r from ih]
theorem words_free (s : Bytes) : Free (N.words s) := by
  unfold N.words
  cases s.isEmpty with
  | true => exact fun w hw => by cases hw
  | false => exact splitDot_free s
theorem words_join {l : List Bytes} (hl : l ≠ []) (h : Free l) (hne : N.joinS [46] l ≠ []) : N.words (N.joinS [46] l) = l := by
  unfold N.words
  cases e : N.joinS [46] l with
  | nil => exact absurd e hne
  | cons c r => rw [← e]; rw [show (N.joinS [46] l).isEmpty = false by rw [e]; rfl]; exact splitDot_join l hl h
theorem join_words (s : Bytes) : N.joinS [46] (N.words s) = s := by
  unfold N.words
  cases s with
  | nil => rfl
  | cons c r => exact join_splitDot (c :: r)
theorem words_inj {s t : Bytes} (h : N.words s = N.words t) : s = t := by rw [← join_words s, ← join_words t, h]

/-! ### Keys as patterns -/
/-- A key's words. -/
def KeyOk (l : List Bytes) : Prop := ∀ w ∈ l, w ≠ hash ∧ w ≠ star
theorem refKeyL_key : ∀ l, N.refKeyL false l = 0 → KeyOk l
  | [], _ => fun w hw => by cases hw
  | w :: r, h => by
    unfold N.refKeyL at h
    cases hb : cond ((w.length : Int) == 0) true (!N.plain w) with
    | true => rw [hb] at h; cases h
    | false =>
      rw [hb] at h
      have ih := refKeyL_key r h
      intro v hv
      rcases List.mem_cons.1 hv with rfl | hv
      · refine ⟨fun e => ?_, fun e => ?_⟩ <;> subst e <;> cases hb
      · exact ih v hv
theorem refKey_key {s : Bytes} (h : (N.refKey s false != 0) = false) : KeyOk (N.words s) := by
  unfold N.refKey at h
  cases e : ilt 64 s.length with
  | true => rw [e] at h; cases h
  | false => rw [e, cond_false] at h; exact refKeyL_key _ (by simpa using h)
theorem M_key : ∀ {k o : List Bytes}, KeyOk k → (M k o ↔ k = o)
  | [], o, _ => by rw [M_nil]; exact ⟨fun h => h.symm, fun h => h.symm⟩
  | w :: k, o, h => by
    obtain ⟨h1, h2⟩ := h w List.mem_cons_self
    rw [M_one h1]
    constructor
    · rintro ⟨x, k', rfl, h3, h4⟩
      rw [(M_key fun v hv => h v (List.mem_cons_of_mem _ hv)).1 h4, h3.resolve_left h2]
    · intro e
      subst e
      exact ⟨w, k, rfl, .inr rfl, (M_key fun v hv => h v (List.mem_cons_of_mem _ hv)).2 rfl⟩
theorem M_all (k : List Bytes) : M [hash] k := M_hash_drop.2 ⟨k.length, Nat.le_refl _, by rw [List.drop_length]; exact .nil⟩
theorem M_wide {w : Bytes} {u v k : List Bytes} (h : M (u ++ w :: v) k) : M (u ++ hash :: v) k := by
  obtain ⟨n, h1, h2, h3⟩ := M_append.1 h
  refine M_append.2 ⟨n, h1, h2, ?_⟩
  by_cases hw : w = hash
  · rw [← hw]; exact h3
  · obtain ⟨x, k', e, _, h5⟩ := (M_one hw).1 h3
    rw [e]; exact .eat (.skip h5)
theorem set_split {l : List Bytes} {i : Nat} (h : i < l.length) (w : Bytes) : l = l.take i ++ l.getD i [] :: l.drop (i + 1) ∧ l.set i w = l.take i ++ w :: l.drop (i + 1) := by
  refine ⟨?_, List.set_eq_take_append_cons_drop .. |>.trans (by rw [if_pos h])⟩
  rw [← getD_at h, List.take_append_drop]
theorem M_stars : ∀ (n : Nat) (k : List Bytes), M (List.replicate n star) k ↔ k.length = n
  | 0, k => by rw [show List.replicate 0 star = ([] : List Bytes) from rfl, M_nil, List.length_eq_zero_iff]
  | n + 1, k => by
    rw [List.replicate_succ, M_one (by decide)]
    constructor
    · rintro ⟨x, k', rfl, _, h⟩
      rw [List.length_cons, (M_stars n k').1 h]
    · intro h
      cases k with
      | nil => simp at h
      | cons x k' => exact ⟨x, k', rfl, .inl rfl, (M_stars n k').2 (by simpa using h)⟩
theorem M_stars_hash (n : Nat) (k : List Bytes) : M (List.replicate n star ++ [hash]) k ↔ n ≤ k.length := by
  rw [M_append]
  constructor
  · rintro ⟨m, h1, h2, _⟩
    have := (M_stars n _).1 h2
    rw [List.length_take] at this; omega
  · intro h
    exact ⟨n, h, (M_stars n _).2 (by rw [List.length_take]; omega), M_all _⟩
theorem rep_stars : ∀ n : Nat, N.rep [46, 42] n = N.joinTail [46] (List.replicate n star)
  | 0 => rfl
  | n + 1 => by
    show [46, 42] ++ N.rep [46, 42] n = [46] ++ ([42] ++ N.joinTail [46] (List.replicate n star))
    rw [rep_stars n]; rfl
theorem rep_drop {n : Nat} (h : 1 ≤ n) : (N.rep [46, 42] n).drop 1 = N.joinS [46] (List.replicate n star) := by
  cases n with
  | zero => omega
  | succ n => rw [rep_stars]; rfl
theorem joinTail_append (sep : Bytes) : ∀ (l m : List Bytes), N.joinTail sep (l ++ m) = N.joinTail sep l ++ N.joinTail sep m
  | [], m => rfl
  | w :: l, m => by
    show sep ++ (w ++ N.joinTail sep (l ++ m)) = sep ++ (w ++ N.joinTail sep l) ++ N.joinTail sep m
    rw [joinTail_append sep l m]; simp
theorem stars_free (n : Nat) : Free (List.replicate n star) := fun w hw c hc => by
  have := (List.mem_replicate.1 hw).2
  subst this
  have := List.mem_singleton.1 hc
  subst this; decide
theorem rep_length (l : Bytes) : ∀ n, (N.rep l n).length = n * l.length
  | 0 => by simp [N.rep]
  | n + 1 => by simp only [N.rep, List.length_append, rep_length l n, Nat.add_mul, Nat.one_mul]; omega
end Go.Ev

/- What the statements on rules reckon: each is true; lemmas; the function that writes numbers is a premise. -/
namespace Go.Ev
open Go Go.Proofs
set_option maxRecDepth 100000

noncomputable def eAw9' : Env := env Tryd.prog [(84, dTrue)] [] []
theorem q_aw9'  : evFn eAw9' 48 [] [] some =
 some { v := V.bool true, bx := [] : DRes } := by kernel_rfl
theorem ok_aw9' (hN : FnOk Tryd.prog 75 dOutNum) : FnOk Tryd.prog 48 dTrue := den_okF (env_ok ((TOk.nil _).cons (ok_aw9 hN))) (E := eAw9') Tryd.func48 [] (by kernel_rfl) none0 fun _ _ _ => q_aw9'
noncomputable def eAw10 : Env := env Tryd.prog [(47, dTrue), (48, dTrue), (16, dRuleCheck), (19, dGoes)] [] []
theorem q_aw10 : evFn eAw10 11 [] [] some = some { v := .bool true, bx := [] } := by kernel_rfl
theorem ok_aw10 (hN : FnOk Tryd.prog 75 dOutNum) : FnOk Tryd.prog 11 dTrue :=
  den_okF (env_ok (((((TOk.nil _).cons ok_goes).cons ok_ruleCheck).cons (ok_aw9' hN)).cons ok_aw4')) (E := eAw10) Tryd.func11 [] (by kernel_rfl) none0 fun _ _ _ => q_aw10
theorem lightR_small {r : HRule} (h : N.lightR r = true) : r.key.length ≤ 100 ∧ r.want.length ≤ 12 := by
  obtain ⟨h1, h2⟩ := bcond h
  exact ⟨by have := ile_of h1; omega, light_small h2⟩
theorem refRule_sort {r : HRule} (h : N.refRuleCheck r = 0) : r.sort ≤ 3 := by
  unfold N.refRuleCheck at h
  cases e : ilt 3 r.sort with
  | true => rw [e] at h; cases h
  | false => exact ilt_nof e
theorem self_key {k o : Bytes} (hk : KeyOk (N.words k)) : N.matchW (N.words k) (N.words o) = (k == o) := by
  rw [Bool.eq_iff_iff, matchW_iff, M_key hk, beq_iff_eq]
  exact ⟨words_inj, fun h => by rw [h]⟩
theorem headsP_self {h : List HPair} (hz : N.headCheck h = 0) : ∀ l : List HPair, (∀ p ∈ l, p ∈ h) → N.headsP h true l = true
  | [], _ => rfl
  | p :: r, hl => by
    unfold N.headsP
    rw [hasP_eq hz, (refHas_iff p h).2 (hl p List.mem_cons_self)]
    exact headsP_self hz r fun q hq => hl q (List.mem_cons_of_mem _ hq)
noncomputable def eLawMG : Env := env Tryd.prog [(11, dTrue), (12, dLightR), (13, dLight), (14, dRefRuleCheck), (15, dRuleTo), (16, dRuleCheck), (17, dRefKey), (18, dHeadCheck), (19, dGoes), (20, dRefGoes)] [] []
theorem q_lawMG (r : HRule) (k : Bytes) (h : List HPair) : evFn eLawMG 3 ((aCons (vAgg cRule) (aCons vStr (aOne (vSl cPair)))).enc (r, k, h)) ([]) some =
 cond (!N.lightR { sort := HRule.sort r, key := HRule.key r, want := List.map (fun r => { key := V.toStr (List.getD r (0 : Nat) V.undef), kind := V.toInt (List.getD r (1 : Nat) V.undef), num := V.toInt (List.getD r (2 : Nat) V.undef), text := V.toStr (List.getD r (3 : Nat) V.undef) : HPair }) (List.map (fun p => [V.str (HPair.key p), V.int IntKind.u8 (HPair.kind p), V.int IntKind.i64 (HPair.num p), V.str (HPair.text p)]) (HRule.want r)), all := HRule.all r : HRule }) (some { v := V.bool true, bx := [] : DRes }) (cond (!N.light (List.map (fun r => { key := V.toStr (List.getD r (0 : Nat) V.undef), kind := V.toInt (List.getD r (1 : Nat) V.undef), num := V.toInt (List.getD r (2 : Nat) V.undef), text := V.toStr (List.getD r (3 : Nat) V.undef) : HPair }) (List.map (fun p => [V.str (HPair.key p), V.int IntKind.u8 (HPair.kind p), V.int IntKind.i64 (HPair.num p), V.str (HPair.text p)]) h))) (some { v := V.bool true, bx := [] : DRes }) (cond (Nat.ble (List.length (List.map (fun r => { key := V.toStr (List.getD r (0 : Nat) V.undef), kind := V.toInt (List.getD r (1 : Nat) V.undef), num := V.toInt (List.getD r (2 : Nat) V.undef), text := V.toStr (List.getD r (3 : Nat) V.undef) : HPair }) (List.map (fun p => [V.str (HPair.key p), V.int IntKind.u8 (HPair.kind p), V.int IntKind.i64 (HPair.num p), V.str (HPair.text p)]) (HRule.want r)))) (1000000 : Nat)) (cond (N.ruleCheck { sort := HRule.sort r, key := HRule.key r, want := List.map (fun r => { key := V.toStr (List.getD r (0 : Nat) V.undef), kind := V.toInt (List.getD r (1 : Nat) V.undef), num := V.toInt (List.getD r (2 : Nat) V.undef), text := V.toStr (List.getD r (3 : Nat) V.undef) : HPair }) (List.map (fun p => [V.str (HPair.key p), V.int IntKind.u8 (HPair.kind p), V.int IntKind.i64 (HPair.num p), V.str (HPair.text p)]) (HRule.want r)), all := HRule.all r : HRule } != N.refRuleCheck { sort := HRule.sort r, key := HRule.key r, want := List.map (fun r => { key := V.toStr (List.getD r (0 : Nat) V.undef), kind := V.toInt (List.getD r (1 : Nat) V.undef), num := V.toInt (List.getD r (2 : Nat) V.undef), text := V.toStr (List.getD r (3 : Nat) V.undef) : HPair }) (List.map (fun p => [V.str (HPair.key p), V.int IntKind.u8 (HPair.kind p), V.int IntKind.i64 (HPair.num p), V.str (HPair.text p)]) (List.map (fun r => { key := V.toStr (List.getD r (0 : Nat) V.undef), kind := V.toInt (List.getD r (1 : Nat) V.undef), num := V.toInt (List.getD r (2 : Nat) V.undef), text := V.toStr (List.getD r (3 : Nat) V.undef) : HPair }) (List.map (fun p => [V.str (HPair.key p), V.int IntKind.u8 (HPair.kind p), V.int IntKind.i64 (HPair.num p), V.str (HPair.text p)]) (HRule.want r)))), all := HRule.all r : HRule }) (some { v := V.bool false, bx := [] : DRes }) (cond (N.refRuleCheck { sort := HRule.sort r, key := HRule.key r, want := List.map (fun r => { key := V.toStr (List.getD r (0 : Nat) V.undef), kind := V.toInt (List.getD r (1 : Nat) V.undef), num := V.toInt (List.getD r (2 : Nat) V.undef), text := V.toStr (List.getD r (3 : Nat) V.undef) : HPair }) (List.map (fun p => [V.str (HPair.key p), V.int IntKind.u8 (HPair.kind p), V.int IntKind.i64 (HPair.num p), V.str (HPair.text p)]) (List.map (fun r => { key := V.toStr (List.getD r (0 : Nat) V.undef), kind := V.toInt (List.getD r (1 : Nat) V.undef), num := V.toInt (List.getD r (2 : Nat) V.undef), text := V.toStr (List.getD r (3 : Nat) V.undef) : HPair }) (List.map (fun p => [V.str (HPair.key p), V.int IntKind.u8 (HPair.kind p), V.int IntKind.i64 (HPair.num p), V.str (HPair.text p)]) (HRule.want r)))), all := HRule.all r : HRule } != (0 : Int)) (some { v := V.bool true, bx := [] : DRes }) (cond (N.refKey k false != (0 : Int)) (some { v := V.bool true, bx := [] : DRes }) (cond (N.headCheck (List.map (fun r => { key := V.toStr (List.getD r (0 : Nat) V.undef), kind := V.toInt (List.getD r (1 : Nat) V.undef), num := V.toInt (List.getD r (2 : Nat) V.undef), text := V.toStr (List.getD r (3 : Nat) V.undef) : HPair }) (List.map (fun p => [V.str (HPair.key p), V.int IntKind.u8 (HPair.kind p), V.int IntKind.i64 (HPair.num p), V.str (HPair.text p)]) h)) != (0 : Int)) (some { v := V.bool true, bx := [] : DRes }) (cond (bif bif Nat.ble (List.length (HRule.key r) + (1 : Nat)) (1000000 : Nat) then Nat.ble (List.length k + (1 : Nat)) (1000000 : Nat) else false then bif Nat.ble (List.length (List.map (fun r => { key := V.toStr (List.getD r (0 : Nat) V.undef), kind := V.toInt (List.getD r (1 : Nat) V.undef), num := V.toInt (List.getD r (2 : Nat) V.undef), text := V.toStr (List.getD r (3 : Nat) V.undef) : HPair }) (List.map (fun p => [V.str (HPair.key p), V.int IntKind.u8 (HPair.kind p), V.int IntKind.i64 (HPair.num p), V.str (HPair.text p)]) (HRule.want r)))) (1000000 : Nat) then Nat.ble (List.length (List.map (fun r => { key := V.toStr (List.getD r (0 : Nat) V.undef), kind := V.toInt (List.getD r (1 : Nat) V.undef), num := V.toInt (List.getD r (2 : Nat) V.undef), text := V.toStr (List.getD r (3 : Nat) V.undef) : HPair }) (List.map (fun p => [V.str (HPair.key p), V.int IntKind.u8 (HPair.kind p), V.int IntKind.i64 (HPair.num p), V.str (HPair.text p)]) h))) (1000000 : Nat) else false else false) (cond (Nat.ble (List.length (List.map (fun r => { key := V.toStr (List.getD r (0 : Nat) V.undef), kind := V.toInt (List.getD r (1 : Nat) V.undef), num := V.toInt (List.getD r (2 : Nat) V.undef), text := V.toStr (List.getD r (3 : Nat) V.undef) : HPair }) (List.map (fun p => [V.str (HPair.key p), V.int IntKind.u8 (HPair.kind p), V.int IntKind.i64 (HPair.num p), V.str (HPair.text p)]) (HRule.want r)))) (1000000 : Nat)) (cond (bif bif Nat.ble (List.length (HRule.key r) + (1 : Nat)) (1000000 : Nat) then Nat.ble (List.length k + (1 : Nat)) (1000000 : Nat) else false then bif Nat.ble (List.length (List.map (fun r => { key := V.toStr (List.getD r (0 : Nat) V.undef), kind := V.toInt (List.getD r (1 : Nat) V.undef), num := V.toInt (List.getD r (2 : Nat) V.undef), text := V.toStr (List.getD r (3 : Nat) V.undef) : HPair }) (List.map (fun p => [V.str (HPair.key p), V.int IntKind.u8 (HPair.kind p), V.int IntKind.i64 (HPair.num p), V.str (HPair.text p)]) (List.map (fun r => { key := V.toStr (List.getD r (0 : Nat) V.undef), kind := V.toInt (List.getD r (1 : Nat) V.undef), num := V.toInt (List.getD r (2 : Nat) V.undef), text := V.toStr (List.getD r (3 : Nat) V.undef) : HPair }) (List.map (fun p => [V.str (HPair.key p), V.int IntKind.u8 (HPair.kind p), V.int IntKind.i64 (HPair.num p), V.str (HPair.text p)]) (HRule.want r)))))) (1000000 : Nat) then Nat.ble (List.length (List.map (fun r => { key := V.toStr (List.getD r (0 : Nat) V.undef), kind := V.toInt (List.getD r (1 : Nat) V.undef), num := V.toInt (List.getD r (2 : Nat) V.undef), text := V.toStr (List.getD r (3 : Nat) V.undef) : HPair }) (List.map (fun p => [V.str (HPair.key p), V.int IntKind.u8 (HPair.kind p), V.int IntKind.i64 (HPair.num p), V.str (HPair.text p)]) h))) (1000000 : Nat) else false else false) (some { v := V.bool (N.goes { sort := HRule.sort r, key := HRule.key r, want := List.map (fun r => { key := V.toStr (List.getD r (0 : Nat) V.undef), kind := V.toInt (List.getD r (1 : Nat) V.undef), num := V.toInt (List.getD r (2 : Nat) V.undef), text := V.toStr (List.getD r (3 : Nat) V.undef) : HPair }) (List.map (fun p => [V.str (HPair.key p), V.int IntKind.u8 (HPair.kind p), V.int IntKind.i64 (HPair.num p), V.str (HPair.text p)]) (HRule.want r)), all := HRule.all r : HRule } k (List.map (fun r => { key := V.toStr (List.getD r (0 : Nat) V.undef), kind := V.toInt (List.getD r (1 : Nat) V.undef), num := V.toInt (List.getD r (2 : Nat) V.undef), text := V.toStr (List.getD r (3 : Nat) V.undef) : HPair }) (List.map (fun p => [V.str (HPair.key p), V.int IntKind.u8 (HPair.kind p), V.int IntKind.i64 (HPair.num p), V.str (HPair.text p)]) h)) == N.refGoes { sort := HRule.sort r, key := HRule.key r, want := List.map (fun r => { key := V.toStr (List.getD r (0 : Nat) V.undef), kind := V.toInt (List.getD r (1 : Nat) V.undef), num := V.toInt (List.getD r (2 : Nat) V.undef), text := V.toStr (List.getD r (3 : Nat) V.undef) : HPair }) (List.map (fun p => [V.str (HPair.key p), V.int IntKind.u8 (HPair.kind p), V.int IntKind.i64 (HPair.num p), V.str (HPair.text p)]) (List.map (fun r => { key := V.toStr (List.getD r (0 : Nat) V.undef), kind := V.toInt (List.getD r (1 : Nat) V.undef), num := V.toInt (List.getD r (2 : Nat) V.undef), text := V.toStr (List.getD r (3 : Nat) V.undef) : HPair }) (List.map (fun p => [V.str (HPair.key p), V.int IntKind.u8 (HPair.kind p), V.int IntKind.i64 (HPair.num p), V.str (HPair.text p)]) (HRule.want r)))), all := HRule.all r : HRule } k (List.map (fun r => { key := V.toStr (List.getD r (0 : Nat) V.undef), kind := V.toInt (List.getD r (1 : Nat) V.undef), num := V.toInt (List.getD r (2 : Nat) V.undef), text := V.toStr (List.getD r (3 : Nat) V.undef) : HPair }) (List.map (fun p => [V.str (HPair.key p), V.int IntKind.u8 (HPair.kind p), V.int IntKind.i64 (HPair.num p), V.str (HPair.text p)]) h))), bx := [] : DRes }) (none)) (none)) (none)))))) (none))) := by kernel_rfl
noncomputable def eLawMP : Env := env Tryd.prog [(11, dTrue), (13, dLight), (17, dRefKey), (18, dHeadCheck), (19, dGoes)] [] []
theorem q_lawMP (a k : Bytes) (h : List HPair) : evFn eLawMP 4 ((aCons vStr (aCons vStr (aOne (vSl cPair)))).enc (a, k, h)) ([]) some =
 cond (N.refKey a false != (0 : Int)) (some { v := V.bool true, bx := [] : DRes }) (cond (N.refKey k false != (0 : Int)) (some { v := V.bool true, bx := [] : DRes }) (cond (!N.light (List.map (fun r => { key := V.toStr (List.getD r (0 : Nat) V.undef), kind := V.toInt (List.getD r (1 : Nat) V.undef), num := V.toInt (List.getD r (2 : Nat) V.undef), text := V.toStr (List.getD r (3 : Nat) V.undef) : HPair }) (List.map (fun p => [V.str (HPair.key p), V.int IntKind.u8 (HPair.kind p), V.int IntKind.i64 (HPair.num p), V.str (HPair.text p)]) h))) (some { v := V.bool true, bx := [] : DRes }) (cond (N.headCheck (List.map (fun r => { key := V.toStr (List.getD r (0 : Nat) V.undef), kind := V.toInt (List.getD r (1 : Nat) V.undef), num := V.toInt (List.getD r (2 : Nat) V.undef), text := V.toStr (List.getD r (3 : Nat) V.undef) : HPair }) (List.map (fun p => [V.str (HPair.key p), V.int IntKind.u8 (HPair.kind p), V.int IntKind.i64 (HPair.num p), V.str (HPair.text p)]) h)) != (0 : Int)) (some { v := V.bool true, bx := [] : DRes }) (cond (bif bif Nat.ble (List.length a + (1 : Nat)) (1000000 : Nat) then Nat.ble (List.length k + (1 : Nat)) (1000000 : Nat) else false then Nat.ble (List.length (List.map (fun r => { key := V.toStr (List.getD r (0 : Nat) V.undef), kind := V.toInt (List.getD r (1 : Nat) V.undef), num := V.toInt (List.getD r (2 : Nat) V.undef), text := V.toStr (List.getD r (3 : Nat) V.undef) : HPair }) (List.map (fun p => [V.str (HPair.key p), V.int IntKind.u8 (HPair.kind p), V.int IntKind.i64 (HPair.num p), V.str (HPair.text p)]) h))) (1000000 : Nat) else false) (cond (bif bif Nat.ble (List.length a + (1 : Nat)) (1000000 : Nat) then Nat.ble (List.length k + (1 : Nat)) (1000000 : Nat) else false then Nat.ble (List.length (List.map (fun r => { key := V.toStr (List.getD r (0 : Nat) V.undef), kind := V.toInt (List.getD r (1 : Nat) V.undef), num := V.toInt (List.getD r (2 : Nat) V.undef), text := V.toStr (List.getD r (3 : Nat) V.undef) : HPair }) (List.map (fun p => [V.str (HPair.key p), V.int IntKind.u8 (HPair.kind p), V.int IntKind.i64 (HPair.num p), V.str (HPair.text p)]) h))) (1000000 : Nat) else false) (cond (N.goes { sort := (0 : Int), key := a, want := List.map (fun r => { key := V.toStr (List.getD r (0 : Nat) V.undef), kind := V.toInt (List.getD r (1 : Nat) V.undef), num := V.toInt (List.getD r (2 : Nat) V.undef), text := V.toStr (List.getD r (3 : Nat) V.undef) : HPair }) [], all := false : HRule } k (List.map (fun r => { key := V.toStr (List.getD r (0 : Nat) V.undef), kind := V.toInt (List.getD r (1 : Nat) V.undef), num := V.toInt (List.getD r (2 : Nat) V.undef), text := V.toStr (List.getD r (3 : Nat) V.undef) : HPair }) (List.map (fun p => [V.str (HPair.key p), V.int IntKind.u8 (HPair.kind p), V.int IntKind.i64 (HPair.num p), V.str (HPair.text p)]) h)) == (a == k)) (cond (bif bif Nat.ble (List.length a + (1 : Nat)) (1000000 : Nat) then Nat.ble (List.length k + (1 : Nat)) (1000000 : Nat) else false then Nat.ble (List.length (List.map (fun r => { key := V.toStr (List.getD r (0 : Nat) V.undef), kind := V.toInt (List.getD r (1 : Nat) V.undef), num := V.toInt (List.getD r (2 : Nat) V.undef), text := V.toStr (List.getD r (3 : Nat) V.undef) : HPair }) (List.map (fun p => [V.str (HPair.key p), V.int IntKind.u8 (HPair.kind p), V.int IntKind.i64 (HPair.num p), V.str (HPair.text p)]) h))) (1000000 : Nat) else false) (cond (N.goes { sort := (2 : Int), key := a, want := List.map (fun r => { key := V.toStr (List.getD r (0 : Nat) V.undef), kind := V.toInt (List.getD r (1 : Nat) V.undef), num := V.toInt (List.getD r (2 : Nat) V.undef), text := V.toStr (List.getD r (3 : Nat) V.undef) : HPair }) [], all := false : HRule } k (List.map (fun r => { key := V.toStr (List.getD r (0 : Nat) V.undef), kind := V.toInt (List.getD r (1 : Nat) V.undef), num := V.toInt (List.getD r (2 : Nat) V.undef), text := V.toStr (List.getD r (3 : Nat) V.undef) : HPair }) (List.map (fun p => [V.str (HPair.key p), V.int IntKind.u8 (HPair.kind p), V.int IntKind.i64 (HPair.num p), V.str (HPair.text p)]) h)) == (a == k)) (cond (bif Nat.ble (List.length k + (1 : Nat)) (1000000 : Nat) then Nat.ble (List.length (List.map (fun r => { key := V.toStr (List.getD r (0 : Nat) V.undef), kind := V.toInt (List.getD r (1 : Nat) V.undef), num := V.toInt (List.getD r (2 : Nat) V.undef), text := V.toStr (List.getD r (3 : Nat) V.undef) : HPair }) (List.map (fun p => [V.str (HPair.key p), V.int IntKind.u8 (HPair.kind p), V.int IntKind.i64 (HPair.num p), V.str (HPair.text p)]) h))) (1000000 : Nat) else false) (cond (bif Nat.ble (List.length k + (1 : Nat)) (1000000 : Nat) then Nat.ble (List.length (List.map (fun r => { key := V.toStr (List.getD r (0 : Nat) V.undef), kind := V.toInt (List.getD r (1 : Nat) V.undef), num := V.toInt (List.getD r (2 : Nat) V.undef), text := V.toStr (List.getD r (3 : Nat) V.undef) : HPair }) (List.map (fun p => [V.str (HPair.key p), V.int IntKind.u8 (HPair.kind p), V.int IntKind.i64 (HPair.num p), V.str (HPair.text p)]) h))) (1000000 : Nat) else false) (cond (bif Nat.ble (List.length k + (1 : Nat)) (1000000 : Nat) then bif Nat.ble (List.length (List.map (fun r => { key := V.toStr (List.getD r (0 : Nat) V.undef), kind := V.toInt (List.getD r (1 : Nat) V.undef), num := V.toInt (List.getD r (2 : Nat) V.undef), text := V.toStr (List.getD r (3 : Nat) V.undef) : HPair }) (List.map (fun p => [V.str (HPair.key p), V.int IntKind.u8 (HPair.kind p), V.int IntKind.i64 (HPair.num p), V.str (HPair.text p)]) h))) (1000000 : Nat) then Nat.ble (List.length (List.map (fun r => { key := V.toStr (List.getD r (0 : Nat) V.undef), kind := V.toInt (List.getD r (1 : Nat) V.undef), num := V.toInt (List.getD r (2 : Nat) V.undef), text := V.toStr (List.getD r (3 : Nat) V.undef) : HPair }) (List.map (fun p => [V.str (HPair.key p), V.int IntKind.u8 (HPair.kind p), V.int IntKind.i64 (HPair.num p), V.str (HPair.text p)]) h))) (1000000 : Nat) else false else false) (some { v := V.bool (N.goes { sort := (3 : Int), key := [], want := List.map (fun r => { key := V.toStr (List.getD r (0 : Nat) V.undef), kind := V.toInt (List.getD r (1 : Nat) V.undef), num := V.toInt (List.getD r (2 : Nat) V.undef), text := V.toStr (List.getD r (3 : Nat) V.undef) : HPair }) (List.map (fun p => [V.str (HPair.key p), V.int IntKind.u8 (HPair.kind p), V.int IntKind.i64 (HPair.num p), V.str (HPair.text p)]) h), all := true : HRule } k (List.map (fun r => { key := V.toStr (List.getD r (0 : Nat) V.undef), kind := V.toInt (List.getD r (1 : Nat) V.undef), num := V.toInt (List.getD r (2 : Nat) V.undef), text := V.toStr (List.getD r (3 : Nat) V.undef) : HPair }) (List.map (fun p => [V.str (HPair.key p), V.int IntKind.u8 (HPair.kind p), V.int IntKind.i64 (HPair.num p), V.str (HPair.text p)]) h))), bx := [] : DRes }) (none)) (none)) (none)) (some { v := V.bool false, bx := [] : DRes })) (none)) (some { v := V.bool false, bx := [] : DRes })) (none)) (none))))) := by kernel_rfl
noncomputable def eLawMS : Env := env Tryd.prog [(11, dTrue), (12, dLightR), (15, dRuleTo), (26, dRuleSame), (27, dRuleSame)] [] []
theorem q_lawMS (a b : HRule) : evFn eLawMS 6 ((aCons (vAgg cRule) (aOne (vAgg cRule))).enc (a, b)) ([]) some =
 cond (!N.lightR { sort := HRule.sort a, key := HRule.key a, want := List.map (fun r => { key := V.toStr (List.getD r (0 : Nat) V.undef), kind := V.toInt (List.getD r (1 : Nat) V.undef), num := V.toInt (List.getD r (2 : Nat) V.undef), text := V.toStr (List.getD r (3 : Nat) V.undef) : HPair }) (List.map (fun p => [V.str (HPair.key p), V.int IntKind.u8 (HPair.kind p), V.int IntKind.i64 (HPair.num p), V.str (HPair.text p)]) (HRule.want a)), all := HRule.all a : HRule }) (some { v := V.bool true, bx := [] : DRes }) (cond (!N.lightR { sort := HRule.sort b, key := HRule.key b, want := List.map (fun r => { key := V.toStr (List.getD r (0 : Nat) V.undef), kind := V.toInt (List.getD r (1 : Nat) V.undef), num := V.toInt (List.getD r (2 : Nat) V.undef), text := V.toStr (List.getD r (3 : Nat) V.undef) : HPair }) (List.map (fun p => [V.str (HPair.key p), V.int IntKind.u8 (HPair.kind p), V.int IntKind.i64 (HPair.num p), V.str (HPair.text p)]) (HRule.want b)), all := HRule.all b : HRule }) (some { v := V.bool true, bx := [] : DRes }) (cond (Nat.ble (List.length (List.map (fun r => { key := V.toStr (List.getD r (0 : Nat) V.undef), kind := V.toInt (List.getD r (1 : Nat) V.undef), num := V.toInt (List.getD r (2 : Nat) V.undef), text := V.toStr (List.getD r (3 : Nat) V.undef) : HPair }) (List.map (fun p => [V.str (HPair.key p), V.int IntKind.u8 (HPair.kind p), V.int IntKind.i64 (HPair.num p), V.str (HPair.text p)]) (HRule.want a)))) (1000000 : Nat)) (cond (Nat.ble (List.length (List.map (fun r => { key := V.toStr (List.getD r (0 : Nat) V.undef), kind := V.toInt (List.getD r (1 : Nat) V.undef), num := V.toInt (List.getD r (2 : Nat) V.undef), text := V.toStr (List.getD r (3 : Nat) V.undef) : HPair }) (List.map (fun p => [V.str (HPair.key p), V.int IntKind.u8 (HPair.kind p), V.int IntKind.i64 (HPair.num p), V.str (HPair.text p)]) (HRule.want a)))) (1000000 : Nat)) (cond (Nat.ble (List.length (List.map (fun r => { key := V.toStr (List.getD r (0 : Nat) V.undef), kind := V.toInt (List.getD r (1 : Nat) V.undef), num := V.toInt (List.getD r (2 : Nat) V.undef), text := V.toStr (List.getD r (3 : Nat) V.undef) : HPair }) (List.map (fun p => [V.str (HPair.key p), V.int IntKind.u8 (HPair.kind p), V.int IntKind.i64 (HPair.num p), V.str (HPair.text p)]) (HRule.want b)))) (1000000 : Nat)) (cond (Nat.ble (List.length (List.map (fun r => { key := V.toStr (List.getD r (0 : Nat) V.undef), kind := V.toInt (List.getD r (1 : Nat) V.undef), num := V.toInt (List.getD r (2 : Nat) V.undef), text := V.toStr (List.getD r (3 : Nat) V.undef) : HPair }) (List.map (fun p => [V.str (HPair.key p), V.int IntKind.u8 (HPair.kind p), V.int IntKind.i64 (HPair.num p), V.str (HPair.text p)]) (List.map (fun r => { key := V.toStr (List.getD r (0 : Nat) V.undef), kind := V.toInt (List.getD r (1 : Nat) V.undef), num := V.toInt (List.getD r (2 : Nat) V.undef), text := V.toStr (List.getD r (3 : Nat) V.undef) : HPair }) (List.map (fun p => [V.str (HPair.key p), V.int IntKind.u8 (HPair.kind p), V.int IntKind.i64 (HPair.num p), V.str (HPair.text p)]) (HRule.want a)))))) (1000000 : Nat)) (cond (N.ruleSame { sort := HRule.sort a, key := HRule.key a, want := List.map (fun r => { key := V.toStr (List.getD r (0 : Nat) V.undef), kind := V.toInt (List.getD r (1 : Nat) V.undef), num := V.toInt (List.getD r (2 : Nat) V.undef), text := V.toStr (List.getD r (3 : Nat) V.undef) : HPair }) (List.map (fun p => [V.str (HPair.key p), V.int IntKind.u8 (HPair.kind p), V.int IntKind.i64 (HPair.num p), V.str (HPair.text p)]) (HRule.want a)), all := HRule.all a : HRule } { sort := HRule.sort b, key := HRule.key b, want := List.map (fun r => { key := V.toStr (List.getD r (0 : Nat) V.undef), kind := V.toInt (List.getD r (1 : Nat) V.undef), num := V.toInt (List.getD r (2 : Nat) V.undef), text := V.toStr (List.getD r (3 : Nat) V.undef) : HPair }) (List.map (fun p => [V.str (HPair.key p), V.int IntKind.u8 (HPair.kind p), V.int IntKind.i64 (HPair.num p), V.str (HPair.text p)]) (HRule.want b)), all := HRule.all b : HRule } == N.ruleSame { sort := HRule.sort a, key := HRule.key a, want := List.map (fun r => { key := V.toStr (List.getD r (0 : Nat) V.undef), kind := V.toInt (List.getD r (1 : Nat) V.undef), num := V.toInt (List.getD r (2 : Nat) V.undef), text := V.toStr (List.getD r (3 : Nat) V.undef) : HPair }) (List.map (fun p => [V.str (HPair.key p), V.int IntKind.u8 (HPair.kind p), V.int IntKind.i64 (HPair.num p), V.str (HPair.text p)]) (List.map (fun r => { key := V.toStr (List.getD r (0 : Nat) V.undef), kind := V.toInt (List.getD r (1 : Nat) V.undef), num := V.toInt (List.getD r (2 : Nat) V.undef), text := V.toStr (List.getD r (3 : Nat) V.undef) : HPair }) (List.map (fun p => [V.str (HPair.key p), V.int IntKind.u8 (HPair.kind p), V.int IntKind.i64 (HPair.num p), V.str (HPair.text p)]) (HRule.want a)))), all := HRule.all a : HRule } { sort := HRule.sort b, key := HRule.key b, want := List.map (fun r => { key := V.toStr (List.getD r (0 : Nat) V.undef), kind := V.toInt (List.getD r (1 : Nat) V.undef), num := V.toInt (List.getD r (2 : Nat) V.undef), text := V.toStr (List.getD r (3 : Nat) V.undef) : HPair }) (List.map (fun p => [V.str (HPair.key p), V.int IntKind.u8 (HPair.kind p), V.int IntKind.i64 (HPair.num p), V.str (HPair.text p)]) (List.map (fun r => { key := V.toStr (List.getD r (0 : Nat) V.undef), kind := V.toInt (List.getD r (1 : Nat) V.undef), num := V.toInt (List.getD r (2 : Nat) V.undef), text := V.toStr (List.getD r (3 : Nat) V.undef) : HPair }) (List.map (fun p => [V.str (HPair.key p), V.int IntKind.u8 (HPair.kind p), V.int IntKind.i64 (HPair.num p), V.str (HPair.text p)]) (HRule.want b)))), all := HRule.all b : HRule }) (cond (Nat.ble (List.length (List.map (fun r => { key := V.toStr (List.getD r (0 : Nat) V.undef), kind := V.toInt (List.getD r (1 : Nat) V.undef), num := V.toInt (List.getD r (2 : Nat) V.undef), text := V.toStr (List.getD r (3 : Nat) V.undef) : HPair }) (List.map (fun p => [V.str (HPair.key p), V.int IntKind.u8 (HPair.kind p), V.int IntKind.i64 (HPair.num p), V.str (HPair.text p)]) (HRule.want a)))) (1000000 : Nat)) (some { v := V.bool (N.ruleSame { sort := HRule.sort a, key := HRule.key a, want := List.map (fun r => { key := V.toStr (List.getD r (0 : Nat) V.undef), kind := V.toInt (List.getD r (1 : Nat) V.undef), num := V.toInt (List.getD r (2 : Nat) V.undef), text := V.toStr (List.getD r (3 : Nat) V.undef) : HPair }) (List.map (fun p => [V.str (HPair.key p), V.int IntKind.u8 (HPair.kind p), V.int IntKind.i64 (HPair.num p), V.str (HPair.text p)]) (HRule.want a)), all := HRule.all a : HRule } { sort := HRule.sort a, key := HRule.key a, want := List.map (fun r => { key := V.toStr (List.getD r (0 : Nat) V.undef), kind := V.toInt (List.getD r (1 : Nat) V.undef), num := V.toInt (List.getD r (2 : Nat) V.undef), text := V.toStr (List.getD r (3 : Nat) V.undef) : HPair }) (List.map (fun p => [V.str (HPair.key p), V.int IntKind.u8 (HPair.kind p), V.int IntKind.i64 (HPair.num p), V.str (HPair.text p)]) (HRule.want a)), all := HRule.all a : HRule }), bx := [] : DRes }) (none)) (some { v := V.bool false, bx := [] : DRes })) (none)) (none)) (none)) (none))) := by kernel_rfl
theorem ok_lawMG (hN : FnOk Tryd.prog 75 dOutNum) : FnOk Tryd.prog 3 (den (aCons (vAgg cRule) (aCons vStr (aOne (vSl cPair)))) bNil (oV vBool) (fun a _ => ile 0 a.1.sort) fun _ _ => (true, ())) := by
  refine den_okF (env_ok (((((((((((TOk.nil _).cons ok_refGoes).cons ok_goes).cons ok_refCheck).cons ok_refKey).cons ok_ruleCheck).cons ok_ruleTo).cons ok_refRuleCheck).cons ok_light).cons ok_lightR).cons (ok_aw10 hN))) (E := eLawMG) Tryd.func3 [] (by kernel_rfl) none0 fun a _ hp => ?_
  obtain ⟨⟨s, rk, w, al⟩, k, h⟩ := a
  have h0 : 0 ≤ s := ile_of hp
  refine (q_lawMG ⟨s, rk, w, al⟩ k h).trans ?_
  show _ = some (⟨.bool true, [], []⟩ : DRes)
  simp only [pairs_enc]
  have hc : N.ruleCheck ⟨s, rk, w, al⟩ = N.refRuleCheck ⟨s, rk, w, al⟩ := ruleCheck_eq h0
  cases h1 : N.lightR ⟨s, rk, w, al⟩ with
  | false => rfl
  | true =>
    obtain ⟨b1, b2⟩ := lightR_small h1
    simp only at b1 b2
    cases h2 : N.light h with
    | false => rfl
    | true =>
      have b3 := light_small h2
      simp (disch := omega) only [evs, hc, bne, beq_self_eq_true, Bool.not_true]
      cases e1 : N.refRuleCheck ⟨s, rk, w, al⟩ == 0 with
      | false => rfl
      | true =>
        cases e2 : N.refKey k false == 0 with
        | false => rfl
        | true =>
          cases e3 : N.headCheck h == 0 with
          | false => rfl
          | true =>
            have b4 := refKey_len (s := k) (b := false) (by rw [bne, e2]; rfl)
            have eg : N.goes ⟨s, rk, w, al⟩ k h = N.refGoes ⟨s, rk, w, al⟩ k h := goes_eq h0 (refRule_sort (ieq_of e1)) (ieq_of e3)
            simp (disch := omega) only [evs, eg, beq_self_eq_true, Bool.not_true]
theorem ok_lawMP (hN : FnOk Tryd.prog 75 dOutNum) : FnOk Tryd.prog 4 (den (aCons vStr (aCons vStr (aOne (vSl cPair)))) bNil (oV vBool) (fun _ _ => true) fun _ _ => (true, ())) := by
  refine den_okF (env_ok ((((((TOk.nil _).cons ok_goes).cons ok_refCheck).cons ok_refKey).cons ok_light).cons (ok_aw10 hN))) (E := eLawMP) Tryd.func4 [] (by kernel_rfl) none0 fun a _ _ => ?_
  obtain ⟨a, k, h⟩ := a
  refine (q_lawMP a k h).trans ?_
  show _ = some (⟨.bool true, [], []⟩ : DRes)
  simp only [pairs_enc]
  cases e1 : N.refKey a false != 0 with
  | true => rfl
  | false =>
    cases e2 : N.refKey k false != 0 with
    | true => rfl
    | false =>
      cases h2 : N.light h with
      | false => rfl
      | true =>
        cases e3 : N.headCheck h != 0 with
        | true => rfl
        | false =>
          have b1 := refKey_len e1
          have b2 := refKey_len e2
          have b3 := light_small h2
          simp (disch := omega) only [evs, Bool.not_true]
          simp only [List.map_nil]
          have g0 : N.goes ⟨0, a, [], false⟩ k h = (k == a) := rfl
          have g2 : N.goes ⟨2, a, [], false⟩ k h = (a == k) := self_key (refKey_key e1)
          have g3 : N.goes ⟨3, [], h, true⟩ k h = true := headsP_self (by simpa using e3) h fun p hp => hp
          have ec : (k == a) = (a == k) := by rw [Bool.eq_iff_iff, beq_iff_eq, beq_iff_eq]; exact eq_comm
          rw [g0, g2, g3, ec, beq_self_eq_true]; rfl
theorem ok_lawMS (hN : FnOk Tryd.prog 75 dOutNum) : FnOk Tryd.prog 6 (den (aCons (vAgg cRule) (aOne (vAgg cRule))) bNil (oV vBool) (fun _ _ => true) fun _ _ => (true, ())) := by
  refine den_okF (env_ok ((((((TOk.nil _).cons ok_refRuleSame).cons ok_ruleSame).cons ok_ruleTo).cons ok_lightR).cons (ok_aw10 hN))) (E := eLawMS) Tryd.func6 [] (by kernel_rfl) none0 fun a _ _ => ?_
  obtain ⟨⟨s, rk, w, al⟩, ⟨s', rk', w', al'⟩⟩ := a
  refine (q_lawMS ⟨s, rk, w, al⟩ ⟨s', rk', w', al'⟩).trans ?_
  show _ = some (⟨.bool true, [], []⟩ : DRes)
  simp only [pairs_enc]
  cases h1 : N.lightR ⟨s, rk, w, al⟩ with
  | false => rfl
  | true =>
    cases h2 : N.lightR ⟨s', rk', w', al'⟩ with
    | false => rfl
    | true =>
      obtain ⟨b1, b2⟩ := lightR_small h1
      obtain ⟨b3, b4⟩ := lightR_small h2
      simp only at b2 b4
      have e : N.ruleSame ⟨s, rk, w, al⟩ ⟨s, rk, w, al⟩ = true := by
        unfold N.ruleSame
        rw [beq_self_eq_true, beq_self_eq_true, beq_self_eq_true, samePs_refl]; rfl
      simp (disch := omega) only [evs, e, beq_self_eq_true, Bool.not_true]
theorem int_wf' {k : IntKind} {n : Int} (h : wfV (.int k n) = true) : k.min ≤ n ∧ n ≤ k.max := by
  unfold wfV Lit.wf at h
  simp at h
  exact h
theorem rule_wf {r : HRule} (h : wfL (cRule.enc r) = true) : ile 0 r.sort = true := by
  have h : cond (wfV (.int .u8 r.sort)) _ false = true := h
  obtain ⟨h, _⟩ := bcond h
  obtain ⟨a1, _⟩ := int_wf' h
  exact ile_t a1
end Go.Ev

/- The statement on heads' bytes: what it reckons is true of what comes in; lemmas, no condition. -/
namespace Go.Ev
open Go Go.Proofs
set_option maxRecDepth 100000

theorem int_wf {k : IntKind} {n : Int} (h : wfV (.int k n) = true) : k.min ≤ n ∧ n ≤ k.max := by
  unfold wfV Lit.wf at h
  simp at h
  exact h
theorem pair_wf {p : HPair} (h : wfL (cPair.enc p) = true) : N.okP p = true := by
  have h : cond (wfV (.str p.key)) (cond (wfV (.int .u8 p.kind)) (cond (wfV (.int .i64 p.num)) (wfL [V.str p.text]) false) false) false = true := h
  obtain ⟨_, h⟩ := bcond h
  obtain ⟨h1, h⟩ := bcond h
  obtain ⟨h2, _⟩ := bcond h
  obtain ⟨a1, a2⟩ := int_wf h1
  obtain ⟨b1, b2⟩ := int_wf h2
  have e1 : IntKind.u8.min = 0 := rfl
  have e2 : IntKind.u8.max = 255 := rfl
  have e3 : IntKind.i64.min = -9223372036854775808 := rfl
  have e4 : IntKind.i64.max = 9223372036854775807 := rfl
  unfold N.okP
  rw [ile_t (by omega), ilt_t (by omega), ile_t (by omega), ile_t (by omega)]; rfl
theorem pairs_wfR : ∀ l : List HPair, wfRs (l.map cPair.enc) = true → l.all N.okP = true
  | [], _ => rfl
  | p :: r, h => by
    have h : cond (wfL (cPair.enc p)) (wfRs (r.map cPair.enc)) false = true := h
    obtain ⟨h1, h2⟩ := bcond h
    rw [List.all_cons, pair_wf h1, pairs_wfR r h2]; rfl
theorem pairs_wf {l : List HPair} (h : wfL ((rSl cPair).enc l) = true) : l.all N.okP = true := by
  have h : cond (cond (Nat.ble (l.map cPair.enc).length 9223372036854775807) (cond (fitsRows cPair.sh (l.map cPair.enc)) (wfRs (l.map cPair.enc)) false) false) true false = true := h
  obtain ⟨h, _⟩ := bcond h
  obtain ⟨_, h⟩ := bcond h
  obtain ⟨_, h⟩ := bcond h
  exact pairs_wfR l h
end Go.Ev

/- What the statements on messages' bytes reckon: each is true; lemmas; the function that writes numbers is a premise. -/
namespace Go.Ev
open Go Go.Proofs
set_option maxRecDepth 100000

theorem okP_eq : N.okP' = N.okP := rfl
theorem ok_refMailSize : FnOk Tryd.prog 44 dMailSizeP := by
  refine den_okF (env_ok (((TOk.nil _).cons ok_refMailB).cons ok_refMailCheck)) (E := eRefMailSize) Tryd.func44 [] (by kernel_rfl) none0 fun m _ h => ?_
  obtain ⟨h, hp⟩ := bcond h
  have hp : ∀ p ∈ m.head, PairOk p := fun p hm => okP_of (List.all_eq_true.1 hp p hm)
  obtain ⟨id, shop, key, head, body, due, hops⟩ := m
  refine (q_refMailSize ⟨id, shop, key, head, body, due, hops⟩).trans ?_
  simp only [nrm_rows]
  show _ = some (⟨.int .i64 (N.mailSize ⟨id, shop, key, head, body, due, hops⟩), [], []⟩ : DRes)
  unfold N.mailSize
  cases hc : N.mailCheck ⟨id, shop, key, head, body, due, hops⟩ != 0 with
  | true => rfl
  | false =>
    have hz : N.mailCheck ⟨id, shop, key, head, body, due, hops⟩ = 0 := by simpa using hc
    simp (disch := omega) only [evs, fitM_of h hz, refMailB_eq hp hz]
noncomputable def eAw13 : Env := env Tryd.prog [(48, dTrue), (41, dMailBytes)] [] []
theorem q_aw13 : evFn eAw13 21 [] [] some = some { v := .bool true, bx := [] } := by kernel_rfl
theorem ok_aw13 (hN : FnOk Tryd.prog 75 dOutNum) : FnOk Tryd.prog 21 dTrue :=
  den_okF (env_ok (((TOk.nil _).cons (ok_mailBytes hN)).cons (ok_aw9' hN))) (E := eAw13) Tryd.func21 [] (by kernel_rfl) none0 fun _ _ _ => q_aw13
noncomputable def eLawMR : Env := env Tryd.prog [(21, dTrue), (34, dNew), (35, dMailRead), (36, dRMail), (25, dMailSame), (37, dInErr), (38, dInLeft), (39, dRLeft)] [] []
theorem q_lawMR (s : Bytes) : evFn eLawMR 9 ((aOne vStr).enc s) ([]) some =
 cond (ilt (600 : Int) (↑(List.length s) : Int)) (some { v := V.bool true, bx := [] : DRes }) (cond (N.goodR { s := s, at' := (0 : Int), code := (0 : Int) : RIn }) (cond (Nat.ble (List.length (List.map (fun r => { key := V.toStr (List.getD r (0 : Nat) V.undef), kind := V.toInt (List.getD r (1 : Nat) V.undef), num := V.toInt (List.getD r (2 : Nat) V.undef), text := V.toStr (List.getD r (3 : Nat) V.undef) : HPair }) (List.map (fun p => [V.str (HPair.key p), V.int IntKind.u8 (HPair.kind p), V.int IntKind.i64 (HPair.num p), V.str (HPair.text p)]) (HMail.head (Prod.fst (N.mailRead { s := s, err := (0 : Int) : InS })))))) (1000000 : Nat)) (cond (N.mailSame { id := HMail.id (Prod.fst (N.mailRead { s := s, err := (0 : Int) : InS })), shop := HMail.shop (Prod.fst (N.mailRead { s := s, err := (0 : Int) : InS })), key := HMail.key (Prod.fst (N.mailRead { s := s, err := (0 : Int) : InS })), head := List.map (fun r => { key := V.toStr (List.getD r (0 : Nat) V.undef), kind := V.toInt (List.getD r (1 : Nat) V.undef), num := V.toInt (List.getD r (2 : Nat) V.undef), text := V.toStr (List.getD r (3 : Nat) V.undef) : HPair }) (List.map (fun p => [V.str (HPair.key p), V.int IntKind.u8 (HPair.kind p), V.int IntKind.i64 (HPair.num p), V.str (HPair.text p)]) (HMail.head (Prod.fst (N.mailRead { s := s, err := (0 : Int) : InS })))), body := HMail.body (Prod.fst (N.mailRead { s := s, err := (0 : Int) : InS })), due := HMail.due (Prod.fst (N.mailRead { s := s, err := (0 : Int) : InS })), hops := HMail.hops (Prod.fst (N.mailRead { s := s, err := (0 : Int) : InS })) : HMail } { id := HMail.id (Prod.fst (N.rMail { s := s, at' := (0 : Int), code := (0 : Int) : RIn })), shop := HMail.shop (Prod.fst (N.rMail { s := s, at' := (0 : Int), code := (0 : Int) : RIn })), key := HMail.key (Prod.fst (N.rMail { s := s, at' := (0 : Int), code := (0 : Int) : RIn })), head := List.map (fun r => { key := V.toStr (List.getD r (0 : Nat) V.undef), kind := V.toInt (List.getD r (1 : Nat) V.undef), num := V.toInt (List.getD r (2 : Nat) V.undef), text := V.toStr (List.getD r (3 : Nat) V.undef) : HPair }) (List.map (fun p => [V.str (HPair.key p), V.int IntKind.u8 (HPair.kind p), V.int IntKind.i64 (HPair.num p), V.str (HPair.text p)]) (HMail.head (Prod.fst (N.rMail { s := s, at' := (0 : Int), code := (0 : Int) : RIn })))), body := HMail.body (Prod.fst (N.rMail { s := s, at' := (0 : Int), code := (0 : Int) : RIn })), due := HMail.due (Prod.fst (N.rMail { s := s, at' := (0 : Int), code := (0 : Int) : RIn })), hops := HMail.hops (Prod.fst (N.rMail { s := s, at' := (0 : Int), code := (0 : Int) : RIn })) : HMail }) (cond (InS.err (Prod.snd (N.mailRead { s := s, err := (0 : Int) : InS })) == RIn.code (Prod.snd (N.rMail { s := s, at' := (0 : Int), code := (0 : Int) : RIn }))) (cond (N.goodR (Prod.snd (N.rMail { s := s, at' := (0 : Int), code := (0 : Int) : RIn }))) (some { v := V.bool (N.inLeft (Prod.snd (N.mailRead { s := s, err := (0 : Int) : InS })) == N.rLeft (Prod.snd (N.rMail { s := s, at' := (0 : Int), code := (0 : Int) : RIn }))), bx := [] : DRes }) (none)) (some { v := V.bool false, bx := [] : DRes })) (some { v := V.bool false, bx := [] : DRes })) (none)) (none)) := by kernel_rfl
noncomputable def eLawMB : Env := env Tryd.prog [(21, dTrue), (22, dLightM), (40, dMailCheck), (41, dMailBytes), (42, dMailCheck), (43, dMailSize), (44, dMailSizeP), (23, dMailCopy), (25, dMailSame), (24, dMailSame), (34, dNew), (35, dMailRead), (45, dRefMailB), (46, dInEnd)] [] []
theorem q_lawMB (m : HMail) : evFn eLawMB 10 ((aOne (vAgg cMail)).enc m) ([]) some =
 cond (!N.lightM { id := HMail.id m, shop := HMail.shop m, key := HMail.key m, head := List.map (fun r => { key := V.toStr (List.getD r (0 : Nat) V.undef), kind := V.toInt (List.getD r (1 : Nat) V.undef), num := V.toInt (List.getD r (2 : Nat) V.undef), text := V.toStr (List.getD r (3 : Nat) V.undef) : HPair }) (List.map (fun p => [V.str (HPair.key p), V.int IntKind.u8 (HPair.kind p), V.int IntKind.i64 (HPair.num p), V.str (HPair.text p)]) (HMail.head m)), body := HMail.body m, due := HMail.due m, hops := HMail.hops m : HMail }) (some { v := V.bool true, bx := [] : DRes }) (cond (N.okM { id := HMail.id m, shop := HMail.shop m, key := HMail.key m, head := List.map (fun r => { key := V.toStr (List.getD r (0 : Nat) V.undef), kind := V.toInt (List.getD r (1 : Nat) V.undef), num := V.toInt (List.getD r (2 : Nat) V.undef), text := V.toStr (List.getD r (3 : Nat) V.undef) : HPair }) (List.map (fun p => [V.str (HPair.key p), V.int IntKind.u8 (HPair.kind p), V.int IntKind.i64 (HPair.num p), V.str (HPair.text p)]) (HMail.head m)), body := HMail.body m, due := HMail.due m, hops := HMail.hops m : HMail }) (cond (N.mailCheck { id := HMail.id m, shop := HMail.shop m, key := HMail.key m, head := List.map (fun r => { key := V.toStr (List.getD r (0 : Nat) V.undef), kind := V.toInt (List.getD r (1 : Nat) V.undef), num := V.toInt (List.getD r (2 : Nat) V.undef), text := V.toStr (List.getD r (3 : Nat) V.undef) : HPair }) (List.map (fun p => [V.str (HPair.key p), V.int IntKind.u8 (HPair.kind p), V.int IntKind.i64 (HPair.num p), V.str (HPair.text p)]) (HMail.head m)), body := HMail.body m, due := HMail.due m, hops := HMail.hops m : HMail } != N.mailCheck { id := HMail.id m, shop := HMail.shop m, key := HMail.key m, head := List.map (fun r => { key := V.toStr (List.getD r (0 : Nat) V.undef), kind := V.toInt (List.getD r (1 : Nat) V.undef), num := V.toInt (List.getD r (2 : Nat) V.undef), text := V.toStr (List.getD r (3 : Nat) V.undef) : HPair }) (List.map (fun p => [V.str (HPair.key p), V.int IntKind.u8 (HPair.kind p), V.int IntKind.i64 (HPair.num p), V.str (HPair.text p)]) (HMail.head m)), body := HMail.body m, due := HMail.due m, hops := HMail.hops m : HMail }) (some { v := V.bool false, bx := [] : DRes }) (cond (Prod.snd (bif N.mailCheck { id := HMail.id m, shop := HMail.shop m, key := HMail.key m, head := List.map (fun r => { key := V.toStr (List.getD r (0 : Nat) V.undef), kind := V.toInt (List.getD r (1 : Nat) V.undef), num := V.toInt (List.getD r (2 : Nat) V.undef), text := V.toStr (List.getD r (3 : Nat) V.undef) : HPair }) (List.map (fun p => [V.str (HPair.key p), V.int IntKind.u8 (HPair.kind p), V.int IntKind.i64 (HPair.num p), V.str (HPair.text p)]) (HMail.head m)), body := HMail.body m, due := HMail.due m, hops := HMail.hops m : HMail } != (0 : Int) then ([], N.mailCheck { id := HMail.id m, shop := HMail.shop m, key := HMail.key m, head := List.map (fun r => { key := V.toStr (List.getD r (0 : Nat) V.undef), kind := V.toInt (List.getD r (1 : Nat) V.undef), num := V.toInt (List.getD r (2 : Nat) V.undef), text := V.toStr (List.getD r (3 : Nat) V.undef) : HPair }) (List.map (fun p => [V.str (HPair.key p), V.int IntKind.u8 (HPair.kind p), V.int IntKind.i64 (HPair.num p), V.str (HPair.text p)]) (HMail.head m)), body := HMail.body m, due := HMail.due m, hops := HMail.hops m : HMail }) else (N.mailB { id := HMail.id m, shop := HMail.shop m, key := HMail.key m, head := List.map (fun r => { key := V.toStr (List.getD r (0 : Nat) V.undef), kind := V.toInt (List.getD r (1 : Nat) V.undef), num := V.toInt (List.getD r (2 : Nat) V.undef), text := V.toStr (List.getD r (3 : Nat) V.undef) : HPair }) (List.map (fun p => [V.str (HPair.key p), V.int IntKind.u8 (HPair.kind p), V.int IntKind.i64 (HPair.num p), V.str (HPair.text p)]) (HMail.head m)), body := HMail.body m, due := HMail.due m, hops := HMail.hops m : HMail }, (0 : Int))) != N.mailCheck { id := HMail.id m, shop := HMail.shop m, key := HMail.key m, head := List.map (fun r => { key := V.toStr (List.getD r (0 : Nat) V.undef), kind := V.toInt (List.getD r (1 : Nat) V.undef), num := V.toInt (List.getD r (2 : Nat) V.undef), text := V.toStr (List.getD r (3 : Nat) V.undef) : HPair }) (List.map (fun p => [V.str (HPair.key p), V.int IntKind.u8 (HPair.kind p), V.int IntKind.i64 (HPair.num p), V.str (HPair.text p)]) (HMail.head m)), body := HMail.body m, due := HMail.due m, hops := HMail.hops m : HMail }) (some { v := V.bool false, bx := [] : DRes }) (cond (N.okM { id := HMail.id m, shop := HMail.shop m, key := HMail.key m, head := List.map (fun r => { key := V.toStr (List.getD r (0 : Nat) V.undef), kind := V.toInt (List.getD r (1 : Nat) V.undef), num := V.toInt (List.getD r (2 : Nat) V.undef), text := V.toStr (List.getD r (3 : Nat) V.undef) : HPair }) (List.map (fun p => [V.str (HPair.key p), V.int IntKind.u8 (HPair.kind p), V.int IntKind.i64 (HPair.num p), V.str (HPair.text p)]) (HMail.head m)), body := HMail.body m, due := HMail.due m, hops := HMail.hops m : HMail }) (cond (bif N.okM { id := HMail.id m, shop := HMail.shop m, key := HMail.key m, head := List.map (fun r => { key := V.toStr (List.getD r (0 : Nat) V.undef), kind := V.toInt (List.getD r (1 : Nat) V.undef), num := V.toInt (List.getD r (2 : Nat) V.undef), text := V.toStr (List.getD r (3 : Nat) V.undef) : HPair }) (List.map (fun p => [V.str (HPair.key p), V.int IntKind.u8 (HPair.kind p), V.int IntKind.i64 (HPair.num p), V.str (HPair.text p)]) (HMail.head m)), body := HMail.body m, due := HMail.due m, hops := HMail.hops m : HMail } then List.all (List.map (fun r => { key := V.toStr (List.getD r (0 : Nat) V.undef), kind := V.toInt (List.getD r (1 : Nat) V.undef), num := V.toInt (List.getD r (2 : Nat) V.undef), text := V.toStr (List.getD r (3 : Nat) V.undef) : HPair }) (List.map (fun p => [V.str (HPair.key p), V.int IntKind.u8 (HPair.kind p), V.int IntKind.i64 (HPair.num p), V.str (HPair.text p)]) (HMail.head m))) N.okP' else false) (cond (N.mailSize { id := HMail.id m, shop := HMail.shop m, key := HMail.key m, head := List.map (fun r => { key := V.toStr (List.getD r (0 : Nat) V.undef), kind := V.toInt (List.getD r (1 : Nat) V.undef), num := V.toInt (List.getD r (2 : Nat) V.undef), text := V.toStr (List.getD r (3 : Nat) V.undef) : HPair }) (List.map (fun p => [V.str (HPair.key p), V.int IntKind.u8 (HPair.kind p), V.int IntKind.i64 (HPair.num p), V.str (HPair.text p)]) (HMail.head m)), body := HMail.body m, due := HMail.due m, hops := HMail.hops m : HMail } != N.mailSize { id := HMail.id m, shop := HMail.shop m, key := HMail.key m, head := List.map (fun r => { key := V.toStr (List.getD r (0 : Nat) V.undef), kind := V.toInt (List.getD r (1 : Nat) V.undef), num := V.toInt (List.getD r (2 : Nat) V.undef), text := V.toStr (List.getD r (3 : Nat) V.undef) : HPair }) (List.map (fun p => [V.str (HPair.key p), V.int IntKind.u8 (HPair.kind p), V.int IntKind.i64 (HPair.num p), V.str (HPair.text p)]) (HMail.head m)), body := HMail.body m, due := HMail.due m, hops := HMail.hops m : HMail }) (some { v := V.bool false, bx := [] : DRes }) (cond (Nat.ble (List.length (List.map (fun r => { key := V.toStr (List.getD r (0 : Nat) V.undef), kind := V.toInt (List.getD r (1 : Nat) V.undef), num := V.toInt (List.getD r (2 : Nat) V.undef), text := V.toStr (List.getD r (3 : Nat) V.undef) : HPair }) (List.map (fun p => [V.str (HPair.key p), V.int IntKind.u8 (HPair.kind p), V.int IntKind.i64 (HPair.num p), V.str (HPair.text p)]) (HMail.head m)))) (1000000 : Nat)) (cond (Nat.ble (List.length (List.map (fun r => { key := V.toStr (List.getD r (0 : Nat) V.undef), kind := V.toInt (List.getD r (1 : Nat) V.undef), num := V.toInt (List.getD r (2 : Nat) V.undef), text := V.toStr (List.getD r (3 : Nat) V.undef) : HPair }) (List.map (fun p => [V.str (HPair.key p), V.int IntKind.u8 (HPair.kind p), V.int IntKind.i64 (HPair.num p), V.str (HPair.text p)]) (List.map (fun r => { key := V.toStr (List.getD r (0 : Nat) V.undef), kind := V.toInt (List.getD r (1 : Nat) V.undef), num := V.toInt (List.getD r (2 : Nat) V.undef), text := V.toStr (List.getD r (3 : Nat) V.undef) : HPair }) (List.map (fun p => [V.str (HPair.key p), V.int IntKind.u8 (HPair.kind p), V.int IntKind.i64 (HPair.num p), V.str (HPair.text p)]) (HMail.head m)))))) (1000000 : Nat)) (cond (!N.mailSame { id := HMail.id m, shop := HMail.shop m, key := HMail.key m, head := List.map (fun r => { key := V.toStr (List.getD r (0 : Nat) V.undef), kind := V.toInt (List.getD r (1 : Nat) V.undef), num := V.toInt (List.getD r (2 : Nat) V.undef), text := V.toStr (List.getD r (3 : Nat) V.undef) : HPair }) (List.map (fun p => [V.str (HPair.key p), V.int IntKind.u8 (HPair.kind p), V.int IntKind.i64 (HPair.num p), V.str (HPair.text p)]) (List.map (fun r => { key := V.toStr (List.getD r (0 : Nat) V.undef), kind := V.toInt (List.getD r (1 : Nat) V.undef), num := V.toInt (List.getD r (2 : Nat) V.undef), text := V.toStr (List.getD r (3 : Nat) V.undef) : HPair }) (List.map (fun p => [V.str (HPair.key p), V.int IntKind.u8 (HPair.kind p), V.int IntKind.i64 (HPair.num p), V.str (HPair.text p)]) (HMail.head m)))), body := HMail.body m, due := HMail.due m, hops := HMail.hops m : HMail } { id := HMail.id m, shop := HMail.shop m, key := HMail.key m, head := List.map (fun r => { key := V.toStr (List.getD r (0 : Nat) V.undef), kind := V.toInt (List.getD r (1 : Nat) V.undef), num := V.toInt (List.getD r (2 : Nat) V.undef), text := V.toStr (List.getD r (3 : Nat) V.undef) : HPair }) (List.map (fun p => [V.str (HPair.key p), V.int IntKind.u8 (HPair.kind p), V.int IntKind.i64 (HPair.num p), V.str (HPair.text p)]) (HMail.head m)), body := HMail.body m, due := HMail.due m, hops := HMail.hops m : HMail }) (some { v := V.bool false, bx := [] : DRes }) (cond (N.mailCheck { id := HMail.id m, shop := HMail.shop m, key := HMail.key m, head := List.map (fun r => { key := V.toStr (List.getD r (0 : Nat) V.undef), kind := V.toInt (List.getD r (1 : Nat) V.undef), num := V.toInt (List.getD r (2 : Nat) V.undef), text := V.toStr (List.getD r (3 : Nat) V.undef) : HPair }) (List.map (fun p => [V.str (HPair.key p), V.int IntKind.u8 (HPair.kind p), V.int IntKind.i64 (HPair.num p), V.str (HPair.text p)]) (HMail.head m)), body := HMail.body m, due := HMail.due m, hops := HMail.hops m : HMail } != (0 : Int)) (some { v := V.bool (Prod.fst (bif N.mailCheck { id := HMail.id m, shop := HMail.shop m, key := HMail.key m, head := List.map (fun r => { key := V.toStr (List.getD r (0 : Nat) V.undef), kind := V.toInt (List.getD r (1 : Nat) V.undef), num := V.toInt (List.getD r (2 : Nat) V.undef), text := V.toStr (List.getD r (3 : Nat) V.undef) : HPair }) (List.map (fun p => [V.str (HPair.key p), V.int IntKind.u8 (HPair.kind p), V.int IntKind.i64 (HPair.num p), V.str (HPair.text p)]) (HMail.head m)), body := HMail.body m, due := HMail.due m, hops := HMail.hops m : HMail } != (0 : Int) then ([], N.mailCheck { id := HMail.id m, shop := HMail.shop m, key := HMail.key m, head := List.map (fun r => { key := V.toStr (List.getD r (0 : Nat) V.undef), kind := V.toInt (List.getD r (1 : Nat) V.undef), num := V.toInt (List.getD r (2 : Nat) V.undef), text := V.toStr (List.getD r (3 : Nat) V.undef) : HPair }) (List.map (fun p => [V.str (HPair.key p), V.int IntKind.u8 (HPair.kind p), V.int IntKind.i64 (HPair.num p), V.str (HPair.text p)]) (HMail.head m)), body := HMail.body m, due := HMail.due m, hops := HMail.hops m : HMail }) else (N.mailB { id := HMail.id m, shop := HMail.shop m, key := HMail.key m, head := List.map (fun r => { key := V.toStr (List.getD r (0 : Nat) V.undef), kind := V.toInt (List.getD r (1 : Nat) V.undef), num := V.toInt (List.getD r (2 : Nat) V.undef), text := V.toStr (List.getD r (3 : Nat) V.undef) : HPair }) (List.map (fun p => [V.str (HPair.key p), V.int IntKind.u8 (HPair.kind p), V.int IntKind.i64 (HPair.num p), V.str (HPair.text p)]) (HMail.head m)), body := HMail.body m, due := HMail.due m, hops := HMail.hops m : HMail }, (0 : Int))) == []), bx := [] : DRes }) (cond (N.fitM { id := HMail.id m, shop := HMail.shop m, key := HMail.key m, head := List.map (fun r => { key := V.toStr (List.getD r (0 : Nat) V.undef), kind := V.toInt (List.getD r (1 : Nat) V.undef), num := V.toInt (List.getD r (2 : Nat) V.undef), text := V.toStr (List.getD r (3 : Nat) V.undef) : HPair }) (List.map (fun p => [V.str (HPair.key p), V.int IntKind.u8 (HPair.kind p), V.int IntKind.i64 (HPair.num p), V.str (HPair.text p)]) (HMail.head m)), body := HMail.body m, due := HMail.due m, hops := HMail.hops m : HMail }) (cond (Prod.fst (bif N.mailCheck { id := HMail.id m, shop := HMail.shop m, key := HMail.key m, head := List.map (fun r => { key := V.toStr (List.getD r (0 : Nat) V.undef), kind := V.toInt (List.getD r (1 : Nat) V.undef), num := V.toInt (List.getD r (2 : Nat) V.undef), text := V.toStr (List.getD r (3 : Nat) V.undef) : HPair }) (List.map (fun p => [V.str (HPair.key p), V.int IntKind.u8 (HPair.kind p), V.int IntKind.i64 (HPair.num p), V.str (HPair.text p)]) (HMail.head m)), body := HMail.body m, due := HMail.due m, hops := HMail.hops m : HMail } != (0 : Int) then ([], N.mailCheck { id := HMail.id m, shop := HMail.shop m, key := HMail.key m, head := List.map (fun r => { key := V.toStr (List.getD r (0 : Nat) V.undef), kind := V.toInt (List.getD r (1 : Nat) V.undef), num := V.toInt (List.getD r (2 : Nat) V.undef), text := V.toStr (List.getD r (3 : Nat) V.undef) : HPair }) (List.map (fun p => [V.str (HPair.key p), V.int IntKind.u8 (HPair.kind p), V.int IntKind.i64 (HPair.num p), V.str (HPair.text p)]) (HMail.head m)), body := HMail.body m, due := HMail.due m, hops := HMail.hops m : HMail }) else (N.mailB { id := HMail.id m, shop := HMail.shop m, key := HMail.key m, head := List.map (fun r => { key := V.toStr (List.getD r (0 : Nat) V.undef), kind := V.toInt (List.getD r (1 : Nat) V.undef), num := V.toInt (List.getD r (2 : Nat) V.undef), text := V.toStr (List.getD r (3 : Nat) V.undef) : HPair }) (List.map (fun p => [V.str (HPair.key p), V.int IntKind.u8 (HPair.kind p), V.int IntKind.i64 (HPair.num p), V.str (HPair.text p)]) (HMail.head m)), body := HMail.body m, due := HMail.due m, hops := HMail.hops m : HMail }, (0 : Int))) == N.refMailB { id := HMail.id m, shop := HMail.shop m, key := HMail.key m, head := List.map (fun r => { key := V.toStr (List.getD r (0 : Nat) V.undef), kind := V.toInt (List.getD r (1 : Nat) V.undef), num := V.toInt (List.getD r (2 : Nat) V.undef), text := V.toStr (List.getD r (3 : Nat) V.undef) : HPair }) (List.map (fun p => [V.str (HPair.key p), V.int IntKind.u8 (HPair.kind p), V.int IntKind.i64 (HPair.num p), V.str (HPair.text p)]) (HMail.head m)), body := HMail.body m, due := HMail.due m, hops := HMail.hops m : HMail }) (cond (Nat.ble (List.length (List.map (fun r => { key := V.toStr (List.getD r (0 : Nat) V.undef), kind := V.toInt (List.getD r (1 : Nat) V.undef), num := V.toInt (List.getD r (2 : Nat) V.undef), text := V.toStr (List.getD r (3 : Nat) V.undef) : HPair }) (List.map (fun p => [V.str (HPair.key p), V.int IntKind.u8 (HPair.kind p), V.int IntKind.i64 (HPair.num p), V.str (HPair.text p)]) (HMail.head (Prod.fst (N.mailRead { s := Prod.fst (bif N.mailCheck { id := HMail.id m, shop := HMail.shop m, key := HMail.key m, head := List.map (fun r => { key := V.toStr (List.getD r (0 : Nat) V.undef), kind := V.toInt (List.getD r (1 : Nat) V.undef), num := V.toInt (List.getD r (2 : Nat) V.undef), text := V.toStr (List.getD r (3 : Nat) V.undef) : HPair }) (List.map (fun p => [V.str (HPair.key p), V.int IntKind.u8 (HPair.kind p), V.int IntKind.i64 (HPair.num p), V.str (HPair.text p)]) (HMail.head m)), body := HMail.body m, due := HMail.due m, hops := HMail.hops m : HMail } != (0 : Int) then ([], N.mailCheck { id := HMail.id m, shop := HMail.shop m, key := HMail.key m, head := List.map (fun r => { key := V.toStr (List.getD r (0 : Nat) V.undef), kind := V.toInt (List.getD r (1 : Nat) V.undef), num := V.toInt (List.getD r (2 : Nat) V.undef), text := V.toStr (List.getD r (3 : Nat) V.undef) : HPair }) (List.map (fun p => [V.str (HPair.key p), V.int IntKind.u8 (HPair.kind p), V.int IntKind.i64 (HPair.num p), V.str (HPair.text p)]) (HMail.head m)), body := HMail.body m, due := HMail.due m, hops := HMail.hops m : HMail }) else (N.mailB { id := HMail.id m, shop := HMail.shop m, key := HMail.key m, head := List.map (fun r => { key := V.toStr (List.getD r (0 : Nat) V.undef), kind := V.toInt (List.getD r (1 : Nat) V.undef), num := V.toInt (List.getD r (2 : Nat) V.undef), text := V.toStr (List.getD r (3 : Nat) V.undef) : HPair }) (List.map (fun p => [V.str (HPair.key p), V.int IntKind.u8 (HPair.kind p), V.int IntKind.i64 (HPair.num p), V.str (HPair.text p)]) (HMail.head m)), body := HMail.body m, due := HMail.due m, hops := HMail.hops m : HMail }, (0 : Int))), err := (0 : Int) : InS })))))) (1000000 : Nat)) (cond (N.mailSame { id := HMail.id (Prod.fst (N.mailRead { s := Prod.fst (bif N.mailCheck { id := HMail.id m, shop := HMail.shop m, key := HMail.key m, head := List.map (fun r => { key := V.toStr (List.getD r (0 : Nat) V.undef), kind := V.toInt (List.getD r (1 : Nat) V.undef), num := V.toInt (List.getD r (2 : Nat) V.undef), text := V.toStr (List.getD r (3 : Nat) V.undef) : HPair }) (List.map (fun p => [V.str (HPair.key p), V.int IntKind.u8 (HPair.kind p), V.int IntKind.i64 (HPair.num p), V.str (HPair.text p)]) (HMail.head m)), body := HMail.body m, due := HMail.due m, hops := HMail.hops m : HMail } != (0 : Int) then ([], N.mailCheck { id := HMail.id m, shop := HMail.shop m, key := HMail.key m, head := List.map (fun r => { key := V.toStr (List.getD r (0 : Nat) V.undef), kind := V.toInt (List.getD r (1 : Nat) V.undef), num := V.toInt (List.getD r (2 : Nat) V.undef), text := V.toStr (List.getD r (3 : Nat) V.undef) : HPair }) (List.map (fun p => [V.str (HPair.key p), V.int IntKind.u8 (HPair.kind p), V.int IntKind.i64 (HPair.num p), V.str (HPair.text p)]) (HMail.head m)), body := HMail.body m, due := HMail.due m, hops := HMail.hops m : HMail }) else (N.mailB { id := HMail.id m, shop := HMail.shop m, key := HMail.key m, head := List.map (fun r => { key := V.toStr (List.getD r (0 : Nat) V.undef), kind := V.toInt (List.getD r (1 : Nat) V.undef), num := V.toInt (List.getD r (2 : Nat) V.undef), text := V.toStr (List.getD r (3 : Nat) V.undef) : HPair }) (List.map (fun p => [V.str (HPair.key p), V.int IntKind.u8 (HPair.kind p), V.int IntKind.i64 (HPair.num p), V.str (HPair.text p)]) (HMail.head m)), body := HMail.body m, due := HMail.due m, hops := HMail.hops m : HMail }, (0 : Int))), err := (0 : Int) : InS })), shop := HMail.shop (Prod.fst (N.mailRead { s := Prod.fst (bif N.mailCheck { id := HMail.id m, shop := HMail.shop m, key := HMail.key m, head := List.map (fun r => { key := V.toStr (List.getD r (0 : Nat) V.undef), kind := V.toInt (List.getD r (1 : Nat) V.undef), num := V.toInt (List.getD r (2 : Nat) V.undef), text := V.toStr (List.getD r (3 : Nat) V.undef) : HPair }) (List.map (fun p => [V.str (HPair.key p), V.int IntKind.u8 (HPair.kind p), V.int IntKind.i64 (HPair.num p), V.str (HPair.text p)]) (HMail.head m)), body := HMail.body m, due := HMail.due m, hops := HMail.hops m : HMail } != (0 : Int) then ([], N.mailCheck { id := HMail.id m, shop := HMail.shop m, key := HMail.key m, head := List.map (fun r => { key := V.toStr (List.getD r (0 : Nat) V.undef), kind := V.toInt (List.getD r (1 : Nat) V.undef), num := V.toInt (List.getD r (2 : Nat) V.undef), text := V.toStr (List.getD r (3 : Nat) V.undef) : HPair }) (List.map (fun p => [V.str (HPair.key p), V.int IntKind.u8 (HPair.kind p), V.int IntKind.i64 (HPair.num p), V.str (HPair.text p)]) (HMail.head m)), body := HMail.body m, due := HMail.due m, hops := HMail.hops m : HMail }) else (N.mailB { id := HMail.id m, shop := HMail.shop m, key := HMail.key m, head := List.map (fun r => { key := V.toStr (List.getD r (0 : Nat) V.undef), kind := V.toInt (List.getD r (1 : Nat) V.undef), num := V.toInt (List.getD r (2 : Nat) V.undef), text := V.toStr (List.getD r (3 : Nat) V.undef) : HPair }) (List.map (fun p => [V.str (HPair.key p), V.int IntKind.u8 (HPair.kind p), V.int IntKind.i64 (HPair.num p), V.str (HPair.text p)]) (HMail.head m)), body := HMail.body m, due := HMail.due m, hops := HMail.hops m : HMail }, (0 : Int))), err := (0 : Int) : InS })), key := HMail.key (Prod.fst (N.mailRead { s := Prod.fst (bif N.mailCheck { id := HMail.id m, shop := HMail.shop m, key := HMail.key m, head := List.map (fun r => { key := V.toStr (List.getD r (0 : Nat) V.undef), kind := V.toInt (List.getD r (1 : Nat) V.undef), num := V.toInt (List.getD r (2 : Nat) V.undef), text := V.toStr (List.getD r (3 : Nat) V.undef) : HPair }) (List.map (fun p => [V.str (HPair.key p), V.int IntKind.u8 (HPair.kind p), V.int IntKind.i64 (HPair.num p), V.str (HPair.text p)]) (HMail.head m)), body := HMail.body m, due := HMail.due m, hops := HMail.hops m : HMail } != (0 : Int) then ([], N.mailCheck { id := HMail.id m, shop := HMail.shop m, key := HMail.key m, head := List.map (fun r => { key := V.toStr (List.getD r (0 : Nat) V.undef), kind := V.toInt (List.getD r (1 : Nat) V.undef), num := V.toInt (List.getD r (2 : Nat) V.undef), text := V.toStr (List.getD r (3 : Nat) V.undef) : HPair }) (List.map (fun p => [V.str (HPair.key p), V.int IntKind.u8 (HPair.kind p), V.int IntKind.i64 (HPair.num p), V.str (HPair.text p)]) (HMail.head m)), body := HMail.body m, due := HMail.due m, hops := HMail.hops m : HMail }) else (N.mailB { id := HMail.id m, shop := HMail.shop m, key := HMail.key m, head := List.map (fun r => { key := V.toStr (List.getD r (0 : Nat) V.undef), kind := V.toInt (List.getD r (1 : Nat) V.undef), num := V.toInt (List.getD r (2 : Nat) V.undef), text := V.toStr (List.getD r (3 : Nat) V.undef) : HPair }) (List.map (fun p => [V.str (HPair.key p), V.int IntKind.u8 (HPair.kind p), V.int IntKind.i64 (HPair.num p), V.str (HPair.text p)]) (HMail.head m)), body := HMail.body m, due := HMail.due m, hops := HMail.hops m : HMail }, (0 : Int))), err := (0 : Int) : InS })), head := List.map (fun r => { key := V.toStr (List.getD r (0 : Nat) V.undef), kind := V.toInt (List.getD r (1 : Nat) V.undef), num := V.toInt (List.getD r (2 : Nat) V.undef), text := V.toStr (List.getD r (3 : Nat) V.undef) : HPair }) (List.map (fun p => [V.str (HPair.key p), V.int IntKind.u8 (HPair.kind p), V.int IntKind.i64 (HPair.num p), V.str (HPair.text p)]) (HMail.head (Prod.fst (N.mailRead { s := Prod.fst (bif N.mailCheck { id := HMail.id m, shop := HMail.shop m, key := HMail.key m, head := List.map (fun r => { key := V.toStr (List.getD r (0 : Nat) V.undef), kind := V.toInt (List.getD r (1 : Nat) V.undef), num := V.toInt (List.getD r (2 : Nat) V.undef), text := V.toStr (List.getD r (3 : Nat) V.undef) : HPair }) (List.map (fun p => [V.str (HPair.key p), V.int IntKind.u8 (HPair.kind p), V.int IntKind.i64 (HPair.num p), V.str (HPair.text p)]) (HMail.head m)), body := HMail.body m, due := HMail.due m, hops := HMail.hops m : HMail } != (0 : Int) then ([], N.mailCheck { id := HMail.id m, shop := HMail.shop m, key := HMail.key m, head := List.map (fun r => { key := V.toStr (List.getD r (0 : Nat) V.undef), kind := V.toInt (List.getD r (1 : Nat) V.undef), num := V.toInt (List.getD r (2 : Nat) V.undef), text := V.toStr (List.getD r (3 : Nat) V.undef) : HPair }) (List.map (fun p => [V.str (HPair.key p), V.int IntKind.u8 (HPair.kind p), V.int IntKind.i64 (HPair.num p), V.str (HPair.text p)]) (HMail.head m)), body := HMail.body m, due := HMail.due m, hops := HMail.hops m : HMail }) else (N.mailB { id := HMail.id m, shop := HMail.shop m, key := HMail.key m, head := List.map (fun r => { key := V.toStr (List.getD r (0 : Nat) V.undef), kind := V.toInt (List.getD r (1 : Nat) V.undef), num := V.toInt (List.getD r (2 : Nat) V.undef), text := V.toStr (List.getD r (3 : Nat) V.undef) : HPair }) (List.map (fun p => [V.str (HPair.key p), V.int IntKind.u8 (HPair.kind p), V.int IntKind.i64 (HPair.num p), V.str (HPair.text p)]) (HMail.head m)), body := HMail.body m, due := HMail.due m, hops := HMail.hops m : HMail }, (0 : Int))), err := (0 : Int) : InS })))), body := HMail.body (Prod.fst (N.mailRead { s := Prod.fst (bif N.mailCheck { id := HMail.id m, shop := HMail.shop m, key := HMail.key m, head := List.map (fun r => { key := V.toStr (List.getD r (0 : Nat) V.undef), kind := V.toInt (List.getD r (1 : Nat) V.undef), num := V.toInt (List.getD r (2 : Nat) V.undef), text := V.toStr (List.getD r (3 : Nat) V.undef) : HPair }) (List.map (fun p => [V.str (HPair.key p), V.int IntKind.u8 (HPair.kind p), V.int IntKind.i64 (HPair.num p), V.str (HPair.text p)]) (HMail.head m)), body := HMail.body m, due := HMail.due m, hops := HMail.hops m : HMail } != (0 : Int) then ([], N.mailCheck { id := HMail.id m, shop := HMail.shop m, key := HMail.key m, head := List.map (fun r => { key := V.toStr (List.getD r (0 : Nat) V.undef), kind := V.toInt (List.getD r (1 : Nat) V.undef), num := V.toInt (List.getD r (2 : Nat) V.undef), text := V.toStr (List.getD r (3 : Nat) V.undef) : HPair }) (List.map (fun p => [V.str (HPair.key p), V.int IntKind.u8 (HPair.kind p), V.int IntKind.i64 (HPair.num p), V.str (HPair.text p)]) (HMail.head m)), body := HMail.body m, due := HMail.due m, hops := HMail.hops m : HMail }) else (N.mailB { id := HMail.id m, shop := HMail.shop m, key := HMail.key m, head := List.map (fun r => { key := V.toStr (List.getD r (0 : Nat) V.undef), kind := V.toInt (List.getD r (1 : Nat) V.undef), num := V.toInt (List.getD r (2 : Nat) V.undef), text := V.toStr (List.getD r (3 : Nat) V.undef) : HPair }) (List.map (fun p => [V.str (HPair.key p), V.int IntKind.u8 (HPair.kind p), V.int IntKind.i64 (HPair.num p), V.str (HPair.text p)]) (HMail.head m)), body := HMail.body m, due := HMail.due m, hops := HMail.hops m : HMail }, (0 : Int))), err := (0 : Int) : InS })), due := HMail.due (Prod.fst (N.mailRead { s := Prod.fst (bif N.mailCheck { id := HMail.id m, shop := HMail.shop m, key := HMail.key m, head := List.map (fun r => { key := V.toStr (List.getD r (0 : Nat) V.undef), kind := V.toInt (List.getD r (1 : Nat) V.undef), num := V.toInt (List.getD r (2 : Nat) V.undef), text := V.toStr (List.getD r (3 : Nat) V.undef) : HPair }) (List.map (fun p => [V.str (HPair.key p), V.int IntKind.u8 (HPair.kind p), V.int IntKind.i64 (HPair.num p), V.str (HPair.text p)]) (HMail.head m)), body := HMail.body m, due := HMail.due m, hops := HMail.hops m : HMail } != (0 : Int) then ([], N.mailCheck { id := HMail.id m, shop := HMail.shop m, key := HMail.key m, head := List.map (fun r => { key := V.toStr (List.getD r (0 : Nat) V.undef), kind := V.toInt (List.getD r (1 : Nat) V.undef), num := V.toInt (List.getD r (2 : Nat) V.undef), text := V.toStr (List.getD r (3 : Nat) V.undef) : HPair }) (List.map (fun p => [V.str (HPair.key p), V.int IntKind.u8 (HPair.kind p), V.int IntKind.i64 (HPair.num p), V.str (HPair.text p)]) (HMail.head m)), body := HMail.body m, due := HMail.due m, hops := HMail.hops m : HMail }) else (N.mailB { id := HMail.id m, shop := HMail.shop m, key := HMail.key m, head := List.map (fun r => { key := V.toStr (List.getD r (0 : Nat) V.undef), kind := V.toInt (List.getD r (1 : Nat) V.undef), num := V.toInt (List.getD r (2 : Nat) V.undef), text := V.toStr (List.getD r (3 : Nat) V.undef) : HPair }) (List.map (fun p => [V.str (HPair.key p), V.int IntKind.u8 (HPair.kind p), V.int IntKind.i64 (HPair.num p), V.str (HPair.text p)]) (HMail.head m)), body := HMail.body m, due := HMail.due m, hops := HMail.hops m : HMail }, (0 : Int))), err := (0 : Int) : InS })), hops := HMail.hops (Prod.fst (N.mailRead { s := Prod.fst (bif N.mailCheck { id := HMail.id m, shop := HMail.shop m, key := HMail.key m, head := List.map (fun r => { key := V.toStr (List.getD r (0 : Nat) V.undef), kind := V.toInt (List.getD r (1 : Nat) V.undef), num := V.toInt (List.getD r (2 : Nat) V.undef), text := V.toStr (List.getD r (3 : Nat) V.undef) : HPair }) (List.map (fun p => [V.str (HPair.key p), V.int IntKind.u8 (HPair.kind p), V.int IntKind.i64 (HPair.num p), V.str (HPair.text p)]) (HMail.head m)), body := HMail.body m, due := HMail.due m, hops := HMail.hops m : HMail } != (0 : Int) then ([], N.mailCheck { id := HMail.id m, shop := HMail.shop m, key := HMail.key m, head := List.map (fun r => { key := V.toStr (List.getD r (0 : Nat) V.undef), kind := V.toInt (List.getD r (1 : Nat) V.undef), num := V.toInt (List.getD r (2 : Nat) V.undef), text := V.toStr (List.getD r (3 : Nat) V.undef) : HPair }) (List.map (fun p => [V.str (HPair.key p), V.int IntKind.u8 (HPair.kind p), V.int IntKind.i64 (HPair.num p), V.str (HPair.text p)]) (HMail.head m)), body := HMail.body m, due := HMail.due m, hops := HMail.hops m : HMail }) else (N.mailB { id := HMail.id m, shop := HMail.shop m, key := HMail.key m, head := List.map (fun r => { key := V.toStr (List.getD r (0 : Nat) V.undef), kind := V.toInt (List.getD r (1 : Nat) V.undef), num := V.toInt (List.getD r (2 : Nat) V.undef), text := V.toStr (List.getD r (3 : Nat) V.undef) : HPair }) (List.map (fun p => [V.str (HPair.key p), V.int IntKind.u8 (HPair.kind p), V.int IntKind.i64 (HPair.num p), V.str (HPair.text p)]) (HMail.head m)), body := HMail.body m, due := HMail.due m, hops := HMail.hops m : HMail }, (0 : Int))), err := (0 : Int) : InS })) : HMail } { id := HMail.id m, shop := HMail.shop m, key := HMail.key m, head := List.map (fun r => { key := V.toStr (List.getD r (0 : Nat) V.undef), kind := V.toInt (List.getD r (1 : Nat) V.undef), num := V.toInt (List.getD r (2 : Nat) V.undef), text := V.toStr (List.getD r (3 : Nat) V.undef) : HPair }) (List.map (fun p => [V.str (HPair.key p), V.int IntKind.u8 (HPair.kind p), V.int IntKind.i64 (HPair.num p), V.str (HPair.text p)]) (HMail.head m)), body := HMail.body m, due := HMail.due m, hops := HMail.hops m : HMail }) (some { v := V.bool ((bif InS.err (Prod.snd (N.mailRead { s := Prod.fst (bif N.mailCheck { id := HMail.id m, shop := HMail.shop m, key := HMail.key m, head := List.map (fun r => { key := V.toStr (List.getD r (0 : Nat) V.undef), kind := V.toInt (List.getD r (1 : Nat) V.undef), num := V.toInt (List.getD r (2 : Nat) V.undef), text := V.toStr (List.getD r (3 : Nat) V.undef) : HPair }) (List.map (fun p => [V.str (HPair.key p), V.int IntKind.u8 (HPair.kind p), V.int IntKind.i64 (HPair.num p), V.str (HPair.text p)]) (HMail.head m)), body := HMail.body m, due := HMail.due m, hops := HMail.hops m : HMail } != (0 : Int) then ([], N.mailCheck { id := HMail.id m, shop := HMail.shop m, key := HMail.key m, head := List.map (fun r => { key := V.toStr (List.getD r (0 : Nat) V.undef), kind := V.toInt (List.getD r (1 : Nat) V.undef), num := V.toInt (List.getD r (2 : Nat) V.undef), text := V.toStr (List.getD r (3 : Nat) V.undef) : HPair }) (List.map (fun p => [V.str (HPair.key p), V.int IntKind.u8 (HPair.kind p), V.int IntKind.i64 (HPair.num p), V.str (HPair.text p)]) (HMail.head m)), body := HMail.body m, due := HMail.due m, hops := HMail.hops m : HMail }) else (N.mailB { id := HMail.id m, shop := HMail.shop m, key := HMail.key m, head := List.map (fun r => { key := V.toStr (List.getD r (0 : Nat) V.undef), kind := V.toInt (List.getD r (1 : Nat) V.undef), num := V.toInt (List.getD r (2 : Nat) V.undef), text := V.toStr (List.getD r (3 : Nat) V.undef) : HPair }) (List.map (fun p => [V.str (HPair.key p), V.int IntKind.u8 (HPair.kind p), V.int IntKind.i64 (HPair.num p), V.str (HPair.text p)]) (HMail.head m)), body := HMail.body m, due := HMail.due m, hops := HMail.hops m : HMail }, (0 : Int))), err := (0 : Int) : InS })) == (0 : Int) then bif ilt (0 : Int) (↑(List.length (InS.s (Prod.snd (N.mailRead { s := Prod.fst (bif N.mailCheck { id := HMail.id m, shop := HMail.shop m, key := HMail.key m, head := List.map (fun r => { key := V.toStr (List.getD r (0 : Nat) V.undef), kind := V.toInt (List.getD r (1 : Nat) V.undef), num := V.toInt (List.getD r (2 : Nat) V.undef), text := V.toStr (List.getD r (3 : Nat) V.undef) : HPair }) (List.map (fun p => [V.str (HPair.key p), V.int IntKind.u8 (HPair.kind p), V.int IntKind.i64 (HPair.num p), V.str (HPair.text p)]) (HMail.head m)), body := HMail.body m, due := HMail.due m, hops := HMail.hops m : HMail } != (0 : Int) then ([], N.mailCheck { id := HMail.id m, shop := HMail.shop m, key := HMail.key m, head := List.map (fun r => { key := V.toStr (List.getD r (0 : Nat) V.undef), kind := V.toInt (List.getD r (1 : Nat) V.undef), num := V.toInt (List.getD r (2 : Nat) V.undef), text := V.toStr (List.getD r (3 : Nat) V.undef) : HPair }) (List.map (fun p => [V.str (HPair.key p), V.int IntKind.u8 (HPair.kind p), V.int IntKind.i64 (HPair.num p), V.str (HPair.text p)]) (HMail.head m)), body := HMail.body m, due := HMail.due m, hops := HMail.hops m : HMail }) else (N.mailB { id := HMail.id m, shop := HMail.shop m, key := HMail.key m, head := List.map (fun r => { key := V.toStr (List.getD r (0 : Nat) V.undef), kind := V.toInt (List.getD r (1 : Nat) V.undef), num := V.toInt (List.getD r (2 : Nat) V.undef), text := V.toStr (List.getD r (3 : Nat) V.undef) : HPair }) (List.map (fun p => [V.str (HPair.key p), V.int IntKind.u8 (HPair.kind p), V.int IntKind.i64 (HPair.num p), V.str (HPair.text p)]) (HMail.head m)), body := HMail.body m, due := HMail.due m, hops := HMail.hops m : HMail }, (0 : Int))), err := (0 : Int) : InS })))) : Int) then (4 : Int) else (0 : Int) else InS.err (Prod.snd (N.mailRead { s := Prod.fst (bif N.mailCheck { id := HMail.id m, shop := HMail.shop m, key := HMail.key m, head := List.map (fun r => { key := V.toStr (List.getD r (0 : Nat) V.undef), kind := V.toInt (List.getD r (1 : Nat) V.undef), num := V.toInt (List.getD r (2 : Nat) V.undef), text := V.toStr (List.getD r (3 : Nat) V.undef) : HPair }) (List.map (fun p => [V.str (HPair.key p), V.int IntKind.u8 (HPair.kind p), V.int IntKind.i64 (HPair.num p), V.str (HPair.text p)]) (HMail.head m)), body := HMail.body m, due := HMail.due m, hops := HMail.hops m : HMail } != (0 : Int) then ([], N.mailCheck { id := HMail.id m, shop := HMail.shop m, key := HMail.key m, head := List.map (fun r => { key := V.toStr (List.getD r (0 : Nat) V.undef), kind := V.toInt (List.getD r (1 : Nat) V.undef), num := V.toInt (List.getD r (2 : Nat) V.undef), text := V.toStr (List.getD r (3 : Nat) V.undef) : HPair }) (List.map (fun p => [V.str (HPair.key p), V.int IntKind.u8 (HPair.kind p), V.int IntKind.i64 (HPair.num p), V.str (HPair.text p)]) (HMail.head m)), body := HMail.body m, due := HMail.due m, hops := HMail.hops m : HMail }) else (N.mailB { id := HMail.id m, shop := HMail.shop m, key := HMail.key m, head := List.map (fun r => { key := V.toStr (List.getD r (0 : Nat) V.undef), kind := V.toInt (List.getD r (1 : Nat) V.undef), num := V.toInt (List.getD r (2 : Nat) V.undef), text := V.toStr (List.getD r (3 : Nat) V.undef) : HPair }) (List.map (fun p => [V.str (HPair.key p), V.int IntKind.u8 (HPair.kind p), V.int IntKind.i64 (HPair.num p), V.str (HPair.text p)]) (HMail.head m)), body := HMail.body m, due := HMail.due m, hops := HMail.hops m : HMail }, (0 : Int))), err := (0 : Int) : InS }))) == (0 : Int)), bx := [] : DRes }) (some { v := V.bool false, bx := [] : DRes })) (none)) (some { v := V.bool false, bx := [] : DRes })) (none)))) (none)) (none))) (none)) (none)))) (none)) := by kernel_rfl
theorem rl_len {s : Bytes} {i : InS} {q : RIn} (h : Rl s i q) : i.err = q.code := h.2.2.2.1
theorem mailRead_head (i : InS) : (N.mailRead i).1.head.length ≤ 255 := by
  unfold N.mailRead
  dsimp only
  have := headRead_len (N.inText (N.inText (N.inNum i 8).2 16).2 64).2
  generalize N.headRead (N.inText (N.inText (N.inNum i 8).2 16).2 64).2 = d at *
  unfold N.mailEnd
  generalize (cond _ _ _ : InS) = z
  cases z.err != 0 with
  | true => show (0 : Nat) ≤ 255; omega
  | false => exact this
theorem ok_lawMR (hN : FnOk Tryd.prog 75 dOutNum) : FnOk Tryd.prog 9 (den (aOne vStr) bNil (oV vBool) (fun _ _ => true) fun _ _ => (true, ())) := by
  refine den_okF (env_ok (((((((((TOk.nil _).cons ok_rLeft).cons ok_inLeft).cons ok_inErr).cons ok_refMailSame).cons ok_rMail).cons ok_mailRead).cons ok_new).cons (ok_aw13 hN))) (E := eLawMR) Tryd.func9 [] (by kernel_rfl) none0 fun s _ _ => ?_
  refine (q_lawMR s).trans ?_
  show _ = some (⟨.bool true, [], []⟩ : DRes)
  simp only [nrm_rows]
  by_cases hs : 600 < s.length
  · simp (disch := omega) only [evs]
  · have hl := rl_mail (rl_new s)
    have hg0 : N.goodR ⟨s, 0, 0⟩ = true := rl_good (rl_new s) (by show s.length ≤ 1000000; omega)
    have hg := rl_good hl.2 (by show s.length ≤ 1000000; omega)
    have hle := rl_left hl.2
    have her := rl_len hl.2
    have hm := mailRead_head ⟨s, 0⟩
    rw [hl.1] at hm
    simp (disch := omega) only [evs, hg0, hg, hle, her, hl.1, beq_self_eq_true]
    have e := mailSame_refl (N.rMail ⟨s, 0, 0⟩).1
    have e' : N.mailSame ⟨(N.rMail ⟨s, 0, 0⟩).1.id, (N.rMail ⟨s, 0, 0⟩).1.shop, (N.rMail ⟨s, 0, 0⟩).1.key, (N.rMail ⟨s, 0, 0⟩).1.head, (N.rMail ⟨s, 0, 0⟩).1.body, (N.rMail ⟨s, 0, 0⟩).1.due, (N.rMail ⟨s, 0, 0⟩).1.hops⟩
      ⟨(N.rMail ⟨s, 0, 0⟩).1.id, (N.rMail ⟨s, 0, 0⟩).1.shop, (N.rMail ⟨s, 0, 0⟩).1.key, (N.rMail ⟨s, 0, 0⟩).1.head, (N.rMail ⟨s, 0, 0⟩).1.body, (N.rMail ⟨s, 0, 0⟩).1.due, (N.rMail ⟨s, 0, 0⟩).1.hops⟩ = true := e
    rw [e']; rfl
theorem ok_lawMB (hN : FnOk Tryd.prog 75 dOutNum) : FnOk Tryd.prog 10 (den (aOne (vAgg cMail)) bNil (oV vBool) (fun m _ => cond (N.okM m) (m.head.all N.okP) false) fun _ _ => (true, ())) := by
  refine den_okF (env_ok (((((((((((((((TOk.nil _).cons ok_inEnd).cons ok_refMailB).cons ok_mailRead).cons ok_new).cons ok_mailSame).cons ok_refMailSame).cons ok_mailCopy).cons ok_refMailSize).cons (ok_mailSize hN)).cons ok_mailCheck).cons (ok_mailBytes hN)).cons ok_refMailCheck).cons ok_lightM).cons (ok_aw13 hN))) (E := eLawMB) Tryd.func10 [] (by kernel_rfl) none0 fun m _ h => ?_
  obtain ⟨h, hp⟩ := bcond h
  obtain ⟨id, shop, key, head, body, due, hops⟩ := m
  have hp0 : head.all N.okP' = true := hp
  have hpp : ∀ p ∈ head, PairOk p := fun p hm => okP_of (List.all_eq_true.1 hp p hm)
  refine (q_lawMB ⟨id, shop, key, head, body, due, hops⟩).trans ?_
  show _ = some (⟨.bool true, [], []⟩ : DRes)
  simp only [nrm_rows]
  generalize hm : (⟨id, shop, key, head, body, due, hops⟩ : HMail) = m at *
  cases hl : N.lightM m with
  | false => rfl
  | true =>
    have hh : head.length ≤ 1000000 := by
      subst hm
      obtain ⟨_, h1⟩ := bcond hl
      obtain ⟨_, h1⟩ := bcond h1
      obtain ⟨h1, _⟩ := bcond h1
      have := light_small h1
      simp only at this; omega
    cases hc : N.mailCheck m != 0 with
    | true =>
      have hne : N.mailCheck m ≠ 0 := by simpa using hc
      have hs := mailSame_refl m
      simp (disch := omega) only [evs, h, hp0, hs, Bool.not_true, bne_self_eq_false, beq_self_eq_true]
    | false =>
      have hz : N.mailCheck m = 0 := by simpa using hc
      have hs := mailSame_refl m
      have hhd : ∀ p ∈ m.head, PairOk p := by subst hm; exact hpp
      have hh2 : m.head.length ≤ 1000000 := by subst hm; exact hh
      have hb := mail_back [] m h hhd hz
      rw [List.append_nil] at hb
      have hf := fitM_of h hz
      have hr := refMailB_eq hhd hz
      simp (disch := omega) only [evs, h, hp0, hs, hz, hb, hf, hr, Bool.not_true, bne_self_eq_false, beq_self_eq_true, List.length_nil]
theorem mail_wf {m : HMail} (h : wfL (cMail.enc m) = true) : cond (N.okM m) (m.head.all N.okP) false = true := by
  have h : cond (wfV (.int .u64 m.id)) (cond (wfV (.str m.shop)) (cond (wfV (.str m.key)) (cond (wfV (.slc [.str, .int .u8, .int .i64, .str] (m.head.map cPair.enc))) (cond (wfV (.str m.body)) (cond (wfV (.int .u64 m.due)) (cond (wfV (.int .u8 m.hops)) true false) false) false) false) false) false) false = true := h
  obtain ⟨h1, h⟩ := bcond h
  obtain ⟨_, h⟩ := bcond h
  obtain ⟨_, h⟩ := bcond h
  obtain ⟨h4, h⟩ := bcond h
  obtain ⟨_, h⟩ := bcond h
  obtain ⟨h6, h⟩ := bcond h
  obtain ⟨h7, _⟩ := bcond h
  have a := int_wf' h1
  have b := int_wf' h6
  have c := int_wf' h7
  have e1 : IntKind.u64.min = 0 := rfl
  have e2 : IntKind.u64.max = 18446744073709551615 := rfl
  have e3 : IntKind.u8.min = 0 := rfl
  have e4 : IntKind.u8.max = 255 := rfl
  have hh : m.head.all N.okP = true := pairs_wf (l := m.head) (by show cond (wfV (.slc [.str, .int .u8, .int .i64, .str] (m.head.map cPair.enc))) true false = true; rw [h4]; rfl)
  unfold N.okM
  rw [ile_t (show 0 ≤ m.id by omega), ilt_t (show m.id < 18446744073709551616 by omega), ile_t (show 0 ≤ m.due by omega), ilt_t (show m.due < 18446744073709551616 by omega), ile_t (show 0 ≤ m.hops by omega), ilt_t (show m.hops < 256 by omega), hh]; rfl
end Go.Ev

/- The library's text builder in this program, and the function that writes a number's bytes with it: lemmas, no condition but the text's length. -/
namespace Go.Ev
open Go Go.Proofs Go.RowKit Go.Shelf

theorem bSize : (Tryd.prog.info? 115).map (·.size) = some 2 := by kernel_rfl
theorem bLies : liesAt Tryd.prog Tryd.prog.depth 115 (2 / Tryd.prog.cellsOf 115) 0 115 1 = true := by kernel_rfl
theorem bByte : (Tryd.prog.info? 5).map (fun i => (i.zero, i.size, i.bytes)) = some (some (.int .u8 0), 1, 1) := by kernel_rfl

set_option maxHeartbeats 1000000 in
set_option maxRecDepth 100000 in
theorem cc_used (b : Nat) (w : World) (h0 : w.cell? ⟨b, 0, none⟩ = some (.pointer (some ⟨b, 0, none⟩))) :
    Calls Tryd.prog 100 #[.pointer (some ⟨b, 0, none⟩)] w fun e w' => e = .returned (.tuple #[]) ∧ w' = w := by
  obtain ⟨j, hj, _⟩ := Option.map_eq_some_iff.1 bSize
  go_enter Tryd.func100, Tryd.ntmps100
  go_wp2
  rw [Lib.run_neq_ptr_same w _ Tryd.underlying113 hj]
  go_wp2
  go_end0
  exact ⟨rfl, rfl⟩
set_option maxHeartbeats 1000000 in
set_option maxRecDepth 100000 in
theorem cc_fresh (b : Nat) (w : World) (h0 : w.cell? ⟨b, 0, none⟩ = some (.pointer none)) (hsh : w.shape? b = some (115, 2)) (hfz : w.frozen? ⟨b, 0, none⟩ = false) :
    Calls Tryd.prog 100 #[.pointer (some ⟨b, 0, none⟩)] w fun e w' => e = .returned (.tuple #[]) ∧ w' = w.setCell ⟨b, 0, none⟩ (.pointer (some ⟨b, 0, none⟩)) := by
  obtain ⟨j, hj, hjs⟩ := Option.map_eq_some_iff.1 bSize
  go_enter Tryd.func100, Tryd.ntmps100
  go_wp2
  rw [Lib.run_to_unsafe w ⟨b, 0, none⟩ Tryd.underlying113 Tryd.underlying124 hj (by rw [hjs]; decide) hsh (Nat.zero_lt_succ 1)]
  simp only [Result.andThen]
  rw [Oper.upon_value]
  go_wp2
  rw [run_callFunc_extern Tryd.func103 (by kernel_rfl) (by kernel_rfl) (by kernel_rfl) (e := Extern.AbiNoEscape.same) (by kernel_rfl)]
  rw [Lib.run_noEscape]
  simp only [Result.andThen]
  rw [Oper.upon_value]
  go_wp2
  rw [Lib.run_from_unsafe w ⟨b, 0, none⟩ Tryd.underlying124 Tryd.underlying113 hj hsh bLies]
  simp only [Result.andThen]
  rw [Oper.upon_value]
  go_wp2
  go_end0
  exact ⟨rfl, rfl⟩
theorem cc (B b : Nat) (bs : List Value) (w : World) (h : Lib.IsBuilder 115 5 B b bs w) :
    Calls Tryd.prog 100 #[.pointer (some ⟨b, 0, none⟩)] w fun e w' => e = .returned (.tuple #[]) ∧ (Lib.BuilderAt 115 5 B b (.pointer (some ⟨b, 0, none⟩)) bs w' ∧ Below B w w') := by
  rcases h with h | h
  · refine (cc_fresh b w h.cell0 h.shape h.frozen0).mono ?_
    rintro e w' ⟨rfl, rfl⟩
    exact ⟨rfl, h.used _, (Below.refl B w).setCell (p := ⟨b, 0, none⟩) h.1 _⟩
  · refine (cc_used b w h.cell0).mono ?_
    rintro e w' ⟨rfl, rfl⟩
    exact ⟨rfl, h, Below.refl B _⟩
set_option maxHeartbeats 2000000 in
set_option maxRecDepth 100000 in
theorem writeByte (B b : Nat) (bs : List Value) (c : Int) (w : World) (h : Lib.IsBuilder 115 5 B b bs w) (hlen : bs.length + 1 ≤ 140737488355328) (hBw : B ≤ w.heap.size) :
    Calls Tryd.prog 93 #[.pointer (some ⟨b, 0, none⟩), .int .u8 c] w fun e w' => e = .returned .nilIface ∧ (Lib.BuilderAt 115 5 B b (.pointer (some ⟨b, 0, none⟩)) (bs ++ [.int .u8 c]) w' ∧ Below B w w') := by
  obtain ⟨i0, hi, hz0, hz1, hz2⟩ := info_parts bByte
  go_enter Tryd.func93, Tryd.ntmps93
  go_wp2_with (go_at_call 100; refine (cc B b bs _ h).mono ?_)
  rintro e w1 ⟨rfl, h1, hb1⟩
  obtain ⟨hB, v, hbk, hown, hne⟩ := h1
  have c0 : w1.cell? ⟨b, 0, none⟩ = some (.pointer (some ⟨b, 0, none⟩)) := by rw [Lib.cell_of_heap hbk]; rfl
  have c1 : w1.cell? ⟨b, 1, none⟩ = some v := by rw [Lib.cell_of_heap hbk]; rfl
  go_wp2_with (at_builtin; refine wpList_append_own _ rfl _ _ 50 rfl B 5 i0 (.int .u8 0) 1 1 Tryd.underlying50 hi hz0 hz1 hz2 rfl (by decide) _ _ _ rfl (hown.alloc _) ⟨w1.heap.size, 0, none⟩ 1 1 [.int .u8 c] rfl rfl ?c1 ?c2 ?c3 ?c4 ?c5 ?_)
  case c1 =>
    intro j u hj
    match j, hj with
    | 0, hj => simp at hj; subst hj; simp [Addr.add]
  case c2 => intro u hu; simp at hu; subst hu; rfl
  case c3 => unfold maxLen; omega
  case c4 => omega
  case c5 => have := hb1.size; simp; omega
  intro v' w2 hown' hgrow _
  have hlt : b < w1.heap.size := by
    rcases Nat.lt_or_ge b w1.heap.size with h' | h'
    · exact h'
    · simp [Array.getElem?_eq_none h'] at hbk
  have hb2 : w2.heap[b]? = some (.cells #[.pointer (some ⟨b, 0, none⟩), v] 115 (0, 0)) := by
    rw [hgrow.block b (by simp; omega) (fun e => hne e.symm), Lib.alloc_old w1 _ b hlt]
    exact hbk
  have d0 : w2.cell? ⟨b, 0, none⟩ = some (.pointer (some ⟨b, 0, none⟩)) := by rw [Lib.cell_of_heap hb2]; rfl
  have d1 : w2.cell? ⟨b, 1, none⟩ = some v := by rw [Lib.cell_of_heap hb2]; rfl
  have f1 : w2.frozen? ⟨b, 1, none⟩ = false := Lib.frozen_of_heap hb2 1
  obtain ⟨g, cap, rfl⟩ : ∃ g cap, v' = .slice (some ⟨g, 0, none⟩) (bs.length + 1) cap := by
    rcases hown'.2 with ⟨_, h0⟩ | ⟨g, cap, cur, hv, _⟩
    · omega
    · exact ⟨g, cap, hv⟩
  go_wp2
  go_ret
  refine ⟨rfl, ?_, ?_⟩
  · exact Lib.BuilderAt.put (T := 115) (e := 5) hB hb2 (bs' := bs ++ [.int .u8 c]) (by simpa using hown') (by decide)
  · exact ((hb1.alloc (by have := hb1.size; omega) _).grown hgrow (by have := hb1.size; simp; omega) (fun k hk => (hown.lt k hk).1)).setCell (p := ⟨b, 1, none⟩) hB _
/-! ### The text of a builder: the library's contract at this program -/
def lays169_ren : Go.Shelf.Ren := ⟨fun | 169 => 94 | n => n, fun | 70 => 113 | 9 => 9 | 0 => 0 | 72 => 115 | 37 => 50 | 127 => 122 | 3 => 3 | 5 => 5 | n => n, fun | n => n⟩
theorem lays169 : Go.Proofs.Lays.n169 Tryd.prog lays169_ren := {
  mixed := by kernel_rfl
  f169 := Tryd.func94.trans (congrArg some (by kernel_rfl))
  t0 := Tryd.underlying0
  a0 := Tryd.isAgg0
  z0 := Tryd.sizeOf0
  v0 := Tryd.zeroValue0
  t3 := Tryd.underlying3
  a3 := Tryd.isAgg3
  z3 := Tryd.sizeOf3
  v3 := Tryd.zeroValue3
  t9 := Tryd.underlying9
  a9 := Tryd.isAgg9
  z9 := Tryd.sizeOf9
  v9 := Tryd.zeroValue9
  t37 := Tryd.underlying50
  a37 := Tryd.isAgg50
  z37 := Tryd.sizeOf50
  v37 := Tryd.zeroValue50
  t70 := Tryd.underlying113
  a70 := Tryd.isAgg113
  z70 := Tryd.sizeOf113
  v70 := Tryd.zeroValue113
  t72 := Tryd.underlying115
  a72 := Tryd.isAgg115
  z72 := Tryd.sizeOf115
  v72 := Tryd.zeroValue115
  t127 := Tryd.underlying122
  a127 := Tryd.isAgg122
  z127 := Tryd.sizeOf122
  v127 := Tryd.zeroValue122 }
theorem extra169 : Builder.Extra Tryd.prog lays169_ren := {
  sizeBuilder := by kernel_rfl
  liesBuilder := by kernel_rfl
  t5 := Tryd.underlying5
  a5 := Tryd.isAgg5
  z5 := Tryd.sizeOf5
  v5 := Tryd.zeroValue5
  infoByte := by kernel_rfl
  cellsByte := by kernel_rfl
  sizeByte := by kernel_rfl
  neB5 := by decide }
theorem bString (B b : Nat) (l : List UInt8) (w : World) (h : Lib.IsBuilder 115 5 B b (Lib.byteCells l) w) (hBw : B ≤ w.heap.size) :
    Calls Tryd.prog 94 #[.pointer (some ⟨b, 0, none⟩)] w fun e w' => e = .returned (.string ⟨l.toArray⟩) ∧ Below B w w' := Any.Builder_String_any lays169 extra169 B b l w h hBw
end Go.Ev

/- The function that writes a number's bytes: its walk. -/
namespace Go.Ev
open Go Go.Proofs Go.RowKit Go.Shelf

theorem clamp_eq {bytes : Int} : min (max bytes 0) 8 = (N.clamp bytes : Int) ∧ N.clamp bytes ≤ 8 := by
  unfold N.clamp
  rw [ilt_eq, ilt_eq]
  by_cases h1 : 0 < bytes
  · by_cases h2 : 8 < bytes
    · simp [h1, h2]; omega
    · simp [h1, h2]; omega
  · simp [h1]; omega

theorem two_blocks {w wr : World} {o1 o2 : Obj} (h : Below (w.heap.size + 1 + 1) ((w.alloc o1).alloc o2) wr) : wr.heap[w.heap.size]? = some o1 ∧ wr.heap[w.heap.size + 1]? = some o2 := by
  have e : (w.alloc o1).heap.size = w.heap.size + 1 := by simp
  refine ⟨?_, ?_⟩
  · rw [h.block _ (by omega), Below.heap_alloc _ _ _ (by omega)]; exact Go.heap_alloc_new w o1
  · rw [h.block _ (by omega), ← e]; exact Go.heap_alloc_new _ o2

set_option maxHeartbeats 4000000 in
set_option maxRecDepth 1000000 in
theorem outNum_walk (s : ByteArray) (er n bytes : Int) (w : World) (hs : (s.size : Int) ≤ 9223372036854775799) :
    Calls Tryd.prog 75 #[.agg #[.string s, .int .i64 er], .int .u64 n, .int .i64 bytes] w fun e w' =>
      e = .returned (.agg #[.string ⟨(s.data.toList ++ N.numB n (N.clamp bytes)).toArray⟩, .int .i64 er]) ∧ Below w.heap.size w w' := by
  go_enter Tryd.func75, Tryd.ntmps75
  go_wp2
  go_loopw [8] (fun i wr => ∃ (k : Int) (acc : List UInt8), i = .int .i64 k ∧ Lib.IsBuilder 115 5 (w.heap.size + 1 + 1) (w.heap.size + 1 + 1) (Lib.byteCells acc) wr ∧
      Below (w.heap.size + 1 + 1) ((w.alloc (Obj.cells #[Value.string s, Value.int IntKind.i64 er] 97)).alloc (Obj.cells #[Value.string { data := #[] }, Value.int IntKind.i64 0] 97)) wr ∧
      -1 ≤ k ∧ acc ++ N.numB n (k + 1).toNat = N.numB n (N.clamp bytes) ∧ acc.length + (k + 1).toNat ≤ 8) (fun i _ => (intOf i + 1).toNat)
  case atStart =>
    obtain ⟨hcl, hc8⟩ := clamp_eq (bytes := bytes)
    have hf := Lib.fresh_isBuilder 115 5 ((w.alloc (Obj.cells #[Value.string s, Value.int IntKind.i64 er] 97)).alloc (Obj.cells #[Value.string { data := #[] }, Value.int IntKind.i64 0] 97))
    have e0 : ((w.alloc (Obj.cells #[Value.string s, Value.int IntKind.i64 er] 97)).alloc (Obj.cells #[Value.string { data := #[] }, Value.int IntKind.i64 0] 97)).heap.size = w.heap.size + 1 + 1 := by simp
    rw [e0] at hf
    refine ⟨(N.clamp bytes : Int) - 1, [], by rw [hcl], hf, (Below.refl _ _).alloc (by simp) _, by omega, ?_, ?_⟩
    · rw [show ((N.clamp bytes : Int) - 1 + 1).toNat = N.clamp bytes by omega]; rfl
    · simp only [List.length_nil]; omega
  case round =>
    obtain ⟨k, acc, rfl, hI, hB, hk, hacc, hal⟩ := hrel
    by_cases hk0 : 0 ≤ k
    · go_wp2_with (go_at_call 93; refine (writeByte (w.heap.size + 1 + 1) (w.heap.size + 1 + 1) _ _ _ hI (by rw [Lib.byteCells_length]; omega) (by have := hB.size; simp at this; omega)).mono ?_)
      rintro e w1 ⟨rfl, h1, b1⟩
      go_wp2
      go_roundw
      case rel =>
        have e1 : N.numB n (k + 1).toNat = UInt8.ofNat ((n / 2 ^ (8 * k.toNat)) % 256).toNat :: N.numB n k.toNat := by
          rw [show (k + 1).toNat = k.toNat + 1 by omega]; rfl
        have e2 : ((UInt8.ofNat ((n / 2 ^ (8 * k.toNat)) % 256).toNat).toNat : Int) = n / 2 ^ (8 * k).toNat % 256 := by
          rw [show (8 * k).toNat = 8 * k.toNat by omega]
          have h0 : 0 ≤ (n / 2 ^ (8 * k.toNat)) % 256 := Int.emod_nonneg _ (by decide)
          have h1 : (n / 2 ^ (8 * k.toNat)) % 256 < 256 := Int.emod_lt_of_pos _ (by decide)
          have h2 : (UInt8.ofNat ((n / 2 ^ (8 * k.toNat)) % 256).toNat).toNat = ((n / 2 ^ (8 * k.toNat)) % 256).toNat := UInt8.toNat_ofNat_of_lt' (by
            show ((n / 2 ^ (8 * k.toNat)) % 256).toNat < 256
            omega)
          rw [h2]; omega
        refine ⟨k - 1, acc ++ [UInt8.ofNat ((n / 2 ^ (8 * k.toNat)) % 256).toNat], rfl, ?_, hB.trans b1, by omega, ?_, ?_⟩
        · rw [Lib.byteCells_append]
          have e3 : Lib.byteCells [UInt8.ofNat ((n / 2 ^ (8 * k.toNat)) % 256).toNat] = [Value.int .u8 (n / 2 ^ (8 * k).toNat % 256)] := by
            rw [← e2]; rfl
          rw [e3]; exact Or.inr h1
        · rw [e1] at hacc
          rw [← hacc, show (k - 1 + 1).toNat = k.toNat by omega, List.append_assoc]; rfl
        · rw [List.length_append]; simp only [List.length_cons, List.length_nil]; omega
      case measure => simp [intOf]; omega
    · have hk1 : k = -1 := by omega
      subst hk1
      have hfin : N.numB n (N.clamp bytes) = acc := by rw [← hacc]; show acc ++ [] = acc; simp
      have hal : acc.length ≤ 8 := by omega
      clear hacc
      rw [hfin]
      obtain ⟨hb0, hb1⟩ := two_blocks hB
      have c0 : wr.cell? ⟨w.heap.size, 0, none⟩ = some (.string s) := by rw [Lib.cell_of_heap hb0]; rfl
      have c1 : wr.cell? ⟨w.heap.size, 1, none⟩ = some (.int .i64 er) := by rw [Lib.cell_of_heap hb0]; rfl
      have c2 : wr.cell? ⟨w.heap.size + 1, 0, none⟩ = some (.string ⟨#[]⟩) := by rw [Lib.cell_of_heap hb1]; rfl
      have c3 : wr.cell? ⟨w.heap.size + 1, 1, none⟩ = some (.int .i64 0) := by rw [Lib.cell_of_heap hb1]; rfl
      have f0 : wr.frozen? ⟨w.heap.size, 0, none⟩ = false := Lib.frozen_of_heap hb0 0
      have f1 : wr.frozen? ⟨w.heap.size, 1, none⟩ = false := Lib.frozen_of_heap hb0 1
      have f2 : wr.frozen? ⟨w.heap.size + 1, 0, none⟩ = false := Lib.frozen_of_heap hb1 0
      have f3 : wr.frozen? ⟨w.heap.size + 1, 1, none⟩ = false := Lib.frozen_of_heap hb1 1
      have hBw : w.heap.size + 1 + 1 ≤ wr.heap.size := by have := hB.size; simp at this; omega
      have hadd : ¬ 9223372036854775807 < s.size + acc.length := by omega
      have hadd2 : ¬ 9223372036854775807 < s.size + (⟨acc.toArray⟩ : ByteArray).size := by
        show ¬ 9223372036854775807 < s.size + acc.toArray.size
        rw [List.size_toArray]; exact hadd
      have hadd3 : ¬ (s.size + (⟨acc.toArray⟩ : ByteArray).size > 9223372036854775807) := hadd2
      have hadd4 : s.size + (⟨acc.toArray⟩ : ByteArray).size ≤ 9223372036854775807 := Nat.not_lt.1 hadd2
      have hadd5 : s.size + acc.length ≤ 9223372036854775807 := Nat.not_lt.1 hadd
      go_wp2
      go_region_with (go_at_call 94; refine (bString (w.heap.size + 1 + 1) (w.heap.size + 1 + 1) acc _ (by exact hI) (by exact hBw)).mono ?_; rintro e w2 ⟨rfl, b2⟩
                      have d0 : w2.cell? ⟨w.heap.size, 0, none⟩ = some (.string s) := by rw [b2.cell (by show w.heap.size < w.heap.size + 1 + 1; omega)]; exact c0
                      have d1 : w2.cell? ⟨w.heap.size, 1, none⟩ = some (.int .i64 er) := by rw [b2.cell (by show w.heap.size < w.heap.size + 1 + 1; omega)]; exact c1
                      have d2 : w2.cell? ⟨w.heap.size + 1, 0, none⟩ = some (.string ⟨#[]⟩) := by rw [b2.cell (by show w.heap.size + 1 < w.heap.size + 1 + 1; omega)]; exact c2
                      have d3 : w2.cell? ⟨w.heap.size + 1, 1, none⟩ = some (.int .i64 0) := by rw [b2.cell (by show w.heap.size + 1 < w.heap.size + 1 + 1; omega)]; exact c3
                      have e0 : w2.frozen? ⟨w.heap.size, 0, none⟩ = false := by rw [b2.frozen (by show w.heap.size < w.heap.size + 1 + 1; omega)]; exact f0
                      have e1 : w2.frozen? ⟨w.heap.size, 1, none⟩ = false := by rw [b2.frozen (by show w.heap.size < w.heap.size + 1 + 1; omega)]; exact f1
                      have e2 : w2.frozen? ⟨w.heap.size + 1, 0, none⟩ = false := by rw [b2.frozen (by show w.heap.size + 1 < w.heap.size + 1 + 1; omega)]; exact f2
                      have e3 : w2.frozen? ⟨w.heap.size + 1, 1, none⟩ = false := by rw [b2.frozen (by show w.heap.size + 1 < w.heap.size + 1 + 1; omega)]; exact f3)
      all_goals go_wp2
      all_goals
        refine ⟨rfl, .agg #[.string (s ++ ⟨acc.toArray⟩), .int .i64 er], ?_, ?_, ?_⟩
        · simp [results, Tryd.results75, go_sem, d2, d3]
        · rw [hfin, ← bytes_append]
        · have b0 : Below w.heap.size w wr := (((Below.refl _ w).alloc (Nat.le_refl _) _).alloc (by simp) _).trans (hB.mono (by omega))
          exact (((b0.drew.trans (b2.mono (by omega))).setCell (p := ⟨w.heap.size, 0, none⟩) (Nat.le_refl _) _).setCell (p := ⟨w.heap.size + 1, 0, none⟩) (Nat.le_succ _) _).setCell (p := ⟨w.heap.size + 1, 1, none⟩) (Nat.le_succ _) _

/-- What leaves the memory at hand as it is keeps it. -/
theorem keeps_below {w w' : World} (X : Nat → Nat → Prop) (h : Below w.heap.size w w') : Keeps X w w' :=
  ⟨h.os, h.tape, h.output, h.size, fun b hb => ObjOk.same (h.block b hb)⟩
theorem outNum_ok : FnOk Tryd.prog 75 dOutNum := by
  refine den_of fun a b hp => ?_
  obtain ⟨o, n, bytes⟩ := a
  intro x y hxy w J locs xs hlen hJ hx _ _ _
  have hxy : x = (aCons (vAgg cOut) (aCons (vInt .u64) (aOne (vInt .i64)))).enc (o, n, bytes) ∧ y = bNil.enc b := by simpa using hxy
  obtain ⟨rfl, rfl⟩ := hxy
  have hlen : locs = [] := List.eq_nil_of_length_eq_zero hlen
  subst hlen
  obtain ⟨hp1, hp⟩ := bcond hp
  obtain ⟨hp2, hp3⟩ := bcond hp
  have hp3 : o.s.length ≤ 9223372036854775799 := Nat.le_of_ble_eq_true hp3
  obtain ⟨x0, xs1, rfl, hx0, hx⟩ := hx.uncons
  obtain ⟨x1, xs2, rfl, hx1, hx⟩ := hx.uncons
  obtain ⟨x2, rfl, hx2⟩ := hx.one
  obtain ⟨cs, rfl, hc1, hc2⟩ := Rv.agg_inv (show Rv w J _ (.agg [.str o.s, .int .i64 o.err]) x0 from hx0)
  have hx1 := Rv.int_inv (show Rv w J _ (.int .u64 n) x1 from hx1)
  have hx2 := Rv.int_inv (show Rv w J _ (.int .i64 bytes) x2 from hx2)
  subst hx1 hx2
  match cs, hc1, hc2 with
  | [c0, c1], _, hc2 =>
    have h0 := Rv.str_inv (show Rv w J _ (.str o.s) c0 from hc2 0 (by simp))
    have h1 := Rv.int_inv (show Rv w J _ (.int .i64 o.err) c1 from hc2 1 (by simp))
    subst h0 h1
    refine .inl ⟨?_, ?_⟩
    · have hnm : ¬ (Tryd.f75).name = "runtime.NumGoroutine" := by
        intro e
        have : ((Tryd.f75).name == "runtime.NumGoroutine") = false := by kernel_rfl
        rw [e] at this; cases this
      obtain ⟨c, hc⟩ := Option.isSome_iff_exists.1 (show (Tryd.f75).body.isSome = true by kernel_rfl)
      simp [callFunc, Tryd.func75, hnm, hc]
    · refine (outNum_walk ⟨o.s.toArray⟩ o.err n bytes w (by rw [bytes_size]; omega)).mono fun e w' ⟨he, hb⟩ => ⟨_, he, J, ?_⟩
      refine ⟨keeps_below _ hb, fun _ _ h => h, fun b o' h => Nat.lt_of_lt_of_le (hJ b o' h) hb.size, fun _ _ h _ => h, rfl, (fun j cs cs' p hj => by cases hj), .inl ⟨rfl, ?_⟩⟩
      refine .agg [.str (N.outNum o n bytes).s, .int .i64 (N.outNum o n bytes).err] [.string ⟨(o.s ++ N.numB n (N.clamp bytes)).toArray⟩, .int .i64 o.err] rfl fun i hi => ?_
      match i, hi with
      | 0, _ => exact .dat (.str _)
      | 1, _ => exact .dat (.int _ _)
end Go.Ev
