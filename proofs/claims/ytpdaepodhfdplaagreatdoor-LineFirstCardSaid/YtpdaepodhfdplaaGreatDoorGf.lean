/- The document's lines: finding, lending, giving back, removing, waking: lemmas. -/
import Derived.Test.YtpdaepodhfdplaaGreatDoorGe
import Derived.Test.YtpdaepodhfdplaaGreatDoorGc
import Derived.Test.YtpdaepodhfdplaaGreatDoorProg
import Derived.KernelRfl
import Derived.Shelf.Strings.Builder1
import Derived.RegionTactic
import Derived.Deep.RegionWith
namespace Go.Ev
open Go Go.Proofs
set_option maxRecDepth 100000
-- FOLD

def dRFind : Den := den (aCons (vSl cItem) (aOne (vInt .u64))) bNil (oV (vInt .i64)) (fun a _ => Nat.ble a.1.length 1000) fun a _ => (N.ix (N.isId a.2) a.1 0, ())
def dRTurned : Den := den (aCons (vSl cItem) (aCons (vInt .i64) (aOne (vAgg cItem)))) bNil (oV (vSl cItem)) (fun a _ => goodAt a.1 a.2.1) fun a _ => (a.1.set a.2.1.toNat a.2.2, ())
def dRLend : Den := den (aOne (vSl cItem)) bNil (oTup (aCons (vSl cItem) (aCons (vAgg cItem) (aOne vBool)))) (fun l _ => Nat.ble l.length 1000) fun l _ => (N.lLend l, ())
def dRBack : Den := den (aCons (vSl cItem) (aOne (vInt .u64))) bNil (oTup (aCons (vSl cItem) (aOne (vInt .i64)))) (fun a _ => Nat.ble a.1.length 1000) fun a _ => (N.lBack a.1 a.2, ())
def dRRemove : Den := den (aCons (vSl cItem) (aOne (vInt .u64))) bNil (oTup (aCons (vSl cItem) (aCons (vAgg cItem) (aOne (vInt .i64))))) (fun a _ => Nat.ble a.1.length 1000) fun a _ => (N.lRemove a.1 a.2, ())
def dRWake : Den := den (aOne (vSl cItem)) bNil (oV (vSl cItem)) (fun l _ => Nat.ble l.length 1000) fun l _ => (N.lWake l, ())
def dRAdd : Den := den (aCons (vSl cItem) (aOne (vAgg cMail))) bNil (oTup (aCons (vSl cItem) (aOne (vInt .i64)))) (fun a _ => Nat.ble a.1.length 1000) fun a _ => (N.rPut a.1 ⟨a.2, false, false⟩, ())
def schRFind : SSch := { fr := [(1, .int .u64), (7, .slc [.int .u64, .str, .str, .slc [.str, .int .u8, .int .i64, .str], .str, .int .u64, .int .u8, .bool, .bool]), (8, .int .i64), (9, .int .i64)], tab := [] }
def gRFind : List Leaf → (Ex → St → Option R) → Option R
  | [.i id, .r r, .i n, .i i], K => cond (n == r.length) (cond (i == 0) (cond (Nat.ble r.length 1000) (cond (ile 0 (N.ix (N.isId id) (r.map cItem.dec) 0)) (K .ret { fr := [(4, .int .i64 (N.ix (N.isId id) (r.map cItem.dec) 0))], tab := [] }) (K (.exit 0) { fr := [], tab := [] })) none) none) none
  | _, _ => none
noncomputable def eRFind : Env := env Tryz.prog [] [(2, loopF schRFind gRFind)] [(2, [(0, [1, 7, 8, 9]), (1, []), (1000, [4])])]
theorem q_rFind (l : List HItem) (id : Int) : evFn eRFind 105 ((aCons (vSl cItem) (aOne (vInt .u64))).enc (l, id)) ([]) some =
 cond ((↑(List.length (List.map (RCod.enc cItem) l)) : Int) == (↑(List.length (List.map (RCod.enc cItem) l)) : Int)) (cond (Nat.ble (List.length (List.map (RCod.enc cItem) l)) (1000 : Nat)) (cond (ile (0 : Int) (N.ix (N.isId id) (List.map (RCod.dec cItem) (List.map (RCod.enc cItem) l)) (0 : Int))) (some { v := V.int IntKind.i64 (N.ix (N.isId id) (List.map (RCod.dec cItem) (List.map (RCod.enc cItem) l)) (0 : Int)), bx := [] : DRes }) (some { v := V.int IntKind.i64 (-1 : Int), bx := [] : DRes })) (none)) (none) := by kernel_rfl
theorem q_rFindR (id : Int) (r : List (List V)) (n i : Int) (K : Ex → St → Option R) : evRound eRFind 105 2 { fr := [(1, .int .u64 id), (7, .slc [.int .u64, .str, .str, .slc [.str, .int .u8, .int .i64, .str], .str, .int .u64, .int .u8, .bool, .bool] r), (8, .int .i64 n), (9, .int .i64 i)], tab := [] } K =
 cond (ilt i n) (cond (decide ((0 : Int) ≤ i ∧ i < (↑(List.length r) : Int))) (cond (V.toInt (List.getD (List.getD r (Int.toNat i) []) (0 : Nat) V.undef) == id) (K Ex.ret { fr := [((4 : Nat), V.int IntKind.i64 i)], tab := [] : St }) (K Ex.normal { fr := [((1 : Nat), V.int IntKind.u64 id), ((7 : Nat), V.slc [Sh.int IntKind.u64, Sh.str, Sh.str, Sh.slc [Sh.str, Sh.int IntKind.u8, Sh.int IntKind.i64, Sh.str], Sh.str, Sh.int IntKind.u64, Sh.int IntKind.u8, Sh.bool, Sh.bool] r), ((8 : Nat), V.int IntKind.i64 n), ((9 : Nat), V.int IntKind.i64 (IntKind.wrap IntKind.i64 (i + (1 : Int))))], tab := [] : St })) (none)) (K (Ex.exit (0 : Nat)) { fr := [], tab := [] : St }) := by kernel_rfl
theorem ok_rFind : FnOk Tryz.prog 105 dRFind := by
  refine den_okF (env_ok (TOk.nil _)) (E := eRFind) Tryz.func105 [2] (by kernel_rfl) (one1 (rounds_of rfl fun l K q h => ?_)) fun a _ hp => ?_
  · unfold gRFind at h
    split at h
    · rename_i id r n i
      have h1 := (cond_none h).1; replace h := (cond_none h).2; have h2 := (cond_none h).1; replace h := (cond_none h).2; have h3 := (cond_none h).1; replace h := (cond_none h).2
      have e1 := ieq_of h1
      have e2 := ieq_of h2
      subst e1 e2
      have h3 : r.length ≤ 1000 := ble_of h3
      have main := loop_ind (E := eRFind) (f := 105) (id := 2) (σ := Nat) (fun i => { fr := [(1, .int .u64 id), (7, .slc [.int .u64, .str, .str, .slc [.str, .int .u8, .int .i64, .str], .str, .int .u64, .int .u8, .bool, .bool] r), (8, .int .i64 r.length), (9, .int .i64 (i : Int))], tab := [] }) (fun i => i ≤ r.length) (fun i => r.length - i)
        (fun i K => cond (ile 0 (N.ix (N.isId id) ((r.drop i).map cItem.dec) i)) (K .ret { fr := [(4, .int .i64 (N.ix (N.isId id) ((r.drop i).map cItem.dec) i))], tab := [] }) (K (.exit 0) { fr := [], tab := [] })) (fun i hi => ?_) 0 (Nat.zero_le _) K q (by assumption)
      · exact main
      · by_cases hl : i < r.length
        · rw [drop_decI hl, ix_cons]
          have hm : V.toInt (List.getD (List.getD r i []) 0 V.undef) = (cItem.dec (r.getD i [])).mail.id := rfl
          cases hc : N.isId id (cItem.dec (r.getD i [])) with
          | true =>
            have hc' : ((cItem.dec (r.getD i [])).mail.id == id) = true := hc
            refine .inr ⟨.ret, { fr := [(4, .int .i64 (i : Int))], tab := [] }, by simp, fun K => ?_, fun K => ?_⟩
            · rw [q_rFindR]
              simp (disch := omega) only [evs, Int.toNat_natCast, hm, hc']
            · simp only [cond_true]
              rw [ile_t (by omega)]; rfl
          | false =>
            have hc' : ((cItem.dec (r.getD i [])).mail.id == id) = false := hc
            refine .inl ⟨i + 1, hl, by omega, fun K => ?_, fun K => rfl⟩
            rw [q_rFindR]
            simp (disch := omega) only [evs, Int.toNat_natCast, hm, hc']
            rfl
        · refine .inr ⟨.exit 0, { fr := [], tab := [] }, by simp, fun K => ?_, fun K => ?_⟩
          · rw [q_rFindR]
            simp (disch := omega) only [evs]
          · rw [List.drop_eq_nil_of_le (by omega)]; rfl
    · cases h
  · obtain ⟨l, id⟩ := a
    have hp : Nat.ble l.length 1000 = true := hp
    refine (q_rFind l id).trans ?_
    simp only [List.length_map, dec_encs, hp, beq_self_eq_true, cond_true]
    show _ = some (⟨.int .i64 (N.ix (N.isId id) l 0), [], []⟩ : DRes)
    cases hc : ile 0 (N.ix (N.isId id) l 0) with
    | true => rfl
    | false => rw [ix_end hc]; rfl
/-- The rows, one of them another. -/
def N.turnRows (k : Int) (x : List V) : List (List V) → Int → List (List V)
  | [], _ => []
  | r :: rs, i => cond (i == k) x (reRowI r) :: N.turnRows k x rs (i + 1)
theorem turnRows_enc (k : Nat) (x : HItem) : ∀ (l : List HItem) (i : Nat), N.turnRows (((i + k : Nat) : Int)) (cItem.enc x) (l.map cItem.enc) i = (l.set k x).map cItem.enc
  | [], _ => rfl
  | y :: r, i => by
    show cond ((i : Int) == ((i + k : Nat) : Int)) (cItem.enc x) (reRowI (cItem.enc y)) :: N.turnRows (((i + k : Nat) : Int)) (cItem.enc x) (r.map cItem.enc) ((i : Int) + 1) = _
    cases k with
    | zero =>
      have hne : ∀ (l : List HItem) (j : Nat), i < j → N.turnRows (((i + 0 : Nat) : Int)) (cItem.enc x) (l.map cItem.enc) j = l.map cItem.enc := fun l => by
        induction l with
        | nil => intro j _; rfl
        | cons z r ih =>
          intro j hj
          show cond ((j : Int) == ((i + 0 : Nat) : Int)) (cItem.enc x) (reRowI (cItem.enc z)) :: N.turnRows _ _ (r.map cItem.enc) ((j : Int) + 1) = _
          rw [ieq_f (by omega)]
          have := ih (j + 1) (by omega)
          rw [show ((j : Int) + 1) = ((j + 1 : Nat) : Int) from rfl, this]
          rfl
      rw [show ((i : Int) == ((i + 0 : Nat) : Int)) = true from ieq_t (by omega)]
      rw [show ((i : Int) + 1) = ((i + 1 : Nat) : Int) from rfl, hne r (i + 1) (by omega)]
      rfl
    | succ k =>
      rw [ieq_f (show (i : Int) ≠ ((i + (k + 1) : Nat) : Int) by omega)]
      have ih := turnRows_enc k x r (i + 1)
      rw [show i + 1 + k = i + (k + 1) by omega] at ih
      rw [show ((i : Int) + 1) = ((i + 1 : Nat) : Int) from rfl, ih]
      rfl
theorem turnRows_len (k : Int) (x : List V) : ∀ (r : List (List V)) (i : Int), (N.turnRows k x r i).length = r.length
  | [], _ => rfl
  | _ :: rs, i => by
    show (N.turnRows k x rs (i + 1)).length + 1 = rs.length + 1
    rw [turnRows_len k x rs]
def schRTurned : SSch := { fr := [(1, .int .i64), (5, .ptr 10000 0 0), (7, .own 10001), (10, .slc [.int .u64, .str, .str, .slc [.str, .int .u8, .int .i64, .str], .str, .int .u64, .int .u8, .bool, .bool]), (11, .int .i64), (12, .int .i64)], tab := [(10000, .var [.int .u64, .str, .str, .slc [.str, .int .u8, .int .i64, .str], .str, .int .u64, .int .u8, .bool, .bool]), (10001, .sl [.int .u64, .str, .str, .slc [.str, .int .u8, .int .i64, .str], .str, .int .u64, .int .u8, .bool, .bool])] }
def gRTurned : List Leaf → (Ex → St → Option R) → Option R
  | [.i k, .r r, .i n, .i i, .i id, .s s1, .s s2, .r hd, .s s3, .i due, .i hops, .b b1, .b b2, .r a], K => cond (n == r.length) (cond (i == 0) (cond (Nat.beq a.length 0) (cond (Nat.ble r.length 1000)
      (K (.exit 0) { fr := [(7, .own 10000 0)], tab := [(10000, .sl [.int .u64, .str, .str, .slc [.str, .int .u8, .int .i64, .str], .str, .int .u64, .int .u8, .bool, .bool] (N.turnRows k [V.int .u64 id, .str s1, .str s2, .slc [.str, .int .u8, .int .i64, .str] hd, .str s3, .int .u64 due, .int .u8 hops, .bool b1, .bool b2] r 0) 0)] }) none) none) none) none
  | _, _ => none
noncomputable def eRTurned : Env := env Tryz.prog [] [(3, loopF schRTurned gRTurned)] [(3, [(0, [1, 5, 7, 10, 11, 12]), (1, [7]), (1000, [6])])]
theorem q_rTurned (l : List HItem) (k : Int) (x : HItem) : evFn eRTurned 104 ((aCons (vSl cItem) (aCons (vInt .i64) (aOne (vAgg cItem)))).enc (l, k, x)) ([]) some =
 cond ((↑(List.length (List.map (RCod.enc cItem) l)) : Int) == (↑(List.length (List.map (RCod.enc cItem) l)) : Int)) (cond (Nat.ble (List.length (List.map (RCod.enc cItem) l)) (1000 : Nat)) (some { v := V.slc [Sh.int IntKind.u64, Sh.str, Sh.str, Sh.slc [Sh.str, Sh.int IntKind.u8, Sh.int IntKind.i64, Sh.str], Sh.str, Sh.int IntKind.u64, Sh.int IntKind.u8, Sh.bool, Sh.bool] (N.turnRows k [V.int IntKind.u64 (HMail.id (HItem.mail x)), V.str (HMail.shop (HItem.mail x)), V.str (HMail.key (HItem.mail x)), V.slc [Sh.str, Sh.int IntKind.u8, Sh.int IntKind.i64, Sh.str] (List.map (fun p => [V.str (HPair.key p), V.int IntKind.u8 (HPair.kind p), V.int IntKind.i64 (HPair.num p), V.str (HPair.text p)]) (HMail.head (HItem.mail x))), V.str (HMail.body (HItem.mail x)), V.int IntKind.u64 (HMail.due (HItem.mail x)), V.int IntKind.u8 (HMail.hops (HItem.mail x)), V.bool (HItem.lent x), V.bool (HItem.again x)] (List.map (RCod.enc cItem) l) (0 : Int)), bx := [] : DRes }) (none)) (none) := by kernel_rfl
theorem q_rTurnedR (k : Int) (r : List (List V)) (n i : Int) (id : Int) (s1 s2 : Bytes) (hd : List (List V)) (s3 : Bytes) (due hops : Int) (b1 b2 : Bool) (a : List (List V)) (K : Ex → St → Option R) : evRound eRTurned 104 3 { fr := [(1, .int .i64 k), (5, .ptr 10000 0 0 0), (7, .own 10001 0), (10, .slc [.int .u64, .str, .str, .slc [.str, .int .u8, .int .i64, .str], .str, .int .u64, .int .u8, .bool, .bool] r), (11, .int .i64 n), (12, .int .i64 i)], tab := [(10000, .var [.int .u64 id, .str s1, .str s2, .slc [.str, .int .u8, .int .i64, .str] hd, .str s3, .int .u64 due, .int .u8 hops, .bool b1, .bool b2]), (10001, .sl [.int .u64, .str, .str, .slc [.str, .int .u8, .int .i64, .str], .str, .int .u64, .int .u8, .bool, .bool] a 0)] } K =
 cond (ilt i n) (cond (decide ((0 : Int) ≤ i ∧ i < (↑(List.length r) : Int))) (cond (i == k) (cond (decide ((List.length a + (1 : Nat)) * (104 : Nat) ≤ (140737488355328 : Nat))) (K Ex.normal { fr := [((1 : Nat), V.int IntKind.i64 k), ((5 : Nat), V.ptr (10000 : Nat) (0 : Nat) (0 : Nat) (0 : Nat)), ((7 : Nat), V.own (10001 : Nat) (0 : Nat)), ((10 : Nat), V.slc [Sh.int IntKind.u64, Sh.str, Sh.str, Sh.slc [Sh.str, Sh.int IntKind.u8, Sh.int IntKind.i64, Sh.str], Sh.str, Sh.int IntKind.u64, Sh.int IntKind.u8, Sh.bool, Sh.bool] r), ((11 : Nat), V.int IntKind.i64 n), ((12 : Nat), V.int IntKind.i64 (IntKind.wrap IntKind.i64 (i + (1 : Int))))], tab := [((10000 : Nat), Box.var [V.int IntKind.u64 id, V.str s1, V.str s2, V.slc [Sh.str, Sh.int IntKind.u8, Sh.int IntKind.i64, Sh.str] hd, V.str s3, V.int IntKind.u64 due, V.int IntKind.u8 hops, V.bool b1, V.bool b2]), ((10001 : Nat), Box.sl [Sh.int IntKind.u64, Sh.str, Sh.str, Sh.slc [Sh.str, Sh.int IntKind.u8, Sh.int IntKind.i64, Sh.str], Sh.str, Sh.int IntKind.u64, Sh.int IntKind.u8, Sh.bool, Sh.bool] (a ++ [[V.int IntKind.u64 id, V.str s1, V.str s2, V.slc [Sh.str, Sh.int IntKind.u8, Sh.int IntKind.i64, Sh.str] hd, V.str s3, V.int IntKind.u64 due, V.int IntKind.u8 hops, V.bool b1, V.bool b2]]) (0 : Nat))] : St }) (none)) (cond (decide ((List.length a + (1 : Nat)) * (104 : Nat) ≤ (140737488355328 : Nat))) (K Ex.normal { fr := [((1 : Nat), V.int IntKind.i64 k), ((5 : Nat), V.ptr (10000 : Nat) (0 : Nat) (0 : Nat) (0 : Nat)), ((7 : Nat), V.own (10001 : Nat) (0 : Nat)), ((10 : Nat), V.slc [Sh.int IntKind.u64, Sh.str, Sh.str, Sh.slc [Sh.str, Sh.int IntKind.u8, Sh.int IntKind.i64, Sh.str], Sh.str, Sh.int IntKind.u64, Sh.int IntKind.u8, Sh.bool, Sh.bool] r), ((11 : Nat), V.int IntKind.i64 n), ((12 : Nat), V.int IntKind.i64 (IntKind.wrap IntKind.i64 (i + (1 : Int))))], tab := [((10000 : Nat), Box.var [V.int IntKind.u64 id, V.str s1, V.str s2, V.slc [Sh.str, Sh.int IntKind.u8, Sh.int IntKind.i64, Sh.str] hd, V.str s3, V.int IntKind.u64 due, V.int IntKind.u8 hops, V.bool b1, V.bool b2]), ((10001 : Nat), Box.sl [Sh.int IntKind.u64, Sh.str, Sh.str, Sh.slc [Sh.str, Sh.int IntKind.u8, Sh.int IntKind.i64, Sh.str], Sh.str, Sh.int IntKind.u64, Sh.int IntKind.u8, Sh.bool, Sh.bool] (a ++ [[V.int IntKind.u64 (V.toInt (List.getD (List.getD r (Int.toNat i) []) (0 : Nat) V.undef)), V.str (V.toStr (List.getD (List.getD r (Int.toNat i) []) (1 : Nat) V.undef)), V.str (V.toStr (List.getD (List.getD r (Int.toNat i) []) (2 : Nat) V.undef)), V.slc [Sh.str, Sh.int IntKind.u8, Sh.int IntKind.i64, Sh.str] (V.toRows (List.getD (List.getD r (Int.toNat i) []) (3 : Nat) V.undef)), V.str (V.toStr (List.getD (List.getD r (Int.toNat i) []) (4 : Nat) V.undef)), V.int IntKind.u64 (V.toInt (List.getD (List.getD r (Int.toNat i) []) (5 : Nat) V.undef)), V.int IntKind.u8 (V.toInt (List.getD (List.getD r (Int.toNat i) []) (6 : Nat) V.undef)), V.bool (V.toBool (List.getD (List.getD r (Int.toNat i) []) (7 : Nat) V.undef)), V.bool (V.toBool (List.getD (List.getD r (Int.toNat i) []) (8 : Nat) V.undef))]]) (0 : Nat))] : St }) (none))) (none)) (K (Ex.exit (0 : Nat)) { fr := [((7 : Nat), V.own (10000 : Nat) (0 : Nat))], tab := [((10000 : Nat), Box.sl [Sh.int IntKind.u64, Sh.str, Sh.str, Sh.slc [Sh.str, Sh.int IntKind.u8, Sh.int IntKind.i64, Sh.str], Sh.str, Sh.int IntKind.u64, Sh.int IntKind.u8, Sh.bool, Sh.bool] a (0 : Nat))] : St }) := by kernel_rfl
/-- The rows, each woken. -/
def wakeRow (r : List V) : List V := [V.int .u64 (V.toInt (List.getD r 0 .undef)), V.str (V.toStr (List.getD r 1 .undef)), V.str (V.toStr (List.getD r 2 .undef)), V.slc [.str, .int .u8, .int .i64, .str] (V.toRows (List.getD r 3 .undef)), V.str (V.toStr (List.getD r 4 .undef)), V.int .u64 (V.toInt (List.getD r 5 .undef)), V.int .u8 (V.toInt (List.getD r 6 .undef)), V.bool false, V.bool (cond (V.toBool (List.getD r 8 .undef)) true (V.toBool (List.getD r 7 .undef)))]
def N.wakeRows (r : List (List V)) : List (List V) := r.map wakeRow
theorem wakeRows_enc (l : List HItem) : N.wakeRows (l.map cItem.enc) = (N.lWake l).map cItem.enc := by
  unfold N.wakeRows N.lWake
  rw [List.map_map, List.map_map]
  refine List.map_congr_left fun x _ => ?_
  show wakeRow (cItem.enc x) = cItem.enc (N.wakeI x)
  obtain ⟨m, a, b⟩ := x
  cases a <;> cases b <;> rfl
theorem wakeRows_succ {r : List (List V)} {i : Nat} (h : i < r.length) : N.wakeRows (r.take (i + 1)) = N.wakeRows (r.take i) ++ [wakeRow (r.getD i [])] := by
  unfold N.wakeRows
  rw [List.take_add_one, List.getD_eq_getElem?_getD, List.getElem?_eq_getElem h]
  simp only [Option.toList_some, List.map_append, List.map_cons, List.map_nil, Option.getD_some]
def schRWake : SSch := { fr := [(3, .own 10000), (6, .slc [.int .u64, .str, .str, .slc [.str, .int .u8, .int .i64, .str], .str, .int .u64, .int .u8, .bool, .bool]), (7, .int .i64), (8, .int .i64)], tab := [(10000, .sl [.int .u64, .str, .str, .slc [.str, .int .u8, .int .i64, .str], .str, .int .u64, .int .u8, .bool, .bool])] }
def gRWake : List Leaf → (Ex → St → Option R) → Option R
  | [.r r, .i n, .i i, .r a], K => cond (n == r.length) (cond (i == 0) (cond (Nat.beq a.length 0) (cond (Nat.ble r.length 1000)
      (K (.exit 0) { fr := [(3, .own 10000 0)], tab := [(10000, .sl [.int .u64, .str, .str, .slc [.str, .int .u8, .int .i64, .str], .str, .int .u64, .int .u8, .bool, .bool] (N.wakeRows r) 0)] }) none) none) none) none
  | _, _ => none
noncomputable def eRWake : Env := env Tryz.prog [] [(3, loopF schRWake gRWake)] [(3, [(0, [3, 6, 7, 8]), (1, [3]), (1000, [2])])]
theorem q_rWake (l : List HItem) : evFn eRWake 52 ((aOne (vSl cItem)).enc l) ([]) some =
 cond ((↑(List.length (List.map (RCod.enc cItem) l)) : Int) == (↑(List.length (List.map (RCod.enc cItem) l)) : Int)) (cond (Nat.ble (List.length (List.map (RCod.enc cItem) l)) (1000 : Nat)) (some { v := V.slc [Sh.int IntKind.u64, Sh.str, Sh.str, Sh.slc [Sh.str, Sh.int IntKind.u8, Sh.int IntKind.i64, Sh.str], Sh.str, Sh.int IntKind.u64, Sh.int IntKind.u8, Sh.bool, Sh.bool] (N.wakeRows (List.map (RCod.enc cItem) l)), bx := [] : DRes }) (none)) (none) := by kernel_rfl
theorem q_rWakeR (r : List (List V)) (n i : Int) (a : List (List V)) (K : Ex → St → Option R) : evRound eRWake 52 3 { fr := [(3, .own 10000 0), (6, .slc [.int .u64, .str, .str, .slc [.str, .int .u8, .int .i64, .str], .str, .int .u64, .int .u8, .bool, .bool] r), (7, .int .i64 n), (8, .int .i64 i)], tab := [(10000, .sl [.int .u64, .str, .str, .slc [.str, .int .u8, .int .i64, .str], .str, .int .u64, .int .u8, .bool, .bool] a 0)] } K =
 cond (ilt i n) (cond (decide ((0 : Int) ≤ i ∧ i < (↑(List.length r) : Int))) (cond (V.toBool (List.getD (List.getD r (Int.toNat i) []) (8 : Nat) V.undef)) (cond (decide ((List.length a + (1 : Nat)) * (104 : Nat) ≤ (140737488355328 : Nat))) (K Ex.normal { fr := [((3 : Nat), V.own (10000 : Nat) (0 : Nat)), ((6 : Nat), V.slc [Sh.int IntKind.u64, Sh.str, Sh.str, Sh.slc [Sh.str, Sh.int IntKind.u8, Sh.int IntKind.i64, Sh.str], Sh.str, Sh.int IntKind.u64, Sh.int IntKind.u8, Sh.bool, Sh.bool] r), ((7 : Nat), V.int IntKind.i64 n), ((8 : Nat), V.int IntKind.i64 (IntKind.wrap IntKind.i64 (i + (1 : Int))))], tab := [((10000 : Nat), Box.sl [Sh.int IntKind.u64, Sh.str, Sh.str, Sh.slc [Sh.str, Sh.int IntKind.u8, Sh.int IntKind.i64, Sh.str], Sh.str, Sh.int IntKind.u64, Sh.int IntKind.u8, Sh.bool, Sh.bool] (a ++ [[V.int IntKind.u64 (V.toInt (List.getD (List.getD r (Int.toNat i) []) (0 : Nat) V.undef)), V.str (V.toStr (List.getD (List.getD r (Int.toNat i) []) (1 : Nat) V.undef)), V.str (V.toStr (List.getD (List.getD r (Int.toNat i) []) (2 : Nat) V.undef)), V.slc [Sh.str, Sh.int IntKind.u8, Sh.int IntKind.i64, Sh.str] (V.toRows (List.getD (List.getD r (Int.toNat i) []) (3 : Nat) V.undef)), V.str (V.toStr (List.getD (List.getD r (Int.toNat i) []) (4 : Nat) V.undef)), V.int IntKind.u64 (V.toInt (List.getD (List.getD r (Int.toNat i) []) (5 : Nat) V.undef)), V.int IntKind.u8 (V.toInt (List.getD (List.getD r (Int.toNat i) []) (6 : Nat) V.undef)), V.bool false, V.bool true]]) (0 : Nat))] : St }) (none)) (cond (decide ((List.length a + (1 : Nat)) * (104 : Nat) ≤ (140737488355328 : Nat))) (K Ex.normal { fr := [((3 : Nat), V.own (10000 : Nat) (0 : Nat)), ((6 : Nat), V.slc [Sh.int IntKind.u64, Sh.str, Sh.str, Sh.slc [Sh.str, Sh.int IntKind.u8, Sh.int IntKind.i64, Sh.str], Sh.str, Sh.int IntKind.u64, Sh.int IntKind.u8, Sh.bool, Sh.bool] r), ((7 : Nat), V.int IntKind.i64 n), ((8 : Nat), V.int IntKind.i64 (IntKind.wrap IntKind.i64 (i + (1 : Int))))], tab := [((10000 : Nat), Box.sl [Sh.int IntKind.u64, Sh.str, Sh.str, Sh.slc [Sh.str, Sh.int IntKind.u8, Sh.int IntKind.i64, Sh.str], Sh.str, Sh.int IntKind.u64, Sh.int IntKind.u8, Sh.bool, Sh.bool] (a ++ [[V.int IntKind.u64 (V.toInt (List.getD (List.getD r (Int.toNat i) []) (0 : Nat) V.undef)), V.str (V.toStr (List.getD (List.getD r (Int.toNat i) []) (1 : Nat) V.undef)), V.str (V.toStr (List.getD (List.getD r (Int.toNat i) []) (2 : Nat) V.undef)), V.slc [Sh.str, Sh.int IntKind.u8, Sh.int IntKind.i64, Sh.str] (V.toRows (List.getD (List.getD r (Int.toNat i) []) (3 : Nat) V.undef)), V.str (V.toStr (List.getD (List.getD r (Int.toNat i) []) (4 : Nat) V.undef)), V.int IntKind.u64 (V.toInt (List.getD (List.getD r (Int.toNat i) []) (5 : Nat) V.undef)), V.int IntKind.u8 (V.toInt (List.getD (List.getD r (Int.toNat i) []) (6 : Nat) V.undef)), V.bool false, V.bool (V.toBool (List.getD (List.getD r (Int.toNat i) []) (7 : Nat) V.undef))]]) (0 : Nat))] : St }) (none))) (none)) (K (Ex.exit (0 : Nat)) { fr := [((3 : Nat), V.own (10000 : Nat) (0 : Nat))], tab := [((10000 : Nat), Box.sl [Sh.int IntKind.u64, Sh.str, Sh.str, Sh.slc [Sh.str, Sh.int IntKind.u8, Sh.int IntKind.i64, Sh.str], Sh.str, Sh.int IntKind.u64, Sh.int IntKind.u8, Sh.bool, Sh.bool] a (0 : Nat))] : St }) := by kernel_rfl
noncomputable def eRAdd : Env := env Tryz.prog [(61, dRPut)] [] []
theorem q_rAdd (l : List HItem) (m : HMail) : evFn eRAdd 53 ((aCons (vSl cItem) (aOne (vAgg cMail))).enc (l, m)) ([]) some =
 cond (Nat.ble (List.length (List.map (RCod.dec cItem) (List.map (RCod.enc cItem) l))) (1000 : Nat)) (some { v := V.tup [V.slc [Sh.int IntKind.u64, Sh.str, Sh.str, Sh.slc [Sh.str, Sh.int IntKind.u8, Sh.int IntKind.i64, Sh.str], Sh.str, Sh.int IntKind.u64, Sh.int IntKind.u8, Sh.bool, Sh.bool] (List.map (RCod.enc cItem) (Prod.fst (N.rPut (List.map (RCod.dec cItem) (List.map (RCod.enc cItem) l)) { mail := { id := HMail.id m, shop := HMail.shop m, key := HMail.key m, head := List.map (fun r => { key := V.toStr (List.getD r (0 : Nat) V.undef), kind := V.toInt (List.getD r (1 : Nat) V.undef), num := V.toInt (List.getD r (2 : Nat) V.undef), text := V.toStr (List.getD r (3 : Nat) V.undef) : HPair }) (List.map (fun p => [V.str (HPair.key p), V.int IntKind.u8 (HPair.kind p), V.int IntKind.i64 (HPair.num p), V.str (HPair.text p)]) (HMail.head m)), body := HMail.body m, due := HMail.due m, hops := HMail.hops m : HMail }, lent := false, again := false : HItem }))), V.int IntKind.i64 (Prod.snd (N.rPut (List.map (RCod.dec cItem) (List.map (RCod.enc cItem) l)) { mail := { id := HMail.id m, shop := HMail.shop m, key := HMail.key m, head := List.map (fun r => { key := V.toStr (List.getD r (0 : Nat) V.undef), kind := V.toInt (List.getD r (1 : Nat) V.undef), num := V.toInt (List.getD r (2 : Nat) V.undef), text := V.toStr (List.getD r (3 : Nat) V.undef) : HPair }) (List.map (fun p => [V.str (HPair.key p), V.int IntKind.u8 (HPair.kind p), V.int IntKind.i64 (HPair.num p), V.str (HPair.text p)]) (HMail.head m)), body := HMail.body m, due := HMail.due m, hops := HMail.hops m : HMail }, lent := false, again := false : HItem }))], bx := [] : DRes }) (none) := by kernel_rfl
noncomputable def eRBack : Env := env Tryz.prog [(105, dRFind), (104, dRTurned)] [] []
theorem q_rBack (l : List HItem) (id : Int) : evFn eRBack 49 ((aCons (vSl cItem) (aOne (vInt .u64))).enc (l, id)) ([]) some =
 cond (Nat.ble (List.length (List.map (RCod.dec cItem) (List.map (RCod.enc cItem) l))) (1000 : Nat)) (cond (ilt (N.ix (N.isId id) (List.map (RCod.dec cItem) (List.map (RCod.enc cItem) l)) (0 : Int)) (0 : Int)) (some { v := V.tup [V.slc [Sh.int IntKind.u64, Sh.str, Sh.str, Sh.slc [Sh.str, Sh.int IntKind.u8, Sh.int IntKind.i64, Sh.str], Sh.str, Sh.int IntKind.u64, Sh.int IntKind.u8, Sh.bool, Sh.bool] (List.map (RCod.enc cItem) l), V.int IntKind.i64 (10 : Int)], bx := [] : DRes }) (cond (decide ((0 : Int) ≤ N.ix (N.isId id) (List.map (RCod.dec cItem) (List.map (RCod.enc cItem) l)) (0 : Int) ∧ N.ix (N.isId id) (List.map (RCod.dec cItem) (List.map (RCod.enc cItem) l)) (0 : Int) < (↑(List.length (List.map (RCod.enc cItem) l)) : Int))) (cond (!V.toBool (List.getD (List.getD (List.map (RCod.enc cItem) l) (Int.toNat (N.ix (N.isId id) (List.map (RCod.dec cItem) (List.map (RCod.enc cItem) l)) (0 : Int))) []) (7 : Nat) V.undef)) (some { v := V.tup [V.slc [Sh.int IntKind.u64, Sh.str, Sh.str, Sh.slc [Sh.str, Sh.int IntKind.u8, Sh.int IntKind.i64, Sh.str], Sh.str, Sh.int IntKind.u64, Sh.int IntKind.u8, Sh.bool, Sh.bool] (List.map (RCod.enc cItem) l), V.int IntKind.i64 (13 : Int)], bx := [] : DRes }) (cond (decide ((0 : Int) ≤ N.ix (N.isId id) (List.map (RCod.dec cItem) (List.map (RCod.enc cItem) l)) (0 : Int) ∧ N.ix (N.isId id) (List.map (RCod.dec cItem) (List.map (RCod.enc cItem) l)) (0 : Int) < (↑(List.length (List.map (RCod.enc cItem) l)) : Int))) (cond (goodAt (List.map (RCod.dec cItem) (List.map (RCod.enc cItem) l)) (N.ix (N.isId id) (List.map (RCod.dec cItem) (List.map (RCod.enc cItem) l)) (0 : Int))) (some { v := V.tup [V.slc [Sh.int IntKind.u64, Sh.str, Sh.str, Sh.slc [Sh.str, Sh.int IntKind.u8, Sh.int IntKind.i64, Sh.str], Sh.str, Sh.int IntKind.u64, Sh.int IntKind.u8, Sh.bool, Sh.bool] (List.map (RCod.enc cItem) (List.set (List.map (RCod.dec cItem) (List.map (RCod.enc cItem) l)) (Int.toNat (N.ix (N.isId id) (List.map (RCod.dec cItem) (List.map (RCod.enc cItem) l)) (0 : Int))) { mail := { id := V.toInt (List.getD (List.getD (List.map (RCod.enc cItem) l) (Int.toNat (N.ix (N.isId id) (List.map (RCod.dec cItem) (List.map (RCod.enc cItem) l)) (0 : Int))) []) (0 : Nat) V.undef), shop := V.toStr (List.getD (List.getD (List.map (RCod.enc cItem) l) (Int.toNat (N.ix (N.isId id) (List.map (RCod.dec cItem) (List.map (RCod.enc cItem) l)) (0 : Int))) []) (1 : Nat) V.undef), key := V.toStr (List.getD (List.getD (List.map (RCod.enc cItem) l) (Int.toNat (N.ix (N.isId id) (List.map (RCod.dec cItem) (List.map (RCod.enc cItem) l)) (0 : Int))) []) (2 : Nat) V.undef), head := List.map (fun r => { key := V.toStr (List.getD r (0 : Nat) V.undef), kind := V.toInt (List.getD r (1 : Nat) V.undef), num := V.toInt (List.getD r (2 : Nat) V.undef), text := V.toStr (List.getD r (3 : Nat) V.undef) : HPair }) (V.toRows (List.getD (List.getD (List.map (RCod.enc cItem) l) (Int.toNat (N.ix (N.isId id) (List.map (RCod.dec cItem) (List.map (RCod.enc cItem) l)) (0 : Int))) []) (3 : Nat) V.undef)), body := V.toStr (List.getD (List.getD (List.map (RCod.enc cItem) l) (Int.toNat (N.ix (N.isId id) (List.map (RCod.dec cItem) (List.map (RCod.enc cItem) l)) (0 : Int))) []) (4 : Nat) V.undef), due := V.toInt (List.getD (List.getD (List.map (RCod.enc cItem) l) (Int.toNat (N.ix (N.isId id) (List.map (RCod.dec cItem) (List.map (RCod.enc cItem) l)) (0 : Int))) []) (5 : Nat) V.undef), hops := V.toInt (List.getD (List.getD (List.map (RCod.enc cItem) l) (Int.toNat (N.ix (N.isId id) (List.map (RCod.dec cItem) (List.map (RCod.enc cItem) l)) (0 : Int))) []) (6 : Nat) V.undef) : HMail }, lent := false, again := true : HItem })), V.int IntKind.i64 (0 : Int)], bx := [] : DRes }) (none)) (none))) (none))) (none) := by kernel_rfl
/-- An item's row, lent. -/
def lendRow (r : List V) : List V := [V.int .u64 (V.toInt (List.getD r 0 .undef)), V.str (V.toStr (List.getD r 1 .undef)), V.str (V.toStr (List.getD r 2 .undef)), V.slc [.str, .int .u8, .int .i64, .str] (V.toRows (List.getD r 3 .undef)), V.str (V.toStr (List.getD r 4 .undef)), V.int .u64 (V.toInt (List.getD r 5 .undef)), V.int .u8 (V.toInt (List.getD r 6 .undef)), V.bool true, V.bool (V.toBool (List.getD r 8 .undef))]
def schRLend : SSch := { fr := [(0, .slc [.int .u64, .str, .str, .slc [.str, .int .u8, .int .i64, .str], .str, .int .u64, .int .u8, .bool, .bool]), (3, .ptr 10000 0 0), (7, .slc [.int .u64, .str, .str, .slc [.str, .int .u8, .int .i64, .str], .str, .int .u64, .int .u8, .bool, .bool]), (8, .int .i64), (9, .int .i64)], tab := [(10000, .var [.int .u64, .str, .str, .slc [.str, .int .u8, .int .i64, .str], .str, .int .u64, .int .u8, .bool, .bool])] }
def gRLend : List Leaf → (Ex → St → Option R) → Option R
  | [.r l0, .r r, .i n, .i i, .i id, .s s1, .s s2, .r hd, .s s3, .i due, .i hops, .b b1, .b b2], K => cond (n == r.length) (cond (i == 0) (cond (Nat.beq l0.length r.length) (cond (Nat.ble r.length 1000)
      (cond (ile 0 (N.ix N.isReady (r.map cItem.dec) 0)) (K .ret { fr := [(2, .slc [.int .u64, .str, .str, .slc [.str, .int .u8, .int .i64, .str], .str, .int .u64, .int .u8, .bool, .bool] (((l0.map cItem.dec).set (N.ix N.isReady (r.map cItem.dec) 0).toNat (N.lendI (cItem.dec (r.getD (N.ix N.isReady (r.map cItem.dec) 0).toNat [])))).map cItem.enc)), (3, .ptr 10000 0 0 0), (4, .bool true)], tab := [(10000, .var (Go.Ev.lendRow (r.getD (N.ix N.isReady (r.map cItem.dec) 0).toNat [])))] })
        (K (.exit 0) { fr := [(0, .slc [.int .u64, .str, .str, .slc [.str, .int .u8, .int .i64, .str], .str, .int .u64, .int .u8, .bool, .bool] l0), (3, .ptr 10000 0 0 0)], tab := [(10000, .var [.int .u64 id, .str s1, .str s2, .slc [.str, .int .u8, .int .i64, .str] hd, .str s3, .int .u64 due, .int .u8 hops, .bool b1, .bool b2])] })) none) none) none) none
  | _, _ => none
noncomputable def eRLend : Env := { env Tryz.prog [(104, dRTurned)] [(2, loopF schRLend gRLend)] [(2, [(0, [0, 3, 7, 8, 9]), (1, [0, 3]), (1000, [2, 3, 4])])] with fz := true }
theorem q_rLend (l : List HItem) : evFn eRLend 47 ((aOne (vSl cItem)).enc l) ([]) some =
 cond ((↑(List.length (List.map (RCod.enc cItem) l)) : Int) == (↑(List.length (List.map (RCod.enc cItem) l)) : Int)) (cond (Nat.beq (List.length (List.map (RCod.enc cItem) l)) (List.length (List.map (RCod.enc cItem) l))) (cond (Nat.ble (List.length (List.map (RCod.enc cItem) l)) (1000 : Nat)) (cond (ile (0 : Int) (N.ix N.isReady (List.map (RCod.dec cItem) (List.map (RCod.enc cItem) l)) (0 : Int))) (some { v := V.tup [V.slc [Sh.int IntKind.u64, Sh.str, Sh.str, Sh.slc [Sh.str, Sh.int IntKind.u8, Sh.int IntKind.i64, Sh.str], Sh.str, Sh.int IntKind.u64, Sh.int IntKind.u8, Sh.bool, Sh.bool] (List.map (RCod.enc cItem) (List.set (List.map (RCod.dec cItem) (List.map (RCod.enc cItem) l)) (Int.toNat (N.ix N.isReady (List.map (RCod.dec cItem) (List.map (RCod.enc cItem) l)) (0 : Int))) (N.lendI { mail := { id := V.toInt (List.getD (List.getD (List.map (RCod.enc cItem) l) (Int.toNat (N.ix N.isReady (List.map (RCod.dec cItem) (List.map (RCod.enc cItem) l)) (0 : Int))) []) (0 : Nat) V.undef), shop := V.toStr (List.getD (List.getD (List.map (RCod.enc cItem) l) (Int.toNat (N.ix N.isReady (List.map (RCod.dec cItem) (List.map (RCod.enc cItem) l)) (0 : Int))) []) (1 : Nat) V.undef), key := V.toStr (List.getD (List.getD (List.map (RCod.enc cItem) l) (Int.toNat (N.ix N.isReady (List.map (RCod.dec cItem) (List.map (RCod.enc cItem) l)) (0 : Int))) []) (2 : Nat) V.undef), head := List.map (fun r => { key := V.toStr (List.getD r (0 : Nat) V.undef), kind := V.toInt (List.getD r (1 : Nat) V.undef), num := V.toInt (List.getD r (2 : Nat) V.undef), text := V.toStr (List.getD r (3 : Nat) V.undef) : HPair }) (V.toRows (List.getD (List.getD (List.map (RCod.enc cItem) l) (Int.toNat (N.ix N.isReady (List.map (RCod.dec cItem) (List.map (RCod.enc cItem) l)) (0 : Int))) []) (3 : Nat) V.undef)), body := V.toStr (List.getD (List.getD (List.map (RCod.enc cItem) l) (Int.toNat (N.ix N.isReady (List.map (RCod.dec cItem) (List.map (RCod.enc cItem) l)) (0 : Int))) []) (4 : Nat) V.undef), due := V.toInt (List.getD (List.getD (List.map (RCod.enc cItem) l) (Int.toNat (N.ix N.isReady (List.map (RCod.dec cItem) (List.map (RCod.enc cItem) l)) (0 : Int))) []) (5 : Nat) V.undef), hops := V.toInt (List.getD (List.getD (List.map (RCod.enc cItem) l) (Int.toNat (N.ix N.isReady (List.map (RCod.dec cItem) (List.map (RCod.enc cItem) l)) (0 : Int))) []) (6 : Nat) V.undef) : HMail }, lent := V.toBool (List.getD (List.getD (List.map (RCod.enc cItem) l) (Int.toNat (N.ix N.isReady (List.map (RCod.dec cItem) (List.map (RCod.enc cItem) l)) (0 : Int))) []) (7 : Nat) V.undef), again := V.toBool (List.getD (List.getD (List.map (RCod.enc cItem) l) (Int.toNat (N.ix N.isReady (List.map (RCod.dec cItem) (List.map (RCod.enc cItem) l)) (0 : Int))) []) (8 : Nat) V.undef) : HItem }))), V.agg [V.int IntKind.u64 (V.toInt (List.getD (List.getD (List.map (RCod.enc cItem) l) (Int.toNat (N.ix N.isReady (List.map (RCod.dec cItem) (List.map (RCod.enc cItem) l)) (0 : Int))) []) (0 : Nat) V.undef)), V.str (V.toStr (List.getD (List.getD (List.map (RCod.enc cItem) l) (Int.toNat (N.ix N.isReady (List.map (RCod.dec cItem) (List.map (RCod.enc cItem) l)) (0 : Int))) []) (1 : Nat) V.undef)), V.str (V.toStr (List.getD (List.getD (List.map (RCod.enc cItem) l) (Int.toNat (N.ix N.isReady (List.map (RCod.dec cItem) (List.map (RCod.enc cItem) l)) (0 : Int))) []) (2 : Nat) V.undef)), V.slc [Sh.str, Sh.int IntKind.u8, Sh.int IntKind.i64, Sh.str] (V.toRows (List.getD (List.getD (List.map (RCod.enc cItem) l) (Int.toNat (N.ix N.isReady (List.map (RCod.dec cItem) (List.map (RCod.enc cItem) l)) (0 : Int))) []) (3 : Nat) V.undef)), V.str (V.toStr (List.getD (List.getD (List.map (RCod.enc cItem) l) (Int.toNat (N.ix N.isReady (List.map (RCod.dec cItem) (List.map (RCod.enc cItem) l)) (0 : Int))) []) (4 : Nat) V.undef)), V.int IntKind.u64 (V.toInt (List.getD (List.getD (List.map (RCod.enc cItem) l) (Int.toNat (N.ix N.isReady (List.map (RCod.dec cItem) (List.map (RCod.enc cItem) l)) (0 : Int))) []) (5 : Nat) V.undef)), V.int IntKind.u8 (V.toInt (List.getD (List.getD (List.map (RCod.enc cItem) l) (Int.toNat (N.ix N.isReady (List.map (RCod.dec cItem) (List.map (RCod.enc cItem) l)) (0 : Int))) []) (6 : Nat) V.undef)), V.bool true, V.bool (V.toBool (List.getD (List.getD (List.map (RCod.enc cItem) l) (Int.toNat (N.ix N.isReady (List.map (RCod.dec cItem) (List.map (RCod.enc cItem) l)) (0 : Int))) []) (8 : Nat) V.undef))], V.bool true], bx := [] : DRes }) (some { v := V.tup [V.slc [Sh.int IntKind.u64, Sh.str, Sh.str, Sh.slc [Sh.str, Sh.int IntKind.u8, Sh.int IntKind.i64, Sh.str], Sh.str, Sh.int IntKind.u64, Sh.int IntKind.u8, Sh.bool, Sh.bool] (List.map (RCod.enc cItem) l), V.agg [V.int IntKind.u64 (0 : Int), V.str [], V.str [], V.slc [Sh.str, Sh.int IntKind.u8, Sh.int IntKind.i64, Sh.str] [], V.str [], V.int IntKind.u64 (0 : Int), V.int IntKind.u8 (0 : Int), V.bool false, V.bool false], V.bool false], bx := [] : DRes })) (none)) (none)) (none) := by kernel_rfl
theorem q_rLendR (l0 r : List (List V)) (n i : Int) (id : Int) (s1 s2 : Bytes) (hd : List (List V)) (s3 : Bytes) (due hops : Int) (b1 b2 : Bool) (K : Ex → St → Option R) : evRound eRLend 47 2 { fr := [(0, .slc [.int .u64, .str, .str, .slc [.str, .int .u8, .int .i64, .str], .str, .int .u64, .int .u8, .bool, .bool] l0), (3, .ptr 10000 0 0 0), (7, .slc [.int .u64, .str, .str, .slc [.str, .int .u8, .int .i64, .str], .str, .int .u64, .int .u8, .bool, .bool] r), (8, .int .i64 n), (9, .int .i64 i)], tab := [(10000, .var [.int .u64 id, .str s1, .str s2, .slc [.str, .int .u8, .int .i64, .str] hd, .str s3, .int .u64 due, .int .u8 hops, .bool b1, .bool b2])] } K =
 cond (ilt i n) (cond (decide ((0 : Int) ≤ i ∧ i < (↑(List.length r) : Int))) (cond (!V.toBool (List.getD (List.getD r (Int.toNat i) []) (7 : Nat) V.undef)) (cond (goodAt (List.map (RCod.dec cItem) l0) i) (K Ex.ret { fr := [((2 : Nat), V.slc [Sh.int IntKind.u64, Sh.str, Sh.str, Sh.slc [Sh.str, Sh.int IntKind.u8, Sh.int IntKind.i64, Sh.str], Sh.str, Sh.int IntKind.u64, Sh.int IntKind.u8, Sh.bool, Sh.bool] (List.map (RCod.enc cItem) (List.set (List.map (RCod.dec cItem) l0) (Int.toNat i) { mail := { id := V.toInt (List.getD (List.getD r (Int.toNat i) []) (0 : Nat) V.undef), shop := V.toStr (List.getD (List.getD r (Int.toNat i) []) (1 : Nat) V.undef), key := V.toStr (List.getD (List.getD r (Int.toNat i) []) (2 : Nat) V.undef), head := List.map (fun r => { key := V.toStr (List.getD r (0 : Nat) V.undef), kind := V.toInt (List.getD r (1 : Nat) V.undef), num := V.toInt (List.getD r (2 : Nat) V.undef), text := V.toStr (List.getD r (3 : Nat) V.undef) : HPair }) (V.toRows (List.getD (List.getD r (Int.toNat i) []) (3 : Nat) V.undef)), body := V.toStr (List.getD (List.getD r (Int.toNat i) []) (4 : Nat) V.undef), due := V.toInt (List.getD (List.getD r (Int.toNat i) []) (5 : Nat) V.undef), hops := V.toInt (List.getD (List.getD r (Int.toNat i) []) (6 : Nat) V.undef) : HMail }, lent := true, again := V.toBool (List.getD (List.getD r (Int.toNat i) []) (8 : Nat) V.undef) : HItem }))), ((3 : Nat), V.ptr (10000 : Nat) (0 : Nat) (0 : Nat) (0 : Nat)), ((4 : Nat), V.bool true)], tab := [((10000 : Nat), Box.var [V.int IntKind.u64 (V.toInt (List.getD (List.getD r (Int.toNat i) []) (0 : Nat) V.undef)), V.str (V.toStr (List.getD (List.getD r (Int.toNat i) []) (1 : Nat) V.undef)), V.str (V.toStr (List.getD (List.getD r (Int.toNat i) []) (2 : Nat) V.undef)), V.slc [Sh.str, Sh.int IntKind.u8, Sh.int IntKind.i64, Sh.str] (V.toRows (List.getD (List.getD r (Int.toNat i) []) (3 : Nat) V.undef)), V.str (V.toStr (List.getD (List.getD r (Int.toNat i) []) (4 : Nat) V.undef)), V.int IntKind.u64 (V.toInt (List.getD (List.getD r (Int.toNat i) []) (5 : Nat) V.undef)), V.int IntKind.u8 (V.toInt (List.getD (List.getD r (Int.toNat i) []) (6 : Nat) V.undef)), V.bool true, V.bool (V.toBool (List.getD (List.getD r (Int.toNat i) []) (8 : Nat) V.undef))])] : St }) (none)) (K Ex.normal { fr := [((0 : Nat), V.slc [Sh.int IntKind.u64, Sh.str, Sh.str, Sh.slc [Sh.str, Sh.int IntKind.u8, Sh.int IntKind.i64, Sh.str], Sh.str, Sh.int IntKind.u64, Sh.int IntKind.u8, Sh.bool, Sh.bool] l0), ((3 : Nat), V.ptr (10000 : Nat) (0 : Nat) (0 : Nat) (0 : Nat)), ((7 : Nat), V.slc [Sh.int IntKind.u64, Sh.str, Sh.str, Sh.slc [Sh.str, Sh.int IntKind.u8, Sh.int IntKind.i64, Sh.str], Sh.str, Sh.int IntKind.u64, Sh.int IntKind.u8, Sh.bool, Sh.bool] r), ((8 : Nat), V.int IntKind.i64 n), ((9 : Nat), V.int IntKind.i64 (IntKind.wrap IntKind.i64 (i + (1 : Int))))], tab := [((10000 : Nat), Box.var [V.int IntKind.u64 id, V.str s1, V.str s2, V.slc [Sh.str, Sh.int IntKind.u8, Sh.int IntKind.i64, Sh.str] hd, V.str s3, V.int IntKind.u64 due, V.int IntKind.u8 hops, V.bool b1, V.bool b2])] : St })) (none)) (K (Ex.exit (0 : Nat)) { fr := [((0 : Nat), V.slc [Sh.int IntKind.u64, Sh.str, Sh.str, Sh.slc [Sh.str, Sh.int IntKind.u8, Sh.int IntKind.i64, Sh.str], Sh.str, Sh.int IntKind.u64, Sh.int IntKind.u8, Sh.bool, Sh.bool] l0), ((3 : Nat), V.ptr (10000 : Nat) (0 : Nat) (0 : Nat) (0 : Nat))], tab := [((10000 : Nat), Box.var [V.int IntKind.u64 id, V.str s1, V.str s2, V.slc [Sh.str, Sh.int IntKind.u8, Sh.int IntKind.i64, Sh.str] hd, V.str s3, V.int IntKind.u64 due, V.int IntKind.u8 hops, V.bool b1, V.bool b2])] : St }) := by kernel_rfl
/-- The rows, one of them left out. -/
def N.cutRows (k : Int) : List (List V) → Int → List (List V)
  | [], _ => []
  | r :: rs, i => cond (i == k) (N.cutRows k rs (i + 1)) (reRowI r :: N.cutRows k rs (i + 1))
def schRRemove : SSch := { fr := [(0, .slc [.int .u64, .str, .str, .slc [.str, .int .u8, .int .i64, .str], .str, .int .u64, .int .u8, .bool, .bool]), (5, .ptr 10000 0 0), (7, .int .i64), (8, .own 10001), (18, .slc [.int .u64, .str, .str, .slc [.str, .int .u8, .int .i64, .str], .str, .int .u64, .int .u8, .bool, .bool]), (19, .int .i64), (20, .int .i64)], tab := [(10000, .var [.int .u64, .str, .str, .slc [.str, .int .u8, .int .i64, .str], .str, .int .u64, .int .u8, .bool, .bool]), (10001, .sl [.int .u64, .str, .str, .slc [.str, .int .u8, .int .i64, .str], .str, .int .u64, .int .u8, .bool, .bool])] }
def gRRemove : List Leaf → (Ex → St → Option R) → Option R
  | [.r l0, .i k, .r r, .i n, .i i, .i id, .s s1, .s s2, .r hd, .s s3, .i due, .i hops, .b b1, .b b2, .r a], K => cond (n == r.length) (cond (i == 0) (cond (Nat.beq a.length 0) (cond (Nat.ble r.length 1000)
      (K (.exit 0) { fr := [(0, .slc [.int .u64, .str, .str, .slc [.str, .int .u8, .int .i64, .str], .str, .int .u64, .int .u8, .bool, .bool] l0), (5, .ptr 10000 0 0 0), (7, .int .i64 k), (8, .own 10001 0)], tab := [(10000, .var [.int .u64 id, .str s1, .str s2, .slc [.str, .int .u8, .int .i64, .str] hd, .str s3, .int .u64 due, .int .u8 hops, .bool b1, .bool b2]), (10001, .sl [.int .u64, .str, .str, .slc [.str, .int .u8, .int .i64, .str], .str, .int .u64, .int .u8, .bool, .bool] (N.cutRows k r 0) 0)] }) none) none) none) none
  | _, _ => none
noncomputable def eRRemove : Env := { env Tryz.prog [(105, dRFind)] [(6, loopF schRRemove gRRemove)] [(6, [(0, [0, 5, 7, 8, 18, 19, 20]), (1, [0, 5, 7, 8]), (1000, [4, 5, 6])])] with fz := true }
theorem q_rRemove (l : List HItem) (id : Int) : evFn eRRemove 51 ((aCons (vSl cItem) (aOne (vInt .u64))).enc (l, id)) ([]) some =
 cond (Nat.ble (List.length (List.map (RCod.dec cItem) (List.map (RCod.enc cItem) l))) (1000 : Nat)) (cond (ilt (N.ix (N.isId id) (List.map (RCod.dec cItem) (List.map (RCod.enc cItem) l)) (0 : Int)) (0 : Int)) (some { v := V.tup [V.slc [Sh.int IntKind.u64, Sh.str, Sh.str, Sh.slc [Sh.str, Sh.int IntKind.u8, Sh.int IntKind.i64, Sh.str], Sh.str, Sh.int IntKind.u64, Sh.int IntKind.u8, Sh.bool, Sh.bool] (List.map (RCod.enc cItem) l), V.agg [V.int IntKind.u64 (0 : Int), V.str [], V.str [], V.slc [Sh.str, Sh.int IntKind.u8, Sh.int IntKind.i64, Sh.str] [], V.str [], V.int IntKind.u64 (0 : Int), V.int IntKind.u8 (0 : Int), V.bool false, V.bool false], V.int IntKind.i64 (10 : Int)], bx := [] : DRes }) (cond ((↑(List.length (List.map (RCod.enc cItem) l)) : Int) == (↑(List.length (List.map (RCod.enc cItem) l)) : Int)) (cond (Nat.ble (List.length (List.map (RCod.enc cItem) l)) (1000 : Nat)) (cond (decide ((0 : Int) ≤ N.ix (N.isId id) (List.map (RCod.dec cItem) (List.map (RCod.enc cItem) l)) (0 : Int) ∧ N.ix (N.isId id) (List.map (RCod.dec cItem) (List.map (RCod.enc cItem) l)) (0 : Int) < (↑(List.length (List.map (RCod.enc cItem) l)) : Int))) (some { v := V.tup [V.slc [Sh.int IntKind.u64, Sh.str, Sh.str, Sh.slc [Sh.str, Sh.int IntKind.u8, Sh.int IntKind.i64, Sh.str], Sh.str, Sh.int IntKind.u64, Sh.int IntKind.u8, Sh.bool, Sh.bool] (N.cutRows (N.ix (N.isId id) (List.map (RCod.dec cItem) (List.map (RCod.enc cItem) l)) (0 : Int)) (List.map (RCod.enc cItem) l) (0 : Int)), V.agg [V.int IntKind.u64 (V.toInt (List.getD (List.getD (List.map (RCod.enc cItem) l) (Int.toNat (N.ix (N.isId id) (List.map (RCod.dec cItem) (List.map (RCod.enc cItem) l)) (0 : Int))) []) (0 : Nat) V.undef)), V.str (V.toStr (List.getD (List.getD (List.map (RCod.enc cItem) l) (Int.toNat (N.ix (N.isId id) (List.map (RCod.dec cItem) (List.map (RCod.enc cItem) l)) (0 : Int))) []) (1 : Nat) V.undef)), V.str (V.toStr (List.getD (List.getD (List.map (RCod.enc cItem) l) (Int.toNat (N.ix (N.isId id) (List.map (RCod.dec cItem) (List.map (RCod.enc cItem) l)) (0 : Int))) []) (2 : Nat) V.undef)), V.slc [Sh.str, Sh.int IntKind.u8, Sh.int IntKind.i64, Sh.str] (V.toRows (List.getD (List.getD (List.map (RCod.enc cItem) l) (Int.toNat (N.ix (N.isId id) (List.map (RCod.dec cItem) (List.map (RCod.enc cItem) l)) (0 : Int))) []) (3 : Nat) V.undef)), V.str (V.toStr (List.getD (List.getD (List.map (RCod.enc cItem) l) (Int.toNat (N.ix (N.isId id) (List.map (RCod.dec cItem) (List.map (RCod.enc cItem) l)) (0 : Int))) []) (4 : Nat) V.undef)), V.int IntKind.u64 (V.toInt (List.getD (List.getD (List.map (RCod.enc cItem) l) (Int.toNat (N.ix (N.isId id) (List.map (RCod.dec cItem) (List.map (RCod.enc cItem) l)) (0 : Int))) []) (5 : Nat) V.undef)), V.int IntKind.u8 (V.toInt (List.getD (List.getD (List.map (RCod.enc cItem) l) (Int.toNat (N.ix (N.isId id) (List.map (RCod.dec cItem) (List.map (RCod.enc cItem) l)) (0 : Int))) []) (6 : Nat) V.undef)), V.bool (V.toBool (List.getD (List.getD (List.map (RCod.enc cItem) l) (Int.toNat (N.ix (N.isId id) (List.map (RCod.dec cItem) (List.map (RCod.enc cItem) l)) (0 : Int))) []) (7 : Nat) V.undef)), V.bool (V.toBool (List.getD (List.getD (List.map (RCod.enc cItem) l) (Int.toNat (N.ix (N.isId id) (List.map (RCod.dec cItem) (List.map (RCod.enc cItem) l)) (0 : Int))) []) (8 : Nat) V.undef))], V.int IntKind.i64 (0 : Int)], bx := [] : DRes }) (none)) (none)) (none))) (none) := by kernel_rfl
theorem q_rRemoveR (l0 : List (List V)) (k : Int) (r : List (List V)) (n i : Int) (id : Int) (s1 s2 : Bytes) (hd : List (List V)) (s3 : Bytes) (due hops : Int) (b1 b2 : Bool) (a : List (List V)) (K : Ex → St → Option R) : evRound eRRemove 51 6 { fr := [(0, .slc [.int .u64, .str, .str, .slc [.str, .int .u8, .int .i64, .str], .str, .int .u64, .int .u8, .bool, .bool] l0), (5, .ptr 10000 0 0 0), (7, .int .i64 k), (8, .own 10001 0), (18, .slc [.int .u64, .str, .str, .slc [.str, .int .u8, .int .i64, .str], .str, .int .u64, .int .u8, .bool, .bool] r), (19, .int .i64 n), (20, .int .i64 i)], tab := [(10000, .var [.int .u64 id, .str s1, .str s2, .slc [.str, .int .u8, .int .i64, .str] hd, .str s3, .int .u64 due, .int .u8 hops, .bool b1, .bool b2]), (10001, .sl [.int .u64, .str, .str, .slc [.str, .int .u8, .int .i64, .str], .str, .int .u64, .int .u8, .bool, .bool] a 0)] } K =
 cond (ilt i n) (cond (decide ((0 : Int) ≤ i ∧ i < (↑(List.length r) : Int))) (cond (i != k) (cond (decide ((List.length a + (1 : Nat)) * (104 : Nat) ≤ (140737488355328 : Nat))) (K Ex.normal { fr := [((0 : Nat), V.slc [Sh.int IntKind.u64, Sh.str, Sh.str, Sh.slc [Sh.str, Sh.int IntKind.u8, Sh.int IntKind.i64, Sh.str], Sh.str, Sh.int IntKind.u64, Sh.int IntKind.u8, Sh.bool, Sh.bool] l0), ((5 : Nat), V.ptr (10000 : Nat) (0 : Nat) (0 : Nat) (0 : Nat)), ((7 : Nat), V.int IntKind.i64 k), ((8 : Nat), V.own (10001 : Nat) (0 : Nat)), ((18 : Nat), V.slc [Sh.int IntKind.u64, Sh.str, Sh.str, Sh.slc [Sh.str, Sh.int IntKind.u8, Sh.int IntKind.i64, Sh.str], Sh.str, Sh.int IntKind.u64, Sh.int IntKind.u8, Sh.bool, Sh.bool] r), ((19 : Nat), V.int IntKind.i64 n), ((20 : Nat), V.int IntKind.i64 (IntKind.wrap IntKind.i64 (i + (1 : Int))))], tab := [((10000 : Nat), Box.var [V.int IntKind.u64 id, V.str s1, V.str s2, V.slc [Sh.str, Sh.int IntKind.u8, Sh.int IntKind.i64, Sh.str] hd, V.str s3, V.int IntKind.u64 due, V.int IntKind.u8 hops, V.bool b1, V.bool b2]), ((10001 : Nat), Box.sl [Sh.int IntKind.u64, Sh.str, Sh.str, Sh.slc [Sh.str, Sh.int IntKind.u8, Sh.int IntKind.i64, Sh.str], Sh.str, Sh.int IntKind.u64, Sh.int IntKind.u8, Sh.bool, Sh.bool] (a ++ [[V.int IntKind.u64 (V.toInt (List.getD (List.getD r (Int.toNat i) []) (0 : Nat) V.undef)), V.str (V.toStr (List.getD (List.getD r (Int.toNat i) []) (1 : Nat) V.undef)), V.str (V.toStr (List.getD (List.getD r (Int.toNat i) []) (2 : Nat) V.undef)), V.slc [Sh.str, Sh.int IntKind.u8, Sh.int IntKind.i64, Sh.str] (V.toRows (List.getD (List.getD r (Int.toNat i) []) (3 : Nat) V.undef)), V.str (V.toStr (List.getD (List.getD r (Int.toNat i) []) (4 : Nat) V.undef)), V.int IntKind.u64 (V.toInt (List.getD (List.getD r (Int.toNat i) []) (5 : Nat) V.undef)), V.int IntKind.u8 (V.toInt (List.getD (List.getD r (Int.toNat i) []) (6 : Nat) V.undef)), V.bool (V.toBool (List.getD (List.getD r (Int.toNat i) []) (7 : Nat) V.undef)), V.bool (V.toBool (List.getD (List.getD r (Int.toNat i) []) (8 : Nat) V.undef))]]) (0 : Nat))] : St }) (none)) (K Ex.normal { fr := [((0 : Nat), V.slc [Sh.int IntKind.u64, Sh.str, Sh.str, Sh.slc [Sh.str, Sh.int IntKind.u8, Sh.int IntKind.i64, Sh.str], Sh.str, Sh.int IntKind.u64, Sh.int IntKind.u8, Sh.bool, Sh.bool] l0), ((5 : Nat), V.ptr (10000 : Nat) (0 : Nat) (0 : Nat) (0 : Nat)), ((7 : Nat), V.int IntKind.i64 k), ((8 : Nat), V.own (10001 : Nat) (0 : Nat)), ((18 : Nat), V.slc [Sh.int IntKind.u64, Sh.str, Sh.str, Sh.slc [Sh.str, Sh.int IntKind.u8, Sh.int IntKind.i64, Sh.str], Sh.str, Sh.int IntKind.u64, Sh.int IntKind.u8, Sh.bool, Sh.bool] r), ((19 : Nat), V.int IntKind.i64 n), ((20 : Nat), V.int IntKind.i64 (IntKind.wrap IntKind.i64 (i + (1 : Int))))], tab := [((10000 : Nat), Box.var [V.int IntKind.u64 id, V.str s1, V.str s2, V.slc [Sh.str, Sh.int IntKind.u8, Sh.int IntKind.i64, Sh.str] hd, V.str s3, V.int IntKind.u64 due, V.int IntKind.u8 hops, V.bool b1, V.bool b2]), ((10001 : Nat), Box.sl [Sh.int IntKind.u64, Sh.str, Sh.str, Sh.slc [Sh.str, Sh.int IntKind.u8, Sh.int IntKind.i64, Sh.str], Sh.str, Sh.int IntKind.u64, Sh.int IntKind.u8, Sh.bool, Sh.bool] a (0 : Nat))] : St })) (none)) (K (Ex.exit (0 : Nat)) { fr := [((0 : Nat), V.slc [Sh.int IntKind.u64, Sh.str, Sh.str, Sh.slc [Sh.str, Sh.int IntKind.u8, Sh.int IntKind.i64, Sh.str], Sh.str, Sh.int IntKind.u64, Sh.int IntKind.u8, Sh.bool, Sh.bool] l0), ((5 : Nat), V.ptr (10000 : Nat) (0 : Nat) (0 : Nat) (0 : Nat)), ((7 : Nat), V.int IntKind.i64 k), ((8 : Nat), V.own (10001 : Nat) (0 : Nat))], tab := [((10000 : Nat), Box.var [V.int IntKind.u64 id, V.str s1, V.str s2, V.slc [Sh.str, Sh.int IntKind.u8, Sh.int IntKind.i64, Sh.str] hd, V.str s3, V.int IntKind.u64 due, V.int IntKind.u8 hops, V.bool b1, V.bool b2]), ((10001 : Nat), Box.sl [Sh.int IntKind.u64, Sh.str, Sh.str, Sh.slc [Sh.str, Sh.int IntKind.u8, Sh.int IntKind.i64, Sh.str], Sh.str, Sh.int IntKind.u64, Sh.int IntKind.u8, Sh.bool, Sh.bool] a (0 : Nat))] : St }) := by kernel_rfl
theorem turnRows_app (k : Int) (x : List V) : ∀ (a b : List (List V)) (i : Int), N.turnRows k x (a ++ b) i = N.turnRows k x a i ++ N.turnRows k x b (i + a.length)
  | [], b, i => by
    show N.turnRows k x b i = N.turnRows k x b (i + ((0 : Nat) : Int))
    rw [show i + ((0 : Nat) : Int) = i by omega]
  | r :: a, b, i => by
    show cond (i == k) x (reRowI r) :: N.turnRows k x (a ++ b) (i + 1) = cond (i == k) x (reRowI r) :: (N.turnRows k x a (i + 1) ++ N.turnRows k x b (i + ((a.length + 1 : Nat) : Int)))
    rw [turnRows_app k x a b (i + 1), show i + 1 + (a.length : Int) = i + ((a.length + 1 : Nat) : Int) by omega]
theorem take_succ {r : List (List V)} {i : Nat} (h : i < r.length) : r.take (i + 1) = r.take i ++ [r.getD i []] := by
  rw [List.take_add_one, List.getD_eq_getElem?_getD, List.getElem?_eq_getElem h]; rfl
theorem turnRows_succ (k : Int) (x : List V) {r : List (List V)} {i : Nat} (h : i < r.length) : N.turnRows k x (r.take (i + 1)) 0 = N.turnRows k x (r.take i) 0 ++ [cond ((i : Int) == k) x (reRowI (r.getD i []))] := by
  rw [take_succ h, turnRows_app, List.length_take, show (0 : Int) + ((min i r.length : Nat) : Int) = i by omega]
  rfl
theorem ok_rTurned : FnOk Tryz.prog 104 dRTurned := by
  refine den_okF (env_ok (TOk.nil _)) (E := eRTurned) Tryz.func104 [3] (by kernel_rfl) (one1 (rounds_of rfl fun l K q h => ?_)) fun a _ hp => ?_
  · unfold gRTurned at h
    split at h
    · rename_i k r n i id s1 s2 hd s3 due hops b1 b2 a
      have h1 := (cond_none h).1; replace h := (cond_none h).2; have h2 := (cond_none h).1; replace h := (cond_none h).2; have h3 := (cond_none h).1; replace h := (cond_none h).2; have h4 := (cond_none h).1; replace h := (cond_none h).2
      have e1 := ieq_of h1
      have e2 := ieq_of h2
      have e3 := List.eq_nil_of_length_eq_zero (nbeq_of h3)
      subst e1 e2 e3
      have h4 : r.length ≤ 1000 := ble_of h4
      have main := loop_ind (E := eRTurned) (f := 104) (id := 3) (σ := Nat) (fun i => { fr := [(1, .int .i64 k), (5, .ptr 10000 0 0 0), (7, .own 10001 0), (10, .slc [.int .u64, .str, .str, .slc [.str, .int .u8, .int .i64, .str], .str, .int .u64, .int .u8, .bool, .bool] r), (11, .int .i64 r.length), (12, .int .i64 (i : Int))], tab := [(10000, .var [.int .u64 id, .str s1, .str s2, .slc [.str, .int .u8, .int .i64, .str] hd, .str s3, .int .u64 due, .int .u8 hops, .bool b1, .bool b2]), (10001, .sl [.int .u64, .str, .str, .slc [.str, .int .u8, .int .i64, .str], .str, .int .u64, .int .u8, .bool, .bool] (N.turnRows k [V.int .u64 id, .str s1, .str s2, .slc [.str, .int .u8, .int .i64, .str] hd, .str s3, .int .u64 due, .int .u8 hops, .bool b1, .bool b2] (r.take i) 0) 0)] }) (fun i => i ≤ r.length) (fun i => r.length - i)
        (fun _ K => K (.exit 0) { fr := [(7, .own 10000 0)], tab := [(10000, .sl [.int .u64, .str, .str, .slc [.str, .int .u8, .int .i64, .str], .str, .int .u64, .int .u8, .bool, .bool] (N.turnRows k [V.int .u64 id, .str s1, .str s2, .slc [.str, .int .u8, .int .i64, .str] hd, .str s3, .int .u64 due, .int .u8 hops, .bool b1, .bool b2] r 0) 0)] }) (fun i hi => ?_) 0 (Nat.zero_le _) K q (by assumption)
      · exact main
      · by_cases hl : i < r.length
        · have hln : (N.turnRows k [V.int .u64 id, .str s1, .str s2, .slc [.str, .int .u8, .int .i64, .str] hd, .str s3, .int .u64 due, .int .u8 hops, .bool b1, .bool b2] (r.take i) 0).length = i := by rw [turnRows_len, List.length_take]; omega
          have ht := turnRows_succ k [V.int .u64 id, .str s1, .str s2, .slc [.str, .int .u8, .int .i64, .str] hd, .str s3, .int .u64 due, .int .u8 hops, .bool b1, .bool b2] hl
          refine .inl ⟨i + 1, hl, by omega, fun K => ?_, fun K => rfl⟩
          rw [q_rTurnedR]
          cases hc : (i : Int) == k with
          | true =>
            rw [hc] at ht
            simp (disch := omega) only [evs, Int.toNat_natCast, hc, hln]
            rw [ht]
            rfl
          | false =>
            rw [hc] at ht
            simp (disch := omega) only [evs, Int.toNat_natCast, hc, hln, fold_reRowI]
            rw [ht]
            rfl
        · have ei : i = r.length := by omega
          subst ei
          refine .inr ⟨.exit 0, { fr := [(7, .own 10000 0)], tab := [(10000, .sl [.int .u64, .str, .str, .slc [.str, .int .u8, .int .i64, .str], .str, .int .u64, .int .u8, .bool, .bool] (N.turnRows k [V.int .u64 id, .str s1, .str s2, .slc [.str, .int .u8, .int .i64, .str] hd, .str s3, .int .u64 due, .int .u8 hops, .bool b1, .bool b2] r 0) 0)] }, by simp, fun K => ?_, fun K => rfl⟩
          rw [q_rTurnedR]
          simp (disch := omega) only [evs, List.take_length]
    · cases h
  · obtain ⟨l, k, x⟩ := a
    obtain ⟨h1, h2⟩ := bcond hp
    obtain ⟨h2, h3⟩ := bcond h2
    have h1 : 0 ≤ k := ile_of h1
    have h2 : k < l.length := ilt_of h2
    have h3 : Nat.ble l.length 1000 = true := h3
    refine (q_rTurned l k x).trans ?_
    have e := turnRows_enc k.toNat x l 0
    rw [show ((0 + k.toNat : Nat) : Int) = k by omega] at e
    simp only [List.length_map, h3, beq_self_eq_true, cond_true, fold_itemE]
    show _ = some (⟨.slc [.int .u64, .str, .str, .slc [.str, .int .u8, .int .i64, .str], .str, .int .u64, .int .u8, .bool, .bool] ((l.set k.toNat x).map cItem.enc), [], []⟩ : DRes)
    rw [← e]
    rfl
theorem ok_rWake : FnOk Tryz.prog 52 dRWake := by
  refine den_okF (env_ok (TOk.nil _)) (E := eRWake) Tryz.func52 [3] (by kernel_rfl) (one1 (rounds_of rfl fun l K q h => ?_)) fun l _ hp => ?_
  · unfold gRWake at h
    split at h
    · rename_i r n i o
      have h1 := (cond_none h).1; replace h := (cond_none h).2; have h2 := (cond_none h).1; replace h := (cond_none h).2; have h3 := (cond_none h).1; replace h := (cond_none h).2; have h4 := (cond_none h).1; replace h := (cond_none h).2
      have e1 := ieq_of h1
      have e2 := ieq_of h2
      have e3 := List.eq_nil_of_length_eq_zero (nbeq_of h3)
      subst e1 e2 e3
      have h4 : r.length ≤ 1000 := ble_of h4
      have main := range_ind (E := eRWake) (f := 52) (id := 3) (A := Unit) r (fun _ i => { fr := [(3, .own 10000 0), (6, .slc [.int .u64, .str, .str, .slc [.str, .int .u8, .int .i64, .str], .str, .int .u64, .int .u8, .bool, .bool] r), (7, .int .i64 r.length), (8, .int .i64 i)], tab := [(10000, .sl [.int .u64, .str, .str, .slc [.str, .int .u8, .int .i64, .str], .str, .int .u64, .int .u8, .bool, .bool] (N.wakeRows (r.take i.toNat)) 0)] }) (fun _ _ => True)
        (fun _ _ K => K (.exit 0) { fr := [(3, .own 10000 0)], tab := [(10000, .sl [.int .u64, .str, .str, .slc [.str, .int .u8, .int .i64, .str], .str, .int .u64, .int .u8, .bool, .bool] (N.wakeRows r) 0)] }) (fun _ i _ hi => ?_) (fun _ _ => ?_) () 0 (Int.le_refl _) (by omega) trivial K q (by assumption)
      · exact main
      · refine .inl ⟨(), trivial, fun K => ?_, fun K => rfl⟩
        rw [q_rWakeR]
        have hl : (N.wakeRows (r.take i)).length = i := by unfold N.wakeRows; simp; omega
        have ht := wakeRows_succ hi
        unfold wakeRow at ht
        cases hc : V.toBool (List.getD (List.getD r i []) 8 V.undef) with
        | true =>
          rw [hc] at ht
          simp (disch := omega) only [evs, Int.toNat_natCast, hl, hc]
          show K .normal { fr := _, tab := [(10000, .sl [.int .u64, .str, .str, .slc [.str, .int .u8, .int .i64, .str], .str, .int .u64, .int .u8, .bool, .bool] _ 0)] } = K .normal { fr := _, tab := [(10000, .sl [.int .u64, .str, .str, .slc [.str, .int .u8, .int .i64, .str], .str, .int .u64, .int .u8, .bool, .bool] (N.wakeRows (r.take (i + 1))) 0)] }
          rw [ht]
          rfl
        | false =>
          rw [hc] at ht
          simp (disch := omega) only [evs, Int.toNat_natCast, hl, hc]
          show K .normal { fr := _, tab := [(10000, .sl [.int .u64, .str, .str, .slc [.str, .int .u8, .int .i64, .str], .str, .int .u64, .int .u8, .bool, .bool] _ 0)] } = K .normal { fr := _, tab := [(10000, .sl [.int .u64, .str, .str, .slc [.str, .int .u8, .int .i64, .str], .str, .int .u64, .int .u8, .bool, .bool] (N.wakeRows (r.take (i + 1))) 0)] }
          rw [ht]
          rfl
      · refine ⟨.exit 0, _, by simp, fun K => ?_, fun K => rfl⟩
        rw [q_rWakeR]
        simp (disch := omega) only [evs, Int.toNat_natCast, List.take_length]
    · cases h
  · refine (q_rWake l).trans ?_
    have hp : Nat.ble l.length 1000 = true := hp
    simp only [List.length_map, beq_self_eq_true, cond_true, hp, wakeRows_enc]
    rfl
theorem ok_rAdd : FnOk Tryz.prog 53 dRAdd := by
  refine den_okF (env_ok ((TOk.nil _).cons ok_rPut)) (E := eRAdd) Tryz.func53 [] (by kernel_rfl) none0 fun a _ h => ?_
  obtain ⟨l, m⟩ := a
  have h1 : Nat.ble l.length 1000 = true := h
  refine (q_rAdd l m).trans ?_
  simp only [dec_encs, fold_de, h1, cond_true]
  rfl
theorem ok_rBack : FnOk Tryz.prog 49 dRBack := by
  refine den_okF (env_ok (((TOk.nil _).cons ok_rTurned).cons ok_rFind)) (E := eRBack) Tryz.func49 [] (by kernel_rfl) none0 fun a _ h => ?_
  obtain ⟨l, id⟩ := a
  have h2 : Nat.ble l.length 1000 = true := h
  have h1 : l.length ≤ 1000 := ble_of h2
  refine (q_rBack l id).trans ?_
  show _ = some (⟨.tup [.slc [.int .u64, .str, .str, .slc [.str, .int .u8, .int .i64, .str], .str, .int .u64, .int .u8, .bool, .bool] ((N.lBack l id).1.map cItem.enc), .int .i64 (N.lBack l id).2], [], []⟩ : DRes)
  unfold N.lBack
  simp only [dec_encs]
  rcases ix_spec (N.isId id) l 0 (Int.le_refl _) with ⟨e, _⟩ | ⟨k, e, hk, _⟩
  · rw [e]
    simp (disch := omega) only [evs, h2]
  · rw [Int.zero_add] at e
    have hg := getD_enc cItem l k item0 hk
    have ga : goodAt l k = true := by unfold goodAt; rw [ile_t (by omega), ilt_t (by omega), h2]; rfl
    rw [e]
    simp (disch := omega) only [evs, h2, ga, Int.toNat_natCast, hg, fold_mail, item_mail, cItem.de]
    show cond (!(l.getD k item0).lent) _ _ = _
    cases (l.getD k item0).lent <;> rfl
theorem cutRows_app (k : Int) : ∀ (a b : List (List V)) (i : Int), N.cutRows k (a ++ b) i = N.cutRows k a i ++ N.cutRows k b (i + a.length)
  | [], b, i => by
    show N.cutRows k b i = N.cutRows k b (i + ((0 : Nat) : Int))
    rw [show i + ((0 : Nat) : Int) = i by omega]
  | r :: a, b, i => by
    show cond (i == k) (N.cutRows k (a ++ b) (i + 1)) (reRowI r :: N.cutRows k (a ++ b) (i + 1)) = cond (i == k) (N.cutRows k a (i + 1)) (reRowI r :: N.cutRows k a (i + 1)) ++ N.cutRows k b (i + ((a.length + 1 : Nat) : Int))
    rw [cutRows_app k a b (i + 1), show i + 1 + (a.length : Int) = i + ((a.length + 1 : Nat) : Int) by omega]
    cases i == k <;> rfl
theorem cutRows_succ (k : Int) {r : List (List V)} {i : Nat} (h : i < r.length) : N.cutRows k (r.take (i + 1)) 0 = N.cutRows k (r.take i) 0 ++ cond ((i : Int) == k) [] [reRowI (r.getD i [])] := by
  rw [take_succ h, cutRows_app, List.length_take, show (0 : Int) + ((min i r.length : Nat) : Int) = i by omega]
  rfl
theorem cutRows_len (k : Int) : ∀ (r : List (List V)) (i : Int), (N.cutRows k r i).length ≤ r.length
  | [], _ => Nat.le_refl _
  | r :: rs, i => by
    have ih := cutRows_len k rs (i + 1)
    show (cond (i == k) (N.cutRows k rs (i + 1)) (reRowI r :: N.cutRows k rs (i + 1))).length ≤ rs.length + 1
    cases i == k with
    | true => exact Nat.le_succ_of_le ih
    | false => exact Nat.succ_le_succ ih
theorem cutRows_far (k : Int) : ∀ (l : List HItem) (i : Int), (k < i ∨ i + l.length ≤ k) → N.cutRows k (l.map cItem.enc) i = l.map cItem.enc
  | [], _, _ => rfl
  | x :: r, i, h => by
    rw [List.length_cons] at h
    show cond (i == k) _ (reRowI (cItem.enc x) :: N.cutRows k (r.map cItem.enc) (i + 1)) = _
    rw [ieq_f (by omega), cutRows_far k r (i + 1) (by omega)]
    rfl
theorem cutRows_enc {l : List HItem} {k : Nat} (h : k < l.length) : N.cutRows k (l.map cItem.enc) 0 = (N.cutAt l k).map cItem.enc := by
  have e := split_at h
  have hl : (l.take k).length = k := by rw [List.length_take]; omega
  have e2 : l.map cItem.enc = (l.take k).map cItem.enc ++ (l.getD k item0 :: l.drop (k + 1)).map cItem.enc := by rw [← List.map_append, ← e]
  rw [e2, cutRows_app, List.length_map, hl, cutRows_far k (l.take k) 0 (by rw [hl]; omega)]
  have e3 : N.cutRows k ((l.getD k item0 :: l.drop (k + 1)).map cItem.enc) (0 + (k : Int)) = (l.drop (k + 1)).map cItem.enc := by
    show cond ((0 + (k : Int)) == (k : Int)) (N.cutRows k ((l.drop (k + 1)).map cItem.enc) (0 + (k : Int) + 1)) _ = _
    rw [ieq_t (by omega), cond_true, cutRows_far k _ _ (by omega)]
  rw [e3]
  unfold N.cutAt
  rw [List.map_append]
theorem ok_rRemove : FnOk Tryz.prog 51 dRRemove := by
  refine den_okF (env_ok ((TOk.nil _).cons ok_rFind)) (E := eRRemove) Tryz.func51 [6] (by kernel_rfl) (one1 (rounds_of rfl fun l K q h => ?_)) fun a _ hp => ?_
  · unfold gRRemove at h
    split at h
    · rename_i l0 k r n i id s1 s2 hd s3 due hops b1 b2 a
      have h1 := (cond_none h).1; replace h := (cond_none h).2; have h2 := (cond_none h).1; replace h := (cond_none h).2; have h3 := (cond_none h).1; replace h := (cond_none h).2; have h4 := (cond_none h).1; replace h := (cond_none h).2
      have e1 := ieq_of h1
      have e2 := ieq_of h2
      have e3 := List.eq_nil_of_length_eq_zero (nbeq_of h3)
      subst e1 e2 e3
      have h4 : r.length ≤ 1000 := ble_of h4
      have main := loop_ind (E := eRRemove) (f := 51) (id := 6) (σ := Nat) (fun i => { fr := [(0, .slc [.int .u64, .str, .str, .slc [.str, .int .u8, .int .i64, .str], .str, .int .u64, .int .u8, .bool, .bool] l0), (5, .ptr 10000 0 0 0), (7, .int .i64 k), (8, .own 10001 0), (18, .slc [.int .u64, .str, .str, .slc [.str, .int .u8, .int .i64, .str], .str, .int .u64, .int .u8, .bool, .bool] r), (19, .int .i64 r.length), (20, .int .i64 (i : Int))], tab := [(10000, .var [.int .u64 id, .str s1, .str s2, .slc [.str, .int .u8, .int .i64, .str] hd, .str s3, .int .u64 due, .int .u8 hops, .bool b1, .bool b2]), (10001, .sl [.int .u64, .str, .str, .slc [.str, .int .u8, .int .i64, .str], .str, .int .u64, .int .u8, .bool, .bool] (N.cutRows k (r.take i) 0) 0)] }) (fun i => i ≤ r.length) (fun i => r.length - i)
        (fun _ K => K (.exit 0) { fr := [(0, .slc [.int .u64, .str, .str, .slc [.str, .int .u8, .int .i64, .str], .str, .int .u64, .int .u8, .bool, .bool] l0), (5, .ptr 10000 0 0 0), (7, .int .i64 k), (8, .own 10001 0)], tab := [(10000, .var [.int .u64 id, .str s1, .str s2, .slc [.str, .int .u8, .int .i64, .str] hd, .str s3, .int .u64 due, .int .u8 hops, .bool b1, .bool b2]), (10001, .sl [.int .u64, .str, .str, .slc [.str, .int .u8, .int .i64, .str], .str, .int .u64, .int .u8, .bool, .bool] (N.cutRows k r 0) 0)] }) (fun i hi => ?_) 0 (Nat.zero_le _) K q (by assumption)
      · exact main
      · by_cases hl : i < r.length
        · have hln : (N.cutRows k (r.take i) 0).length ≤ i := by have := cutRows_len k (r.take i) 0; rw [List.length_take] at this; omega
          have ht := cutRows_succ k hl
          refine .inl ⟨i + 1, hl, by omega, fun K => ?_, fun K => rfl⟩
          rw [q_rRemoveR]
          by_cases hc : (i : Int) = k
          · rw [ieq_t hc, cond_true, List.append_nil] at ht
            simp (disch := omega) only [evs, Int.toNat_natCast]
            rw [ht]
            rfl
          · rw [ieq_f hc, cond_false] at ht
            simp (disch := omega) only [evs, Int.toNat_natCast, fold_reRowI]
            rw [ht]
            rfl
        · have ei : i = r.length := by omega
          subst ei
          refine .inr ⟨.exit 0, { fr := [(0, .slc [.int .u64, .str, .str, .slc [.str, .int .u8, .int .i64, .str], .str, .int .u64, .int .u8, .bool, .bool] l0), (5, .ptr 10000 0 0 0), (7, .int .i64 k), (8, .own 10001 0)], tab := [(10000, .var [.int .u64 id, .str s1, .str s2, .slc [.str, .int .u8, .int .i64, .str] hd, .str s3, .int .u64 due, .int .u8 hops, .bool b1, .bool b2]), (10001, .sl [.int .u64, .str, .str, .slc [.str, .int .u8, .int .i64, .str], .str, .int .u64, .int .u8, .bool, .bool] (N.cutRows k r 0) 0)] }, by simp, fun K => ?_, fun K => rfl⟩
          rw [q_rRemoveR]
          simp (disch := omega) only [evs, List.take_length]
    · cases h
  · obtain ⟨l, id⟩ := a
    have h2 : Nat.ble l.length 1000 = true := hp
    have h1 : l.length ≤ 1000 := ble_of h2
    refine (q_rRemove l id).trans ?_
    show _ = some (⟨.tup [.slc [.int .u64, .str, .str, .slc [.str, .int .u8, .int .i64, .str], .str, .int .u64, .int .u8, .bool, .bool] ((N.lRemove l id).1.map cItem.enc), .agg (cItem.enc (N.lRemove l id).2.1), .int .i64 (N.lRemove l id).2.2], [], []⟩ : DRes)
    unfold N.lRemove
    simp only [dec_encs]
    rcases ix_spec (N.isId id) l 0 (Int.le_refl _) with ⟨e, _⟩ | ⟨k, e, hk, _⟩
    · rw [e]
      simp (disch := omega) only [evs, h2]
      rfl
    · rw [Int.zero_add] at e
      have hg := getD_enc cItem l k item0 hk
      have hcut := cutRows_enc hk
      rw [e]
      simp (disch := omega) only [evs, h2, Int.toNat_natCast, hg, hcut, fold_reRowI]
      rfl
theorem ok_rLend : FnOk Tryz.prog 47 dRLend := by
  refine den_okF (env_ok ((TOk.nil _).cons ok_rTurned)) (E := eRLend) Tryz.func47 [2] (by kernel_rfl) (one1 (rounds_of rfl fun l K q h => ?_)) fun l _ hp => ?_
  · unfold gRLend at h
    split at h
    · rename_i l0 r n i id s1 s2 hd s3 due hops b1 b2
      have h1 := (cond_none h).1; replace h := (cond_none h).2; have h2 := (cond_none h).1; replace h := (cond_none h).2; have h3 := (cond_none h).1; replace h := (cond_none h).2; have h4 := (cond_none h).1; replace h := (cond_none h).2
      have e1 := ieq_of h1
      have e2 := ieq_of h2
      have e3 := nbeq_of h3
      subst e1 e2
      have h4 : r.length ≤ 1000 := ble_of h4
      have main := loop_ind (E := eRLend) (f := 47) (id := 2) (σ := Nat) (fun i => { fr := [(0, .slc [.int .u64, .str, .str, .slc [.str, .int .u8, .int .i64, .str], .str, .int .u64, .int .u8, .bool, .bool] l0), (3, .ptr 10000 0 0 0), (7, .slc [.int .u64, .str, .str, .slc [.str, .int .u8, .int .i64, .str], .str, .int .u64, .int .u8, .bool, .bool] r), (8, .int .i64 r.length), (9, .int .i64 (i : Int))], tab := [(10000, .var [.int .u64 id, .str s1, .str s2, .slc [.str, .int .u8, .int .i64, .str] hd, .str s3, .int .u64 due, .int .u8 hops, .bool b1, .bool b2])] }) (fun i => i ≤ r.length) (fun i => r.length - i)
        (fun i K => cond (ile 0 (N.ix N.isReady ((r.drop i).map cItem.dec) i)) (K .ret { fr := [(2, .slc [.int .u64, .str, .str, .slc [.str, .int .u8, .int .i64, .str], .str, .int .u64, .int .u8, .bool, .bool] (((l0.map cItem.dec).set (N.ix N.isReady ((r.drop i).map cItem.dec) i).toNat (N.lendI (cItem.dec (r.getD (N.ix N.isReady ((r.drop i).map cItem.dec) i).toNat [])))).map cItem.enc)), (3, .ptr 10000 0 0 0), (4, .bool true)], tab := [(10000, .var (lendRow (r.getD (N.ix N.isReady ((r.drop i).map cItem.dec) i).toNat [])))] })
          (K (.exit 0) { fr := [(0, .slc [.int .u64, .str, .str, .slc [.str, .int .u8, .int .i64, .str], .str, .int .u64, .int .u8, .bool, .bool] l0), (3, .ptr 10000 0 0 0)], tab := [(10000, .var [.int .u64 id, .str s1, .str s2, .slc [.str, .int .u8, .int .i64, .str] hd, .str s3, .int .u64 due, .int .u8 hops, .bool b1, .bool b2])] })) (fun i hi => ?_) 0 (Nat.zero_le _) K q (by assumption)
      · exact main
      · by_cases hl : i < r.length
        · rw [drop_decI hl, ix_cons]
          have hm : V.toBool (List.getD (List.getD r i []) 7 V.undef) = (cItem.dec (r.getD i [])).lent := rfl
          have ga : goodAt (l0.map cItem.dec) i = true := by
            unfold goodAt
            rw [List.length_map, ile_t (by omega), ilt_t (by omega), ble_t (by omega)]; rfl
          cases hc : (cItem.dec (r.getD i [])).lent with
          | false =>
            have hr : N.isReady (cItem.dec (r.getD i [])) = true := by unfold N.isReady; rw [hc]; rfl
            refine .inr ⟨.ret, { fr := [(2, .slc [.int .u64, .str, .str, .slc [.str, .int .u8, .int .i64, .str], .str, .int .u64, .int .u8, .bool, .bool] (((l0.map cItem.dec).set i (N.lendI (cItem.dec (r.getD i [])))).map cItem.enc)), (3, .ptr 10000 0 0 0), (4, .bool true)], tab := [(10000, .var (lendRow (r.getD i [])))] }, by simp, fun K => ?_, fun K => ?_⟩
            · rw [q_rLendR]
              simp (disch := omega) only [evs, Int.toNat_natCast, hm, hc, Bool.not_false, ga, fold_mail]
              rfl
            · rw [hr]
              simp only [cond_true]
              rw [ile_t (by omega), Int.toNat_natCast]; rfl
          | true =>
            have hr : N.isReady (cItem.dec (r.getD i [])) = false := by unfold N.isReady; rw [hc]; rfl
            refine .inl ⟨i + 1, hl, by omega, fun K => ?_, fun K => by rw [hr]; rfl⟩
            rw [q_rLendR]
            simp (disch := omega) only [evs, Int.toNat_natCast, hm, hc, Bool.not_true]
            rfl
        · refine .inr ⟨.exit 0, { fr := [(0, .slc [.int .u64, .str, .str, .slc [.str, .int .u8, .int .i64, .str], .str, .int .u64, .int .u8, .bool, .bool] l0), (3, .ptr 10000 0 0 0)], tab := [(10000, .var [.int .u64 id, .str s1, .str s2, .slc [.str, .int .u8, .int .i64, .str] hd, .str s3, .int .u64 due, .int .u8 hops, .bool b1, .bool b2])] }, by simp, fun K => ?_, fun K => ?_⟩
          · rw [q_rLendR]
            simp (disch := omega) only [evs]
          · rw [List.drop_eq_nil_of_le (by omega)]; rfl
    · cases h
  · have h2 : Nat.ble l.length 1000 = true := hp
    refine (q_rLend l).trans ?_
    show _ = some (⟨.tup [.slc [.int .u64, .str, .str, .slc [.str, .int .u8, .int .i64, .str], .str, .int .u64, .int .u8, .bool, .bool] ((N.lLend l).1.map cItem.enc), .agg (cItem.enc (N.lLend l).2.1), .bool (N.lLend l).2.2], [], []⟩ : DRes)
    unfold N.lLend
    simp only [dec_encs, List.length_map, h2, beq_self_eq_true, Nat.beq_refl, cond_true]
    rcases ix_spec N.isReady l 0 (Int.le_refl _) with ⟨e, _⟩ | ⟨k, e, hk, _⟩
    · rw [e]; rfl
    · rw [Int.zero_add] at e
      have hg := getD_enc cItem l k item0 hk
      rw [e]
      simp (disch := omega) only [evs, Int.toNat_natCast, hg, fold_item, cItem.de]
      rfl
end Go.Ev

/- Acts on lines, done to both: lemmas; the function that writes numbers is a premise. -/
namespace Go.Ev
open Go Go.Proofs
set_option maxRecDepth 100000
-- FOLD

def rowAct (r : List V) : HAct := ⟨(r.getD 0 .undef).toInt, ⟨(r.getD 1 .undef).toInt, (r.getD 2 .undef).toStr, (r.getD 3 .undef).toStr, rowsP (r.getD 4 .undef).toRows, (r.getD 5 .undef).toStr, (r.getD 6 .undef).toInt, (r.getD 7 .undef).toInt⟩⟩
def cAct : RCod HAct := (((rInt .u8).and cMail).iso (fun p => (⟨p.1, p.2⟩ : HAct)) (fun o => (o.op, o.mail)) (fun _ => rfl) fun _ => rfl).spelt
  [.int .u8, .int .u64, .str, .str, .slc [.str, .int .u8, .int .i64, .str], .str, .int .u64, .int .u8]
  (fun a => [.int .u8 a.op, .int .u64 a.mail.id, .str a.mail.shop, .str a.mail.key, .slc [.str, .int .u8, .int .i64, .str] (a.mail.head.map fun p => [V.str p.key, V.int .u8 p.kind, V.int .i64 p.num, V.str p.text]), .str a.mail.body, .int .u64 a.mail.due, .int .u8 a.mail.hops])
  rowAct rfl (fun _ => rfl) fun r => by
    show (⟨((r.take 1).getD 0 .undef).toInt, rowM (r.drop 1)⟩ : HAct) = rowAct r
    unfold rowM
    simp only [getD_take_one, getD_drop_one]; rfl
theorem fold_act (r : List V) : ({ op := V.toInt (List.getD r 0 .undef), mail := { id := V.toInt (List.getD r 1 .undef), shop := V.toStr (List.getD r 2 .undef), key := V.toStr (List.getD r 3 .undef), head := (V.toRows (List.getD r 4 .undef)).map fun r => ({ key := V.toStr (List.getD r 0 .undef), kind := V.toInt (List.getD r 1 .undef), num := V.toInt (List.getD r 2 .undef), text := V.toStr (List.getD r 3 .undef) } : HPair), body := V.toStr (List.getD r 5 .undef), due := V.toInt (List.getD r 6 .undef), hops := V.toInt (List.getD r 7 .undef) } } : HAct) = cAct.dec r := rfl
theorem fold_actM (r : List V) : ({ id := V.toInt (List.getD r 1 .undef), shop := V.toStr (List.getD r 2 .undef), key := V.toStr (List.getD r 3 .undef), head := (V.toRows (List.getD r 4 .undef)).map fun r => ({ key := V.toStr (List.getD r 0 .undef), kind := V.toInt (List.getD r 1 .undef), num := V.toInt (List.getD r 2 .undef), text := V.toStr (List.getD r 3 .undef) } : HPair), body := V.toStr (List.getD r 5 .undef), due := V.toInt (List.getD r 6 .undef), hops := V.toInt (List.getD r 7 .undef) } : HMail) = (cAct.dec r).mail := rfl
namespace N
def lightActs : List HAct → Bool
  | [] => true | a :: r => cond (lightM a.mail) (lightActs r) false
def done18 (l q : List HItem) (a : HAct) : List HItem × List HItem × Bool :=
  cond (Int.tmod a.op 6 == 2) ((lLend l).1, (lLend q).1, cond ((lLend l).2.2 == (lLend q).2.2) (sameI (lLend l).2.1 (lLend q).2.1) false)
    (cond (Int.tmod a.op 6 == 3) ((lBack l a.mail.id).1, (lBack q a.mail.id).1, (lBack l a.mail.id).2 == (lBack q a.mail.id).2)
    (cond (Int.tmod a.op 6 == 4) ((lRemove l a.mail.id).1, (lRemove q a.mail.id).1, cond ((lRemove l a.mail.id).2.2 == (lRemove q a.mail.id).2.2) (sameI (lRemove l a.mail.id).2.1 (lRemove q a.mail.id).2.1) false)
    (cond (Int.tmod a.op 6 == 5) (lWake l, lWake q, true) ((lPut l ⟨a.mail, false, false⟩).1, (rPut q ⟨a.mail, false, false⟩).1, (lPut l ⟨a.mail, false, false⟩).2 == (rPut q ⟨a.mail, false, false⟩).2))))
end N
def dLight18 : Den := den (aOne (vSl cAct)) bNil (oV vBool) (fun l _ => Nat.ble l.length 9223372036854775807) fun l _ => (cond (N.lightActs l) (ile l.length 100) false, ())
def dDone18 : Den := den (aCons (vAgg cLine) (aCons (vSl cItem) (aOne (vAgg cAct)))) bNil (oTup (aCons (vAgg cLine) (aCons (vSl cItem) (aOne vBool)))) (fun a _ => cond (smallL a.1) (cond (Nat.ble a.2.1.length 1000) (smallM a.2.2.mail) false) false) fun a _ => (N.done18 a.1 a.2.1 a.2.2, ())
def schLight18 : SSch := { fr := [(0, .slc [.int .u8, .int .u64, .str, .str, .slc [.str, .int .u8, .int .i64, .str], .str, .int .u64, .int .u8]), (5, .slc [.int .u8, .int .u64, .str, .str, .slc [.str, .int .u8, .int .i64, .str], .str, .int .u64, .int .u8]), (6, .int .i64), (7, .int .i64)], tab := [] }
def gLight18 : List Leaf → (Ex → St → Option R) → Option R
  | [.r r0, .r r, .i n, .i i], K => cond (n == r.length) (cond (i == 0) (cond (Nat.ble r.length 9223372036854775807) (cond (N.lightActs (r.map cAct.dec)) (K (.exit 0) { fr := [(0, .slc [.int .u8, .int .u64, .str, .str, .slc [.str, .int .u8, .int .i64, .str], .str, .int .u64, .int .u8] r0)], tab := [] }) (K .ret { fr := [(2, .bool false)], tab := [] })) none) none) none
  | _, _ => none
noncomputable def eLight18 : Env := env Tryz.prog [(21, dLightM)] [(2, loopF schLight18 gLight18)] [(2, [(0, [0, 5, 6, 7]), (1, [0]), (1000, [2])])]
theorem q_light18 (l : List HAct) : evFn eLight18 12 ((aOne (vSl cAct)).enc l) ([]) some =
 cond ((↑(List.length (List.map (RCod.enc cAct) l)) : Int) == (↑(List.length (List.map (RCod.enc cAct) l)) : Int)) (cond (Nat.ble (List.length (List.map (RCod.enc cAct) l)) (9223372036854775807 : Nat)) (cond (N.lightActs (List.map (RCod.dec cAct) (List.map (RCod.enc cAct) l))) (some { v := V.bool (ile (↑(List.length (List.map (RCod.enc cAct) l)) : Int) (100 : Int)), bx := [] : DRes }) (some { v := V.bool false, bx := [] : DRes })) (none)) (none) := by kernel_rfl
theorem q_light18R (r0 r : List (List V)) (n i : Int) (K : Ex → St → Option R) : evRound eLight18 12 2 { fr := [(0, .slc [.int .u8, .int .u64, .str, .str, .slc [.str, .int .u8, .int .i64, .str], .str, .int .u64, .int .u8] r0), (5, .slc [.int .u8, .int .u64, .str, .str, .slc [.str, .int .u8, .int .i64, .str], .str, .int .u64, .int .u8] r), (6, .int .i64 n), (7, .int .i64 i)], tab := [] } K =
 cond (ilt i n) (cond (decide ((0 : Int) ≤ i ∧ i < (↑(List.length r) : Int))) (cond (!N.lightM { id := V.toInt (List.getD (List.getD r (Int.toNat i) []) (1 : Nat) V.undef), shop := V.toStr (List.getD (List.getD r (Int.toNat i) []) (2 : Nat) V.undef), key := V.toStr (List.getD (List.getD r (Int.toNat i) []) (3 : Nat) V.undef), head := List.map (fun r => { key := V.toStr (List.getD r (0 : Nat) V.undef), kind := V.toInt (List.getD r (1 : Nat) V.undef), num := V.toInt (List.getD r (2 : Nat) V.undef), text := V.toStr (List.getD r (3 : Nat) V.undef) : HPair }) (V.toRows (List.getD (List.getD r (Int.toNat i) []) (4 : Nat) V.undef)), body := V.toStr (List.getD (List.getD r (Int.toNat i) []) (5 : Nat) V.undef), due := V.toInt (List.getD (List.getD r (Int.toNat i) []) (6 : Nat) V.undef), hops := V.toInt (List.getD (List.getD r (Int.toNat i) []) (7 : Nat) V.undef) : HMail }) (K Ex.ret { fr := [((2 : Nat), V.bool false)], tab := [] : St }) (K Ex.normal { fr := [((0 : Nat), V.slc [Sh.int IntKind.u8, Sh.int IntKind.u64, Sh.str, Sh.str, Sh.slc [Sh.str, Sh.int IntKind.u8, Sh.int IntKind.i64, Sh.str], Sh.str, Sh.int IntKind.u64, Sh.int IntKind.u8] r0), ((5 : Nat), V.slc [Sh.int IntKind.u8, Sh.int IntKind.u64, Sh.str, Sh.str, Sh.slc [Sh.str, Sh.int IntKind.u8, Sh.int IntKind.i64, Sh.str], Sh.str, Sh.int IntKind.u64, Sh.int IntKind.u8] r), ((6 : Nat), V.int IntKind.i64 n), ((7 : Nat), V.int IntKind.i64 (IntKind.wrap IntKind.i64 (i + (1 : Int))))], tab := [] : St })) (none)) (K (Ex.exit (0 : Nat)) { fr := [((0 : Nat), V.slc [Sh.int IntKind.u8, Sh.int IntKind.u64, Sh.str, Sh.str, Sh.slc [Sh.str, Sh.int IntKind.u8, Sh.int IntKind.i64, Sh.str], Sh.str, Sh.int IntKind.u64, Sh.int IntKind.u8] r0)], tab := [] : St }) := by kernel_rfl
theorem ok_light18 : FnOk Tryz.prog 12 dLight18 := by
  refine den_okF (env_ok ((TOk.nil _).cons ok_lightM)) (E := eLight18) Tryz.func12 [2] (by kernel_rfl) (one1 (rounds_of rfl fun l K q h => ?_)) fun l _ hp => ?_
  · unfold gLight18 at h
    split at h
    · rename_i r0 r n i
      have h1 := (cond_none h).1; replace h := (cond_none h).2; have h2 := (cond_none h).1; replace h := (cond_none h).2; have h3 := (cond_none h).1; replace h := (cond_none h).2
      have e1 := ieq_of h1
      have e2 := ieq_of h2
      subst e1 e2
      have h3 : r.length ≤ 9223372036854775807 := ble_of h3
      have main := range_ind (E := eLight18) (f := 12) (id := 2) (A := Unit) r (fun _ i => { fr := [(0, .slc [.int .u8, .int .u64, .str, .str, .slc [.str, .int .u8, .int .i64, .str], .str, .int .u64, .int .u8] r0), (5, .slc [.int .u8, .int .u64, .str, .str, .slc [.str, .int .u8, .int .i64, .str], .str, .int .u64, .int .u8] r), (6, .int .i64 r.length), (7, .int .i64 i)], tab := [] }) (fun _ _ => True)
        (fun _ rows K => cond (N.lightActs (rows.map cAct.dec)) (K (.exit 0) { fr := [(0, .slc [.int .u8, .int .u64, .str, .str, .slc [.str, .int .u8, .int .i64, .str], .str, .int .u64, .int .u8] r0)], tab := [] }) (K .ret { fr := [(2, .bool false)], tab := [] })) (fun _ i _ hi => ?_) (fun _ _ => ?_) () 0 (Int.le_refl _) (by omega) trivial K q (by assumption)
      · exact main
      · rw [List.map_cons]
        cases hc : N.lightM (cAct.dec (r.getD i [])).mail with
        | true =>
          refine .inl ⟨(), trivial, fun K => ?_, fun K => ?_⟩
          · rw [q_light18R]
            simp (disch := omega) only [evs, Int.toNat_natCast, fold_actM, hc, Bool.not_true]
          · show cond (cond (N.lightM (cAct.dec (r.getD i [])).mail) _ false) _ _ = _
            rw [hc]; rfl
        | false =>
          refine .inr ⟨.ret, { fr := [(2, .bool false)], tab := [] }, by simp, fun K => ?_, fun K => ?_⟩
          · rw [q_light18R]
            simp (disch := omega) only [evs, Int.toNat_natCast, fold_actM, hc, Bool.not_false]
          · show cond (cond (N.lightM (cAct.dec (r.getD i [])).mail) _ false) _ _ = _
            rw [hc]; rfl
      · refine ⟨.exit 0, { fr := [(0, .slc [.int .u8, .int .u64, .str, .str, .slc [.str, .int .u8, .int .i64, .str], .str, .int .u64, .int .u8] r0)], tab := [] }, by simp, fun K => ?_, fun K => rfl⟩
        rw [q_light18R]
        simp (disch := omega) only [evs]
    · cases h
  · refine (q_light18 l).trans ?_
    have hp : Nat.ble l.length 9223372036854775807 = true := hp
    show _ = some (⟨.bool (cond (N.lightActs l) (ile l.length 100) false), [], []⟩ : DRes)
    simp only [List.length_map, dec_encs, hp, beq_self_eq_true, cond_true]
    cases N.lightActs l <;> rfl
noncomputable def eDone18 : Env := env Tryz.prog [(28, dLLend), (47, dRLend), (48, dSameI), (45, dLBack), (49, dRBack), (50, dLRemove), (51, dRRemove), (27, dLWake), (52, dRWake), (44, dLAdd), (53, dRAdd)] [] []
theorem q_done18 (l q : List HItem) (a : HAct) : evFn eDone18 14 ((aCons (vAgg cLine) (aCons (vSl cItem) (aOne (vAgg cAct)))).enc (l, q, a)) ([]) some =
 cond (Int.tmod (HAct.op a) (6 : Int) == (2 : Int)) (cond (smallL (List.map (RCod.dec cItem) (List.map (RCod.enc cItem) l))) (cond (Nat.ble (List.length (List.map (RCod.dec cItem) (List.map (RCod.enc cItem) q))) (1000 : Nat)) (cond (Prod.snd (Prod.snd (N.lLend (List.map (RCod.dec cItem) (List.map (RCod.enc cItem) l)))) == Prod.snd (Prod.snd (N.lLend (List.map (RCod.dec cItem) (List.map (RCod.enc cItem) q))))) (cond (smallI { mail := { id := HMail.id (HItem.mail (Prod.fst (Prod.snd (N.lLend (List.map (RCod.dec cItem) (List.map (RCod.enc cItem) l)))))), shop := HMail.shop (HItem.mail (Prod.fst (Prod.snd (N.lLend (List.map (RCod.dec cItem) (List.map (RCod.enc cItem) l)))))), key := HMail.key (HItem.mail (Prod.fst (Prod.snd (N.lLend (List.map (RCod.dec cItem) (List.map (RCod.enc cItem) l)))))), head := List.map (fun r => { key := V.toStr (List.getD r (0 : Nat) V.undef), kind := V.toInt (List.getD r (1 : Nat) V.undef), num := V.toInt (List.getD r (2 : Nat) V.undef), text := V.toStr (List.getD r (3 : Nat) V.undef) : HPair }) (List.map (fun p => [V.str (HPair.key p), V.int IntKind.u8 (HPair.kind p), V.int IntKind.i64 (HPair.num p), V.str (HPair.text p)]) (HMail.head (HItem.mail (Prod.fst (Prod.snd (N.lLend (List.map (RCod.dec cItem) (List.map (RCod.enc cItem) l)))))))), body := HMail.body (HItem.mail (Prod.fst (Prod.snd (N.lLend (List.map (RCod.dec cItem) (List.map (RCod.enc cItem) l)))))), due := HMail.due (HItem.mail (Prod.fst (Prod.snd (N.lLend (List.map (RCod.dec cItem) (List.map (RCod.enc cItem) l)))))), hops := HMail.hops (HItem.mail (Prod.fst (Prod.snd (N.lLend (List.map (RCod.dec cItem) (List.map (RCod.enc cItem) l)))))) : HMail }, lent := HItem.lent (Prod.fst (Prod.snd (N.lLend (List.map (RCod.dec cItem) (List.map (RCod.enc cItem) l))))), again := HItem.again (Prod.fst (Prod.snd (N.lLend (List.map (RCod.dec cItem) (List.map (RCod.enc cItem) l))))) : HItem }) (some { v := V.tup [V.agg [V.slc [Sh.int IntKind.u64, Sh.str, Sh.str, Sh.slc [Sh.str, Sh.int IntKind.u8, Sh.int IntKind.i64, Sh.str], Sh.str, Sh.int IntKind.u64, Sh.int IntKind.u8, Sh.bool, Sh.bool] (List.map (RCod.enc cItem) (Prod.fst (N.lLend (List.map (RCod.dec cItem) (List.map (RCod.enc cItem) l)))))], V.slc [Sh.int IntKind.u64, Sh.str, Sh.str, Sh.slc [Sh.str, Sh.int IntKind.u8, Sh.int IntKind.i64, Sh.str], Sh.str, Sh.int IntKind.u64, Sh.int IntKind.u8, Sh.bool, Sh.bool] (List.map (RCod.enc cItem) (Prod.fst (N.lLend (List.map (RCod.dec cItem) (List.map (RCod.enc cItem) q))))), V.bool (N.sameI { mail := { id := HMail.id (HItem.mail (Prod.fst (Prod.snd (N.lLend (List.map (RCod.dec cItem) (List.map (RCod.enc cItem) l)))))), shop := HMail.shop (HItem.mail (Prod.fst (Prod.snd (N.lLend (List.map (RCod.dec cItem) (List.map (RCod.enc cItem) l)))))), key := HMail.key (HItem.mail (Prod.fst (Prod.snd (N.lLend (List.map (RCod.dec cItem) (List.map (RCod.enc cItem) l)))))), head := List.map (fun r => { key := V.toStr (List.getD r (0 : Nat) V.undef), kind := V.toInt (List.getD r (1 : Nat) V.undef), num := V.toInt (List.getD r (2 : Nat) V.undef), text := V.toStr (List.getD r (3 : Nat) V.undef) : HPair }) (List.map (fun p => [V.str (HPair.key p), V.int IntKind.u8 (HPair.kind p), V.int IntKind.i64 (HPair.num p), V.str (HPair.text p)]) (HMail.head (HItem.mail (Prod.fst (Prod.snd (N.lLend (List.map (RCod.dec cItem) (List.map (RCod.enc cItem) l)))))))), body := HMail.body (HItem.mail (Prod.fst (Prod.snd (N.lLend (List.map (RCod.dec cItem) (List.map (RCod.enc cItem) l)))))), due := HMail.due (HItem.mail (Prod.fst (Prod.snd (N.lLend (List.map (RCod.dec cItem) (List.map (RCod.enc cItem) l)))))), hops := HMail.hops (HItem.mail (Prod.fst (Prod.snd (N.lLend (List.map (RCod.dec cItem) (List.map (RCod.enc cItem) l)))))) : HMail }, lent := HItem.lent (Prod.fst (Prod.snd (N.lLend (List.map (RCod.dec cItem) (List.map (RCod.enc cItem) l))))), again := HItem.again (Prod.fst (Prod.snd (N.lLend (List.map (RCod.dec cItem) (List.map (RCod.enc cItem) l))))) : HItem } { mail := { id := HMail.id (HItem.mail (Prod.fst (Prod.snd (N.lLend (List.map (RCod.dec cItem) (List.map (RCod.enc cItem) q)))))), shop := HMail.shop (HItem.mail (Prod.fst (Prod.snd (N.lLend (List.map (RCod.dec cItem) (List.map (RCod.enc cItem) q)))))), key := HMail.key (HItem.mail (Prod.fst (Prod.snd (N.lLend (List.map (RCod.dec cItem) (List.map (RCod.enc cItem) q)))))), head := List.map (fun r => { key := V.toStr (List.getD r (0 : Nat) V.undef), kind := V.toInt (List.getD r (1 : Nat) V.undef), num := V.toInt (List.getD r (2 : Nat) V.undef), text := V.toStr (List.getD r (3 : Nat) V.undef) : HPair }) (List.map (fun p => [V.str (HPair.key p), V.int IntKind.u8 (HPair.kind p), V.int IntKind.i64 (HPair.num p), V.str (HPair.text p)]) (HMail.head (HItem.mail (Prod.fst (Prod.snd (N.lLend (List.map (RCod.dec cItem) (List.map (RCod.enc cItem) q)))))))), body := HMail.body (HItem.mail (Prod.fst (Prod.snd (N.lLend (List.map (RCod.dec cItem) (List.map (RCod.enc cItem) q)))))), due := HMail.due (HItem.mail (Prod.fst (Prod.snd (N.lLend (List.map (RCod.dec cItem) (List.map (RCod.enc cItem) q)))))), hops := HMail.hops (HItem.mail (Prod.fst (Prod.snd (N.lLend (List.map (RCod.dec cItem) (List.map (RCod.enc cItem) q)))))) : HMail }, lent := HItem.lent (Prod.fst (Prod.snd (N.lLend (List.map (RCod.dec cItem) (List.map (RCod.enc cItem) q))))), again := HItem.again (Prod.fst (Prod.snd (N.lLend (List.map (RCod.dec cItem) (List.map (RCod.enc cItem) q))))) : HItem })], bx := [] : DRes }) (none)) (some { v := V.tup [V.agg [V.slc [Sh.int IntKind.u64, Sh.str, Sh.str, Sh.slc [Sh.str, Sh.int IntKind.u8, Sh.int IntKind.i64, Sh.str], Sh.str, Sh.int IntKind.u64, Sh.int IntKind.u8, Sh.bool, Sh.bool] (List.map (RCod.enc cItem) (Prod.fst (N.lLend (List.map (RCod.dec cItem) (List.map (RCod.enc cItem) l)))))], V.slc [Sh.int IntKind.u64, Sh.str, Sh.str, Sh.slc [Sh.str, Sh.int IntKind.u8, Sh.int IntKind.i64, Sh.str], Sh.str, Sh.int IntKind.u64, Sh.int IntKind.u8, Sh.bool, Sh.bool] (List.map (RCod.enc cItem) (Prod.fst (N.lLend (List.map (RCod.dec cItem) (List.map (RCod.enc cItem) q))))), V.bool false], bx := [] : DRes })) (none)) (none)) (cond (Int.tmod (HAct.op a) (6 : Int) == (3 : Int)) (cond (smallL (List.map (RCod.dec cItem) (List.map (RCod.enc cItem) l))) (cond (Nat.ble (List.length (List.map (RCod.dec cItem) (List.map (RCod.enc cItem) q))) (1000 : Nat)) (some { v := V.tup [V.agg [V.slc [Sh.int IntKind.u64, Sh.str, Sh.str, Sh.slc [Sh.str, Sh.int IntKind.u8, Sh.int IntKind.i64, Sh.str], Sh.str, Sh.int IntKind.u64, Sh.int IntKind.u8, Sh.bool, Sh.bool] (List.map (RCod.enc cItem) (Prod.fst (N.lBack (List.map (RCod.dec cItem) (List.map (RCod.enc cItem) l)) (HMail.id (HAct.mail a)))))], V.slc [Sh.int IntKind.u64, Sh.str, Sh.str, Sh.slc [Sh.str, Sh.int IntKind.u8, Sh.int IntKind.i64, Sh.str], Sh.str, Sh.int IntKind.u64, Sh.int IntKind.u8, Sh.bool, Sh.bool] (List.map (RCod.enc cItem) (Prod.fst (N.lBack (List.map (RCod.dec cItem) (List.map (RCod.enc cItem) q)) (HMail.id (HAct.mail a))))), V.bool (Prod.snd (N.lBack (List.map (RCod.dec cItem) (List.map (RCod.enc cItem) l)) (HMail.id (HAct.mail a))) == Prod.snd (N.lBack (List.map (RCod.dec cItem) (List.map (RCod.enc cItem) q)) (HMail.id (HAct.mail a))))], bx := [] : DRes }) (none)) (none)) (cond (Int.tmod (HAct.op a) (6 : Int) == (4 : Int)) (cond (smallL (List.map (RCod.dec cItem) (List.map (RCod.enc cItem) l))) (cond (Nat.ble (List.length (List.map (RCod.dec cItem) (List.map (RCod.enc cItem) q))) (1000 : Nat)) (cond (Prod.snd (Prod.snd (N.lRemove (List.map (RCod.dec cItem) (List.map (RCod.enc cItem) l)) (HMail.id (HAct.mail a)))) == Prod.snd (Prod.snd (N.lRemove (List.map (RCod.dec cItem) (List.map (RCod.enc cItem) q)) (HMail.id (HAct.mail a))))) (cond (smallI { mail := { id := HMail.id (HItem.mail (Prod.fst (Prod.snd (N.lRemove (List.map (RCod.dec cItem) (List.map (RCod.enc cItem) l)) (HMail.id (HAct.mail a)))))), shop := HMail.shop (HItem.mail (Prod.fst (Prod.snd (N.lRemove (List.map (RCod.dec cItem) (List.map (RCod.enc cItem) l)) (HMail.id (HAct.mail a)))))), key := HMail.key (HItem.mail (Prod.fst (Prod.snd (N.lRemove (List.map (RCod.dec cItem) (List.map (RCod.enc cItem) l)) (HMail.id (HAct.mail a)))))), head := List.map (fun r => { key := V.toStr (List.getD r (0 : Nat) V.undef), kind := V.toInt (List.getD r (1 : Nat) V.undef), num := V.toInt (List.getD r (2 : Nat) V.undef), text := V.toStr (List.getD r (3 : Nat) V.undef) : HPair }) (List.map (fun p => [V.str (HPair.key p), V.int IntKind.u8 (HPair.kind p), V.int IntKind.i64 (HPair.num p), V.str (HPair.text p)]) (HMail.head (HItem.mail (Prod.fst (Prod.snd (N.lRemove (List.map (RCod.dec cItem) (List.map (RCod.enc cItem) l)) (HMail.id (HAct.mail a)))))))), body := HMail.body (HItem.mail (Prod.fst (Prod.snd (N.lRemove (List.map (RCod.dec cItem) (List.map (RCod.enc cItem) l)) (HMail.id (HAct.mail a)))))), due := HMail.due (HItem.mail (Prod.fst (Prod.snd (N.lRemove (List.map (RCod.dec cItem) (List.map (RCod.enc cItem) l)) (HMail.id (HAct.mail a)))))), hops := HMail.hops (HItem.mail (Prod.fst (Prod.snd (N.lRemove (List.map (RCod.dec cItem) (List.map (RCod.enc cItem) l)) (HMail.id (HAct.mail a)))))) : HMail }, lent := HItem.lent (Prod.fst (Prod.snd (N.lRemove (List.map (RCod.dec cItem) (List.map (RCod.enc cItem) l)) (HMail.id (HAct.mail a))))), again := HItem.again (Prod.fst (Prod.snd (N.lRemove (List.map (RCod.dec cItem) (List.map (RCod.enc cItem) l)) (HMail.id (HAct.mail a))))) : HItem }) (some { v := V.tup [V.agg [V.slc [Sh.int IntKind.u64, Sh.str, Sh.str, Sh.slc [Sh.str, Sh.int IntKind.u8, Sh.int IntKind.i64, Sh.str], Sh.str, Sh.int IntKind.u64, Sh.int IntKind.u8, Sh.bool, Sh.bool] (List.map (RCod.enc cItem) (Prod.fst (N.lRemove (List.map (RCod.dec cItem) (List.map (RCod.enc cItem) l)) (HMail.id (HAct.mail a)))))], V.slc [Sh.int IntKind.u64, Sh.str, Sh.str, Sh.slc [Sh.str, Sh.int IntKind.u8, Sh.int IntKind.i64, Sh.str], Sh.str, Sh.int IntKind.u64, Sh.int IntKind.u8, Sh.bool, Sh.bool] (List.map (RCod.enc cItem) (Prod.fst (N.lRemove (List.map (RCod.dec cItem) (List.map (RCod.enc cItem) q)) (HMail.id (HAct.mail a))))), V.bool (N.sameI { mail := { id := HMail.id (HItem.mail (Prod.fst (Prod.snd (N.lRemove (List.map (RCod.dec cItem) (List.map (RCod.enc cItem) l)) (HMail.id (HAct.mail a)))))), shop := HMail.shop (HItem.mail (Prod.fst (Prod.snd (N.lRemove (List.map (RCod.dec cItem) (List.map (RCod.enc cItem) l)) (HMail.id (HAct.mail a)))))), key := HMail.key (HItem.mail (Prod.fst (Prod.snd (N.lRemove (List.map (RCod.dec cItem) (List.map (RCod.enc cItem) l)) (HMail.id (HAct.mail a)))))), head := List.map (fun r => { key := V.toStr (List.getD r (0 : Nat) V.undef), kind := V.toInt (List.getD r (1 : Nat) V.undef), num := V.toInt (List.getD r (2 : Nat) V.undef), text := V.toStr (List.getD r (3 : Nat) V.undef) : HPair }) (List.map (fun p => [V.str (HPair.key p), V.int IntKind.u8 (HPair.kind p), V.int IntKind.i64 (HPair.num p), V.str (HPair.text p)]) (HMail.head (HItem.mail (Prod.fst (Prod.snd (N.lRemove (List.map (RCod.dec cItem) (List.map (RCod.enc cItem) l)) (HMail.id (HAct.mail a)))))))), body := HMail.body (HItem.mail (Prod.fst (Prod.snd (N.lRemove (List.map (RCod.dec cItem) (List.map (RCod.enc cItem) l)) (HMail.id (HAct.mail a)))))), due := HMail.due (HItem.mail (Prod.fst (Prod.snd (N.lRemove (List.map (RCod.dec cItem) (List.map (RCod.enc cItem) l)) (HMail.id (HAct.mail a)))))), hops := HMail.hops (HItem.mail (Prod.fst (Prod.snd (N.lRemove (List.map (RCod.dec cItem) (List.map (RCod.enc cItem) l)) (HMail.id (HAct.mail a)))))) : HMail }, lent := HItem.lent (Prod.fst (Prod.snd (N.lRemove (List.map (RCod.dec cItem) (List.map (RCod.enc cItem) l)) (HMail.id (HAct.mail a))))), again := HItem.again (Prod.fst (Prod.snd (N.lRemove (List.map (RCod.dec cItem) (List.map (RCod.enc cItem) l)) (HMail.id (HAct.mail a))))) : HItem } { mail := { id := HMail.id (HItem.mail (Prod.fst (Prod.snd (N.lRemove (List.map (RCod.dec cItem) (List.map (RCod.enc cItem) q)) (HMail.id (HAct.mail a)))))), shop := HMail.shop (HItem.mail (Prod.fst (Prod.snd (N.lRemove (List.map (RCod.dec cItem) (List.map (RCod.enc cItem) q)) (HMail.id (HAct.mail a)))))), key := HMail.key (HItem.mail (Prod.fst (Prod.snd (N.lRemove (List.map (RCod.dec cItem) (List.map (RCod.enc cItem) q)) (HMail.id (HAct.mail a)))))), head := List.map (fun r => { key := V.toStr (List.getD r (0 : Nat) V.undef), kind := V.toInt (List.getD r (1 : Nat) V.undef), num := V.toInt (List.getD r (2 : Nat) V.undef), text := V.toStr (List.getD r (3 : Nat) V.undef) : HPair }) (List.map (fun p => [V.str (HPair.key p), V.int IntKind.u8 (HPair.kind p), V.int IntKind.i64 (HPair.num p), V.str (HPair.text p)]) (HMail.head (HItem.mail (Prod.fst (Prod.snd (N.lRemove (List.map (RCod.dec cItem) (List.map (RCod.enc cItem) q)) (HMail.id (HAct.mail a)))))))), body := HMail.body (HItem.mail (Prod.fst (Prod.snd (N.lRemove (List.map (RCod.dec cItem) (List.map (RCod.enc cItem) q)) (HMail.id (HAct.mail a)))))), due := HMail.due (HItem.mail (Prod.fst (Prod.snd (N.lRemove (List.map (RCod.dec cItem) (List.map (RCod.enc cItem) q)) (HMail.id (HAct.mail a)))))), hops := HMail.hops (HItem.mail (Prod.fst (Prod.snd (N.lRemove (List.map (RCod.dec cItem) (List.map (RCod.enc cItem) q)) (HMail.id (HAct.mail a)))))) : HMail }, lent := HItem.lent (Prod.fst (Prod.snd (N.lRemove (List.map (RCod.dec cItem) (List.map (RCod.enc cItem) q)) (HMail.id (HAct.mail a))))), again := HItem.again (Prod.fst (Prod.snd (N.lRemove (List.map (RCod.dec cItem) (List.map (RCod.enc cItem) q)) (HMail.id (HAct.mail a))))) : HItem })], bx := [] : DRes }) (none)) (some { v := V.tup [V.agg [V.slc [Sh.int IntKind.u64, Sh.str, Sh.str, Sh.slc [Sh.str, Sh.int IntKind.u8, Sh.int IntKind.i64, Sh.str], Sh.str, Sh.int IntKind.u64, Sh.int IntKind.u8, Sh.bool, Sh.bool] (List.map (RCod.enc cItem) (Prod.fst (N.lRemove (List.map (RCod.dec cItem) (List.map (RCod.enc cItem) l)) (HMail.id (HAct.mail a)))))], V.slc [Sh.int IntKind.u64, Sh.str, Sh.str, Sh.slc [Sh.str, Sh.int IntKind.u8, Sh.int IntKind.i64, Sh.str], Sh.str, Sh.int IntKind.u64, Sh.int IntKind.u8, Sh.bool, Sh.bool] (List.map (RCod.enc cItem) (Prod.fst (N.lRemove (List.map (RCod.dec cItem) (List.map (RCod.enc cItem) q)) (HMail.id (HAct.mail a))))), V.bool false], bx := [] : DRes })) (none)) (none)) (cond (Int.tmod (HAct.op a) (6 : Int) == (5 : Int)) (cond (Nat.ble (List.length (List.map (RCod.dec cItem) (List.map (RCod.enc cItem) l))) (1000 : Nat)) (cond (Nat.ble (List.length (List.map (RCod.dec cItem) (List.map (RCod.enc cItem) q))) (1000 : Nat)) (some { v := V.tup [V.agg [V.slc [Sh.int IntKind.u64, Sh.str, Sh.str, Sh.slc [Sh.str, Sh.int IntKind.u8, Sh.int IntKind.i64, Sh.str], Sh.str, Sh.int IntKind.u64, Sh.int IntKind.u8, Sh.bool, Sh.bool] (List.map (RCod.enc cItem) (N.lWake (List.map (RCod.dec cItem) (List.map (RCod.enc cItem) l))))], V.slc [Sh.int IntKind.u64, Sh.str, Sh.str, Sh.slc [Sh.str, Sh.int IntKind.u8, Sh.int IntKind.i64, Sh.str], Sh.str, Sh.int IntKind.u64, Sh.int IntKind.u8, Sh.bool, Sh.bool] (List.map (RCod.enc cItem) (N.lWake (List.map (RCod.dec cItem) (List.map (RCod.enc cItem) q)))), V.bool true], bx := [] : DRes }) (none)) (none)) (cond (bif Nat.ble (List.length (List.map (RCod.dec cItem) (List.map (RCod.enc cItem) l))) (1000 : Nat) then smallM { id := HMail.id (HAct.mail a), shop := HMail.shop (HAct.mail a), key := HMail.key (HAct.mail a), head := List.map (fun r => { key := V.toStr (List.getD r (0 : Nat) V.undef), kind := V.toInt (List.getD r (1 : Nat) V.undef), num := V.toInt (List.getD r (2 : Nat) V.undef), text := V.toStr (List.getD r (3 : Nat) V.undef) : HPair }) (List.map (fun p => [V.str (HPair.key p), V.int IntKind.u8 (HPair.kind p), V.int IntKind.i64 (HPair.num p), V.str (HPair.text p)]) (HMail.head (HAct.mail a))), body := HMail.body (HAct.mail a), due := HMail.due (HAct.mail a), hops := HMail.hops (HAct.mail a) : HMail } else false) (cond (Nat.ble (List.length (List.map (RCod.dec cItem) (List.map (RCod.enc cItem) q))) (1000 : Nat)) (some { v := V.tup [V.agg [V.slc [Sh.int IntKind.u64, Sh.str, Sh.str, Sh.slc [Sh.str, Sh.int IntKind.u8, Sh.int IntKind.i64, Sh.str], Sh.str, Sh.int IntKind.u64, Sh.int IntKind.u8, Sh.bool, Sh.bool] (List.map (RCod.enc cItem) (Prod.fst (N.lPut (List.map (RCod.dec cItem) (List.map (RCod.enc cItem) l)) { mail := { id := HMail.id (HAct.mail a), shop := HMail.shop (HAct.mail a), key := HMail.key (HAct.mail a), head := List.map (fun r => { key := V.toStr (List.getD r (0 : Nat) V.undef), kind := V.toInt (List.getD r (1 : Nat) V.undef), num := V.toInt (List.getD r (2 : Nat) V.undef), text := V.toStr (List.getD r (3 : Nat) V.undef) : HPair }) (List.map (fun p => [V.str (HPair.key p), V.int IntKind.u8 (HPair.kind p), V.int IntKind.i64 (HPair.num p), V.str (HPair.text p)]) (HMail.head (HAct.mail a))), body := HMail.body (HAct.mail a), due := HMail.due (HAct.mail a), hops := HMail.hops (HAct.mail a) : HMail }, lent := false, again := false : HItem })))], V.slc [Sh.int IntKind.u64, Sh.str, Sh.str, Sh.slc [Sh.str, Sh.int IntKind.u8, Sh.int IntKind.i64, Sh.str], Sh.str, Sh.int IntKind.u64, Sh.int IntKind.u8, Sh.bool, Sh.bool] (List.map (RCod.enc cItem) (Prod.fst (N.rPut (List.map (RCod.dec cItem) (List.map (RCod.enc cItem) q)) { mail := { id := HMail.id (HAct.mail a), shop := HMail.shop (HAct.mail a), key := HMail.key (HAct.mail a), head := List.map (fun r => { key := V.toStr (List.getD r (0 : Nat) V.undef), kind := V.toInt (List.getD r (1 : Nat) V.undef), num := V.toInt (List.getD r (2 : Nat) V.undef), text := V.toStr (List.getD r (3 : Nat) V.undef) : HPair }) (List.map (fun p => [V.str (HPair.key p), V.int IntKind.u8 (HPair.kind p), V.int IntKind.i64 (HPair.num p), V.str (HPair.text p)]) (HMail.head (HAct.mail a))), body := HMail.body (HAct.mail a), due := HMail.due (HAct.mail a), hops := HMail.hops (HAct.mail a) : HMail }, lent := false, again := false : HItem }))), V.bool (Prod.snd (N.lPut (List.map (RCod.dec cItem) (List.map (RCod.enc cItem) l)) { mail := { id := HMail.id (HAct.mail a), shop := HMail.shop (HAct.mail a), key := HMail.key (HAct.mail a), head := List.map (fun r => { key := V.toStr (List.getD r (0 : Nat) V.undef), kind := V.toInt (List.getD r (1 : Nat) V.undef), num := V.toInt (List.getD r (2 : Nat) V.undef), text := V.toStr (List.getD r (3 : Nat) V.undef) : HPair }) (List.map (fun p => [V.str (HPair.key p), V.int IntKind.u8 (HPair.kind p), V.int IntKind.i64 (HPair.num p), V.str (HPair.text p)]) (HMail.head (HAct.mail a))), body := HMail.body (HAct.mail a), due := HMail.due (HAct.mail a), hops := HMail.hops (HAct.mail a) : HMail }, lent := false, again := false : HItem }) == Prod.snd (N.rPut (List.map (RCod.dec cItem) (List.map (RCod.enc cItem) q)) { mail := { id := HMail.id (HAct.mail a), shop := HMail.shop (HAct.mail a), key := HMail.key (HAct.mail a), head := List.map (fun r => { key := V.toStr (List.getD r (0 : Nat) V.undef), kind := V.toInt (List.getD r (1 : Nat) V.undef), num := V.toInt (List.getD r (2 : Nat) V.undef), text := V.toStr (List.getD r (3 : Nat) V.undef) : HPair }) (List.map (fun p => [V.str (HPair.key p), V.int IntKind.u8 (HPair.kind p), V.int IntKind.i64 (HPair.num p), V.str (HPair.text p)]) (HMail.head (HAct.mail a))), body := HMail.body (HAct.mail a), due := HMail.due (HAct.mail a), hops := HMail.hops (HAct.mail a) : HMail }, lent := false, again := false : HItem }))], bx := [] : DRes }) (none)) (none))))) := by kernel_rfl
theorem lend_small {l : List HItem} (h : l.all smallI = true) : smallI (N.lLend l).2.1 = true := by
  unfold N.lLend
  rcases ix_spec N.isReady l 0 (Int.le_refl _) with ⟨e, _⟩ | ⟨k, e, hk, _⟩
  · rw [e]; rfl
  · rw [e, ilt_f (by omega)]
    have e1 : (0 + (k : Int)).toNat = k := by omega
    rw [e1]
    exact small_at h hk
theorem remove_small {l : List HItem} (h : l.all smallI = true) (id : Int) : smallI (N.lRemove l id).2.1 = true := by
  unfold N.lRemove
  rcases ix_spec (N.isId id) l 0 (Int.le_refl _) with ⟨e, _⟩ | ⟨k, e, hk, _⟩
  · rw [e]; rfl
  · rw [e, ilt_f (by omega)]
    have e1 : (0 + (k : Int)).toNat = k := by omega
    rw [e1]
    exact small_at h hk
theorem ok_done18 : FnOk Tryz.prog 14 dDone18 := by
  refine den_okF (env_ok ((((((((((((TOk.nil _).cons ok_rAdd).cons ok_lAdd).cons ok_rWake).cons ok_lWake).cons ok_rRemove).cons ok_lRemove).cons ok_rBack).cons ok_lBack).cons ok_rSameI).cons ok_rLend).cons ok_lLend)) (E := eDone18) Tryz.func14 [] (by kernel_rfl) none0 fun a _ h => ?_
  obtain ⟨l, q, a⟩ := a
  obtain ⟨h1, h2⟩ := bcond h
  obtain ⟨h2, h3⟩ := bcond h2
  have h1 : smallL l = true := h1
  have h2 : Nat.ble q.length 1000 = true := h2
  have h3 : smallM a.mail = true := h3
  obtain ⟨_, hb, hs⟩ := smallL_of h1
  have s1 := lend_small hs
  have s2 := remove_small hs a.mail.id
  refine (q_done18 l q a).trans ?_
  show _ = some (⟨.tup [.agg (cLine.enc (N.done18 l q a).1), .slc [.int .u64, .str, .str, .slc [.str, .int .u8, .int .i64, .str], .str, .int .u64, .int .u8, .bool, .bool] ((N.done18 l q a).2.1.map cItem.enc), .bool (N.done18 l q a).2.2], [], []⟩ : DRes)
  simp only [fold_de, fold_itemD, dec_encs, h1, h2, h3, hb, s1, s2, cond_true]
  unfold N.done18
  cases Int.tmod a.op 6 == 2 with
  | true => cases (N.lLend l).2.2 <;> cases (N.lLend q).2.2 <;> rfl
  | false =>
    cases Int.tmod a.op 6 == 3 with
    | true => rfl
    | false =>
      cases Int.tmod a.op 6 == 4 with
      | true => cases (N.lRemove l a.mail.id).2.2 == (N.lRemove q a.mail.id).2.2 <;> rfl
      | false => cases Int.tmod a.op 6 == 5 <;> rfl
end Go.Ev

/- What the statement on waking reckons: it is true; lemmas; the function that writes numbers is a premise. -/
namespace Go.Ev
open Go Go.Proofs
set_option maxRecDepth 100000
-- FOLD

def smallA (a : HAct) : Bool := smallM a.mail
theorem done_act (l q : List HItem) (a : HAct) : (N.done18 l q a).1 = N.act l a := by
  unfold N.done18 N.act
  cases Int.tmod a.op 6 == 2 <;> cases Int.tmod a.op 6 == 3 <;> cases Int.tmod a.op 6 == 4 <;> cases Int.tmod a.op 6 == 5 <;> rfl
theorem all_rowA {p : HAct → Bool} {r : List (List V)} (h : (r.map cAct.dec).all p = true) {i : Nat} (hi : i < r.length) : p (cAct.dec (r.getD i [])) = true := by
  refine List.all_eq_true.1 h _ (List.mem_map_of_mem ?_)
  rw [List.getD_eq_getElem?_getD, List.getElem?_eq_getElem hi]
  exact List.getElem_mem hi
theorem acts_small {l : List HAct} (h : N.lightActs l = true) : l.all smallA = true := by
  induction l with
  | nil => rfl
  | cons a r ih =>
    obtain ⟨h1, h2⟩ := bcond h
    rw [List.all_cons, ih h2, Bool.and_true]
    obtain ⟨_, h1⟩ := bcond h1
    obtain ⟨_, h1⟩ := bcond h1
    obtain ⟨h1, _⟩ := bcond h1
    exact ble_t (Nat.le_trans (light_small h1) (by decide))
end Go.Ev

/- Of the first and the late one of a line, in plain terms: lemmas, no condition. -/
namespace Go.Ev
open Go
set_option maxRecDepth 100000

/-- What is so of each message. -/
def allM (p : HMail → Bool) (l : List HItem) : Bool := l.all fun x => p x.mail
theorem allM_of {p : HMail → Bool} {l l' : List HItem} (h : l'.map HItem.mail = l.map HItem.mail) (hs : allM p l = true) : allM p l' = true := by
  have e : ∀ l : List HItem, allM p l = (l.map HItem.mail).all p := fun l => by unfold allM; rw [List.all_map]; rfl
  rw [e, h, ← e]; exact hs
theorem act_all {p : HMail → Bool} {l : List HItem} (h : allM p l = true) {a : HAct} (hs : p a.mail = true) : allM p (N.act l a) = true := by
  unfold N.act
  cases Int.tmod a.op 6 == 2 with
  | true =>
    show allM p (N.lLend l).1 = true
    unfold N.lLend
    rcases ix_spec N.isReady l 0 (Int.le_refl _) with ⟨h1, _⟩ | ⟨k, h1, h2, _⟩
    · rw [h1]; exact h
    · rw [h1, ilt_f (by omega)]
      have e : (0 + (k : Int)).toNat = k := by omega
      rw [e]
      exact allM_of (set_ids (f := N.lendI) (fun _ => rfl) l k h2) h
  | false =>
    cases Int.tmod a.op 6 == 3 with
    | true =>
      show allM p (N.lBack l a.mail.id).1 = true
      unfold N.lBack
      rcases ix_spec (N.isId a.mail.id) l 0 (Int.le_refl _) with ⟨h1, _⟩ | ⟨k, h1, h2, _⟩
      · rw [h1]; exact h
      · rw [h1, ilt_f (by omega)]
        have e : (0 + (k : Int)).toNat = k := by omega
        rw [e]
        simp only [cond_false]
        cases (l.getD k item0).lent with
        | true => exact allM_of (set_ids (f := N.backI) (fun _ => rfl) l k h2) h
        | false => exact h
    | false =>
      cases Int.tmod a.op 6 == 4 with
      | true =>
        show allM p (N.lRemove l a.mail.id).1 = true
        unfold N.lRemove
        cases ilt (N.ix (N.isId a.mail.id) l 0) 0 with
        | true => exact h
        | false => exact List.all_eq_true.2 fun x hx => List.all_eq_true.1 h x ((cut_sub l _).subset hx)
      | false =>
        cases Int.tmod a.op 6 == 5 with
        | true =>
          refine allM_of (l := l) ?_ h
          show (N.lWake l).map HItem.mail = _
          unfold N.lWake
          rw [List.map_map]
          exact List.map_congr_left fun x _ => wake_mail x
        | false =>
          show allM p (N.lPut l ⟨a.mail, false, false⟩).1 = true
          unfold N.lPut
          cases N.lCheck l a.mail != 0 with
          | true => exact h
          | false =>
            show ((l ++ [(⟨a.mail, false, false⟩ : HItem)]).all fun x => p x.mail) = true
            rw [List.all_append, show (l.all fun x => p x.mail) = true from h]
            simp [hs]
theorem acts_all {p : HMail → Bool} : ∀ (r : List HAct) (l : List HItem), allM p l = true → (r.all fun a => p a.mail) = true → allM p (N.acts l r) = true
  | [], _, h, _ => h
  | a :: r, l, h, hs => by
    rw [List.all_cons, Bool.and_eq_true] at hs
    exact acts_all r _ (act_all h hs.1) hs.2
theorem act_wf {a : HAct} (h : wfL (cAct.enc a) = true) : N.fineM a.mail = true := by
  have h : cond (wfV (.int .u8 a.op)) (wfL (cMail.enc a.mail)) false = true := h
  exact mail_wf (bcond h).2
theorem acts_wfR : ∀ l : List HAct, wfRs (l.map cAct.enc) = true → (l.all fun a => N.fineM a.mail) = true
  | [], _ => rfl
  | m :: r, h => by
    have h : cond (wfL (cAct.enc m)) (wfRs (r.map cAct.enc)) false = true := h
    obtain ⟨h1, h2⟩ := bcond h
    rw [List.all_cons, acts_wfR r h2, act_wf h1]; rfl
theorem acts_wf {l : List HAct} (h : wfL ((rSl cAct).enc l) = true) : (l.all fun a => N.fineM a.mail) = true := by
  have h : cond (cond (Nat.ble (l.map cAct.enc).length 9223372036854775807) (cond (fitsRows cAct.sh (l.map cAct.enc)) (wfRs (l.map cAct.enc)) false) false) true false = true := h
  exact acts_wfR l (bcond (bcond (bcond h).1).2).2
theorem fine_due {m : HMail} (h : N.fineM m = true) : 0 ≤ m.due := by
  have h1 : N.okM m = true := (bcond h).1
  exact ile_of (bcond (bcond (bcond h1).2).1).1
/-- The first one of which something is so. -/
theorem ix_at {p : HItem → Bool} {y : HItem} {r : List HItem} (hy : p y = true) : ∀ (l : List HItem) (i : Int), l.any p = false → N.ix p (l ++ y :: r) i = i + l.length
  | [], i, _ => by
    show N.ix p (y :: r) i = _
    unfold N.ix; rw [hy]; simp
  | x :: l, i, h => by
    rw [List.any_cons, Bool.or_eq_false_iff] at h
    show N.ix p (x :: (l ++ y :: r)) i = _
    unfold N.ix
    rw [h.1, cond_false, ix_at hy l (i + 1) h.2]
    simp; omega
theorem told_at {p : HItem → Bool} {y : HItem} {r l : List HItem} (hy : p y = true) (hl : l.any p = false) : N.lTold (l ++ y :: r) (N.ix p (l ++ y :: r) 0) = (y.mail, true) := by
  rw [ix_at hy l 0 hl]
  unfold N.lTold
  rw [ilt_f (by omega)]
  have e : (0 + (l.length : Int)).toNat = l.length := by omega
  rw [e]
  simp [List.getD_eq_getElem?_getD]
theorem told_none {p : HItem → Bool} {l : List HItem} (hl : l.any p = false) : N.lTold l (N.ix p l 0) = (mail0, false) := by
  have e : ∀ (l : List HItem) (i : Int), l.any p = false → N.ix p l i = -1 := fun l => by
    induction l with
    | nil => intro i _; rfl
    | cons x r ih =>
      intro i h
      rw [List.any_cons, Bool.or_eq_false_iff] at h
      unfold N.ix
      rw [h.1, cond_false]; exact ih (i + 1) h.2
  rw [e l 0 hl]; rfl
theorem told_some {p : HItem → Bool} {l : List HItem} : (N.lTold l (N.ix p l 0)).2 = l.any p := by
  cases h : l.any p with
  | false => rw [told_none h]
  | true =>
    rcases ix_spec p l 0 (Int.le_refl _) with ⟨_, h2⟩ | ⟨k, h1, _⟩
    · obtain ⟨x, hx, hp⟩ := List.any_eq_true.1 h
      rw [h2 x hx] at hp; cases hp
    · rw [h1]
      unfold N.lTold
      rw [ilt_f (by omega)]; rfl
theorem ready_pos (l : List HItem) : ilt 0 (N.lReady l) = l.any N.isReady := by
  induction l with
  | nil => rfl
  | cons x r ih =>
    have := (ready_le r).1
    unfold N.lReady
    rw [List.any_cons]
    unfold N.isReady at *
    cases x.lent with
    | true => rw [cond_true, cond_true, Bool.false_or]; exact ih
    | false => rw [cond_false, cond_false, Bool.true_or]; exact ilt_t (by omega)
/-- What the statement goes through: whether it is so, and what has been met. -/
def N.fOk (t : Int) (f n : HMail) (ok late : Bool) : List HItem → Bool → Bool → Bool × Bool × Bool
  | [], s, o => (true, s, o)
  | y :: r, s, o => cond y.lent (N.fOk t f n ok late r s o) (cond (cond s false (cond ok (!N.mailSame y.mail f) true)) (false, s, o)
      (cond (cond (ilt 0 y.mail.due) (cond (ile y.mail.due t) (!o) false) false) (cond (cond late (!N.mailSame y.mail n) true) (false, s, o) (N.fOk t f n ok late r true true)) (N.fOk t f n ok late r true o)))
theorem fOk_true {t : Int} {l : List HItem} (hd : allM N.fineM l = true) : ∀ (r pre : List HItem), l = pre ++ r →
    N.fOk t (N.lFirst l).1 (N.lLate l t).1 (N.lFirst l).2 (N.lLate l t).2 r (pre.any N.isReady) (pre.any (N.isLate t)) = (true, l.any N.isReady, l.any (N.isLate t))
  | [], pre, h => by rw [List.append_nil] at h; subst h; rfl
  | y :: r, pre, h => by
    have ih := fOk_true (t := t) hd r (pre ++ [y]) (by rw [h]; simp)
    rw [List.any_append, List.any_append, List.any_cons, List.any_cons, List.any_nil, List.any_nil, Bool.or_false, Bool.or_false] at ih
    have hdy : 0 ≤ y.mail.due := by
      subst h
      exact fine_due (List.all_eq_true.1 hd y (by simp))
    unfold N.fOk
    cases hl : y.lent with
    | true =>
      have e1 : N.isReady y = false := by unfold N.isReady; rw [hl]; rfl
      have e2 : N.isLate t y = false := by unfold N.isLate; rw [hl]; rfl
      rw [e1, e2, Bool.or_false, Bool.or_false] at ih
      exact ih
    | false =>
      have e1 : N.isReady y = true := by unfold N.isReady; rw [hl]; rfl
      have e2 : N.isLate t y = cond (ilt 0 y.mail.due) (ile y.mail.due t) false := by
        unfold N.isLate
        rw [hl, cond_false]
        by_cases h0 : y.mail.due = 0
        · rw [h0]; rfl
        · rw [ine_t h0, ilt_t (by omega)]
      rw [e1, Bool.or_true] at ih
      rw [cond_false]
      have c1 : cond (pre.any N.isReady) false (cond (N.lFirst l).2 (!N.mailSame y.mail (N.lFirst l).1) true) = false := by
        cases hp : pre.any N.isReady with
        | true => rfl
        | false =>
          have := told_at (r := r) e1 hp
          rw [← h] at this
          unfold N.lFirst
          rw [this, mailSame_refl]; rfl
      rw [c1, cond_false]
      cases h2 : N.isLate t y with
      | false =>
        rw [h2, Bool.or_false] at ih
        have c2 : cond (ilt 0 y.mail.due) (cond (ile y.mail.due t) (!pre.any (N.isLate t)) false) false = false := by
          rw [h2] at e2
          cases h3 : ilt 0 y.mail.due with
          | false => rfl
          | true =>
            rw [h3, cond_true] at e2
            rw [← e2]; rfl
        rw [c2, cond_false]
        exact ih
      | true =>
        rw [h2, Bool.or_true] at ih
        rw [h2] at e2
        have h3 : ilt 0 y.mail.due = true := by
          cases h3 : ilt 0 y.mail.due with
          | true => rfl
          | false => rw [h3] at e2; cases e2
        rw [h3, cond_true] at e2
        rw [h3, ← e2, cond_true, cond_true]
        cases hp : pre.any (N.isLate t) with
        | true =>
          rw [Bool.not_true, cond_false]
          exact ih
        | false =>
          have := told_at (r := r) h2 hp
          rw [← h] at this
          have c3 : cond (N.lLate l t).2 (!N.mailSame y.mail (N.lLate l t).1) true = false := by
            unfold N.lLate
            rw [this, mailSame_refl]; rfl
          rw [Bool.not_false, cond_true, c3, cond_false]
          exact ih
end Go.Ev

/- The late one of a line: lemmas. -/
namespace Go.Ev
open Go Go.Proofs
set_option maxRecDepth 100000
-- FOLD

/-- A place that holds a number and is never written. -/
def vTick : VCod Int where
  ok := fun | .cref [.int k _] => decide (k = .u64) | _ => false
  enc t := .cref [.int .u64 t]
  dec := fun | .cref [.int _ n] => n | _ => 0
  ed _ := ⟨rfl, rfl⟩
  law w I ρ v x h hx := by
    split at h
    · have := of_decide_eq_true h; subst this
      exact hx
    · cases h
/-- A function that looks at such a place. -/
def vFnT (f : FuncId) : VCod Int where
  ok := fun | .fn g [] [.cref [.int k _]] => cond (Nat.beq f g) (decide (k = .u64)) false | _ => false
  enc t := .fn f [] [.cref [.int .u64 t]]
  dec := fun | .fn _ _ [.cref [.int _ n]] => n | _ => 0
  ed _ := ⟨by show cond (Nat.beq f f) true false = true; rw [Nat.beq_refl]; rfl, rfl⟩
  law w I ρ v x h hx := by
    split at h
    · obtain ⟨h1, h2⟩ := bcond h
      have := Nat.eq_of_beq_eq_true h1; subst this
      have := of_decide_eq_true h2; subst this
      exact hx
    · cases h
/-- A lent box with such a function in it. -/
def bFnT (f : FuncId) : BCod Int where
  ok := fun | [[.fn g [] [.cref [.int k _]]]] => cond (Nat.beq f g) (decide (k = .u64)) false | _ => false
  enc t := [[.fn f [] [.cref [.int .u64 t]]]]
  dec := fun | [[.fn _ _ [.cref [.int _ n]]]] => n | _ => 0
  len bx h := by
    split at h
    · rfl
    · cases h
  law bx h j cs cs' hj hj' := by
    split at h
    · rename_i g k t
      obtain ⟨h1, h2⟩ := bcond h
      have := Nat.eq_of_beq_eq_true h1; subst this
      have := of_decide_eq_true h2; subst this
      have e : cs' = cs := by rw [hj] at hj'; exact (Option.some.inj hj').symm
      subst e
      exact ⟨rfl, fun w J ρ k y hk hy val hv hall => hy⟩
    · cases h
namespace N
def lateM (t : Int) (m : HMail) : Bool := cond (m.due != 0) (ile m.due t) false
end N
def dLateF : Den := den (aCons (vAgg cMail) (aOne vTick)) bNil (oV vBool) (fun _ _ => true) fun a _ => (N.lateM a.2 a.1, ())
def dReadyT (f : FuncId) : Den := den (aCons (vAgg cItem) (aOne (vPtr 0))) (bFnT f) (oV vBool) (fun _ _ => true) fun a t => (N.isLate t a.1, t)
def dIxT (f g : FuncId) : Den := den (aCons (vSl cItem) (aOne (vFn f 0))) (bFnT g) (oV (vInt .i64)) (fun a _ => Nat.ble a.1.length 1000) fun a t => (N.ix (N.isLate t) a.1 0, t)
def dReadyTL (g : FuncId) : Den := den (aCons (vAgg cLine) (aOne (vFnT g))) bNil (oV (vInt .i64)) (fun a _ => Nat.ble a.1.length 1000) fun a _ => (N.ix (N.isLate a.2) a.1 0, ())
def dLLate : Den := den (aCons (vAgg cLine) (aOne (vInt .u64))) bNil (oTup (aCons (vAgg cMail) (aOne vBool))) (fun a _ => smallL a.1) fun a _ => (N.lLate a.1 a.2, ())
theorem q_lateF (m : HMail) (t : Int) : evFn eNone 58 ((aCons (vAgg cMail) (aOne vTick)).enc (m, t)) ([]) some =
 cond (HMail.due m != (0 : Int)) (some { v := V.bool (ile (HMail.due m) t), bx := [] : DRes }) (some { v := V.bool false, bx := [] : DRes }) := by kernel_rfl
noncomputable def eReadyT : Env := env Tryz.prog [(58, dLateF)] [] []
theorem q_readyT (x : HItem) (t : Int) : evFn eReadyT 109 ((aCons (vAgg cItem) (aOne (vPtr 0))).enc (x, ())) ((bFnT 58).enc t) some =
 cond (!HItem.lent x) (some { v := V.bool (N.lateM t { id := HMail.id (HItem.mail x), shop := HMail.shop (HItem.mail x), key := HMail.key (HItem.mail x), head := List.map (fun r => { key := V.toStr (List.getD r (0 : Nat) V.undef), kind := V.toInt (List.getD r (1 : Nat) V.undef), num := V.toInt (List.getD r (2 : Nat) V.undef), text := V.toStr (List.getD r (3 : Nat) V.undef) : HPair }) (List.map (fun p => [V.str (HPair.key p), V.int IntKind.u8 (HPair.kind p), V.int IntKind.i64 (HPair.num p), V.str (HPair.text p)]) (HMail.head (HItem.mail x))), body := HMail.body (HItem.mail x), due := HMail.due (HItem.mail x), hops := HMail.hops (HItem.mail x) : HMail }), bx := [[V.fn 58 [] [V.cref [V.int IntKind.u64 t]]]] : DRes }) (some { v := V.bool false, bx := [[V.fn 58 [] [V.cref [V.int IntKind.u64 t]]]] : DRes }) := by kernel_rfl
noncomputable def eReadyTL : Env := env Tryz.prog [(108, dIxT 109 58)] [] []
theorem q_readyTL (l : List HItem) (t : Int) : evFn eReadyTL 56 ((aCons (vAgg cLine) (aOne (vFnT 58))).enc (l, t)) ([]) some =
 cond (Nat.ble (List.length (List.map (RCod.dec cItem) (List.map (RCod.enc cItem) l))) (1000 : Nat)) (some { v := V.int IntKind.i64 (N.ix (N.isLate t) (List.map (RCod.dec cItem) (List.map (RCod.enc cItem) l)) (0 : Int)), bx := [] : DRes }) (none) := by kernel_rfl
noncomputable def eLLate : Env := { env Tryz.prog [(56, dReadyTL 58), (55, dLTold)] [] [] with cb := fun d => Nat.beq d 3 }
theorem q_lLate (l : List HItem) (t : Int) : evFn eLLate 19 ((aCons (vAgg cLine) (aOne (vInt .u64))).enc (l, t)) ([]) some =
 cond (Nat.ble (List.length (List.map (RCod.dec cItem) (List.map (RCod.enc cItem) l))) (1000 : Nat)) (cond (goodTold (List.map (RCod.dec cItem) (List.map (RCod.enc cItem) l)) (N.ix (N.isLate t) (List.map (RCod.dec cItem) (List.map (RCod.enc cItem) l)) (0 : Int))) (some { v := V.tup [V.agg [V.int IntKind.u64 (HMail.id (Prod.fst (N.lTold (List.map (RCod.dec cItem) (List.map (RCod.enc cItem) l)) (N.ix (N.isLate t) (List.map (RCod.dec cItem) (List.map (RCod.enc cItem) l)) (0 : Int))))), V.str (HMail.shop (Prod.fst (N.lTold (List.map (RCod.dec cItem) (List.map (RCod.enc cItem) l)) (N.ix (N.isLate t) (List.map (RCod.dec cItem) (List.map (RCod.enc cItem) l)) (0 : Int))))), V.str (HMail.key (Prod.fst (N.lTold (List.map (RCod.dec cItem) (List.map (RCod.enc cItem) l)) (N.ix (N.isLate t) (List.map (RCod.dec cItem) (List.map (RCod.enc cItem) l)) (0 : Int))))), V.slc [Sh.str, Sh.int IntKind.u8, Sh.int IntKind.i64, Sh.str] (List.map (fun p => [V.str (HPair.key p), V.int IntKind.u8 (HPair.kind p), V.int IntKind.i64 (HPair.num p), V.str (HPair.text p)]) (HMail.head (Prod.fst (N.lTold (List.map (RCod.dec cItem) (List.map (RCod.enc cItem) l)) (N.ix (N.isLate t) (List.map (RCod.dec cItem) (List.map (RCod.enc cItem) l)) (0 : Int)))))), V.str (HMail.body (Prod.fst (N.lTold (List.map (RCod.dec cItem) (List.map (RCod.enc cItem) l)) (N.ix (N.isLate t) (List.map (RCod.dec cItem) (List.map (RCod.enc cItem) l)) (0 : Int))))), V.int IntKind.u64 (HMail.due (Prod.fst (N.lTold (List.map (RCod.dec cItem) (List.map (RCod.enc cItem) l)) (N.ix (N.isLate t) (List.map (RCod.dec cItem) (List.map (RCod.enc cItem) l)) (0 : Int))))), V.int IntKind.u8 (HMail.hops (Prod.fst (N.lTold (List.map (RCod.dec cItem) (List.map (RCod.enc cItem) l)) (N.ix (N.isLate t) (List.map (RCod.dec cItem) (List.map (RCod.enc cItem) l)) (0 : Int)))))], V.bool (Prod.snd (N.lTold (List.map (RCod.dec cItem) (List.map (RCod.enc cItem) l)) (N.ix (N.isLate t) (List.map (RCod.dec cItem) (List.map (RCod.enc cItem) l)) (0 : Int))))], bx := [] : DRes }) (none)) (none) := by kernel_rfl
theorem ok_lateF : FnOk Tryz.prog 58 dLateF := by
  refine den_okF (env_ok (TOk.nil _)) (E := eNone) Tryz.func58 [] (by kernel_rfl) none0 fun a _ _ => ?_
  obtain ⟨m, t⟩ := a
  refine (q_lateF m t).trans ?_
  show _ = some (⟨.bool (N.lateM t m), [], []⟩ : DRes)
  unfold N.lateM
  cases m.due != 0 <;> rfl
theorem ok_readyT : FnOk Tryz.prog 109 (dReadyT 58) := by
  refine den_okF (env_ok ((TOk.nil _).cons ok_lateF)) (E := eReadyT) Tryz.func109 [] (by kernel_rfl) none0 fun a t _ => ?_
  obtain ⟨x, ⟨⟩⟩ := a
  refine (q_readyT x t).trans ?_
  show _ = some (⟨.bool (N.isLate t x), [[V.fn 58 [] [.cref [.int .u64 t]]]], []⟩ : DRes)
  unfold N.isLate
  cases x.lent <;> rfl
def schIxT : SSch := { fr := [(0, .slc [.int .u64, .str, .str, .slc [.str, .int .u8, .int .i64, .str], .str, .int .u64, .int .u8, .bool, .bool]), (1, .fn 109 [] [.ptr 0 0 0]), (7, .int .i64), (8, .int .i64)], tab := [(0, .var [.fn 58 [] [.cref [.int .u64]]])] }
def gIxT : List Leaf → (Ex → St → Option R) → Option R
  | [.r r, .i n, .i i, .i t], K => cond (n == r.length) (cond (i == 0) (cond (Nat.ble r.length 1000) (cond (ile 0 (N.ix (N.isLate t) (r.map cItem.dec) 0)) (K .ret { fr := [(4, .int .i64 (N.ix (N.isLate t) (r.map cItem.dec) 0))], tab := [(0, .var [.fn 58 [] [.cref [.int .u64 t]]])] }) (K (.exit 0) { fr := [], tab := [(0, .var [.fn 58 [] [.cref [.int .u64 t]]])] })) none) none) none
  | _, _ => none
noncomputable def eIxT : Env := env Tryz.prog [(109, dReadyT 58)] [(2, loopF schIxT gIxT)] [(2, [(0, [0, 1, 7, 8]), (1, []), (1000, [4])])]
theorem q_IxT (l : List HItem) (t : Int) : evFn eIxT 108 ((aCons (vSl cItem) (aOne (vFn 109 0))).enc (l, ())) ((bFnT 58).enc t) some =
 cond ((↑(List.length (List.map (RCod.enc cItem) l)) : Int) == (↑(List.length (List.map (RCod.enc cItem) l)) : Int)) (cond (Nat.ble (List.length (List.map (RCod.enc cItem) l)) (1000 : Nat)) (cond (ile (0 : Int) (N.ix (N.isLate t) (List.map (RCod.dec cItem) (List.map (RCod.enc cItem) l)) (0 : Int))) (some { v := V.int IntKind.i64 (N.ix (N.isLate t) (List.map (RCod.dec cItem) (List.map (RCod.enc cItem) l)) (0 : Int)), bx := [[V.fn 58 [] [V.cref [V.int IntKind.u64 t]]]] : DRes }) (some { v := V.int IntKind.i64 (-1 : Int), bx := [[V.fn 58 [] [V.cref [V.int IntKind.u64 t]]]] : DRes })) (none)) (none) := by kernel_rfl
theorem q_IxTR (r : List (List V)) (n i : Int) (t : Int) (K : Ex → St → Option R) : evRound eIxT 108 2 { fr := [(0, .slc [.int .u64, .str, .str, .slc [.str, .int .u8, .int .i64, .str], .str, .int .u64, .int .u8, .bool, .bool] r), (1, .fn 109 [] [.ptr 0 0 0 0]), (7, .int .i64 n), (8, .int .i64 i)], tab := [(0, .var [.fn 58 [] [.cref [.int .u64 t]]])] } K =
 cond (ilt i n) (cond (decide ((0 : Int) ≤ i ∧ i < (↑(List.length r) : Int))) (cond (N.isLate t { mail := { id := V.toInt (List.getD (List.getD r (Int.toNat i) []) (0 : Nat) V.undef), shop := V.toStr (List.getD (List.getD r (Int.toNat i) []) (1 : Nat) V.undef), key := V.toStr (List.getD (List.getD r (Int.toNat i) []) (2 : Nat) V.undef), head := List.map (fun r => { key := V.toStr (List.getD r (0 : Nat) V.undef), kind := V.toInt (List.getD r (1 : Nat) V.undef), num := V.toInt (List.getD r (2 : Nat) V.undef), text := V.toStr (List.getD r (3 : Nat) V.undef) : HPair }) (V.toRows (List.getD (List.getD r (Int.toNat i) []) (3 : Nat) V.undef)), body := V.toStr (List.getD (List.getD r (Int.toNat i) []) (4 : Nat) V.undef), due := V.toInt (List.getD (List.getD r (Int.toNat i) []) (5 : Nat) V.undef), hops := V.toInt (List.getD (List.getD r (Int.toNat i) []) (6 : Nat) V.undef) : HMail }, lent := V.toBool (List.getD (List.getD r (Int.toNat i) []) (7 : Nat) V.undef), again := V.toBool (List.getD (List.getD r (Int.toNat i) []) (8 : Nat) V.undef) : HItem }) (K Ex.ret { fr := [((4 : Nat), V.int IntKind.i64 i)], tab := [((0 : Nat), Box.var [V.fn 58 [] [V.cref [V.int IntKind.u64 t]]])] : St }) (K Ex.normal { fr := [((0 : Nat), V.slc [Sh.int IntKind.u64, Sh.str, Sh.str, Sh.slc [Sh.str, Sh.int IntKind.u8, Sh.int IntKind.i64, Sh.str], Sh.str, Sh.int IntKind.u64, Sh.int IntKind.u8, Sh.bool, Sh.bool] r), ((1 : Nat), V.fn 109 [] [V.ptr (0 : Nat) (0 : Nat) (0 : Nat) (0 : Nat)]), ((7 : Nat), V.int IntKind.i64 n), ((8 : Nat), V.int IntKind.i64 (IntKind.wrap IntKind.i64 (i + (1 : Int))))], tab := [((0 : Nat), Box.var [V.fn 58 [] [V.cref [V.int IntKind.u64 t]]])] : St })) (none)) (K (Ex.exit (0 : Nat)) { fr := [], tab := [((0 : Nat), Box.var [V.fn 58 [] [V.cref [V.int IntKind.u64 t]]])] : St }) := by kernel_rfl
theorem ok_IxT : FnOk Tryz.prog 108 (dIxT 109 58) := by
  refine den_okF (env_ok ((TOk.nil _).cons ok_readyT)) (E := eIxT) Tryz.func108 [2] (by kernel_rfl) (one1 (rounds_of rfl fun l K q h => ?_)) fun a t hp => ?_
  · unfold gIxT at h
    split at h
    · rename_i r n i t
      have h1 := (cond_none h).1; replace h := (cond_none h).2; have h2 := (cond_none h).1; replace h := (cond_none h).2; have h3 := (cond_none h).1; replace h := (cond_none h).2
      have e1 := ieq_of h1
      have e2 := ieq_of h2
      subst e1 e2
      have h3 : r.length ≤ 1000 := ble_of h3
      have main := loop_ind (E := eIxT) (f := 108) (id := 2) (σ := Nat) (fun i => { fr := [(0, .slc [.int .u64, .str, .str, .slc [.str, .int .u8, .int .i64, .str], .str, .int .u64, .int .u8, .bool, .bool] r), (1, .fn 109 [] [.ptr 0 0 0 0]), (7, .int .i64 r.length), (8, .int .i64 (i : Int))], tab := [(0, .var [.fn 58 [] [.cref [.int .u64 t]]])] }) (fun i => i ≤ r.length) (fun i => r.length - i)
        (fun i K => cond (ile 0 (N.ix (N.isLate t) ((r.drop i).map cItem.dec) i)) (K .ret { fr := [(4, .int .i64 (N.ix (N.isLate t) ((r.drop i).map cItem.dec) i))], tab := [(0, .var [.fn 58 [] [.cref [.int .u64 t]]])] }) (K (.exit 0) { fr := [], tab := [(0, .var [.fn 58 [] [.cref [.int .u64 t]]])] })) (fun i hi => ?_) 0 (Nat.zero_le _) K q (by assumption)
      · exact main
      · by_cases hl : i < r.length
        · rw [drop_decI hl, ix_cons]
          cases hc : (N.isLate t) (cItem.dec (r.getD i [])) with
          | true =>
            refine .inr ⟨.ret, { fr := [(4, .int .i64 ((i : Int)))], tab := [(0, .var [.fn 58 [] [.cref [.int .u64 t]]])] }, by simp, fun K => ?_, fun K => ?_⟩
            · rw [q_IxTR]
              simp (disch := omega) only [evs, Int.toNat_natCast, fold_item, hc]
            · simp only [cond_true]
              rw [ile_t (by omega)]; rfl
          | false =>
            refine .inl ⟨i + 1, hl, by omega, fun K => ?_, fun K => rfl⟩
            rw [q_IxTR]
            simp (disch := omega) only [evs, Int.toNat_natCast, fold_item, hc]
            rfl
        · refine .inr ⟨.exit 0, { fr := [], tab := [(0, .var [.fn 58 [] [.cref [.int .u64 t]]])] }, by simp, fun K => ?_, fun K => ?_⟩
          · rw [q_IxTR]
            simp (disch := omega) only [evs]
          · rw [List.drop_eq_nil_of_le (by omega)]; rfl
    · cases h
  · obtain ⟨l, ⟨⟩⟩ := a
    have hp : Nat.ble l.length 1000 = true := hp
    refine (q_IxT l t).trans ?_
    simp only [List.length_map, dec_encs, hp, beq_self_eq_true, cond_true]
    show _ = some (⟨.int .i64 (N.ix (N.isLate t) l 0), [[.fn 58 [] [.cref [.int .u64 t]]]], []⟩ : DRes)
    cases hc : ile 0 (N.ix (N.isLate t) l 0) with
    | true => rfl
    | false => rw [ix_end hc]; rfl
theorem ok_readyTL : FnOk Tryz.prog 56 (dReadyTL 58) := by
  refine den_okF (env_ok ((TOk.nil _).cons ok_IxT)) (E := eReadyTL) Tryz.func56 [] (by kernel_rfl) none0 fun a _ h => ?_
  obtain ⟨l, t⟩ := a
  have h : Nat.ble l.length 1000 = true := h
  refine (q_readyTL l t).trans ?_
  simp only [dec_encs, h, cond_true]
  rfl
theorem ok_lLate : FnOk Tryz.prog 19 dLLate := by
  refine den_okF (env_ok (((TOk.nil _).cons ok_lTold).cons ok_readyTL)) (E := eLLate) Tryz.func19 [] (by kernel_rfl) none0 fun a _ h => ?_
  obtain ⟨l, t⟩ := a
  have h : smallL l = true := h
  obtain ⟨h1, h2, h3⟩ := smallL_of h
  refine (q_lLate l t).trans ?_
  show _ = some (⟨.tup [.agg (cMail.enc (N.lLate l t).1), .bool (N.lLate l t).2], [], []⟩ : DRes)
  have hg : goodTold l (N.ix (N.isLate t) l 0) = true := by
    unfold goodTold
    rw [h]
    rcases ix_spec (N.isLate t) l 0 (Int.le_refl _) with ⟨e, _⟩ | ⟨k, e, hk, _⟩
    · rw [e]; rfl
    · rw [e, ilt_f (by omega), ilt_t (by omega)]; rfl
  unfold N.lLate
  simp (disch := omega) only [evs, dec_encs, h2, hg, fold_de, pairs_enc, fold_enc]
end Go.Ev

/- What the statement on the first and the late one reckons: it is true; lemmas; the function that writes numbers is a premise. -/
namespace Go.Ev
open Go Go.Proofs
set_option maxRecDepth 100000
-- FOLD

def schLf7 : SSch := { fr := [(1, .int .u64), (5, .ptr 10000 0 0), (21, .slc [.int .u8, .int .u64, .str, .str, .slc [.str, .int .u8, .int .i64, .str], .str, .int .u64, .int .u8]), (22, .int .i64), (23, .int .i64)], tab := [(10000, .var [.slc [.int .u64, .str, .str, .slc [.str, .int .u8, .int .i64, .str], .str, .int .u64, .int .u8, .bool, .bool]])] }
def gLf7 : List Leaf → (Ex → St → Option R) → Option R
  | [.i t, .r r, .i n, .i i, .r a], K => cond (n == r.length) (cond (i == 0) (cond (Nat.beq a.length 0) (cond (Nat.ble r.length 100) (cond ((r.map cAct.dec).all smallA)
      (K (.exit 0) { fr := [(1, .int .u64 t), (5, .ptr 10000 0 0 0)], tab := [(10000, .var [.slc [.int .u64, .str, .str, .slc [.str, .int .u8, .int .i64, .str], .str, .int .u64, .int .u8, .bool, .bool] ((N.acts [] (r.map cAct.dec)).map cItem.enc)])] }) none) none) none) none) none
  | _, _ => none
def schLf15 : SSch := { fr := [(1, .int .u64), (5, .ptr 10000 0 0), (8, .ptr 10001 0 0), (9, .bool), (10, .ptr 10002 0 0), (11, .bool), (12, .bool), (13, .bool), (47, .slc [.int .u64, .str, .str, .slc [.str, .int .u8, .int .i64, .str], .str, .int .u64, .int .u8, .bool, .bool]), (48, .int .i64), (49, .int .i64)], tab := [(10000, .var [.slc [.int .u64, .str, .str, .slc [.str, .int .u8, .int .i64, .str], .str, .int .u64, .int .u8, .bool, .bool]]), (10001, .var [.int .u64, .str, .str, .slc [.str, .int .u8, .int .i64, .str], .str, .int .u64, .int .u8]), (10002, .var [.int .u64, .str, .str, .slc [.str, .int .u8, .int .i64, .str], .str, .int .u64, .int .u8])] }
def gLf15 : List Leaf → (Ex → St → Option R) → Option R
  | [.i t, .b ok, .b late, .b s, .b o, .r r, .i n, .i i, .r x, .i f0, .s f1, .s f2, .r f3, .s f4, .i f5, .i f6, .i n0, .s n1, .s n2, .r n3, .s n4, .i n5, .i n6], K =>
      cond (n == r.length) (cond (i == 0) (cond (Nat.ble r.length 1000) (cond ((r.map cItem.dec).all smallI) (cond (N.fOk t (⟨f0, f1, f2, f3.map (fun r => ({ key := V.toStr (List.getD r 0 .undef), kind := V.toInt (List.getD r 1 .undef), num := V.toInt (List.getD r 2 .undef), text := V.toStr (List.getD r 3 .undef) } : HPair)), f4, f5, f6⟩ : HMail) (⟨n0, n1, n2, n3.map (fun r => ({ key := V.toStr (List.getD r 0 .undef), kind := V.toInt (List.getD r 1 .undef), num := V.toInt (List.getD r 2 .undef), text := V.toStr (List.getD r 3 .undef) } : HPair)), n4, n5, n6⟩ : HMail) ok late (r.map cItem.dec) s o).1
      (K (.exit 2) { fr := [(5, .ptr 10000 0 0 0), (9, .bool ok), (11, .bool late), (12, .bool (N.fOk t (⟨f0, f1, f2, f3.map (fun r => ({ key := V.toStr (List.getD r 0 .undef), kind := V.toInt (List.getD r 1 .undef), num := V.toInt (List.getD r 2 .undef), text := V.toStr (List.getD r 3 .undef) } : HPair)), f4, f5, f6⟩ : HMail) (⟨n0, n1, n2, n3.map (fun r => ({ key := V.toStr (List.getD r 0 .undef), kind := V.toInt (List.getD r 1 .undef), num := V.toInt (List.getD r 2 .undef), text := V.toStr (List.getD r 3 .undef) } : HPair)), n4, n5, n6⟩ : HMail) ok late (r.map cItem.dec) s o).2.1), (13, .bool (N.fOk t (⟨f0, f1, f2, f3.map (fun r => ({ key := V.toStr (List.getD r 0 .undef), kind := V.toInt (List.getD r 1 .undef), num := V.toInt (List.getD r 2 .undef), text := V.toStr (List.getD r 3 .undef) } : HPair)), f4, f5, f6⟩ : HMail) (⟨n0, n1, n2, n3.map (fun r => ({ key := V.toStr (List.getD r 0 .undef), kind := V.toInt (List.getD r 1 .undef), num := V.toInt (List.getD r 2 .undef), text := V.toStr (List.getD r 3 .undef) } : HPair)), n4, n5, n6⟩ : HMail) ok late (r.map cItem.dec) s o).2.2)], tab := [(10000, .var [.slc [.int .u64, .str, .str, .slc [.str, .int .u8, .int .i64, .str], .str, .int .u64, .int .u8, .bool, .bool] x])] }) none) none) none) none) none
  | _, _ => none
noncomputable def eLf : Env := { env Tryz.prog [(11, dTrue), (12, dLight18), (14, dDone18), (18, dLFirst), (19, dLLate), (15, dLAll), (20, dMailSame), (16, dLReadyN)] [(15, loopF schLf15 gLf15), (7, loopF schLf7 gLf7)] [(7, [(0, [1, 5, 21, 22, 23]), (1, [1, 5]), (1000, [4])]), (15, [(0, [1, 5, 8, 9, 10, 11, 12, 13, 47, 48, 49]), (3, [5, 9, 11, 12, 13]), (1000, [4])])] with fz := true }
theorem q_lf (l : List HAct) (t : Int) : evFn eLf 4 ((aCons (vSl cAct) (aOne (vInt .u64))).enc (l, t)) ([]) some =
 cond (Nat.ble (List.length (List.map (RCod.dec cAct) (List.map (RCod.enc cAct) l))) (9223372036854775807 : Nat)) (cond (!bif N.lightActs (List.map (RCod.dec cAct) (List.map (RCod.enc cAct) l)) then ile (↑(List.length (List.map (RCod.dec cAct) (List.map (RCod.enc cAct) l))) : Int) (100 : Int) else false) (some { v := V.bool true, bx := [] : DRes }) (cond ((↑(List.length (List.map (RCod.enc cAct) l)) : Int) == (↑(List.length (List.map (RCod.enc cAct) l)) : Int)) (cond (Nat.ble (List.length (List.map (RCod.enc cAct) l)) (100 : Nat)) (cond (List.all (List.map (RCod.dec cAct) (List.map (RCod.enc cAct) l)) smallA) (cond (smallL (List.map (RCod.dec cItem) (List.map (RCod.enc cItem) (N.acts [] (List.map (RCod.dec cAct) (List.map (RCod.enc cAct) l)))))) (cond (smallL (List.map (RCod.dec cItem) (List.map (RCod.enc cItem) (N.acts [] (List.map (RCod.dec cAct) (List.map (RCod.enc cAct) l)))))) (cond (smallL (List.map (RCod.dec cItem) (List.map (RCod.enc cItem) (N.acts [] (List.map (RCod.dec cAct) (List.map (RCod.enc cAct) l)))))) (cond ((↑(List.length (List.map (RCod.enc cItem) (List.map (RCod.dec cItem) (List.map (RCod.enc cItem) (N.acts [] (List.map (RCod.dec cAct) (List.map (RCod.enc cAct) l))))))) : Int) == (↑(List.length (List.map (RCod.enc cItem) (List.map (RCod.dec cItem) (List.map (RCod.enc cItem) (N.acts [] (List.map (RCod.dec cAct) (List.map (RCod.enc cAct) l))))))) : Int)) (cond (Nat.ble (List.length (List.map (RCod.enc cItem) (List.map (RCod.dec cItem) (List.map (RCod.enc cItem) (N.acts [] (List.map (RCod.dec cAct) (List.map (RCod.enc cAct) l))))))) (1000 : Nat)) (cond (List.all (List.map (RCod.dec cItem) (List.map (RCod.enc cItem) (List.map (RCod.dec cItem) (List.map (RCod.enc cItem) (N.acts [] (List.map (RCod.dec cAct) (List.map (RCod.enc cAct) l))))))) smallI) (cond (Prod.fst (N.fOk t { id := HMail.id (Prod.fst (N.lFirst (List.map (RCod.dec cItem) (List.map (RCod.enc cItem) (N.acts [] (List.map (RCod.dec cAct) (List.map (RCod.enc cAct) l))))))), shop := HMail.shop (Prod.fst (N.lFirst (List.map (RCod.dec cItem) (List.map (RCod.enc cItem) (N.acts [] (List.map (RCod.dec cAct) (List.map (RCod.enc cAct) l))))))), key := HMail.key (Prod.fst (N.lFirst (List.map (RCod.dec cItem) (List.map (RCod.enc cItem) (N.acts [] (List.map (RCod.dec cAct) (List.map (RCod.enc cAct) l))))))), head := List.map (fun r => { key := V.toStr (List.getD r (0 : Nat) V.undef), kind := V.toInt (List.getD r (1 : Nat) V.undef), num := V.toInt (List.getD r (2 : Nat) V.undef), text := V.toStr (List.getD r (3 : Nat) V.undef) : HPair }) (List.map (fun p => [V.str (HPair.key p), V.int IntKind.u8 (HPair.kind p), V.int IntKind.i64 (HPair.num p), V.str (HPair.text p)]) (HMail.head (Prod.fst (N.lFirst (List.map (RCod.dec cItem) (List.map (RCod.enc cItem) (N.acts [] (List.map (RCod.dec cAct) (List.map (RCod.enc cAct) l))))))))), body := HMail.body (Prod.fst (N.lFirst (List.map (RCod.dec cItem) (List.map (RCod.enc cItem) (N.acts [] (List.map (RCod.dec cAct) (List.map (RCod.enc cAct) l))))))), due := HMail.due (Prod.fst (N.lFirst (List.map (RCod.dec cItem) (List.map (RCod.enc cItem) (N.acts [] (List.map (RCod.dec cAct) (List.map (RCod.enc cAct) l))))))), hops := HMail.hops (Prod.fst (N.lFirst (List.map (RCod.dec cItem) (List.map (RCod.enc cItem) (N.acts [] (List.map (RCod.dec cAct) (List.map (RCod.enc cAct) l))))))) : HMail } { id := HMail.id (Prod.fst (N.lLate (List.map (RCod.dec cItem) (List.map (RCod.enc cItem) (N.acts [] (List.map (RCod.dec cAct) (List.map (RCod.enc cAct) l))))) t)), shop := HMail.shop (Prod.fst (N.lLate (List.map (RCod.dec cItem) (List.map (RCod.enc cItem) (N.acts [] (List.map (RCod.dec cAct) (List.map (RCod.enc cAct) l))))) t)), key := HMail.key (Prod.fst (N.lLate (List.map (RCod.dec cItem) (List.map (RCod.enc cItem) (N.acts [] (List.map (RCod.dec cAct) (List.map (RCod.enc cAct) l))))) t)), head := List.map (fun r => { key := V.toStr (List.getD r (0 : Nat) V.undef), kind := V.toInt (List.getD r (1 : Nat) V.undef), num := V.toInt (List.getD r (2 : Nat) V.undef), text := V.toStr (List.getD r (3 : Nat) V.undef) : HPair }) (List.map (fun p => [V.str (HPair.key p), V.int IntKind.u8 (HPair.kind p), V.int IntKind.i64 (HPair.num p), V.str (HPair.text p)]) (HMail.head (Prod.fst (N.lLate (List.map (RCod.dec cItem) (List.map (RCod.enc cItem) (N.acts [] (List.map (RCod.dec cAct) (List.map (RCod.enc cAct) l))))) t)))), body := HMail.body (Prod.fst (N.lLate (List.map (RCod.dec cItem) (List.map (RCod.enc cItem) (N.acts [] (List.map (RCod.dec cAct) (List.map (RCod.enc cAct) l))))) t)), due := HMail.due (Prod.fst (N.lLate (List.map (RCod.dec cItem) (List.map (RCod.enc cItem) (N.acts [] (List.map (RCod.dec cAct) (List.map (RCod.enc cAct) l))))) t)), hops := HMail.hops (Prod.fst (N.lLate (List.map (RCod.dec cItem) (List.map (RCod.enc cItem) (N.acts [] (List.map (RCod.dec cAct) (List.map (RCod.enc cAct) l))))) t)) : HMail } (Prod.snd (N.lFirst (List.map (RCod.dec cItem) (List.map (RCod.enc cItem) (N.acts [] (List.map (RCod.dec cAct) (List.map (RCod.enc cAct) l))))))) (Prod.snd (N.lLate (List.map (RCod.dec cItem) (List.map (RCod.enc cItem) (N.acts [] (List.map (RCod.dec cAct) (List.map (RCod.enc cAct) l))))) t)) (List.map (RCod.dec cItem) (List.map (RCod.enc cItem) (List.map (RCod.dec cItem) (List.map (RCod.enc cItem) (N.acts [] (List.map (RCod.dec cAct) (List.map (RCod.enc cAct) l))))))) false false)) (cond (Prod.fst (Prod.snd (N.fOk t { id := HMail.id (Prod.fst (N.lFirst (List.map (RCod.dec cItem) (List.map (RCod.enc cItem) (N.acts [] (List.map (RCod.dec cAct) (List.map (RCod.enc cAct) l))))))), shop := HMail.shop (Prod.fst (N.lFirst (List.map (RCod.dec cItem) (List.map (RCod.enc cItem) (N.acts [] (List.map (RCod.dec cAct) (List.map (RCod.enc cAct) l))))))), key := HMail.key (Prod.fst (N.lFirst (List.map (RCod.dec cItem) (List.map (RCod.enc cItem) (N.acts [] (List.map (RCod.dec cAct) (List.map (RCod.enc cAct) l))))))), head := List.map (fun r => { key := V.toStr (List.getD r (0 : Nat) V.undef), kind := V.toInt (List.getD r (1 : Nat) V.undef), num := V.toInt (List.getD r (2 : Nat) V.undef), text := V.toStr (List.getD r (3 : Nat) V.undef) : HPair }) (List.map (fun p => [V.str (HPair.key p), V.int IntKind.u8 (HPair.kind p), V.int IntKind.i64 (HPair.num p), V.str (HPair.text p)]) (HMail.head (Prod.fst (N.lFirst (List.map (RCod.dec cItem) (List.map (RCod.enc cItem) (N.acts [] (List.map (RCod.dec cAct) (List.map (RCod.enc cAct) l))))))))), body := HMail.body (Prod.fst (N.lFirst (List.map (RCod.dec cItem) (List.map (RCod.enc cItem) (N.acts [] (List.map (RCod.dec cAct) (List.map (RCod.enc cAct) l))))))), due := HMail.due (Prod.fst (N.lFirst (List.map (RCod.dec cItem) (List.map (RCod.enc cItem) (N.acts [] (List.map (RCod.dec cAct) (List.map (RCod.enc cAct) l))))))), hops := HMail.hops (Prod.fst (N.lFirst (List.map (RCod.dec cItem) (List.map (RCod.enc cItem) (N.acts [] (List.map (RCod.dec cAct) (List.map (RCod.enc cAct) l))))))) : HMail } { id := HMail.id (Prod.fst (N.lLate (List.map (RCod.dec cItem) (List.map (RCod.enc cItem) (N.acts [] (List.map (RCod.dec cAct) (List.map (RCod.enc cAct) l))))) t)), shop := HMail.shop (Prod.fst (N.lLate (List.map (RCod.dec cItem) (List.map (RCod.enc cItem) (N.acts [] (List.map (RCod.dec cAct) (List.map (RCod.enc cAct) l))))) t)), key := HMail.key (Prod.fst (N.lLate (List.map (RCod.dec cItem) (List.map (RCod.enc cItem) (N.acts [] (List.map (RCod.dec cAct) (List.map (RCod.enc cAct) l))))) t)), head := List.map (fun r => { key := V.toStr (List.getD r (0 : Nat) V.undef), kind := V.toInt (List.getD r (1 : Nat) V.undef), num := V.toInt (List.getD r (2 : Nat) V.undef), text := V.toStr (List.getD r (3 : Nat) V.undef) : HPair }) (List.map (fun p => [V.str (HPair.key p), V.int IntKind.u8 (HPair.kind p), V.int IntKind.i64 (HPair.num p), V.str (HPair.text p)]) (HMail.head (Prod.fst (N.lLate (List.map (RCod.dec cItem) (List.map (RCod.enc cItem) (N.acts [] (List.map (RCod.dec cAct) (List.map (RCod.enc cAct) l))))) t)))), body := HMail.body (Prod.fst (N.lLate (List.map (RCod.dec cItem) (List.map (RCod.enc cItem) (N.acts [] (List.map (RCod.dec cAct) (List.map (RCod.enc cAct) l))))) t)), due := HMail.due (Prod.fst (N.lLate (List.map (RCod.dec cItem) (List.map (RCod.enc cItem) (N.acts [] (List.map (RCod.dec cAct) (List.map (RCod.enc cAct) l))))) t)), hops := HMail.hops (Prod.fst (N.lLate (List.map (RCod.dec cItem) (List.map (RCod.enc cItem) (N.acts [] (List.map (RCod.dec cAct) (List.map (RCod.enc cAct) l))))) t)) : HMail } (Prod.snd (N.lFirst (List.map (RCod.dec cItem) (List.map (RCod.enc cItem) (N.acts [] (List.map (RCod.dec cAct) (List.map (RCod.enc cAct) l))))))) (Prod.snd (N.lLate (List.map (RCod.dec cItem) (List.map (RCod.enc cItem) (N.acts [] (List.map (RCod.dec cAct) (List.map (RCod.enc cAct) l))))) t)) (List.map (RCod.dec cItem) (List.map (RCod.enc cItem) (List.map (RCod.dec cItem) (List.map (RCod.enc cItem) (N.acts [] (List.map (RCod.dec cAct) (List.map (RCod.enc cAct) l))))))) false false)) == Prod.snd (N.lFirst (List.map (RCod.dec cItem) (List.map (RCod.enc cItem) (N.acts [] (List.map (RCod.dec cAct) (List.map (RCod.enc cAct) l))))))) (cond (Prod.snd (Prod.snd (N.fOk t { id := HMail.id (Prod.fst (N.lFirst (List.map (RCod.dec cItem) (List.map (RCod.enc cItem) (N.acts [] (List.map (RCod.dec cAct) (List.map (RCod.enc cAct) l))))))), shop := HMail.shop (Prod.fst (N.lFirst (List.map (RCod.dec cItem) (List.map (RCod.enc cItem) (N.acts [] (List.map (RCod.dec cAct) (List.map (RCod.enc cAct) l))))))), key := HMail.key (Prod.fst (N.lFirst (List.map (RCod.dec cItem) (List.map (RCod.enc cItem) (N.acts [] (List.map (RCod.dec cAct) (List.map (RCod.enc cAct) l))))))), head := List.map (fun r => { key := V.toStr (List.getD r (0 : Nat) V.undef), kind := V.toInt (List.getD r (1 : Nat) V.undef), num := V.toInt (List.getD r (2 : Nat) V.undef), text := V.toStr (List.getD r (3 : Nat) V.undef) : HPair }) (List.map (fun p => [V.str (HPair.key p), V.int IntKind.u8 (HPair.kind p), V.int IntKind.i64 (HPair.num p), V.str (HPair.text p)]) (HMail.head (Prod.fst (N.lFirst (List.map (RCod.dec cItem) (List.map (RCod.enc cItem) (N.acts [] (List.map (RCod.dec cAct) (List.map (RCod.enc cAct) l))))))))), body := HMail.body (Prod.fst (N.lFirst (List.map (RCod.dec cItem) (List.map (RCod.enc cItem) (N.acts [] (List.map (RCod.dec cAct) (List.map (RCod.enc cAct) l))))))), due := HMail.due (Prod.fst (N.lFirst (List.map (RCod.dec cItem) (List.map (RCod.enc cItem) (N.acts [] (List.map (RCod.dec cAct) (List.map (RCod.enc cAct) l))))))), hops := HMail.hops (Prod.fst (N.lFirst (List.map (RCod.dec cItem) (List.map (RCod.enc cItem) (N.acts [] (List.map (RCod.dec cAct) (List.map (RCod.enc cAct) l))))))) : HMail } { id := HMail.id (Prod.fst (N.lLate (List.map (RCod.dec cItem) (List.map (RCod.enc cItem) (N.acts [] (List.map (RCod.dec cAct) (List.map (RCod.enc cAct) l))))) t)), shop := HMail.shop (Prod.fst (N.lLate (List.map (RCod.dec cItem) (List.map (RCod.enc cItem) (N.acts [] (List.map (RCod.dec cAct) (List.map (RCod.enc cAct) l))))) t)), key := HMail.key (Prod.fst (N.lLate (List.map (RCod.dec cItem) (List.map (RCod.enc cItem) (N.acts [] (List.map (RCod.dec cAct) (List.map (RCod.enc cAct) l))))) t)), head := List.map (fun r => { key := V.toStr (List.getD r (0 : Nat) V.undef), kind := V.toInt (List.getD r (1 : Nat) V.undef), num := V.toInt (List.getD r (2 : Nat) V.undef), text := V.toStr (List.getD r (3 : Nat) V.undef) : HPair }) (List.map (fun p => [V.str (HPair.key p), V.int IntKind.u8 (HPair.kind p), V.int IntKind.i64 (HPair.num p), V.str (HPair.text p)]) (HMail.head (Prod.fst (N.lLate (List.map (RCod.dec cItem) (List.map (RCod.enc cItem) (N.acts [] (List.map (RCod.dec cAct) (List.map (RCod.enc cAct) l))))) t)))), body := HMail.body (Prod.fst (N.lLate (List.map (RCod.dec cItem) (List.map (RCod.enc cItem) (N.acts [] (List.map (RCod.dec cAct) (List.map (RCod.enc cAct) l))))) t)), due := HMail.due (Prod.fst (N.lLate (List.map (RCod.dec cItem) (List.map (RCod.enc cItem) (N.acts [] (List.map (RCod.dec cAct) (List.map (RCod.enc cAct) l))))) t)), hops := HMail.hops (Prod.fst (N.lLate (List.map (RCod.dec cItem) (List.map (RCod.enc cItem) (N.acts [] (List.map (RCod.dec cAct) (List.map (RCod.enc cAct) l))))) t)) : HMail } (Prod.snd (N.lFirst (List.map (RCod.dec cItem) (List.map (RCod.enc cItem) (N.acts [] (List.map (RCod.dec cAct) (List.map (RCod.enc cAct) l))))))) (Prod.snd (N.lLate (List.map (RCod.dec cItem) (List.map (RCod.enc cItem) (N.acts [] (List.map (RCod.dec cAct) (List.map (RCod.enc cAct) l))))) t)) (List.map (RCod.dec cItem) (List.map (RCod.enc cItem) (List.map (RCod.dec cItem) (List.map (RCod.enc cItem) (N.acts [] (List.map (RCod.dec cAct) (List.map (RCod.enc cAct) l))))))) false false)) == Prod.snd (N.lLate (List.map (RCod.dec cItem) (List.map (RCod.enc cItem) (N.acts [] (List.map (RCod.dec cAct) (List.map (RCod.enc cAct) l))))) t)) (cond (Nat.ble (List.length (List.map (RCod.dec cItem) (List.map (RCod.enc cItem) (N.acts [] (List.map (RCod.dec cAct) (List.map (RCod.enc cAct) l)))))) (1000 : Nat)) (some { v := V.bool (ilt (0 : Int) (N.lReady (List.map (RCod.dec cItem) (List.map (RCod.enc cItem) (N.acts [] (List.map (RCod.dec cAct) (List.map (RCod.enc cAct) l)))))) == Prod.snd (N.lFirst (List.map (RCod.dec cItem) (List.map (RCod.enc cItem) (N.acts [] (List.map (RCod.dec cAct) (List.map (RCod.enc cAct) l))))))), bx := [] : DRes }) (none)) (some { v := V.bool false, bx := [] : DRes })) (some { v := V.bool false, bx := [] : DRes })) (none)) (none)) (none)) (none)) (none)) (none)) (none)) (none)) (none)) (none))) (none) := by kernel_rfl
theorem q_lfR7 (t : Int) (r : List (List V)) (n i : Int) (x : List (List V)) (K : Ex → St → Option R) : evRound eLf 4 7 { fr := [(1, .int .u64 t), (5, .ptr 10000 0 0 0), (21, .slc [.int .u8, .int .u64, .str, .str, .slc [.str, .int .u8, .int .i64, .str], .str, .int .u64, .int .u8] r), (22, .int .i64 n), (23, .int .i64 i)], tab := [(10000, .var [.slc [.int .u64, .str, .str, .slc [.str, .int .u8, .int .i64, .str], .str, .int .u64, .int .u8, .bool, .bool] x])] } K =
 cond (ilt i n) (cond (decide ((0 : Int) ≤ i ∧ i < (↑(List.length r) : Int))) (cond (bif smallL (List.map (RCod.dec cItem) x) then smallM { id := V.toInt (List.getD (List.getD r (Int.toNat i) []) (1 : Nat) V.undef), shop := V.toStr (List.getD (List.getD r (Int.toNat i) []) (2 : Nat) V.undef), key := V.toStr (List.getD (List.getD r (Int.toNat i) []) (3 : Nat) V.undef), head := List.map (fun r => { key := V.toStr (List.getD r (0 : Nat) V.undef), kind := V.toInt (List.getD r (1 : Nat) V.undef), num := V.toInt (List.getD r (2 : Nat) V.undef), text := V.toStr (List.getD r (3 : Nat) V.undef) : HPair }) (V.toRows (List.getD (List.getD r (Int.toNat i) []) (4 : Nat) V.undef)), body := V.toStr (List.getD (List.getD r (Int.toNat i) []) (5 : Nat) V.undef), due := V.toInt (List.getD (List.getD r (Int.toNat i) []) (6 : Nat) V.undef), hops := V.toInt (List.getD (List.getD r (Int.toNat i) []) (7 : Nat) V.undef) : HMail } else false) (K Ex.normal { fr := [((1 : Nat), V.int IntKind.u64 t), ((5 : Nat), V.ptr (10000 : Nat) (0 : Nat) (0 : Nat) (0 : Nat)), ((21 : Nat), V.slc [Sh.int IntKind.u8, Sh.int IntKind.u64, Sh.str, Sh.str, Sh.slc [Sh.str, Sh.int IntKind.u8, Sh.int IntKind.i64, Sh.str], Sh.str, Sh.int IntKind.u64, Sh.int IntKind.u8] r), ((22 : Nat), V.int IntKind.i64 n), ((23 : Nat), V.int IntKind.i64 (IntKind.wrap IntKind.i64 (i + (1 : Int))))], tab := [((10000 : Nat), Box.var [V.slc [Sh.int IntKind.u64, Sh.str, Sh.str, Sh.slc [Sh.str, Sh.int IntKind.u8, Sh.int IntKind.i64, Sh.str], Sh.str, Sh.int IntKind.u64, Sh.int IntKind.u8, Sh.bool, Sh.bool] (List.map (RCod.enc cItem) (Prod.fst (N.done18 (List.map (RCod.dec cItem) x) (List.map (RCod.dec cItem) []) { op := V.toInt (List.getD (List.getD r (Int.toNat i) []) (0 : Nat) V.undef), mail := { id := V.toInt (List.getD (List.getD r (Int.toNat i) []) (1 : Nat) V.undef), shop := V.toStr (List.getD (List.getD r (Int.toNat i) []) (2 : Nat) V.undef), key := V.toStr (List.getD (List.getD r (Int.toNat i) []) (3 : Nat) V.undef), head := List.map (fun r => { key := V.toStr (List.getD r (0 : Nat) V.undef), kind := V.toInt (List.getD r (1 : Nat) V.undef), num := V.toInt (List.getD r (2 : Nat) V.undef), text := V.toStr (List.getD r (3 : Nat) V.undef) : HPair }) (V.toRows (List.getD (List.getD r (Int.toNat i) []) (4 : Nat) V.undef)), body := V.toStr (List.getD (List.getD r (Int.toNat i) []) (5 : Nat) V.undef), due := V.toInt (List.getD (List.getD r (Int.toNat i) []) (6 : Nat) V.undef), hops := V.toInt (List.getD (List.getD r (Int.toNat i) []) (7 : Nat) V.undef) : HMail } : HAct })))])] : St }) (none)) (none)) (K (Ex.exit (0 : Nat)) { fr := [((1 : Nat), V.int IntKind.u64 t), ((5 : Nat), V.ptr (10000 : Nat) (0 : Nat) (0 : Nat) (0 : Nat))], tab := [((10000 : Nat), Box.var [V.slc [Sh.int IntKind.u64, Sh.str, Sh.str, Sh.slc [Sh.str, Sh.int IntKind.u8, Sh.int IntKind.i64, Sh.str], Sh.str, Sh.int IntKind.u64, Sh.int IntKind.u8, Sh.bool, Sh.bool] x])] : St }) := by kernel_rfl
theorem q_lfR15 (t : Int) (ok late s o : Bool) (r : List (List V)) (n i : Int) (x : List (List V)) (f0 : Int) (f1 f2 : Bytes) (f3 : List (List V)) (f4 : Bytes) (f5 f6 : Int) (n0 : Int) (n1 n2 : Bytes) (n3 : List (List V)) (n4 : Bytes) (n5 n6 : Int) (K : Ex → St → Option R) : evRound eLf 4 15 { fr := [(1, .int .u64 t), (5, .ptr 10000 0 0 0), (8, .ptr 10001 0 0 0), (9, .bool ok), (10, .ptr 10002 0 0 0), (11, .bool late), (12, .bool s), (13, .bool o), (47, .slc [.int .u64, .str, .str, .slc [.str, .int .u8, .int .i64, .str], .str, .int .u64, .int .u8, .bool, .bool] r), (48, .int .i64 n), (49, .int .i64 i)], tab := [(10000, .var [.slc [.int .u64, .str, .str, .slc [.str, .int .u8, .int .i64, .str], .str, .int .u64, .int .u8, .bool, .bool] x]), (10001, .var [.int .u64 f0, .str f1, .str f2, .slc [.str, .int .u8, .int .i64, .str] f3, .str f4, .int .u64 f5, .int .u8 f6]), (10002, .var [.int .u64 n0, .str n1, .str n2, .slc [.str, .int .u8, .int .i64, .str] n3, .str n4, .int .u64 n5, .int .u8 n6])] } K =
 cond (ilt i n) (cond (decide ((0 : Int) ≤ i ∧ i < (↑(List.length r) : Int))) (cond (V.toBool (List.getD (List.getD r (Int.toNat i) []) (7 : Nat) V.undef)) (K Ex.normal { fr := [((1 : Nat), V.int IntKind.u64 t), ((5 : Nat), V.ptr (10000 : Nat) (0 : Nat) (0 : Nat) (0 : Nat)), ((8 : Nat), V.ptr (10001 : Nat) (0 : Nat) (0 : Nat) (0 : Nat)), ((9 : Nat), V.bool ok), ((10 : Nat), V.ptr (10002 : Nat) (0 : Nat) (0 : Nat) (0 : Nat)), ((11 : Nat), V.bool late), ((12 : Nat), V.bool s), ((13 : Nat), V.bool o), ((47 : Nat), V.slc [Sh.int IntKind.u64, Sh.str, Sh.str, Sh.slc [Sh.str, Sh.int IntKind.u8, Sh.int IntKind.i64, Sh.str], Sh.str, Sh.int IntKind.u64, Sh.int IntKind.u8, Sh.bool, Sh.bool] r), ((48 : Nat), V.int IntKind.i64 n), ((49 : Nat), V.int IntKind.i64 (IntKind.wrap IntKind.i64 (i + (1 : Int))))], tab := [((10000 : Nat), Box.var [V.slc [Sh.int IntKind.u64, Sh.str, Sh.str, Sh.slc [Sh.str, Sh.int IntKind.u8, Sh.int IntKind.i64, Sh.str], Sh.str, Sh.int IntKind.u64, Sh.int IntKind.u8, Sh.bool, Sh.bool] x]), ((10001 : Nat), Box.var [V.int IntKind.u64 f0, V.str f1, V.str f2, V.slc [Sh.str, Sh.int IntKind.u8, Sh.int IntKind.i64, Sh.str] f3, V.str f4, V.int IntKind.u64 f5, V.int IntKind.u8 f6]), ((10002 : Nat), Box.var [V.int IntKind.u64 n0, V.str n1, V.str n2, V.slc [Sh.str, Sh.int IntKind.u8, Sh.int IntKind.i64, Sh.str] n3, V.str n4, V.int IntKind.u64 n5, V.int IntKind.u8 n6])] : St }) (cond (!s) (cond (!ok) (K Ex.ret { fr := [((4 : Nat), V.bool false)], tab := [] : St }) (cond (smallM { id := V.toInt (List.getD (List.getD r (Int.toNat i) []) (0 : Nat) V.undef), shop := V.toStr (List.getD (List.getD r (Int.toNat i) []) (1 : Nat) V.undef), key := V.toStr (List.getD (List.getD r (Int.toNat i) []) (2 : Nat) V.undef), head := List.map (fun r => { key := V.toStr (List.getD r (0 : Nat) V.undef), kind := V.toInt (List.getD r (1 : Nat) V.undef), num := V.toInt (List.getD r (2 : Nat) V.undef), text := V.toStr (List.getD r (3 : Nat) V.undef) : HPair }) (V.toRows (List.getD (List.getD r (Int.toNat i) []) (3 : Nat) V.undef)), body := V.toStr (List.getD (List.getD r (Int.toNat i) []) (4 : Nat) V.undef), due := V.toInt (List.getD (List.getD r (Int.toNat i) []) (5 : Nat) V.undef), hops := V.toInt (List.getD (List.getD r (Int.toNat i) []) (6 : Nat) V.undef) : HMail }) (cond (!N.mailSame { id := V.toInt (List.getD (List.getD r (Int.toNat i) []) (0 : Nat) V.undef), shop := V.toStr (List.getD (List.getD r (Int.toNat i) []) (1 : Nat) V.undef), key := V.toStr (List.getD (List.getD r (Int.toNat i) []) (2 : Nat) V.undef), head := List.map (fun r => { key := V.toStr (List.getD r (0 : Nat) V.undef), kind := V.toInt (List.getD r (1 : Nat) V.undef), num := V.toInt (List.getD r (2 : Nat) V.undef), text := V.toStr (List.getD r (3 : Nat) V.undef) : HPair }) (V.toRows (List.getD (List.getD r (Int.toNat i) []) (3 : Nat) V.undef)), body := V.toStr (List.getD (List.getD r (Int.toNat i) []) (4 : Nat) V.undef), due := V.toInt (List.getD (List.getD r (Int.toNat i) []) (5 : Nat) V.undef), hops := V.toInt (List.getD (List.getD r (Int.toNat i) []) (6 : Nat) V.undef) : HMail } { id := f0, shop := f1, key := f2, head := List.map (fun r => { key := V.toStr (List.getD r (0 : Nat) V.undef), kind := V.toInt (List.getD r (1 : Nat) V.undef), num := V.toInt (List.getD r (2 : Nat) V.undef), text := V.toStr (List.getD r (3 : Nat) V.undef) : HPair }) f3, body := f4, due := f5, hops := f6 : HMail }) (K Ex.ret { fr := [((4 : Nat), V.bool false)], tab := [] : St }) (cond (ilt (0 : Int) (V.toInt (List.getD (List.getD r (Int.toNat i) []) (5 : Nat) V.undef))) (cond (ile (V.toInt (List.getD (List.getD r (Int.toNat i) []) (5 : Nat) V.undef)) t) (cond (!o) (cond (!late) (K Ex.ret { fr := [((4 : Nat), V.bool false)], tab := [] : St }) (cond (smallM { id := V.toInt (List.getD (List.getD r (Int.toNat i) []) (0 : Nat) V.undef), shop := V.toStr (List.getD (List.getD r (Int.toNat i) []) (1 : Nat) V.undef), key := V.toStr (List.getD (List.getD r (Int.toNat i) []) (2 : Nat) V.undef), head := List.map (fun r => { key := V.toStr (List.getD r (0 : Nat) V.undef), kind := V.toInt (List.getD r (1 : Nat) V.undef), num := V.toInt (List.getD r (2 : Nat) V.undef), text := V.toStr (List.getD r (3 : Nat) V.undef) : HPair }) (V.toRows (List.getD (List.getD r (Int.toNat i) []) (3 : Nat) V.undef)), body := V.toStr (List.getD (List.getD r (Int.toNat i) []) (4 : Nat) V.undef), due := V.toInt (List.getD (List.getD r (Int.toNat i) []) (5 : Nat) V.undef), hops := V.toInt (List.getD (List.getD r (Int.toNat i) []) (6 : Nat) V.undef) : HMail }) (cond (!N.mailSame { id := V.toInt (List.getD (List.getD r (Int.toNat i) []) (0 : Nat) V.undef), shop := V.toStr (List.getD (List.getD r (Int.toNat i) []) (1 : Nat) V.undef), key := V.toStr (List.getD (List.getD r (Int.toNat i) []) (2 : Nat) V.undef), head := List.map (fun r => { key := V.toStr (List.getD r (0 : Nat) V.undef), kind := V.toInt (List.getD r (1 : Nat) V.undef), num := V.toInt (List.getD r (2 : Nat) V.undef), text := V.toStr (List.getD r (3 : Nat) V.undef) : HPair }) (V.toRows (List.getD (List.getD r (Int.toNat i) []) (3 : Nat) V.undef)), body := V.toStr (List.getD (List.getD r (Int.toNat i) []) (4 : Nat) V.undef), due := V.toInt (List.getD (List.getD r (Int.toNat i) []) (5 : Nat) V.undef), hops := V.toInt (List.getD (List.getD r (Int.toNat i) []) (6 : Nat) V.undef) : HMail } { id := n0, shop := n1, key := n2, head := List.map (fun r => { key := V.toStr (List.getD r (0 : Nat) V.undef), kind := V.toInt (List.getD r (1 : Nat) V.undef), num := V.toInt (List.getD r (2 : Nat) V.undef), text := V.toStr (List.getD r (3 : Nat) V.undef) : HPair }) n3, body := n4, due := n5, hops := n6 : HMail }) (K Ex.ret { fr := [((4 : Nat), V.bool false)], tab := [] : St }) (K Ex.normal { fr := [((1 : Nat), V.int IntKind.u64 t), ((5 : Nat), V.ptr (10000 : Nat) (0 : Nat) (0 : Nat) (0 : Nat)), ((8 : Nat), V.ptr (10001 : Nat) (0 : Nat) (0 : Nat) (0 : Nat)), ((9 : Nat), V.bool ok), ((10 : Nat), V.ptr (10002 : Nat) (0 : Nat) (0 : Nat) (0 : Nat)), ((11 : Nat), V.bool late), ((12 : Nat), V.bool true), ((13 : Nat), V.bool true), ((47 : Nat), V.slc [Sh.int IntKind.u64, Sh.str, Sh.str, Sh.slc [Sh.str, Sh.int IntKind.u8, Sh.int IntKind.i64, Sh.str], Sh.str, Sh.int IntKind.u64, Sh.int IntKind.u8, Sh.bool, Sh.bool] r), ((48 : Nat), V.int IntKind.i64 n), ((49 : Nat), V.int IntKind.i64 (IntKind.wrap IntKind.i64 (i + (1 : Int))))], tab := [((10000 : Nat), Box.var [V.slc [Sh.int IntKind.u64, Sh.str, Sh.str, Sh.slc [Sh.str, Sh.int IntKind.u8, Sh.int IntKind.i64, Sh.str], Sh.str, Sh.int IntKind.u64, Sh.int IntKind.u8, Sh.bool, Sh.bool] x]), ((10001 : Nat), Box.var [V.int IntKind.u64 f0, V.str f1, V.str f2, V.slc [Sh.str, Sh.int IntKind.u8, Sh.int IntKind.i64, Sh.str] f3, V.str f4, V.int IntKind.u64 f5, V.int IntKind.u8 f6]), ((10002 : Nat), Box.var [V.int IntKind.u64 n0, V.str n1, V.str n2, V.slc [Sh.str, Sh.int IntKind.u8, Sh.int IntKind.i64, Sh.str] n3, V.str n4, V.int IntKind.u64 n5, V.int IntKind.u8 n6])] : St })) (none))) (K Ex.normal { fr := [((1 : Nat), V.int IntKind.u64 t), ((5 : Nat), V.ptr (10000 : Nat) (0 : Nat) (0 : Nat) (0 : Nat)), ((8 : Nat), V.ptr (10001 : Nat) (0 : Nat) (0 : Nat) (0 : Nat)), ((9 : Nat), V.bool ok), ((10 : Nat), V.ptr (10002 : Nat) (0 : Nat) (0 : Nat) (0 : Nat)), ((11 : Nat), V.bool late), ((12 : Nat), V.bool true), ((13 : Nat), V.bool o), ((47 : Nat), V.slc [Sh.int IntKind.u64, Sh.str, Sh.str, Sh.slc [Sh.str, Sh.int IntKind.u8, Sh.int IntKind.i64, Sh.str], Sh.str, Sh.int IntKind.u64, Sh.int IntKind.u8, Sh.bool, Sh.bool] r), ((48 : Nat), V.int IntKind.i64 n), ((49 : Nat), V.int IntKind.i64 (IntKind.wrap IntKind.i64 (i + (1 : Int))))], tab := [((10000 : Nat), Box.var [V.slc [Sh.int IntKind.u64, Sh.str, Sh.str, Sh.slc [Sh.str, Sh.int IntKind.u8, Sh.int IntKind.i64, Sh.str], Sh.str, Sh.int IntKind.u64, Sh.int IntKind.u8, Sh.bool, Sh.bool] x]), ((10001 : Nat), Box.var [V.int IntKind.u64 f0, V.str f1, V.str f2, V.slc [Sh.str, Sh.int IntKind.u8, Sh.int IntKind.i64, Sh.str] f3, V.str f4, V.int IntKind.u64 f5, V.int IntKind.u8 f6]), ((10002 : Nat), Box.var [V.int IntKind.u64 n0, V.str n1, V.str n2, V.slc [Sh.str, Sh.int IntKind.u8, Sh.int IntKind.i64, Sh.str] n3, V.str n4, V.int IntKind.u64 n5, V.int IntKind.u8 n6])] : St })) (K Ex.normal { fr := [((1 : Nat), V.int IntKind.u64 t), ((5 : Nat), V.ptr (10000 : Nat) (0 : Nat) (0 : Nat) (0 : Nat)), ((8 : Nat), V.ptr (10001 : Nat) (0 : Nat) (0 : Nat) (0 : Nat)), ((9 : Nat), V.bool ok), ((10 : Nat), V.ptr (10002 : Nat) (0 : Nat) (0 : Nat) (0 : Nat)), ((11 : Nat), V.bool late), ((12 : Nat), V.bool true), ((13 : Nat), V.bool o), ((47 : Nat), V.slc [Sh.int IntKind.u64, Sh.str, Sh.str, Sh.slc [Sh.str, Sh.int IntKind.u8, Sh.int IntKind.i64, Sh.str], Sh.str, Sh.int IntKind.u64, Sh.int IntKind.u8, Sh.bool, Sh.bool] r), ((48 : Nat), V.int IntKind.i64 n), ((49 : Nat), V.int IntKind.i64 (IntKind.wrap IntKind.i64 (i + (1 : Int))))], tab := [((10000 : Nat), Box.var [V.slc [Sh.int IntKind.u64, Sh.str, Sh.str, Sh.slc [Sh.str, Sh.int IntKind.u8, Sh.int IntKind.i64, Sh.str], Sh.str, Sh.int IntKind.u64, Sh.int IntKind.u8, Sh.bool, Sh.bool] x]), ((10001 : Nat), Box.var [V.int IntKind.u64 f0, V.str f1, V.str f2, V.slc [Sh.str, Sh.int IntKind.u8, Sh.int IntKind.i64, Sh.str] f3, V.str f4, V.int IntKind.u64 f5, V.int IntKind.u8 f6]), ((10002 : Nat), Box.var [V.int IntKind.u64 n0, V.str n1, V.str n2, V.slc [Sh.str, Sh.int IntKind.u8, Sh.int IntKind.i64, Sh.str] n3, V.str n4, V.int IntKind.u64 n5, V.int IntKind.u8 n6])] : St })) (K Ex.normal { fr := [((1 : Nat), V.int IntKind.u64 t), ((5 : Nat), V.ptr (10000 : Nat) (0 : Nat) (0 : Nat) (0 : Nat)), ((8 : Nat), V.ptr (10001 : Nat) (0 : Nat) (0 : Nat) (0 : Nat)), ((9 : Nat), V.bool ok), ((10 : Nat), V.ptr (10002 : Nat) (0 : Nat) (0 : Nat) (0 : Nat)), ((11 : Nat), V.bool late), ((12 : Nat), V.bool true), ((13 : Nat), V.bool o), ((47 : Nat), V.slc [Sh.int IntKind.u64, Sh.str, Sh.str, Sh.slc [Sh.str, Sh.int IntKind.u8, Sh.int IntKind.i64, Sh.str], Sh.str, Sh.int IntKind.u64, Sh.int IntKind.u8, Sh.bool, Sh.bool] r), ((48 : Nat), V.int IntKind.i64 n), ((49 : Nat), V.int IntKind.i64 (IntKind.wrap IntKind.i64 (i + (1 : Int))))], tab := [((10000 : Nat), Box.var [V.slc [Sh.int IntKind.u64, Sh.str, Sh.str, Sh.slc [Sh.str, Sh.int IntKind.u8, Sh.int IntKind.i64, Sh.str], Sh.str, Sh.int IntKind.u64, Sh.int IntKind.u8, Sh.bool, Sh.bool] x]), ((10001 : Nat), Box.var [V.int IntKind.u64 f0, V.str f1, V.str f2, V.slc [Sh.str, Sh.int IntKind.u8, Sh.int IntKind.i64, Sh.str] f3, V.str f4, V.int IntKind.u64 f5, V.int IntKind.u8 f6]), ((10002 : Nat), Box.var [V.int IntKind.u64 n0, V.str n1, V.str n2, V.slc [Sh.str, Sh.int IntKind.u8, Sh.int IntKind.i64, Sh.str] n3, V.str n4, V.int IntKind.u64 n5, V.int IntKind.u8 n6])] : St }))) (none))) (cond (ilt (0 : Int) (V.toInt (List.getD (List.getD r (Int.toNat i) []) (5 : Nat) V.undef))) (cond (ile (V.toInt (List.getD (List.getD r (Int.toNat i) []) (5 : Nat) V.undef)) t) (cond (!o) (cond (!late) (K Ex.ret { fr := [((4 : Nat), V.bool false)], tab := [] : St }) (cond (smallM { id := V.toInt (List.getD (List.getD r (Int.toNat i) []) (0 : Nat) V.undef), shop := V.toStr (List.getD (List.getD r (Int.toNat i) []) (1 : Nat) V.undef), key := V.toStr (List.getD (List.getD r (Int.toNat i) []) (2 : Nat) V.undef), head := List.map (fun r => { key := V.toStr (List.getD r (0 : Nat) V.undef), kind := V.toInt (List.getD r (1 : Nat) V.undef), num := V.toInt (List.getD r (2 : Nat) V.undef), text := V.toStr (List.getD r (3 : Nat) V.undef) : HPair }) (V.toRows (List.getD (List.getD r (Int.toNat i) []) (3 : Nat) V.undef)), body := V.toStr (List.getD (List.getD r (Int.toNat i) []) (4 : Nat) V.undef), due := V.toInt (List.getD (List.getD r (Int.toNat i) []) (5 : Nat) V.undef), hops := V.toInt (List.getD (List.getD r (Int.toNat i) []) (6 : Nat) V.undef) : HMail }) (cond (!N.mailSame { id := V.toInt (List.getD (List.getD r (Int.toNat i) []) (0 : Nat) V.undef), shop := V.toStr (List.getD (List.getD r (Int.toNat i) []) (1 : Nat) V.undef), key := V.toStr (List.getD (List.getD r (Int.toNat i) []) (2 : Nat) V.undef), head := List.map (fun r => { key := V.toStr (List.getD r (0 : Nat) V.undef), kind := V.toInt (List.getD r (1 : Nat) V.undef), num := V.toInt (List.getD r (2 : Nat) V.undef), text := V.toStr (List.getD r (3 : Nat) V.undef) : HPair }) (V.toRows (List.getD (List.getD r (Int.toNat i) []) (3 : Nat) V.undef)), body := V.toStr (List.getD (List.getD r (Int.toNat i) []) (4 : Nat) V.undef), due := V.toInt (List.getD (List.getD r (Int.toNat i) []) (5 : Nat) V.undef), hops := V.toInt (List.getD (List.getD r (Int.toNat i) []) (6 : Nat) V.undef) : HMail } { id := n0, shop := n1, key := n2, head := List.map (fun r => { key := V.toStr (List.getD r (0 : Nat) V.undef), kind := V.toInt (List.getD r (1 : Nat) V.undef), num := V.toInt (List.getD r (2 : Nat) V.undef), text := V.toStr (List.getD r (3 : Nat) V.undef) : HPair }) n3, body := n4, due := n5, hops := n6 : HMail }) (K Ex.ret { fr := [((4 : Nat), V.bool false)], tab := [] : St }) (K Ex.normal { fr := [((1 : Nat), V.int IntKind.u64 t), ((5 : Nat), V.ptr (10000 : Nat) (0 : Nat) (0 : Nat) (0 : Nat)), ((8 : Nat), V.ptr (10001 : Nat) (0 : Nat) (0 : Nat) (0 : Nat)), ((9 : Nat), V.bool ok), ((10 : Nat), V.ptr (10002 : Nat) (0 : Nat) (0 : Nat) (0 : Nat)), ((11 : Nat), V.bool late), ((12 : Nat), V.bool true), ((13 : Nat), V.bool true), ((47 : Nat), V.slc [Sh.int IntKind.u64, Sh.str, Sh.str, Sh.slc [Sh.str, Sh.int IntKind.u8, Sh.int IntKind.i64, Sh.str], Sh.str, Sh.int IntKind.u64, Sh.int IntKind.u8, Sh.bool, Sh.bool] r), ((48 : Nat), V.int IntKind.i64 n), ((49 : Nat), V.int IntKind.i64 (IntKind.wrap IntKind.i64 (i + (1 : Int))))], tab := [((10000 : Nat), Box.var [V.slc [Sh.int IntKind.u64, Sh.str, Sh.str, Sh.slc [Sh.str, Sh.int IntKind.u8, Sh.int IntKind.i64, Sh.str], Sh.str, Sh.int IntKind.u64, Sh.int IntKind.u8, Sh.bool, Sh.bool] x]), ((10001 : Nat), Box.var [V.int IntKind.u64 f0, V.str f1, V.str f2, V.slc [Sh.str, Sh.int IntKind.u8, Sh.int IntKind.i64, Sh.str] f3, V.str f4, V.int IntKind.u64 f5, V.int IntKind.u8 f6]), ((10002 : Nat), Box.var [V.int IntKind.u64 n0, V.str n1, V.str n2, V.slc [Sh.str, Sh.int IntKind.u8, Sh.int IntKind.i64, Sh.str] n3, V.str n4, V.int IntKind.u64 n5, V.int IntKind.u8 n6])] : St })) (none))) (K Ex.normal { fr := [((1 : Nat), V.int IntKind.u64 t), ((5 : Nat), V.ptr (10000 : Nat) (0 : Nat) (0 : Nat) (0 : Nat)), ((8 : Nat), V.ptr (10001 : Nat) (0 : Nat) (0 : Nat) (0 : Nat)), ((9 : Nat), V.bool ok), ((10 : Nat), V.ptr (10002 : Nat) (0 : Nat) (0 : Nat) (0 : Nat)), ((11 : Nat), V.bool late), ((12 : Nat), V.bool true), ((13 : Nat), V.bool o), ((47 : Nat), V.slc [Sh.int IntKind.u64, Sh.str, Sh.str, Sh.slc [Sh.str, Sh.int IntKind.u8, Sh.int IntKind.i64, Sh.str], Sh.str, Sh.int IntKind.u64, Sh.int IntKind.u8, Sh.bool, Sh.bool] r), ((48 : Nat), V.int IntKind.i64 n), ((49 : Nat), V.int IntKind.i64 (IntKind.wrap IntKind.i64 (i + (1 : Int))))], tab := [((10000 : Nat), Box.var [V.slc [Sh.int IntKind.u64, Sh.str, Sh.str, Sh.slc [Sh.str, Sh.int IntKind.u8, Sh.int IntKind.i64, Sh.str], Sh.str, Sh.int IntKind.u64, Sh.int IntKind.u8, Sh.bool, Sh.bool] x]), ((10001 : Nat), Box.var [V.int IntKind.u64 f0, V.str f1, V.str f2, V.slc [Sh.str, Sh.int IntKind.u8, Sh.int IntKind.i64, Sh.str] f3, V.str f4, V.int IntKind.u64 f5, V.int IntKind.u8 f6]), ((10002 : Nat), Box.var [V.int IntKind.u64 n0, V.str n1, V.str n2, V.slc [Sh.str, Sh.int IntKind.u8, Sh.int IntKind.i64, Sh.str] n3, V.str n4, V.int IntKind.u64 n5, V.int IntKind.u8 n6])] : St })) (K Ex.normal { fr := [((1 : Nat), V.int IntKind.u64 t), ((5 : Nat), V.ptr (10000 : Nat) (0 : Nat) (0 : Nat) (0 : Nat)), ((8 : Nat), V.ptr (10001 : Nat) (0 : Nat) (0 : Nat) (0 : Nat)), ((9 : Nat), V.bool ok), ((10 : Nat), V.ptr (10002 : Nat) (0 : Nat) (0 : Nat) (0 : Nat)), ((11 : Nat), V.bool late), ((12 : Nat), V.bool true), ((13 : Nat), V.bool o), ((47 : Nat), V.slc [Sh.int IntKind.u64, Sh.str, Sh.str, Sh.slc [Sh.str, Sh.int IntKind.u8, Sh.int IntKind.i64, Sh.str], Sh.str, Sh.int IntKind.u64, Sh.int IntKind.u8, Sh.bool, Sh.bool] r), ((48 : Nat), V.int IntKind.i64 n), ((49 : Nat), V.int IntKind.i64 (IntKind.wrap IntKind.i64 (i + (1 : Int))))], tab := [((10000 : Nat), Box.var [V.slc [Sh.int IntKind.u64, Sh.str, Sh.str, Sh.slc [Sh.str, Sh.int IntKind.u8, Sh.int IntKind.i64, Sh.str], Sh.str, Sh.int IntKind.u64, Sh.int IntKind.u8, Sh.bool, Sh.bool] x]), ((10001 : Nat), Box.var [V.int IntKind.u64 f0, V.str f1, V.str f2, V.slc [Sh.str, Sh.int IntKind.u8, Sh.int IntKind.i64, Sh.str] f3, V.str f4, V.int IntKind.u64 f5, V.int IntKind.u8 f6]), ((10002 : Nat), Box.var [V.int IntKind.u64 n0, V.str n1, V.str n2, V.slc [Sh.str, Sh.int IntKind.u8, Sh.int IntKind.i64, Sh.str] n3, V.str n4, V.int IntKind.u64 n5, V.int IntKind.u8 n6])] : St })) (K Ex.normal { fr := [((1 : Nat), V.int IntKind.u64 t), ((5 : Nat), V.ptr (10000 : Nat) (0 : Nat) (0 : Nat) (0 : Nat)), ((8 : Nat), V.ptr (10001 : Nat) (0 : Nat) (0 : Nat) (0 : Nat)), ((9 : Nat), V.bool ok), ((10 : Nat), V.ptr (10002 : Nat) (0 : Nat) (0 : Nat) (0 : Nat)), ((11 : Nat), V.bool late), ((12 : Nat), V.bool true), ((13 : Nat), V.bool o), ((47 : Nat), V.slc [Sh.int IntKind.u64, Sh.str, Sh.str, Sh.slc [Sh.str, Sh.int IntKind.u8, Sh.int IntKind.i64, Sh.str], Sh.str, Sh.int IntKind.u64, Sh.int IntKind.u8, Sh.bool, Sh.bool] r), ((48 : Nat), V.int IntKind.i64 n), ((49 : Nat), V.int IntKind.i64 (IntKind.wrap IntKind.i64 (i + (1 : Int))))], tab := [((10000 : Nat), Box.var [V.slc [Sh.int IntKind.u64, Sh.str, Sh.str, Sh.slc [Sh.str, Sh.int IntKind.u8, Sh.int IntKind.i64, Sh.str], Sh.str, Sh.int IntKind.u64, Sh.int IntKind.u8, Sh.bool, Sh.bool] x]), ((10001 : Nat), Box.var [V.int IntKind.u64 f0, V.str f1, V.str f2, V.slc [Sh.str, Sh.int IntKind.u8, Sh.int IntKind.i64, Sh.str] f3, V.str f4, V.int IntKind.u64 f5, V.int IntKind.u8 f6]), ((10002 : Nat), Box.var [V.int IntKind.u64 n0, V.str n1, V.str n2, V.slc [Sh.str, Sh.int IntKind.u8, Sh.int IntKind.i64, Sh.str] n3, V.str n4, V.int IntKind.u64 n5, V.int IntKind.u8 n6])] : St })))) (none)) (K (Ex.exit (2 : Nat)) { fr := [((5 : Nat), V.ptr (10000 : Nat) (0 : Nat) (0 : Nat) (0 : Nat)), ((9 : Nat), V.bool ok), ((11 : Nat), V.bool late), ((12 : Nat), V.bool s), ((13 : Nat), V.bool o)], tab := [((10000 : Nat), Box.var [V.slc [Sh.int IntKind.u64, Sh.str, Sh.str, Sh.slc [Sh.str, Sh.int IntKind.u8, Sh.int IntKind.i64, Sh.str], Sh.str, Sh.int IntKind.u64, Sh.int IntKind.u8, Sh.bool, Sh.bool] x])] : St }) := by kernel_rfl
theorem ok_lf_7 : RoundsOk eLf 4 7 := by
  refine rounds_of rfl fun l K q h => ?_
  unfold gLf7 at h
  split at h
  · rename_i t r n i a
    have h1 := (cond_none h).1; replace h := (cond_none h).2; have h2 := (cond_none h).1; replace h := (cond_none h).2; have h3 := (cond_none h).1; replace h := (cond_none h).2; have h4 := (cond_none h).1; replace h := (cond_none h).2; have h5 := (cond_none h).1; replace h := (cond_none h).2
    have e1 := ieq_of h1
    have e2 := ieq_of h2
    have e3 := List.eq_nil_of_length_eq_zero (nbeq_of h3)
    subst e1 e2 e3
    have h4 : r.length ≤ 100 := ble_of h4
    have main := range_ind (E := eLf) (f := 4) (id := 7) (A := List HItem) r (fun l i => { fr := [(1, .int .u64 t), (5, .ptr 10000 0 0 0), (21, .slc [.int .u8, .int .u64, .str, .str, .slc [.str, .int .u8, .int .i64, .str], .str, .int .u64, .int .u8] r), (22, .int .i64 r.length), (23, .int .i64 i)], tab := [(10000, .var [.slc [.int .u64, .str, .str, .slc [.str, .int .u8, .int .i64, .str], .str, .int .u64, .int .u8, .bool, .bool] (l.map cItem.enc)])] }) (fun l _ => LInv l)
      (fun l rows K => K (.exit 0) { fr := [(1, .int .u64 t), (5, .ptr 10000 0 0 0)], tab := [(10000, .var [.slc [.int .u64, .str, .str, .slc [.str, .int .u8, .int .i64, .str], .str, .int .u64, .int .u8, .bool, .bool] ((N.acts l (rows.map cAct.dec)).map cItem.enc)])] }) (fun l i hx hi => ?_) (fun l _ => ?_) [] 0 (Int.le_refl _) (by omega) linv0 K q (by assumption)
    · exact main
    · have hs : smallM (cAct.dec (r.getD i [])).mail = true := all_rowA h5 hi
      have hn : N.acts l ((r.getD i [] :: r.drop (i + 1)).map cAct.dec) = N.acts (N.act l (cAct.dec (r.getD i []))) ((r.drop (i + 1)).map cAct.dec) := rfl
      refine .inl ⟨N.act l (cAct.dec (r.getD i [])), act_linv hx hs, fun K => ?_, fun K => by rw [hn]⟩
      rw [q_lfR7]
      simp (disch := omega) only [evs, Int.toNat_natCast, fold_act, fold_actM, dec_encs, hx.smallL, hs, List.length_nil, done_act]
      rfl
    · refine ⟨.exit 0, _, by simp, fun K => ?_, fun K => rfl⟩
      rw [q_lfR7]
      simp (disch := omega) only [evs]
      rfl
  · cases h
theorem ok_lf_15 : RoundsOk eLf 4 15 := by
  refine rounds_of rfl fun l K q h => ?_
  unfold gLf15 at h
  split at h
  · rename_i t ok late s o r n i x f0 f1 f2 f3 f4 f5 f6 n0 n1 n2 n3 n4 n5 n6
    have h1 := (cond_none h).1; replace h := (cond_none h).2; have h2 := (cond_none h).1; replace h := (cond_none h).2; have h3 := (cond_none h).1; replace h := (cond_none h).2; have h4 := (cond_none h).1; replace h := (cond_none h).2; have h5 := (cond_none h).1; replace h := (cond_none h).2
    have e1 := ieq_of h1
    have e2 := ieq_of h2
    subst e1 e2
    have h3 : r.length ≤ 1000 := ble_of h3
    have main := range_ind (E := eLf) (f := 4) (id := 15) (A := Bool × Bool) r (fun a i => { fr := [(1, .int .u64 t), (5, .ptr 10000 0 0 0), (8, .ptr 10001 0 0 0), (9, .bool ok), (10, .ptr 10002 0 0 0), (11, .bool late), (12, .bool a.1), (13, .bool a.2), (47, .slc [.int .u64, .str, .str, .slc [.str, .int .u8, .int .i64, .str], .str, .int .u64, .int .u8, .bool, .bool] r), (48, .int .i64 r.length), (49, .int .i64 i)], tab := [(10000, .var [.slc [.int .u64, .str, .str, .slc [.str, .int .u8, .int .i64, .str], .str, .int .u64, .int .u8, .bool, .bool] x]), (10001, .var [.int .u64 f0, .str f1, .str f2, .slc [.str, .int .u8, .int .i64, .str] f3, .str f4, .int .u64 f5, .int .u8 f6]), (10002, .var [.int .u64 n0, .str n1, .str n2, .slc [.str, .int .u8, .int .i64, .str] n3, .str n4, .int .u64 n5, .int .u8 n6])] }) (fun a i => (N.fOk t (⟨f0, f1, f2, f3.map (fun r => ({ key := V.toStr (List.getD r 0 .undef), kind := V.toInt (List.getD r 1 .undef), num := V.toInt (List.getD r 2 .undef), text := V.toStr (List.getD r 3 .undef) } : HPair)), f4, f5, f6⟩ : HMail) (⟨n0, n1, n2, n3.map (fun r => ({ key := V.toStr (List.getD r 0 .undef), kind := V.toInt (List.getD r 1 .undef), num := V.toInt (List.getD r 2 .undef), text := V.toStr (List.getD r 3 .undef) } : HPair)), n4, n5, n6⟩ : HMail) ok late ((r.drop i).map cItem.dec) a.1 a.2).1 = true)
      (fun a rows K => K (.exit 2) { fr := [(5, .ptr 10000 0 0 0), (9, .bool ok), (11, .bool late), (12, .bool (N.fOk t (⟨f0, f1, f2, f3.map (fun r => ({ key := V.toStr (List.getD r 0 .undef), kind := V.toInt (List.getD r 1 .undef), num := V.toInt (List.getD r 2 .undef), text := V.toStr (List.getD r 3 .undef) } : HPair)), f4, f5, f6⟩ : HMail) (⟨n0, n1, n2, n3.map (fun r => ({ key := V.toStr (List.getD r 0 .undef), kind := V.toInt (List.getD r 1 .undef), num := V.toInt (List.getD r 2 .undef), text := V.toStr (List.getD r 3 .undef) } : HPair)), n4, n5, n6⟩ : HMail) ok late (rows.map cItem.dec) a.1 a.2).2.1), (13, .bool (N.fOk t (⟨f0, f1, f2, f3.map (fun r => ({ key := V.toStr (List.getD r 0 .undef), kind := V.toInt (List.getD r 1 .undef), num := V.toInt (List.getD r 2 .undef), text := V.toStr (List.getD r 3 .undef) } : HPair)), f4, f5, f6⟩ : HMail) (⟨n0, n1, n2, n3.map (fun r => ({ key := V.toStr (List.getD r 0 .undef), kind := V.toInt (List.getD r 1 .undef), num := V.toInt (List.getD r 2 .undef), text := V.toStr (List.getD r 3 .undef) } : HPair)), n4, n5, n6⟩ : HMail) ok late (rows.map cItem.dec) a.1 a.2).2.2)], tab := [(10000, .var [.slc [.int .u64, .str, .str, .slc [.str, .int .u8, .int .i64, .str], .str, .int .u64, .int .u8, .bool, .bool] x])] }) (fun a i ha hi => ?_) (fun a ha => ?_) (s, o) 0 (Int.le_refl _) (by omega) (by exact h5) K q (by assumption)
    · exact main
    · obtain ⟨s, o⟩ := a
      have hm : cMail.dec (r.getD i []) = (cItem.dec (r.getD i [])).mail := rfl
      have hl : V.toBool (List.getD (List.getD r i []) 7 V.undef) = (cItem.dec (r.getD i [])).lent := rfl
      have hdue : V.toInt (List.getD (List.getD r i []) 5 V.undef) = (cItem.dec (r.getD i [])).mail.due := rfl
      have hsm : smallM (cItem.dec (r.getD i [])).mail = true := List.all_eq_true.1 h4 _ (List.mem_map_of_mem (by rw [List.getD_eq_getElem?_getD, List.getElem?_eq_getElem hi]; exact List.getElem_mem hi))
      simp only [drop_decI hi, N.fOk] at ha
      simp only [List.map_cons, N.fOk]
      have hq : ∀ K, _ = _ := fun K => q_lfR15 t ok late s o r r.length i x f0 f1 f2 f3 f4 f5 f6 n0 n1 n2 n3 n4 n5 n6 K
      simp only [Int.toNat_natCast, fold_mail, hm] at hq
      simp only [hl, hdue, hsm, cond_true] at hq
      generalize cItem.dec (r.getD i []) = y at *
      have t1 : ilt (i : Int) r.length = true := ilt_t (by omega)
      have t2 : decide ((0 : Int) ≤ i ∧ (i : Int) < r.length) = true := decide_eq_true (by omega)
      have t3 : IntKind.wrap .i64 ((i : Int) + 1) = (i : Int) + 1 := wr_i64 (by omega) (by omega)
      simp only [t1, t2, t3, cond_true] at hq
      cases hL : y.lent with
      | true =>
        rw [hL] at ha hq
        exact .inl ⟨(s, o), ha, hq, fun K => rfl⟩
      | false =>
        rw [hL] at ha hq
        simp only [cond_false] at ha hq ⊢
        generalize N.mailSame y.mail ⟨f0, f1, f2, f3.map (fun r => ({ key := V.toStr (List.getD r 0 .undef), kind := V.toInt (List.getD r 1 .undef), num := V.toInt (List.getD r 2 .undef), text := V.toStr (List.getD r 3 .undef) } : HPair)), f4, f5, f6⟩ = mf at *
        cases hc : cond s false (cond ok (!mf) true) with
        | true => rw [hc] at ha; cases ha
        | false =>
          rw [hc, cond_false] at ha
          simp only [cond_false]
          generalize ilt 0 y.mail.due = g1 at *
          generalize ile y.mail.due t = g2 at *
          generalize N.mailSame y.mail ⟨n0, n1, n2, n3.map (fun r => ({ key := V.toStr (List.getD r 0 .undef), kind := V.toInt (List.getD r 1 .undef), num := V.toInt (List.getD r 2 .undef), text := V.toStr (List.getD r 3 .undef) } : HPair)), n4, n5, n6⟩ = mn at *
          cases hd : cond g1 (cond g2 (!o) false) false with
          | false =>
            rw [hd] at ha
            refine .inl ⟨(true, o), ha, fun K => ?_, fun K => rfl⟩
            rw [hq]
            cases s <;> cases ok <;> cases mf <;> cases g1 <;> cases g2 <;> cases o <;> first | rfl | exact absurd hc (by decide) | exact absurd hd (by decide)
          | true =>
            rw [hd] at ha
            cases he : cond late (!mn) true with
            | true => rw [he] at ha; cases ha
            | false =>
              rw [he] at ha
              refine .inl ⟨(true, true), ha, fun K => ?_, fun K => rfl⟩
              rw [hq]
              cases s <;> cases ok <;> cases mf <;> cases g1 <;> cases g2 <;> cases o <;> cases late <;> cases mn <;> first | rfl | exact absurd hc (by decide) | exact absurd hd (by decide) | exact absurd he (by decide)
    · refine ⟨.exit 2, _, by simp, fun K => ?_, fun K => rfl⟩
      rw [q_lfR15]
      simp (disch := omega) only [evs]
      rfl
  · cases h
theorem ok_lawLF (hN : FnOk Tryz.prog 158 dOutNum) : FnOk Tryz.prog 4 (den (aCons (vSl cAct) (aOne (vInt .u64))) bNil (oV vBool) (fun a _ => cond (Nat.ble a.1.length 9223372036854775807) (a.1.all fun a => N.fineM a.mail) false) fun _ _ => (true, ())) := by
  refine den_okF (env_ok (((((((((TOk.nil _).cons ok_lReadyN).cons ok_refMailSame).cons ok_lAll).cons ok_lLate).cons ok_lFirst).cons ok_done18).cons ok_light18).cons (ok_aw18 hN))) (E := eLf) Tryz.func4 [7, 15] (by kernel_rfl) (two2 ok_lf_7 ok_lf_15) fun a b hp => ?_
  obtain ⟨l, t⟩ := a
  obtain ⟨hp, hw⟩ := bcond hp
  have hp : Nat.ble l.length 9223372036854775807 = true := hp
  have hw : (l.all fun a => N.fineM a.mail) = true := hw
  refine (q_lf l t).trans ?_
  show _ = some (⟨.bool true, [], []⟩ : DRes)
  simp only [dec_encs, List.length_map, hp, cond_true]
  cases hl : N.lightActs l with
  | false => rfl
  | true =>
    by_cases h100 : l.length ≤ 100
    · have hs := acts_small hl
      have hX : LInv (N.acts [] l) := acts_linv l [] linv0 hs
      have hD : allM N.fineM (N.acts [] l) = true := acts_all l [] rfl hw
      have hf := fOk_true (t := t) hD (N.acts [] l) [] rfl
      have hf : N.fOk t (N.lFirst (N.acts [] l)).1 (N.lLate (N.acts [] l) t).1 (N.lFirst (N.acts [] l)).2 (N.lLate (N.acts [] l) t).2 (N.acts [] l) false false = (true, (N.acts [] l).any N.isReady, (N.acts [] l).any (N.isLate t)) := hf
      generalize N.acts [] l = X at *
      have b1 : Nat.ble X.length 1000 = true := ble_t (Nat.le_trans hX.few (by decide))
      have r1 : (N.lFirst X).2 = X.any N.isReady := told_some
      have r2 : (N.lLate X t).2 = X.any (N.isLate t) := told_some
      have r3 := ready_pos X
      rw [r1, r2] at hf
      simp only [fold_de, dec_encs]
      simp (disch := omega) only [evs, hs, hX.smallL, hX.small, hf, b1, beq_self_eq_true, Bool.not_false, Bool.not_true, r1, r2, r3]
    · simp (disch := omega) only [evs, Bool.not_false]
end Go.Ev

/- The library's text builder in this program, and the function that writes a number's bytes with it: lemmas, no condition but the text's length. -/
namespace Go.Ev
open Go Go.Proofs Go.RowKit Go.Shelf

theorem bSize : (Tryz.prog.info? 216).map (·.size) = some 2 := by kernel_rfl
theorem bLies : liesAt Tryz.prog Tryz.prog.depth 216 (2 / Tryz.prog.cellsOf 216) 0 216 1 = true := by kernel_rfl
theorem bByte : (Tryz.prog.info? 5).map (fun i => (i.zero, i.size, i.bytes)) = some (some (.int .u8 0), 1, 1) := by kernel_rfl

set_option maxHeartbeats 1000000 in
set_option maxRecDepth 100000 in
theorem cc_used (b : Nat) (w : World) (h0 : w.cell? ⟨b, 0, none⟩ = some (.pointer (some ⟨b, 0, none⟩))) :
    Calls Tryz.prog 175 #[.pointer (some ⟨b, 0, none⟩)] w fun e w' => e = .returned (.tuple #[]) ∧ w' = w := by
  obtain ⟨j, hj, _⟩ := Option.map_eq_some_iff.1 bSize
  go_enter Tryz.func175, Tryz.ntmps175
  go_wp2
  rw [Lib.run_neq_ptr_same w _ Tryz.underlying213 hj]
  go_wp2
  go_end0
  exact ⟨rfl, rfl⟩
set_option maxHeartbeats 1000000 in
set_option maxRecDepth 100000 in
theorem cc_fresh (b : Nat) (w : World) (h0 : w.cell? ⟨b, 0, none⟩ = some (.pointer none)) (hsh : w.shape? b = some (216, 2)) (hfz : w.frozen? ⟨b, 0, none⟩ = false) :
    Calls Tryz.prog 175 #[.pointer (some ⟨b, 0, none⟩)] w fun e w' => e = .returned (.tuple #[]) ∧ w' = w.setCell ⟨b, 0, none⟩ (.pointer (some ⟨b, 0, none⟩)) := by
  obtain ⟨j, hj, hjs⟩ := Option.map_eq_some_iff.1 bSize
  go_enter Tryz.func175, Tryz.ntmps175
  go_wp2
  rw [Lib.run_to_unsafe w ⟨b, 0, none⟩ Tryz.underlying213 Tryz.underlying224 hj (by rw [hjs]; decide) hsh (Nat.zero_lt_succ 1)]
  simp only [Result.andThen]
  rw [Oper.upon_value]
  go_wp2
  rw [run_callFunc_extern Tryz.func180 (by kernel_rfl) (by kernel_rfl) (by kernel_rfl) (e := Extern.AbiNoEscape.same) (by kernel_rfl)]
  rw [Lib.run_noEscape]
  simp only [Result.andThen]
  rw [Oper.upon_value]
  go_wp2
  rw [Lib.run_from_unsafe w ⟨b, 0, none⟩ Tryz.underlying224 Tryz.underlying213 hj hsh bLies]
  simp only [Result.andThen]
  rw [Oper.upon_value]
  go_wp2
  go_end0
  exact ⟨rfl, rfl⟩
theorem cc (B b : Nat) (bs : List Value) (w : World) (h : Lib.IsBuilder 216 5 B b bs w) :
    Calls Tryz.prog 175 #[.pointer (some ⟨b, 0, none⟩)] w fun e w' => e = .returned (.tuple #[]) ∧ (Lib.BuilderAt 216 5 B b (.pointer (some ⟨b, 0, none⟩)) bs w' ∧ Below B w w') := by
  rcases h with h | h
  · refine (cc_fresh b w h.cell0 h.shape h.frozen0).mono ?_
    rintro e w' ⟨rfl, rfl⟩
    exact ⟨rfl, h.used _, (Below.refl B w).setCell (p := ⟨b, 0, none⟩) h.1 _⟩
  · refine (cc_used b w h.cell0).mono ?_
    rintro e w' ⟨rfl, rfl⟩
    exact ⟨rfl, h, Below.refl B _⟩
set_option maxHeartbeats 2000000 in
set_option maxRecDepth 100000 in
theorem writeByte (B b : Nat) (bs : List Value) (c : Int) (w : World) (h : Lib.IsBuilder 216 5 B b bs w) (hlen : bs.length + 1 ≤ 140737488355328) (hBw : B ≤ w.heap.size) :
    Calls Tryz.prog 171 #[.pointer (some ⟨b, 0, none⟩), .int .u8 c] w fun e w' => e = .returned .nilIface ∧ (Lib.BuilderAt 216 5 B b (.pointer (some ⟨b, 0, none⟩)) (bs ++ [.int .u8 c]) w' ∧ Below B w w') := by
  obtain ⟨i0, hi, hz0, hz1, hz2⟩ := info_parts bByte
  go_enter Tryz.func171, Tryz.ntmps171
  go_wp2_with (go_at_call 175; refine (cc B b bs _ h).mono ?_)
  rintro e w1 ⟨rfl, h1, hb1⟩
  obtain ⟨hB, v, hbk, hown, hne⟩ := h1
  have c0 : w1.cell? ⟨b, 0, none⟩ = some (.pointer (some ⟨b, 0, none⟩)) := by rw [Lib.cell_of_heap hbk]; rfl
  have c1 : w1.cell? ⟨b, 1, none⟩ = some v := by rw [Lib.cell_of_heap hbk]; rfl
  go_wp2_with (at_builtin; refine wpList_append_own _ rfl _ _ 214 rfl B 5 i0 (.int .u8 0) 1 1 Tryz.underlying214 hi hz0 hz1 hz2 rfl (by decide) _ _ _ rfl (hown.alloc _) ⟨w1.heap.size, 0, none⟩ 1 1 [.int .u8 c] rfl rfl ?c1 ?c2 ?c3 ?c4 ?c5 ?_)
  case c1 =>
    intro j u hj
    match j, hj with
    | 0, hj => simp at hj; subst hj; simp [Addr.add]
  case c2 => intro u hu; simp at hu; subst hu; rfl
  case c3 => unfold maxLen; omega
  case c4 => omega
  case c5 => have := hb1.size; simp; omega
  intro v' w2 hown' hgrow _
  have hlt : b < w1.heap.size := by
    rcases Nat.lt_or_ge b w1.heap.size with h' | h'
    · exact h'
    · simp [Array.getElem?_eq_none h'] at hbk
  have hb2 : w2.heap[b]? = some (.cells #[.pointer (some ⟨b, 0, none⟩), v] 216 (0, 0)) := by
    rw [hgrow.block b (by simp; omega) (fun e => hne e.symm), Lib.alloc_old w1 _ b hlt]
    exact hbk
  have d0 : w2.cell? ⟨b, 0, none⟩ = some (.pointer (some ⟨b, 0, none⟩)) := by rw [Lib.cell_of_heap hb2]; rfl
  have d1 : w2.cell? ⟨b, 1, none⟩ = some v := by rw [Lib.cell_of_heap hb2]; rfl
  have f1 : w2.frozen? ⟨b, 1, none⟩ = false := Lib.frozen_of_heap hb2 1
  obtain ⟨g, cap, rfl⟩ : ∃ g cap, v' = .slice (some ⟨g, 0, none⟩) (bs.length + 1) cap := by
    rcases hown'.2 with ⟨_, h0⟩ | ⟨g, cap, cur, hv, _⟩
    · omega
    · exact ⟨g, cap, hv⟩
  go_wp2
  go_ret
  refine ⟨rfl, ?_, ?_⟩
  · exact Lib.BuilderAt.put (T := 216) (e := 5) hB hb2 (bs' := bs ++ [.int .u8 c]) (by simpa using hown') (by decide)
  · exact ((hb1.alloc (by have := hb1.size; omega) _).grown hgrow (by have := hb1.size; simp; omega) (fun k hk => (hown.lt k hk).1)).setCell (p := ⟨b, 1, none⟩) hB _
/-! ### The text of a builder: the library's contract at this program -/
def lays169_ren : Go.Shelf.Ren := ⟨fun | 169 => 172 | n => n, fun | 70 => 213 | 9 => 9 | 0 => 0 | 72 => 216 | 37 => 214 | 127 => 221 | 3 => 3 | 5 => 5 | n => n, fun | n => n⟩
theorem lays169 : Go.Proofs.Lays.n169 Tryz.prog lays169_ren := {
  mixed := by kernel_rfl
  f169 := Tryz.func172.trans (congrArg some (by kernel_rfl))
  t0 := Tryz.underlying0
  a0 := Tryz.isAgg0
  z0 := Tryz.sizeOf0
  v0 := Tryz.zeroValue0
  t3 := Tryz.underlying3
  a3 := Tryz.isAgg3
  z3 := Tryz.sizeOf3
  v3 := Tryz.zeroValue3
  t9 := Tryz.underlying9
  a9 := Tryz.isAgg9
  z9 := Tryz.sizeOf9
  v9 := Tryz.zeroValue9
  t37 := Tryz.underlying214
  a37 := Tryz.isAgg214
  z37 := Tryz.sizeOf214
  v37 := Tryz.zeroValue214
  t70 := Tryz.underlying213
  a70 := Tryz.isAgg213
  z70 := Tryz.sizeOf213
  v70 := Tryz.zeroValue213
  t72 := Tryz.underlying216
  a72 := Tryz.isAgg216
  z72 := Tryz.sizeOf216
  v72 := Tryz.zeroValue216
  t127 := Tryz.underlying221
  a127 := Tryz.isAgg221
  z127 := Tryz.sizeOf221
  v127 := Tryz.zeroValue221 }
theorem extra169 : Builder.Extra Tryz.prog lays169_ren := {
  sizeBuilder := by kernel_rfl
  liesBuilder := by kernel_rfl
  t5 := Tryz.underlying5
  a5 := Tryz.isAgg5
  z5 := Tryz.sizeOf5
  v5 := Tryz.zeroValue5
  infoByte := by kernel_rfl
  cellsByte := by kernel_rfl
  sizeByte := by kernel_rfl
  neB5 := by decide }
theorem bString (B b : Nat) (l : List UInt8) (w : World) (h : Lib.IsBuilder 216 5 B b (Lib.byteCells l) w) (hBw : B ≤ w.heap.size) :
    Calls Tryz.prog 172 #[.pointer (some ⟨b, 0, none⟩)] w fun e w' => e = .returned (.string ⟨l.toArray⟩) ∧ Below B w w' := Any.Builder_String_any lays169 extra169 B b l w h hBw
end Go.Ev

/- The function that writes a number's bytes: its walk. -/
namespace Go.Ev
open Go Go.Proofs Go.RowKit Go.Shelf

theorem clamp_eq {bytes : Int} : min (max bytes 0) 8 = (N.clamp bytes : Int) ∧ N.clamp bytes ≤ 8 := by
  unfold N.clamp
  rw [ilt_eq, ilt_eq]
  by_cases h1 : 0 < bytes
  · by_cases h2 : 8 < bytes
    · simp [h1, h2]; omega
    · simp [h1, h2]; omega
  · simp [h1]; omega

theorem two_blocks {w wr : World} {o1 o2 : Obj} (h : Below (w.heap.size + 1 + 1) ((w.alloc o1).alloc o2) wr) : wr.heap[w.heap.size]? = some o1 ∧ wr.heap[w.heap.size + 1]? = some o2 := by
  have e : (w.alloc o1).heap.size = w.heap.size + 1 := by simp
  refine ⟨?_, ?_⟩
  · rw [h.block _ (by omega), Below.heap_alloc _ _ _ (by omega)]; exact Go.heap_alloc_new w o1
  · rw [h.block _ (by omega), ← e]; exact Go.heap_alloc_new _ o2

set_option maxHeartbeats 4000000 in
set_option maxRecDepth 1000000 in
theorem outNum_walk (s : ByteArray) (er n bytes : Int) (w : World) (hs : (s.size : Int) ≤ 9223372036854775799) :
    Calls Tryz.prog 158 #[.agg #[.string s, .int .i64 er], .int .u64 n, .int .i64 bytes] w fun e w' =>
      e = .returned (.agg #[.string ⟨(s.data.toList ++ N.numB n (N.clamp bytes)).toArray⟩, .int .i64 er]) ∧ Below w.heap.size w w' := by
  go_enter Tryz.func158, Tryz.ntmps158
  go_wp2
  go_loopw [8] (fun i wr => ∃ (k : Int) (acc : List UInt8), i = .int .i64 k ∧ Lib.IsBuilder 216 5 (w.heap.size + 1 + 1) (w.heap.size + 1 + 1) (Lib.byteCells acc) wr ∧
      Below (w.heap.size + 1 + 1) ((w.alloc (Obj.cells #[Value.string s, Value.int IntKind.i64 er] 201)).alloc (Obj.cells #[Value.string { data := #[] }, Value.int IntKind.i64 0] 201)) wr ∧
      -1 ≤ k ∧ acc ++ N.numB n (k + 1).toNat = N.numB n (N.clamp bytes) ∧ acc.length + (k + 1).toNat ≤ 8) (fun i _ => (intOf i + 1).toNat)
  case atStart =>
    obtain ⟨hcl, hc8⟩ := clamp_eq (bytes := bytes)
    have hf := Lib.fresh_isBuilder 216 5 ((w.alloc (Obj.cells #[Value.string s, Value.int IntKind.i64 er] 201)).alloc (Obj.cells #[Value.string { data := #[] }, Value.int IntKind.i64 0] 201))
    have e0 : ((w.alloc (Obj.cells #[Value.string s, Value.int IntKind.i64 er] 201)).alloc (Obj.cells #[Value.string { data := #[] }, Value.int IntKind.i64 0] 201)).heap.size = w.heap.size + 1 + 1 := by simp
    rw [e0] at hf
    refine ⟨(N.clamp bytes : Int) - 1, [], by rw [hcl], hf, (Below.refl _ _).alloc (by simp) _, by omega, ?_, ?_⟩
    · rw [show ((N.clamp bytes : Int) - 1 + 1).toNat = N.clamp bytes by omega]; rfl
    · simp only [List.length_nil]; omega
  case round =>
    obtain ⟨k, acc, rfl, hI, hB, hk, hacc, hal⟩ := hrel
    by_cases hk0 : 0 ≤ k
    · go_wp2_with (go_at_call 171; refine (writeByte (w.heap.size + 1 + 1) (w.heap.size + 1 + 1) _ _ _ hI (by rw [Lib.byteCells_length]; omega) (by have := hB.size; simp at this; omega)).mono ?_)
      rintro e w1 ⟨rfl, h1, b1⟩
      go_wp2
      go_roundw
      case rel =>
        have e1 : N.numB n (k + 1).toNat = UInt8.ofNat ((n / 2 ^ (8 * k.toNat)) % 256).toNat :: N.numB n k.toNat := by
          rw [show (k + 1).toNat = k.toNat + 1 by omega]; rfl
        have e2 : ((UInt8.ofNat ((n / 2 ^ (8 * k.toNat)) % 256).toNat).toNat : Int) = n / 2 ^ (8 * k).toNat % 256 := by
          rw [show (8 * k).toNat = 8 * k.toNat by omega]
          have h0 : 0 ≤ (n / 2 ^ (8 * k.toNat)) % 256 := Int.emod_nonneg _ (by decide)
          have h1 : (n / 2 ^ (8 * k.toNat)) % 256 < 256 := Int.emod_lt_of_pos _ (by decide)
          have h2 : (UInt8.ofNat ((n / 2 ^ (8 * k.toNat)) % 256).toNat).toNat = ((n / 2 ^ (8 * k.toNat)) % 256).toNat := UInt8.toNat_ofNat_of_lt' (by
            show ((n / 2 ^ (8 * k.toNat)) % 256).toNat < 256
            omega)
          rw [h2]; omega
        refine ⟨k - 1, acc ++ [UInt8.ofNat ((n / 2 ^ (8 * k.toNat)) % 256).toNat], rfl, ?_, hB.trans b1, by omega, ?_, ?_⟩
        · rw [Lib.byteCells_append]
          have e3 : Lib.byteCells [UInt8.ofNat ((n / 2 ^ (8 * k.toNat)) % 256).toNat] = [Value.int .u8 (n / 2 ^ (8 * k).toNat % 256)] := by
            rw [← e2]; rfl
          rw [e3]; exact Or.inr h1
        · rw [e1] at hacc
          rw [← hacc, show (k - 1 + 1).toNat = k.toNat by omega, List.append_assoc]; rfl
        · rw [List.length_append]; simp only [List.length_cons, List.length_nil]; omega
      case measure => simp [intOf]; omega
    · have hk1 : k = -1 := by omega
      subst hk1
      have hfin : N.numB n (N.clamp bytes) = acc := by rw [← hacc]; show acc ++ [] = acc; simp
      have hal : acc.length ≤ 8 := by omega
      clear hacc
      rw [hfin]
      obtain ⟨hb0, hb1⟩ := two_blocks hB
      have c0 : wr.cell? ⟨w.heap.size, 0, none⟩ = some (.string s) := by rw [Lib.cell_of_heap hb0]; rfl
      have c1 : wr.cell? ⟨w.heap.size, 1, none⟩ = some (.int .i64 er) := by rw [Lib.cell_of_heap hb0]; rfl
      have c2 : wr.cell? ⟨w.heap.size + 1, 0, none⟩ = some (.string ⟨#[]⟩) := by rw [Lib.cell_of_heap hb1]; rfl
      have c3 : wr.cell? ⟨w.heap.size + 1, 1, none⟩ = some (.int .i64 0) := by rw [Lib.cell_of_heap hb1]; rfl
      have f0 : wr.frozen? ⟨w.heap.size, 0, none⟩ = false := Lib.frozen_of_heap hb0 0
      have f1 : wr.frozen? ⟨w.heap.size, 1, none⟩ = false := Lib.frozen_of_heap hb0 1
      have f2 : wr.frozen? ⟨w.heap.size + 1, 0, none⟩ = false := Lib.frozen_of_heap hb1 0
      have f3 : wr.frozen? ⟨w.heap.size + 1, 1, none⟩ = false := Lib.frozen_of_heap hb1 1
      have hBw : w.heap.size + 1 + 1 ≤ wr.heap.size := by have := hB.size; simp at this; omega
      have hadd : ¬ 9223372036854775807 < s.size + acc.length := by omega
      have hadd2 : ¬ 9223372036854775807 < s.size + (⟨acc.toArray⟩ : ByteArray).size := by
        show ¬ 9223372036854775807 < s.size + acc.toArray.size
        rw [List.size_toArray]; exact hadd
      have hadd3 : ¬ (s.size + (⟨acc.toArray⟩ : ByteArray).size > 9223372036854775807) := hadd2
      have hadd4 : s.size + (⟨acc.toArray⟩ : ByteArray).size ≤ 9223372036854775807 := Nat.not_lt.1 hadd2
      have hadd5 : s.size + acc.length ≤ 9223372036854775807 := Nat.not_lt.1 hadd
      go_wp2
      go_region_with (go_at_call 172; refine (bString (w.heap.size + 1 + 1) (w.heap.size + 1 + 1) acc _ (by exact hI) (by exact hBw)).mono ?_; rintro e w2 ⟨rfl, b2⟩
                      have d0 : w2.cell? ⟨w.heap.size, 0, none⟩ = some (.string s) := by rw [b2.cell (by show w.heap.size < w.heap.size + 1 + 1; omega)]; exact c0
                      have d1 : w2.cell? ⟨w.heap.size, 1, none⟩ = some (.int .i64 er) := by rw [b2.cell (by show w.heap.size < w.heap.size + 1 + 1; omega)]; exact c1
                      have d2 : w2.cell? ⟨w.heap.size + 1, 0, none⟩ = some (.string ⟨#[]⟩) := by rw [b2.cell (by show w.heap.size + 1 < w.heap.size + 1 + 1; omega)]; exact c2
                      have d3 : w2.cell? ⟨w.heap.size + 1, 1, none⟩ = some (.int .i64 0) := by rw [b2.cell (by show w.heap.size + 1 < w.heap.size + 1 + 1; omega)]; exact c3
                      have e0 : w2.frozen? ⟨w.heap.size, 0, none⟩ = false := by rw [b2.frozen (by show w.heap.size < w.heap.size + 1 + 1; omega)]; exact f0
                      have e1 : w2.frozen? ⟨w.heap.size, 1, none⟩ = false := by rw [b2.frozen (by show w.heap.size < w.heap.size + 1 + 1; omega)]; exact f1
                      have e2 : w2.frozen? ⟨w.heap.size + 1, 0, none⟩ = false := by rw [b2.frozen (by show w.heap.size + 1 < w.heap.size + 1 + 1; omega)]; exact f2
                      have e3 : w2.frozen? ⟨w.heap.size + 1, 1, none⟩ = false := by rw [b2.frozen (by show w.heap.size + 1 < w.heap.size + 1 + 1; omega)]; exact f3)
      all_goals go_wp2
      all_goals
        refine ⟨rfl, .agg #[.string (s ++ ⟨acc.toArray⟩), .int .i64 er], ?_, ?_, ?_⟩
        · simp [results, Tryz.results158, go_sem, d2, d3]
        · rw [hfin, ← bytes_append]
        · have b0 : Below w.heap.size w wr := (((Below.refl _ w).alloc (Nat.le_refl _) _).alloc (by simp) _).trans (hB.mono (by omega))
          exact (((b0.drew.trans (b2.mono (by omega))).setCell (p := ⟨w.heap.size, 0, none⟩) (Nat.le_refl _) _).setCell (p := ⟨w.heap.size + 1, 0, none⟩) (Nat.le_succ _) _).setCell (p := ⟨w.heap.size + 1, 1, none⟩) (Nat.le_succ _) _

/-- What leaves the memory at hand as it is keeps it. -/
theorem keeps_below {w w' : World} (X : Nat → Nat → Prop) (h : Below w.heap.size w w') : Keeps X w w' :=
  ⟨h.os, h.tape, h.output, h.size, fun b hb => ObjOk.same (h.block b hb)⟩
theorem outNum_ok : FnOk Tryz.prog 158 dOutNum := by
  refine den_of fun a b hp => ?_
  obtain ⟨o, n, bytes⟩ := a
  intro x y hxy w J locs xs hlen hJ hx _ _ _
  have hxy : x = (aCons (vAgg cOut) (aCons (vInt .u64) (aOne (vInt .i64)))).enc (o, n, bytes) ∧ y = bNil.enc b := by simpa using hxy
  obtain ⟨rfl, rfl⟩ := hxy
  have hlen : locs = [] := List.eq_nil_of_length_eq_zero hlen
  subst hlen
  obtain ⟨hp1, hp⟩ := bcond hp
  obtain ⟨hp2, hp3⟩ := bcond hp
  have hp3 : o.s.length ≤ 9223372036854775799 := Nat.le_of_ble_eq_true hp3
  obtain ⟨x0, xs1, rfl, hx0, hx⟩ := hx.uncons
  obtain ⟨x1, xs2, rfl, hx1, hx⟩ := hx.uncons
  obtain ⟨x2, rfl, hx2⟩ := hx.one
  obtain ⟨cs, rfl, hc1, hc2⟩ := Rv.agg_inv (show Rv w J _ (.agg [.str o.s, .int .i64 o.err]) x0 from hx0)
  have hx1 := Rv.int_inv (show Rv w J _ (.int .u64 n) x1 from hx1)
  have hx2 := Rv.int_inv (show Rv w J _ (.int .i64 bytes) x2 from hx2)
  subst hx1 hx2
  match cs, hc1, hc2 with
  | [c0, c1], _, hc2 =>
    have h0 := Rv.str_inv (show Rv w J _ (.str o.s) c0 from hc2 0 (by simp))
    have h1 := Rv.int_inv (show Rv w J _ (.int .i64 o.err) c1 from hc2 1 (by simp))
    subst h0 h1
    refine .inl ⟨?_, ?_⟩
    · have hnm : ¬ (Tryz.f158).name = "runtime.NumGoroutine" := by
        intro e
        have : ((Tryz.f158).name == "runtime.NumGoroutine") = false := by kernel_rfl
        rw [e] at this; cases this
      obtain ⟨c, hc⟩ := Option.isSome_iff_exists.1 (show (Tryz.f158).body.isSome = true by kernel_rfl)
      simp [callFunc, Tryz.func158, hnm, hc]
    · refine (outNum_walk ⟨o.s.toArray⟩ o.err n bytes w (by rw [bytes_size]; omega)).mono fun e w' ⟨he, hb⟩ => ⟨_, he, J, ?_⟩
      refine ⟨keeps_below _ hb, fun _ _ h => h, fun b o' h => Nat.lt_of_lt_of_le (hJ b o' h) hb.size, fun _ _ h _ => h, rfl, (fun j cs cs' p hj => by cases hj), .inl ⟨rfl, ?_⟩⟩
      refine .agg [.str (N.outNum o n bytes).s, .int .i64 (N.outNum o n bytes).err] [.string ⟨(o.s ++ N.numB n (N.clamp bytes)).toArray⟩, .int .i64 o.err] rfl fun i hi => ?_
      match i, hi with
      | 0, _ => exact .dat (.str _)
      | 1, _ => exact .dat (.int _ _)
end Go.Ev
