/- The functions on lines that look for an item, and mark it: lemmas. -/
import Derived.Test.YtpdaepodhfdplaaGreatDoorGd
import Derived.Test.YtpdaepodhfdplaaGreatDoorGc
import Derived.Test.YtpdaepodhfdplaaGreatDoorProg
import Derived.KernelRfl
import Derived.Shelf.Strings.Builder1
import Derived.RegionTactic
import Derived.Deep.RegionWith
namespace Go.Ev
open Go Go.Proofs
set_option maxRecDepth 100000
-- FOLD

theorem drop_decI {r : List (List V)} {i : Nat} (h : i < r.length) : (r.drop i).map cItem.dec = cItem.dec (r.getD i []) :: (r.drop (i + 1)).map cItem.dec := by
  rw [drop_row h]; rfl
theorem ix_cons (p : HItem → Bool) (x : HItem) (r : List HItem) (i : Int) : N.ix p (x :: r) i = cond (p x) i (N.ix p r (i + 1)) := rfl
theorem ix_end {p : HItem → Bool} {l : List HItem} (h : ile 0 (N.ix p l 0) = false) : N.ix p l 0 = -1 := by
  rcases ix_spec p l 0 (Int.le_refl _) with ⟨h1, _⟩ | ⟨k, h1, _⟩
  · exact h1
  · rw [h1, ile_t (by omega)] at h; cases h
def schIxR : SSch := { fr := [(0, .slc [.int .u64, .str, .str, .slc [.str, .int .u8, .int .i64, .str], .str, .int .u64, .int .u8, .bool, .bool]), (1, .fn 109 [] [.ptr 0 0 0]), (7, .int .i64), (8, .int .i64)], tab := [(0, .var [.fn 57 [] []])] }
def gIxR : List Leaf → (Ex → St → Option R) → Option R
  | [.r r, .i n, .i i], K => cond (n == r.length) (cond (i == 0) (cond (Nat.ble r.length 1000) (cond (ile 0 (N.ix N.isReady (r.map cItem.dec) 0)) (K .ret { fr := [(4, .int .i64 (N.ix N.isReady (r.map cItem.dec) 0))], tab := [(0, .var [.fn 57 [] []])] }) (K (.exit 0) { fr := [], tab := [(0, .var [.fn 57 [] []])] })) none) none) none
  | _, _ => none
noncomputable def eIxR : Env := env Tryz.prog [(109, dReadyF 57)] [(2, loopF schIxR gIxR)] [(2, [(0, [0, 1, 7, 8]), (1, []), (1000, [4])])]
theorem q_IxR (l : List HItem) : evFn eIxR 108 ((aCons (vSl cItem) (aOne (vFn 109 0))).enc (l, ())) ((bFn0 57).enc ()) some =
 cond ((↑(List.length (List.map (RCod.enc cItem) l)) : Int) == (↑(List.length (List.map (RCod.enc cItem) l)) : Int)) (cond (Nat.ble (List.length (List.map (RCod.enc cItem) l)) (1000 : Nat)) (cond (ile (0 : Int) (N.ix N.isReady (List.map (RCod.dec cItem) (List.map (RCod.enc cItem) l)) (0 : Int))) (some { v := V.int IntKind.i64 (N.ix N.isReady (List.map (RCod.dec cItem) (List.map (RCod.enc cItem) l)) (0 : Int)), bx := [[V.fn 57 [] []]] : DRes }) (some { v := V.int IntKind.i64 (-1 : Int), bx := [[V.fn 57 [] []]] : DRes })) (none)) (none) := by kernel_rfl
theorem q_IxRR (r : List (List V)) (n i : Int) (K : Ex → St → Option R) : evRound eIxR 108 2 { fr := [(0, .slc [.int .u64, .str, .str, .slc [.str, .int .u8, .int .i64, .str], .str, .int .u64, .int .u8, .bool, .bool] r), (1, .fn 109 [] [.ptr 0 0 0 0]), (7, .int .i64 n), (8, .int .i64 i)], tab := [(0, .var [.fn 57 [] []])] } K =
 cond (ilt i n) (cond (decide ((0 : Int) ≤ i ∧ i < (↑(List.length r) : Int))) (cond (N.isReady { mail := { id := V.toInt (List.getD (List.getD r (Int.toNat i) []) (0 : Nat) V.undef), shop := V.toStr (List.getD (List.getD r (Int.toNat i) []) (1 : Nat) V.undef), key := V.toStr (List.getD (List.getD r (Int.toNat i) []) (2 : Nat) V.undef), head := List.map (fun r => { key := V.toStr (List.getD r (0 : Nat) V.undef), kind := V.toInt (List.getD r (1 : Nat) V.undef), num := V.toInt (List.getD r (2 : Nat) V.undef), text := V.toStr (List.getD r (3 : Nat) V.undef) : HPair }) (V.toRows (List.getD (List.getD r (Int.toNat i) []) (3 : Nat) V.undef)), body := V.toStr (List.getD (List.getD r (Int.toNat i) []) (4 : Nat) V.undef), due := V.toInt (List.getD (List.getD r (Int.toNat i) []) (5 : Nat) V.undef), hops := V.toInt (List.getD (List.getD r (Int.toNat i) []) (6 : Nat) V.undef) : HMail }, lent := V.toBool (List.getD (List.getD r (Int.toNat i) []) (7 : Nat) V.undef), again := V.toBool (List.getD (List.getD r (Int.toNat i) []) (8 : Nat) V.undef) : HItem }) (K Ex.ret { fr := [((4 : Nat), V.int IntKind.i64 i)], tab := [((0 : Nat), Box.var [V.fn 57 [] []])] : St }) (K Ex.normal { fr := [((0 : Nat), V.slc [Sh.int IntKind.u64, Sh.str, Sh.str, Sh.slc [Sh.str, Sh.int IntKind.u8, Sh.int IntKind.i64, Sh.str], Sh.str, Sh.int IntKind.u64, Sh.int IntKind.u8, Sh.bool, Sh.bool] r), ((1 : Nat), V.fn 109 [] [V.ptr (0 : Nat) (0 : Nat) (0 : Nat) (0 : Nat)]), ((7 : Nat), V.int IntKind.i64 n), ((8 : Nat), V.int IntKind.i64 (IntKind.wrap IntKind.i64 (i + (1 : Int))))], tab := [((0 : Nat), Box.var [V.fn 57 [] []])] : St })) (none)) (K (Ex.exit (0 : Nat)) { fr := [], tab := [((0 : Nat), Box.var [V.fn 57 [] []])] : St }) := by kernel_rfl
theorem ok_IxR : FnOk Tryz.prog 108 (dIxR 109 57) := by
  refine den_okF (env_ok ((TOk.nil _).cons ok_readyF)) (E := eIxR) Tryz.func108 [2] (by kernel_rfl) (one1 (rounds_of rfl fun l K q h => ?_)) fun a id hp => ?_
  · unfold gIxR at h
    split at h
    · rename_i r n i 
      have h1 := (cond_none h).1; replace h := (cond_none h).2; have h2 := (cond_none h).1; replace h := (cond_none h).2; have h3 := (cond_none h).1; replace h := (cond_none h).2
      have e1 := ieq_of h1
      have e2 := ieq_of h2
      subst e1 e2
      have h3 : r.length ≤ 1000 := ble_of h3
      have main := loop_ind (E := eIxR) (f := 108) (id := 2) (σ := Nat) (fun i => { fr := [(0, .slc [.int .u64, .str, .str, .slc [.str, .int .u8, .int .i64, .str], .str, .int .u64, .int .u8, .bool, .bool] r), (1, .fn 109 [] [.ptr 0 0 0 0]), (7, .int .i64 r.length), (8, .int .i64 (i : Int))], tab := [(0, .var [.fn 57 [] []])] }) (fun i => i ≤ r.length) (fun i => r.length - i)
        (fun i K => cond (ile 0 (N.ix N.isReady ((r.drop i).map cItem.dec) i)) (K .ret { fr := [(4, .int .i64 (N.ix N.isReady ((r.drop i).map cItem.dec) i))], tab := [(0, .var [.fn 57 [] []])] }) (K (.exit 0) { fr := [], tab := [(0, .var [.fn 57 [] []])] })) (fun i hi => ?_) 0 (Nat.zero_le _) K q (by assumption)
      · exact main
      · by_cases hl : i < r.length
        · rw [drop_decI hl, ix_cons]
          cases hc : N.isReady (cItem.dec (r.getD i [])) with
          | true =>
            refine .inr ⟨.ret, { fr := [(4, .int .i64 ((i : Int)))], tab := [(0, .var [.fn 57 [] []])] }, by simp, fun K => ?_, fun K => ?_⟩
            · rw [q_IxRR]
              simp (disch := omega) only [evs, Int.toNat_natCast, fold_item, hc]
            · simp only [cond_true]
              rw [ile_t (by omega)]; rfl
          | false =>
            refine .inl ⟨i + 1, hl, by omega, fun K => ?_, fun K => rfl⟩
            rw [q_IxRR]
            simp (disch := omega) only [evs, Int.toNat_natCast, fold_item, hc]
            rfl
        · refine .inr ⟨.exit 0, { fr := [], tab := [(0, .var [.fn 57 [] []])] }, by simp, fun K => ?_, fun K => ?_⟩
          · rw [q_IxRR]
            simp (disch := omega) only [evs]
          · rw [List.drop_eq_nil_of_le (by omega)]; rfl
    · cases h
  · obtain ⟨l, ⟨⟩⟩ := a
    have hp : Nat.ble l.length 1000 = true := hp
    refine (q_IxR l ).trans ?_
    simp only [List.length_map, dec_encs, hp, beq_self_eq_true, cond_true]
    show _ = some (⟨.int .i64 (N.ix N.isReady l 0), [[.fn 57 [] []]], []⟩ : DRes)
    cases hc : ile 0 (N.ix N.isReady l 0) with
    | true => rfl
    | false => rw [ix_end hc]; rfl
def schIxO : SSch := { fr := [(0, .slc [.int .u64, .str, .str, .slc [.str, .int .u8, .int .i64, .str], .str, .int .u64, .int .u8, .bool, .bool]), (1, .fn 139 [] [.ptr 0 0 0]), (7, .int .i64), (8, .int .i64)], tab := [(0, .var [.int .u64])] }
def gIxO : List Leaf → (Ex → St → Option R) → Option R
  | [.r r, .i n, .i i, .i id], K => cond (n == r.length) (cond (i == 0) (cond (Nat.ble r.length 1000) (cond (ile 0 (N.ix (N.isId id) (r.map cItem.dec) 0)) (K .ret { fr := [(4, .int .i64 (N.ix (N.isId id) (r.map cItem.dec) 0))], tab := [(0, .var [.int .u64 id])] }) (K (.exit 0) { fr := [], tab := [(0, .var [.int .u64 id])] })) none) none) none
  | _, _ => none
noncomputable def eIxO : Env := env Tryz.prog [(139, dOfF)] [(2, loopF schIxO gIxO)] [(2, [(0, [0, 1, 7, 8]), (1, []), (1000, [4])])]
theorem q_IxO (l : List HItem) (id : Int) : evFn eIxO 108 ((aCons (vSl cItem) (aOne (vFn 139 0))).enc (l, ())) ((bOne (rInt .u64)).enc id) some =
 cond ((↑(List.length (List.map (RCod.enc cItem) l)) : Int) == (↑(List.length (List.map (RCod.enc cItem) l)) : Int)) (cond (Nat.ble (List.length (List.map (RCod.enc cItem) l)) (1000 : Nat)) (cond (ile (0 : Int) (N.ix (N.isId id) (List.map (RCod.dec cItem) (List.map (RCod.enc cItem) l)) (0 : Int))) (some { v := V.int IntKind.i64 (N.ix (N.isId id) (List.map (RCod.dec cItem) (List.map (RCod.enc cItem) l)) (0 : Int)), bx := [[V.int IntKind.u64 id]] : DRes }) (some { v := V.int IntKind.i64 (-1 : Int), bx := [[V.int IntKind.u64 id]] : DRes })) (none)) (none) := by kernel_rfl
theorem q_IxOR (r : List (List V)) (n i : Int) (id : Int) (K : Ex → St → Option R) : evRound eIxO 108 2 { fr := [(0, .slc [.int .u64, .str, .str, .slc [.str, .int .u8, .int .i64, .str], .str, .int .u64, .int .u8, .bool, .bool] r), (1, .fn 139 [] [.ptr 0 0 0 0]), (7, .int .i64 n), (8, .int .i64 i)], tab := [(0, .var [.int .u64 id])] } K =
 cond (ilt i n) (cond (decide ((0 : Int) ≤ i ∧ i < (↑(List.length r) : Int))) (cond (N.isId id { mail := { id := V.toInt (List.getD (List.getD r (Int.toNat i) []) (0 : Nat) V.undef), shop := V.toStr (List.getD (List.getD r (Int.toNat i) []) (1 : Nat) V.undef), key := V.toStr (List.getD (List.getD r (Int.toNat i) []) (2 : Nat) V.undef), head := List.map (fun r => { key := V.toStr (List.getD r (0 : Nat) V.undef), kind := V.toInt (List.getD r (1 : Nat) V.undef), num := V.toInt (List.getD r (2 : Nat) V.undef), text := V.toStr (List.getD r (3 : Nat) V.undef) : HPair }) (V.toRows (List.getD (List.getD r (Int.toNat i) []) (3 : Nat) V.undef)), body := V.toStr (List.getD (List.getD r (Int.toNat i) []) (4 : Nat) V.undef), due := V.toInt (List.getD (List.getD r (Int.toNat i) []) (5 : Nat) V.undef), hops := V.toInt (List.getD (List.getD r (Int.toNat i) []) (6 : Nat) V.undef) : HMail }, lent := V.toBool (List.getD (List.getD r (Int.toNat i) []) (7 : Nat) V.undef), again := V.toBool (List.getD (List.getD r (Int.toNat i) []) (8 : Nat) V.undef) : HItem }) (K Ex.ret { fr := [((4 : Nat), V.int IntKind.i64 i)], tab := [((0 : Nat), Box.var [V.int IntKind.u64 id])] : St }) (K Ex.normal { fr := [((0 : Nat), V.slc [Sh.int IntKind.u64, Sh.str, Sh.str, Sh.slc [Sh.str, Sh.int IntKind.u8, Sh.int IntKind.i64, Sh.str], Sh.str, Sh.int IntKind.u64, Sh.int IntKind.u8, Sh.bool, Sh.bool] r), ((1 : Nat), V.fn 139 [] [V.ptr (0 : Nat) (0 : Nat) (0 : Nat) (0 : Nat)]), ((7 : Nat), V.int IntKind.i64 n), ((8 : Nat), V.int IntKind.i64 (IntKind.wrap IntKind.i64 (i + (1 : Int))))], tab := [((0 : Nat), Box.var [V.int IntKind.u64 id])] : St })) (none)) (K (Ex.exit (0 : Nat)) { fr := [], tab := [((0 : Nat), Box.var [V.int IntKind.u64 id])] : St }) := by kernel_rfl
theorem ok_IxO : FnOk Tryz.prog 108 (dIxO 139) := by
  refine den_okF (env_ok ((TOk.nil _).cons ok_ofF)) (E := eIxO) Tryz.func108 [2] (by kernel_rfl) (one1 (rounds_of rfl fun l K q h => ?_)) fun a id hp => ?_
  · unfold gIxO at h
    split at h
    · rename_i r n i id
      have h1 := (cond_none h).1; replace h := (cond_none h).2; have h2 := (cond_none h).1; replace h := (cond_none h).2; have h3 := (cond_none h).1; replace h := (cond_none h).2
      have e1 := ieq_of h1
      have e2 := ieq_of h2
      subst e1 e2
      have h3 : r.length ≤ 1000 := ble_of h3
      have main := loop_ind (E := eIxO) (f := 108) (id := 2) (σ := Nat) (fun i => { fr := [(0, .slc [.int .u64, .str, .str, .slc [.str, .int .u8, .int .i64, .str], .str, .int .u64, .int .u8, .bool, .bool] r), (1, .fn 139 [] [.ptr 0 0 0 0]), (7, .int .i64 r.length), (8, .int .i64 (i : Int))], tab := [(0, .var [.int .u64 id])] }) (fun i => i ≤ r.length) (fun i => r.length - i)
        (fun i K => cond (ile 0 (N.ix (N.isId id) ((r.drop i).map cItem.dec) i)) (K .ret { fr := [(4, .int .i64 (N.ix (N.isId id) ((r.drop i).map cItem.dec) i))], tab := [(0, .var [.int .u64 id])] }) (K (.exit 0) { fr := [], tab := [(0, .var [.int .u64 id])] })) (fun i hi => ?_) 0 (Nat.zero_le _) K q (by assumption)
      · exact main
      · by_cases hl : i < r.length
        · rw [drop_decI hl, ix_cons]
          cases hc : (N.isId id) (cItem.dec (r.getD i [])) with
          | true =>
            refine .inr ⟨.ret, { fr := [(4, .int .i64 ((i : Int)))], tab := [(0, .var [.int .u64 id])] }, by simp, fun K => ?_, fun K => ?_⟩
            · rw [q_IxOR]
              simp (disch := omega) only [evs, Int.toNat_natCast, fold_item, hc]
            · simp only [cond_true]
              rw [ile_t (by omega)]; rfl
          | false =>
            refine .inl ⟨i + 1, hl, by omega, fun K => ?_, fun K => rfl⟩
            rw [q_IxOR]
            simp (disch := omega) only [evs, Int.toNat_natCast, fold_item, hc]
            rfl
        · refine .inr ⟨.exit 0, { fr := [], tab := [(0, .var [.int .u64 id])] }, by simp, fun K => ?_, fun K => ?_⟩
          · rw [q_IxOR]
            simp (disch := omega) only [evs]
          · rw [List.drop_eq_nil_of_le (by omega)]; rfl
    · cases h
  · obtain ⟨l, ⟨⟩⟩ := a
    have hp : Nat.ble l.length 1000 = true := hp
    refine (q_IxO l id).trans ?_
    simp only [List.length_map, dec_encs, hp, beq_self_eq_true, cond_true]
    show _ = some (⟨.int .i64 (N.ix (N.isId id) l 0), [[.int .u64 id]], []⟩ : DRes)
    cases hc : ile 0 (N.ix (N.isId id) l 0) with
    | true => rfl
    | false => rw [ix_end hc]; rfl
noncomputable def eWithL : Env := env Tryz.prog [(113, dCloneIO), (67, dMarkI N.lendI)] [] []
theorem q_withL (l : List HItem) (k : Int) : evFn eWithL 65 ((aCons (vAgg cLine) (aCons (vInt .i64) (aOne (vFn0 67)))).enc (l, k, ())) ([]) some =
 cond (bif Nat.beq (List.length (List.map (RCod.dec cItem) (List.map (RCod.enc cItem) l))) (0 : Nat) then false else Nat.ble (List.length (List.map (RCod.dec cItem) (List.map (RCod.enc cItem) l))) (1000 : Nat)) (cond (decide ((0 : Int) ≤ k ∧ k < (↑(List.length (List.map (RCod.enc cItem) (List.map (RCod.dec cItem) (List.map (RCod.enc cItem) l)))) : Int))) (some { v := V.agg [V.slc [Sh.int IntKind.u64, Sh.str, Sh.str, Sh.slc [Sh.str, Sh.int IntKind.u8, Sh.int IntKind.i64, Sh.str], Sh.str, Sh.int IntKind.u64, Sh.int IntKind.u8, Sh.bool, Sh.bool] (List.set (List.map (RCod.enc cItem) (List.map (RCod.dec cItem) (List.map (RCod.enc cItem) l))) (Int.toNat k) [V.int IntKind.u64 (HMail.id (HItem.mail (N.lendI { mail := { id := V.toInt (List.getD (List.getD (List.map (RCod.enc cItem) (List.map (RCod.dec cItem) (List.map (RCod.enc cItem) l))) (Int.toNat k) []) (0 : Nat) V.undef), shop := V.toStr (List.getD (List.getD (List.map (RCod.enc cItem) (List.map (RCod.dec cItem) (List.map (RCod.enc cItem) l))) (Int.toNat k) []) (1 : Nat) V.undef), key := V.toStr (List.getD (List.getD (List.map (RCod.enc cItem) (List.map (RCod.dec cItem) (List.map (RCod.enc cItem) l))) (Int.toNat k) []) (2 : Nat) V.undef), head := List.map (fun r => { key := V.toStr (List.getD r (0 : Nat) V.undef), kind := V.toInt (List.getD r (1 : Nat) V.undef), num := V.toInt (List.getD r (2 : Nat) V.undef), text := V.toStr (List.getD r (3 : Nat) V.undef) : HPair }) (V.toRows (List.getD (List.getD (List.map (RCod.enc cItem) (List.map (RCod.dec cItem) (List.map (RCod.enc cItem) l))) (Int.toNat k) []) (3 : Nat) V.undef)), body := V.toStr (List.getD (List.getD (List.map (RCod.enc cItem) (List.map (RCod.dec cItem) (List.map (RCod.enc cItem) l))) (Int.toNat k) []) (4 : Nat) V.undef), due := V.toInt (List.getD (List.getD (List.map (RCod.enc cItem) (List.map (RCod.dec cItem) (List.map (RCod.enc cItem) l))) (Int.toNat k) []) (5 : Nat) V.undef), hops := V.toInt (List.getD (List.getD (List.map (RCod.enc cItem) (List.map (RCod.dec cItem) (List.map (RCod.enc cItem) l))) (Int.toNat k) []) (6 : Nat) V.undef) : HMail }, lent := V.toBool (List.getD (List.getD (List.map (RCod.enc cItem) (List.map (RCod.dec cItem) (List.map (RCod.enc cItem) l))) (Int.toNat k) []) (7 : Nat) V.undef), again := V.toBool (List.getD (List.getD (List.map (RCod.enc cItem) (List.map (RCod.dec cItem) (List.map (RCod.enc cItem) l))) (Int.toNat k) []) (8 : Nat) V.undef) : HItem }))), V.str (HMail.shop (HItem.mail (N.lendI { mail := { id := V.toInt (List.getD (List.getD (List.map (RCod.enc cItem) (List.map (RCod.dec cItem) (List.map (RCod.enc cItem) l))) (Int.toNat k) []) (0 : Nat) V.undef), shop := V.toStr (List.getD (List.getD (List.map (RCod.enc cItem) (List.map (RCod.dec cItem) (List.map (RCod.enc cItem) l))) (Int.toNat k) []) (1 : Nat) V.undef), key := V.toStr (List.getD (List.getD (List.map (RCod.enc cItem) (List.map (RCod.dec cItem) (List.map (RCod.enc cItem) l))) (Int.toNat k) []) (2 : Nat) V.undef), head := List.map (fun r => { key := V.toStr (List.getD r (0 : Nat) V.undef), kind := V.toInt (List.getD r (1 : Nat) V.undef), num := V.toInt (List.getD r (2 : Nat) V.undef), text := V.toStr (List.getD r (3 : Nat) V.undef) : HPair }) (V.toRows (List.getD (List.getD (List.map (RCod.enc cItem) (List.map (RCod.dec cItem) (List.map (RCod.enc cItem) l))) (Int.toNat k) []) (3 : Nat) V.undef)), body := V.toStr (List.getD (List.getD (List.map (RCod.enc cItem) (List.map (RCod.dec cItem) (List.map (RCod.enc cItem) l))) (Int.toNat k) []) (4 : Nat) V.undef), due := V.toInt (List.getD (List.getD (List.map (RCod.enc cItem) (List.map (RCod.dec cItem) (List.map (RCod.enc cItem) l))) (Int.toNat k) []) (5 : Nat) V.undef), hops := V.toInt (List.getD (List.getD (List.map (RCod.enc cItem) (List.map (RCod.dec cItem) (List.map (RCod.enc cItem) l))) (Int.toNat k) []) (6 : Nat) V.undef) : HMail }, lent := V.toBool (List.getD (List.getD (List.map (RCod.enc cItem) (List.map (RCod.dec cItem) (List.map (RCod.enc cItem) l))) (Int.toNat k) []) (7 : Nat) V.undef), again := V.toBool (List.getD (List.getD (List.map (RCod.enc cItem) (List.map (RCod.dec cItem) (List.map (RCod.enc cItem) l))) (Int.toNat k) []) (8 : Nat) V.undef) : HItem }))), V.str (HMail.key (HItem.mail (N.lendI { mail := { id := V.toInt (List.getD (List.getD (List.map (RCod.enc cItem) (List.map (RCod.dec cItem) (List.map (RCod.enc cItem) l))) (Int.toNat k) []) (0 : Nat) V.undef), shop := V.toStr (List.getD (List.getD (List.map (RCod.enc cItem) (List.map (RCod.dec cItem) (List.map (RCod.enc cItem) l))) (Int.toNat k) []) (1 : Nat) V.undef), key := V.toStr (List.getD (List.getD (List.map (RCod.enc cItem) (List.map (RCod.dec cItem) (List.map (RCod.enc cItem) l))) (Int.toNat k) []) (2 : Nat) V.undef), head := List.map (fun r => { key := V.toStr (List.getD r (0 : Nat) V.undef), kind := V.toInt (List.getD r (1 : Nat) V.undef), num := V.toInt (List.getD r (2 : Nat) V.undef), text := V.toStr (List.getD r (3 : Nat) V.undef) : HPair }) (V.toRows (List.getD (List.getD (List.map (RCod.enc cItem) (List.map (RCod.dec cItem) (List.map (RCod.enc cItem) l))) (Int.toNat k) []) (3 : Nat) V.undef)), body := V.toStr (List.getD (List.getD (List.map (RCod.enc cItem) (List.map (RCod.dec cItem) (List.map (RCod.enc cItem) l))) (Int.toNat k) []) (4 : Nat) V.undef), due := V.toInt (List.getD (List.getD (List.map (RCod.enc cItem) (List.map (RCod.dec cItem) (List.map (RCod.enc cItem) l))) (Int.toNat k) []) (5 : Nat) V.undef), hops := V.toInt (List.getD (List.getD (List.map (RCod.enc cItem) (List.map (RCod.dec cItem) (List.map (RCod.enc cItem) l))) (Int.toNat k) []) (6 : Nat) V.undef) : HMail }, lent := V.toBool (List.getD (List.getD (List.map (RCod.enc cItem) (List.map (RCod.dec cItem) (List.map (RCod.enc cItem) l))) (Int.toNat k) []) (7 : Nat) V.undef), again := V.toBool (List.getD (List.getD (List.map (RCod.enc cItem) (List.map (RCod.dec cItem) (List.map (RCod.enc cItem) l))) (Int.toNat k) []) (8 : Nat) V.undef) : HItem }))), V.slc [Sh.str, Sh.int IntKind.u8, Sh.int IntKind.i64, Sh.str] (List.map (fun p => [V.str (HPair.key p), V.int IntKind.u8 (HPair.kind p), V.int IntKind.i64 (HPair.num p), V.str (HPair.text p)]) (HMail.head (HItem.mail (N.lendI { mail := { id := V.toInt (List.getD (List.getD (List.map (RCod.enc cItem) (List.map (RCod.dec cItem) (List.map (RCod.enc cItem) l))) (Int.toNat k) []) (0 : Nat) V.undef), shop := V.toStr (List.getD (List.getD (List.map (RCod.enc cItem) (List.map (RCod.dec cItem) (List.map (RCod.enc cItem) l))) (Int.toNat k) []) (1 : Nat) V.undef), key := V.toStr (List.getD (List.getD (List.map (RCod.enc cItem) (List.map (RCod.dec cItem) (List.map (RCod.enc cItem) l))) (Int.toNat k) []) (2 : Nat) V.undef), head := List.map (fun r => { key := V.toStr (List.getD r (0 : Nat) V.undef), kind := V.toInt (List.getD r (1 : Nat) V.undef), num := V.toInt (List.getD r (2 : Nat) V.undef), text := V.toStr (List.getD r (3 : Nat) V.undef) : HPair }) (V.toRows (List.getD (List.getD (List.map (RCod.enc cItem) (List.map (RCod.dec cItem) (List.map (RCod.enc cItem) l))) (Int.toNat k) []) (3 : Nat) V.undef)), body := V.toStr (List.getD (List.getD (List.map (RCod.enc cItem) (List.map (RCod.dec cItem) (List.map (RCod.enc cItem) l))) (Int.toNat k) []) (4 : Nat) V.undef), due := V.toInt (List.getD (List.getD (List.map (RCod.enc cItem) (List.map (RCod.dec cItem) (List.map (RCod.enc cItem) l))) (Int.toNat k) []) (5 : Nat) V.undef), hops := V.toInt (List.getD (List.getD (List.map (RCod.enc cItem) (List.map (RCod.dec cItem) (List.map (RCod.enc cItem) l))) (Int.toNat k) []) (6 : Nat) V.undef) : HMail }, lent := V.toBool (List.getD (List.getD (List.map (RCod.enc cItem) (List.map (RCod.dec cItem) (List.map (RCod.enc cItem) l))) (Int.toNat k) []) (7 : Nat) V.undef), again := V.toBool (List.getD (List.getD (List.map (RCod.enc cItem) (List.map (RCod.dec cItem) (List.map (RCod.enc cItem) l))) (Int.toNat k) []) (8 : Nat) V.undef) : HItem })))), V.str (HMail.body (HItem.mail (N.lendI { mail := { id := V.toInt (List.getD (List.getD (List.map (RCod.enc cItem) (List.map (RCod.dec cItem) (List.map (RCod.enc cItem) l))) (Int.toNat k) []) (0 : Nat) V.undef), shop := V.toStr (List.getD (List.getD (List.map (RCod.enc cItem) (List.map (RCod.dec cItem) (List.map (RCod.enc cItem) l))) (Int.toNat k) []) (1 : Nat) V.undef), key := V.toStr (List.getD (List.getD (List.map (RCod.enc cItem) (List.map (RCod.dec cItem) (List.map (RCod.enc cItem) l))) (Int.toNat k) []) (2 : Nat) V.undef), head := List.map (fun r => { key := V.toStr (List.getD r (0 : Nat) V.undef), kind := V.toInt (List.getD r (1 : Nat) V.undef), num := V.toInt (List.getD r (2 : Nat) V.undef), text := V.toStr (List.getD r (3 : Nat) V.undef) : HPair }) (V.toRows (List.getD (List.getD (List.map (RCod.enc cItem) (List.map (RCod.dec cItem) (List.map (RCod.enc cItem) l))) (Int.toNat k) []) (3 : Nat) V.undef)), body := V.toStr (List.getD (List.getD (List.map (RCod.enc cItem) (List.map (RCod.dec cItem) (List.map (RCod.enc cItem) l))) (Int.toNat k) []) (4 : Nat) V.undef), due := V.toInt (List.getD (List.getD (List.map (RCod.enc cItem) (List.map (RCod.dec cItem) (List.map (RCod.enc cItem) l))) (Int.toNat k) []) (5 : Nat) V.undef), hops := V.toInt (List.getD (List.getD (List.map (RCod.enc cItem) (List.map (RCod.dec cItem) (List.map (RCod.enc cItem) l))) (Int.toNat k) []) (6 : Nat) V.undef) : HMail }, lent := V.toBool (List.getD (List.getD (List.map (RCod.enc cItem) (List.map (RCod.dec cItem) (List.map (RCod.enc cItem) l))) (Int.toNat k) []) (7 : Nat) V.undef), again := V.toBool (List.getD (List.getD (List.map (RCod.enc cItem) (List.map (RCod.dec cItem) (List.map (RCod.enc cItem) l))) (Int.toNat k) []) (8 : Nat) V.undef) : HItem }))), V.int IntKind.u64 (HMail.due (HItem.mail (N.lendI { mail := { id := V.toInt (List.getD (List.getD (List.map (RCod.enc cItem) (List.map (RCod.dec cItem) (List.map (RCod.enc cItem) l))) (Int.toNat k) []) (0 : Nat) V.undef), shop := V.toStr (List.getD (List.getD (List.map (RCod.enc cItem) (List.map (RCod.dec cItem) (List.map (RCod.enc cItem) l))) (Int.toNat k) []) (1 : Nat) V.undef), key := V.toStr (List.getD (List.getD (List.map (RCod.enc cItem) (List.map (RCod.dec cItem) (List.map (RCod.enc cItem) l))) (Int.toNat k) []) (2 : Nat) V.undef), head := List.map (fun r => { key := V.toStr (List.getD r (0 : Nat) V.undef), kind := V.toInt (List.getD r (1 : Nat) V.undef), num := V.toInt (List.getD r (2 : Nat) V.undef), text := V.toStr (List.getD r (3 : Nat) V.undef) : HPair }) (V.toRows (List.getD (List.getD (List.map (RCod.enc cItem) (List.map (RCod.dec cItem) (List.map (RCod.enc cItem) l))) (Int.toNat k) []) (3 : Nat) V.undef)), body := V.toStr (List.getD (List.getD (List.map (RCod.enc cItem) (List.map (RCod.dec cItem) (List.map (RCod.enc cItem) l))) (Int.toNat k) []) (4 : Nat) V.undef), due := V.toInt (List.getD (List.getD (List.map (RCod.enc cItem) (List.map (RCod.dec cItem) (List.map (RCod.enc cItem) l))) (Int.toNat k) []) (5 : Nat) V.undef), hops := V.toInt (List.getD (List.getD (List.map (RCod.enc cItem) (List.map (RCod.dec cItem) (List.map (RCod.enc cItem) l))) (Int.toNat k) []) (6 : Nat) V.undef) : HMail }, lent := V.toBool (List.getD (List.getD (List.map (RCod.enc cItem) (List.map (RCod.dec cItem) (List.map (RCod.enc cItem) l))) (Int.toNat k) []) (7 : Nat) V.undef), again := V.toBool (List.getD (List.getD (List.map (RCod.enc cItem) (List.map (RCod.dec cItem) (List.map (RCod.enc cItem) l))) (Int.toNat k) []) (8 : Nat) V.undef) : HItem }))), V.int IntKind.u8 (HMail.hops (HItem.mail (N.lendI { mail := { id := V.toInt (List.getD (List.getD (List.map (RCod.enc cItem) (List.map (RCod.dec cItem) (List.map (RCod.enc cItem) l))) (Int.toNat k) []) (0 : Nat) V.undef), shop := V.toStr (List.getD (List.getD (List.map (RCod.enc cItem) (List.map (RCod.dec cItem) (List.map (RCod.enc cItem) l))) (Int.toNat k) []) (1 : Nat) V.undef), key := V.toStr (List.getD (List.getD (List.map (RCod.enc cItem) (List.map (RCod.dec cItem) (List.map (RCod.enc cItem) l))) (Int.toNat k) []) (2 : Nat) V.undef), head := List.map (fun r => { key := V.toStr (List.getD r (0 : Nat) V.undef), kind := V.toInt (List.getD r (1 : Nat) V.undef), num := V.toInt (List.getD r (2 : Nat) V.undef), text := V.toStr (List.getD r (3 : Nat) V.undef) : HPair }) (V.toRows (List.getD (List.getD (List.map (RCod.enc cItem) (List.map (RCod.dec cItem) (List.map (RCod.enc cItem) l))) (Int.toNat k) []) (3 : Nat) V.undef)), body := V.toStr (List.getD (List.getD (List.map (RCod.enc cItem) (List.map (RCod.dec cItem) (List.map (RCod.enc cItem) l))) (Int.toNat k) []) (4 : Nat) V.undef), due := V.toInt (List.getD (List.getD (List.map (RCod.enc cItem) (List.map (RCod.dec cItem) (List.map (RCod.enc cItem) l))) (Int.toNat k) []) (5 : Nat) V.undef), hops := V.toInt (List.getD (List.getD (List.map (RCod.enc cItem) (List.map (RCod.dec cItem) (List.map (RCod.enc cItem) l))) (Int.toNat k) []) (6 : Nat) V.undef) : HMail }, lent := V.toBool (List.getD (List.getD (List.map (RCod.enc cItem) (List.map (RCod.dec cItem) (List.map (RCod.enc cItem) l))) (Int.toNat k) []) (7 : Nat) V.undef), again := V.toBool (List.getD (List.getD (List.map (RCod.enc cItem) (List.map (RCod.dec cItem) (List.map (RCod.enc cItem) l))) (Int.toNat k) []) (8 : Nat) V.undef) : HItem }))), V.bool (HItem.lent (N.lendI { mail := { id := V.toInt (List.getD (List.getD (List.map (RCod.enc cItem) (List.map (RCod.dec cItem) (List.map (RCod.enc cItem) l))) (Int.toNat k) []) (0 : Nat) V.undef), shop := V.toStr (List.getD (List.getD (List.map (RCod.enc cItem) (List.map (RCod.dec cItem) (List.map (RCod.enc cItem) l))) (Int.toNat k) []) (1 : Nat) V.undef), key := V.toStr (List.getD (List.getD (List.map (RCod.enc cItem) (List.map (RCod.dec cItem) (List.map (RCod.enc cItem) l))) (Int.toNat k) []) (2 : Nat) V.undef), head := List.map (fun r => { key := V.toStr (List.getD r (0 : Nat) V.undef), kind := V.toInt (List.getD r (1 : Nat) V.undef), num := V.toInt (List.getD r (2 : Nat) V.undef), text := V.toStr (List.getD r (3 : Nat) V.undef) : HPair }) (V.toRows (List.getD (List.getD (List.map (RCod.enc cItem) (List.map (RCod.dec cItem) (List.map (RCod.enc cItem) l))) (Int.toNat k) []) (3 : Nat) V.undef)), body := V.toStr (List.getD (List.getD (List.map (RCod.enc cItem) (List.map (RCod.dec cItem) (List.map (RCod.enc cItem) l))) (Int.toNat k) []) (4 : Nat) V.undef), due := V.toInt (List.getD (List.getD (List.map (RCod.enc cItem) (List.map (RCod.dec cItem) (List.map (RCod.enc cItem) l))) (Int.toNat k) []) (5 : Nat) V.undef), hops := V.toInt (List.getD (List.getD (List.map (RCod.enc cItem) (List.map (RCod.dec cItem) (List.map (RCod.enc cItem) l))) (Int.toNat k) []) (6 : Nat) V.undef) : HMail }, lent := V.toBool (List.getD (List.getD (List.map (RCod.enc cItem) (List.map (RCod.dec cItem) (List.map (RCod.enc cItem) l))) (Int.toNat k) []) (7 : Nat) V.undef), again := V.toBool (List.getD (List.getD (List.map (RCod.enc cItem) (List.map (RCod.dec cItem) (List.map (RCod.enc cItem) l))) (Int.toNat k) []) (8 : Nat) V.undef) : HItem })), V.bool (HItem.again (N.lendI { mail := { id := V.toInt (List.getD (List.getD (List.map (RCod.enc cItem) (List.map (RCod.dec cItem) (List.map (RCod.enc cItem) l))) (Int.toNat k) []) (0 : Nat) V.undef), shop := V.toStr (List.getD (List.getD (List.map (RCod.enc cItem) (List.map (RCod.dec cItem) (List.map (RCod.enc cItem) l))) (Int.toNat k) []) (1 : Nat) V.undef), key := V.toStr (List.getD (List.getD (List.map (RCod.enc cItem) (List.map (RCod.dec cItem) (List.map (RCod.enc cItem) l))) (Int.toNat k) []) (2 : Nat) V.undef), head := List.map (fun r => { key := V.toStr (List.getD r (0 : Nat) V.undef), kind := V.toInt (List.getD r (1 : Nat) V.undef), num := V.toInt (List.getD r (2 : Nat) V.undef), text := V.toStr (List.getD r (3 : Nat) V.undef) : HPair }) (V.toRows (List.getD (List.getD (List.map (RCod.enc cItem) (List.map (RCod.dec cItem) (List.map (RCod.enc cItem) l))) (Int.toNat k) []) (3 : Nat) V.undef)), body := V.toStr (List.getD (List.getD (List.map (RCod.enc cItem) (List.map (RCod.dec cItem) (List.map (RCod.enc cItem) l))) (Int.toNat k) []) (4 : Nat) V.undef), due := V.toInt (List.getD (List.getD (List.map (RCod.enc cItem) (List.map (RCod.dec cItem) (List.map (RCod.enc cItem) l))) (Int.toNat k) []) (5 : Nat) V.undef), hops := V.toInt (List.getD (List.getD (List.map (RCod.enc cItem) (List.map (RCod.dec cItem) (List.map (RCod.enc cItem) l))) (Int.toNat k) []) (6 : Nat) V.undef) : HMail }, lent := V.toBool (List.getD (List.getD (List.map (RCod.enc cItem) (List.map (RCod.dec cItem) (List.map (RCod.enc cItem) l))) (Int.toNat k) []) (7 : Nat) V.undef), again := V.toBool (List.getD (List.getD (List.map (RCod.enc cItem) (List.map (RCod.dec cItem) (List.map (RCod.enc cItem) l))) (Int.toNat k) []) (8 : Nat) V.undef) : HItem }))])], bx := [] : DRes }) (none)) (none) := by kernel_rfl
theorem ok_withL : FnOk Tryz.prog 65 (dWith 67 N.lendI) := by
  refine den_okF (env_ok (((TOk.nil _).cons ok_markL).cons ok_cloneIO)) (E := eWithL) Tryz.func65 [] (by kernel_rfl) none0 fun a _ h => ?_
  obtain ⟨l, k, ⟨⟩⟩ := a
  obtain ⟨h1, h2⟩ := bcond h
  obtain ⟨h2, h3⟩ := bcond h2
  have h1 : 0 ≤ k := ile_of h1
  have h2 : k < l.length := ilt_of h2
  have h3 : Nat.ble l.length 1000 = true := h3
  have hn : Nat.beq l.length 0 = false := by
    rw [Bool.eq_false_iff]
    intro e
    have := Nat.eq_of_beq_eq_true e
    omega
  refine (q_withL l k).trans ?_
  have hg := getD_enc cItem l k.toNat item0 (by omega)
  simp only [dec_encs, List.length_map, hn, h3, hg, fold_item, cItem.de, fold_itemE, ← List.map_set]
  simp (disch := omega) only [evs]
  rfl
noncomputable def eWithB : Env := env Tryz.prog [(113, dCloneIO), (102, dMarkI N.backI)] [] []
theorem q_withB (l : List HItem) (k : Int) : evFn eWithB 65 ((aCons (vAgg cLine) (aCons (vInt .i64) (aOne (vFn0 102)))).enc (l, k, ())) ([]) some =
 cond (bif Nat.beq (List.length (List.map (RCod.dec cItem) (List.map (RCod.enc cItem) l))) (0 : Nat) then false else Nat.ble (List.length (List.map (RCod.dec cItem) (List.map (RCod.enc cItem) l))) (1000 : Nat)) (cond (decide ((0 : Int) ≤ k ∧ k < (↑(List.length (List.map (RCod.enc cItem) (List.map (RCod.dec cItem) (List.map (RCod.enc cItem) l)))) : Int))) (some { v := V.agg [V.slc [Sh.int IntKind.u64, Sh.str, Sh.str, Sh.slc [Sh.str, Sh.int IntKind.u8, Sh.int IntKind.i64, Sh.str], Sh.str, Sh.int IntKind.u64, Sh.int IntKind.u8, Sh.bool, Sh.bool] (List.set (List.map (RCod.enc cItem) (List.map (RCod.dec cItem) (List.map (RCod.enc cItem) l))) (Int.toNat k) [V.int IntKind.u64 (HMail.id (HItem.mail (N.backI { mail := { id := V.toInt (List.getD (List.getD (List.map (RCod.enc cItem) (List.map (RCod.dec cItem) (List.map (RCod.enc cItem) l))) (Int.toNat k) []) (0 : Nat) V.undef), shop := V.toStr (List.getD (List.getD (List.map (RCod.enc cItem) (List.map (RCod.dec cItem) (List.map (RCod.enc cItem) l))) (Int.toNat k) []) (1 : Nat) V.undef), key := V.toStr (List.getD (List.getD (List.map (RCod.enc cItem) (List.map (RCod.dec cItem) (List.map (RCod.enc cItem) l))) (Int.toNat k) []) (2 : Nat) V.undef), head := List.map (fun r => { key := V.toStr (List.getD r (0 : Nat) V.undef), kind := V.toInt (List.getD r (1 : Nat) V.undef), num := V.toInt (List.getD r (2 : Nat) V.undef), text := V.toStr (List.getD r (3 : Nat) V.undef) : HPair }) (V.toRows (List.getD (List.getD (List.map (RCod.enc cItem) (List.map (RCod.dec cItem) (List.map (RCod.enc cItem) l))) (Int.toNat k) []) (3 : Nat) V.undef)), body := V.toStr (List.getD (List.getD (List.map (RCod.enc cItem) (List.map (RCod.dec cItem) (List.map (RCod.enc cItem) l))) (Int.toNat k) []) (4 : Nat) V.undef), due := V.toInt (List.getD (List.getD (List.map (RCod.enc cItem) (List.map (RCod.dec cItem) (List.map (RCod.enc cItem) l))) (Int.toNat k) []) (5 : Nat) V.undef), hops := V.toInt (List.getD (List.getD (List.map (RCod.enc cItem) (List.map (RCod.dec cItem) (List.map (RCod.enc cItem) l))) (Int.toNat k) []) (6 : Nat) V.undef) : HMail }, lent := V.toBool (List.getD (List.getD (List.map (RCod.enc cItem) (List.map (RCod.dec cItem) (List.map (RCod.enc cItem) l))) (Int.toNat k) []) (7 : Nat) V.undef), again := V.toBool (List.getD (List.getD (List.map (RCod.enc cItem) (List.map (RCod.dec cItem) (List.map (RCod.enc cItem) l))) (Int.toNat k) []) (8 : Nat) V.undef) : HItem }))), V.str (HMail.shop (HItem.mail (N.backI { mail := { id := V.toInt (List.getD (List.getD (List.map (RCod.enc cItem) (List.map (RCod.dec cItem) (List.map (RCod.enc cItem) l))) (Int.toNat k) []) (0 : Nat) V.undef), shop := V.toStr (List.getD (List.getD (List.map (RCod.enc cItem) (List.map (RCod.dec cItem) (List.map (RCod.enc cItem) l))) (Int.toNat k) []) (1 : Nat) V.undef), key := V.toStr (List.getD (List.getD (List.map (RCod.enc cItem) (List.map (RCod.dec cItem) (List.map (RCod.enc cItem) l))) (Int.toNat k) []) (2 : Nat) V.undef), head := List.map (fun r => { key := V.toStr (List.getD r (0 : Nat) V.undef), kind := V.toInt (List.getD r (1 : Nat) V.undef), num := V.toInt (List.getD r (2 : Nat) V.undef), text := V.toStr (List.getD r (3 : Nat) V.undef) : HPair }) (V.toRows (List.getD (List.getD (List.map (RCod.enc cItem) (List.map (RCod.dec cItem) (List.map (RCod.enc cItem) l))) (Int.toNat k) []) (3 : Nat) V.undef)), body := V.toStr (List.getD (List.getD (List.map (RCod.enc cItem) (List.map (RCod.dec cItem) (List.map (RCod.enc cItem) l))) (Int.toNat k) []) (4 : Nat) V.undef), due := V.toInt (List.getD (List.getD (List.map (RCod.enc cItem) (List.map (RCod.dec cItem) (List.map (RCod.enc cItem) l))) (Int.toNat k) []) (5 : Nat) V.undef), hops := V.toInt (List.getD (List.getD (List.map (RCod.enc cItem) (List.map (RCod.dec cItem) (List.map (RCod.enc cItem) l))) (Int.toNat k) []) (6 : Nat) V.undef) : HMail }, lent := V.toBool (List.getD (List.getD (List.map (RCod.enc cItem) (List.map (RCod.dec cItem) (List.map (RCod.enc cItem) l))) (Int.toNat k) []) (7 : Nat) V.undef), again := V.toBool (List.getD (List.getD (List.map (RCod.enc cItem) (List.map (RCod.dec cItem) (List.map (RCod.enc cItem) l))) (Int.toNat k) []) (8 : Nat) V.undef) : HItem }))), V.str (HMail.key (HItem.mail (N.backI { mail := { id := V.toInt (List.getD (List.getD (List.map (RCod.enc cItem) (List.map (RCod.dec cItem) (List.map (RCod.enc cItem) l))) (Int.toNat k) []) (0 : Nat) V.undef), shop := V.toStr (List.getD (List.getD (List.map (RCod.enc cItem) (List.map (RCod.dec cItem) (List.map (RCod.enc cItem) l))) (Int.toNat k) []) (1 : Nat) V.undef), key := V.toStr (List.getD (List.getD (List.map (RCod.enc cItem) (List.map (RCod.dec cItem) (List.map (RCod.enc cItem) l))) (Int.toNat k) []) (2 : Nat) V.undef), head := List.map (fun r => { key := V.toStr (List.getD r (0 : Nat) V.undef), kind := V.toInt (List.getD r (1 : Nat) V.undef), num := V.toInt (List.getD r (2 : Nat) V.undef), text := V.toStr (List.getD r (3 : Nat) V.undef) : HPair }) (V.toRows (List.getD (List.getD (List.map (RCod.enc cItem) (List.map (RCod.dec cItem) (List.map (RCod.enc cItem) l))) (Int.toNat k) []) (3 : Nat) V.undef)), body := V.toStr (List.getD (List.getD (List.map (RCod.enc cItem) (List.map (RCod.dec cItem) (List.map (RCod.enc cItem) l))) (Int.toNat k) []) (4 : Nat) V.undef), due := V.toInt (List.getD (List.getD (List.map (RCod.enc cItem) (List.map (RCod.dec cItem) (List.map (RCod.enc cItem) l))) (Int.toNat k) []) (5 : Nat) V.undef), hops := V.toInt (List.getD (List.getD (List.map (RCod.enc cItem) (List.map (RCod.dec cItem) (List.map (RCod.enc cItem) l))) (Int.toNat k) []) (6 : Nat) V.undef) : HMail }, lent := V.toBool (List.getD (List.getD (List.map (RCod.enc cItem) (List.map (RCod.dec cItem) (List.map (RCod.enc cItem) l))) (Int.toNat k) []) (7 : Nat) V.undef), again := V.toBool (List.getD (List.getD (List.map (RCod.enc cItem) (List.map (RCod.dec cItem) (List.map (RCod.enc cItem) l))) (Int.toNat k) []) (8 : Nat) V.undef) : HItem }))), V.slc [Sh.str, Sh.int IntKind.u8, Sh.int IntKind.i64, Sh.str] (List.map (fun p => [V.str (HPair.key p), V.int IntKind.u8 (HPair.kind p), V.int IntKind.i64 (HPair.num p), V.str (HPair.text p)]) (HMail.head (HItem.mail (N.backI { mail := { id := V.toInt (List.getD (List.getD (List.map (RCod.enc cItem) (List.map (RCod.dec cItem) (List.map (RCod.enc cItem) l))) (Int.toNat k) []) (0 : Nat) V.undef), shop := V.toStr (List.getD (List.getD (List.map (RCod.enc cItem) (List.map (RCod.dec cItem) (List.map (RCod.enc cItem) l))) (Int.toNat k) []) (1 : Nat) V.undef), key := V.toStr (List.getD (List.getD (List.map (RCod.enc cItem) (List.map (RCod.dec cItem) (List.map (RCod.enc cItem) l))) (Int.toNat k) []) (2 : Nat) V.undef), head := List.map (fun r => { key := V.toStr (List.getD r (0 : Nat) V.undef), kind := V.toInt (List.getD r (1 : Nat) V.undef), num := V.toInt (List.getD r (2 : Nat) V.undef), text := V.toStr (List.getD r (3 : Nat) V.undef) : HPair }) (V.toRows (List.getD (List.getD (List.map (RCod.enc cItem) (List.map (RCod.dec cItem) (List.map (RCod.enc cItem) l))) (Int.toNat k) []) (3 : Nat) V.undef)), body := V.toStr (List.getD (List.getD (List.map (RCod.enc cItem) (List.map (RCod.dec cItem) (List.map (RCod.enc cItem) l))) (Int.toNat k) []) (4 : Nat) V.undef), due := V.toInt (List.getD (List.getD (List.map (RCod.enc cItem) (List.map (RCod.dec cItem) (List.map (RCod.enc cItem) l))) (Int.toNat k) []) (5 : Nat) V.undef), hops := V.toInt (List.getD (List.getD (List.map (RCod.enc cItem) (List.map (RCod.dec cItem) (List.map (RCod.enc cItem) l))) (Int.toNat k) []) (6 : Nat) V.undef) : HMail }, lent := V.toBool (List.getD (List.getD (List.map (RCod.enc cItem) (List.map (RCod.dec cItem) (List.map (RCod.enc cItem) l))) (Int.toNat k) []) (7 : Nat) V.undef), again := V.toBool (List.getD (List.getD (List.map (RCod.enc cItem) (List.map (RCod.dec cItem) (List.map (RCod.enc cItem) l))) (Int.toNat k) []) (8 : Nat) V.undef) : HItem })))), V.str (HMail.body (HItem.mail (N.backI { mail := { id := V.toInt (List.getD (List.getD (List.map (RCod.enc cItem) (List.map (RCod.dec cItem) (List.map (RCod.enc cItem) l))) (Int.toNat k) []) (0 : Nat) V.undef), shop := V.toStr (List.getD (List.getD (List.map (RCod.enc cItem) (List.map (RCod.dec cItem) (List.map (RCod.enc cItem) l))) (Int.toNat k) []) (1 : Nat) V.undef), key := V.toStr (List.getD (List.getD (List.map (RCod.enc cItem) (List.map (RCod.dec cItem) (List.map (RCod.enc cItem) l))) (Int.toNat k) []) (2 : Nat) V.undef), head := List.map (fun r => { key := V.toStr (List.getD r (0 : Nat) V.undef), kind := V.toInt (List.getD r (1 : Nat) V.undef), num := V.toInt (List.getD r (2 : Nat) V.undef), text := V.toStr (List.getD r (3 : Nat) V.undef) : HPair }) (V.toRows (List.getD (List.getD (List.map (RCod.enc cItem) (List.map (RCod.dec cItem) (List.map (RCod.enc cItem) l))) (Int.toNat k) []) (3 : Nat) V.undef)), body := V.toStr (List.getD (List.getD (List.map (RCod.enc cItem) (List.map (RCod.dec cItem) (List.map (RCod.enc cItem) l))) (Int.toNat k) []) (4 : Nat) V.undef), due := V.toInt (List.getD (List.getD (List.map (RCod.enc cItem) (List.map (RCod.dec cItem) (List.map (RCod.enc cItem) l))) (Int.toNat k) []) (5 : Nat) V.undef), hops := V.toInt (List.getD (List.getD (List.map (RCod.enc cItem) (List.map (RCod.dec cItem) (List.map (RCod.enc cItem) l))) (Int.toNat k) []) (6 : Nat) V.undef) : HMail }, lent := V.toBool (List.getD (List.getD (List.map (RCod.enc cItem) (List.map (RCod.dec cItem) (List.map (RCod.enc cItem) l))) (Int.toNat k) []) (7 : Nat) V.undef), again := V.toBool (List.getD (List.getD (List.map (RCod.enc cItem) (List.map (RCod.dec cItem) (List.map (RCod.enc cItem) l))) (Int.toNat k) []) (8 : Nat) V.undef) : HItem }))), V.int IntKind.u64 (HMail.due (HItem.mail (N.backI { mail := { id := V.toInt (List.getD (List.getD (List.map (RCod.enc cItem) (List.map (RCod.dec cItem) (List.map (RCod.enc cItem) l))) (Int.toNat k) []) (0 : Nat) V.undef), shop := V.toStr (List.getD (List.getD (List.map (RCod.enc cItem) (List.map (RCod.dec cItem) (List.map (RCod.enc cItem) l))) (Int.toNat k) []) (1 : Nat) V.undef), key := V.toStr (List.getD (List.getD (List.map (RCod.enc cItem) (List.map (RCod.dec cItem) (List.map (RCod.enc cItem) l))) (Int.toNat k) []) (2 : Nat) V.undef), head := List.map (fun r => { key := V.toStr (List.getD r (0 : Nat) V.undef), kind := V.toInt (List.getD r (1 : Nat) V.undef), num := V.toInt (List.getD r (2 : Nat) V.undef), text := V.toStr (List.getD r (3 : Nat) V.undef) : HPair }) (V.toRows (List.getD (List.getD (List.map (RCod.enc cItem) (List.map (RCod.dec cItem) (List.map (RCod.enc cItem) l))) (Int.toNat k) []) (3 : Nat) V.undef)), body := V.toStr (List.getD (List.getD (List.map (RCod.enc cItem) (List.map (RCod.dec cItem) (List.map (RCod.enc cItem) l))) (Int.toNat k) []) (4 : Nat) V.undef), due := V.toInt (List.getD (List.getD (List.map (RCod.enc cItem) (List.map (RCod.dec cItem) (List.map (RCod.enc cItem) l))) (Int.toNat k) []) (5 : Nat) V.undef), hops := V.toInt (List.getD (List.getD (List.map (RCod.enc cItem) (List.map (RCod.dec cItem) (List.map (RCod.enc cItem) l))) (Int.toNat k) []) (6 : Nat) V.undef) : HMail }, lent := V.toBool (List.getD (List.getD (List.map (RCod.enc cItem) (List.map (RCod.dec cItem) (List.map (RCod.enc cItem) l))) (Int.toNat k) []) (7 : Nat) V.undef), again := V.toBool (List.getD (List.getD (List.map (RCod.enc cItem) (List.map (RCod.dec cItem) (List.map (RCod.enc cItem) l))) (Int.toNat k) []) (8 : Nat) V.undef) : HItem }))), V.int IntKind.u8 (HMail.hops (HItem.mail (N.backI { mail := { id := V.toInt (List.getD (List.getD (List.map (RCod.enc cItem) (List.map (RCod.dec cItem) (List.map (RCod.enc cItem) l))) (Int.toNat k) []) (0 : Nat) V.undef), shop := V.toStr (List.getD (List.getD (List.map (RCod.enc cItem) (List.map (RCod.dec cItem) (List.map (RCod.enc cItem) l))) (Int.toNat k) []) (1 : Nat) V.undef), key := V.toStr (List.getD (List.getD (List.map (RCod.enc cItem) (List.map (RCod.dec cItem) (List.map (RCod.enc cItem) l))) (Int.toNat k) []) (2 : Nat) V.undef), head := List.map (fun r => { key := V.toStr (List.getD r (0 : Nat) V.undef), kind := V.toInt (List.getD r (1 : Nat) V.undef), num := V.toInt (List.getD r (2 : Nat) V.undef), text := V.toStr (List.getD r (3 : Nat) V.undef) : HPair }) (V.toRows (List.getD (List.getD (List.map (RCod.enc cItem) (List.map (RCod.dec cItem) (List.map (RCod.enc cItem) l))) (Int.toNat k) []) (3 : Nat) V.undef)), body := V.toStr (List.getD (List.getD (List.map (RCod.enc cItem) (List.map (RCod.dec cItem) (List.map (RCod.enc cItem) l))) (Int.toNat k) []) (4 : Nat) V.undef), due := V.toInt (List.getD (List.getD (List.map (RCod.enc cItem) (List.map (RCod.dec cItem) (List.map (RCod.enc cItem) l))) (Int.toNat k) []) (5 : Nat) V.undef), hops := V.toInt (List.getD (List.getD (List.map (RCod.enc cItem) (List.map (RCod.dec cItem) (List.map (RCod.enc cItem) l))) (Int.toNat k) []) (6 : Nat) V.undef) : HMail }, lent := V.toBool (List.getD (List.getD (List.map (RCod.enc cItem) (List.map (RCod.dec cItem) (List.map (RCod.enc cItem) l))) (Int.toNat k) []) (7 : Nat) V.undef), again := V.toBool (List.getD (List.getD (List.map (RCod.enc cItem) (List.map (RCod.dec cItem) (List.map (RCod.enc cItem) l))) (Int.toNat k) []) (8 : Nat) V.undef) : HItem }))), V.bool (HItem.lent (N.backI { mail := { id := V.toInt (List.getD (List.getD (List.map (RCod.enc cItem) (List.map (RCod.dec cItem) (List.map (RCod.enc cItem) l))) (Int.toNat k) []) (0 : Nat) V.undef), shop := V.toStr (List.getD (List.getD (List.map (RCod.enc cItem) (List.map (RCod.dec cItem) (List.map (RCod.enc cItem) l))) (Int.toNat k) []) (1 : Nat) V.undef), key := V.toStr (List.getD (List.getD (List.map (RCod.enc cItem) (List.map (RCod.dec cItem) (List.map (RCod.enc cItem) l))) (Int.toNat k) []) (2 : Nat) V.undef), head := List.map (fun r => { key := V.toStr (List.getD r (0 : Nat) V.undef), kind := V.toInt (List.getD r (1 : Nat) V.undef), num := V.toInt (List.getD r (2 : Nat) V.undef), text := V.toStr (List.getD r (3 : Nat) V.undef) : HPair }) (V.toRows (List.getD (List.getD (List.map (RCod.enc cItem) (List.map (RCod.dec cItem) (List.map (RCod.enc cItem) l))) (Int.toNat k) []) (3 : Nat) V.undef)), body := V.toStr (List.getD (List.getD (List.map (RCod.enc cItem) (List.map (RCod.dec cItem) (List.map (RCod.enc cItem) l))) (Int.toNat k) []) (4 : Nat) V.undef), due := V.toInt (List.getD (List.getD (List.map (RCod.enc cItem) (List.map (RCod.dec cItem) (List.map (RCod.enc cItem) l))) (Int.toNat k) []) (5 : Nat) V.undef), hops := V.toInt (List.getD (List.getD (List.map (RCod.enc cItem) (List.map (RCod.dec cItem) (List.map (RCod.enc cItem) l))) (Int.toNat k) []) (6 : Nat) V.undef) : HMail }, lent := V.toBool (List.getD (List.getD (List.map (RCod.enc cItem) (List.map (RCod.dec cItem) (List.map (RCod.enc cItem) l))) (Int.toNat k) []) (7 : Nat) V.undef), again := V.toBool (List.getD (List.getD (List.map (RCod.enc cItem) (List.map (RCod.dec cItem) (List.map (RCod.enc cItem) l))) (Int.toNat k) []) (8 : Nat) V.undef) : HItem })), V.bool (HItem.again (N.backI { mail := { id := V.toInt (List.getD (List.getD (List.map (RCod.enc cItem) (List.map (RCod.dec cItem) (List.map (RCod.enc cItem) l))) (Int.toNat k) []) (0 : Nat) V.undef), shop := V.toStr (List.getD (List.getD (List.map (RCod.enc cItem) (List.map (RCod.dec cItem) (List.map (RCod.enc cItem) l))) (Int.toNat k) []) (1 : Nat) V.undef), key := V.toStr (List.getD (List.getD (List.map (RCod.enc cItem) (List.map (RCod.dec cItem) (List.map (RCod.enc cItem) l))) (Int.toNat k) []) (2 : Nat) V.undef), head := List.map (fun r => { key := V.toStr (List.getD r (0 : Nat) V.undef), kind := V.toInt (List.getD r (1 : Nat) V.undef), num := V.toInt (List.getD r (2 : Nat) V.undef), text := V.toStr (List.getD r (3 : Nat) V.undef) : HPair }) (V.toRows (List.getD (List.getD (List.map (RCod.enc cItem) (List.map (RCod.dec cItem) (List.map (RCod.enc cItem) l))) (Int.toNat k) []) (3 : Nat) V.undef)), body := V.toStr (List.getD (List.getD (List.map (RCod.enc cItem) (List.map (RCod.dec cItem) (List.map (RCod.enc cItem) l))) (Int.toNat k) []) (4 : Nat) V.undef), due := V.toInt (List.getD (List.getD (List.map (RCod.enc cItem) (List.map (RCod.dec cItem) (List.map (RCod.enc cItem) l))) (Int.toNat k) []) (5 : Nat) V.undef), hops := V.toInt (List.getD (List.getD (List.map (RCod.enc cItem) (List.map (RCod.dec cItem) (List.map (RCod.enc cItem) l))) (Int.toNat k) []) (6 : Nat) V.undef) : HMail }, lent := V.toBool (List.getD (List.getD (List.map (RCod.enc cItem) (List.map (RCod.dec cItem) (List.map (RCod.enc cItem) l))) (Int.toNat k) []) (7 : Nat) V.undef), again := V.toBool (List.getD (List.getD (List.map (RCod.enc cItem) (List.map (RCod.dec cItem) (List.map (RCod.enc cItem) l))) (Int.toNat k) []) (8 : Nat) V.undef) : HItem }))])], bx := [] : DRes }) (none)) (none) := by kernel_rfl
theorem ok_withB : FnOk Tryz.prog 65 (dWith 102 N.backI) := by
  refine den_okF (env_ok (((TOk.nil _).cons ok_markB).cons ok_cloneIO)) (E := eWithB) Tryz.func65 [] (by kernel_rfl) none0 fun a _ h => ?_
  obtain ⟨l, k, ⟨⟩⟩ := a
  obtain ⟨h1, h2⟩ := bcond h
  obtain ⟨h2, h3⟩ := bcond h2
  have h1 : 0 ≤ k := ile_of h1
  have h2 : k < l.length := ilt_of h2
  have h3 : Nat.ble l.length 1000 = true := h3
  have hn : Nat.beq l.length 0 = false := by
    rw [Bool.eq_false_iff]
    intro e
    have := Nat.eq_of_beq_eq_true e
    omega
  refine (q_withB l k).trans ?_
  have hg := getD_enc cItem l k.toNat item0 (by omega)
  simp only [dec_encs, List.length_map, hn, h3, hg, fold_item, cItem.de, fold_itemE, ← List.map_set]
  simp (disch := omega) only [evs]
  rfl
end Go.Ev

/- Lending, giving back, removing, waking: the functions on lines answer what the plain ones do: lemmas. -/
namespace Go.Ev
open Go Go.Proofs
set_option maxRecDepth 100000
-- FOLD

def dLLend : Den := den (aOne (vAgg cLine)) bNil (oTup (aCons (vAgg cLine) (aCons (vAgg cItem) (aOne vBool)))) (fun l _ => smallL l) fun l _ => (N.lLend l, ())
def dLBack : Den := den (aCons (vAgg cLine) (aOne (vInt .u64))) bNil (oTup (aCons (vAgg cLine) (aOne (vInt .i64)))) (fun a _ => smallL a.1) fun a _ => (N.lBack a.1 a.2, ())
def goodTold (l : List HItem) (k : Int) : Bool := cond (smallL l) (cond (ilt k 0) true (ilt k l.length)) false
def dLTold : Den := den (aCons (vAgg cLine) (aOne (vInt .i64))) bNil (oTup (aCons (vAgg cMail) (aOne vBool))) (fun a _ => goodTold a.1 a.2) fun a _ => (N.lTold a.1 a.2, ())
def dLFirst : Den := den (aOne (vAgg cLine)) bNil (oTup (aCons (vAgg cMail) (aOne vBool))) (fun l _ => smallL l) fun l _ => (N.lFirst l, ())
def dLAll : Den := den (aOne (vAgg cLine)) bNil (oV (vSl cItem)) (fun l _ => smallL l) fun l _ => (l, ())
def dSameI : Den := den (aCons (vAgg cItem) (aOne (vAgg cItem))) bNil (oV vBool) (fun a _ => smallI a.1) fun a _ => (N.sameI a.1 a.2, ())
def dEqFI (f : FuncId) : Den := den (aCons (vSl cItem) (aCons (vSl cItem) (aOne (vFn0 f)))) bNil (oV vBool) (fun a _ => smallL a.1) fun a _ => (N.sameL a.1 a.2.1, ())
def dSameL : Den := den (aCons (vAgg cLine) (aOne (vAgg cLine))) bNil (oV vBool) (fun a _ => smallL a.1) fun a _ => (N.sameL a.1 a.2, ())
noncomputable def eReadyL : Env := env Tryz.prog [(108, dIxR 109 57)] [] []
theorem q_readyL (l : List HItem) : evFn eReadyL 56 ((aCons (vAgg cLine) (aOne (vFn0 57))).enc (l, ())) ([]) some =
 cond (Nat.ble (List.length (List.map (RCod.dec cItem) (List.map (RCod.enc cItem) l))) (1000 : Nat)) (some { v := V.int IntKind.i64 (N.ix N.isReady (List.map (RCod.dec cItem) (List.map (RCod.enc cItem) l)) (0 : Int)), bx := [] : DRes }) (none) := by kernel_rfl
noncomputable def eOfL : Env := env Tryz.prog [(108, dIxO 139)] [] []
theorem q_ofL (l : List HItem) (id : Int) : evFn eOfL 101 ((aCons (vAgg cLine) (aOne (vInt .u64))).enc (l, id)) ([]) some =
 cond (Nat.ble (List.length (List.map (RCod.dec cItem) (List.map (RCod.enc cItem) l))) (1000 : Nat)) (some { v := V.int IntKind.i64 (N.ix (N.isId id) (List.map (RCod.dec cItem) (List.map (RCod.enc cItem) l)) (0 : Int)), bx := [] : DRes }) (none) := by kernel_rfl
noncomputable def eLLend : Env := env Tryz.prog [(56, dReadyL 57), (65, dWith 67 N.lendI), (54, dIClone)] [] []
theorem q_lLend (l : List HItem) : evFn eLLend 28 ((aOne (vAgg cLine)).enc l) ([]) some =
 cond (Nat.ble (List.length (List.map (RCod.dec cItem) (List.map (RCod.enc cItem) l))) (1000 : Nat)) (cond (ilt (N.ix N.isReady (List.map (RCod.dec cItem) (List.map (RCod.enc cItem) l)) (0 : Int)) (0 : Int)) (some { v := V.tup [V.agg [V.slc [Sh.int IntKind.u64, Sh.str, Sh.str, Sh.slc [Sh.str, Sh.int IntKind.u8, Sh.int IntKind.i64, Sh.str], Sh.str, Sh.int IntKind.u64, Sh.int IntKind.u8, Sh.bool, Sh.bool] (List.map (RCod.enc cItem) l)], V.agg [V.int IntKind.u64 (0 : Int), V.str [], V.str [], V.slc [Sh.str, Sh.int IntKind.u8, Sh.int IntKind.i64, Sh.str] [], V.str [], V.int IntKind.u64 (0 : Int), V.int IntKind.u8 (0 : Int), V.bool false, V.bool false], V.bool false], bx := [] : DRes }) (cond (goodAt (List.map (RCod.dec cItem) (List.map (RCod.enc cItem) l)) (N.ix N.isReady (List.map (RCod.dec cItem) (List.map (RCod.enc cItem) l)) (0 : Int))) (cond (decide ((0 : Int) ≤ N.ix N.isReady (List.map (RCod.dec cItem) (List.map (RCod.enc cItem) l)) (0 : Int) ∧ N.ix N.isReady (List.map (RCod.dec cItem) (List.map (RCod.enc cItem) l)) (0 : Int) < (↑(List.length (List.map (RCod.enc cItem) (N.setAt N.lendI (List.map (RCod.dec cItem) (List.map (RCod.enc cItem) l)) (Int.toNat (N.ix N.isReady (List.map (RCod.dec cItem) (List.map (RCod.enc cItem) l)) (0 : Int)))))) : Int))) (cond (smallI { mail := { id := V.toInt (List.getD (List.getD (List.map (RCod.enc cItem) (N.setAt N.lendI (List.map (RCod.dec cItem) (List.map (RCod.enc cItem) l)) (Int.toNat (N.ix N.isReady (List.map (RCod.dec cItem) (List.map (RCod.enc cItem) l)) (0 : Int))))) (Int.toNat (N.ix N.isReady (List.map (RCod.dec cItem) (List.map (RCod.enc cItem) l)) (0 : Int))) []) (0 : Nat) V.undef), shop := V.toStr (List.getD (List.getD (List.map (RCod.enc cItem) (N.setAt N.lendI (List.map (RCod.dec cItem) (List.map (RCod.enc cItem) l)) (Int.toNat (N.ix N.isReady (List.map (RCod.dec cItem) (List.map (RCod.enc cItem) l)) (0 : Int))))) (Int.toNat (N.ix N.isReady (List.map (RCod.dec cItem) (List.map (RCod.enc cItem) l)) (0 : Int))) []) (1 : Nat) V.undef), key := V.toStr (List.getD (List.getD (List.map (RCod.enc cItem) (N.setAt N.lendI (List.map (RCod.dec cItem) (List.map (RCod.enc cItem) l)) (Int.toNat (N.ix N.isReady (List.map (RCod.dec cItem) (List.map (RCod.enc cItem) l)) (0 : Int))))) (Int.toNat (N.ix N.isReady (List.map (RCod.dec cItem) (List.map (RCod.enc cItem) l)) (0 : Int))) []) (2 : Nat) V.undef), head := List.map (fun r => { key := V.toStr (List.getD r (0 : Nat) V.undef), kind := V.toInt (List.getD r (1 : Nat) V.undef), num := V.toInt (List.getD r (2 : Nat) V.undef), text := V.toStr (List.getD r (3 : Nat) V.undef) : HPair }) (V.toRows (List.getD (List.getD (List.map (RCod.enc cItem) (N.setAt N.lendI (List.map (RCod.dec cItem) (List.map (RCod.enc cItem) l)) (Int.toNat (N.ix N.isReady (List.map (RCod.dec cItem) (List.map (RCod.enc cItem) l)) (0 : Int))))) (Int.toNat (N.ix N.isReady (List.map (RCod.dec cItem) (List.map (RCod.enc cItem) l)) (0 : Int))) []) (3 : Nat) V.undef)), body := V.toStr (List.getD (List.getD (List.map (RCod.enc cItem) (N.setAt N.lendI (List.map (RCod.dec cItem) (List.map (RCod.enc cItem) l)) (Int.toNat (N.ix N.isReady (List.map (RCod.dec cItem) (List.map (RCod.enc cItem) l)) (0 : Int))))) (Int.toNat (N.ix N.isReady (List.map (RCod.dec cItem) (List.map (RCod.enc cItem) l)) (0 : Int))) []) (4 : Nat) V.undef), due := V.toInt (List.getD (List.getD (List.map (RCod.enc cItem) (N.setAt N.lendI (List.map (RCod.dec cItem) (List.map (RCod.enc cItem) l)) (Int.toNat (N.ix N.isReady (List.map (RCod.dec cItem) (List.map (RCod.enc cItem) l)) (0 : Int))))) (Int.toNat (N.ix N.isReady (List.map (RCod.dec cItem) (List.map (RCod.enc cItem) l)) (0 : Int))) []) (5 : Nat) V.undef), hops := V.toInt (List.getD (List.getD (List.map (RCod.enc cItem) (N.setAt N.lendI (List.map (RCod.dec cItem) (List.map (RCod.enc cItem) l)) (Int.toNat (N.ix N.isReady (List.map (RCod.dec cItem) (List.map (RCod.enc cItem) l)) (0 : Int))))) (Int.toNat (N.ix N.isReady (List.map (RCod.dec cItem) (List.map (RCod.enc cItem) l)) (0 : Int))) []) (6 : Nat) V.undef) : HMail }, lent := V.toBool (List.getD (List.getD (List.map (RCod.enc cItem) (N.setAt N.lendI (List.map (RCod.dec cItem) (List.map (RCod.enc cItem) l)) (Int.toNat (N.ix N.isReady (List.map (RCod.dec cItem) (List.map (RCod.enc cItem) l)) (0 : Int))))) (Int.toNat (N.ix N.isReady (List.map (RCod.dec cItem) (List.map (RCod.enc cItem) l)) (0 : Int))) []) (7 : Nat) V.undef), again := V.toBool (List.getD (List.getD (List.map (RCod.enc cItem) (N.setAt N.lendI (List.map (RCod.dec cItem) (List.map (RCod.enc cItem) l)) (Int.toNat (N.ix N.isReady (List.map (RCod.dec cItem) (List.map (RCod.enc cItem) l)) (0 : Int))))) (Int.toNat (N.ix N.isReady (List.map (RCod.dec cItem) (List.map (RCod.enc cItem) l)) (0 : Int))) []) (8 : Nat) V.undef) : HItem }) (some { v := V.tup [V.agg [V.slc [Sh.int IntKind.u64, Sh.str, Sh.str, Sh.slc [Sh.str, Sh.int IntKind.u8, Sh.int IntKind.i64, Sh.str], Sh.str, Sh.int IntKind.u64, Sh.int IntKind.u8, Sh.bool, Sh.bool] (List.map (RCod.enc cItem) (N.setAt N.lendI (List.map (RCod.dec cItem) (List.map (RCod.enc cItem) l)) (Int.toNat (N.ix N.isReady (List.map (RCod.dec cItem) (List.map (RCod.enc cItem) l)) (0 : Int)))))], V.agg [V.int IntKind.u64 (V.toInt (List.getD (List.getD (List.map (RCod.enc cItem) (N.setAt N.lendI (List.map (RCod.dec cItem) (List.map (RCod.enc cItem) l)) (Int.toNat (N.ix N.isReady (List.map (RCod.dec cItem) (List.map (RCod.enc cItem) l)) (0 : Int))))) (Int.toNat (N.ix N.isReady (List.map (RCod.dec cItem) (List.map (RCod.enc cItem) l)) (0 : Int))) []) (0 : Nat) V.undef)), V.str (V.toStr (List.getD (List.getD (List.map (RCod.enc cItem) (N.setAt N.lendI (List.map (RCod.dec cItem) (List.map (RCod.enc cItem) l)) (Int.toNat (N.ix N.isReady (List.map (RCod.dec cItem) (List.map (RCod.enc cItem) l)) (0 : Int))))) (Int.toNat (N.ix N.isReady (List.map (RCod.dec cItem) (List.map (RCod.enc cItem) l)) (0 : Int))) []) (1 : Nat) V.undef)), V.str (V.toStr (List.getD (List.getD (List.map (RCod.enc cItem) (N.setAt N.lendI (List.map (RCod.dec cItem) (List.map (RCod.enc cItem) l)) (Int.toNat (N.ix N.isReady (List.map (RCod.dec cItem) (List.map (RCod.enc cItem) l)) (0 : Int))))) (Int.toNat (N.ix N.isReady (List.map (RCod.dec cItem) (List.map (RCod.enc cItem) l)) (0 : Int))) []) (2 : Nat) V.undef)), V.slc [Sh.str, Sh.int IntKind.u8, Sh.int IntKind.i64, Sh.str] (List.map (fun p => [V.str (HPair.key p), V.int IntKind.u8 (HPair.kind p), V.int IntKind.i64 (HPair.num p), V.str (HPair.text p)]) (List.map (fun r => { key := V.toStr (List.getD r (0 : Nat) V.undef), kind := V.toInt (List.getD r (1 : Nat) V.undef), num := V.toInt (List.getD r (2 : Nat) V.undef), text := V.toStr (List.getD r (3 : Nat) V.undef) : HPair }) (V.toRows (List.getD (List.getD (List.map (RCod.enc cItem) (N.setAt N.lendI (List.map (RCod.dec cItem) (List.map (RCod.enc cItem) l)) (Int.toNat (N.ix N.isReady (List.map (RCod.dec cItem) (List.map (RCod.enc cItem) l)) (0 : Int))))) (Int.toNat (N.ix N.isReady (List.map (RCod.dec cItem) (List.map (RCod.enc cItem) l)) (0 : Int))) []) (3 : Nat) V.undef)))), V.str (V.toStr (List.getD (List.getD (List.map (RCod.enc cItem) (N.setAt N.lendI (List.map (RCod.dec cItem) (List.map (RCod.enc cItem) l)) (Int.toNat (N.ix N.isReady (List.map (RCod.dec cItem) (List.map (RCod.enc cItem) l)) (0 : Int))))) (Int.toNat (N.ix N.isReady (List.map (RCod.dec cItem) (List.map (RCod.enc cItem) l)) (0 : Int))) []) (4 : Nat) V.undef)), V.int IntKind.u64 (V.toInt (List.getD (List.getD (List.map (RCod.enc cItem) (N.setAt N.lendI (List.map (RCod.dec cItem) (List.map (RCod.enc cItem) l)) (Int.toNat (N.ix N.isReady (List.map (RCod.dec cItem) (List.map (RCod.enc cItem) l)) (0 : Int))))) (Int.toNat (N.ix N.isReady (List.map (RCod.dec cItem) (List.map (RCod.enc cItem) l)) (0 : Int))) []) (5 : Nat) V.undef)), V.int IntKind.u8 (V.toInt (List.getD (List.getD (List.map (RCod.enc cItem) (N.setAt N.lendI (List.map (RCod.dec cItem) (List.map (RCod.enc cItem) l)) (Int.toNat (N.ix N.isReady (List.map (RCod.dec cItem) (List.map (RCod.enc cItem) l)) (0 : Int))))) (Int.toNat (N.ix N.isReady (List.map (RCod.dec cItem) (List.map (RCod.enc cItem) l)) (0 : Int))) []) (6 : Nat) V.undef)), V.bool (V.toBool (List.getD (List.getD (List.map (RCod.enc cItem) (N.setAt N.lendI (List.map (RCod.dec cItem) (List.map (RCod.enc cItem) l)) (Int.toNat (N.ix N.isReady (List.map (RCod.dec cItem) (List.map (RCod.enc cItem) l)) (0 : Int))))) (Int.toNat (N.ix N.isReady (List.map (RCod.dec cItem) (List.map (RCod.enc cItem) l)) (0 : Int))) []) (7 : Nat) V.undef)), V.bool (V.toBool (List.getD (List.getD (List.map (RCod.enc cItem) (N.setAt N.lendI (List.map (RCod.dec cItem) (List.map (RCod.enc cItem) l)) (Int.toNat (N.ix N.isReady (List.map (RCod.dec cItem) (List.map (RCod.enc cItem) l)) (0 : Int))))) (Int.toNat (N.ix N.isReady (List.map (RCod.dec cItem) (List.map (RCod.enc cItem) l)) (0 : Int))) []) (8 : Nat) V.undef))], V.bool true], bx := [] : DRes }) (none)) (none)) (none))) (none) := by kernel_rfl
noncomputable def eLBack : Env := env Tryz.prog [(101, dOfL), (65, dWith 102 N.backI)] [] []
theorem q_lBack (l : List HItem) (id : Int) : evFn eLBack 45 ((aCons (vAgg cLine) (aOne (vInt .u64))).enc (l, id)) ([]) some =
 cond (Nat.ble (List.length (List.map (RCod.dec cItem) (List.map (RCod.enc cItem) l))) (1000 : Nat)) (cond (ilt (N.ix (N.isId id) (List.map (RCod.dec cItem) (List.map (RCod.enc cItem) l)) (0 : Int)) (0 : Int)) (some { v := V.tup [V.agg [V.slc [Sh.int IntKind.u64, Sh.str, Sh.str, Sh.slc [Sh.str, Sh.int IntKind.u8, Sh.int IntKind.i64, Sh.str], Sh.str, Sh.int IntKind.u64, Sh.int IntKind.u8, Sh.bool, Sh.bool] (List.map (RCod.enc cItem) l)], V.int IntKind.i64 (10 : Int)], bx := [] : DRes }) (cond (decide ((0 : Int) ≤ N.ix (N.isId id) (List.map (RCod.dec cItem) (List.map (RCod.enc cItem) l)) (0 : Int) ∧ N.ix (N.isId id) (List.map (RCod.dec cItem) (List.map (RCod.enc cItem) l)) (0 : Int) < (↑(List.length (List.map (RCod.enc cItem) l)) : Int))) (cond (!V.toBool (List.getD (List.getD (List.map (RCod.enc cItem) l) (Int.toNat (N.ix (N.isId id) (List.map (RCod.dec cItem) (List.map (RCod.enc cItem) l)) (0 : Int))) []) (7 : Nat) V.undef)) (some { v := V.tup [V.agg [V.slc [Sh.int IntKind.u64, Sh.str, Sh.str, Sh.slc [Sh.str, Sh.int IntKind.u8, Sh.int IntKind.i64, Sh.str], Sh.str, Sh.int IntKind.u64, Sh.int IntKind.u8, Sh.bool, Sh.bool] (List.map (RCod.enc cItem) l)], V.int IntKind.i64 (13 : Int)], bx := [] : DRes }) (cond (goodAt (List.map (RCod.dec cItem) (List.map (RCod.enc cItem) l)) (N.ix (N.isId id) (List.map (RCod.dec cItem) (List.map (RCod.enc cItem) l)) (0 : Int))) (some { v := V.tup [V.agg [V.slc [Sh.int IntKind.u64, Sh.str, Sh.str, Sh.slc [Sh.str, Sh.int IntKind.u8, Sh.int IntKind.i64, Sh.str], Sh.str, Sh.int IntKind.u64, Sh.int IntKind.u8, Sh.bool, Sh.bool] (List.map (RCod.enc cItem) (N.setAt N.backI (List.map (RCod.dec cItem) (List.map (RCod.enc cItem) l)) (Int.toNat (N.ix (N.isId id) (List.map (RCod.dec cItem) (List.map (RCod.enc cItem) l)) (0 : Int)))))], V.int IntKind.i64 (0 : Int)], bx := [] : DRes }) (none))) (none))) (none) := by kernel_rfl
noncomputable def eLTold : Env := env Tryz.prog [(107, dMailCopy)] [] []
theorem q_lTold (l : List HItem) (k : Int) : evFn eLTold 55 ((aCons (vAgg cLine) (aOne (vInt .i64))).enc (l, k)) ([]) some =
 cond (ilt k (0 : Int)) (some { v := V.tup [V.agg [V.int IntKind.u64 (0 : Int), V.str [], V.str [], V.slc [Sh.str, Sh.int IntKind.u8, Sh.int IntKind.i64, Sh.str] [], V.str [], V.int IntKind.u64 (0 : Int), V.int IntKind.u8 (0 : Int)], V.bool false], bx := [] : DRes }) (cond (decide ((0 : Int) ≤ k ∧ k < (↑(List.length (List.map (RCod.enc cItem) l)) : Int))) (cond (smallM { id := V.toInt (List.getD (List.getD (List.map (RCod.enc cItem) l) (Int.toNat k) []) (0 : Nat) V.undef), shop := V.toStr (List.getD (List.getD (List.map (RCod.enc cItem) l) (Int.toNat k) []) (1 : Nat) V.undef), key := V.toStr (List.getD (List.getD (List.map (RCod.enc cItem) l) (Int.toNat k) []) (2 : Nat) V.undef), head := List.map (fun r => { key := V.toStr (List.getD r (0 : Nat) V.undef), kind := V.toInt (List.getD r (1 : Nat) V.undef), num := V.toInt (List.getD r (2 : Nat) V.undef), text := V.toStr (List.getD r (3 : Nat) V.undef) : HPair }) (V.toRows (List.getD (List.getD (List.map (RCod.enc cItem) l) (Int.toNat k) []) (3 : Nat) V.undef)), body := V.toStr (List.getD (List.getD (List.map (RCod.enc cItem) l) (Int.toNat k) []) (4 : Nat) V.undef), due := V.toInt (List.getD (List.getD (List.map (RCod.enc cItem) l) (Int.toNat k) []) (5 : Nat) V.undef), hops := V.toInt (List.getD (List.getD (List.map (RCod.enc cItem) l) (Int.toNat k) []) (6 : Nat) V.undef) : HMail }) (some { v := V.tup [V.agg [V.int IntKind.u64 (V.toInt (List.getD (List.getD (List.map (RCod.enc cItem) l) (Int.toNat k) []) (0 : Nat) V.undef)), V.str (V.toStr (List.getD (List.getD (List.map (RCod.enc cItem) l) (Int.toNat k) []) (1 : Nat) V.undef)), V.str (V.toStr (List.getD (List.getD (List.map (RCod.enc cItem) l) (Int.toNat k) []) (2 : Nat) V.undef)), V.slc [Sh.str, Sh.int IntKind.u8, Sh.int IntKind.i64, Sh.str] (List.map (fun p => [V.str (HPair.key p), V.int IntKind.u8 (HPair.kind p), V.int IntKind.i64 (HPair.num p), V.str (HPair.text p)]) (List.map (fun r => { key := V.toStr (List.getD r (0 : Nat) V.undef), kind := V.toInt (List.getD r (1 : Nat) V.undef), num := V.toInt (List.getD r (2 : Nat) V.undef), text := V.toStr (List.getD r (3 : Nat) V.undef) : HPair }) (V.toRows (List.getD (List.getD (List.map (RCod.enc cItem) l) (Int.toNat k) []) (3 : Nat) V.undef)))), V.str (V.toStr (List.getD (List.getD (List.map (RCod.enc cItem) l) (Int.toNat k) []) (4 : Nat) V.undef)), V.int IntKind.u64 (V.toInt (List.getD (List.getD (List.map (RCod.enc cItem) l) (Int.toNat k) []) (5 : Nat) V.undef)), V.int IntKind.u8 (V.toInt (List.getD (List.getD (List.map (RCod.enc cItem) l) (Int.toNat k) []) (6 : Nat) V.undef))], V.bool true], bx := [] : DRes }) (none)) (none)) := by kernel_rfl
noncomputable def eLFirst : Env := env Tryz.prog [(56, dReadyL 57), (55, dLTold)] [] []
theorem q_lFirst (l : List HItem) : evFn eLFirst 18 ((aOne (vAgg cLine)).enc l) ([]) some =
 cond (Nat.ble (List.length (List.map (RCod.dec cItem) (List.map (RCod.enc cItem) l))) (1000 : Nat)) (cond (goodTold (List.map (RCod.dec cItem) (List.map (RCod.enc cItem) l)) (N.ix N.isReady (List.map (RCod.dec cItem) (List.map (RCod.enc cItem) l)) (0 : Int))) (some { v := V.tup [V.agg [V.int IntKind.u64 (HMail.id (Prod.fst (N.lTold (List.map (RCod.dec cItem) (List.map (RCod.enc cItem) l)) (N.ix N.isReady (List.map (RCod.dec cItem) (List.map (RCod.enc cItem) l)) (0 : Int))))), V.str (HMail.shop (Prod.fst (N.lTold (List.map (RCod.dec cItem) (List.map (RCod.enc cItem) l)) (N.ix N.isReady (List.map (RCod.dec cItem) (List.map (RCod.enc cItem) l)) (0 : Int))))), V.str (HMail.key (Prod.fst (N.lTold (List.map (RCod.dec cItem) (List.map (RCod.enc cItem) l)) (N.ix N.isReady (List.map (RCod.dec cItem) (List.map (RCod.enc cItem) l)) (0 : Int))))), V.slc [Sh.str, Sh.int IntKind.u8, Sh.int IntKind.i64, Sh.str] (List.map (fun p => [V.str (HPair.key p), V.int IntKind.u8 (HPair.kind p), V.int IntKind.i64 (HPair.num p), V.str (HPair.text p)]) (HMail.head (Prod.fst (N.lTold (List.map (RCod.dec cItem) (List.map (RCod.enc cItem) l)) (N.ix N.isReady (List.map (RCod.dec cItem) (List.map (RCod.enc cItem) l)) (0 : Int)))))), V.str (HMail.body (Prod.fst (N.lTold (List.map (RCod.dec cItem) (List.map (RCod.enc cItem) l)) (N.ix N.isReady (List.map (RCod.dec cItem) (List.map (RCod.enc cItem) l)) (0 : Int))))), V.int IntKind.u64 (HMail.due (Prod.fst (N.lTold (List.map (RCod.dec cItem) (List.map (RCod.enc cItem) l)) (N.ix N.isReady (List.map (RCod.dec cItem) (List.map (RCod.enc cItem) l)) (0 : Int))))), V.int IntKind.u8 (HMail.hops (Prod.fst (N.lTold (List.map (RCod.dec cItem) (List.map (RCod.enc cItem) l)) (N.ix N.isReady (List.map (RCod.dec cItem) (List.map (RCod.enc cItem) l)) (0 : Int)))))], V.bool (Prod.snd (N.lTold (List.map (RCod.dec cItem) (List.map (RCod.enc cItem) l)) (N.ix N.isReady (List.map (RCod.dec cItem) (List.map (RCod.enc cItem) l)) (0 : Int))))], bx := [] : DRes }) (none)) (none) := by kernel_rfl
noncomputable def eSameI : Env := env Tryz.prog [(64, dMailSame)] [] []
theorem q_sameI (a b : HItem) : evFn eSameI 63 ((aCons (vAgg cItem) (aOne (vAgg cItem))).enc (a, b)) ([]) some =
 cond (smallM { id := HMail.id (HItem.mail a), shop := HMail.shop (HItem.mail a), key := HMail.key (HItem.mail a), head := List.map (fun r => { key := V.toStr (List.getD r (0 : Nat) V.undef), kind := V.toInt (List.getD r (1 : Nat) V.undef), num := V.toInt (List.getD r (2 : Nat) V.undef), text := V.toStr (List.getD r (3 : Nat) V.undef) : HPair }) (List.map (fun p => [V.str (HPair.key p), V.int IntKind.u8 (HPair.kind p), V.int IntKind.i64 (HPair.num p), V.str (HPair.text p)]) (HMail.head (HItem.mail a))), body := HMail.body (HItem.mail a), due := HMail.due (HItem.mail a), hops := HMail.hops (HItem.mail a) : HMail }) (cond (N.mailSame { id := HMail.id (HItem.mail a), shop := HMail.shop (HItem.mail a), key := HMail.key (HItem.mail a), head := List.map (fun r => { key := V.toStr (List.getD r (0 : Nat) V.undef), kind := V.toInt (List.getD r (1 : Nat) V.undef), num := V.toInt (List.getD r (2 : Nat) V.undef), text := V.toStr (List.getD r (3 : Nat) V.undef) : HPair }) (List.map (fun p => [V.str (HPair.key p), V.int IntKind.u8 (HPair.kind p), V.int IntKind.i64 (HPair.num p), V.str (HPair.text p)]) (HMail.head (HItem.mail a))), body := HMail.body (HItem.mail a), due := HMail.due (HItem.mail a), hops := HMail.hops (HItem.mail a) : HMail } { id := HMail.id (HItem.mail b), shop := HMail.shop (HItem.mail b), key := HMail.key (HItem.mail b), head := List.map (fun r => { key := V.toStr (List.getD r (0 : Nat) V.undef), kind := V.toInt (List.getD r (1 : Nat) V.undef), num := V.toInt (List.getD r (2 : Nat) V.undef), text := V.toStr (List.getD r (3 : Nat) V.undef) : HPair }) (List.map (fun p => [V.str (HPair.key p), V.int IntKind.u8 (HPair.kind p), V.int IntKind.i64 (HPair.num p), V.str (HPair.text p)]) (HMail.head (HItem.mail b))), body := HMail.body (HItem.mail b), due := HMail.due (HItem.mail b), hops := HMail.hops (HItem.mail b) : HMail }) (cond (HItem.lent a == HItem.lent b) (some { v := V.bool (HItem.again a == HItem.again b), bx := [] : DRes }) (some { v := V.bool false, bx := [] : DRes })) (some { v := V.bool false, bx := [] : DRes })) (none) := by kernel_rfl
theorem fold_itemR (r : List V) : [V.int .u64 (V.toInt (List.getD r 0 .undef)), V.str (V.toStr (List.getD r 1 .undef)), V.str (V.toStr (List.getD r 2 .undef)), V.slc [.str, .int .u8, .int .i64, .str] (((V.toRows (List.getD r 3 .undef)).map fun r => ({ key := V.toStr (List.getD r 0 .undef), kind := V.toInt (List.getD r 1 .undef), num := V.toInt (List.getD r 2 .undef), text := V.toStr (List.getD r 3 .undef) } : HPair)).map fun p => [V.str p.key, V.int .u8 p.kind, V.int .i64 p.num, V.str p.text]),
    V.str (V.toStr (List.getD r 4 .undef)), V.int .u64 (V.toInt (List.getD r 5 .undef)), V.int .u8 (V.toInt (List.getD r 6 .undef)), V.bool (V.toBool (List.getD r 7 .undef)), V.bool (V.toBool (List.getD r 8 .undef))] = cItem.enc (cItem.dec r) := rfl
theorem smallL_of {l : List HItem} (h : smallL l = true) : l.length ≤ 1000 ∧ Nat.ble l.length 1000 = true ∧ l.all smallI = true := by
  obtain ⟨h1, h2⟩ := bcond h
  exact ⟨ble_of h1, h1, h2⟩
theorem setAt_get (f : HItem → HItem) {l : List HItem} {k : Nat} (h : k < l.length) : (N.setAt f l k).getD k item0 = f (l.getD k item0) := by
  unfold N.setAt
  rw [List.getD_eq_getElem?_getD, List.getElem?_set_self h]; rfl
theorem small_at {l : List HItem} (h : l.all smallI = true) {k : Nat} (hk : k < l.length) : smallI (l.getD k item0) = true := all_getD h k item0 hk
theorem ok_readyL : FnOk Tryz.prog 56 (dReadyL 57) := by
  refine den_okF (env_ok ((TOk.nil _).cons ok_IxR)) (E := eReadyL) Tryz.func56 [] (by kernel_rfl) none0 fun a _ h => ?_
  obtain ⟨l, ⟨⟩⟩ := a
  have h : Nat.ble l.length 1000 = true := h
  refine (q_readyL l).trans ?_
  simp only [dec_encs, h, cond_true]
  rfl
theorem ok_ofL : FnOk Tryz.prog 101 dOfL := by
  refine den_okF (env_ok ((TOk.nil _).cons ok_IxO)) (E := eOfL) Tryz.func101 [] (by kernel_rfl) none0 fun a _ h => ?_
  obtain ⟨l, id⟩ := a
  have h : Nat.ble l.length 1000 = true := h
  refine (q_ofL l id).trans ?_
  simp only [dec_encs, h, cond_true]
  rfl
theorem ok_lLend : FnOk Tryz.prog 28 dLLend := by
  refine den_okF (env_ok ((((TOk.nil _).cons ok_iClone).cons ok_withL).cons ok_readyL)) (E := eLLend) Tryz.func28 [] (by kernel_rfl) none0 fun l _ h => ?_
  obtain ⟨h1, h2, h3⟩ := smallL_of h
  refine (q_lLend l).trans ?_
  show _ = some (⟨.tup [.agg (cLine.enc (N.lLend l).1), .agg (cItem.enc (N.lLend l).2.1), .bool (N.lLend l).2.2], [], []⟩ : DRes)
  unfold N.lLend
  simp only [dec_encs]
  rcases ix_spec N.isReady l 0 (Int.le_refl _) with ⟨e, _⟩ | ⟨k, e, hk, _⟩
  · rw [e]
    simp (disch := omega) only [evs, h2]
    rfl
  · rw [Int.zero_add] at e
    have hg := getD_enc cItem (N.setAt N.lendI l k) k item0 (by rw [setAt_len]; exact hk)
    rw [setAt_get N.lendI hk] at hg
    have hs : smallI (N.lendI (l.getD k item0)) = true := small_at h3 hk
    have ga : goodAt l k = true := by unfold goodAt; rw [ile_t (by omega), ilt_t (by omega), h2]; rfl
    rw [e]
    simp (disch := omega) only [evs, h2, ga, Int.toNat_natCast, setAt_len, hg, fold_item, cItem.de, hs, fold_itemE, fold_itemR]
    rfl
theorem ok_lBack : FnOk Tryz.prog 45 dLBack := by
  refine den_okF (env_ok (((TOk.nil _).cons ok_withB).cons ok_ofL)) (E := eLBack) Tryz.func45 [] (by kernel_rfl) none0 fun a _ h => ?_
  obtain ⟨l, id⟩ := a
  obtain ⟨h1, h2, h3⟩ := smallL_of (l := l) h
  refine (q_lBack l id).trans ?_
  show _ = some (⟨.tup [.agg (cLine.enc (N.lBack l id).1), .int .i64 (N.lBack l id).2], [], []⟩ : DRes)
  unfold N.lBack
  simp only [dec_encs]
  rcases ix_spec (N.isId id) l 0 (Int.le_refl _) with ⟨e, _⟩ | ⟨k, e, hk, _⟩
  · rw [e]
    simp (disch := omega) only [evs, h2]
    rfl
  · rw [Int.zero_add] at e
    have hg := getD_enc cItem l k item0 hk
    have ga : goodAt l k = true := by unfold goodAt; rw [ile_t (by omega), ilt_t (by omega), h2]; rfl
    rw [e]
    simp (disch := omega) only [evs, h2, ga, Int.toNat_natCast, hg]
    show cond (!(l.getD k item0).lent) _ _ = _
    cases (l.getD k item0).lent <;> rfl
theorem ok_lTold : FnOk Tryz.prog 55 dLTold := by
  refine den_okF (env_ok ((TOk.nil _).cons ok_mailCopy)) (E := eLTold) Tryz.func55 [] (by kernel_rfl) none0 fun a _ h => ?_
  obtain ⟨l, k⟩ := a
  obtain ⟨h, h4⟩ := bcond h
  obtain ⟨h1, h2, h3⟩ := smallL_of (l := l) h
  have h4 : cond (ilt k 0) true (ilt k l.length) = true := h4
  refine (q_lTold l k).trans ?_
  show _ = some (⟨.tup [.agg (cMail.enc (N.lTold l k).1), .bool (N.lTold l k).2], [], []⟩ : DRes)
  unfold N.lTold
  cases hk : ilt k 0 with
  | true => rfl
  | false =>
    rw [hk] at h4
    have h4 : k < l.length := ilt_of h4
    have hk := ilt_nof hk
    have hg := getD_enc cItem l k.toNat item0 (by omega)
    have hs : smallM (l.getD k.toNat item0).mail = true := small_at h3 (by omega)
    simp (disch := omega) only [evs, hg, fold_mail, fold_re, item_mail, cItem.de, hs]
theorem ok_lFirst : FnOk Tryz.prog 18 dLFirst := by
  refine den_okF (env_ok (((TOk.nil _).cons ok_lTold).cons ok_readyL)) (E := eLFirst) Tryz.func18 [] (by kernel_rfl) none0 fun l _ h => ?_
  have h : smallL l = true := h
  obtain ⟨h1, h2, h3⟩ := smallL_of h
  refine (q_lFirst l).trans ?_
  show _ = some (⟨.tup [.agg (cMail.enc (N.lFirst l).1), .bool (N.lFirst l).2], [], []⟩ : DRes)
  have hg : goodTold l (N.ix N.isReady l 0) = true := by
    unfold goodTold
    rw [h]
    rcases ix_spec N.isReady l 0 (Int.le_refl _) with ⟨e, _⟩ | ⟨k, e, hk, _⟩
    · rw [e]; rfl
    · rw [e, ilt_f (by omega), ilt_t (by omega)]; rfl
  unfold N.lFirst
  simp (disch := omega) only [evs, dec_encs, h2, hg, fold_de, pairs_enc, fold_enc]
theorem ok_sameI : FnOk Tryz.prog 63 dSameI := by
  refine den_okF (env_ok ((TOk.nil _).cons ok_mailSame)) (E := eSameI) Tryz.func63 [] (by kernel_rfl) none0 fun a _ h => ?_
  obtain ⟨a, b⟩ := a
  have h : smallM a.mail = true := h
  refine (q_sameI a b).trans ?_
  show _ = some (⟨.bool (N.sameI a b), [], []⟩ : DRes)
  unfold N.sameI
  simp only [fold_de, h, cond_true]
  cases N.mailSame a.mail b.mail <;> cases a.lent == b.lent <;> rfl
theorem ok_lAdd : FnOk Tryz.prog 44 dLAdd := by
  refine den_okF (env_ok ((TOk.nil _).cons ok_lPut)) (E := eLAdd) Tryz.func44 [] (by kernel_rfl) none0 fun a _ h => ?_
  obtain ⟨l, m⟩ := a
  obtain ⟨h1, h2⟩ := bcond h
  have h1 : Nat.ble l.length 1000 = true := h1
  have h2 : smallI ⟨m, false, false⟩ = true := h2
  refine (q_lAdd l m).trans ?_
  simp only [dec_encs, fold_de, h1, h2, cond_true]
  rfl
end Go.Ev

/- Counting, giving, waking and making lines; sameness: lemmas. -/
namespace Go.Ev
open Go Go.Proofs
set_option maxRecDepth 100000
-- FOLD

theorem all_rowI {p : HItem → Bool} {r : List (List V)} (h : (r.map cItem.dec).all p = true) {i : Nat} (hi : i < r.length) : p (cItem.dec (r.getD i [])) = true := by
  refine List.all_eq_true.1 h _ (List.mem_map_of_mem ?_)
  rw [List.getD_eq_getElem?_getD, List.getElem?_eq_getElem hi]
  exact List.getElem_mem hi
theorem take_rowsI {r : List (List V)} {i : Nat} (h : i < r.length) : ((r.take (i + 1)).map cItem.dec).map cItem.enc = ((r.take i).map cItem.dec).map cItem.enc ++ [cItem.enc (cItem.dec (r.getD i []))] := by
  rw [List.take_add_one, List.getD_eq_getElem?_getD, List.getElem?_eq_getElem h]
  simp only [Option.toList_some, List.map_append, List.map_cons, List.map_nil, Option.getD_some]
def schLAll : SSch := { fr := [(3, .own 10000), (7, .slc [.int .u64, .str, .str, .slc [.str, .int .u8, .int .i64, .str], .str, .int .u64, .int .u8, .bool, .bool]), (8, .int .i64), (9, .int .i64)], tab := [(10000, .sl [.int .u64, .str, .str, .slc [.str, .int .u8, .int .i64, .str], .str, .int .u64, .int .u8, .bool, .bool])] }
def gLAll : List Leaf → (Ex → St → Option R) → Option R
  | [.r r7, .i i8, .i i9, .r rx0], K => cond (i8 == r7.length) (cond (i9 == 0) (cond (Nat.beq rx0.length 0) (cond (Nat.ble r7.length 1000) (cond ((r7.map cItem.dec).all smallI)
      (K (.exit 0) { fr := [(3, .own 10000 0)], tab := [(10000, .sl [.int .u64, .str, .str, .slc [.str, .int .u8, .int .i64, .str], .str, .int .u64, .int .u8, .bool, .bool] ((r7.map cItem.dec).map cItem.enc) 0)] }) none) none) none) none) none
  | _, _ => none
noncomputable def eLAll : Env := env Tryz.prog [(54, dIClone)] [(3, loopF schLAll gLAll)] [(3, [(0, [3, 7, 8, 9]), (1, [3]), (1000, [2])])]
theorem q_lAll (l : List HItem) : evFn eLAll 15 ((aOne (vAgg cLine)).enc l) ([]) some =
 cond ((↑(List.length (List.map (RCod.enc cItem) l)) : Int) == (↑(List.length (List.map (RCod.enc cItem) l)) : Int)) (cond (Nat.ble (List.length (List.map (RCod.enc cItem) l)) (1000 : Nat)) (cond (List.all (List.map (RCod.dec cItem) (List.map (RCod.enc cItem) l)) smallI) (some { v := V.slc [Sh.int IntKind.u64, Sh.str, Sh.str, Sh.slc [Sh.str, Sh.int IntKind.u8, Sh.int IntKind.i64, Sh.str], Sh.str, Sh.int IntKind.u64, Sh.int IntKind.u8, Sh.bool, Sh.bool] (List.map (RCod.enc cItem) (List.map (RCod.dec cItem) (List.map (RCod.enc cItem) l))), bx := [] : DRes }) (none)) (none)) (none) := by kernel_rfl
theorem q_lAllR (r7 : List (List V)) (i8 : Int) (i9 : Int) (rx0 : List (List V)) (K : Ex → St → Option R) : evRound eLAll 15 3 { fr := [(3, .own 10000 0), (7, .slc [.int .u64, .str, .str, .slc [.str, .int .u8, .int .i64, .str], .str, .int .u64, .int .u8, .bool, .bool] r7), (8, .int .i64 i8), (9, .int .i64 i9)], tab := [(10000, .sl [.int .u64, .str, .str, .slc [.str, .int .u8, .int .i64, .str], .str, .int .u64, .int .u8, .bool, .bool] rx0 0)] } K =
 cond (ilt i9 i8) (cond (decide ((0 : Int) ≤ i9 ∧ i9 < (↑(List.length r7) : Int))) (cond (smallI { mail := { id := V.toInt (List.getD (List.getD r7 (Int.toNat i9) []) (0 : Nat) V.undef), shop := V.toStr (List.getD (List.getD r7 (Int.toNat i9) []) (1 : Nat) V.undef), key := V.toStr (List.getD (List.getD r7 (Int.toNat i9) []) (2 : Nat) V.undef), head := List.map (fun r => { key := V.toStr (List.getD r (0 : Nat) V.undef), kind := V.toInt (List.getD r (1 : Nat) V.undef), num := V.toInt (List.getD r (2 : Nat) V.undef), text := V.toStr (List.getD r (3 : Nat) V.undef) : HPair }) (V.toRows (List.getD (List.getD r7 (Int.toNat i9) []) (3 : Nat) V.undef)), body := V.toStr (List.getD (List.getD r7 (Int.toNat i9) []) (4 : Nat) V.undef), due := V.toInt (List.getD (List.getD r7 (Int.toNat i9) []) (5 : Nat) V.undef), hops := V.toInt (List.getD (List.getD r7 (Int.toNat i9) []) (6 : Nat) V.undef) : HMail }, lent := V.toBool (List.getD (List.getD r7 (Int.toNat i9) []) (7 : Nat) V.undef), again := V.toBool (List.getD (List.getD r7 (Int.toNat i9) []) (8 : Nat) V.undef) : HItem }) (cond (decide ((List.length rx0 + (1 : Nat)) * (104 : Nat) ≤ (140737488355328 : Nat))) (K Ex.normal { fr := [((3 : Nat), V.own (10000 : Nat) (0 : Nat)), ((7 : Nat), V.slc [Sh.int IntKind.u64, Sh.str, Sh.str, Sh.slc [Sh.str, Sh.int IntKind.u8, Sh.int IntKind.i64, Sh.str], Sh.str, Sh.int IntKind.u64, Sh.int IntKind.u8, Sh.bool, Sh.bool] r7), ((8 : Nat), V.int IntKind.i64 i8), ((9 : Nat), V.int IntKind.i64 (IntKind.wrap IntKind.i64 (i9 + (1 : Int))))], tab := [((10000 : Nat), Box.sl [Sh.int IntKind.u64, Sh.str, Sh.str, Sh.slc [Sh.str, Sh.int IntKind.u8, Sh.int IntKind.i64, Sh.str], Sh.str, Sh.int IntKind.u64, Sh.int IntKind.u8, Sh.bool, Sh.bool] (rx0 ++ [[V.int IntKind.u64 (V.toInt (List.getD (List.getD r7 (Int.toNat i9) []) (0 : Nat) V.undef)), V.str (V.toStr (List.getD (List.getD r7 (Int.toNat i9) []) (1 : Nat) V.undef)), V.str (V.toStr (List.getD (List.getD r7 (Int.toNat i9) []) (2 : Nat) V.undef)), V.slc [Sh.str, Sh.int IntKind.u8, Sh.int IntKind.i64, Sh.str] (List.map (fun p => [V.str (HPair.key p), V.int IntKind.u8 (HPair.kind p), V.int IntKind.i64 (HPair.num p), V.str (HPair.text p)]) (List.map (fun r => { key := V.toStr (List.getD r (0 : Nat) V.undef), kind := V.toInt (List.getD r (1 : Nat) V.undef), num := V.toInt (List.getD r (2 : Nat) V.undef), text := V.toStr (List.getD r (3 : Nat) V.undef) : HPair }) (V.toRows (List.getD (List.getD r7 (Int.toNat i9) []) (3 : Nat) V.undef)))), V.str (V.toStr (List.getD (List.getD r7 (Int.toNat i9) []) (4 : Nat) V.undef)), V.int IntKind.u64 (V.toInt (List.getD (List.getD r7 (Int.toNat i9) []) (5 : Nat) V.undef)), V.int IntKind.u8 (V.toInt (List.getD (List.getD r7 (Int.toNat i9) []) (6 : Nat) V.undef)), V.bool (V.toBool (List.getD (List.getD r7 (Int.toNat i9) []) (7 : Nat) V.undef)), V.bool (V.toBool (List.getD (List.getD r7 (Int.toNat i9) []) (8 : Nat) V.undef))]]) (0 : Nat))] : St }) (none)) (none)) (none)) (K (Ex.exit (0 : Nat)) { fr := [((3 : Nat), V.own (10000 : Nat) (0 : Nat))], tab := [((10000 : Nat), Box.sl [Sh.int IntKind.u64, Sh.str, Sh.str, Sh.slc [Sh.str, Sh.int IntKind.u8, Sh.int IntKind.i64, Sh.str], Sh.str, Sh.int IntKind.u64, Sh.int IntKind.u8, Sh.bool, Sh.bool] rx0 (0 : Nat))] : St }) := by kernel_rfl
theorem ok_lAll : FnOk Tryz.prog 15 dLAll := by
  refine den_okF (env_ok ((TOk.nil _).cons ok_iClone)) (E := eLAll) Tryz.func15 [3] (by kernel_rfl) (one1 (rounds_of rfl fun l K q h => ?_)) fun l _ hp => ?_
  · unfold gLAll at h
    split at h
    · rename_i r n i o
      have h1 := (cond_none h).1; replace h := (cond_none h).2; have h2 := (cond_none h).1; replace h := (cond_none h).2; have h3 := (cond_none h).1; replace h := (cond_none h).2; have h4 := (cond_none h).1; replace h := (cond_none h).2; have h5 := (cond_none h).1; replace h := (cond_none h).2
      have e1 := ieq_of h1
      have e2 := ieq_of h2
      have e3 := List.eq_nil_of_length_eq_zero (nbeq_of h3)
      subst e1 e2 e3
      have h4 : r.length ≤ 1000 := ble_of h4
      have main := range_ind (E := eLAll) (f := 15) (id := 3) (A := Unit) r (fun _ i => { fr := [(3, .own 10000 0), (7, .slc [.int .u64, .str, .str, .slc [.str, .int .u8, .int .i64, .str], .str, .int .u64, .int .u8, .bool, .bool] r), (8, .int .i64 r.length), (9, .int .i64 i)], tab := [(10000, .sl [.int .u64, .str, .str, .slc [.str, .int .u8, .int .i64, .str], .str, .int .u64, .int .u8, .bool, .bool] (((r.take i.toNat).map cItem.dec).map cItem.enc) 0)] }) (fun _ _ => True)
        (fun _ _ K => K (.exit 0) { fr := [(3, .own 10000 0)], tab := [(10000, .sl [.int .u64, .str, .str, .slc [.str, .int .u8, .int .i64, .str], .str, .int .u64, .int .u8, .bool, .bool] ((r.map cItem.dec).map cItem.enc) 0)] }) (fun _ i _ hi => ?_) (fun _ _ => ?_) () 0 (Int.le_refl _) (by omega) trivial K q (by assumption)
      · exact main
      · refine .inl ⟨(), trivial, fun K => ?_, fun K => rfl⟩
        rw [q_lAllR]
        have hl : (((r.take i).map cItem.dec).map cItem.enc).length = i := by simp; omega
        have ht := take_rowsI hi
        have hs := all_rowI h5 hi
        simp (disch := omega) only [evs, Int.toNat_natCast, fold_item, fold_itemR, hs, hl]
        rw [← ht]
        rfl
      · refine ⟨.exit 0, _, by simp, fun K => ?_, fun K => rfl⟩
        rw [q_lAllR]
        simp (disch := omega) only [evs, Int.toNat_natCast, List.take_length]
    · cases h
  · refine (q_lAll l).trans ?_
    have hp : smallL l = true := hp
    obtain ⟨_, h1, h2⟩ := smallL_of hp
    show _ = some (⟨.slc [.int .u64, .str, .str, .slc [.str, .int .u8, .int .i64, .str], .str, .int .u64, .int .u8, .bool, .bool] (l.map cItem.enc), [], []⟩ : DRes)
    simp only [List.length_map, dec_encs, beq_self_eq_true, cond_true, h1, h2]
namespace N
end N
def schLOf : SSch := { fr := [(2, .ptr 10000 0 0), (4, .ptr 10001 0 0), (9, .slc [.int .u64, .str, .str, .slc [.str, .int .u8, .int .i64, .str], .str, .int .u64, .int .u8, .bool, .bool]), (10, .int .i64), (11, .int .i64)], tab := [(10000, .var [.slc [.int .u64, .str, .str, .slc [.str, .int .u8, .int .i64, .str], .str, .int .u64, .int .u8, .bool, .bool]]), (10001, .var [.slc [.int .u64, .str, .str, .slc [.str, .int .u8, .int .i64, .str], .str, .int .u64, .int .u8, .bool, .bool]])] }
def gLOf : List Leaf → (Ex → St → Option R) → Option R
  | [.r r, .i n, .i i, .r z, .r a], K => cond (n == r.length) (cond (i == 0) (cond (Nat.beq a.length 0) (cond (Nat.ble r.length 100) (cond ((r.map cItem.dec).all smallI)
      (cond ((N.lOf [] (r.map cItem.dec)).2 == 0) (K (.exit 0) { fr := [(2, .ptr 10000 0 0 0), (4, .ptr 10001 0 0 0)], tab := [(10000, .var [.slc [.int .u64, .str, .str, .slc [.str, .int .u8, .int .i64, .str], .str, .int .u64, .int .u8, .bool, .bool] z]), (10001, .var [.slc [.int .u64, .str, .str, .slc [.str, .int .u8, .int .i64, .str], .str, .int .u64, .int .u8, .bool, .bool] ((N.lOf [] (r.map cItem.dec)).1.map cItem.enc)])] })
        (K .ret { fr := [(2, .ptr 10000 0 0 0), (3, .int .i64 (N.lOf [] (r.map cItem.dec)).2)], tab := [(10000, .var [.slc [.int .u64, .str, .str, .slc [.str, .int .u8, .int .i64, .str], .str, .int .u64, .int .u8, .bool, .bool] []])] })) none) none) none) none) none
  | _, _ => none
noncomputable def eLOf : Env := { env Tryz.prog [(60, dLPut)] [(3, loopF schLOf gLOf)] [(3, [(0, [2, 4, 9, 10, 11]), (1, [2, 4]), (1000, [2, 3])])] with fz := true }
theorem q_lOf (l : List HItem) : evFn eLOf 22 ((aOne (vSl cItem)).enc l) ([]) some =
 cond ((↑(List.length (List.map (RCod.enc cItem) l)) : Int) == (↑(List.length (List.map (RCod.enc cItem) l)) : Int)) (cond (Nat.ble (List.length (List.map (RCod.enc cItem) l)) (100 : Nat)) (cond (List.all (List.map (RCod.dec cItem) (List.map (RCod.enc cItem) l)) smallI) (cond (Prod.snd (N.lOf [] (List.map (RCod.dec cItem) (List.map (RCod.enc cItem) l))) == (0 : Int)) (some { v := V.tup [V.agg [V.slc [Sh.int IntKind.u64, Sh.str, Sh.str, Sh.slc [Sh.str, Sh.int IntKind.u8, Sh.int IntKind.i64, Sh.str], Sh.str, Sh.int IntKind.u64, Sh.int IntKind.u8, Sh.bool, Sh.bool] (List.map (RCod.enc cItem) (Prod.fst (N.lOf [] (List.map (RCod.dec cItem) (List.map (RCod.enc cItem) l)))))], V.int IntKind.i64 (0 : Int)], bx := [] : DRes }) (some { v := V.tup [V.agg [V.slc [Sh.int IntKind.u64, Sh.str, Sh.str, Sh.slc [Sh.str, Sh.int IntKind.u8, Sh.int IntKind.i64, Sh.str], Sh.str, Sh.int IntKind.u64, Sh.int IntKind.u8, Sh.bool, Sh.bool] []], V.int IntKind.i64 (Prod.snd (N.lOf [] (List.map (RCod.dec cItem) (List.map (RCod.enc cItem) l))))], bx := [] : DRes })) (none)) (none)) (none) := by kernel_rfl
theorem q_lOfR (r : List (List V)) (n i : Int) (z a : List (List V)) (K : Ex → St → Option R) : evRound eLOf 22 3 { fr := [(2, .ptr 10000 0 0 0), (4, .ptr 10001 0 0 0), (9, .slc [.int .u64, .str, .str, .slc [.str, .int .u8, .int .i64, .str], .str, .int .u64, .int .u8, .bool, .bool] r), (10, .int .i64 n), (11, .int .i64 i)], tab := [(10000, .var [.slc [.int .u64, .str, .str, .slc [.str, .int .u8, .int .i64, .str], .str, .int .u64, .int .u8, .bool, .bool] z]), (10001, .var [.slc [.int .u64, .str, .str, .slc [.str, .int .u8, .int .i64, .str], .str, .int .u64, .int .u8, .bool, .bool] a])] } K =
 cond (ilt i n) (cond (decide ((0 : Int) ≤ i ∧ i < (↑(List.length r) : Int))) (cond (bif Nat.ble (List.length (List.map (RCod.dec cItem) a)) (1000 : Nat) then smallI { mail := { id := V.toInt (List.getD (List.getD r (Int.toNat i) []) (0 : Nat) V.undef), shop := V.toStr (List.getD (List.getD r (Int.toNat i) []) (1 : Nat) V.undef), key := V.toStr (List.getD (List.getD r (Int.toNat i) []) (2 : Nat) V.undef), head := List.map (fun r => { key := V.toStr (List.getD r (0 : Nat) V.undef), kind := V.toInt (List.getD r (1 : Nat) V.undef), num := V.toInt (List.getD r (2 : Nat) V.undef), text := V.toStr (List.getD r (3 : Nat) V.undef) : HPair }) (V.toRows (List.getD (List.getD r (Int.toNat i) []) (3 : Nat) V.undef)), body := V.toStr (List.getD (List.getD r (Int.toNat i) []) (4 : Nat) V.undef), due := V.toInt (List.getD (List.getD r (Int.toNat i) []) (5 : Nat) V.undef), hops := V.toInt (List.getD (List.getD r (Int.toNat i) []) (6 : Nat) V.undef) : HMail }, lent := V.toBool (List.getD (List.getD r (Int.toNat i) []) (7 : Nat) V.undef), again := V.toBool (List.getD (List.getD r (Int.toNat i) []) (8 : Nat) V.undef) : HItem } else false) (cond (Prod.snd (N.lPut (List.map (RCod.dec cItem) a) { mail := { id := V.toInt (List.getD (List.getD r (Int.toNat i) []) (0 : Nat) V.undef), shop := V.toStr (List.getD (List.getD r (Int.toNat i) []) (1 : Nat) V.undef), key := V.toStr (List.getD (List.getD r (Int.toNat i) []) (2 : Nat) V.undef), head := List.map (fun r => { key := V.toStr (List.getD r (0 : Nat) V.undef), kind := V.toInt (List.getD r (1 : Nat) V.undef), num := V.toInt (List.getD r (2 : Nat) V.undef), text := V.toStr (List.getD r (3 : Nat) V.undef) : HPair }) (V.toRows (List.getD (List.getD r (Int.toNat i) []) (3 : Nat) V.undef)), body := V.toStr (List.getD (List.getD r (Int.toNat i) []) (4 : Nat) V.undef), due := V.toInt (List.getD (List.getD r (Int.toNat i) []) (5 : Nat) V.undef), hops := V.toInt (List.getD (List.getD r (Int.toNat i) []) (6 : Nat) V.undef) : HMail }, lent := V.toBool (List.getD (List.getD r (Int.toNat i) []) (7 : Nat) V.undef), again := V.toBool (List.getD (List.getD r (Int.toNat i) []) (8 : Nat) V.undef) : HItem }) != (0 : Int)) (K Ex.ret { fr := [((2 : Nat), V.ptr (10000 : Nat) (0 : Nat) (0 : Nat) (0 : Nat)), ((3 : Nat), V.int IntKind.i64 (Prod.snd (N.lPut (List.map (RCod.dec cItem) a) { mail := { id := V.toInt (List.getD (List.getD r (Int.toNat i) []) (0 : Nat) V.undef), shop := V.toStr (List.getD (List.getD r (Int.toNat i) []) (1 : Nat) V.undef), key := V.toStr (List.getD (List.getD r (Int.toNat i) []) (2 : Nat) V.undef), head := List.map (fun r => { key := V.toStr (List.getD r (0 : Nat) V.undef), kind := V.toInt (List.getD r (1 : Nat) V.undef), num := V.toInt (List.getD r (2 : Nat) V.undef), text := V.toStr (List.getD r (3 : Nat) V.undef) : HPair }) (V.toRows (List.getD (List.getD r (Int.toNat i) []) (3 : Nat) V.undef)), body := V.toStr (List.getD (List.getD r (Int.toNat i) []) (4 : Nat) V.undef), due := V.toInt (List.getD (List.getD r (Int.toNat i) []) (5 : Nat) V.undef), hops := V.toInt (List.getD (List.getD r (Int.toNat i) []) (6 : Nat) V.undef) : HMail }, lent := V.toBool (List.getD (List.getD r (Int.toNat i) []) (7 : Nat) V.undef), again := V.toBool (List.getD (List.getD r (Int.toNat i) []) (8 : Nat) V.undef) : HItem })))], tab := [((10000 : Nat), Box.var [V.slc [Sh.int IntKind.u64, Sh.str, Sh.str, Sh.slc [Sh.str, Sh.int IntKind.u8, Sh.int IntKind.i64, Sh.str], Sh.str, Sh.int IntKind.u64, Sh.int IntKind.u8, Sh.bool, Sh.bool] []])] : St }) (K Ex.normal { fr := [((2 : Nat), V.ptr (10000 : Nat) (0 : Nat) (0 : Nat) (0 : Nat)), ((4 : Nat), V.ptr (10001 : Nat) (0 : Nat) (0 : Nat) (0 : Nat)), ((9 : Nat), V.slc [Sh.int IntKind.u64, Sh.str, Sh.str, Sh.slc [Sh.str, Sh.int IntKind.u8, Sh.int IntKind.i64, Sh.str], Sh.str, Sh.int IntKind.u64, Sh.int IntKind.u8, Sh.bool, Sh.bool] r), ((10 : Nat), V.int IntKind.i64 n), ((11 : Nat), V.int IntKind.i64 (IntKind.wrap IntKind.i64 (i + (1 : Int))))], tab := [((10000 : Nat), Box.var [V.slc [Sh.int IntKind.u64, Sh.str, Sh.str, Sh.slc [Sh.str, Sh.int IntKind.u8, Sh.int IntKind.i64, Sh.str], Sh.str, Sh.int IntKind.u64, Sh.int IntKind.u8, Sh.bool, Sh.bool] z]), ((10001 : Nat), Box.var [V.slc [Sh.int IntKind.u64, Sh.str, Sh.str, Sh.slc [Sh.str, Sh.int IntKind.u8, Sh.int IntKind.i64, Sh.str], Sh.str, Sh.int IntKind.u64, Sh.int IntKind.u8, Sh.bool, Sh.bool] (List.map (RCod.enc cItem) (Prod.fst (N.lPut (List.map (RCod.dec cItem) a) { mail := { id := V.toInt (List.getD (List.getD r (Int.toNat i) []) (0 : Nat) V.undef), shop := V.toStr (List.getD (List.getD r (Int.toNat i) []) (1 : Nat) V.undef), key := V.toStr (List.getD (List.getD r (Int.toNat i) []) (2 : Nat) V.undef), head := List.map (fun r => { key := V.toStr (List.getD r (0 : Nat) V.undef), kind := V.toInt (List.getD r (1 : Nat) V.undef), num := V.toInt (List.getD r (2 : Nat) V.undef), text := V.toStr (List.getD r (3 : Nat) V.undef) : HPair }) (V.toRows (List.getD (List.getD r (Int.toNat i) []) (3 : Nat) V.undef)), body := V.toStr (List.getD (List.getD r (Int.toNat i) []) (4 : Nat) V.undef), due := V.toInt (List.getD (List.getD r (Int.toNat i) []) (5 : Nat) V.undef), hops := V.toInt (List.getD (List.getD r (Int.toNat i) []) (6 : Nat) V.undef) : HMail }, lent := V.toBool (List.getD (List.getD r (Int.toNat i) []) (7 : Nat) V.undef), again := V.toBool (List.getD (List.getD r (Int.toNat i) []) (8 : Nat) V.undef) : HItem })))])] : St })) (none)) (none)) (K (Ex.exit (0 : Nat)) { fr := [((2 : Nat), V.ptr (10000 : Nat) (0 : Nat) (0 : Nat) (0 : Nat)), ((4 : Nat), V.ptr (10001 : Nat) (0 : Nat) (0 : Nat) (0 : Nat))], tab := [((10000 : Nat), Box.var [V.slc [Sh.int IntKind.u64, Sh.str, Sh.str, Sh.slc [Sh.str, Sh.int IntKind.u8, Sh.int IntKind.i64, Sh.str], Sh.str, Sh.int IntKind.u64, Sh.int IntKind.u8, Sh.bool, Sh.bool] z]), ((10001 : Nat), Box.var [V.slc [Sh.int IntKind.u64, Sh.str, Sh.str, Sh.slc [Sh.str, Sh.int IntKind.u8, Sh.int IntKind.i64, Sh.str], Sh.str, Sh.int IntKind.u64, Sh.int IntKind.u8, Sh.bool, Sh.bool] a])] : St }) := by kernel_rfl
def dLOf : Den := den (aOne (vSl cItem)) bNil (oTup (aCons (vAgg cLine) (aOne (vInt .i64)))) (fun l _ => cond (Nat.ble l.length 100) (l.all smallI) false) fun l _ => (N.lOf [] l, ())
theorem lPut_len (l : List HItem) (x : HItem) : (N.lPut l x).1.length ≤ l.length + 1 := by
  unfold N.lPut
  cases N.lCheck l x.mail != 0 <;> simp
theorem ok_lOf3 : RoundsOk eLOf 22 3 := by
  refine rounds_of rfl fun l K q h => ?_
  unfold gLOf at h
  split at h
  · rename_i r n i z a
    have h1 := (cond_none h).1; replace h := (cond_none h).2; have h2 := (cond_none h).1; replace h := (cond_none h).2; have h3 := (cond_none h).1; replace h := (cond_none h).2; have h4 := (cond_none h).1; replace h := (cond_none h).2; have h5 := (cond_none h).1; replace h := (cond_none h).2
    have e1 := ieq_of h1
    have e2 := ieq_of h2
    have e3 := List.eq_nil_of_length_eq_zero (nbeq_of h3)
    subst e1 e2 e3
    have h4 : r.length ≤ 100 := ble_of h4
    have main := range_ind (E := eLOf) (f := 22) (id := 3) (A := List HItem) r (fun acc i => { fr := [(2, .ptr 10000 0 0 0), (4, .ptr 10001 0 0 0), (9, .slc [.int .u64, .str, .str, .slc [.str, .int .u8, .int .i64, .str], .str, .int .u64, .int .u8, .bool, .bool] r), (10, .int .i64 r.length), (11, .int .i64 i)], tab := [(10000, .var [.slc [.int .u64, .str, .str, .slc [.str, .int .u8, .int .i64, .str], .str, .int .u64, .int .u8, .bool, .bool] z]), (10001, .var [.slc [.int .u64, .str, .str, .slc [.str, .int .u8, .int .i64, .str], .str, .int .u64, .int .u8, .bool, .bool] (acc.map cItem.enc)])] })
      (fun acc i => acc.length ≤ i)
      (fun acc rows K => cond ((N.lOf acc (rows.map cItem.dec)).2 == 0) (K (.exit 0) { fr := [(2, .ptr 10000 0 0 0), (4, .ptr 10001 0 0 0)], tab := [(10000, .var [.slc [.int .u64, .str, .str, .slc [.str, .int .u8, .int .i64, .str], .str, .int .u64, .int .u8, .bool, .bool] z]), (10001, .var [.slc [.int .u64, .str, .str, .slc [.str, .int .u8, .int .i64, .str], .str, .int .u64, .int .u8, .bool, .bool] ((N.lOf acc (rows.map cItem.dec)).1.map cItem.enc)])] })
        (K .ret { fr := [(2, .ptr 10000 0 0 0), (3, .int .i64 (N.lOf acc (rows.map cItem.dec)).2)], tab := [(10000, .var [.slc [.int .u64, .str, .str, .slc [.str, .int .u8, .int .i64, .str], .str, .int .u64, .int .u8, .bool, .bool] []])] })) (fun acc i ha hi => ?_) (fun acc _ => ?_) [] 0 (Int.le_refl _) (by omega) (Nat.zero_le _) K q (by assumption)
    · exact main
    · have hs := all_rowI h5 hi
      have e : N.lOf acc ((r.getD i [] :: r.drop (i + 1)).map cItem.dec) = cond ((N.lPut acc (cItem.dec (r.getD i []))).2 != 0) ([], (N.lPut acc (cItem.dec (r.getD i []))).2) (N.lOf (N.lPut acc (cItem.dec (r.getD i []))).1 ((r.drop (i + 1)).map cItem.dec)) := rfl
      rw [e]
      cases hc : (N.lPut acc (cItem.dec (r.getD i []))).2 != 0 with
      | true =>
        have hz : ((N.lPut acc (cItem.dec (r.getD i []))).2 == 0) = false := by rw [bne] at hc; simpa using hc
        refine .inr ⟨.ret, { fr := [(2, .ptr 10000 0 0 0), (3, .int .i64 (N.lPut acc (cItem.dec (r.getD i []))).2)], tab := [(10000, .var [.slc [.int .u64, .str, .str, .slc [.str, .int .u8, .int .i64, .str], .str, .int .u64, .int .u8, .bool, .bool] []])] }, by simp, fun K => ?_, fun K => ?_⟩
        · rw [q_lOfR]
          simp (disch := omega) only [evs, Int.toNat_natCast, fold_item, dec_encs, hs, hc]
        · simp only [cond_true, hz, cond_false]
      | false =>
        have hp := lPut_len acc (cItem.dec (r.getD i []))
        refine .inl ⟨(N.lPut acc (cItem.dec (r.getD i []))).1, by omega, fun K => ?_, fun K => rfl⟩
        rw [q_lOfR]
        simp (disch := omega) only [evs, Int.toNat_natCast, fold_item, dec_encs, hs, hc]
    · refine ⟨.exit 0, _, by simp, fun K => ?_, fun K => rfl⟩
      rw [q_lOfR]
      simp (disch := omega) only [evs]
      rfl
  · cases h
theorem ok_lOf : FnOk Tryz.prog 22 dLOf := by
  refine den_okF (show TOk Tryz.prog _ from (TOk.nil _).cons ok_lPut) (E := eLOf) Tryz.func22 [3] (by kernel_rfl) (one1 ok_lOf3) fun l _ hp => ?_
  obtain ⟨h1, h2⟩ := bcond hp
  have h1 : Nat.ble l.length 100 = true := h1
  have h2 : l.all smallI = true := h2
  refine (q_lOf l).trans ?_
  show _ = some (⟨.tup [.agg (cLine.enc (N.lOf [] l).1), .int .i64 (N.lOf [] l).2], [], []⟩ : DRes)
  simp only [List.length_map, dec_encs, h1, h2, beq_self_eq_true, cond_true]
  cases hc : (N.lOf [] l).2 == 0 with
  | true => rw [ieq_of hc]; rfl
  | false =>
    have hb := lOf_bad l [] (fun e => by rw [e] at hc; cases hc)
    rw [hb]; rfl
def schEqFI : SSch := { fr := [(1, .slc [.int .u64, .str, .str, .slc [.str, .int .u8, .int .i64, .str], .str, .int .u64, .int .u8, .bool, .bool]), (2, .fn 63 [] []), (15, .slc [.int .u64, .str, .str, .slc [.str, .int .u8, .int .i64, .str], .str, .int .u64, .int .u8, .bool, .bool]), (16, .int .i64), (17, .int .i64)], tab := [] }
def gEqFI : List Leaf → (Ex → St → Option R) → Option R
  | [.r r1, .r r, .i n, .i i], K => cond (n == r.length) (cond (i == 0) (cond (Nat.beq r.length r1.length) (cond (Nat.ble r.length 1000) (cond ((r.map cItem.dec).all smallI)
      (cond (N.sameL (r.map cItem.dec) (r1.map cItem.dec)) (K (.exit 0) { fr := [], tab := [] }) (K .ret { fr := [(6, .bool false)], tab := [] })) none) none) none) none) none
  | _, _ => none
noncomputable def eEqFI : Env := env Tryz.prog [(63, dSameI)] [(4, loopF schEqFI gEqFI)] [(4, [(0, [1, 2, 15, 16, 17]), (1, []), (1000, [6])])]
theorem q_eqFI (a b : List HItem) : evFn eEqFI 62 ((aCons (vSl cItem) (aCons (vSl cItem) (aOne (vFn0 63)))).enc (a, b, ())) ([]) some =
 cond ((↑(List.length (List.map (RCod.enc cItem) a)) : Int) != (↑(List.length (List.map (RCod.enc cItem) b)) : Int)) (some { v := V.bool false, bx := [] : DRes }) (cond ((↑(List.length (List.map (RCod.enc cItem) a)) : Int) == (↑(List.length (List.map (RCod.enc cItem) a)) : Int)) (cond (Nat.beq (List.length (List.map (RCod.enc cItem) a)) (List.length (List.map (RCod.enc cItem) b))) (cond (Nat.ble (List.length (List.map (RCod.enc cItem) a)) (1000 : Nat)) (cond (List.all (List.map (RCod.dec cItem) (List.map (RCod.enc cItem) a)) smallI) (cond (N.sameL (List.map (RCod.dec cItem) (List.map (RCod.enc cItem) a)) (List.map (RCod.dec cItem) (List.map (RCod.enc cItem) b))) (some { v := V.bool true, bx := [] : DRes }) (some { v := V.bool false, bx := [] : DRes })) (none)) (none)) (none)) (none)) := by kernel_rfl
theorem q_eqFIR (n i : Int) (r r1 : List (List V)) (K : Ex → St → Option R) : evRound eEqFI 62 4 { fr := [(1, .slc [.int .u64, .str, .str, .slc [.str, .int .u8, .int .i64, .str], .str, .int .u64, .int .u8, .bool, .bool] r1), (2, .fn 63 [] []), (15, .slc [.int .u64, .str, .str, .slc [.str, .int .u8, .int .i64, .str], .str, .int .u64, .int .u8, .bool, .bool] r), (16, .int .i64 n), (17, .int .i64 i)], tab := [] } K =
 cond (ilt i n) (cond (decide ((0 : Int) ≤ i ∧ i < (↑(List.length r) : Int))) (cond (decide ((0 : Int) ≤ i ∧ i < (↑(List.length r1) : Int))) (cond (smallI { mail := { id := V.toInt (List.getD (List.getD r (Int.toNat i) []) (0 : Nat) V.undef), shop := V.toStr (List.getD (List.getD r (Int.toNat i) []) (1 : Nat) V.undef), key := V.toStr (List.getD (List.getD r (Int.toNat i) []) (2 : Nat) V.undef), head := List.map (fun r => { key := V.toStr (List.getD r (0 : Nat) V.undef), kind := V.toInt (List.getD r (1 : Nat) V.undef), num := V.toInt (List.getD r (2 : Nat) V.undef), text := V.toStr (List.getD r (3 : Nat) V.undef) : HPair }) (V.toRows (List.getD (List.getD r (Int.toNat i) []) (3 : Nat) V.undef)), body := V.toStr (List.getD (List.getD r (Int.toNat i) []) (4 : Nat) V.undef), due := V.toInt (List.getD (List.getD r (Int.toNat i) []) (5 : Nat) V.undef), hops := V.toInt (List.getD (List.getD r (Int.toNat i) []) (6 : Nat) V.undef) : HMail }, lent := V.toBool (List.getD (List.getD r (Int.toNat i) []) (7 : Nat) V.undef), again := V.toBool (List.getD (List.getD r (Int.toNat i) []) (8 : Nat) V.undef) : HItem }) (cond (!N.sameI { mail := { id := V.toInt (List.getD (List.getD r (Int.toNat i) []) (0 : Nat) V.undef), shop := V.toStr (List.getD (List.getD r (Int.toNat i) []) (1 : Nat) V.undef), key := V.toStr (List.getD (List.getD r (Int.toNat i) []) (2 : Nat) V.undef), head := List.map (fun r => { key := V.toStr (List.getD r (0 : Nat) V.undef), kind := V.toInt (List.getD r (1 : Nat) V.undef), num := V.toInt (List.getD r (2 : Nat) V.undef), text := V.toStr (List.getD r (3 : Nat) V.undef) : HPair }) (V.toRows (List.getD (List.getD r (Int.toNat i) []) (3 : Nat) V.undef)), body := V.toStr (List.getD (List.getD r (Int.toNat i) []) (4 : Nat) V.undef), due := V.toInt (List.getD (List.getD r (Int.toNat i) []) (5 : Nat) V.undef), hops := V.toInt (List.getD (List.getD r (Int.toNat i) []) (6 : Nat) V.undef) : HMail }, lent := V.toBool (List.getD (List.getD r (Int.toNat i) []) (7 : Nat) V.undef), again := V.toBool (List.getD (List.getD r (Int.toNat i) []) (8 : Nat) V.undef) : HItem } { mail := { id := V.toInt (List.getD (List.getD r1 (Int.toNat i) []) (0 : Nat) V.undef), shop := V.toStr (List.getD (List.getD r1 (Int.toNat i) []) (1 : Nat) V.undef), key := V.toStr (List.getD (List.getD r1 (Int.toNat i) []) (2 : Nat) V.undef), head := List.map (fun r => { key := V.toStr (List.getD r (0 : Nat) V.undef), kind := V.toInt (List.getD r (1 : Nat) V.undef), num := V.toInt (List.getD r (2 : Nat) V.undef), text := V.toStr (List.getD r (3 : Nat) V.undef) : HPair }) (V.toRows (List.getD (List.getD r1 (Int.toNat i) []) (3 : Nat) V.undef)), body := V.toStr (List.getD (List.getD r1 (Int.toNat i) []) (4 : Nat) V.undef), due := V.toInt (List.getD (List.getD r1 (Int.toNat i) []) (5 : Nat) V.undef), hops := V.toInt (List.getD (List.getD r1 (Int.toNat i) []) (6 : Nat) V.undef) : HMail }, lent := V.toBool (List.getD (List.getD r1 (Int.toNat i) []) (7 : Nat) V.undef), again := V.toBool (List.getD (List.getD r1 (Int.toNat i) []) (8 : Nat) V.undef) : HItem }) (K Ex.ret { fr := [((6 : Nat), V.bool false)], tab := [] : St }) (K Ex.normal { fr := [((1 : Nat), V.slc [Sh.int IntKind.u64, Sh.str, Sh.str, Sh.slc [Sh.str, Sh.int IntKind.u8, Sh.int IntKind.i64, Sh.str], Sh.str, Sh.int IntKind.u64, Sh.int IntKind.u8, Sh.bool, Sh.bool] r1), ((2 : Nat), V.fn 63 [] []), ((15 : Nat), V.slc [Sh.int IntKind.u64, Sh.str, Sh.str, Sh.slc [Sh.str, Sh.int IntKind.u8, Sh.int IntKind.i64, Sh.str], Sh.str, Sh.int IntKind.u64, Sh.int IntKind.u8, Sh.bool, Sh.bool] r), ((16 : Nat), V.int IntKind.i64 n), ((17 : Nat), V.int IntKind.i64 (IntKind.wrap IntKind.i64 (i + (1 : Int))))], tab := [] : St })) (none)) (none)) (none)) (K (Ex.exit (0 : Nat)) { fr := [], tab := [] : St }) := by kernel_rfl
theorem ok_eqFI4 : RoundsOk eEqFI 62 4 := by
  refine rounds_of rfl fun l K q h => ?_
  unfold gEqFI at h
  split at h
  · rename_i r1 r n i
    have h1 := (cond_none h).1; replace h := (cond_none h).2; have h2 := (cond_none h).1; replace h := (cond_none h).2; have h3 := (cond_none h).1; replace h := (cond_none h).2; have h4 := (cond_none h).1; replace h := (cond_none h).2; have h5 := (cond_none h).1; replace h := (cond_none h).2
    have e1 := ieq_of h1
    have e2 := ieq_of h2
    have e3 := nbeq_of h3
    subst e1 e2
    have h4 : r.length ≤ 1000 := ble_of h4
    refine loop_ind (E := eEqFI) (f := 62) (id := 4) (σ := Nat) (fun i => { fr := [(1, .slc [.int .u64, .str, .str, .slc [.str, .int .u8, .int .i64, .str], .str, .int .u64, .int .u8, .bool, .bool] r1), (2, .fn 63 [] []), (15, .slc [.int .u64, .str, .str, .slc [.str, .int .u8, .int .i64, .str], .str, .int .u64, .int .u8, .bool, .bool] r), (16, .int .i64 r.length), (17, .int .i64 i)], tab := [] }) (fun i => i ≤ r.length) (fun i => r.length - i)
      (fun i K => cond (N.sameL ((r.drop i).map cItem.dec) ((r1.drop i).map cItem.dec)) (K (.exit 0) { fr := [], tab := [] }) (K .ret { fr := [(6, .bool false)], tab := [] })) (fun i hi => ?_) 0 (Nat.zero_le _) K q (by assumption)
    by_cases hl : i < r.length
    · rw [drop_decI hl, drop_decI (show i < r1.length by omega), sameL_cons]
      have hs := all_rowI h5 hl
      cases hc : N.sameI (cItem.dec (r.getD i [])) (cItem.dec (r1.getD i [])) with
      | true =>
        refine .inl ⟨i + 1, hl, by omega, fun K => ?_, fun K => rfl⟩
        rw [q_eqFIR]
        simp (disch := omega) only [evs, Int.toNat_natCast, fold_item, hs, hc, Bool.not_true]
        rfl
      | false =>
        refine .inr ⟨.ret, { fr := [(6, .bool false)], tab := [] }, by simp, fun K => ?_, fun K => rfl⟩
        rw [q_eqFIR]
        simp (disch := omega) only [evs, Int.toNat_natCast, fold_item, hs, hc, Bool.not_false]
    · refine .inr ⟨.exit 0, { fr := [], tab := [] }, by simp, fun K => ?_, fun K => ?_⟩
      · rw [q_eqFIR]
        simp (disch := omega) only [evs]
      · rw [List.drop_eq_nil_of_le (show r.length ≤ i by omega), List.drop_eq_nil_of_le (show r1.length ≤ i by omega)]; rfl
  · cases h
theorem ok_eqFI : FnOk Tryz.prog 62 (dEqFI 63) := by
  refine den_okF (env_ok ((TOk.nil _).cons ok_sameI)) (E := eEqFI) Tryz.func62 [4] (by kernel_rfl) (one1 ok_eqFI4) fun a _ h => ?_
  obtain ⟨a, b, ⟨⟩⟩ := a
  have h : smallL a = true := h
  obtain ⟨h0, h2, h3⟩ := smallL_of h
  refine (q_eqFI a b).trans ?_
  show _ = some (⟨.bool (N.sameL a b), [], []⟩ : DRes)
  by_cases hl : a.length = b.length
  · simp (disch := omega) only [evs, dec_encs, hl, h3, Nat.beq_refl]
    cases N.sameL a b <;> rfl
  · rw [sameL_len _ _ hl]
    simp (disch := omega) only [evs]
noncomputable def eSameL : Env := env Tryz.prog [(62, dEqFI 63)] [] []
theorem q_sameL (a b : List HItem) : evFn eSameL 26 ((aCons (vAgg cLine) (aOne (vAgg cLine))).enc (a, b)) ([]) some =
 cond (smallL (List.map (RCod.dec cItem) (List.map (RCod.enc cItem) a))) (some { v := V.bool (N.sameL (List.map (RCod.dec cItem) (List.map (RCod.enc cItem) a)) (List.map (RCod.dec cItem) (List.map (RCod.enc cItem) b))), bx := [] : DRes }) (none) := by kernel_rfl
theorem ok_sameL : FnOk Tryz.prog 26 dSameL := by
  refine den_okF (env_ok ((TOk.nil _).cons ok_eqFI)) (E := eSameL) Tryz.func26 [] (by kernel_rfl) none0 fun a _ h => ?_
  obtain ⟨a, b⟩ := a
  have h : smallL a = true := h
  refine (q_sameL a b).trans ?_
  simp only [dec_encs, h, cond_true]
  rfl
end Go.Ev

/- The document's lines: putting, making, sameness: lemmas. -/
namespace Go.Ev
open Go Go.Proofs
set_option maxRecDepth 100000
-- FOLD

def N.geE (id : Int) (l : List HItem) (e : Int) : Int := cond (cond (e == 0) (l.any fun y => ile id y.mail.id) false) 13 e
def dRPut : Den := den (aCons (vSl cItem) (aOne (vAgg cItem))) bNil (oTup (aCons (vSl cItem) (aOne (vInt .i64)))) (fun a _ => Nat.ble a.1.length 1000) fun a _ => (N.rPut a.1 a.2, ())
def dRSame : Den := den (aCons (vSl cItem) (aOne (vSl cItem))) bNil (oV vBool) (fun a _ => smallL a.1) fun a _ => (N.sameL a.1 a.2, ())
def dROf : Den := den (aOne (vSl cItem)) bNil (oTup (aCons (vSl cItem) (aOne (vInt .i64)))) (fun l _ => Nat.ble l.length 100) fun l _ => (N.rOf [] l, ())
def schRPut : SSch := { fr := [(0, .slc [.int .u64, .str, .str, .slc [.str, .int .u8, .int .i64, .str], .str, .int .u64, .int .u8, .bool, .bool]), (3, .ptr 10000 0 0), (6, .int .i64), (13, .slc [.int .u64, .str, .str, .slc [.str, .int .u8, .int .i64, .str], .str, .int .u64, .int .u8, .bool, .bool]), (14, .int .i64), (15, .int .i64)], tab := [(10000, .var [.int .u64, .str, .str, .slc [.str, .int .u8, .int .i64, .str], .str, .int .u64, .int .u8, .bool, .bool])] }
def gRPut : List Leaf → (Ex → St → Option R) → Option R
  | [.r l0, .i e, .r r, .i n, .i i, .i id, .s s1, .s s2, .r hd, .s s3, .i due, .i hops, .b b1, .b b2], K => cond (n == r.length) (cond (i == 0) (cond (Nat.ble r.length 1000)
      (K (.exit 0) { fr := [(0, .slc [.int .u64, .str, .str, .slc [.str, .int .u8, .int .i64, .str], .str, .int .u64, .int .u8, .bool, .bool] l0), (3, .ptr 10000 0 0 0), (6, .int .i64 (N.geE id (r.map cItem.dec) e))], tab := [(10000, .var [.int .u64 id, .str s1, .str s2, .slc [.str, .int .u8, .int .i64, .str] hd, .str s3, .int .u64 due, .int .u8 hops, .bool b1, .bool b2])] }) none) none) none
  | _, _ => none
noncomputable def eRPut : Env := env Tryz.prog [(111, dMailCheck)] [(3, loopF schRPut gRPut)] [(3, [(0, [0, 3, 6, 13, 14, 15]), (1, [0, 3, 6]), (1000, [4, 5])])]
theorem q_rPut (l : List HItem) (x : HItem) : evFn eRPut 61 ((aCons (vSl cItem) (aOne (vAgg cItem))).enc (l, x)) ([]) some =
 cond ((↑(List.length (List.map (RCod.enc cItem) l)) : Int) == (↑(List.length (List.map (RCod.enc cItem) l)) : Int)) (cond (Nat.ble (List.length (List.map (RCod.enc cItem) l)) (1000 : Nat)) (cond (N.geE (HMail.id (HItem.mail x)) (List.map (RCod.dec cItem) (List.map (RCod.enc cItem) l)) (N.mailCheck { id := HMail.id (HItem.mail x), shop := HMail.shop (HItem.mail x), key := HMail.key (HItem.mail x), head := List.map (fun r => { key := V.toStr (List.getD r (0 : Nat) V.undef), kind := V.toInt (List.getD r (1 : Nat) V.undef), num := V.toInt (List.getD r (2 : Nat) V.undef), text := V.toStr (List.getD r (3 : Nat) V.undef) : HPair }) (List.map (fun p => [V.str (HPair.key p), V.int IntKind.u8 (HPair.kind p), V.int IntKind.i64 (HPair.num p), V.str (HPair.text p)]) (HMail.head (HItem.mail x))), body := HMail.body (HItem.mail x), due := HMail.due (HItem.mail x), hops := HMail.hops (HItem.mail x) : HMail }) == (0 : Int)) (cond (ile (64 : Int) (↑(List.length (List.map (RCod.enc cItem) l)) : Int)) (some { v := V.tup [V.slc [Sh.int IntKind.u64, Sh.str, Sh.str, Sh.slc [Sh.str, Sh.int IntKind.u8, Sh.int IntKind.i64, Sh.str], Sh.str, Sh.int IntKind.u64, Sh.int IntKind.u8, Sh.bool, Sh.bool] (List.map (RCod.enc cItem) l), V.int IntKind.i64 (12 : Int)], bx := [] : DRes }) (cond (N.geE (HMail.id (HItem.mail x)) (List.map (RCod.dec cItem) (List.map (RCod.enc cItem) l)) (N.mailCheck { id := HMail.id (HItem.mail x), shop := HMail.shop (HItem.mail x), key := HMail.key (HItem.mail x), head := List.map (fun r => { key := V.toStr (List.getD r (0 : Nat) V.undef), kind := V.toInt (List.getD r (1 : Nat) V.undef), num := V.toInt (List.getD r (2 : Nat) V.undef), text := V.toStr (List.getD r (3 : Nat) V.undef) : HPair }) (List.map (fun p => [V.str (HPair.key p), V.int IntKind.u8 (HPair.kind p), V.int IntKind.i64 (HPair.num p), V.str (HPair.text p)]) (HMail.head (HItem.mail x))), body := HMail.body (HItem.mail x), due := HMail.due (HItem.mail x), hops := HMail.hops (HItem.mail x) : HMail }) != (0 : Int)) (some { v := V.tup [V.slc [Sh.int IntKind.u64, Sh.str, Sh.str, Sh.slc [Sh.str, Sh.int IntKind.u8, Sh.int IntKind.i64, Sh.str], Sh.str, Sh.int IntKind.u64, Sh.int IntKind.u8, Sh.bool, Sh.bool] (List.map (RCod.enc cItem) l), V.int IntKind.i64 (N.geE (HMail.id (HItem.mail x)) (List.map (RCod.dec cItem) (List.map (RCod.enc cItem) l)) (N.mailCheck { id := HMail.id (HItem.mail x), shop := HMail.shop (HItem.mail x), key := HMail.key (HItem.mail x), head := List.map (fun r => { key := V.toStr (List.getD r (0 : Nat) V.undef), kind := V.toInt (List.getD r (1 : Nat) V.undef), num := V.toInt (List.getD r (2 : Nat) V.undef), text := V.toStr (List.getD r (3 : Nat) V.undef) : HPair }) (List.map (fun p => [V.str (HPair.key p), V.int IntKind.u8 (HPair.kind p), V.int IntKind.i64 (HPair.num p), V.str (HPair.text p)]) (HMail.head (HItem.mail x))), body := HMail.body (HItem.mail x), due := HMail.due (HItem.mail x), hops := HMail.hops (HItem.mail x) : HMail }))], bx := [] : DRes }) (cond (decide (List.length (List.map (RCod.enc cItem) l) * (104 : Nat) ≤ (140737488355328 : Nat))) (cond (decide ((List.length (List.map (RCod.enc cItem) l) + (1 : Nat)) * (104 : Nat) ≤ (140737488355328 : Nat))) (some { v := V.tup [V.slc [Sh.int IntKind.u64, Sh.str, Sh.str, Sh.slc [Sh.str, Sh.int IntKind.u8, Sh.int IntKind.i64, Sh.str], Sh.str, Sh.int IntKind.u64, Sh.int IntKind.u8, Sh.bool, Sh.bool] (List.map (RCod.enc cItem) l ++ [[V.int IntKind.u64 (HMail.id (HItem.mail x)), V.str (HMail.shop (HItem.mail x)), V.str (HMail.key (HItem.mail x)), V.slc [Sh.str, Sh.int IntKind.u8, Sh.int IntKind.i64, Sh.str] (List.map (fun p => [V.str (HPair.key p), V.int IntKind.u8 (HPair.kind p), V.int IntKind.i64 (HPair.num p), V.str (HPair.text p)]) (HMail.head (HItem.mail x))), V.str (HMail.body (HItem.mail x)), V.int IntKind.u64 (HMail.due (HItem.mail x)), V.int IntKind.u8 (HMail.hops (HItem.mail x)), V.bool (HItem.lent x), V.bool (HItem.again x)]]), V.int IntKind.i64 (0 : Int)], bx := [] : DRes }) (none)) (none)))) (cond (N.geE (HMail.id (HItem.mail x)) (List.map (RCod.dec cItem) (List.map (RCod.enc cItem) l)) (N.mailCheck { id := HMail.id (HItem.mail x), shop := HMail.shop (HItem.mail x), key := HMail.key (HItem.mail x), head := List.map (fun r => { key := V.toStr (List.getD r (0 : Nat) V.undef), kind := V.toInt (List.getD r (1 : Nat) V.undef), num := V.toInt (List.getD r (2 : Nat) V.undef), text := V.toStr (List.getD r (3 : Nat) V.undef) : HPair }) (List.map (fun p => [V.str (HPair.key p), V.int IntKind.u8 (HPair.kind p), V.int IntKind.i64 (HPair.num p), V.str (HPair.text p)]) (HMail.head (HItem.mail x))), body := HMail.body (HItem.mail x), due := HMail.due (HItem.mail x), hops := HMail.hops (HItem.mail x) : HMail }) != (0 : Int)) (some { v := V.tup [V.slc [Sh.int IntKind.u64, Sh.str, Sh.str, Sh.slc [Sh.str, Sh.int IntKind.u8, Sh.int IntKind.i64, Sh.str], Sh.str, Sh.int IntKind.u64, Sh.int IntKind.u8, Sh.bool, Sh.bool] (List.map (RCod.enc cItem) l), V.int IntKind.i64 (N.geE (HMail.id (HItem.mail x)) (List.map (RCod.dec cItem) (List.map (RCod.enc cItem) l)) (N.mailCheck { id := HMail.id (HItem.mail x), shop := HMail.shop (HItem.mail x), key := HMail.key (HItem.mail x), head := List.map (fun r => { key := V.toStr (List.getD r (0 : Nat) V.undef), kind := V.toInt (List.getD r (1 : Nat) V.undef), num := V.toInt (List.getD r (2 : Nat) V.undef), text := V.toStr (List.getD r (3 : Nat) V.undef) : HPair }) (List.map (fun p => [V.str (HPair.key p), V.int IntKind.u8 (HPair.kind p), V.int IntKind.i64 (HPair.num p), V.str (HPair.text p)]) (HMail.head (HItem.mail x))), body := HMail.body (HItem.mail x), due := HMail.due (HItem.mail x), hops := HMail.hops (HItem.mail x) : HMail }))], bx := [] : DRes }) (cond (decide (List.length (List.map (RCod.enc cItem) l) * (104 : Nat) ≤ (140737488355328 : Nat))) (cond (decide ((List.length (List.map (RCod.enc cItem) l) + (1 : Nat)) * (104 : Nat) ≤ (140737488355328 : Nat))) (some { v := V.tup [V.slc [Sh.int IntKind.u64, Sh.str, Sh.str, Sh.slc [Sh.str, Sh.int IntKind.u8, Sh.int IntKind.i64, Sh.str], Sh.str, Sh.int IntKind.u64, Sh.int IntKind.u8, Sh.bool, Sh.bool] (List.map (RCod.enc cItem) l ++ [[V.int IntKind.u64 (HMail.id (HItem.mail x)), V.str (HMail.shop (HItem.mail x)), V.str (HMail.key (HItem.mail x)), V.slc [Sh.str, Sh.int IntKind.u8, Sh.int IntKind.i64, Sh.str] (List.map (fun p => [V.str (HPair.key p), V.int IntKind.u8 (HPair.kind p), V.int IntKind.i64 (HPair.num p), V.str (HPair.text p)]) (HMail.head (HItem.mail x))), V.str (HMail.body (HItem.mail x)), V.int IntKind.u64 (HMail.due (HItem.mail x)), V.int IntKind.u8 (HMail.hops (HItem.mail x)), V.bool (HItem.lent x), V.bool (HItem.again x)]]), V.int IntKind.i64 (0 : Int)], bx := [] : DRes }) (none)) (none)))) (none)) (none) := by kernel_rfl
theorem q_rPutR (l0 : List (List V)) (e : Int) (r : List (List V)) (n i id : Int) (s1 s2 : Bytes) (hd : List (List V)) (s3 : Bytes) (due hops : Int) (b1 b2 : Bool) (K : Ex → St → Option R) : evRound eRPut 61 3 { fr := [(0, .slc [.int .u64, .str, .str, .slc [.str, .int .u8, .int .i64, .str], .str, .int .u64, .int .u8, .bool, .bool] l0), (3, .ptr 10000 0 0 0), (6, .int .i64 e), (13, .slc [.int .u64, .str, .str, .slc [.str, .int .u8, .int .i64, .str], .str, .int .u64, .int .u8, .bool, .bool] r), (14, .int .i64 n), (15, .int .i64 i)], tab := [(10000, .var [.int .u64 id, .str s1, .str s2, .slc [.str, .int .u8, .int .i64, .str] hd, .str s3, .int .u64 due, .int .u8 hops, .bool b1, .bool b2])] } K =
 cond (ilt i n) (cond (decide ((0 : Int) ≤ i ∧ i < (↑(List.length r) : Int))) (cond (e == (0 : Int)) (cond (ile id (V.toInt (List.getD (List.getD r (Int.toNat i) []) (0 : Nat) V.undef))) (K Ex.normal { fr := [((0 : Nat), V.slc [Sh.int IntKind.u64, Sh.str, Sh.str, Sh.slc [Sh.str, Sh.int IntKind.u8, Sh.int IntKind.i64, Sh.str], Sh.str, Sh.int IntKind.u64, Sh.int IntKind.u8, Sh.bool, Sh.bool] l0), ((3 : Nat), V.ptr (10000 : Nat) (0 : Nat) (0 : Nat) (0 : Nat)), ((6 : Nat), V.int IntKind.i64 (13 : Int)), ((13 : Nat), V.slc [Sh.int IntKind.u64, Sh.str, Sh.str, Sh.slc [Sh.str, Sh.int IntKind.u8, Sh.int IntKind.i64, Sh.str], Sh.str, Sh.int IntKind.u64, Sh.int IntKind.u8, Sh.bool, Sh.bool] r), ((14 : Nat), V.int IntKind.i64 n), ((15 : Nat), V.int IntKind.i64 (IntKind.wrap IntKind.i64 (i + (1 : Int))))], tab := [((10000 : Nat), Box.var [V.int IntKind.u64 id, V.str s1, V.str s2, V.slc [Sh.str, Sh.int IntKind.u8, Sh.int IntKind.i64, Sh.str] hd, V.str s3, V.int IntKind.u64 due, V.int IntKind.u8 hops, V.bool b1, V.bool b2])] : St }) (K Ex.normal { fr := [((0 : Nat), V.slc [Sh.int IntKind.u64, Sh.str, Sh.str, Sh.slc [Sh.str, Sh.int IntKind.u8, Sh.int IntKind.i64, Sh.str], Sh.str, Sh.int IntKind.u64, Sh.int IntKind.u8, Sh.bool, Sh.bool] l0), ((3 : Nat), V.ptr (10000 : Nat) (0 : Nat) (0 : Nat) (0 : Nat)), ((6 : Nat), V.int IntKind.i64 e), ((13 : Nat), V.slc [Sh.int IntKind.u64, Sh.str, Sh.str, Sh.slc [Sh.str, Sh.int IntKind.u8, Sh.int IntKind.i64, Sh.str], Sh.str, Sh.int IntKind.u64, Sh.int IntKind.u8, Sh.bool, Sh.bool] r), ((14 : Nat), V.int IntKind.i64 n), ((15 : Nat), V.int IntKind.i64 (IntKind.wrap IntKind.i64 (i + (1 : Int))))], tab := [((10000 : Nat), Box.var [V.int IntKind.u64 id, V.str s1, V.str s2, V.slc [Sh.str, Sh.int IntKind.u8, Sh.int IntKind.i64, Sh.str] hd, V.str s3, V.int IntKind.u64 due, V.int IntKind.u8 hops, V.bool b1, V.bool b2])] : St })) (K Ex.normal { fr := [((0 : Nat), V.slc [Sh.int IntKind.u64, Sh.str, Sh.str, Sh.slc [Sh.str, Sh.int IntKind.u8, Sh.int IntKind.i64, Sh.str], Sh.str, Sh.int IntKind.u64, Sh.int IntKind.u8, Sh.bool, Sh.bool] l0), ((3 : Nat), V.ptr (10000 : Nat) (0 : Nat) (0 : Nat) (0 : Nat)), ((6 : Nat), V.int IntKind.i64 e), ((13 : Nat), V.slc [Sh.int IntKind.u64, Sh.str, Sh.str, Sh.slc [Sh.str, Sh.int IntKind.u8, Sh.int IntKind.i64, Sh.str], Sh.str, Sh.int IntKind.u64, Sh.int IntKind.u8, Sh.bool, Sh.bool] r), ((14 : Nat), V.int IntKind.i64 n), ((15 : Nat), V.int IntKind.i64 (IntKind.wrap IntKind.i64 (i + (1 : Int))))], tab := [((10000 : Nat), Box.var [V.int IntKind.u64 id, V.str s1, V.str s2, V.slc [Sh.str, Sh.int IntKind.u8, Sh.int IntKind.i64, Sh.str] hd, V.str s3, V.int IntKind.u64 due, V.int IntKind.u8 hops, V.bool b1, V.bool b2])] : St })) (none)) (K (Ex.exit (0 : Nat)) { fr := [((0 : Nat), V.slc [Sh.int IntKind.u64, Sh.str, Sh.str, Sh.slc [Sh.str, Sh.int IntKind.u8, Sh.int IntKind.i64, Sh.str], Sh.str, Sh.int IntKind.u64, Sh.int IntKind.u8, Sh.bool, Sh.bool] l0), ((3 : Nat), V.ptr (10000 : Nat) (0 : Nat) (0 : Nat) (0 : Nat)), ((6 : Nat), V.int IntKind.i64 e)], tab := [((10000 : Nat), Box.var [V.int IntKind.u64 id, V.str s1, V.str s2, V.slc [Sh.str, Sh.int IntKind.u8, Sh.int IntKind.i64, Sh.str] hd, V.str s3, V.int IntKind.u64 due, V.int IntKind.u8 hops, V.bool b1, V.bool b2])] : St }) := by kernel_rfl
theorem ok_rPut3 : RoundsOk eRPut 61 3 := by
  refine rounds_of rfl fun l K q h => ?_
  unfold gRPut at h
  split at h
  · rename_i l0 e r n i id s1 s2 hd s3 due hops b1 b2
    have h1 := (cond_none h).1; replace h := (cond_none h).2; have h2 := (cond_none h).1; replace h := (cond_none h).2; have h3 := (cond_none h).1; replace h := (cond_none h).2
    have e1 := ieq_of h1
    have e2 := ieq_of h2
    subst e1 e2
    have h3 : r.length ≤ 1000 := ble_of h3
    have main := range_ind (E := eRPut) (f := 61) (id := 3) (A := Int) r (fun e i => { fr := [(0, .slc [.int .u64, .str, .str, .slc [.str, .int .u8, .int .i64, .str], .str, .int .u64, .int .u8, .bool, .bool] l0), (3, .ptr 10000 0 0 0), (6, .int .i64 e), (13, .slc [.int .u64, .str, .str, .slc [.str, .int .u8, .int .i64, .str], .str, .int .u64, .int .u8, .bool, .bool] r), (14, .int .i64 r.length), (15, .int .i64 i)], tab := [(10000, .var [.int .u64 id, .str s1, .str s2, .slc [.str, .int .u8, .int .i64, .str] hd, .str s3, .int .u64 due, .int .u8 hops, .bool b1, .bool b2])] }) (fun _ _ => True)
      (fun e rows K => K (.exit 0) { fr := [(0, .slc [.int .u64, .str, .str, .slc [.str, .int .u8, .int .i64, .str], .str, .int .u64, .int .u8, .bool, .bool] l0), (3, .ptr 10000 0 0 0), (6, .int .i64 (N.geE id (rows.map cItem.dec) e))], tab := [(10000, .var [.int .u64 id, .str s1, .str s2, .slc [.str, .int .u8, .int .i64, .str] hd, .str s3, .int .u64 due, .int .u8 hops, .bool b1, .bool b2])] }) (fun e i _ hi => ?_) (fun e _ => ?_) e 0 (Int.le_refl _) (by omega) trivial K q (by assumption)
    · exact main
    · refine .inl ⟨cond (cond (e == 0) (ile id (cItem.dec (r.getD i [])).mail.id) false) 13 e, trivial, fun K => ?_, fun K => ?_⟩
      · rw [q_rPutR]
        have hm : V.toInt (List.getD (List.getD r i []) 0 V.undef) = (cItem.dec (r.getD i [])).mail.id := rfl
        simp (disch := omega) only [evs, Int.toNat_natCast, hm]
        cases e == 0 with
        | false => rfl
        | true => cases ile id (cItem.dec (r.getD i [])).mail.id <;> rfl
      · have he : N.geE id ((r.getD i [] :: r.drop (i + 1)).map cItem.dec) e = N.geE id ((r.drop (i + 1)).map cItem.dec) (cond (cond (e == 0) (ile id (cItem.dec (r.getD i [])).mail.id) false) 13 e) := by
          unfold N.geE
          rw [List.map_cons, List.any_cons]
          cases hz : e == 0 with
          | false => simp only [cond_false, hz]
          | true =>
            cases ile id (cItem.dec (r.getD i [])).mail.id with
            | true => rfl
            | false => simp only [cond_true, cond_false, hz, Bool.false_or]
        rw [he]
    · have he : N.geE id (([] : List (List V)).map cItem.dec) e = e := by
        unfold N.geE
        cases e == 0 <;> rfl
      refine ⟨.exit 0, { fr := [(0, .slc [.int .u64, .str, .str, .slc [.str, .int .u8, .int .i64, .str], .str, .int .u64, .int .u8, .bool, .bool] l0), (3, .ptr 10000 0 0 0), (6, .int .i64 (e))], tab := [(10000, .var [.int .u64 id, .str s1, .str s2, .slc [.str, .int .u8, .int .i64, .str] hd, .str s3, .int .u64 due, .int .u8 hops, .bool b1, .bool b2])] }, by simp, fun K => ?_, fun K => by rw [he]⟩
      rw [q_rPutR]
      simp (disch := omega) only [evs]
  · cases h
noncomputable def eRSameI : Env := env Tryz.prog [(20, dMailSame)] [] []
theorem q_rSameI (a b : HItem) : evFn eRSameI 48 ((aCons (vAgg cItem) (aOne (vAgg cItem))).enc (a, b)) ([]) some =
 cond (smallM { id := HMail.id (HItem.mail a), shop := HMail.shop (HItem.mail a), key := HMail.key (HItem.mail a), head := List.map (fun r => { key := V.toStr (List.getD r (0 : Nat) V.undef), kind := V.toInt (List.getD r (1 : Nat) V.undef), num := V.toInt (List.getD r (2 : Nat) V.undef), text := V.toStr (List.getD r (3 : Nat) V.undef) : HPair }) (List.map (fun p => [V.str (HPair.key p), V.int IntKind.u8 (HPair.kind p), V.int IntKind.i64 (HPair.num p), V.str (HPair.text p)]) (HMail.head (HItem.mail a))), body := HMail.body (HItem.mail a), due := HMail.due (HItem.mail a), hops := HMail.hops (HItem.mail a) : HMail }) (cond (N.mailSame { id := HMail.id (HItem.mail a), shop := HMail.shop (HItem.mail a), key := HMail.key (HItem.mail a), head := List.map (fun r => { key := V.toStr (List.getD r (0 : Nat) V.undef), kind := V.toInt (List.getD r (1 : Nat) V.undef), num := V.toInt (List.getD r (2 : Nat) V.undef), text := V.toStr (List.getD r (3 : Nat) V.undef) : HPair }) (List.map (fun p => [V.str (HPair.key p), V.int IntKind.u8 (HPair.kind p), V.int IntKind.i64 (HPair.num p), V.str (HPair.text p)]) (HMail.head (HItem.mail a))), body := HMail.body (HItem.mail a), due := HMail.due (HItem.mail a), hops := HMail.hops (HItem.mail a) : HMail } { id := HMail.id (HItem.mail b), shop := HMail.shop (HItem.mail b), key := HMail.key (HItem.mail b), head := List.map (fun r => { key := V.toStr (List.getD r (0 : Nat) V.undef), kind := V.toInt (List.getD r (1 : Nat) V.undef), num := V.toInt (List.getD r (2 : Nat) V.undef), text := V.toStr (List.getD r (3 : Nat) V.undef) : HPair }) (List.map (fun p => [V.str (HPair.key p), V.int IntKind.u8 (HPair.kind p), V.int IntKind.i64 (HPair.num p), V.str (HPair.text p)]) (HMail.head (HItem.mail b))), body := HMail.body (HItem.mail b), due := HMail.due (HItem.mail b), hops := HMail.hops (HItem.mail b) : HMail }) (cond (HItem.lent a == HItem.lent b) (some { v := V.bool (HItem.again a == HItem.again b), bx := [] : DRes }) (some { v := V.bool false, bx := [] : DRes })) (some { v := V.bool false, bx := [] : DRes })) (none) := by kernel_rfl
theorem ok_rSameI : FnOk Tryz.prog 48 dSameI := by
  refine den_okF (env_ok ((TOk.nil _).cons ok_refMailSame)) (E := eRSameI) Tryz.func48 [] (by kernel_rfl) none0 fun a _ h => ?_
  obtain ⟨a, b⟩ := a
  have h : smallM a.mail = true := h
  refine (q_rSameI a b).trans ?_
  show _ = some (⟨.bool (N.sameI a b), [], []⟩ : DRes)
  unfold N.sameI
  simp only [fold_de, h, cond_true]
  cases N.mailSame a.mail b.mail <;> cases a.lent == b.lent <;> rfl
def schRSame : SSch := { fr := [(0, .slc [.int .u64, .str, .str, .slc [.str, .int .u8, .int .i64, .str], .str, .int .u64, .int .u8, .bool, .bool]), (1, .slc [.int .u64, .str, .str, .slc [.str, .int .u8, .int .i64, .str], .str, .int .u64, .int .u8, .bool, .bool]), (12, .int .i64), (13, .int .i64)], tab := [] }
def gRSame : List Leaf → (Ex → St → Option R) → Option R
  | [.r r, .r r1, .i n, .i i], K => cond (n == r.length) (cond (i == 0) (cond (Nat.beq r.length r1.length) (cond (Nat.ble r.length 1000) (cond ((r.map cItem.dec).all smallI)
      (cond (N.sameL (r.map cItem.dec) (r1.map cItem.dec)) (K (.exit 0) { fr := [], tab := [] }) (K .ret { fr := [(4, .bool false)], tab := [] })) none) none) none) none) none
  | _, _ => none
noncomputable def eRSame : Env := env Tryz.prog [(48, dSameI)] [(4, loopF schRSame gRSame)] [(4, [(0, [0, 1, 12, 13]), (1, []), (1000, [4])])]
theorem q_rSame18 (a b : List HItem) : evFn eRSame 24 ((aCons (vSl cItem) (aOne (vSl cItem))).enc (a, b)) ([]) some =
 cond ((↑(List.length (List.map (RCod.enc cItem) a)) : Int) != (↑(List.length (List.map (RCod.enc cItem) b)) : Int)) (some { v := V.bool false, bx := [] : DRes }) (cond ((↑(List.length (List.map (RCod.enc cItem) a)) : Int) == (↑(List.length (List.map (RCod.enc cItem) a)) : Int)) (cond (Nat.beq (List.length (List.map (RCod.enc cItem) a)) (List.length (List.map (RCod.enc cItem) b))) (cond (Nat.ble (List.length (List.map (RCod.enc cItem) a)) (1000 : Nat)) (cond (List.all (List.map (RCod.dec cItem) (List.map (RCod.enc cItem) a)) smallI) (cond (N.sameL (List.map (RCod.dec cItem) (List.map (RCod.enc cItem) a)) (List.map (RCod.dec cItem) (List.map (RCod.enc cItem) b))) (some { v := V.bool true, bx := [] : DRes }) (some { v := V.bool false, bx := [] : DRes })) (none)) (none)) (none)) (none)) := by kernel_rfl
theorem q_rSame18R (r r1 : List (List V)) (n i : Int) (K : Ex → St → Option R) : evRound eRSame 24 4 { fr := [(0, .slc [.int .u64, .str, .str, .slc [.str, .int .u8, .int .i64, .str], .str, .int .u64, .int .u8, .bool, .bool] r), (1, .slc [.int .u64, .str, .str, .slc [.str, .int .u8, .int .i64, .str], .str, .int .u64, .int .u8, .bool, .bool] r1), (12, .int .i64 n), (13, .int .i64 i)], tab := [] } K =
 cond (ilt i n) (cond (decide ((0 : Int) ≤ i ∧ i < (↑(List.length r) : Int))) (cond (decide ((0 : Int) ≤ i ∧ i < (↑(List.length r1) : Int))) (cond (smallI { mail := { id := V.toInt (List.getD (List.getD r (Int.toNat i) []) (0 : Nat) V.undef), shop := V.toStr (List.getD (List.getD r (Int.toNat i) []) (1 : Nat) V.undef), key := V.toStr (List.getD (List.getD r (Int.toNat i) []) (2 : Nat) V.undef), head := List.map (fun r => { key := V.toStr (List.getD r (0 : Nat) V.undef), kind := V.toInt (List.getD r (1 : Nat) V.undef), num := V.toInt (List.getD r (2 : Nat) V.undef), text := V.toStr (List.getD r (3 : Nat) V.undef) : HPair }) (V.toRows (List.getD (List.getD r (Int.toNat i) []) (3 : Nat) V.undef)), body := V.toStr (List.getD (List.getD r (Int.toNat i) []) (4 : Nat) V.undef), due := V.toInt (List.getD (List.getD r (Int.toNat i) []) (5 : Nat) V.undef), hops := V.toInt (List.getD (List.getD r (Int.toNat i) []) (6 : Nat) V.undef) : HMail }, lent := V.toBool (List.getD (List.getD r (Int.toNat i) []) (7 : Nat) V.undef), again := V.toBool (List.getD (List.getD r (Int.toNat i) []) (8 : Nat) V.undef) : HItem }) (cond (!N.sameI { mail := { id := V.toInt (List.getD (List.getD r (Int.toNat i) []) (0 : Nat) V.undef), shop := V.toStr (List.getD (List.getD r (Int.toNat i) []) (1 : Nat) V.undef), key := V.toStr (List.getD (List.getD r (Int.toNat i) []) (2 : Nat) V.undef), head := List.map (fun r => { key := V.toStr (List.getD r (0 : Nat) V.undef), kind := V.toInt (List.getD r (1 : Nat) V.undef), num := V.toInt (List.getD r (2 : Nat) V.undef), text := V.toStr (List.getD r (3 : Nat) V.undef) : HPair }) (V.toRows (List.getD (List.getD r (Int.toNat i) []) (3 : Nat) V.undef)), body := V.toStr (List.getD (List.getD r (Int.toNat i) []) (4 : Nat) V.undef), due := V.toInt (List.getD (List.getD r (Int.toNat i) []) (5 : Nat) V.undef), hops := V.toInt (List.getD (List.getD r (Int.toNat i) []) (6 : Nat) V.undef) : HMail }, lent := V.toBool (List.getD (List.getD r (Int.toNat i) []) (7 : Nat) V.undef), again := V.toBool (List.getD (List.getD r (Int.toNat i) []) (8 : Nat) V.undef) : HItem } { mail := { id := V.toInt (List.getD (List.getD r1 (Int.toNat i) []) (0 : Nat) V.undef), shop := V.toStr (List.getD (List.getD r1 (Int.toNat i) []) (1 : Nat) V.undef), key := V.toStr (List.getD (List.getD r1 (Int.toNat i) []) (2 : Nat) V.undef), head := List.map (fun r => { key := V.toStr (List.getD r (0 : Nat) V.undef), kind := V.toInt (List.getD r (1 : Nat) V.undef), num := V.toInt (List.getD r (2 : Nat) V.undef), text := V.toStr (List.getD r (3 : Nat) V.undef) : HPair }) (V.toRows (List.getD (List.getD r1 (Int.toNat i) []) (3 : Nat) V.undef)), body := V.toStr (List.getD (List.getD r1 (Int.toNat i) []) (4 : Nat) V.undef), due := V.toInt (List.getD (List.getD r1 (Int.toNat i) []) (5 : Nat) V.undef), hops := V.toInt (List.getD (List.getD r1 (Int.toNat i) []) (6 : Nat) V.undef) : HMail }, lent := V.toBool (List.getD (List.getD r1 (Int.toNat i) []) (7 : Nat) V.undef), again := V.toBool (List.getD (List.getD r1 (Int.toNat i) []) (8 : Nat) V.undef) : HItem }) (K Ex.ret { fr := [((4 : Nat), V.bool false)], tab := [] : St }) (K Ex.normal { fr := [((0 : Nat), V.slc [Sh.int IntKind.u64, Sh.str, Sh.str, Sh.slc [Sh.str, Sh.int IntKind.u8, Sh.int IntKind.i64, Sh.str], Sh.str, Sh.int IntKind.u64, Sh.int IntKind.u8, Sh.bool, Sh.bool] r), ((1 : Nat), V.slc [Sh.int IntKind.u64, Sh.str, Sh.str, Sh.slc [Sh.str, Sh.int IntKind.u8, Sh.int IntKind.i64, Sh.str], Sh.str, Sh.int IntKind.u64, Sh.int IntKind.u8, Sh.bool, Sh.bool] r1), ((12 : Nat), V.int IntKind.i64 n), ((13 : Nat), V.int IntKind.i64 (IntKind.wrap IntKind.i64 (i + (1 : Int))))], tab := [] : St })) (none)) (none)) (none)) (K (Ex.exit (0 : Nat)) { fr := [], tab := [] : St }) := by kernel_rfl
theorem ok_rSame4 : RoundsOk eRSame 24 4 := by
  refine rounds_of rfl fun l K q h => ?_
  unfold gRSame at h
  split at h
  · rename_i r r1 n i
    have h1 := (cond_none h).1; replace h := (cond_none h).2; have h2 := (cond_none h).1; replace h := (cond_none h).2; have h3 := (cond_none h).1; replace h := (cond_none h).2; have h4 := (cond_none h).1; replace h := (cond_none h).2; have h5 := (cond_none h).1; replace h := (cond_none h).2
    have e1 := ieq_of h1
    have e2 := ieq_of h2
    have e3 := nbeq_of h3
    subst e1 e2
    have h4 : r.length ≤ 1000 := ble_of h4
    refine loop_ind (E := eRSame) (f := 24) (id := 4) (σ := Nat) (fun i => { fr := [(0, .slc [.int .u64, .str, .str, .slc [.str, .int .u8, .int .i64, .str], .str, .int .u64, .int .u8, .bool, .bool] r), (1, .slc [.int .u64, .str, .str, .slc [.str, .int .u8, .int .i64, .str], .str, .int .u64, .int .u8, .bool, .bool] r1), (12, .int .i64 r.length), (13, .int .i64 i)], tab := [] }) (fun i => i ≤ r.length) (fun i => r.length - i)
      (fun i K => cond (N.sameL ((r.drop i).map cItem.dec) ((r1.drop i).map cItem.dec)) (K (.exit 0) { fr := [], tab := [] }) (K .ret { fr := [(4, .bool false)], tab := [] })) (fun i hi => ?_) 0 (Nat.zero_le _) K q (by assumption)
    by_cases hl : i < r.length
    · rw [drop_decI hl, drop_decI (show i < r1.length by omega), sameL_cons]
      have hs := all_rowI h5 hl
      cases hc : N.sameI (cItem.dec (r.getD i [])) (cItem.dec (r1.getD i [])) with
      | true =>
        refine .inl ⟨i + 1, hl, by omega, fun K => ?_, fun K => rfl⟩
        rw [q_rSame18R]
        simp (disch := omega) only [evs, Int.toNat_natCast, fold_item, hs, hc, Bool.not_true]
        rfl
      | false =>
        refine .inr ⟨.ret, { fr := [(4, .bool false)], tab := [] }, by simp, fun K => ?_, fun K => rfl⟩
        rw [q_rSame18R]
        simp (disch := omega) only [evs, Int.toNat_natCast, fold_item, hs, hc, Bool.not_false]
    · refine .inr ⟨.exit 0, { fr := [], tab := [] }, by simp, fun K => ?_, fun K => ?_⟩
      · rw [q_rSame18R]
        simp (disch := omega) only [evs]
      · rw [List.drop_eq_nil_of_le (show r.length ≤ i by omega), List.drop_eq_nil_of_le (show r1.length ≤ i by omega)]; rfl
  · cases h
theorem ok_rSame18 : FnOk Tryz.prog 24 dRSame := by
  refine den_okF (env_ok ((TOk.nil _).cons ok_rSameI)) (E := eRSame) Tryz.func24 [4] (by kernel_rfl) (one1 ok_rSame4) fun a _ h => ?_
  obtain ⟨a, b⟩ := a
  have h : smallL a = true := h
  obtain ⟨h0, h2, h3⟩ := smallL_of h
  refine (q_rSame18 a b).trans ?_
  show _ = some (⟨.bool (N.sameL a b), [], []⟩ : DRes)
  by_cases hl : a.length = b.length
  · simp (disch := omega) only [evs, dec_encs, hl, h3, Nat.beq_refl]
    cases N.sameL a b <;> rfl
  · rw [sameL_len _ _ hl]
    simp (disch := omega) only [evs]
def schROf : SSch := { fr := [(4, .slc [.int .u64, .str, .str, .slc [.str, .int .u8, .int .i64, .str], .str, .int .u64, .int .u8, .bool, .bool]), (9, .slc [.int .u64, .str, .str, .slc [.str, .int .u8, .int .i64, .str], .str, .int .u64, .int .u8, .bool, .bool]), (10, .int .i64), (11, .int .i64)], tab := [] }
def gROf : List Leaf → (Ex → St → Option R) → Option R
  | [.r a, .r r, .i n, .i i], K => cond (n == r.length) (cond (i == 0) (cond (Nat.beq a.length 0) (cond (Nat.ble r.length 100)
      (cond ((N.rOf [] (r.map cItem.dec)).2 == 0) (K (.exit 0) { fr := [(4, .slc [.int .u64, .str, .str, .slc [.str, .int .u8, .int .i64, .str], .str, .int .u64, .int .u8, .bool, .bool] ((N.rOf [] (r.map cItem.dec)).1.map cItem.enc))], tab := [] })
        (K .ret { fr := [(2, .slc [.int .u64, .str, .str, .slc [.str, .int .u8, .int .i64, .str], .str, .int .u64, .int .u8, .bool, .bool] []), (3, .int .i64 (N.rOf [] (r.map cItem.dec)).2)], tab := [] })) none) none) none) none
  | _, _ => none
noncomputable def eROf : Env := { env Tryz.prog [(61, dRPut)] [(3, loopF schROf gROf)] [(3, [(0, [4, 9, 10, 11]), (1, [4]), (1000, [2, 3])])] with fy := true }
theorem q_rOf (l : List HItem) : evFn eROf 23 ((aOne (vSl cItem)).enc l) ([]) some =
 cond ((↑(List.length (List.map (RCod.enc cItem) l)) : Int) == (↑(List.length (List.map (RCod.enc cItem) l)) : Int)) (cond (Nat.ble (List.length (List.map (RCod.enc cItem) l)) (100 : Nat)) (cond (Prod.snd (N.rOf [] (List.map (RCod.dec cItem) (List.map (RCod.enc cItem) l))) == (0 : Int)) (some { v := V.tup [V.slc [Sh.int IntKind.u64, Sh.str, Sh.str, Sh.slc [Sh.str, Sh.int IntKind.u8, Sh.int IntKind.i64, Sh.str], Sh.str, Sh.int IntKind.u64, Sh.int IntKind.u8, Sh.bool, Sh.bool] (List.map (RCod.enc cItem) (Prod.fst (N.rOf [] (List.map (RCod.dec cItem) (List.map (RCod.enc cItem) l))))), V.int IntKind.i64 (0 : Int)], bx := [] : DRes }) (some { v := V.tup [V.slc [Sh.int IntKind.u64, Sh.str, Sh.str, Sh.slc [Sh.str, Sh.int IntKind.u8, Sh.int IntKind.i64, Sh.str], Sh.str, Sh.int IntKind.u64, Sh.int IntKind.u8, Sh.bool, Sh.bool] [], V.int IntKind.i64 (Prod.snd (N.rOf [] (List.map (RCod.dec cItem) (List.map (RCod.enc cItem) l))))], bx := [] : DRes })) (none)) (none) := by kernel_rfl
theorem q_rOfR (a r : List (List V)) (n i : Int) (K : Ex → St → Option R) : evRound eROf 23 3 { fr := [(4, .slc [.int .u64, .str, .str, .slc [.str, .int .u8, .int .i64, .str], .str, .int .u64, .int .u8, .bool, .bool] a), (9, .slc [.int .u64, .str, .str, .slc [.str, .int .u8, .int .i64, .str], .str, .int .u64, .int .u8, .bool, .bool] r), (10, .int .i64 n), (11, .int .i64 i)], tab := [] } K =
 cond (ilt i n) (cond (decide ((0 : Int) ≤ i ∧ i < (↑(List.length r) : Int))) (cond (Nat.ble (List.length (List.map (RCod.dec cItem) a)) (1000 : Nat)) (cond (Prod.snd (N.rPut (List.map (RCod.dec cItem) a) { mail := { id := V.toInt (List.getD (List.getD r (Int.toNat i) []) (0 : Nat) V.undef), shop := V.toStr (List.getD (List.getD r (Int.toNat i) []) (1 : Nat) V.undef), key := V.toStr (List.getD (List.getD r (Int.toNat i) []) (2 : Nat) V.undef), head := List.map (fun r => { key := V.toStr (List.getD r (0 : Nat) V.undef), kind := V.toInt (List.getD r (1 : Nat) V.undef), num := V.toInt (List.getD r (2 : Nat) V.undef), text := V.toStr (List.getD r (3 : Nat) V.undef) : HPair }) (V.toRows (List.getD (List.getD r (Int.toNat i) []) (3 : Nat) V.undef)), body := V.toStr (List.getD (List.getD r (Int.toNat i) []) (4 : Nat) V.undef), due := V.toInt (List.getD (List.getD r (Int.toNat i) []) (5 : Nat) V.undef), hops := V.toInt (List.getD (List.getD r (Int.toNat i) []) (6 : Nat) V.undef) : HMail }, lent := V.toBool (List.getD (List.getD r (Int.toNat i) []) (7 : Nat) V.undef), again := V.toBool (List.getD (List.getD r (Int.toNat i) []) (8 : Nat) V.undef) : HItem }) != (0 : Int)) (K Ex.ret { fr := [((2 : Nat), V.slc [Sh.int IntKind.u64, Sh.str, Sh.str, Sh.slc [Sh.str, Sh.int IntKind.u8, Sh.int IntKind.i64, Sh.str], Sh.str, Sh.int IntKind.u64, Sh.int IntKind.u8, Sh.bool, Sh.bool] []), ((3 : Nat), V.int IntKind.i64 (Prod.snd (N.rPut (List.map (RCod.dec cItem) a) { mail := { id := V.toInt (List.getD (List.getD r (Int.toNat i) []) (0 : Nat) V.undef), shop := V.toStr (List.getD (List.getD r (Int.toNat i) []) (1 : Nat) V.undef), key := V.toStr (List.getD (List.getD r (Int.toNat i) []) (2 : Nat) V.undef), head := List.map (fun r => { key := V.toStr (List.getD r (0 : Nat) V.undef), kind := V.toInt (List.getD r (1 : Nat) V.undef), num := V.toInt (List.getD r (2 : Nat) V.undef), text := V.toStr (List.getD r (3 : Nat) V.undef) : HPair }) (V.toRows (List.getD (List.getD r (Int.toNat i) []) (3 : Nat) V.undef)), body := V.toStr (List.getD (List.getD r (Int.toNat i) []) (4 : Nat) V.undef), due := V.toInt (List.getD (List.getD r (Int.toNat i) []) (5 : Nat) V.undef), hops := V.toInt (List.getD (List.getD r (Int.toNat i) []) (6 : Nat) V.undef) : HMail }, lent := V.toBool (List.getD (List.getD r (Int.toNat i) []) (7 : Nat) V.undef), again := V.toBool (List.getD (List.getD r (Int.toNat i) []) (8 : Nat) V.undef) : HItem })))], tab := [] : St }) (K Ex.normal { fr := [((4 : Nat), V.slc [Sh.int IntKind.u64, Sh.str, Sh.str, Sh.slc [Sh.str, Sh.int IntKind.u8, Sh.int IntKind.i64, Sh.str], Sh.str, Sh.int IntKind.u64, Sh.int IntKind.u8, Sh.bool, Sh.bool] (List.map (RCod.enc cItem) (Prod.fst (N.rPut (List.map (RCod.dec cItem) a) { mail := { id := V.toInt (List.getD (List.getD r (Int.toNat i) []) (0 : Nat) V.undef), shop := V.toStr (List.getD (List.getD r (Int.toNat i) []) (1 : Nat) V.undef), key := V.toStr (List.getD (List.getD r (Int.toNat i) []) (2 : Nat) V.undef), head := List.map (fun r => { key := V.toStr (List.getD r (0 : Nat) V.undef), kind := V.toInt (List.getD r (1 : Nat) V.undef), num := V.toInt (List.getD r (2 : Nat) V.undef), text := V.toStr (List.getD r (3 : Nat) V.undef) : HPair }) (V.toRows (List.getD (List.getD r (Int.toNat i) []) (3 : Nat) V.undef)), body := V.toStr (List.getD (List.getD r (Int.toNat i) []) (4 : Nat) V.undef), due := V.toInt (List.getD (List.getD r (Int.toNat i) []) (5 : Nat) V.undef), hops := V.toInt (List.getD (List.getD r (Int.toNat i) []) (6 : Nat) V.undef) : HMail }, lent := V.toBool (List.getD (List.getD r (Int.toNat i) []) (7 : Nat) V.undef), again := V.toBool (List.getD (List.getD r (Int.toNat i) []) (8 : Nat) V.undef) : HItem })))), ((9 : Nat), V.slc [Sh.int IntKind.u64, Sh.str, Sh.str, Sh.slc [Sh.str, Sh.int IntKind.u8, Sh.int IntKind.i64, Sh.str], Sh.str, Sh.int IntKind.u64, Sh.int IntKind.u8, Sh.bool, Sh.bool] r), ((10 : Nat), V.int IntKind.i64 n), ((11 : Nat), V.int IntKind.i64 (IntKind.wrap IntKind.i64 (i + (1 : Int))))], tab := [] : St })) (none)) (none)) (K (Ex.exit (0 : Nat)) { fr := [((4 : Nat), V.slc [Sh.int IntKind.u64, Sh.str, Sh.str, Sh.slc [Sh.str, Sh.int IntKind.u8, Sh.int IntKind.i64, Sh.str], Sh.str, Sh.int IntKind.u64, Sh.int IntKind.u8, Sh.bool, Sh.bool] a)], tab := [] : St }) := by kernel_rfl
theorem rPut_len (l : List HItem) (x : HItem) : (N.rPut l x).1.length ≤ l.length + 1 := by
  unfold N.rPut
  cases N.rRc l x.mail != 0 <;> simp
theorem rOf_bad : ∀ (r acc : List HItem), (N.rOf acc r).2 ≠ 0 → (N.rOf acc r).1 = []
  | [], _, h => absurd rfl h
  | x :: r, acc, h => by
    unfold N.rOf at h ⊢
    cases hc : (N.rPut acc x).2 != 0 with
    | true => rfl
    | false => rw [hc] at h; exact rOf_bad r _ h
theorem ok_rPut : FnOk Tryz.prog 61 dRPut := by
  refine den_okF (env_ok ((TOk.nil _).cons ok_refMailCheck)) (E := eRPut) Tryz.func61 [3] (by kernel_rfl) (one1 ok_rPut3) fun a _ h => ?_
  obtain ⟨l, x⟩ := a
  have h1 : Nat.ble l.length 1000 = true := h
  have h2 : l.length ≤ 1000 := ble_of h1
  refine (q_rPut l x).trans ?_
  show _ = some (⟨.tup [.slc [.int .u64, .str, .str, .slc [.str, .int .u8, .int .i64, .str], .str, .int .u64, .int .u8, .bool, .bool] ((N.rPut l x).1.map cItem.enc), .int .i64 (N.rPut l x).2], [], []⟩ : DRes)
  simp only [fold_de, dec_encs, List.length_map, h1, beq_self_eq_true, cond_true]
  unfold N.rPut N.rRc N.geE
  cases hc : N.mailCheck x.mail != 0 with
  | true =>
    have hz : (N.mailCheck x.mail == 0) = false := by rw [bne] at hc; simpa using hc
    simp (disch := omega) only [evs, hz, hc]
  | false =>
    have hz : N.mailCheck x.mail = 0 := by simpa using hc
    rw [hz]
    cases ha : l.any fun y => ile x.mail.id y.mail.id with
    | true => simp (disch := omega) only [evs, ha]
    | false =>
      by_cases h64 : 64 ≤ l.length
      · simp (disch := omega) only [evs, ha]
      · simp (disch := omega) only [evs, ha, pairs_enc, fold_itemE]
        rw [show List.map cItem.enc l ++ [cItem.enc x] = List.map cItem.enc (l ++ [x]) by simp]
theorem ok_rOf3 : RoundsOk eROf 23 3 := by
  refine rounds_of rfl fun l K q h => ?_
  unfold gROf at h
  split at h
  · rename_i a r n i
    have h1 := (cond_none h).1; replace h := (cond_none h).2; have h2 := (cond_none h).1; replace h := (cond_none h).2; have h3 := (cond_none h).1; replace h := (cond_none h).2; have h4 := (cond_none h).1; replace h := (cond_none h).2
    have e1 := ieq_of h1
    have e2 := ieq_of h2
    have e3 := List.eq_nil_of_length_eq_zero (nbeq_of h3)
    subst e1 e2 e3
    have h4 : r.length ≤ 100 := ble_of h4
    have main := range_ind (E := eROf) (f := 23) (id := 3) (A := List HItem) r (fun acc i => { fr := [(4, .slc [.int .u64, .str, .str, .slc [.str, .int .u8, .int .i64, .str], .str, .int .u64, .int .u8, .bool, .bool] (acc.map cItem.enc)), (9, .slc [.int .u64, .str, .str, .slc [.str, .int .u8, .int .i64, .str], .str, .int .u64, .int .u8, .bool, .bool] r), (10, .int .i64 r.length), (11, .int .i64 i)], tab := [] })
      (fun acc i => acc.length ≤ i)
      (fun acc rows K => cond ((N.rOf acc (rows.map cItem.dec)).2 == 0) (K (.exit 0) { fr := [(4, .slc [.int .u64, .str, .str, .slc [.str, .int .u8, .int .i64, .str], .str, .int .u64, .int .u8, .bool, .bool] ((N.rOf acc (rows.map cItem.dec)).1.map cItem.enc))], tab := [] })
        (K .ret { fr := [(2, .slc [.int .u64, .str, .str, .slc [.str, .int .u8, .int .i64, .str], .str, .int .u64, .int .u8, .bool, .bool] []), (3, .int .i64 (N.rOf acc (rows.map cItem.dec)).2)], tab := [] })) (fun acc i ha hi => ?_) (fun acc _ => ?_) [] 0 (Int.le_refl _) (by omega) (Nat.zero_le _) K q (by assumption)
    · exact main
    · have e : N.rOf acc ((r.getD i [] :: r.drop (i + 1)).map cItem.dec) = cond ((N.rPut acc (cItem.dec (r.getD i []))).2 != 0) ([], (N.rPut acc (cItem.dec (r.getD i []))).2) (N.rOf (N.rPut acc (cItem.dec (r.getD i []))).1 ((r.drop (i + 1)).map cItem.dec)) := rfl
      rw [e]
      cases hc : (N.rPut acc (cItem.dec (r.getD i []))).2 != 0 with
      | true =>
        have hz : ((N.rPut acc (cItem.dec (r.getD i []))).2 == 0) = false := by rw [bne] at hc; simpa using hc
        refine .inr ⟨.ret, { fr := [(2, .slc [.int .u64, .str, .str, .slc [.str, .int .u8, .int .i64, .str], .str, .int .u64, .int .u8, .bool, .bool] []), (3, .int .i64 (N.rPut acc (cItem.dec (r.getD i []))).2)], tab := [] }, by simp, fun K => ?_, fun K => ?_⟩
        · rw [q_rOfR]
          simp (disch := omega) only [evs, Int.toNat_natCast, fold_item, dec_encs, hc]
        · simp only [cond_true, hz, cond_false]
      | false =>
        have hp := rPut_len acc (cItem.dec (r.getD i []))
        refine .inl ⟨(N.rPut acc (cItem.dec (r.getD i []))).1, by omega, fun K => ?_, fun K => rfl⟩
        rw [q_rOfR]
        simp (disch := omega) only [evs, Int.toNat_natCast, fold_item, dec_encs, hc]
    · refine ⟨.exit 0, _, by simp, fun K => ?_, fun K => rfl⟩
      rw [q_rOfR]
      simp (disch := omega) only [evs]
      rfl
  · cases h
theorem ok_rOf : FnOk Tryz.prog 23 dROf := by
  refine den_okF (show TOk Tryz.prog _ from (TOk.nil _).cons ok_rPut) (E := eROf) Tryz.func23 [3] (by kernel_rfl) (one1 ok_rOf3) fun l _ hp => ?_
  have h1 : Nat.ble l.length 100 = true := hp
  refine (q_rOf l).trans ?_
  show _ = some (⟨.tup [.slc [.int .u64, .str, .str, .slc [.str, .int .u8, .int .i64, .str], .str, .int .u64, .int .u8, .bool, .bool] ((N.rOf [] l).1.map cItem.enc), .int .i64 (N.rOf [] l).2], [], []⟩ : DRes)
  simp only [List.length_map, dec_encs, h1, beq_self_eq_true, cond_true]
  cases hc : (N.rOf [] l).2 == 0 with
  | true => rw [ieq_of hc]; rfl
  | false =>
    have hb := rOf_bad l [] (fun e => by rw [e] at hc; cases hc)
    rw [hb]; rfl
end Go.Ev

/- What the statements on lines share: the example, a line as the document's; the statement on how a line is made: lemmas; the function that writes numbers is a premise. -/
namespace Go.Ev
open Go Go.Proofs
set_option maxRecDepth 100000
-- FOLD

noncomputable def eAw18 : Env := env Tryz.prog [(44, dLAdd), (28, dLLend), (45, dLBack), (18, dLFirst), (46, dTrue)] [] []
theorem q_aw18  : evFn eAw18 11 [] [] some =
 some { v := V.bool true, bx := [] : DRes } := by kernel_rfl
theorem ok_aw18 (hN : FnOk Tryz.prog 158 dOutNum) : FnOk Tryz.prog 11 dTrue :=
  den_okF (env_ok ((((((TOk.nil _).cons (ok_aw13' hN)).cons ok_lFirst).cons ok_lBack).cons ok_lLend).cons ok_lAdd)) (E := eAw18) Tryz.func11 [] (by kernel_rfl) none0 fun _ _ _ => q_aw18
/-- An item's row, read again. -/
def reRowI (r : List V) : List V := [V.int .u64 (V.toInt (List.getD r 0 .undef)), V.str (V.toStr (List.getD r 1 .undef)), V.str (V.toStr (List.getD r 2 .undef)), V.slc [.str, .int .u8, .int .i64, .str] (V.toRows (List.getD r 3 .undef)), V.str (V.toStr (List.getD r 4 .undef)), V.int .u64 (V.toInt (List.getD r 5 .undef)), V.int .u8 (V.toInt (List.getD r 6 .undef)), V.bool (V.toBool (List.getD r 7 .undef)), V.bool (V.toBool (List.getD r 8 .undef))]
def N.reRowsI (r : List (List V)) : List (List V) := r.map reRowI
theorem fold_reRowI (r : List V) : [V.int .u64 (V.toInt (List.getD r 0 .undef)), V.str (V.toStr (List.getD r 1 .undef)), V.str (V.toStr (List.getD r 2 .undef)), V.slc [.str, .int .u8, .int .i64, .str] (V.toRows (List.getD r 3 .undef)), V.str (V.toStr (List.getD r 4 .undef)), V.int .u64 (V.toInt (List.getD r 5 .undef)), V.int .u8 (V.toInt (List.getD r 6 .undef)), V.bool (V.toBool (List.getD r 7 .undef)), V.bool (V.toBool (List.getD r 8 .undef))] = reRowI r := rfl
theorem reRowsI_enc (l : List HItem) : N.reRowsI (l.map cItem.enc) = l.map cItem.enc := by
  unfold N.reRowsI
  rw [List.map_map]; rfl
theorem reRowsI_succ {r : List (List V)} {i : Nat} (h : i < r.length) : N.reRowsI (r.take (i + 1)) = N.reRowsI (r.take i) ++ [reRowI (r.getD i [])] := by
  unfold N.reRowsI
  rw [List.take_add_one, List.getD_eq_getElem?_getD, List.getElem?_eq_getElem h]
  simp only [Option.toList_some, List.map_append, List.map_cons, List.map_nil, Option.getD_some]
def dLawOf : Den := den (aOne (vAgg cLine)) bNil (oV (vSl cItem)) (fun l _ => smallL l) fun l _ => (l, ())
def schLawOf : SSch := { fr := [(3, .own 10000), (7, .slc [.int .u64, .str, .str, .slc [.str, .int .u8, .int .i64, .str], .str, .int .u64, .int .u8, .bool, .bool]), (8, .int .i64), (9, .int .i64)], tab := [(10000, .sl [.int .u64, .str, .str, .slc [.str, .int .u8, .int .i64, .str], .str, .int .u64, .int .u8, .bool, .bool])] }
def gLawOf : List Leaf → (Ex → St → Option R) → Option R
  | [.r r, .i n, .i i, .r a], K => cond (n == r.length) (cond (i == 0) (cond (Nat.beq a.length 0) (cond (Nat.ble r.length 1000)
      (K (.exit 0) { fr := [(3, .own 10000 0)], tab := [(10000, .sl [.int .u64, .str, .str, .slc [.str, .int .u8, .int .i64, .str], .str, .int .u64, .int .u8, .bool, .bool] (N.reRowsI r) 0)] }) none) none) none) none
  | _, _ => none
noncomputable def eLawOf : Env := env Tryz.prog [(15, dLAll)] [(3, loopF schLawOf gLawOf)] [(3, [(0, [3, 7, 8, 9]), (1, [3]), (1000, [2])])]
theorem q_lawOf (l : List HItem) : evFn eLawOf 25 ((aOne (vAgg cLine)).enc l) ([]) some =
 cond (smallL (List.map (RCod.dec cItem) (List.map (RCod.enc cItem) l))) (cond ((↑(List.length (List.map (RCod.enc cItem) (List.map (RCod.dec cItem) (List.map (RCod.enc cItem) l)))) : Int) == (↑(List.length (List.map (RCod.enc cItem) (List.map (RCod.dec cItem) (List.map (RCod.enc cItem) l)))) : Int)) (cond (Nat.ble (List.length (List.map (RCod.enc cItem) (List.map (RCod.dec cItem) (List.map (RCod.enc cItem) l)))) (1000 : Nat)) (some { v := V.slc [Sh.int IntKind.u64, Sh.str, Sh.str, Sh.slc [Sh.str, Sh.int IntKind.u8, Sh.int IntKind.i64, Sh.str], Sh.str, Sh.int IntKind.u64, Sh.int IntKind.u8, Sh.bool, Sh.bool] (N.reRowsI (List.map (RCod.enc cItem) (List.map (RCod.dec cItem) (List.map (RCod.enc cItem) l)))), bx := [] : DRes }) (none)) (none)) (none) := by kernel_rfl
theorem q_lawOfR (r : List (List V)) (n i : Int) (a : List (List V)) (K : Ex → St → Option R) : evRound eLawOf 25 3 { fr := [(3, .own 10000 0), (7, .slc [.int .u64, .str, .str, .slc [.str, .int .u8, .int .i64, .str], .str, .int .u64, .int .u8, .bool, .bool] r), (8, .int .i64 n), (9, .int .i64 i)], tab := [(10000, .sl [.int .u64, .str, .str, .slc [.str, .int .u8, .int .i64, .str], .str, .int .u64, .int .u8, .bool, .bool] a 0)] } K =
 cond (ilt i n) (cond (decide ((0 : Int) ≤ i ∧ i < (↑(List.length r) : Int))) (cond (decide ((List.length a + (1 : Nat)) * (104 : Nat) ≤ (140737488355328 : Nat))) (K Ex.normal { fr := [((3 : Nat), V.own (10000 : Nat) (0 : Nat)), ((7 : Nat), V.slc [Sh.int IntKind.u64, Sh.str, Sh.str, Sh.slc [Sh.str, Sh.int IntKind.u8, Sh.int IntKind.i64, Sh.str], Sh.str, Sh.int IntKind.u64, Sh.int IntKind.u8, Sh.bool, Sh.bool] r), ((8 : Nat), V.int IntKind.i64 n), ((9 : Nat), V.int IntKind.i64 (IntKind.wrap IntKind.i64 (i + (1 : Int))))], tab := [((10000 : Nat), Box.sl [Sh.int IntKind.u64, Sh.str, Sh.str, Sh.slc [Sh.str, Sh.int IntKind.u8, Sh.int IntKind.i64, Sh.str], Sh.str, Sh.int IntKind.u64, Sh.int IntKind.u8, Sh.bool, Sh.bool] (a ++ [[V.int IntKind.u64 (V.toInt (List.getD (List.getD r (Int.toNat i) []) (0 : Nat) V.undef)), V.str (V.toStr (List.getD (List.getD r (Int.toNat i) []) (1 : Nat) V.undef)), V.str (V.toStr (List.getD (List.getD r (Int.toNat i) []) (2 : Nat) V.undef)), V.slc [Sh.str, Sh.int IntKind.u8, Sh.int IntKind.i64, Sh.str] (V.toRows (List.getD (List.getD r (Int.toNat i) []) (3 : Nat) V.undef)), V.str (V.toStr (List.getD (List.getD r (Int.toNat i) []) (4 : Nat) V.undef)), V.int IntKind.u64 (V.toInt (List.getD (List.getD r (Int.toNat i) []) (5 : Nat) V.undef)), V.int IntKind.u8 (V.toInt (List.getD (List.getD r (Int.toNat i) []) (6 : Nat) V.undef)), V.bool (V.toBool (List.getD (List.getD r (Int.toNat i) []) (7 : Nat) V.undef)), V.bool (V.toBool (List.getD (List.getD r (Int.toNat i) []) (8 : Nat) V.undef))]]) (0 : Nat))] : St }) (none)) (none)) (K (Ex.exit (0 : Nat)) { fr := [((3 : Nat), V.own (10000 : Nat) (0 : Nat))], tab := [((10000 : Nat), Box.sl [Sh.int IntKind.u64, Sh.str, Sh.str, Sh.slc [Sh.str, Sh.int IntKind.u8, Sh.int IntKind.i64, Sh.str], Sh.str, Sh.int IntKind.u64, Sh.int IntKind.u8, Sh.bool, Sh.bool] a (0 : Nat))] : St }) := by kernel_rfl
theorem ok_lawOf : FnOk Tryz.prog 25 dLawOf := by
  refine den_okF (env_ok ((TOk.nil _).cons ok_lAll)) (E := eLawOf) Tryz.func25 [3] (by kernel_rfl) (one1 (rounds_of rfl fun l K q h => ?_)) fun l _ hp => ?_
  · unfold gLawOf at h
    split at h
    · rename_i r n i o
      have h1 := (cond_none h).1; replace h := (cond_none h).2; have h2 := (cond_none h).1; replace h := (cond_none h).2; have h3 := (cond_none h).1; replace h := (cond_none h).2; have h4 := (cond_none h).1; replace h := (cond_none h).2
      have e1 := ieq_of h1
      have e2 := ieq_of h2
      have e3 := List.eq_nil_of_length_eq_zero (nbeq_of h3)
      subst e1 e2 e3
      have h4 : r.length ≤ 1000 := ble_of h4
      have main := range_ind (E := eLawOf) (f := 25) (id := 3) (A := Unit) r (fun _ i => { fr := [(3, .own 10000 0), (7, .slc [.int .u64, .str, .str, .slc [.str, .int .u8, .int .i64, .str], .str, .int .u64, .int .u8, .bool, .bool] r), (8, .int .i64 r.length), (9, .int .i64 i)], tab := [(10000, .sl [.int .u64, .str, .str, .slc [.str, .int .u8, .int .i64, .str], .str, .int .u64, .int .u8, .bool, .bool] (N.reRowsI (r.take i.toNat)) 0)] }) (fun _ _ => True)
        (fun _ _ K => K (.exit 0) { fr := [(3, .own 10000 0)], tab := [(10000, .sl [.int .u64, .str, .str, .slc [.str, .int .u8, .int .i64, .str], .str, .int .u64, .int .u8, .bool, .bool] (N.reRowsI r) 0)] }) (fun _ i _ hi => ?_) (fun _ _ => ?_) () 0 (Int.le_refl _) (by omega) trivial K q (by assumption)
      · exact main
      · refine .inl ⟨(), trivial, fun K => ?_, fun K => rfl⟩
        rw [q_lawOfR]
        have hl : (N.reRowsI (r.take i)).length = i := by unfold N.reRowsI; simp; omega
        have ht := reRowsI_succ hi
        simp (disch := omega) only [evs, Int.toNat_natCast, fold_reRowI, hl]
        rw [← ht]
        rfl
      · refine ⟨.exit 0, _, by simp, fun K => ?_, fun K => rfl⟩
        rw [q_lawOfR]
        simp (disch := omega) only [evs, Int.toNat_natCast, List.take_length]
    · cases h
  · refine (q_lawOf l).trans ?_
    have hp : smallL l = true := hp
    obtain ⟨_, h1, h2⟩ := smallL_of hp
    show _ = some (⟨.slc [.int .u64, .str, .str, .slc [.str, .int .u8, .int .i64, .str], .str, .int .u64, .int .u8, .bool, .bool] (l.map cItem.enc), [], []⟩ : DRes)
    simp only [List.length_map, dec_encs, beq_self_eq_true, cond_true, h1, hp, reRowsI_enc]
def N.lightIs (l : List HItem) : Bool := l.all fun x => N.lightM x.mail
def schLineOf : SSch := { fr := [(0, .slc [.int .u64, .str, .str, .slc [.str, .int .u8, .int .i64, .str], .str, .int .u64, .int .u8, .bool, .bool]), (3, .own 10000), (17, .slc [.int .u64, .str, .str, .slc [.str, .int .u8, .int .i64, .str], .str, .int .u64, .int .u8, .bool, .bool]), (18, .int .i64), (19, .int .i64)], tab := [(10000, .sl [.int .u64, .str, .str, .slc [.str, .int .u8, .int .i64, .str], .str, .int .u64, .int .u8, .bool, .bool])] }
def gLineOf : List Leaf → (Ex → St → Option R) → Option R
  | [.r r0, .r r, .i n, .i i, .r a], K => cond (n == r.length) (cond (i == 0) (cond (Nat.beq a.length 0) (cond (Nat.ble r.length 100)
      (cond (N.lightIs (r.map cItem.dec)) (K (.exit 0) { fr := [(0, .slc [.int .u64, .str, .str, .slc [.str, .int .u8, .int .i64, .str], .str, .int .u64, .int .u8, .bool, .bool] r0), (3, .own 10000 0)], tab := [(10000, .sl [.int .u64, .str, .str, .slc [.str, .int .u8, .int .i64, .str], .str, .int .u64, .int .u8, .bool, .bool] (N.reRowsI r) 0)] }) (K .ret { fr := [(2, .bool true)], tab := [] })) none) none) none) none
  | _, _ => none
noncomputable def eLineOf : Env := env Tryz.prog [(11, dTrue), (21, dLightM), (22, dLOf), (23, dROf), (25, dLawOf), (24, dRSame), (15, dLAll), (26, dSameL)] [(7, loopF schLineOf gLineOf)] [(7, [(0, [0, 3, 17, 18, 19]), (1, [0, 3]), (1000, [2])])]
theorem q_lineOf (l : List HItem) : evFn eLineOf 5 ((aOne (vSl cItem)).enc l) ([]) some =
 cond (ilt (70 : Int) (↑(List.length (List.map (RCod.enc cItem) l)) : Int)) (some { v := V.bool true, bx := [] : DRes }) (cond ((↑(List.length (List.map (RCod.enc cItem) l)) : Int) == (↑(List.length (List.map (RCod.enc cItem) l)) : Int)) (cond (Nat.ble (List.length (List.map (RCod.enc cItem) l)) (100 : Nat)) (cond (N.lightIs (List.map (RCod.dec cItem) (List.map (RCod.enc cItem) l))) (cond (bif Nat.ble (List.length (List.map (RCod.dec cItem) (List.map (RCod.enc cItem) l))) (100 : Nat) then List.all (List.map (RCod.dec cItem) (List.map (RCod.enc cItem) l)) smallI else false) (cond (Nat.ble (List.length (List.map (RCod.dec cItem) (N.reRowsI (List.map (RCod.enc cItem) l)))) (100 : Nat)) (cond (Prod.snd (N.lOf [] (List.map (RCod.dec cItem) (List.map (RCod.enc cItem) l))) != Prod.snd (N.rOf [] (List.map (RCod.dec cItem) (N.reRowsI (List.map (RCod.enc cItem) l))))) (some { v := V.bool false, bx := [] : DRes }) (cond (smallL (List.map (RCod.dec cItem) (List.map (RCod.enc cItem) (Prod.fst (N.lOf [] (List.map (RCod.dec cItem) (List.map (RCod.enc cItem) l))))))) (cond (smallL (List.map (RCod.dec cItem) (List.map (RCod.enc cItem) (List.map (RCod.dec cItem) (List.map (RCod.enc cItem) (Prod.fst (N.lOf [] (List.map (RCod.dec cItem) (List.map (RCod.enc cItem) l))))))))) (cond (!N.sameL (List.map (RCod.dec cItem) (List.map (RCod.enc cItem) (List.map (RCod.dec cItem) (List.map (RCod.enc cItem) (Prod.fst (N.lOf [] (List.map (RCod.dec cItem) (List.map (RCod.enc cItem) l)))))))) (List.map (RCod.dec cItem) (List.map (RCod.enc cItem) (Prod.fst (N.rOf [] (List.map (RCod.dec cItem) (N.reRowsI (List.map (RCod.enc cItem) l)))))))) (some { v := V.bool false, bx := [] : DRes }) (cond (smallL (List.map (RCod.dec cItem) (List.map (RCod.enc cItem) (Prod.fst (N.lOf [] (List.map (RCod.dec cItem) (List.map (RCod.enc cItem) l))))))) (cond (bif Nat.ble (List.length (List.map (RCod.dec cItem) (List.map (RCod.enc cItem) (List.map (RCod.dec cItem) (List.map (RCod.enc cItem) (Prod.fst (N.lOf [] (List.map (RCod.dec cItem) (List.map (RCod.enc cItem) l))))))))) (100 : Nat) then List.all (List.map (RCod.dec cItem) (List.map (RCod.enc cItem) (List.map (RCod.dec cItem) (List.map (RCod.enc cItem) (Prod.fst (N.lOf [] (List.map (RCod.dec cItem) (List.map (RCod.enc cItem) l)))))))) smallI else false) (cond (Prod.snd (N.lOf [] (List.map (RCod.dec cItem) (List.map (RCod.enc cItem) (List.map (RCod.dec cItem) (List.map (RCod.enc cItem) (Prod.fst (N.lOf [] (List.map (RCod.dec cItem) (List.map (RCod.enc cItem) l))))))))) == (0 : Int)) (cond (smallL (List.map (RCod.dec cItem) (List.map (RCod.enc cItem) (Prod.fst (N.lOf [] (List.map (RCod.dec cItem) (List.map (RCod.enc cItem) l))))))) (some { v := V.bool (N.sameL (List.map (RCod.dec cItem) (List.map (RCod.enc cItem) (Prod.fst (N.lOf [] (List.map (RCod.dec cItem) (List.map (RCod.enc cItem) l)))))) (List.map (RCod.dec cItem) (List.map (RCod.enc cItem) (Prod.fst (N.lOf [] (List.map (RCod.dec cItem) (List.map (RCod.enc cItem) (List.map (RCod.dec cItem) (List.map (RCod.enc cItem) (Prod.fst (N.lOf [] (List.map (RCod.dec cItem) (List.map (RCod.enc cItem) l))))))))))))), bx := [] : DRes }) (none)) (some { v := V.bool false, bx := [] : DRes })) (none)) (none))) (none)) (none))) (none)) (none)) (some { v := V.bool true, bx := [] : DRes })) (none)) (none)) := by kernel_rfl
theorem q_lineOfR (r0 r : List (List V)) (n i : Int) (a : List (List V)) (K : Ex → St → Option R) : evRound eLineOf 5 7 { fr := [(0, .slc [.int .u64, .str, .str, .slc [.str, .int .u8, .int .i64, .str], .str, .int .u64, .int .u8, .bool, .bool] r0), (3, .own 10000 0), (17, .slc [.int .u64, .str, .str, .slc [.str, .int .u8, .int .i64, .str], .str, .int .u64, .int .u8, .bool, .bool] r), (18, .int .i64 n), (19, .int .i64 i)], tab := [(10000, .sl [.int .u64, .str, .str, .slc [.str, .int .u8, .int .i64, .str], .str, .int .u64, .int .u8, .bool, .bool] a 0)] } K =
 cond (ilt i n) (cond (decide ((0 : Int) ≤ i ∧ i < (↑(List.length r) : Int))) (cond (!N.lightM { id := V.toInt (List.getD (List.getD r (Int.toNat i) []) (0 : Nat) V.undef), shop := V.toStr (List.getD (List.getD r (Int.toNat i) []) (1 : Nat) V.undef), key := V.toStr (List.getD (List.getD r (Int.toNat i) []) (2 : Nat) V.undef), head := List.map (fun r => { key := V.toStr (List.getD r (0 : Nat) V.undef), kind := V.toInt (List.getD r (1 : Nat) V.undef), num := V.toInt (List.getD r (2 : Nat) V.undef), text := V.toStr (List.getD r (3 : Nat) V.undef) : HPair }) (V.toRows (List.getD (List.getD r (Int.toNat i) []) (3 : Nat) V.undef)), body := V.toStr (List.getD (List.getD r (Int.toNat i) []) (4 : Nat) V.undef), due := V.toInt (List.getD (List.getD r (Int.toNat i) []) (5 : Nat) V.undef), hops := V.toInt (List.getD (List.getD r (Int.toNat i) []) (6 : Nat) V.undef) : HMail }) (K Ex.ret { fr := [((2 : Nat), V.bool true)], tab := [] : St }) (cond (decide ((List.length a + (1 : Nat)) * (104 : Nat) ≤ (140737488355328 : Nat))) (K Ex.normal { fr := [((0 : Nat), V.slc [Sh.int IntKind.u64, Sh.str, Sh.str, Sh.slc [Sh.str, Sh.int IntKind.u8, Sh.int IntKind.i64, Sh.str], Sh.str, Sh.int IntKind.u64, Sh.int IntKind.u8, Sh.bool, Sh.bool] r0), ((3 : Nat), V.own (10000 : Nat) (0 : Nat)), ((17 : Nat), V.slc [Sh.int IntKind.u64, Sh.str, Sh.str, Sh.slc [Sh.str, Sh.int IntKind.u8, Sh.int IntKind.i64, Sh.str], Sh.str, Sh.int IntKind.u64, Sh.int IntKind.u8, Sh.bool, Sh.bool] r), ((18 : Nat), V.int IntKind.i64 n), ((19 : Nat), V.int IntKind.i64 (IntKind.wrap IntKind.i64 (i + (1 : Int))))], tab := [((10000 : Nat), Box.sl [Sh.int IntKind.u64, Sh.str, Sh.str, Sh.slc [Sh.str, Sh.int IntKind.u8, Sh.int IntKind.i64, Sh.str], Sh.str, Sh.int IntKind.u64, Sh.int IntKind.u8, Sh.bool, Sh.bool] (a ++ [[V.int IntKind.u64 (V.toInt (List.getD (List.getD r (Int.toNat i) []) (0 : Nat) V.undef)), V.str (V.toStr (List.getD (List.getD r (Int.toNat i) []) (1 : Nat) V.undef)), V.str (V.toStr (List.getD (List.getD r (Int.toNat i) []) (2 : Nat) V.undef)), V.slc [Sh.str, Sh.int IntKind.u8, Sh.int IntKind.i64, Sh.str] (V.toRows (List.getD (List.getD r (Int.toNat i) []) (3 : Nat) V.undef)), V.str (V.toStr (List.getD (List.getD r (Int.toNat i) []) (4 : Nat) V.undef)), V.int IntKind.u64 (V.toInt (List.getD (List.getD r (Int.toNat i) []) (5 : Nat) V.undef)), V.int IntKind.u8 (V.toInt (List.getD (List.getD r (Int.toNat i) []) (6 : Nat) V.undef)), V.bool (V.toBool (List.getD (List.getD r (Int.toNat i) []) (7 : Nat) V.undef)), V.bool (V.toBool (List.getD (List.getD r (Int.toNat i) []) (8 : Nat) V.undef))]]) (0 : Nat))] : St }) (none))) (none)) (K (Ex.exit (0 : Nat)) { fr := [((0 : Nat), V.slc [Sh.int IntKind.u64, Sh.str, Sh.str, Sh.slc [Sh.str, Sh.int IntKind.u8, Sh.int IntKind.i64, Sh.str], Sh.str, Sh.int IntKind.u64, Sh.int IntKind.u8, Sh.bool, Sh.bool] r0), ((3 : Nat), V.own (10000 : Nat) (0 : Nat))], tab := [((10000 : Nat), Box.sl [Sh.int IntKind.u64, Sh.str, Sh.str, Sh.slc [Sh.str, Sh.int IntKind.u8, Sh.int IntKind.i64, Sh.str], Sh.str, Sh.int IntKind.u64, Sh.int IntKind.u8, Sh.bool, Sh.bool] a (0 : Nat))] : St }) := by kernel_rfl
theorem ok_lineOf7 : RoundsOk eLineOf 5 7 := by
  refine rounds_of rfl fun l K q h => ?_
  unfold gLineOf at h
  split at h
  · rename_i r0 r n i o
    have h1 := (cond_none h).1; replace h := (cond_none h).2; have h2 := (cond_none h).1; replace h := (cond_none h).2; have h3 := (cond_none h).1; replace h := (cond_none h).2; have h4 := (cond_none h).1; replace h := (cond_none h).2
    have e1 := ieq_of h1
    have e2 := ieq_of h2
    have e3 := List.eq_nil_of_length_eq_zero (nbeq_of h3)
    subst e1 e2 e3
    have h4 : r.length ≤ 100 := ble_of h4
    have main := loop_ind (E := eLineOf) (f := 5) (id := 7) (σ := Nat) (fun i => { fr := [(0, .slc [.int .u64, .str, .str, .slc [.str, .int .u8, .int .i64, .str], .str, .int .u64, .int .u8, .bool, .bool] r0), (3, .own 10000 0), (17, .slc [.int .u64, .str, .str, .slc [.str, .int .u8, .int .i64, .str], .str, .int .u64, .int .u8, .bool, .bool] r), (18, .int .i64 r.length), (19, .int .i64 i)], tab := [(10000, .sl [.int .u64, .str, .str, .slc [.str, .int .u8, .int .i64, .str], .str, .int .u64, .int .u8, .bool, .bool] (N.reRowsI (r.take i)) 0)] }) (fun i => i ≤ r.length) (fun i => r.length - i)
      (fun i K => cond (N.lightIs ((r.drop i).map cItem.dec)) (K (.exit 0) { fr := [(0, .slc [.int .u64, .str, .str, .slc [.str, .int .u8, .int .i64, .str], .str, .int .u64, .int .u8, .bool, .bool] r0), (3, .own 10000 0)], tab := [(10000, .sl [.int .u64, .str, .str, .slc [.str, .int .u8, .int .i64, .str], .str, .int .u64, .int .u8, .bool, .bool] (N.reRowsI r) 0)] }) (K .ret { fr := [(2, .bool true)], tab := [] })) (fun i hi => ?_) 0 (Nat.zero_le _) K q (by assumption)
    · exact main
    · by_cases hl : i < r.length
      · rw [drop_decI hl]
        have e : N.lightIs (cItem.dec (r.getD i []) :: (r.drop (i + 1)).map cItem.dec) = (N.lightM (cItem.dec (r.getD i [])).mail && N.lightIs ((r.drop (i + 1)).map cItem.dec)) := rfl
        rw [e]
        have hm : cMail.dec (r.getD i []) = (cItem.dec (r.getD i [])).mail := rfl
        have hln : (N.reRowsI (r.take i)).length = i := by unfold N.reRowsI; simp; omega
        cases hc : N.lightM (cItem.dec (r.getD i [])).mail with
        | true =>
          refine .inl ⟨i + 1, hl, by omega, fun K => ?_, fun K => by rw [Bool.true_and]⟩
          rw [q_lineOfR]
          have ht := reRowsI_succ hl
          simp (disch := omega) only [evs, Int.toNat_natCast, fold_mail, hm, hc, Bool.not_true, fold_reRowI, hln]
          rw [← ht]
          rfl
        | false =>
          refine .inr ⟨.ret, { fr := [(2, .bool true)], tab := [] }, by simp, fun K => ?_, fun K => by rw [Bool.false_and]; rfl⟩
          rw [q_lineOfR]
          simp (disch := omega) only [evs, Int.toNat_natCast, fold_mail, hm, hc, Bool.not_false]
      · have ei : i = r.length := by omega
        subst ei
        refine .inr ⟨.exit 0, { fr := [(0, .slc [.int .u64, .str, .str, .slc [.str, .int .u8, .int .i64, .str], .str, .int .u64, .int .u8, .bool, .bool] r0), (3, .own 10000 0)], tab := [(10000, .sl [.int .u64, .str, .str, .slc [.str, .int .u8, .int .i64, .str], .str, .int .u64, .int .u8, .bool, .bool] (N.reRowsI r) 0)] }, by simp, fun K => ?_, fun K => ?_⟩
        · rw [q_lineOfR]
          simp (disch := omega) only [evs, List.take_length]
        · rw [List.drop_eq_nil_of_le (Nat.le_refl _)]; rfl
  · cases h
theorem light_smallI {l : List HItem} (h : N.lightIs l = true) : l.all smallI = true := by
  rw [List.all_eq_true]
  intro x hx
  have h1 : N.lightM x.mail = true := List.all_eq_true.1 h x hx
  obtain ⟨_, h1⟩ := bcond h1
  obtain ⟨_, h1⟩ := bcond h1
  obtain ⟨h1, _⟩ := bcond h1
  exact ble_t (Nat.le_trans (light_small h1) (by decide))
theorem LInv.smallL {l : List HItem} (h : LInv l) : Go.Ev.smallL l = true := by
  unfold Go.Ev.smallL
  rw [ble_t (Nat.le_trans h.few (by decide)), h.small]; rfl
theorem ok_lawLO (hN : FnOk Tryz.prog 158 dOutNum) : FnOk Tryz.prog 5 (den (aOne (vSl cItem)) bNil (oV vBool) (fun _ _ => true) fun _ _ => (true, ())) := by
  refine den_okF (env_ok (((((((((TOk.nil _).cons ok_sameL).cons ok_lAll).cons ok_rSame18).cons ok_lawOf).cons ok_rOf).cons ok_lOf).cons ok_lightM).cons (ok_aw18 hN))) (E := eLineOf) Tryz.func5 [7] (by kernel_rfl) (one1 ok_lineOf7) fun l _ _ => ?_
  refine (q_lineOf l).trans ?_
  show _ = some (⟨.bool true, [], []⟩ : DRes)
  simp only [dec_encs, List.length_map, reRowsI_enc]
  by_cases h70 : 70 < l.length
  · simp (disch := omega) only [evs]
  · cases hl : N.lightIs l with
    | false => simp (disch := omega) only [evs]
    | true =>
      have hs := light_smallI hl
      have hr := rOf_eq l [] linv0 hs
      have hi := lOf_linv l [] linv0 hs
      have hsl := hi.smallL
      have hfew := hi.few
      have hx : N.lOf [] (N.lOf [] l).1 = ((N.lOf [] l).1, 0) := by
        by_cases h0 : (N.lOf [] l).2 = 0
        · have e := lOf_ok l [] h0
          rw [List.nil_append] at e
          rw [e]
          exact Prod.ext e h0
        · rw [lOf_bad l [] h0]; rfl
      have hb : Nat.ble (N.lOf [] l).1.length 100 = true := ble_t (by omega)
      simp (disch := omega) only [evs, hs, hr, hsl, hi.small, hx, hb, sameL_refl, Bool.not_true, bne_self_eq_false, beq_self_eq_true]
end Go.Ev

/- The library's text builder in this program, and the function that writes a number's bytes with it: lemmas, no condition but the text's length. -/
namespace Go.Ev
open Go Go.Proofs Go.RowKit Go.Shelf

theorem bSize : (Tryz.prog.info? 216).map (·.size) = some 2 := by kernel_rfl
theorem bLies : liesAt Tryz.prog Tryz.prog.depth 216 (2 / Tryz.prog.cellsOf 216) 0 216 1 = true := by kernel_rfl
theorem bByte : (Tryz.prog.info? 5).map (fun i => (i.zero, i.size, i.bytes)) = some (some (.int .u8 0), 1, 1) := by kernel_rfl

set_option maxHeartbeats 1000000 in
set_option maxRecDepth 100000 in
theorem cc_used (b : Nat) (w : World) (h0 : w.cell? ⟨b, 0, none⟩ = some (.pointer (some ⟨b, 0, none⟩))) :
    Calls Tryz.prog 175 #[.pointer (some ⟨b, 0, none⟩)] w fun e w' => e = .returned (.tuple #[]) ∧ w' = w := by
  obtain ⟨j, hj, _⟩ := Option.map_eq_some_iff.1 bSize
  go_enter Tryz.func175, Tryz.ntmps175
  go_wp2
  rw [Lib.run_neq_ptr_same w _ Tryz.underlying213 hj]
  go_wp2
  go_end0
  exact ⟨rfl, rfl⟩
set_option maxHeartbeats 1000000 in
set_option maxRecDepth 100000 in
theorem cc_fresh (b : Nat) (w : World) (h0 : w.cell? ⟨b, 0, none⟩ = some (.pointer none)) (hsh : w.shape? b = some (216, 2)) (hfz : w.frozen? ⟨b, 0, none⟩ = false) :
    Calls Tryz.prog 175 #[.pointer (some ⟨b, 0, none⟩)] w fun e w' => e = .returned (.tuple #[]) ∧ w' = w.setCell ⟨b, 0, none⟩ (.pointer (some ⟨b, 0, none⟩)) := by
  obtain ⟨j, hj, hjs⟩ := Option.map_eq_some_iff.1 bSize
  go_enter Tryz.func175, Tryz.ntmps175
  go_wp2
  rw [Lib.run_to_unsafe w ⟨b, 0, none⟩ Tryz.underlying213 Tryz.underlying224 hj (by rw [hjs]; decide) hsh (Nat.zero_lt_succ 1)]
  simp only [Result.andThen]
  rw [Oper.upon_value]
  go_wp2
  rw [run_callFunc_extern Tryz.func180 (by kernel_rfl) (by kernel_rfl) (by kernel_rfl) (e := Extern.AbiNoEscape.same) (by kernel_rfl)]
  rw [Lib.run_noEscape]
  simp only [Result.andThen]
  rw [Oper.upon_value]
  go_wp2
  rw [Lib.run_from_unsafe w ⟨b, 0, none⟩ Tryz.underlying224 Tryz.underlying213 hj hsh bLies]
  simp only [Result.andThen]
  rw [Oper.upon_value]
  go_wp2
  go_end0
  exact ⟨rfl, rfl⟩
theorem cc (B b : Nat) (bs : List Value) (w : World) (h : Lib.IsBuilder 216 5 B b bs w) :
    Calls Tryz.prog 175 #[.pointer (some ⟨b, 0, none⟩)] w fun e w' => e = .returned (.tuple #[]) ∧ (Lib.BuilderAt 216 5 B b (.pointer (some ⟨b, 0, none⟩)) bs w' ∧ Below B w w') := by
  rcases h with h | h
  · refine (cc_fresh b w h.cell0 h.shape h.frozen0).mono ?_
    rintro e w' ⟨rfl, rfl⟩
    exact ⟨rfl, h.used _, (Below.refl B w).setCell (p := ⟨b, 0, none⟩) h.1 _⟩
  · refine (cc_used b w h.cell0).mono ?_
    rintro e w' ⟨rfl, rfl⟩
    exact ⟨rfl, h, Below.refl B _⟩
set_option maxHeartbeats 2000000 in
set_option maxRecDepth 100000 in
theorem writeByte (B b : Nat) (bs : List Value) (c : Int) (w : World) (h : Lib.IsBuilder 216 5 B b bs w) (hlen : bs.length + 1 ≤ 140737488355328) (hBw : B ≤ w.heap.size) :
    Calls Tryz.prog 171 #[.pointer (some ⟨b, 0, none⟩), .int .u8 c] w fun e w' => e = .returned .nilIface ∧ (Lib.BuilderAt 216 5 B b (.pointer (some ⟨b, 0, none⟩)) (bs ++ [.int .u8 c]) w' ∧ Below B w w') := by
  obtain ⟨i0, hi, hz0, hz1, hz2⟩ := info_parts bByte
  go_enter Tryz.func171, Tryz.ntmps171
  go_wp2_with (go_at_call 175; refine (cc B b bs _ h).mono ?_)
  rintro e w1 ⟨rfl, h1, hb1⟩
  obtain ⟨hB, v, hbk, hown, hne⟩ := h1
  have c0 : w1.cell? ⟨b, 0, none⟩ = some (.pointer (some ⟨b, 0, none⟩)) := by rw [Lib.cell_of_heap hbk]; rfl
  have c1 : w1.cell? ⟨b, 1, none⟩ = some v := by rw [Lib.cell_of_heap hbk]; rfl
  go_wp2_with (at_builtin; refine wpList_append_own _ rfl _ _ 214 rfl B 5 i0 (.int .u8 0) 1 1 Tryz.underlying214 hi hz0 hz1 hz2 rfl (by decide) _ _ _ rfl (hown.alloc _) ⟨w1.heap.size, 0, none⟩ 1 1 [.int .u8 c] rfl rfl ?c1 ?c2 ?c3 ?c4 ?c5 ?_)
  case c1 =>
    intro j u hj
    match j, hj with
    | 0, hj => simp at hj; subst hj; simp [Addr.add]
  case c2 => intro u hu; simp at hu; subst hu; rfl
  case c3 => unfold maxLen; omega
  case c4 => omega
  case c5 => have := hb1.size; simp; omega
  intro v' w2 hown' hgrow _
  have hlt : b < w1.heap.size := by
    rcases Nat.lt_or_ge b w1.heap.size with h' | h'
    · exact h'
    · simp [Array.getElem?_eq_none h'] at hbk
  have hb2 : w2.heap[b]? = some (.cells #[.pointer (some ⟨b, 0, none⟩), v] 216 (0, 0)) := by
    rw [hgrow.block b (by simp; omega) (fun e => hne e.symm), Lib.alloc_old w1 _ b hlt]
    exact hbk
  have d0 : w2.cell? ⟨b, 0, none⟩ = some (.pointer (some ⟨b, 0, none⟩)) := by rw [Lib.cell_of_heap hb2]; rfl
  have d1 : w2.cell? ⟨b, 1, none⟩ = some v := by rw [Lib.cell_of_heap hb2]; rfl
  have f1 : w2.frozen? ⟨b, 1, none⟩ = false := Lib.frozen_of_heap hb2 1
  obtain ⟨g, cap, rfl⟩ : ∃ g cap, v' = .slice (some ⟨g, 0, none⟩) (bs.length + 1) cap := by
    rcases hown'.2 with ⟨_, h0⟩ | ⟨g, cap, cur, hv, _⟩
    · omega
    · exact ⟨g, cap, hv⟩
  go_wp2
  go_ret
  refine ⟨rfl, ?_, ?_⟩
  · exact Lib.BuilderAt.put (T := 216) (e := 5) hB hb2 (bs' := bs ++ [.int .u8 c]) (by simpa using hown') (by decide)
  · exact ((hb1.alloc (by have := hb1.size; omega) _).grown hgrow (by have := hb1.size; simp; omega) (fun k hk => (hown.lt k hk).1)).setCell (p := ⟨b, 1, none⟩) hB _
/-! ### The text of a builder: the library's contract at this program -/
def lays169_ren : Go.Shelf.Ren := ⟨fun | 169 => 172 | n => n, fun | 70 => 213 | 9 => 9 | 0 => 0 | 72 => 216 | 37 => 214 | 127 => 221 | 3 => 3 | 5 => 5 | n => n, fun | n => n⟩
theorem lays169 : Go.Proofs.Lays.n169 Tryz.prog lays169_ren := {
  mixed := by kernel_rfl
  f169 := Tryz.func172.trans (congrArg some (by kernel_rfl))
  t0 := Tryz.underlying0
  a0 := Tryz.isAgg0
  z0 := Tryz.sizeOf0
  v0 := Tryz.zeroValue0
  t3 := Tryz.underlying3
  a3 := Tryz.isAgg3
  z3 := Tryz.sizeOf3
  v3 := Tryz.zeroValue3
  t9 := Tryz.underlying9
  a9 := Tryz.isAgg9
  z9 := Tryz.sizeOf9
  v9 := Tryz.zeroValue9
  t37 := Tryz.underlying214
  a37 := Tryz.isAgg214
  z37 := Tryz.sizeOf214
  v37 := Tryz.zeroValue214
  t70 := Tryz.underlying213
  a70 := Tryz.isAgg213
  z70 := Tryz.sizeOf213
  v70 := Tryz.zeroValue213
  t72 := Tryz.underlying216
  a72 := Tryz.isAgg216
  z72 := Tryz.sizeOf216
  v72 := Tryz.zeroValue216
  t127 := Tryz.underlying221
  a127 := Tryz.isAgg221
  z127 := Tryz.sizeOf221
  v127 := Tryz.zeroValue221 }
theorem extra169 : Builder.Extra Tryz.prog lays169_ren := {
  sizeBuilder := by kernel_rfl
  liesBuilder := by kernel_rfl
  t5 := Tryz.underlying5
  a5 := Tryz.isAgg5
  z5 := Tryz.sizeOf5
  v5 := Tryz.zeroValue5
  infoByte := by kernel_rfl
  cellsByte := by kernel_rfl
  sizeByte := by kernel_rfl
  neB5 := by decide }
theorem bString (B b : Nat) (l : List UInt8) (w : World) (h : Lib.IsBuilder 216 5 B b (Lib.byteCells l) w) (hBw : B ≤ w.heap.size) :
    Calls Tryz.prog 172 #[.pointer (some ⟨b, 0, none⟩)] w fun e w' => e = .returned (.string ⟨l.toArray⟩) ∧ Below B w w' := Any.Builder_String_any lays169 extra169 B b l w h hBw
end Go.Ev

/- The function that writes a number's bytes: its walk. -/
namespace Go.Ev
open Go Go.Proofs Go.RowKit Go.Shelf

theorem clamp_eq {bytes : Int} : min (max bytes 0) 8 = (N.clamp bytes : Int) ∧ N.clamp bytes ≤ 8 := by
  unfold N.clamp
  rw [ilt_eq, ilt_eq]
  by_cases h1 : 0 < bytes
  · by_cases h2 : 8 < bytes
    · simp [h1, h2]; omega
    · simp [h1, h2]; omega
  · simp [h1]; omega

theorem two_blocks {w wr : World} {o1 o2 : Obj} (h : Below (w.heap.size + 1 + 1) ((w.alloc o1).alloc o2) wr) : wr.heap[w.heap.size]? = some o1 ∧ wr.heap[w.heap.size + 1]? = some o2 := by
  have e : (w.alloc o1).heap.size = w.heap.size + 1 := by simp
  refine ⟨?_, ?_⟩
  · rw [h.block _ (by omega), Below.heap_alloc _ _ _ (by omega)]; exact Go.heap_alloc_new w o1
  · rw [h.block _ (by omega), ← e]; exact Go.heap_alloc_new _ o2

set_option maxHeartbeats 4000000 in
set_option maxRecDepth 1000000 in
theorem outNum_walk (s : ByteArray) (er n bytes : Int) (w : World) (hs : (s.size : Int) ≤ 9223372036854775799) :
    Calls Tryz.prog 158 #[.agg #[.string s, .int .i64 er], .int .u64 n, .int .i64 bytes] w fun e w' =>
      e = .returned (.agg #[.string ⟨(s.data.toList ++ N.numB n (N.clamp bytes)).toArray⟩, .int .i64 er]) ∧ Below w.heap.size w w' := by
  go_enter Tryz.func158, Tryz.ntmps158
  go_wp2
  go_loopw [8] (fun i wr => ∃ (k : Int) (acc : List UInt8), i = .int .i64 k ∧ Lib.IsBuilder 216 5 (w.heap.size + 1 + 1) (w.heap.size + 1 + 1) (Lib.byteCells acc) wr ∧
      Below (w.heap.size + 1 + 1) ((w.alloc (Obj.cells #[Value.string s, Value.int IntKind.i64 er] 201)).alloc (Obj.cells #[Value.string { data := #[] }, Value.int IntKind.i64 0] 201)) wr ∧
      -1 ≤ k ∧ acc ++ N.numB n (k + 1).toNat = N.numB n (N.clamp bytes) ∧ acc.length + (k + 1).toNat ≤ 8) (fun i _ => (intOf i + 1).toNat)
  case atStart =>
    obtain ⟨hcl, hc8⟩ := clamp_eq (bytes := bytes)
    have hf := Lib.fresh_isBuilder 216 5 ((w.alloc (Obj.cells #[Value.string s, Value.int IntKind.i64 er] 201)).alloc (Obj.cells #[Value.string { data := #[] }, Value.int IntKind.i64 0] 201))
    have e0 : ((w.alloc (Obj.cells #[Value.string s, Value.int IntKind.i64 er] 201)).alloc (Obj.cells #[Value.string { data := #[] }, Value.int IntKind.i64 0] 201)).heap.size = w.heap.size + 1 + 1 := by simp
    rw [e0] at hf
    refine ⟨(N.clamp bytes : Int) - 1, [], by rw [hcl], hf, (Below.refl _ _).alloc (by simp) _, by omega, ?_, ?_⟩
    · rw [show ((N.clamp bytes : Int) - 1 + 1).toNat = N.clamp bytes by omega]; rfl
    · simp only [List.length_nil]; omega
  case round =>
    obtain ⟨k, acc, rfl, hI, hB, hk, hacc, hal⟩ := hrel
    by_cases hk0 : 0 ≤ k
    · go_wp2_with (go_at_call 171; refine (writeByte (w.heap.size + 1 + 1) (w.heap.size + 1 + 1) _ _ _ hI (by rw [Lib.byteCells_length]; omega) (by have := hB.size; simp at this; omega)).mono ?_)
      rintro e w1 ⟨rfl, h1, b1⟩
      go_wp2
      go_roundw
      case rel =>
        have e1 : N.numB n (k + 1).toNat = UInt8.ofNat ((n / 2 ^ (8 * k.toNat)) % 256).toNat :: N.numB n k.toNat := by
          rw [show (k + 1).toNat = k.toNat + 1 by omega]; rfl
        have e2 : ((UInt8.ofNat ((n / 2 ^ (8 * k.toNat)) % 256).toNat).toNat : Int) = n / 2 ^ (8 * k).toNat % 256 := by
          rw [show (8 * k).toNat = 8 * k.toNat by omega]
          have h0 : 0 ≤ (n / 2 ^ (8 * k.toNat)) % 256 := Int.emod_nonneg _ (by decide)
          have h1 : (n / 2 ^ (8 * k.toNat)) % 256 < 256 := Int.emod_lt_of_pos _ (by decide)
          have h2 : (UInt8.ofNat ((n / 2 ^ (8 * k.toNat)) % 256).toNat).toNat = ((n / 2 ^ (8 * k.toNat)) % 256).toNat := UInt8.toNat_ofNat_of_lt' (by
            show ((n / 2 ^ (8 * k.toNat)) % 256).toNat < 256
            omega)
          rw [h2]; omega
        refine ⟨k - 1, acc ++ [UInt8.ofNat ((n / 2 ^ (8 * k.toNat)) % 256).toNat], rfl, ?_, hB.trans b1, by omega, ?_, ?_⟩
        · rw [Lib.byteCells_append]
          have e3 : Lib.byteCells [UInt8.ofNat ((n / 2 ^ (8 * k.toNat)) % 256).toNat] = [Value.int .u8 (n / 2 ^ (8 * k).toNat % 256)] := by
            rw [← e2]; rfl
          rw [e3]; exact Or.inr h1
        · rw [e1] at hacc
          rw [← hacc, show (k - 1 + 1).toNat = k.toNat by omega, List.append_assoc]; rfl
        · rw [List.length_append]; simp only [List.length_cons, List.length_nil]; omega
      case measure => simp [intOf]; omega
    · have hk1 : k = -1 := by omega
      subst hk1
      have hfin : N.numB n (N.clamp bytes) = acc := by rw [← hacc]; show acc ++ [] = acc; simp
      have hal : acc.length ≤ 8 := by omega
      clear hacc
      rw [hfin]
      obtain ⟨hb0, hb1⟩ := two_blocks hB
      have c0 : wr.cell? ⟨w.heap.size, 0, none⟩ = some (.string s) := by rw [Lib.cell_of_heap hb0]; rfl
      have c1 : wr.cell? ⟨w.heap.size, 1, none⟩ = some (.int .i64 er) := by rw [Lib.cell_of_heap hb0]; rfl
      have c2 : wr.cell? ⟨w.heap.size + 1, 0, none⟩ = some (.string ⟨#[]⟩) := by rw [Lib.cell_of_heap hb1]; rfl
      have c3 : wr.cell? ⟨w.heap.size + 1, 1, none⟩ = some (.int .i64 0) := by rw [Lib.cell_of_heap hb1]; rfl
      have f0 : wr.frozen? ⟨w.heap.size, 0, none⟩ = false := Lib.frozen_of_heap hb0 0
      have f1 : wr.frozen? ⟨w.heap.size, 1, none⟩ = false := Lib.frozen_of_heap hb0 1
      have f2 : wr.frozen? ⟨w.heap.size + 1, 0, none⟩ = false := Lib.frozen_of_heap hb1 0
      have f3 : wr.frozen? ⟨w.heap.size + 1, 1, none⟩ = false := Lib.frozen_of_heap hb1 1
      have hBw : w.heap.size + 1 + 1 ≤ wr.heap.size := by have := hB.size; simp at this; omega
      have hadd : ¬ 9223372036854775807 < s.size + acc.length := by omega
      have hadd2 : ¬ 9223372036854775807 < s.size + (⟨acc.toArray⟩ : ByteArray).size := by
        show ¬ 9223372036854775807 < s.size + acc.toArray.size
        rw [List.size_toArray]; exact hadd
      have hadd3 : ¬ (s.size + (⟨acc.toArray⟩ : ByteArray).size > 9223372036854775807) := hadd2
      have hadd4 : s.size + (⟨acc.toArray⟩ : ByteArray).size ≤ 9223372036854775807 := Nat.not_lt.1 hadd2
      have hadd5 : s.size + acc.length ≤ 9223372036854775807 := Nat.not_lt.1 hadd
      go_wp2
      go_region_with (go_at_call 172; refine (bString (w.heap.size + 1 + 1) (w.heap.size + 1 + 1) acc _ (by exact hI) (by exact hBw)).mono ?_; rintro e w2 ⟨rfl, b2⟩
                      have d0 : w2.cell? ⟨w.heap.size, 0, none⟩ = some (.string s) := by rw [b2.cell (by show w.heap.size < w.heap.size + 1 + 1; omega)]; exact c0
                      have d1 : w2.cell? ⟨w.heap.size, 1, none⟩ = some (.int .i64 er) := by rw [b2.cell (by show w.heap.size < w.heap.size + 1 + 1; omega)]; exact c1
                      have d2 : w2.cell? ⟨w.heap.size + 1, 0, none⟩ = some (.string ⟨#[]⟩) := by rw [b2.cell (by show w.heap.size + 1 < w.heap.size + 1 + 1; omega)]; exact c2
                      have d3 : w2.cell? ⟨w.heap.size + 1, 1, none⟩ = some (.int .i64 0) := by rw [b2.cell (by show w.heap.size + 1 < w.heap.size + 1 + 1; omega)]; exact c3
                      have e0 : w2.frozen? ⟨w.heap.size, 0, none⟩ = false := by rw [b2.frozen (by show w.heap.size < w.heap.size + 1 + 1; omega)]; exact f0
                      have e1 : w2.frozen? ⟨w.heap.size, 1, none⟩ = false := by rw [b2.frozen (by show w.heap.size < w.heap.size + 1 + 1; omega)]; exact f1
                      have e2 : w2.frozen? ⟨w.heap.size + 1, 0, none⟩ = false := by rw [b2.frozen (by show w.heap.size + 1 < w.heap.size + 1 + 1; omega)]; exact f2
                      have e3 : w2.frozen? ⟨w.heap.size + 1, 1, none⟩ = false := by rw [b2.frozen (by show w.heap.size + 1 < w.heap.size + 1 + 1; omega)]; exact f3)
      all_goals go_wp2
      all_goals
        refine ⟨rfl, .agg #[.string (s ++ ⟨acc.toArray⟩), .int .i64 er], ?_, ?_, ?_⟩
        · simp [results, Tryz.results158, go_sem, d2, d3]
        · rw [hfin, ← bytes_append]
        · have b0 : Below w.heap.size w wr := (((Below.refl _ w).alloc (Nat.le_refl _) _).alloc (by simp) _).trans (hB.mono (by omega))
          exact (((b0.drew.trans (b2.mono (by omega))).setCell (p := ⟨w.heap.size, 0, none⟩) (Nat.le_refl _) _).setCell (p := ⟨w.heap.size + 1, 0, none⟩) (Nat.le_succ _) _).setCell (p := ⟨w.heap.size + 1, 1, none⟩) (Nat.le_succ _) _

/-- What leaves the memory at hand as it is keeps it. -/
theorem keeps_below {w w' : World} (X : Nat → Nat → Prop) (h : Below w.heap.size w w') : Keeps X w w' :=
  ⟨h.os, h.tape, h.output, h.size, fun b hb => ObjOk.same (h.block b hb)⟩
theorem outNum_ok : FnOk Tryz.prog 158 dOutNum := by
  refine den_of fun a b hp => ?_
  obtain ⟨o, n, bytes⟩ := a
  intro x y hxy w J locs xs hlen hJ hx _ _ _
  have hxy : x = (aCons (vAgg cOut) (aCons (vInt .u64) (aOne (vInt .i64)))).enc (o, n, bytes) ∧ y = bNil.enc b := by simpa using hxy
  obtain ⟨rfl, rfl⟩ := hxy
  have hlen : locs = [] := List.eq_nil_of_length_eq_zero hlen
  subst hlen
  obtain ⟨hp1, hp⟩ := bcond hp
  obtain ⟨hp2, hp3⟩ := bcond hp
  have hp3 : o.s.length ≤ 9223372036854775799 := Nat.le_of_ble_eq_true hp3
  obtain ⟨x0, xs1, rfl, hx0, hx⟩ := hx.uncons
  obtain ⟨x1, xs2, rfl, hx1, hx⟩ := hx.uncons
  obtain ⟨x2, rfl, hx2⟩ := hx.one
  obtain ⟨cs, rfl, hc1, hc2⟩ := Rv.agg_inv (show Rv w J _ (.agg [.str o.s, .int .i64 o.err]) x0 from hx0)
  have hx1 := Rv.int_inv (show Rv w J _ (.int .u64 n) x1 from hx1)
  have hx2 := Rv.int_inv (show Rv w J _ (.int .i64 bytes) x2 from hx2)
  subst hx1 hx2
  match cs, hc1, hc2 with
  | [c0, c1], _, hc2 =>
    have h0 := Rv.str_inv (show Rv w J _ (.str o.s) c0 from hc2 0 (by simp))
    have h1 := Rv.int_inv (show Rv w J _ (.int .i64 o.err) c1 from hc2 1 (by simp))
    subst h0 h1
    refine .inl ⟨?_, ?_⟩
    · have hnm : ¬ (Tryz.f158).name = "runtime.NumGoroutine" := by
        intro e
        have : ((Tryz.f158).name == "runtime.NumGoroutine") = false := by kernel_rfl
        rw [e] at this; cases this
      obtain ⟨c, hc⟩ := Option.isSome_iff_exists.1 (show (Tryz.f158).body.isSome = true by kernel_rfl)
      simp [callFunc, Tryz.func158, hnm, hc]
    · refine (outNum_walk ⟨o.s.toArray⟩ o.err n bytes w (by rw [bytes_size]; omega)).mono fun e w' ⟨he, hb⟩ => ⟨_, he, J, ?_⟩
      refine ⟨keeps_below _ hb, fun _ _ h => h, fun b o' h => Nat.lt_of_lt_of_le (hJ b o' h) hb.size, fun _ _ h _ => h, rfl, (fun j cs cs' p hj => by cases hj), .inl ⟨rfl, ?_⟩⟩
      refine .agg [.str (N.outNum o n bytes).s, .int .i64 (N.outNum o n bytes).err] [.string ⟨(o.s ++ N.numB n (N.clamp bytes)).toArray⟩, .int .i64 o.err] rfl fun i hi => ?_
      match i, hi with
      | 0, _ => exact .dat (.str _)
      | 1, _ => exact .dat (.int _ _)
end Go.Ev
