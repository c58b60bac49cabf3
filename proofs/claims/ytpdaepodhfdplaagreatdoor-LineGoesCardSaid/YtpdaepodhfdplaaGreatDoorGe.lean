/- The functions on lines that look for an item, and mark it: lemmas. -/
import Derived.Test.YtpdaepodhfdplaaGreatDoorGd
namespace Go.Ev
open Go Go.Proofs
set_option maxRecDepth 100000
-- FOLD

theorem drop_decI {r : List (List V)} {i : Nat} (h : i < r.length) : (r.drop i).map cItem.dec = cItem.dec (r.getD i []) :: (r.drop (i + 1)).map cItem.dec := by
  rw [drop_row h]; rfl
theorem ix_cons (p : HItem → Bool) (x : HItem) (r : List HItem) (i : Int) : N.ix p (x :: r) i = cond (p x) i (N.ix p r (i + 1)) := rfl
theorem ix_end {p : HItem → Bool} {l : List HItem} (h : ile 0 (N.ix p l 0) = false) : N.ix p l 0 = -1 := by
  rcases ix_spec p l 0 (Int.le_refl _) with ⟨h1, _⟩ | ⟨k, h1, _⟩
  · exact h1
  · rw [h1, ile_t (by omega)] at h; cases h
def schIxR : SSch := { fr := [(0, .slc [.int .u64, .str, .str, .slc [.str, .int .u8, .int .i64, .str], .str, .int .u64, .int .u8, .bool, .bool]), (1, .fn 109 [] [.ptr 0 0 0]), (7, .int .i64), (8, .int .i64)], tab := [(0, .var [.fn 57 [] []])] }
def gIxR : List Leaf → (Ex → St → Option R) → Option R
  | [.r r, .i n, .i i], K => cond (n == r.length) (cond (i == 0) (cond (Nat.ble r.length 1000) (cond (ile 0 (N.ix N.isReady (r.map cItem.dec) 0)) (K .ret { fr := [(4, .int .i64 (N.ix N.isReady (r.map cItem.dec) 0))], tab := [(0, .var [.fn 57 [] []])] }) (K (.exit 0) { fr := [], tab := [(0, .var [.fn 57 [] []])] })) none) none) none
  | _, _ => none
noncomputable def eIxR : Env := env Tryz.prog [(109, dReadyF 57)] [(2, loopF schIxR gIxR)] [(2, [(0, [0, 1, 7, 8]), (1, []), (1000, [4])])]
theorem q_IxR (l : List HItem) : evFn eIxR 108 ((aCons (vSl cItem) (aOne (vFn 109 0))).enc (l, ())) ((bFn0 57).enc ()) some =
 cond ((↑(List.length (List.map (RCod.enc cItem) l)) : Int) == (↑(List.length (List.map (RCod.enc cItem) l)) : Int)) (cond (Nat.ble (List.length (List.map (RCod.enc cItem) l)) (1000 : Nat)) (cond (ile (0 : Int) (N.ix N.isReady (List.map (RCod.dec cItem) (List.map (RCod.enc cItem) l)) (0 : Int))) (some { v := V.int IntKind.i64 (N.ix N.isReady (List.map (RCod.dec cItem) (List.map (RCod.enc cItem) l)) (0 : Int)), bx := [[V.fn 57 [] []]] : DRes }) (some { v := V.int IntKind.i64 (-1 : Int), bx := [[V.fn 57 [] []]] : DRes })) (none)) (none) := by kernel_rfl
theorem q_IxRR (r : List (List V)) (n i : Int) (K : Ex → St → Option R) : evRound eIxR 108 2 { fr := [(0, .slc [.int .u64, .str, .str, .slc [.str, .int .u8, .int .i64, .str], .str, .int .u64, .int .u8, .bool, .bool] r), (1, .fn 109 [] [.ptr 0 0 0 0]), (7, .int .i64 n), (8, .int .i64 i)], tab := [(0, .var [.fn 57 [] []])] } K =
 cond (ilt i n) (cond (decide ((0 : Int) ≤ i ∧ i < (↑(List.length r) : Int))) (cond (N.isReady { mail := { id := V.toInt (List.getD (List.getD r (Int.toNat i) []) (0 : Nat) V.undef), shop := V.toStr (List.getD (List.getD r (Int.toNat i) []) (1 : Nat) V.undef), key := V.toStr (List.getD (List.getD r (Int.toNat i) []) (2 : Nat) V.undef), head := List.map (fun r => { key := V.toStr (List.getD r (0 : Nat) V.undef), kind := V.toInt (List.getD r (1 : Nat) V.undef), num := V.toInt (List.getD r (2 : Nat) V.undef), text := V.toStr (List.getD r (3 : Nat) V.undef) : HPair }) (V.toRows (List.getD (List.getD r (Int.toNat i) []) (3 : Nat) V.undef)), body := V.toStr (List.getD (List.getD r (Int.toNat i) []) (4 : Nat) V.undef), due := V.toInt (List.getD (List.getD r (Int.toNat i) []) (5 : Nat) V.undef), hops := V.toInt (List.getD (List.getD r (Int.toNat i) []) (6 : Nat) V.undef) : HMail }, lent := V.toBool (List.getD (List.getD r (Int.toNat i) []) (7 : Nat) V.undef), again := V.toBool (List.getD (List.getD r (Int.toNat i) []) (8 : Nat) V.undef) : HItem }) (K Ex.ret { fr := [((4 : Nat), V.int IntKind.i64 i)], tab := [((0 : Nat), Box.var [V.fn 57 [] []])] : St }) (K Ex.normal { fr := [((0 : Nat), V.slc [Sh.int IntKind.u64, Sh.str, Sh.str, Sh.slc [Sh.str, Sh.int IntKind.u8, Sh.int IntKind.i64, Sh.str], Sh.str, Sh.int IntKind.u64, Sh.int IntKind.u8, Sh.bool, Sh.bool] r), ((1 : Nat), V.fn 109 [] [V.ptr (0 : Nat) (0 : Nat) (0 : Nat) (0 : Nat)]), ((7 : Nat), V.int IntKind.i64 n), ((8 : Nat), V.int IntKind.i64 (IntKind.wrap IntKind.i64 (i + (1 : Int))))], tab := [((0 : Nat), Box.var [V.fn 57 [] []])] : St })) (none)) (K (Ex.exit (0 : Nat)) { fr := [], tab := [((0 : Nat), Box.var [V.fn 57 [] []])] : St }) := by kernel_rfl
theorem ok_IxR : FnOk Tryz.prog 108 (dIxR 109 57) := by
  refine den_okF (env_ok ((TOk.nil _).cons ok_readyF)) (E := eIxR) Tryz.func108 [2] (by kernel_rfl) (one1 (rounds_of rfl fun l K q h => ?_)) fun a id hp => ?_
  · unfold gIxR at h
    split at h
    · rename_i r n i 
      have h1 := (cond_none h).1; replace h := (cond_none h).2; have h2 := (cond_none h).1; replace h := (cond_none h).2; have h3 := (cond_none h).1; replace h := (cond_none h).2
      have e1 := ieq_of h1
      have e2 := ieq_of h2
      subst e1 e2
      have h3 : r.length ≤ 1000 := ble_of h3
      have main := loop_ind (E := eIxR) (f := 108) (id := 2) (σ := Nat) (fun i => { fr := [(0, .slc [.int .u64, .str, .str, .slc [.str, .int .u8, .int .i64, .str], .str, .int .u64, .int .u8, .bool, .bool] r), (1, .fn 109 [] [.ptr 0 0 0 0]), (7, .int .i64 r.length), (8, .int .i64 (i : Int))], tab := [(0, .var [.fn 57 [] []])] }) (fun i => i ≤ r.length) (fun i => r.length - i)
        (fun i K => cond (ile 0 (N.ix N.isReady ((r.drop i).map cItem.dec) i)) (K .ret { fr := [(4, .int .i64 (N.ix N.isReady ((r.drop i).map cItem.dec) i))], tab := [(0, .var [.fn 57 [] []])] }) (K (.exit 0) { fr := [], tab := [(0, .var [.fn 57 [] []])] })) (fun i hi => ?_) 0 (Nat.zero_le _) K q (by assumption)
      · exact main
      · by_cases hl : i < r.length
        · rw [drop_decI hl, ix_cons]
          cases hc : N.isReady (cItem.dec (r.getD i [])) with
          | true =>
            refine .inr ⟨.ret, { fr := [(4, .int .i64 ((i : Int)))], tab := [(0, .var [.fn 57 [] []])] }, by simp, fun K => ?_, fun K => ?_⟩
            · rw [q_IxRR]
              simp (disch := omega) only [evs, Int.toNat_natCast, fold_item, hc]
            · simp only [cond_true]
              rw [ile_t (by omega)]; rfl
          | false =>
            refine .inl ⟨i + 1, hl, by omega, fun K => ?_, fun K => rfl⟩
            rw [q_IxRR]
            simp (disch := omega) only [evs, Int.toNat_natCast, fold_item, hc]
            rfl
        · refine .inr ⟨.exit 0, { fr := [], tab := [(0, .var [.fn 57 [] []])] }, by simp, fun K => ?_, fun K => ?_⟩
          · rw [q_IxRR]
            simp (disch := omega) only [evs]
          · rw [List.drop_eq_nil_of_le (by omega)]; rfl
    · cases h
  · obtain ⟨l, ⟨⟩⟩ := a
    have hp : Nat.ble l.length 1000 = true := hp
    refine (q_IxR l ).trans ?_
    simp only [List.length_map, dec_encs, hp, beq_self_eq_true, cond_true]
    show _ = some (⟨.int .i64 (N.ix N.isReady l 0), [[.fn 57 [] []]], []⟩ : DRes)
    cases hc : ile 0 (N.ix N.isReady l 0) with
    | true => rfl
    | false => rw [ix_end hc]; rfl
def schIxO : SSch := { fr := [(0, .slc [.int .u64, .str, .str, .slc [.str, .int .u8, .int .i64, .str], .str, .int .u64, .int .u8, .bool, .bool]), (1, .fn 139 [] [.ptr 0 0 0]), (7, .int .i64), (8, .int .i64)], tab := [(0, .var [.int .u64])] }
def gIxO : List Leaf → (Ex → St → Option R) → Option R
  | [.r r, .i n, .i i, .i id], K => cond (n == r.length) (cond (i == 0) (cond (Nat.ble r.length 1000) (cond (ile 0 (N.ix (N.isId id) (r.map cItem.dec) 0)) (K .ret { fr := [(4, .int .i64 (N.ix (N.isId id) (r.map cItem.dec) 0))], tab := [(0, .var [.int .u64 id])] }) (K (.exit 0) { fr := [], tab := [(0, .var [.int .u64 id])] })) none) none) none
  | _, _ => none
noncomputable def eIxO : Env := env Tryz.prog [(139, dOfF)] [(2, loopF schIxO gIxO)] [(2, [(0, [0, 1, 7, 8]), (1, []), (1000, [4])])]
theorem q_IxO (l : List HItem) (id : Int) : evFn eIxO 108 ((aCons (vSl cItem) (aOne (vFn 139 0))).enc (l, ())) ((bOne (rInt .u64)).enc id) some =
 cond ((↑(List.length (List.map (RCod.enc cItem) l)) : Int) == (↑(List.length (List.map (RCod.enc cItem) l)) : Int)) (cond (Nat.ble (List.length (List.map (RCod.enc cItem) l)) (1000 : Nat)) (cond (ile (0 : Int) (N.ix (N.isId id) (List.map (RCod.dec cItem) (List.map (RCod.enc cItem) l)) (0 : Int))) (some { v := V.int IntKind.i64 (N.ix (N.isId id) (List.map (RCod.dec cItem) (List.map (RCod.enc cItem) l)) (0 : Int)), bx := [[V.int IntKind.u64 id]] : DRes }) (some { v := V.int IntKind.i64 (-1 : Int), bx := [[V.int IntKind.u64 id]] : DRes })) (none)) (none) := by kernel_rfl
theorem q_IxOR (r : List (List V)) (n i : Int) (id : Int) (K : Ex → St → Option R) : evRound eIxO 108 2 { fr := [(0, .slc [.int .u64, .str, .str, .slc [.str, .int .u8, .int .i64, .str], .str, .int .u64, .int .u8, .bool, .bool] r), (1, .fn 139 [] [.ptr 0 0 0 0]), (7, .int .i64 n), (8, .int .i64 i)], tab := [(0, .var [.int .u64 id])] } K =
 cond (ilt i n) (cond (decide ((0 : Int) ≤ i ∧ i < (↑(List.length r) : Int))) (cond (N.isId id { mail := { id := V.toInt (List.getD (List.getD r (Int.toNat i) []) (0 : Nat) V.undef), shop := V.toStr (List.getD (List.getD r (Int.toNat i) []) (1 : Nat) V.undef), key := V.toStr (List.getD (List.getD r (Int.toNat i) []) (2 : Nat) V.undef), head := List.map (fun r => { key := V.toStr (List.getD r (0 : Nat) V.undef), kind := V.toInt (List.getD r (1 : Nat) V.undef), num := V.toInt (List.getD r (2 : Nat) V.undef), text := V.toStr (List.getD r (3 : Nat) V.undef) : HPair }) (V.toRows (List.getD (List.getD r (Int.toNat i) []) (3 : Nat) V.undef)), body := V.toStr (List.getD (List.getD r (Int.toNat i) []) (4 : Nat) V.undef), due := V.toInt (List.getD (List.getD r (Int.toNat i) []) (5 : Nat) V.undef), hops := V.toInt (List.getD (List.getD r (Int.toNat i) []) (6 : Nat) V.undef) : HMail }, lent := V.toBool (List.getD (List.getD r (Int.toNat i) []) (7 : Nat) V.undef), again := V.toBool (List.getD (List.getD r (Int.toNat i) []) (8 : Nat) V.undef) : HItem }) (K Ex.ret { fr := [((4 : Nat), V.int IntKind.i64 i)], tab := [((0 : Nat), Box.var [V.int IntKind.u64 id])] : St }) (K Ex.normal { fr := [((0 : Nat), V.slc [Sh.int IntKind.u64, Sh.str, Sh.str, Sh.slc [Sh.str, Sh.int IntKind.u8, Sh.int IntKind.i64, Sh.str], Sh.str, Sh.int IntKind.u64, Sh.int IntKind.u8, Sh.bool, Sh.bool] r), ((1 : Nat), V.fn 139 [] [V.ptr (0 : Nat) (0 : Nat) (0 : Nat) (0 : Nat)]), ((7 : Nat), V.int IntKind.i64 n), ((8 : Nat), V.int IntKind.i64 (IntKind.wrap IntKind.i64 (i + (1 : Int))))], tab := [((0 : Nat), Box.var [V.int IntKind.u64 id])] : St })) (none)) (K (Ex.exit (0 : Nat)) { fr := [], tab := [((0 : Nat), Box.var [V.int IntKind.u64 id])] : St }) := by kernel_rfl
theorem ok_IxO : FnOk Tryz.prog 108 (dIxO 139) := by
  refine den_okF (env_ok ((TOk.nil _).cons ok_ofF)) (E := eIxO) Tryz.func108 [2] (by kernel_rfl) (one1 (rounds_of rfl fun l K q h => ?_)) fun a id hp => ?_
  · unfold gIxO at h
    split at h
    · rename_i r n i id
      have h1 := (cond_none h).1; replace h := (cond_none h).2; have h2 := (cond_none h).1; replace h := (cond_none h).2; have h3 := (cond_none h).1; replace h := (cond_none h).2
      have e1 := ieq_of h1
      have e2 := ieq_of h2
      subst e1 e2
      have h3 : r.length ≤ 1000 := ble_of h3
      have main := loop_ind (E := eIxO) (f := 108) (id := 2) (σ := Nat) (fun i => { fr := [(0, .slc [.int .u64, .str, .str, .slc [.str, .int .u8, .int .i64, .str], .str, .int .u64, .int .u8, .bool, .bool] r), (1, .fn 139 [] [.ptr 0 0 0 0]), (7, .int .i64 r.length), (8, .int .i64 (i : Int))], tab := [(0, .var [.int .u64 id])] }) (fun i => i ≤ r.length) (fun i => r.length - i)
        (fun i K => cond (ile 0 (N.ix (N.isId id) ((r.drop i).map cItem.dec) i)) (K .ret { fr := [(4, .int .i64 (N.ix (N.isId id) ((r.drop i).map cItem.dec) i))], tab := [(0, .var [.int .u64 id])] }) (K (.exit 0) { fr := [], tab := [(0, .var [.int .u64 id])] })) (fun i hi => ?_) 0 (Nat.zero_le _) K q (by assumption)
      · exact main
      · by_cases hl : i < r.length
        · rw [drop_decI hl, ix_cons]
          cases hc : (N.isId id) (cItem.dec (r.getD i [])) with
          | true =>
            refine .inr ⟨.ret, { fr := [(4, .int .i64 ((i : Int)))], tab := [(0, .var [.int .u64 id])] }, by simp, fun K => ?_, fun K => ?_⟩
            · rw [q_IxOR]
              simp (disch := omega) only [evs, Int.toNat_natCast, fold_item, hc]
            · simp only [cond_true]
              rw [ile_t (by omega)]; rfl
          | false =>
            refine .inl ⟨i + 1, hl, by omega, fun K => ?_, fun K => rfl⟩
            rw [q_IxOR]
            simp (disch := omega) only [evs, Int.toNat_natCast, fold_item, hc]
            rfl
        · refine .inr ⟨.exit 0, { fr := [], tab := [(0, .var [.int .u64 id])] }, by simp, fun K => ?_, fun K => ?_⟩
          · rw [q_IxOR]
            simp (disch := omega) only [evs]
          · rw [List.drop_eq_nil_of_le (by omega)]; rfl
    · cases h
  · obtain ⟨l, ⟨⟩⟩ := a
    have hp : Nat.ble l.length 1000 = true := hp
    refine (q_IxO l id).trans ?_
    simp only [List.length_map, dec_encs, hp, beq_self_eq_true, cond_true]
    show _ = some (⟨.int .i64 (N.ix (N.isId id) l 0), [[.int .u64 id]], []⟩ : DRes)
    cases hc : ile 0 (N.ix (N.isId id) l 0) with
    | true => rfl
    | false => rw [ix_end hc]; rfl
noncomputable def eWithL : Env := env Tryz.prog [(113, dCloneIO), (67, dMarkI N.lendI)] [] []
theorem q_withL (l : List HItem) (k : Int) : evFn eWithL 65 ((aCons (vAgg cLine) (aCons (vInt .i64) (aOne (vFn0 67)))).enc (l, k, ())) ([]) some =
 cond (bif Nat.beq (List.length (List.map (RCod.dec cItem) (List.map (RCod.enc cItem) l))) (0 : Nat) then false else Nat.ble (List.length (List.map (RCod.dec cItem) (List.map (RCod.enc cItem) l))) (1000 : Nat)) (cond (decide ((0 : Int) ≤ k ∧ k < (↑(List.length (List.map (RCod.enc cItem) (List.map (RCod.dec cItem) (List.map (RCod.enc cItem) l)))) : Int))) (some { v := V.agg [V.slc [Sh.int IntKind.u64, Sh.str, Sh.str, Sh.slc [Sh.str, Sh.int IntKind.u8, Sh.int IntKind.i64, Sh.str], Sh.str, Sh.int IntKind.u64, Sh.int IntKind.u8, Sh.bool, Sh.bool] (List.set (List.map (RCod.enc cItem) (List.map (RCod.dec cItem) (List.map (RCod.enc cItem) l))) (Int.toNat k) [V.int IntKind.u64 (HMail.id (HItem.mail (N.lendI { mail := { id := V.toInt (List.getD (List.getD (List.map (RCod.enc cItem) (List.map (RCod.dec cItem) (List.map (RCod.enc cItem) l))) (Int.toNat k) []) (0 : Nat) V.undef), shop := V.toStr (List.getD (List.getD (List.map (RCod.enc cItem) (List.map (RCod.dec cItem) (List.map (RCod.enc cItem) l))) (Int.toNat k) []) (1 : Nat) V.undef), key := V.toStr (List.getD (List.getD (List.map (RCod.enc cItem) (List.map (RCod.dec cItem) (List.map (RCod.enc cItem) l))) (Int.toNat k) []) (2 : Nat) V.undef), head := List.map (fun r => { key := V.toStr (List.getD r (0 : Nat) V.undef), kind := V.toInt (List.getD r (1 : Nat) V.undef), num := V.toInt (List.getD r (2 : Nat) V.undef), text := V.toStr (List.getD r (3 : Nat) V.undef) : HPair }) (V.toRows (List.getD (List.getD (List.map (RCod.enc cItem) (List.map (RCod.dec cItem) (List.map (RCod.enc cItem) l))) (Int.toNat k) []) (3 : Nat) V.undef)), body := V.toStr (List.getD (List.getD (List.map (RCod.enc cItem) (List.map (RCod.dec cItem) (List.map (RCod.enc cItem) l))) (Int.toNat k) []) (4 : Nat) V.undef), due := V.toInt (List.getD (List.getD (List.map (RCod.enc cItem) (List.map (RCod.dec cItem) (List.map (RCod.enc cItem) l))) (Int.toNat k) []) (5 : Nat) V.undef), hops := V.toInt (List.getD (List.getD (List.map (RCod.enc cItem) (List.map (RCod.dec cItem) (List.map (RCod.enc cItem) l))) (Int.toNat k) []) (6 : Nat) V.undef) : HMail }, lent := V.toBool (List.getD (List.getD (List.map (RCod.enc cItem) (List.map (RCod.dec cItem) (List.map (RCod.enc cItem) l))) (Int.toNat k) []) (7 : Nat) V.undef), again := V.toBool (List.getD (List.getD (List.map (RCod.enc cItem) (List.map (RCod.dec cItem) (List.map (RCod.enc cItem) l))) (Int.toNat k) []) (8 : Nat) V.undef) : HItem }))), V.str (HMail.shop (HItem.mail (N.lendI { mail := { id := V.toInt (List.getD (List.getD (List.map (RCod.enc cItem) (List.map (RCod.dec cItem) (List.map (RCod.enc cItem) l))) (Int.toNat k) []) (0 : Nat) V.undef), shop := V.toStr (List.getD (List.getD (List.map (RCod.enc cItem) (List.map (RCod.dec cItem) (List.map (RCod.enc cItem) l))) (Int.toNat k) []) (1 : Nat) V.undef), key := V.toStr (List.getD (List.getD (List.map (RCod.enc cItem) (List.map (RCod.dec cItem) (List.map (RCod.enc cItem) l))) (Int.toNat k) []) (2 : Nat) V.undef), head := List.map (fun r => { key := V.toStr (List.getD r (0 : Nat) V.undef), kind := V.toInt (List.getD r (1 : Nat) V.undef), num := V.toInt (List.getD r (2 : Nat) V.undef), text := V.toStr (List.getD r (3 : Nat) V.undef) : HPair }) (V.toRows (List.getD (List.getD (List.map (RCod.enc cItem) (List.map (RCod.dec cItem) (List.map (RCod.enc cItem) l))) (Int.toNat k) []) (3 : Nat) V.undef)), body := V.toStr (List.getD (List.getD (List.map (RCod.enc cItem) (List.map (RCod.dec cItem) (List.map (RCod.enc cItem) l))) (Int.toNat k) []) (4 : Nat) V.undef), due := V.toInt (List.getD (List.getD (List.map (RCod.enc cItem) (List.map (RCod.dec cItem) (List.map (RCod.enc cItem) l))) (Int.toNat k) []) (5 : Nat) V.undef), hops := V.toInt (List.getD (List.getD (List.map (RCod.enc cItem) (List.map (RCod.dec cItem) (List.map (RCod.enc cItem) l))) (Int.toNat k) []) (6 : Nat) V.undef) : HMail }, lent := V.toBool (List.getD (List.getD (List.map (RCod.enc cItem) (List.map (RCod.dec cItem) (List.map (RCod.enc cItem) l))) (Int.toNat k) []) (7 : Nat) V.undef), again := V.toBool (List.getD (List.getD (List.map (RCod.enc cItem) (List.map (RCod.dec cItem) (List.map (RCod.enc cItem) l))) (Int.toNat k) []) (8 : Nat) V.undef) : HItem }))), V.str (HMail.key (HItem.mail (N.lendI { mail := { id := V.toInt (List.getD (List.getD (List.map (RCod.enc cItem) (List.map (RCod.dec cItem) (List.map (RCod.enc cItem) l))) (Int.toNat k) []) (0 : Nat) V.undef), shop := V.toStr (List.getD (List.getD (List.map (RCod.enc cItem) (List.map (RCod.dec cItem) (List.map (RCod.enc cItem) l))) (Int.toNat k) []) (1 : Nat) V.undef), key := V.toStr (List.getD (List.getD (List.map (RCod.enc cItem) (List.map (RCod.dec cItem) (List.map (RCod.enc cItem) l))) (Int.toNat k) []) (2 : Nat) V.undef), head := List.map (fun r => { key := V.toStr (List.getD r (0 : Nat) V.undef), kind := V.toInt (List.getD r (1 : Nat) V.undef), num := V.toInt (List.getD r (2 : Nat) V.undef), text := V.toStr (List.getD r (3 : Nat) V.undef) : HPair }) (V.toRows (List.getD (List.getD (List.map (RCod.enc cItem) (List.map (RCod.dec cItem) (List.map (RCod.enc cItem) l))) (Int.toNat k) []) (3 : Nat) V.undef)), body := V.toStr (List.getD (List.getD (List.map (RCod.enc cItem) (List.map (RCod.dec cItem) (List.map (RCod.enc cItem) l))) (Int.toNat k) []) (4 : Nat) V.undef), due := V.toInt (List.getD (List.getD (List.map (RCod.enc cItem) (List.map (RCod.dec cItem) (List.map (RCod.enc cItem) l))) (Int.toNat k) []) (5 : Nat) V.undef), hops := V.toInt (List.getD (List.getD (List.map (RCod.enc cItem) (List.map (RCod.dec cItem) (List.map (RCod.enc cItem) l))) (Int.toNat k) []) (6 : Nat) V.undef) : HMail }, lent := V.toBool (List.getD (List.getD (List.map (RCod.enc cItem) (List.map (RCod.dec cItem) (List.map (RCod.enc cItem) l))) (Int.toNat k) []) (7 : Nat) V.undef), again := V.toBool (List.getD (List.getD (List.map (RCod.enc cItem) (List.map (RCod.dec cItem) (List.map (RCod.enc cItem) l))) (Int.toNat k) []) (8 : Nat) V.undef) : HItem }))), V.slc [Sh.str, Sh.int IntKind.u8, Sh.int IntKind.i64, Sh.str] (List.map (fun p => [V.str (HPair.key p), V.int IntKind.u8 (HPair.kind p), V.int IntKind.i64 (HPair.num p), V.str (HPair.text p)]) (HMail.head (HItem.mail (N.lendI { mail := { id := V.toInt (List.getD (List.getD (List.map (RCod.enc cItem) (List.map (RCod.dec cItem) (List.map (RCod.enc cItem) l))) (Int.toNat k) []) (0 : Nat) V.undef), shop := V.toStr (List.getD (List.getD (List.map (RCod.enc cItem) (List.map (RCod.dec cItem) (List.map (RCod.enc cItem) l))) (Int.toNat k) []) (1 : Nat) V.undef), key := V.toStr (List.getD (List.getD (List.map (RCod.enc cItem) (List.map (RCod.dec cItem) (List.map (RCod.enc cItem) l))) (Int.toNat k) []) (2 : Nat) V.undef), head := List.map (fun r => { key := V.toStr (List.getD r (0 : Nat) V.undef), kind := V.toInt (List.getD r (1 : Nat) V.undef), num := V.toInt (List.getD r (2 : Nat) V.undef), text := V.toStr (List.getD r (3 : Nat) V.undef) : HPair }) (V.toRows (List.getD (List.getD (List.map (RCod.enc cItem) (List.map (RCod.dec cItem) (List.map (RCod.enc cItem) l))) (Int.toNat k) []) (3 : Nat) V.undef)), body := V.toStr (List.getD (List.getD (List.map (RCod.enc cItem) (List.map (RCod.dec cItem) (List.map (RCod.enc cItem) l))) (Int.toNat k) []) (4 : Nat) V.undef), due := V.toInt (List.getD (List.getD (List.map (RCod.enc cItem) (List.map (RCod.dec cItem) (List.map (RCod.enc cItem) l))) (Int.toNat k) []) (5 : Nat) V.undef), hops := V.toInt (List.getD (List.getD (List.map (RCod.enc cItem) (List.map (RCod.dec cItem) (List.map (RCod.enc cItem) l))) (Int.toNat k) []) (6 : Nat) V.undef) : HMail }, lent := V.toBool (List.getD (List.getD (List.map (RCod.enc cItem) (List.map (RCod.dec cItem) (List.map (RCod.enc cItem) l))) (Int.toNat k) []) (7 : Nat) V.undef), again := V.toBool (List.getD (List.getD (List.map (RCod.enc cItem) (List.map (RCod.dec cItem) (List.map (RCod.enc cItem) l))) (Int.toNat k) []) (8 : Nat) V.undef) : HItem })))), V.str (HMail.body (HItem.mail (N.lendI { mail := { id := V.toInt (List.getD (List.getD (List.map (RCod.enc cItem) (List.map (RCod.dec cItem) (List.map (RCod.enc cItem) l))) (Int.toNat k) []) (0 : Nat) V.undef), shop := V.toStr (List.getD (List.getD (List.map (RCod.enc cItem) (List.map (RCod.dec cItem) (List.map (RCod.enc cItem) l))) (Int.toNat k) []) (1 : Nat) V.undef), key := V.toStr (List.getD (List.getD (List.map (RCod.enc cItem) (List.map (RCod.dec cItem) (List.map (RCod.enc cItem) l))) (Int.toNat k) []) (2 : Nat) V.undef), head := List.map (fun r => { key := V.toStr (List.getD r (0 : Nat) V.undef), kind := V.toInt (List.getD r (1 : Nat) V.undef), num := V.toInt (List.getD r (2 : Nat) V.undef), text := V.toStr (List.getD r (3 : Nat) V.undef) : HPair }) (V.toRows (List.getD (List.getD (List.map (RCod.enc cItem) (List.map (RCod.dec cItem) (List.map (RCod.enc cItem) l))) (Int.toNat k) []) (3 : Nat) V.undef)), body := V.toStr (List.getD (List.getD (List.map (RCod.enc cItem) (List.map (RCod.dec cItem) (List.map (RCod.enc cItem) l))) (Int.toNat k) []) (4 : Nat) V.undef), due := V.toInt (List.getD (List.getD (List.map (RCod.enc cItem) (List.map (RCod.dec cItem) (List.map (RCod.enc cItem) l))) (Int.toNat k) []) (5 : Nat) V.undef), hops := V.toInt (List.getD (List.getD (List.map (RCod.enc cItem) (List.map (RCod.dec cItem) (List.map (RCod.enc cItem) l))) (Int.toNat k) []) (6 : Nat) V.undef) : HMail }, lent := V.toBool (List.getD (List.getD (List.map (RCod.enc cItem) (List.map (RCod.dec cItem) (List.map (RCod.enc cItem) l))) (Int.toNat k) []) (7 : Nat) V.undef), again := V.toBool (List.getD (List.getD (List.map (RCod.enc cItem) (List.map (RCod.dec cItem) (List.map (RCod.enc cItem) l))) (Int.toNat k) []) (8 : Nat) V.undef) : HItem }))), V.int IntKind.u64 (HMail.due (HItem.mail (N.lendI { mail := { id := V.toInt (List.getD (List.getD (List.map (RCod.enc cItem) (List.map (RCod.dec cItem) (List.map (RCod.enc cItem) l))) (Int.toNat k) []) (0 : Nat) V.undef), shop := V.toStr (List.getD (List.getD (List.map (RCod.enc cItem) (List.map (RCod.dec cItem) (List.map (RCod.enc cItem) l))) (Int.toNat k) []) (1 : Nat) V.undef), key := V.toStr (List.getD (List.getD (List.map (RCod.enc cItem) (List.map (RCod.dec cItem) (List.map (RCod.enc cItem) l))) (Int.toNat k) []) (2 : Nat) V.undef), head := List.map (fun r => { key := V.toStr (List.getD r (0 : Nat) V.undef), kind := V.toInt (List.getD r (1 : Nat) V.undef), num := V.toInt (List.getD r (2 : Nat) V.undef), text := V.toStr (List.getD r (3 : Nat) V.undef) : HPair }) (V.toRows (List.getD (List.getD (List.map (RCod.enc cItem) (List.map (RCod.dec cItem) (List.map (RCod.enc cItem) l))) (Int.toNat k) []) (3 : Nat) V.undef)), body := V.toStr (List.getD (List.getD (List.map (RCod.enc cItem) (List.map (RCod.dec cItem) (List.map (RCod.enc cItem) l))) (Int.toNat k) []) (4 : Nat) V.undef), due := V.toInt (List.getD (List.getD (List.map (RCod.enc cItem) (List.map (RCod.dec cItem) (List.map (RCod.enc cItem) l))) (Int.toNat k) []) (5 : Nat) V.undef), hops := V.toInt (List.getD (List.getD (List.map (RCod.enc cItem) (List.map (RCod.dec cItem) (List.map (RCod.enc cItem) l))) (Int.toNat k) []) (6 : Nat) V.undef) : HMail }, lent := V.toBool (List.getD (List.getD (List.map (RCod.enc cItem) (List.map (RCod.dec cItem) (List.map (RCod.enc cItem) l))) (Int.toNat k) []) (7 : Nat) V.undef), again := V.toBool (List.getD (List.getD (List.map (RCod.enc cItem) (List.map (RCod.dec cItem) (List.map (RCod.enc cItem) l))) (Int.toNat k) []) (8 : Nat) V.undef) : HItem }))), V.int IntKind.u8 (HMail.hops (HItem.mail (N.lendI { mail := { id := V.toInt (List.getD (List.getD (List.map (RCod.enc cItem) (List.map (RCod.dec cItem) (List.map (RCod.enc cItem) l))) (Int.toNat k) []) (0 : Nat) V.undef), shop := V.toStr (List.getD (List.getD (List.map (RCod.enc cItem) (List.map (RCod.dec cItem) (List.map (RCod.enc cItem) l))) (Int.toNat k) []) (1 : Nat) V.undef), key := V.toStr (List.getD (List.getD (List.map (RCod.enc cItem) (List.map (RCod.dec cItem) (List.map (RCod.enc cItem) l))) (Int.toNat k) []) (2 : Nat) V.undef), head := List.map (fun r => { key := V.toStr (List.getD r (0 : Nat) V.undef), kind := V.toInt (List.getD r (1 : Nat) V.undef), num := V.toInt (List.getD r (2 : Nat) V.undef), text := V.toStr (List.getD r (3 : Nat) V.undef) : HPair }) (V.toRows (List.getD (List.getD (List.map (RCod.enc cItem) (List.map (RCod.dec cItem) (List.map (RCod.enc cItem) l))) (Int.toNat k) []) (3 : Nat) V.undef)), body := V.toStr (List.getD (List.getD (List.map (RCod.enc cItem) (List.map (RCod.dec cItem) (List.map (RCod.enc cItem) l))) (Int.toNat k) []) (4 : Nat) V.undef), due := V.toInt (List.getD (List.getD (List.map (RCod.enc cItem) (List.map (RCod.dec cItem) (List.map (RCod.enc cItem) l))) (Int.toNat k) []) (5 : Nat) V.undef), hops := V.toInt (List.getD (List.getD (List.map (RCod.enc cItem) (List.map (RCod.dec cItem) (List.map (RCod.enc cItem) l))) (Int.toNat k) []) (6 : Nat) V.undef) : HMail }, lent := V.toBool (List.getD (List.getD (List.map (RCod.enc cItem) (List.map (RCod.dec cItem) (List.map (RCod.enc cItem) l))) (Int.toNat k) []) (7 : Nat) V.undef), again := V.toBool (List.getD (List.getD (List.map (RCod.enc cItem) (List.map (RCod.dec cItem) (List.map (RCod.enc cItem) l))) (Int.toNat k) []) (8 : Nat) V.undef) : HItem }))), V.bool (HItem.lent (N.lendI { mail := { id := V.toInt (List.getD (List.getD (List.map (RCod.enc cItem) (List.map (RCod.dec cItem) (List.map (RCod.enc cItem) l))) (Int.toNat k) []) (0 : Nat) V.undef), shop := V.toStr (List.getD (List.getD (List.map (RCod.enc cItem) (List.map (RCod.dec cItem) (List.map (RCod.enc cItem) l))) (Int.toNat k) []) (1 : Nat) V.undef), key := V.toStr (List.getD (List.getD (List.map (RCod.enc cItem) (List.map (RCod.dec cItem) (List.map (RCod.enc cItem) l))) (Int.toNat k) []) (2 : Nat) V.undef), head := List.map (fun r => { key := V.toStr (List.getD r (0 : Nat) V.undef), kind := V.toInt (List.getD r (1 : Nat) V.undef), num := V.toInt (List.getD r (2 : Nat) V.undef), text := V.toStr (List.getD r (3 : Nat) V.undef) : HPair }) (V.toRows (List.getD (List.getD (List.map (RCod.enc cItem) (List.map (RCod.dec cItem) (List.map (RCod.enc cItem) l))) (Int.toNat k) []) (3 : Nat) V.undef)), body := V.toStr (List.getD (List.getD (List.map (RCod.enc cItem) (List.map (RCod.dec cItem) (List.map (RCod.enc cItem) l))) (Int.toNat k) []) (4 : Nat) V.undef), due := V.toInt (List.getD (List.getD (List.map (RCod.enc cItem) (List.map (RCod.dec cItem) (List.map (RCod.enc cItem) l))) (Int.toNat k) []) (5 : Nat) V.undef), hops := V.toInt (List.getD (List.getD (List.map (RCod.enc cItem) (List.map (RCod.dec cItem) (List.map (RCod.enc cItem) l))) (Int.toNat k) []) (6 : Nat) V.undef) : HMail }, lent := V.toBool (List.getD (List.getD (List.map (RCod.enc cItem) (List.map (RCod.dec cItem) (List.map (RCod.enc cItem) l))) (Int.toNat k) []) (7 : Nat) V.undef), again := V.toBool (List.getD (List.getD (List.map (RCod.enc cItem) (List.map (RCod.dec cItem) (List.map (RCod.enc cItem) l))) (Int.toNat k) []) (8 : Nat) V.undef) : HItem })), V.bool (HItem.again (N.lendI { mail := { id := V.toInt (List.getD (List.getD (List.map (RCod.enc cItem) (List.map (RCod.dec cItem) (List.map (RCod.enc cItem) l))) (Int.toNat k) []) (0 : Nat) V.undef), shop := V.toStr (List.getD (List.getD (List.map (RCod.enc cItem) (List.map (RCod.dec cItem) (List.map (RCod.enc cItem) l))) (Int.toNat k) []) (1 : Nat) V.undef), key := V.toStr (List.getD (List.getD (List.map (RCod.enc cItem) (List.map (RCod.dec cItem) (List.map (RCod.enc cItem) l))) (Int.toNat k) []) (2 : Nat) V.undef), head := List.map (fun r => { key := V.toStr (List.getD r (0 : Nat) V.undef), kind := V.toInt (List.getD r (1 : Nat) V.undef), num := V.toInt (List.getD r (2 : Nat) V.undef), text := V.toStr (List.getD r (3 : Nat) V.undef) : HPair }) (V.toRows (List.getD (List.getD (List.map (RCod.enc cItem) (List.map (RCod.dec cItem) (List.map (RCod.enc cItem) l))) (Int.toNat k) []) (3 : Nat) V.undef)), body := V.toStr (List.getD (List.getD (List.map (RCod.enc cItem) (List.map (RCod.dec cItem) (List.map (RCod.enc cItem) l))) (Int.toNat k) []) (4 : Nat) V.undef), due := V.toInt (List.getD (List.getD (List.map (RCod.enc cItem) (List.map (RCod.dec cItem) (List.map (RCod.enc cItem) l))) (Int.toNat k) []) (5 : Nat) V.undef), hops := V.toInt (List.getD (List.getD (List.map (RCod.enc cItem) (List.map (RCod.dec cItem) (List.map (RCod.enc cItem) l))) (Int.toNat k) []) (6 : Nat) V.undef) : HMail }, lent := V.toBool (List.getD (List.getD (List.map (RCod.enc cItem) (List.map (RCod.dec cItem) (List.map (RCod.enc cItem) l))) (Int.toNat k) []) (7 : Nat) V.undef), again := V.toBool (List.getD (List.getD (List.map (RCod.enc cItem) (List.map (RCod.dec cItem) (List.map (RCod.enc cItem) l))) (Int.toNat k) []) (8 : Nat) V.undef) : HItem }))])], bx := [] : DRes }) (none)) (none) := by kernel_rfl
theorem ok_withL : FnOk Tryz.prog 65 (dWith 67 N.lendI) := by
  refine den_okF (env_ok (((TOk.nil _).cons ok_markL).cons ok_cloneIO)) (E := eWithL) Tryz.func65 [] (by kernel_rfl) none0 fun a _ h => ?_
  obtain ⟨l, k, ⟨⟩⟩ := a
  obtain ⟨h1, h2⟩ := bcond h
  obtain ⟨h2, h3⟩ := bcond h2
  have h1 : 0 ≤ k := ile_of h1
  have h2 : k < l.length := ilt_of h2
  have h3 : Nat.ble l.length 1000 = true := h3
  have hn : Nat.beq l.length 0 = false := by
    rw [Bool.eq_false_iff]
    intro e
    have := Nat.eq_of_beq_eq_true e
    omega
  refine (q_withL l k).trans ?_
  have hg := getD_enc cItem l k.toNat item0 (by omega)
  simp only [dec_encs, List.length_map, hn, h3, hg, fold_item, cItem.de, fold_itemE, ← List.map_set]
  simp (disch := omega) only [evs]
  rfl
noncomputable def eWithB : Env := env Tryz.prog [(113, dCloneIO), (102, dMarkI N.backI)] [] []
theorem q_withB (l : List HItem) (k : Int) : evFn eWithB 65 ((aCons (vAgg cLine) (aCons (vInt .i64) (aOne (vFn0 102)))).enc (l, k, ())) ([]) some =
 cond (bif Nat.beq (List.length (List.map (RCod.dec cItem) (List.map (RCod.enc cItem) l))) (0 : Nat) then false else Nat.ble (List.length (List.map (RCod.dec cItem) (List.map (RCod.enc cItem) l))) (1000 : Nat)) (cond (decide ((0 : Int) ≤ k ∧ k < (↑(List.length (List.map (RCod.enc cItem) (List.map (RCod.dec cItem) (List.map (RCod.enc cItem) l)))) : Int))) (some { v := V.agg [V.slc [Sh.int IntKind.u64, Sh.str, Sh.str, Sh.slc [Sh.str, Sh.int IntKind.u8, Sh.int IntKind.i64, Sh.str], Sh.str, Sh.int IntKind.u64, Sh.int IntKind.u8, Sh.bool, Sh.bool] (List.set (List.map (RCod.enc cItem) (List.map (RCod.dec cItem) (List.map (RCod.enc cItem) l))) (Int.toNat k) [V.int IntKind.u64 (HMail.id (HItem.mail (N.backI { mail := { id := V.toInt (List.getD (List.getD (List.map (RCod.enc cItem) (List.map (RCod.dec cItem) (List.map (RCod.enc cItem) l))) (Int.toNat k) []) (0 : Nat) V.undef), shop := V.toStr (List.getD (List.getD (List.map (RCod.enc cItem) (List.map (RCod.dec cItem) (List.map (RCod.enc cItem) l))) (Int.toNat k) []) (1 : Nat) V.undef), key := V.toStr (List.getD (List.getD (List.map (RCod.enc cItem) (List.map (RCod.dec cItem) (List.map (RCod.enc cItem) l))) (Int.toNat k) []) (2 : Nat) V.undef), head := List.map (fun r => { key := V.toStr (List.getD r (0 : Nat) V.undef), kind := V.toInt (List.getD r (1 : Nat) V.undef), num := V.toInt (List.getD r (2 : Nat) V.undef), text := V.toStr (List.getD r (3 : Nat) V.undef) : HPair }) (V.toRows (List.getD (List.getD (List.map (RCod.enc cItem) (List.map (RCod.dec cItem) (List.map (RCod.enc cItem) l))) (Int.toNat k) []) (3 : Nat) V.undef)), body := V.toStr (List.getD (List.getD (List.map (RCod.enc cItem) (List.map (RCod.dec cItem) (List.map (RCod.enc cItem) l))) (Int.toNat k) []) (4 : Nat) V.undef), due := V.toInt (List.getD (List.getD (List.map (RCod.enc cItem) (List.map (RCod.dec cItem) (List.map (RCod.enc cItem) l))) (Int.toNat k) []) (5 : Nat) V.undef), hops := V.toInt (List.getD (List.getD (List.map (RCod.enc cItem) (List.map (RCod.dec cItem) (List.map (RCod.enc cItem) l))) (Int.toNat k) []) (6 : Nat) V.undef) : HMail }, lent := V.toBool (List.getD (List.getD (List.map (RCod.enc cItem) (List.map (RCod.dec cItem) (List.map (RCod.enc cItem) l))) (Int.toNat k) []) (7 : Nat) V.undef), again := V.toBool (List.getD (List.getD (List.map (RCod.enc cItem) (List.map (RCod.dec cItem) (List.map (RCod.enc cItem) l))) (Int.toNat k) []) (8 : Nat) V.undef) : HItem }))), V.str (HMail.shop (HItem.mail (N.backI { mail := { id := V.toInt (List.getD (List.getD (List.map (RCod.enc cItem) (List.map (RCod.dec cItem) (List.map (RCod.enc cItem) l))) (Int.toNat k) []) (0 : Nat) V.undef), shop := V.toStr (List.getD (List.getD (List.map (RCod.enc cItem) (List.map (RCod.dec cItem) (List.map (RCod.enc cItem) l))) (Int.toNat k) []) (1 : Nat) V.undef), key := V.toStr (List.getD (List.getD (List.map (RCod.enc cItem) (List.map (RCod.dec cItem) (List.map (RCod.enc cItem) l))) (Int.toNat k) []) (2 : Nat) V.undef), head := List.map (fun r => { key := V.toStr (List.getD r (0 : Nat) V.undef), kind := V.toInt (List.getD r (1 : Nat) V.undef), num := V.toInt (List.getD r (2 : Nat) V.undef), text := V.toStr (List.getD r (3 : Nat) V.undef) : HPair }) (V.toRows (List.getD (List.getD (List.map (RCod.enc cItem) (List.map (RCod.dec cItem) (List.map (RCod.enc cItem) l))) (Int.toNat k) []) (3 : Nat) V.undef)), body := V.toStr (List.getD (List.getD (List.map (RCod.enc cItem) (List.map (RCod.dec cItem) (List.map (RCod.enc cItem) l))) (Int.toNat k) []) (4 : Nat) V.undef), due := V.toInt (List.getD (List.getD (List.map (RCod.enc cItem) (List.map (RCod.dec cItem) (List.map (RCod.enc cItem) l))) (Int.toNat k) []) (5 : Nat) V.undef), hops := V.toInt (List.getD (List.getD (List.map (RCod.enc cItem) (List.map (RCod.dec cItem) (List.map (RCod.enc cItem) l))) (Int.toNat k) []) (6 : Nat) V.undef) : HMail }, lent := V.toBool (List.getD (List.getD (List.map (RCod.enc cItem) (List.map (RCod.dec cItem) (List.map (RCod.enc cItem) l))) (Int.toNat k) []) (7 : Nat) V.undef), again := V.toBool (List.getD (List.getD (List.map (RCod.enc cItem) (List.map (RCod.dec cItem) (List.map (RCod.enc cItem) l))) (Int.toNat k) []) (8 : Nat) V.undef) : HItem }))), V.str (HMail.key (HItem.mail (N.backI { mail := { id := V.toInt (List.getD (List.getD (List.map (RCod.enc cItem) (List.map (RCod.dec cItem) (List.map (RCod.enc cItem) l))) (Int.toNat k) []) (0 : Nat) V.undef), shop := V.toStr (List.getD (List.getD (List.map (RCod.enc cItem) (List.map (RCod.dec cItem) (List.map (RCod.enc cItem) l))) (Int.toNat k) []) (1 : Nat) V.undef), key := V.toStr (List.getD (List.getD (List.map (RCod.enc cItem) (List.map (RCod.dec cItem) (List.map (RCod.enc cItem) l))) (Int.toNat k) []) (2 : Nat) V.undef), head := List.map (fun r => { key := V.toStr (List.getD r (0 : Nat) V.undef), kind := V.toInt (List.getD r (1 : Nat) V.undef), num := V.toInt (List.getD r (2 : Nat) V.undef), text := V.toStr (List.getD r (3 : Nat) V.undef) : HPair }) (V.toRows (List.getD (List.getD (List.map (RCod.enc cItem) (List.map (RCod.dec cItem) (List.map (RCod.enc cItem) l))) (Int.toNat k) []) (3 : Nat) V.undef)), body := V.toStr (List.getD (List.getD (List.map (RCod.enc cItem) (List.map (RCod.dec cItem) (List.map (RCod.enc cItem) l))) (Int.toNat k) []) (4 : Nat) V.undef), due := V.toInt (List.getD (List.getD (List.map (RCod.enc cItem) (List.map (RCod.dec cItem) (List.map (RCod.enc cItem) l))) (Int.toNat k) []) (5 : Nat) V.undef), hops := V.toInt (List.getD (List.getD (List.map (RCod.enc cItem) (List.map (RCod.dec cItem) (List.map (RCod.enc cItem) l))) (Int.toNat k) []) (6 : Nat) V.undef) : HMail }, lent := V.toBool (List.getD (List.getD (List.map (RCod.enc cItem) (List.map (RCod.dec cItem) (List.map (RCod.enc cItem) l))) (Int.toNat k) []) (7 : Nat) V.undef), again := V.toBool (List.getD (List.getD (List.map (RCod.enc cItem) (List.map (RCod.dec cItem) (List.map (RCod.enc cItem) l))) (Int.toNat k) []) (8 : Nat) V.undef) : HItem }))), V.slc [Sh.str, Sh.int IntKind.u8, Sh.int IntKind.i64, Sh.str] (List.map (fun p => [V.str (HPair.key p), V.int IntKind.u8 (HPair.kind p), V.int IntKind.i64 (HPair.num p), V.str (HPair.text p)]) (HMail.head (HItem.mail (N.backI { mail := { id := V.toInt (List.getD (List.getD (List.map (RCod.enc cItem) (List.map (RCod.dec cItem) (List.map (RCod.enc cItem) l))) (Int.toNat k) []) (0 : Nat) V.undef), shop := V.toStr (List.getD (List.getD (List.map (RCod.enc cItem) (List.map (RCod.dec cItem) (List.map (RCod.enc cItem) l))) (Int.toNat k) []) (1 : Nat) V.undef), key := V.toStr (List.getD (List.getD (List.map (RCod.enc cItem) (List.map (RCod.dec cItem) (List.map (RCod.enc cItem) l))) (Int.toNat k) []) (2 : Nat) V.undef), head := List.map (fun r => { key := V.toStr (List.getD r (0 : Nat) V.undef), kind := V.toInt (List.getD r (1 : Nat) V.undef), num := V.toInt (List.getD r (2 : Nat) V.undef), text := V.toStr (List.getD r (3 : Nat) V.undef) : HPair }) (V.toRows (List.getD (List.getD (List.map (RCod.enc cItem) (List.map (RCod.dec cItem) (List.map (RCod.enc cItem) l))) (Int.toNat k) []) (3 : Nat) V.undef)), body := V.toStr (List.getD (List.getD (List.map (RCod.enc cItem) (List.map (RCod.dec cItem) (List.map (RCod.enc cItem) l))) (Int.toNat k) []) (4 : Nat) V.undef), due := V.toInt (List.getD (List.getD (List.map (RCod.enc cItem) (List.map (RCod.dec cItem) (List.map (RCod.enc cItem) l))) (Int.toNat k) []) (5 : Nat) V.undef), hops := V.toInt (List.getD (List.getD (List.map (RCod.enc cItem) (List.map (RCod.dec cItem) (List.map (RCod.enc cItem) l))) (Int.toNat k) []) (6 : Nat) V.undef) : HMail }, lent := V.toBool (List.getD (List.getD (List.map (RCod.enc cItem) (List.map (RCod.dec cItem) (List.map (RCod.enc cItem) l))) (Int.toNat k) []) (7 : Nat) V.undef), again := V.toBool (List.getD (List.getD (List.map (RCod.enc cItem) (List.map (RCod.dec cItem) (List.map (RCod.enc cItem) l))) (Int.toNat k) []) (8 : Nat) V.undef) : HItem })))), V.str (HMail.body (HItem.mail (N.backI { mail := { id := V.toInt (List.getD (List.getD (List.map (RCod.enc cItem) (List.map (RCod.dec cItem) (List.map (RCod.enc cItem) l))) (Int.toNat k) []) (0 : Nat) V.undef), shop := V.toStr (List.getD (List.getD (List.map (RCod.enc cItem) (List.map (RCod.dec cItem) (List.map (RCod.enc cItem) l))) (Int.toNat k) []) (1 : Nat) V.undef), key := V.toStr (List.getD (List.getD (List.map (RCod.enc cItem) (List.map (RCod.dec cItem) (List.map (RCod.enc cItem) l))) (Int.toNat k) []) (2 : Nat) V.undef), head := List.map (fun r => { key := V.toStr (List.getD r (0 : Nat) V.undef), kind := V.toInt (List.getD r (1 : Nat) V.undef), num := V.toInt (List.getD r (2 : Nat) V.undef), text := V.toStr (List.getD r (3 : Nat) V.undef) : HPair }) (V.toRows (List.getD (List.getD (List.map (RCod.enc cItem) (List.map (RCod.dec cItem) (List.map (RCod.enc cItem) l))) (Int.toNat k) []) (3 : Nat) V.undef)), body := V.toStr (List.getD (List.getD (List.map (RCod.enc cItem) (List.map (RCod.dec cItem) (List.map (RCod.enc cItem) l))) (Int.toNat k) []) (4 : Nat) V.undef), due := V.toInt (List.getD (List.getD (List.map (RCod.enc cItem) (List.map (RCod.dec cItem) (List.map (RCod.enc cItem) l))) (Int.toNat k) []) (5 : Nat) V.undef), hops := V.toInt (List.getD (List.getD (List.map (RCod.enc cItem) (List.map (RCod.dec cItem) (List.map (RCod.enc cItem) l))) (Int.toNat k) []) (6 : Nat) V.undef) : HMail }, lent := V.toBool (List.getD (List.getD (List.map (RCod.enc cItem) (List.map (RCod.dec cItem) (List.map (RCod.enc cItem) l))) (Int.toNat k) []) (7 : Nat) V.undef), again := V.toBool (List.getD (List.getD (List.map (RCod.enc cItem) (List.map (RCod.dec cItem) (List.map (RCod.enc cItem) l))) (Int.toNat k) []) (8 : Nat) V.undef) : HItem }))), V.int IntKind.u64 (HMail.due (HItem.mail (N.backI { mail := { id := V.toInt (List.getD (List.getD (List.map (RCod.enc cItem) (List.map (RCod.dec cItem) (List.map (RCod.enc cItem) l))) (Int.toNat k) []) (0 : Nat) V.undef), shop := V.toStr (List.getD (List.getD (List.map (RCod.enc cItem) (List.map (RCod.dec cItem) (List.map (RCod.enc cItem) l))) (Int.toNat k) []) (1 : Nat) V.undef), key := V.toStr (List.getD (List.getD (List.map (RCod.enc cItem) (List.map (RCod.dec cItem) (List.map (RCod.enc cItem) l))) (Int.toNat k) []) (2 : Nat) V.undef), head := List.map (fun r => { key := V.toStr (List.getD r (0 : Nat) V.undef), kind := V.toInt (List.getD r (1 : Nat) V.undef), num := V.toInt (List.getD r (2 : Nat) V.undef), text := V.toStr (List.getD r (3 : Nat) V.undef) : HPair }) (V.toRows (List.getD (List.getD (List.map (RCod.enc cItem) (List.map (RCod.dec cItem) (List.map (RCod.enc cItem) l))) (Int.toNat k) []) (3 : Nat) V.undef)), body := V.toStr (List.getD (List.getD (List.map (RCod.enc cItem) (List.map (RCod.dec cItem) (List.map (RCod.enc cItem) l))) (Int.toNat k) []) (4 : Nat) V.undef), due := V.toInt (List.getD (List.getD (List.map (RCod.enc cItem) (List.map (RCod.dec cItem) (List.map (RCod.enc cItem) l))) (Int.toNat k) []) (5 : Nat) V.undef), hops := V.toInt (List.getD (List.getD (List.map (RCod.enc cItem) (List.map (RCod.dec cItem) (List.map (RCod.enc cItem) l))) (Int.toNat k) []) (6 : Nat) V.undef) : HMail }, lent := V.toBool (List.getD (List.getD (List.map (RCod.enc cItem) (List.map (RCod.dec cItem) (List.map (RCod.enc cItem) l))) (Int.toNat k) []) (7 : Nat) V.undef), again := V.toBool (List.getD (List.getD (List.map (RCod.enc cItem) (List.map (RCod.dec cItem) (List.map (RCod.enc cItem) l))) (Int.toNat k) []) (8 : Nat) V.undef) : HItem }))), V.int IntKind.u8 (HMail.hops (HItem.mail (N.backI { mail := { id := V.toInt (List.getD (List.getD (List.map (RCod.enc cItem) (List.map (RCod.dec cItem) (List.map (RCod.enc cItem) l))) (Int.toNat k) []) (0 : Nat) V.undef), shop := V.toStr (List.getD (List.getD (List.map (RCod.enc cItem) (List.map (RCod.dec cItem) (List.map (RCod.enc cItem) l))) (Int.toNat k) []) (1 : Nat) V.undef), key := V.toStr (List.getD (List.getD (List.map (RCod.enc cItem) (List.map (RCod.dec cItem) (List.map (RCod.enc cItem) l))) (Int.toNat k) []) (2 : Nat) V.undef), head := List.map (fun r => { key := V.toStr (List.getD r (0 : Nat) V.undef), kind := V.toInt (List.getD r (1 : Nat) V.undef), num := V.toInt (List.getD r (2 : Nat) V.undef), text := V.toStr (List.getD r (3 : Nat) V.undef) : HPair }) (V.toRows (List.getD (List.getD (List.map (RCod.enc cItem) (List.map (RCod.dec cItem) (List.map (RCod.enc cItem) l))) (Int.toNat k) []) (3 : Nat) V.undef)), body := V.toStr (List.getD (List.getD (List.map (RCod.enc cItem) (List.map (RCod.dec cItem) (List.map (RCod.enc cItem) l))) (Int.toNat k) []) (4 : Nat) V.undef), due := V.toInt (List.getD (List.getD (List.map (RCod.enc cItem) (List.map (RCod.dec cItem) (List.map (RCod.enc cItem) l))) (Int.toNat k) []) (5 : Nat) V.undef), hops := V.toInt (List.getD (List.getD (List.map (RCod.enc cItem) (List.map (RCod.dec cItem) (List.map (RCod.enc cItem) l))) (Int.toNat k) []) (6 : Nat) V.undef) : HMail }, lent := V.toBool (List.getD (List.getD (List.map (RCod.enc cItem) (List.map (RCod.dec cItem) (List.map (RCod.enc cItem) l))) (Int.toNat k) []) (7 : Nat) V.undef), again := V.toBool (List.getD (List.getD (List.map (RCod.enc cItem) (List.map (RCod.dec cItem) (List.map (RCod.enc cItem) l))) (Int.toNat k) []) (8 : Nat) V.undef) : HItem }))), V.bool (HItem.lent (N.backI { mail := { id := V.toInt (List.getD (List.getD (List.map (RCod.enc cItem) (List.map (RCod.dec cItem) (List.map (RCod.enc cItem) l))) (Int.toNat k) []) (0 : Nat) V.undef), shop := V.toStr (List.getD (List.getD (List.map (RCod.enc cItem) (List.map (RCod.dec cItem) (List.map (RCod.enc cItem) l))) (Int.toNat k) []) (1 : Nat) V.undef), key := V.toStr (List.getD (List.getD (List.map (RCod.enc cItem) (List.map (RCod.dec cItem) (List.map (RCod.enc cItem) l))) (Int.toNat k) []) (2 : Nat) V.undef), head := List.map (fun r => { key := V.toStr (List.getD r (0 : Nat) V.undef), kind := V.toInt (List.getD r (1 : Nat) V.undef), num := V.toInt (List.getD r (2 : Nat) V.undef), text := V.toStr (List.getD r (3 : Nat) V.undef) : HPair }) (V.toRows (List.getD (List.getD (List.map (RCod.enc cItem) (List.map (RCod.dec cItem) (List.map (RCod.enc cItem) l))) (Int.toNat k) []) (3 : Nat) V.undef)), body := V.toStr (List.getD (List.getD (List.map (RCod.enc cItem) (List.map (RCod.dec cItem) (List.map (RCod.enc cItem) l))) (Int.toNat k) []) (4 : Nat) V.undef), due := V.toInt (List.getD (List.getD (List.map (RCod.enc cItem) (List.map (RCod.dec cItem) (List.map (RCod.enc cItem) l))) (Int.toNat k) []) (5 : Nat) V.undef), hops := V.toInt (List.getD (List.getD (List.map (RCod.enc cItem) (List.map (RCod.dec cItem) (List.map (RCod.enc cItem) l))) (Int.toNat k) []) (6 : Nat) V.undef) : HMail }, lent := V.toBool (List.getD (List.getD (List.map (RCod.enc cItem) (List.map (RCod.dec cItem) (List.map (RCod.enc cItem) l))) (Int.toNat k) []) (7 : Nat) V.undef), again := V.toBool (List.getD (List.getD (List.map (RCod.enc cItem) (List.map (RCod.dec cItem) (List.map (RCod.enc cItem) l))) (Int.toNat k) []) (8 : Nat) V.undef) : HItem })), V.bool (HItem.again (N.backI { mail := { id := V.toInt (List.getD (List.getD (List.map (RCod.enc cItem) (List.map (RCod.dec cItem) (List.map (RCod.enc cItem) l))) (Int.toNat k) []) (0 : Nat) V.undef), shop := V.toStr (List.getD (List.getD (List.map (RCod.enc cItem) (List.map (RCod.dec cItem) (List.map (RCod.enc cItem) l))) (Int.toNat k) []) (1 : Nat) V.undef), key := V.toStr (List.getD (List.getD (List.map (RCod.enc cItem) (List.map (RCod.dec cItem) (List.map (RCod.enc cItem) l))) (Int.toNat k) []) (2 : Nat) V.undef), head := List.map (fun r => { key := V.toStr (List.getD r (0 : Nat) V.undef), kind := V.toInt (List.getD r (1 : Nat) V.undef), num := V.toInt (List.getD r (2 : Nat) V.undef), text := V.toStr (List.getD r (3 : Nat) V.undef) : HPair }) (V.toRows (List.getD (List.getD (List.map (RCod.enc cItem) (List.map (RCod.dec cItem) (List.map (RCod.enc cItem) l))) (Int.toNat k) []) (3 : Nat) V.undef)), body := V.toStr (List.getD (List.getD (List.map (RCod.enc cItem) (List.map (RCod.dec cItem) (List.map (RCod.enc cItem) l))) (Int.toNat k) []) (4 : Nat) V.undef), due := V.toInt (List.getD (List.getD (List.map (RCod.enc cItem) (List.map (RCod.dec cItem) (List.map (RCod.enc cItem) l))) (Int.toNat k) []) (5 : Nat) V.undef), hops := V.toInt (List.getD (List.getD (List.map (RCod.enc cItem) (List.map (RCod.dec cItem) (List.map (RCod.enc cItem) l))) (Int.toNat k) []) (6 : Nat) V.undef) : HMail }, lent := V.toBool (List.getD (List.getD (List.map (RCod.enc cItem) (List.map (RCod.dec cItem) (List.map (RCod.enc cItem) l))) (Int.toNat k) []) (7 : Nat) V.undef), again := V.toBool (List.getD (List.getD (List.map (RCod.enc cItem) (List.map (RCod.dec cItem) (List.map (RCod.enc cItem) l))) (Int.toNat k) []) (8 : Nat) V.undef) : HItem }))])], bx := [] : DRes }) (none)) (none) := by kernel_rfl
theorem ok_withB : FnOk Tryz.prog 65 (dWith 102 N.backI) := by
  refine den_okF (env_ok (((TOk.nil _).cons ok_markB).cons ok_cloneIO)) (E := eWithB) Tryz.func65 [] (by kernel_rfl) none0 fun a _ h => ?_
  obtain ⟨l, k, ⟨⟩⟩ := a
  obtain ⟨h1, h2⟩ := bcond h
  obtain ⟨h2, h3⟩ := bcond h2
  have h1 : 0 ≤ k := ile_of h1
  have h2 : k < l.length := ilt_of h2
  have h3 : Nat.ble l.length 1000 = true := h3
  have hn : Nat.beq l.length 0 = false := by
    rw [Bool.eq_false_iff]
    intro e
    have := Nat.eq_of_beq_eq_true e
    omega
  refine (q_withB l k).trans ?_
  have hg := getD_enc cItem l k.toNat item0 (by omega)
  simp only [dec_encs, List.length_map, hn, h3, hg, fold_item, cItem.de, fold_itemE, ← List.map_set]
  simp (disch := omega) only [evs]
  rfl
noncomputable def eWithW : Env := env Tryz.prog [(113, dCloneIO), (66, dMarkI N.backI)] [] []
theorem q_withW (l : List HItem) (k : Int) : evFn eWithW 65 ((aCons (vAgg cLine) (aCons (vInt .i64) (aOne (vFn0 66)))).enc (l, k, ())) ([]) some =
 cond (bif Nat.beq (List.length (List.map (RCod.dec cItem) (List.map (RCod.enc cItem) l))) (0 : Nat) then false else Nat.ble (List.length (List.map (RCod.dec cItem) (List.map (RCod.enc cItem) l))) (1000 : Nat)) (cond (decide ((0 : Int) ≤ k ∧ k < (↑(List.length (List.map (RCod.enc cItem) (List.map (RCod.dec cItem) (List.map (RCod.enc cItem) l)))) : Int))) (some { v := V.agg [V.slc [Sh.int IntKind.u64, Sh.str, Sh.str, Sh.slc [Sh.str, Sh.int IntKind.u8, Sh.int IntKind.i64, Sh.str], Sh.str, Sh.int IntKind.u64, Sh.int IntKind.u8, Sh.bool, Sh.bool] (List.set (List.map (RCod.enc cItem) (List.map (RCod.dec cItem) (List.map (RCod.enc cItem) l))) (Int.toNat k) [V.int IntKind.u64 (HMail.id (HItem.mail (N.backI { mail := { id := V.toInt (List.getD (List.getD (List.map (RCod.enc cItem) (List.map (RCod.dec cItem) (List.map (RCod.enc cItem) l))) (Int.toNat k) []) (0 : Nat) V.undef), shop := V.toStr (List.getD (List.getD (List.map (RCod.enc cItem) (List.map (RCod.dec cItem) (List.map (RCod.enc cItem) l))) (Int.toNat k) []) (1 : Nat) V.undef), key := V.toStr (List.getD (List.getD (List.map (RCod.enc cItem) (List.map (RCod.dec cItem) (List.map (RCod.enc cItem) l))) (Int.toNat k) []) (2 : Nat) V.undef), head := List.map (fun r => { key := V.toStr (List.getD r (0 : Nat) V.undef), kind := V.toInt (List.getD r (1 : Nat) V.undef), num := V.toInt (List.getD r (2 : Nat) V.undef), text := V.toStr (List.getD r (3 : Nat) V.undef) : HPair }) (V.toRows (List.getD (List.getD (List.map (RCod.enc cItem) (List.map (RCod.dec cItem) (List.map (RCod.enc cItem) l))) (Int.toNat k) []) (3 : Nat) V.undef)), body := V.toStr (List.getD (List.getD (List.map (RCod.enc cItem) (List.map (RCod.dec cItem) (List.map (RCod.enc cItem) l))) (Int.toNat k) []) (4 : Nat) V.undef), due := V.toInt (List.getD (List.getD (List.map (RCod.enc cItem) (List.map (RCod.dec cItem) (List.map (RCod.enc cItem) l))) (Int.toNat k) []) (5 : Nat) V.undef), hops := V.toInt (List.getD (List.getD (List.map (RCod.enc cItem) (List.map (RCod.dec cItem) (List.map (RCod.enc cItem) l))) (Int.toNat k) []) (6 : Nat) V.undef) : HMail }, lent := V.toBool (List.getD (List.getD (List.map (RCod.enc cItem) (List.map (RCod.dec cItem) (List.map (RCod.enc cItem) l))) (Int.toNat k) []) (7 : Nat) V.undef), again := V.toBool (List.getD (List.getD (List.map (RCod.enc cItem) (List.map (RCod.dec cItem) (List.map (RCod.enc cItem) l))) (Int.toNat k) []) (8 : Nat) V.undef) : HItem }))), V.str (HMail.shop (HItem.mail (N.backI { mail := { id := V.toInt (List.getD (List.getD (List.map (RCod.enc cItem) (List.map (RCod.dec cItem) (List.map (RCod.enc cItem) l))) (Int.toNat k) []) (0 : Nat) V.undef), shop := V.toStr (List.getD (List.getD (List.map (RCod.enc cItem) (List.map (RCod.dec cItem) (List.map (RCod.enc cItem) l))) (Int.toNat k) []) (1 : Nat) V.undef), key := V.toStr (List.getD (List.getD (List.map (RCod.enc cItem) (List.map (RCod.dec cItem) (List.map (RCod.enc cItem) l))) (Int.toNat k) []) (2 : Nat) V.undef), head := List.map (fun r => { key := V.toStr (List.getD r (0 : Nat) V.undef), kind := V.toInt (List.getD r (1 : Nat) V.undef), num := V.toInt (List.getD r (2 : Nat) V.undef), text := V.toStr (List.getD r (3 : Nat) V.undef) : HPair }) (V.toRows (List.getD (List.getD (List.map (RCod.enc cItem) (List.map (RCod.dec cItem) (List.map (RCod.enc cItem) l))) (Int.toNat k) []) (3 : Nat) V.undef)), body := V.toStr (List.getD (List.getD (List.map (RCod.enc cItem) (List.map (RCod.dec cItem) (List.map (RCod.enc cItem) l))) (Int.toNat k) []) (4 : Nat) V.undef), due := V.toInt (List.getD (List.getD (List.map (RCod.enc cItem) (List.map (RCod.dec cItem) (List.map (RCod.enc cItem) l))) (Int.toNat k) []) (5 : Nat) V.undef), hops := V.toInt (List.getD (List.getD (List.map (RCod.enc cItem) (List.map (RCod.dec cItem) (List.map (RCod.enc cItem) l))) (Int.toNat k) []) (6 : Nat) V.undef) : HMail }, lent := V.toBool (List.getD (List.getD (List.map (RCod.enc cItem) (List.map (RCod.dec cItem) (List.map (RCod.enc cItem) l))) (Int.toNat k) []) (7 : Nat) V.undef), again := V.toBool (List.getD (List.getD (List.map (RCod.enc cItem) (List.map (RCod.dec cItem) (List.map (RCod.enc cItem) l))) (Int.toNat k) []) (8 : Nat) V.undef) : HItem }))), V.str (HMail.key (HItem.mail (N.backI { mail := { id := V.toInt (List.getD (List.getD (List.map (RCod.enc cItem) (List.map (RCod.dec cItem) (List.map (RCod.enc cItem) l))) (Int.toNat k) []) (0 : Nat) V.undef), shop := V.toStr (List.getD (List.getD (List.map (RCod.enc cItem) (List.map (RCod.dec cItem) (List.map (RCod.enc cItem) l))) (Int.toNat k) []) (1 : Nat) V.undef), key := V.toStr (List.getD (List.getD (List.map (RCod.enc cItem) (List.map (RCod.dec cItem) (List.map (RCod.enc cItem) l))) (Int.toNat k) []) (2 : Nat) V.undef), head := List.map (fun r => { key := V.toStr (List.getD r (0 : Nat) V.undef), kind := V.toInt (List.getD r (1 : Nat) V.undef), num := V.toInt (List.getD r (2 : Nat) V.undef), text := V.toStr (List.getD r (3 : Nat) V.undef) : HPair }) (V.toRows (List.getD (List.getD (List.map (RCod.enc cItem) (List.map (RCod.dec cItem) (List.map (RCod.enc cItem) l))) (Int.toNat k) []) (3 : Nat) V.undef)), body := V.toStr (List.getD (List.getD (List.map (RCod.enc cItem) (List.map (RCod.dec cItem) (List.map (RCod.enc cItem) l))) (Int.toNat k) []) (4 : Nat) V.undef), due := V.toInt (List.getD (List.getD (List.map (RCod.enc cItem) (List.map (RCod.dec cItem) (List.map (RCod.enc cItem) l))) (Int.toNat k) []) (5 : Nat) V.undef), hops := V.toInt (List.getD (List.getD (List.map (RCod.enc cItem) (List.map (RCod.dec cItem) (List.map (RCod.enc cItem) l))) (Int.toNat k) []) (6 : Nat) V.undef) : HMail }, lent := V.toBool (List.getD (List.getD (List.map (RCod.enc cItem) (List.map (RCod.dec cItem) (List.map (RCod.enc cItem) l))) (Int.toNat k) []) (7 : Nat) V.undef), again := V.toBool (List.getD (List.getD (List.map (RCod.enc cItem) (List.map (RCod.dec cItem) (List.map (RCod.enc cItem) l))) (Int.toNat k) []) (8 : Nat) V.undef) : HItem }))), V.slc [Sh.str, Sh.int IntKind.u8, Sh.int IntKind.i64, Sh.str] (List.map (fun p => [V.str (HPair.key p), V.int IntKind.u8 (HPair.kind p), V.int IntKind.i64 (HPair.num p), V.str (HPair.text p)]) (HMail.head (HItem.mail (N.backI { mail := { id := V.toInt (List.getD (List.getD (List.map (RCod.enc cItem) (List.map (RCod.dec cItem) (List.map (RCod.enc cItem) l))) (Int.toNat k) []) (0 : Nat) V.undef), shop := V.toStr (List.getD (List.getD (List.map (RCod.enc cItem) (List.map (RCod.dec cItem) (List.map (RCod.enc cItem) l))) (Int.toNat k) []) (1 : Nat) V.undef), key := V.toStr (List.getD (List.getD (List.map (RCod.enc cItem) (List.map (RCod.dec cItem) (List.map (RCod.enc cItem) l))) (Int.toNat k) []) (2 : Nat) V.undef), head := List.map (fun r => { key := V.toStr (List.getD r (0 : Nat) V.undef), kind := V.toInt (List.getD r (1 : Nat) V.undef), num := V.toInt (List.getD r (2 : Nat) V.undef), text := V.toStr (List.getD r (3 : Nat) V.undef) : HPair }) (V.toRows (List.getD (List.getD (List.map (RCod.enc cItem) (List.map (RCod.dec cItem) (List.map (RCod.enc cItem) l))) (Int.toNat k) []) (3 : Nat) V.undef)), body := V.toStr (List.getD (List.getD (List.map (RCod.enc cItem) (List.map (RCod.dec cItem) (List.map (RCod.enc cItem) l))) (Int.toNat k) []) (4 : Nat) V.undef), due := V.toInt (List.getD (List.getD (List.map (RCod.enc cItem) (List.map (RCod.dec cItem) (List.map (RCod.enc cItem) l))) (Int.toNat k) []) (5 : Nat) V.undef), hops := V.toInt (List.getD (List.getD (List.map (RCod.enc cItem) (List.map (RCod.dec cItem) (List.map (RCod.enc cItem) l))) (Int.toNat k) []) (6 : Nat) V.undef) : HMail }, lent := V.toBool (List.getD (List.getD (List.map (RCod.enc cItem) (List.map (RCod.dec cItem) (List.map (RCod.enc cItem) l))) (Int.toNat k) []) (7 : Nat) V.undef), again := V.toBool (List.getD (List.getD (List.map (RCod.enc cItem) (List.map (RCod.dec cItem) (List.map (RCod.enc cItem) l))) (Int.toNat k) []) (8 : Nat) V.undef) : HItem })))), V.str (HMail.body (HItem.mail (N.backI { mail := { id := V.toInt (List.getD (List.getD (List.map (RCod.enc cItem) (List.map (RCod.dec cItem) (List.map (RCod.enc cItem) l))) (Int.toNat k) []) (0 : Nat) V.undef), shop := V.toStr (List.getD (List.getD (List.map (RCod.enc cItem) (List.map (RCod.dec cItem) (List.map (RCod.enc cItem) l))) (Int.toNat k) []) (1 : Nat) V.undef), key := V.toStr (List.getD (List.getD (List.map (RCod.enc cItem) (List.map (RCod.dec cItem) (List.map (RCod.enc cItem) l))) (Int.toNat k) []) (2 : Nat) V.undef), head := List.map (fun r => { key := V.toStr (List.getD r (0 : Nat) V.undef), kind := V.toInt (List.getD r (1 : Nat) V.undef), num := V.toInt (List.getD r (2 : Nat) V.undef), text := V.toStr (List.getD r (3 : Nat) V.undef) : HPair }) (V.toRows (List.getD (List.getD (List.map (RCod.enc cItem) (List.map (RCod.dec cItem) (List.map (RCod.enc cItem) l))) (Int.toNat k) []) (3 : Nat) V.undef)), body := V.toStr (List.getD (List.getD (List.map (RCod.enc cItem) (List.map (RCod.dec cItem) (List.map (RCod.enc cItem) l))) (Int.toNat k) []) (4 : Nat) V.undef), due := V.toInt (List.getD (List.getD (List.map (RCod.enc cItem) (List.map (RCod.dec cItem) (List.map (RCod.enc cItem) l))) (Int.toNat k) []) (5 : Nat) V.undef), hops := V.toInt (List.getD (List.getD (List.map (RCod.enc cItem) (List.map (RCod.dec cItem) (List.map (RCod.enc cItem) l))) (Int.toNat k) []) (6 : Nat) V.undef) : HMail }, lent := V.toBool (List.getD (List.getD (List.map (RCod.enc cItem) (List.map (RCod.dec cItem) (List.map (RCod.enc cItem) l))) (Int.toNat k) []) (7 : Nat) V.undef), again := V.toBool (List.getD (List.getD (List.map (RCod.enc cItem) (List.map (RCod.dec cItem) (List.map (RCod.enc cItem) l))) (Int.toNat k) []) (8 : Nat) V.undef) : HItem }))), V.int IntKind.u64 (HMail.due (HItem.mail (N.backI { mail := { id := V.toInt (List.getD (List.getD (List.map (RCod.enc cItem) (List.map (RCod.dec cItem) (List.map (RCod.enc cItem) l))) (Int.toNat k) []) (0 : Nat) V.undef), shop := V.toStr (List.getD (List.getD (List.map (RCod.enc cItem) (List.map (RCod.dec cItem) (List.map (RCod.enc cItem) l))) (Int.toNat k) []) (1 : Nat) V.undef), key := V.toStr (List.getD (List.getD (List.map (RCod.enc cItem) (List.map (RCod.dec cItem) (List.map (RCod.enc cItem) l))) (Int.toNat k) []) (2 : Nat) V.undef), head := List.map (fun r => { key := V.toStr (List.getD r (0 : Nat) V.undef), kind := V.toInt (List.getD r (1 : Nat) V.undef), num := V.toInt (List.getD r (2 : Nat) V.undef), text := V.toStr (List.getD r (3 : Nat) V.undef) : HPair }) (V.toRows (List.getD (List.getD (List.map (RCod.enc cItem) (List.map (RCod.dec cItem) (List.map (RCod.enc cItem) l))) (Int.toNat k) []) (3 : Nat) V.undef)), body := V.toStr (List.getD (List.getD (List.map (RCod.enc cItem) (List.map (RCod.dec cItem) (List.map (RCod.enc cItem) l))) (Int.toNat k) []) (4 : Nat) V.undef), due := V.toInt (List.getD (List.getD (List.map (RCod.enc cItem) (List.map (RCod.dec cItem) (List.map (RCod.enc cItem) l))) (Int.toNat k) []) (5 : Nat) V.undef), hops := V.toInt (List.getD (List.getD (List.map (RCod.enc cItem) (List.map (RCod.dec cItem) (List.map (RCod.enc cItem) l))) (Int.toNat k) []) (6 : Nat) V.undef) : HMail }, lent := V.toBool (List.getD (List.getD (List.map (RCod.enc cItem) (List.map (RCod.dec cItem) (List.map (RCod.enc cItem) l))) (Int.toNat k) []) (7 : Nat) V.undef), again := V.toBool (List.getD (List.getD (List.map (RCod.enc cItem) (List.map (RCod.dec cItem) (List.map (RCod.enc cItem) l))) (Int.toNat k) []) (8 : Nat) V.undef) : HItem }))), V.int IntKind.u8 (HMail.hops (HItem.mail (N.backI { mail := { id := V.toInt (List.getD (List.getD (List.map (RCod.enc cItem) (List.map (RCod.dec cItem) (List.map (RCod.enc cItem) l))) (Int.toNat k) []) (0 : Nat) V.undef), shop := V.toStr (List.getD (List.getD (List.map (RCod.enc cItem) (List.map (RCod.dec cItem) (List.map (RCod.enc cItem) l))) (Int.toNat k) []) (1 : Nat) V.undef), key := V.toStr (List.getD (List.getD (List.map (RCod.enc cItem) (List.map (RCod.dec cItem) (List.map (RCod.enc cItem) l))) (Int.toNat k) []) (2 : Nat) V.undef), head := List.map (fun r => { key := V.toStr (List.getD r (0 : Nat) V.undef), kind := V.toInt (List.getD r (1 : Nat) V.undef), num := V.toInt (List.getD r (2 : Nat) V.undef), text := V.toStr (List.getD r (3 : Nat) V.undef) : HPair }) (V.toRows (List.getD (List.getD (List.map (RCod.enc cItem) (List.map (RCod.dec cItem) (List.map (RCod.enc cItem) l))) (Int.toNat k) []) (3 : Nat) V.undef)), body := V.toStr (List.getD (List.getD (List.map (RCod.enc cItem) (List.map (RCod.dec cItem) (List.map (RCod.enc cItem) l))) (Int.toNat k) []) (4 : Nat) V.undef), due := V.toInt (List.getD (List.getD (List.map (RCod.enc cItem) (List.map (RCod.dec cItem) (List.map (RCod.enc cItem) l))) (Int.toNat k) []) (5 : Nat) V.undef), hops := V.toInt (List.getD (List.getD (List.map (RCod.enc cItem) (List.map (RCod.dec cItem) (List.map (RCod.enc cItem) l))) (Int.toNat k) []) (6 : Nat) V.undef) : HMail }, lent := V.toBool (List.getD (List.getD (List.map (RCod.enc cItem) (List.map (RCod.dec cItem) (List.map (RCod.enc cItem) l))) (Int.toNat k) []) (7 : Nat) V.undef), again := V.toBool (List.getD (List.getD (List.map (RCod.enc cItem) (List.map (RCod.dec cItem) (List.map (RCod.enc cItem) l))) (Int.toNat k) []) (8 : Nat) V.undef) : HItem }))), V.bool (HItem.lent (N.backI { mail := { id := V.toInt (List.getD (List.getD (List.map (RCod.enc cItem) (List.map (RCod.dec cItem) (List.map (RCod.enc cItem) l))) (Int.toNat k) []) (0 : Nat) V.undef), shop := V.toStr (List.getD (List.getD (List.map (RCod.enc cItem) (List.map (RCod.dec cItem) (List.map (RCod.enc cItem) l))) (Int.toNat k) []) (1 : Nat) V.undef), key := V.toStr (List.getD (List.getD (List.map (RCod.enc cItem) (List.map (RCod.dec cItem) (List.map (RCod.enc cItem) l))) (Int.toNat k) []) (2 : Nat) V.undef), head := List.map (fun r => { key := V.toStr (List.getD r (0 : Nat) V.undef), kind := V.toInt (List.getD r (1 : Nat) V.undef), num := V.toInt (List.getD r (2 : Nat) V.undef), text := V.toStr (List.getD r (3 : Nat) V.undef) : HPair }) (V.toRows (List.getD (List.getD (List.map (RCod.enc cItem) (List.map (RCod.dec cItem) (List.map (RCod.enc cItem) l))) (Int.toNat k) []) (3 : Nat) V.undef)), body := V.toStr (List.getD (List.getD (List.map (RCod.enc cItem) (List.map (RCod.dec cItem) (List.map (RCod.enc cItem) l))) (Int.toNat k) []) (4 : Nat) V.undef), due := V.toInt (List.getD (List.getD (List.map (RCod.enc cItem) (List.map (RCod.dec cItem) (List.map (RCod.enc cItem) l))) (Int.toNat k) []) (5 : Nat) V.undef), hops := V.toInt (List.getD (List.getD (List.map (RCod.enc cItem) (List.map (RCod.dec cItem) (List.map (RCod.enc cItem) l))) (Int.toNat k) []) (6 : Nat) V.undef) : HMail }, lent := V.toBool (List.getD (List.getD (List.map (RCod.enc cItem) (List.map (RCod.dec cItem) (List.map (RCod.enc cItem) l))) (Int.toNat k) []) (7 : Nat) V.undef), again := V.toBool (List.getD (List.getD (List.map (RCod.enc cItem) (List.map (RCod.dec cItem) (List.map (RCod.enc cItem) l))) (Int.toNat k) []) (8 : Nat) V.undef) : HItem })), V.bool (HItem.again (N.backI { mail := { id := V.toInt (List.getD (List.getD (List.map (RCod.enc cItem) (List.map (RCod.dec cItem) (List.map (RCod.enc cItem) l))) (Int.toNat k) []) (0 : Nat) V.undef), shop := V.toStr (List.getD (List.getD (List.map (RCod.enc cItem) (List.map (RCod.dec cItem) (List.map (RCod.enc cItem) l))) (Int.toNat k) []) (1 : Nat) V.undef), key := V.toStr (List.getD (List.getD (List.map (RCod.enc cItem) (List.map (RCod.dec cItem) (List.map (RCod.enc cItem) l))) (Int.toNat k) []) (2 : Nat) V.undef), head := List.map (fun r => { key := V.toStr (List.getD r (0 : Nat) V.undef), kind := V.toInt (List.getD r (1 : Nat) V.undef), num := V.toInt (List.getD r (2 : Nat) V.undef), text := V.toStr (List.getD r (3 : Nat) V.undef) : HPair }) (V.toRows (List.getD (List.getD (List.map (RCod.enc cItem) (List.map (RCod.dec cItem) (List.map (RCod.enc cItem) l))) (Int.toNat k) []) (3 : Nat) V.undef)), body := V.toStr (List.getD (List.getD (List.map (RCod.enc cItem) (List.map (RCod.dec cItem) (List.map (RCod.enc cItem) l))) (Int.toNat k) []) (4 : Nat) V.undef), due := V.toInt (List.getD (List.getD (List.map (RCod.enc cItem) (List.map (RCod.dec cItem) (List.map (RCod.enc cItem) l))) (Int.toNat k) []) (5 : Nat) V.undef), hops := V.toInt (List.getD (List.getD (List.map (RCod.enc cItem) (List.map (RCod.dec cItem) (List.map (RCod.enc cItem) l))) (Int.toNat k) []) (6 : Nat) V.undef) : HMail }, lent := V.toBool (List.getD (List.getD (List.map (RCod.enc cItem) (List.map (RCod.dec cItem) (List.map (RCod.enc cItem) l))) (Int.toNat k) []) (7 : Nat) V.undef), again := V.toBool (List.getD (List.getD (List.map (RCod.enc cItem) (List.map (RCod.dec cItem) (List.map (RCod.enc cItem) l))) (Int.toNat k) []) (8 : Nat) V.undef) : HItem }))])], bx := [] : DRes }) (none)) (none) := by kernel_rfl
theorem ok_withW : FnOk Tryz.prog 65 (dWith 66 N.backI) := by
  refine den_okF (env_ok (((TOk.nil _).cons ok_markW).cons ok_cloneIO)) (E := eWithW) Tryz.func65 [] (by kernel_rfl) none0 fun a _ h => ?_
  obtain ⟨l, k, ⟨⟩⟩ := a
  obtain ⟨h1, h2⟩ := bcond h
  obtain ⟨h2, h3⟩ := bcond h2
  have h1 : 0 ≤ k := ile_of h1
  have h2 : k < l.length := ilt_of h2
  have h3 : Nat.ble l.length 1000 = true := h3
  have hn : Nat.beq l.length 0 = false := by
    rw [Bool.eq_false_iff]
    intro e
    have := Nat.eq_of_beq_eq_true e
    omega
  refine (q_withW l k).trans ?_
  have hg := getD_enc cItem l k.toNat item0 (by omega)
  simp only [dec_encs, List.length_map, hn, h3, hg, fold_item, cItem.de, fold_itemE, ← List.map_set]
  simp (disch := omega) only [evs]
  rfl
end Go.Ev

/- Lending, giving back, removing, waking: the functions on lines answer what the plain ones do: lemmas. -/
namespace Go.Ev
open Go Go.Proofs
set_option maxRecDepth 100000
-- FOLD

def dLLend : Den := den (aOne (vAgg cLine)) bNil (oTup (aCons (vAgg cLine) (aCons (vAgg cItem) (aOne vBool)))) (fun l _ => smallL l) fun l _ => (N.lLend l, ())
def dLBack : Den := den (aCons (vAgg cLine) (aOne (vInt .u64))) bNil (oTup (aCons (vAgg cLine) (aOne (vInt .i64)))) (fun a _ => smallL a.1) fun a _ => (N.lBack a.1 a.2, ())
def dLRemove : Den := den (aCons (vAgg cLine) (aOne (vInt .u64))) bNil (oTup (aCons (vAgg cLine) (aCons (vAgg cItem) (aOne (vInt .i64))))) (fun a _ => smallL a.1) fun a _ => (N.lRemove a.1 a.2, ())
def goodTold (l : List HItem) (k : Int) : Bool := cond (smallL l) (cond (ilt k 0) true (ilt k l.length)) false
def dLTold : Den := den (aCons (vAgg cLine) (aOne (vInt .i64))) bNil (oTup (aCons (vAgg cMail) (aOne vBool))) (fun a _ => goodTold a.1 a.2) fun a _ => (N.lTold a.1 a.2, ())
def dLFirst : Den := den (aOne (vAgg cLine)) bNil (oTup (aCons (vAgg cMail) (aOne vBool))) (fun l _ => smallL l) fun l _ => (N.lFirst l, ())
def dLLen : Den := den (aOne (vAgg cLine)) bNil (oV (vInt .i64)) (fun _ _ => true) fun l _ => ((l.length : Int), ())
def dLReadyN : Den := den (aOne (vAgg cLine)) bNil (oV (vInt .i64)) (fun l _ => Nat.ble l.length 1000) fun l _ => (N.lReady l, ())
def dLAll : Den := den (aOne (vAgg cLine)) bNil (oV (vSl cItem)) (fun l _ => smallL l) fun l _ => (l, ())
def dLWake : Den := den (aOne (vAgg cLine)) bNil (oV (vAgg cLine)) (fun l _ => Nat.ble l.length 1000) fun l _ => (N.lWake l, ())
def dSameI : Den := den (aCons (vAgg cItem) (aOne (vAgg cItem))) bNil (oV vBool) (fun a _ => smallI a.1) fun a _ => (N.sameI a.1 a.2, ())
noncomputable def eReadyL : Env := env Tryz.prog [(108, dIxR 109 57)] [] []
theorem q_readyL (l : List HItem) : evFn eReadyL 56 ((aCons (vAgg cLine) (aOne (vFn0 57))).enc (l, ())) ([]) some =
 cond (Nat.ble (List.length (List.map (RCod.dec cItem) (List.map (RCod.enc cItem) l))) (1000 : Nat)) (some { v := V.int IntKind.i64 (N.ix N.isReady (List.map (RCod.dec cItem) (List.map (RCod.enc cItem) l)) (0 : Int)), bx := [] : DRes }) (none) := by kernel_rfl
noncomputable def eOfL : Env := env Tryz.prog [(108, dIxO 139)] [] []
theorem q_ofL (l : List HItem) (id : Int) : evFn eOfL 101 ((aCons (vAgg cLine) (aOne (vInt .u64))).enc (l, id)) ([]) some =
 cond (Nat.ble (List.length (List.map (RCod.dec cItem) (List.map (RCod.enc cItem) l))) (1000 : Nat)) (some { v := V.int IntKind.i64 (N.ix (N.isId id) (List.map (RCod.dec cItem) (List.map (RCod.enc cItem) l)) (0 : Int)), bx := [] : DRes }) (none) := by kernel_rfl
noncomputable def eLLend : Env := env Tryz.prog [(56, dReadyL 57), (65, dWith 67 N.lendI), (54, dIClone)] [] []
theorem q_lLend (l : List HItem) : evFn eLLend 28 ((aOne (vAgg cLine)).enc l) ([]) some =
 cond (Nat.ble (List.length (List.map (RCod.dec cItem) (List.map (RCod.enc cItem) l))) (1000 : Nat)) (cond (ilt (N.ix N.isReady (List.map (RCod.dec cItem) (List.map (RCod.enc cItem) l)) (0 : Int)) (0 : Int)) (some { v := V.tup [V.agg [V.slc [Sh.int IntKind.u64, Sh.str, Sh.str, Sh.slc [Sh.str, Sh.int IntKind.u8, Sh.int IntKind.i64, Sh.str], Sh.str, Sh.int IntKind.u64, Sh.int IntKind.u8, Sh.bool, Sh.bool] (List.map (RCod.enc cItem) l)], V.agg [V.int IntKind.u64 (0 : Int), V.str [], V.str [], V.slc [Sh.str, Sh.int IntKind.u8, Sh.int IntKind.i64, Sh.str] [], V.str [], V.int IntKind.u64 (0 : Int), V.int IntKind.u8 (0 : Int), V.bool false, V.bool false], V.bool false], bx := [] : DRes }) (cond (goodAt (List.map (RCod.dec cItem) (List.map (RCod.enc cItem) l)) (N.ix N.isReady (List.map (RCod.dec cItem) (List.map (RCod.enc cItem) l)) (0 : Int))) (cond (decide ((0 : Int) ≤ N.ix N.isReady (List.map (RCod.dec cItem) (List.map (RCod.enc cItem) l)) (0 : Int) ∧ N.ix N.isReady (List.map (RCod.dec cItem) (List.map (RCod.enc cItem) l)) (0 : Int) < (↑(List.length (List.map (RCod.enc cItem) (N.setAt N.lendI (List.map (RCod.dec cItem) (List.map (RCod.enc cItem) l)) (Int.toNat (N.ix N.isReady (List.map (RCod.dec cItem) (List.map (RCod.enc cItem) l)) (0 : Int)))))) : Int))) (cond (smallI { mail := { id := V.toInt (List.getD (List.getD (List.map (RCod.enc cItem) (N.setAt N.lendI (List.map (RCod.dec cItem) (List.map (RCod.enc cItem) l)) (Int.toNat (N.ix N.isReady (List.map (RCod.dec cItem) (List.map (RCod.enc cItem) l)) (0 : Int))))) (Int.toNat (N.ix N.isReady (List.map (RCod.dec cItem) (List.map (RCod.enc cItem) l)) (0 : Int))) []) (0 : Nat) V.undef), shop := V.toStr (List.getD (List.getD (List.map (RCod.enc cItem) (N.setAt N.lendI (List.map (RCod.dec cItem) (List.map (RCod.enc cItem) l)) (Int.toNat (N.ix N.isReady (List.map (RCod.dec cItem) (List.map (RCod.enc cItem) l)) (0 : Int))))) (Int.toNat (N.ix N.isReady (List.map (RCod.dec cItem) (List.map (RCod.enc cItem) l)) (0 : Int))) []) (1 : Nat) V.undef), key := V.toStr (List.getD (List.getD (List.map (RCod.enc cItem) (N.setAt N.lendI (List.map (RCod.dec cItem) (List.map (RCod.enc cItem) l)) (Int.toNat (N.ix N.isReady (List.map (RCod.dec cItem) (List.map (RCod.enc cItem) l)) (0 : Int))))) (Int.toNat (N.ix N.isReady (List.map (RCod.dec cItem) (List.map (RCod.enc cItem) l)) (0 : Int))) []) (2 : Nat) V.undef), head := List.map (fun r => { key := V.toStr (List.getD r (0 : Nat) V.undef), kind := V.toInt (List.getD r (1 : Nat) V.undef), num := V.toInt (List.getD r (2 : Nat) V.undef), text := V.toStr (List.getD r (3 : Nat) V.undef) : HPair }) (V.toRows (List.getD (List.getD (List.map (RCod.enc cItem) (N.setAt N.lendI (List.map (RCod.dec cItem) (List.map (RCod.enc cItem) l)) (Int.toNat (N.ix N.isReady (List.map (RCod.dec cItem) (List.map (RCod.enc cItem) l)) (0 : Int))))) (Int.toNat (N.ix N.isReady (List.map (RCod.dec cItem) (List.map (RCod.enc cItem) l)) (0 : Int))) []) (3 : Nat) V.undef)), body := V.toStr (List.getD (List.getD (List.map (RCod.enc cItem) (N.setAt N.lendI (List.map (RCod.dec cItem) (List.map (RCod.enc cItem) l)) (Int.toNat (N.ix N.isReady (List.map (RCod.dec cItem) (List.map (RCod.enc cItem) l)) (0 : Int))))) (Int.toNat (N.ix N.isReady (List.map (RCod.dec cItem) (List.map (RCod.enc cItem) l)) (0 : Int))) []) (4 : Nat) V.undef), due := V.toInt (List.getD (List.getD (List.map (RCod.enc cItem) (N.setAt N.lendI (List.map (RCod.dec cItem) (List.map (RCod.enc cItem) l)) (Int.toNat (N.ix N.isReady (List.map (RCod.dec cItem) (List.map (RCod.enc cItem) l)) (0 : Int))))) (Int.toNat (N.ix N.isReady (List.map (RCod.dec cItem) (List.map (RCod.enc cItem) l)) (0 : Int))) []) (5 : Nat) V.undef), hops := V.toInt (List.getD (List.getD (List.map (RCod.enc cItem) (N.setAt N.lendI (List.map (RCod.dec cItem) (List.map (RCod.enc cItem) l)) (Int.toNat (N.ix N.isReady (List.map (RCod.dec cItem) (List.map (RCod.enc cItem) l)) (0 : Int))))) (Int.toNat (N.ix N.isReady (List.map (RCod.dec cItem) (List.map (RCod.enc cItem) l)) (0 : Int))) []) (6 : Nat) V.undef) : HMail }, lent := V.toBool (List.getD (List.getD (List.map (RCod.enc cItem) (N.setAt N.lendI (List.map (RCod.dec cItem) (List.map (RCod.enc cItem) l)) (Int.toNat (N.ix N.isReady (List.map (RCod.dec cItem) (List.map (RCod.enc cItem) l)) (0 : Int))))) (Int.toNat (N.ix N.isReady (List.map (RCod.dec cItem) (List.map (RCod.enc cItem) l)) (0 : Int))) []) (7 : Nat) V.undef), again := V.toBool (List.getD (List.getD (List.map (RCod.enc cItem) (N.setAt N.lendI (List.map (RCod.dec cItem) (List.map (RCod.enc cItem) l)) (Int.toNat (N.ix N.isReady (List.map (RCod.dec cItem) (List.map (RCod.enc cItem) l)) (0 : Int))))) (Int.toNat (N.ix N.isReady (List.map (RCod.dec cItem) (List.map (RCod.enc cItem) l)) (0 : Int))) []) (8 : Nat) V.undef) : HItem }) (some { v := V.tup [V.agg [V.slc [Sh.int IntKind.u64, Sh.str, Sh.str, Sh.slc [Sh.str, Sh.int IntKind.u8, Sh.int IntKind.i64, Sh.str], Sh.str, Sh.int IntKind.u64, Sh.int IntKind.u8, Sh.bool, Sh.bool] (List.map (RCod.enc cItem) (N.setAt N.lendI (List.map (RCod.dec cItem) (List.map (RCod.enc cItem) l)) (Int.toNat (N.ix N.isReady (List.map (RCod.dec cItem) (List.map (RCod.enc cItem) l)) (0 : Int)))))], V.agg [V.int IntKind.u64 (V.toInt (List.getD (List.getD (List.map (RCod.enc cItem) (N.setAt N.lendI (List.map (RCod.dec cItem) (List.map (RCod.enc cItem) l)) (Int.toNat (N.ix N.isReady (List.map (RCod.dec cItem) (List.map (RCod.enc cItem) l)) (0 : Int))))) (Int.toNat (N.ix N.isReady (List.map (RCod.dec cItem) (List.map (RCod.enc cItem) l)) (0 : Int))) []) (0 : Nat) V.undef)), V.str (V.toStr (List.getD (List.getD (List.map (RCod.enc cItem) (N.setAt N.lendI (List.map (RCod.dec cItem) (List.map (RCod.enc cItem) l)) (Int.toNat (N.ix N.isReady (List.map (RCod.dec cItem) (List.map (RCod.enc cItem) l)) (0 : Int))))) (Int.toNat (N.ix N.isReady (List.map (RCod.dec cItem) (List.map (RCod.enc cItem) l)) (0 : Int))) []) (1 : Nat) V.undef)), V.str (V.toStr (List.getD (List.getD (List.map (RCod.enc cItem) (N.setAt N.lendI (List.map (RCod.dec cItem) (List.map (RCod.enc cItem) l)) (Int.toNat (N.ix N.isReady (List.map (RCod.dec cItem) (List.map (RCod.enc cItem) l)) (0 : Int))))) (Int.toNat (N.ix N.isReady (List.map (RCod.dec cItem) (List.map (RCod.enc cItem) l)) (0 : Int))) []) (2 : Nat) V.undef)), V.slc [Sh.str, Sh.int IntKind.u8, Sh.int IntKind.i64, Sh.str] (List.map (fun p => [V.str (HPair.key p), V.int IntKind.u8 (HPair.kind p), V.int IntKind.i64 (HPair.num p), V.str (HPair.text p)]) (List.map (fun r => { key := V.toStr (List.getD r (0 : Nat) V.undef), kind := V.toInt (List.getD r (1 : Nat) V.undef), num := V.toInt (List.getD r (2 : Nat) V.undef), text := V.toStr (List.getD r (3 : Nat) V.undef) : HPair }) (V.toRows (List.getD (List.getD (List.map (RCod.enc cItem) (N.setAt N.lendI (List.map (RCod.dec cItem) (List.map (RCod.enc cItem) l)) (Int.toNat (N.ix N.isReady (List.map (RCod.dec cItem) (List.map (RCod.enc cItem) l)) (0 : Int))))) (Int.toNat (N.ix N.isReady (List.map (RCod.dec cItem) (List.map (RCod.enc cItem) l)) (0 : Int))) []) (3 : Nat) V.undef)))), V.str (V.toStr (List.getD (List.getD (List.map (RCod.enc cItem) (N.setAt N.lendI (List.map (RCod.dec cItem) (List.map (RCod.enc cItem) l)) (Int.toNat (N.ix N.isReady (List.map (RCod.dec cItem) (List.map (RCod.enc cItem) l)) (0 : Int))))) (Int.toNat (N.ix N.isReady (List.map (RCod.dec cItem) (List.map (RCod.enc cItem) l)) (0 : Int))) []) (4 : Nat) V.undef)), V.int IntKind.u64 (V.toInt (List.getD (List.getD (List.map (RCod.enc cItem) (N.setAt N.lendI (List.map (RCod.dec cItem) (List.map (RCod.enc cItem) l)) (Int.toNat (N.ix N.isReady (List.map (RCod.dec cItem) (List.map (RCod.enc cItem) l)) (0 : Int))))) (Int.toNat (N.ix N.isReady (List.map (RCod.dec cItem) (List.map (RCod.enc cItem) l)) (0 : Int))) []) (5 : Nat) V.undef)), V.int IntKind.u8 (V.toInt (List.getD (List.getD (List.map (RCod.enc cItem) (N.setAt N.lendI (List.map (RCod.dec cItem) (List.map (RCod.enc cItem) l)) (Int.toNat (N.ix N.isReady (List.map (RCod.dec cItem) (List.map (RCod.enc cItem) l)) (0 : Int))))) (Int.toNat (N.ix N.isReady (List.map (RCod.dec cItem) (List.map (RCod.enc cItem) l)) (0 : Int))) []) (6 : Nat) V.undef)), V.bool (V.toBool (List.getD (List.getD (List.map (RCod.enc cItem) (N.setAt N.lendI (List.map (RCod.dec cItem) (List.map (RCod.enc cItem) l)) (Int.toNat (N.ix N.isReady (List.map (RCod.dec cItem) (List.map (RCod.enc cItem) l)) (0 : Int))))) (Int.toNat (N.ix N.isReady (List.map (RCod.dec cItem) (List.map (RCod.enc cItem) l)) (0 : Int))) []) (7 : Nat) V.undef)), V.bool (V.toBool (List.getD (List.getD (List.map (RCod.enc cItem) (N.setAt N.lendI (List.map (RCod.dec cItem) (List.map (RCod.enc cItem) l)) (Int.toNat (N.ix N.isReady (List.map (RCod.dec cItem) (List.map (RCod.enc cItem) l)) (0 : Int))))) (Int.toNat (N.ix N.isReady (List.map (RCod.dec cItem) (List.map (RCod.enc cItem) l)) (0 : Int))) []) (8 : Nat) V.undef))], V.bool true], bx := [] : DRes }) (none)) (none)) (none))) (none) := by kernel_rfl
noncomputable def eLBack : Env := env Tryz.prog [(101, dOfL), (65, dWith 102 N.backI)] [] []
theorem q_lBack (l : List HItem) (id : Int) : evFn eLBack 45 ((aCons (vAgg cLine) (aOne (vInt .u64))).enc (l, id)) ([]) some =
 cond (Nat.ble (List.length (List.map (RCod.dec cItem) (List.map (RCod.enc cItem) l))) (1000 : Nat)) (cond (ilt (N.ix (N.isId id) (List.map (RCod.dec cItem) (List.map (RCod.enc cItem) l)) (0 : Int)) (0 : Int)) (some { v := V.tup [V.agg [V.slc [Sh.int IntKind.u64, Sh.str, Sh.str, Sh.slc [Sh.str, Sh.int IntKind.u8, Sh.int IntKind.i64, Sh.str], Sh.str, Sh.int IntKind.u64, Sh.int IntKind.u8, Sh.bool, Sh.bool] (List.map (RCod.enc cItem) l)], V.int IntKind.i64 (10 : Int)], bx := [] : DRes }) (cond (decide ((0 : Int) ≤ N.ix (N.isId id) (List.map (RCod.dec cItem) (List.map (RCod.enc cItem) l)) (0 : Int) ∧ N.ix (N.isId id) (List.map (RCod.dec cItem) (List.map (RCod.enc cItem) l)) (0 : Int) < (↑(List.length (List.map (RCod.enc cItem) l)) : Int))) (cond (!V.toBool (List.getD (List.getD (List.map (RCod.enc cItem) l) (Int.toNat (N.ix (N.isId id) (List.map (RCod.dec cItem) (List.map (RCod.enc cItem) l)) (0 : Int))) []) (7 : Nat) V.undef)) (some { v := V.tup [V.agg [V.slc [Sh.int IntKind.u64, Sh.str, Sh.str, Sh.slc [Sh.str, Sh.int IntKind.u8, Sh.int IntKind.i64, Sh.str], Sh.str, Sh.int IntKind.u64, Sh.int IntKind.u8, Sh.bool, Sh.bool] (List.map (RCod.enc cItem) l)], V.int IntKind.i64 (13 : Int)], bx := [] : DRes }) (cond (goodAt (List.map (RCod.dec cItem) (List.map (RCod.enc cItem) l)) (N.ix (N.isId id) (List.map (RCod.dec cItem) (List.map (RCod.enc cItem) l)) (0 : Int))) (some { v := V.tup [V.agg [V.slc [Sh.int IntKind.u64, Sh.str, Sh.str, Sh.slc [Sh.str, Sh.int IntKind.u8, Sh.int IntKind.i64, Sh.str], Sh.str, Sh.int IntKind.u64, Sh.int IntKind.u8, Sh.bool, Sh.bool] (List.map (RCod.enc cItem) (N.setAt N.backI (List.map (RCod.dec cItem) (List.map (RCod.enc cItem) l)) (Int.toNat (N.ix (N.isId id) (List.map (RCod.dec cItem) (List.map (RCod.enc cItem) l)) (0 : Int)))))], V.int IntKind.i64 (0 : Int)], bx := [] : DRes }) (none))) (none))) (none) := by kernel_rfl
noncomputable def eLRemove : Env := env Tryz.prog [(101, dOfL), (54, dIClone), (106, dConcat cItem)] [] []
theorem q_lRemove (l : List HItem) (id : Int) : evFn eLRemove 50 ((aCons (vAgg cLine) (aOne (vInt .u64))).enc (l, id)) ([]) some =
 cond (Nat.ble (List.length (List.map (RCod.dec cItem) (List.map (RCod.enc cItem) l))) (1000 : Nat)) (cond (ilt (N.ix (N.isId id) (List.map (RCod.dec cItem) (List.map (RCod.enc cItem) l)) (0 : Int)) (0 : Int)) (some { v := V.tup [V.agg [V.slc [Sh.int IntKind.u64, Sh.str, Sh.str, Sh.slc [Sh.str, Sh.int IntKind.u8, Sh.int IntKind.i64, Sh.str], Sh.str, Sh.int IntKind.u64, Sh.int IntKind.u8, Sh.bool, Sh.bool] (List.map (RCod.enc cItem) l)], V.agg [V.int IntKind.u64 (0 : Int), V.str [], V.str [], V.slc [Sh.str, Sh.int IntKind.u8, Sh.int IntKind.i64, Sh.str] [], V.str [], V.int IntKind.u64 (0 : Int), V.int IntKind.u8 (0 : Int), V.bool false, V.bool false], V.int IntKind.i64 (10 : Int)], bx := [] : DRes }) (cond (decide ((0 : Int) ≤ N.ix (N.isId id) (List.map (RCod.dec cItem) (List.map (RCod.enc cItem) l)) (0 : Int) ∧ N.ix (N.isId id) (List.map (RCod.dec cItem) (List.map (RCod.enc cItem) l)) (0 : Int) < (↑(List.length (List.map (RCod.enc cItem) l)) : Int))) (cond (smallI { mail := { id := V.toInt (List.getD (List.getD (List.map (RCod.enc cItem) l) (Int.toNat (N.ix (N.isId id) (List.map (RCod.dec cItem) (List.map (RCod.enc cItem) l)) (0 : Int))) []) (0 : Nat) V.undef), shop := V.toStr (List.getD (List.getD (List.map (RCod.enc cItem) l) (Int.toNat (N.ix (N.isId id) (List.map (RCod.dec cItem) (List.map (RCod.enc cItem) l)) (0 : Int))) []) (1 : Nat) V.undef), key := V.toStr (List.getD (List.getD (List.map (RCod.enc cItem) l) (Int.toNat (N.ix (N.isId id) (List.map (RCod.dec cItem) (List.map (RCod.enc cItem) l)) (0 : Int))) []) (2 : Nat) V.undef), head := List.map (fun r => { key := V.toStr (List.getD r (0 : Nat) V.undef), kind := V.toInt (List.getD r (1 : Nat) V.undef), num := V.toInt (List.getD r (2 : Nat) V.undef), text := V.toStr (List.getD r (3 : Nat) V.undef) : HPair }) (V.toRows (List.getD (List.getD (List.map (RCod.enc cItem) l) (Int.toNat (N.ix (N.isId id) (List.map (RCod.dec cItem) (List.map (RCod.enc cItem) l)) (0 : Int))) []) (3 : Nat) V.undef)), body := V.toStr (List.getD (List.getD (List.map (RCod.enc cItem) l) (Int.toNat (N.ix (N.isId id) (List.map (RCod.dec cItem) (List.map (RCod.enc cItem) l)) (0 : Int))) []) (4 : Nat) V.undef), due := V.toInt (List.getD (List.getD (List.map (RCod.enc cItem) l) (Int.toNat (N.ix (N.isId id) (List.map (RCod.dec cItem) (List.map (RCod.enc cItem) l)) (0 : Int))) []) (5 : Nat) V.undef), hops := V.toInt (List.getD (List.getD (List.map (RCod.enc cItem) l) (Int.toNat (N.ix (N.isId id) (List.map (RCod.dec cItem) (List.map (RCod.enc cItem) l)) (0 : Int))) []) (6 : Nat) V.undef) : HMail }, lent := V.toBool (List.getD (List.getD (List.map (RCod.enc cItem) l) (Int.toNat (N.ix (N.isId id) (List.map (RCod.dec cItem) (List.map (RCod.enc cItem) l)) (0 : Int))) []) (7 : Nat) V.undef), again := V.toBool (List.getD (List.getD (List.map (RCod.enc cItem) l) (Int.toNat (N.ix (N.isId id) (List.map (RCod.dec cItem) (List.map (RCod.enc cItem) l)) (0 : Int))) []) (8 : Nat) V.undef) : HItem }) (cond (decide ((0 : Int) ≤ N.ix (N.isId id) (List.map (RCod.dec cItem) (List.map (RCod.enc cItem) l)) (0 : Int) ∧ N.ix (N.isId id) (List.map (RCod.dec cItem) (List.map (RCod.enc cItem) l)) (0 : Int) ≤ (↑(List.length (List.map (RCod.enc cItem) l)) : Int))) (cond (decide ((0 : Int) ≤ IntKind.wrap IntKind.i64 (N.ix (N.isId id) (List.map (RCod.dec cItem) (List.map (RCod.enc cItem) l)) (0 : Int) + (1 : Int)) ∧ IntKind.wrap IntKind.i64 (N.ix (N.isId id) (List.map (RCod.dec cItem) (List.map (RCod.enc cItem) l)) (0 : Int) + (1 : Int)) ≤ (↑(List.length (List.map (RCod.enc cItem) l)) : Int))) (cond (Nat.ble (List.length (List.map (RCod.dec cItem) (List.drop (0 : Nat) (List.take (Int.toNat (N.ix (N.isId id) (List.map (RCod.dec cItem) (List.map (RCod.enc cItem) l)) (0 : Int))) (List.map (RCod.enc cItem) l)))) + (List.length (List.map (RCod.dec cItem) (List.drop (Int.toNat (IntKind.wrap IntKind.i64 (N.ix (N.isId id) (List.map (RCod.dec cItem) (List.map (RCod.enc cItem) l)) (0 : Int) + (1 : Int)))) (List.take (List.length (List.map (RCod.enc cItem) l)) (List.map (RCod.enc cItem) l)))) + (0 : Nat))) (100000 : Nat)) (some { v := V.tup [V.agg [V.slc [Sh.int IntKind.u64, Sh.str, Sh.str, Sh.slc [Sh.str, Sh.int IntKind.u8, Sh.int IntKind.i64, Sh.str], Sh.str, Sh.int IntKind.u64, Sh.int IntKind.u8, Sh.bool, Sh.bool] (List.map (RCod.enc cItem) (N.flat [List.map (RCod.dec cItem) (List.drop (0 : Nat) (List.take (Int.toNat (N.ix (N.isId id) (List.map (RCod.dec cItem) (List.map (RCod.enc cItem) l)) (0 : Int))) (List.map (RCod.enc cItem) l))), List.map (RCod.dec cItem) (List.drop (Int.toNat (IntKind.wrap IntKind.i64 (N.ix (N.isId id) (List.map (RCod.dec cItem) (List.map (RCod.enc cItem) l)) (0 : Int) + (1 : Int)))) (List.take (List.length (List.map (RCod.enc cItem) l)) (List.map (RCod.enc cItem) l)))]))], V.agg [V.int IntKind.u64 (V.toInt (List.getD (List.getD (List.map (RCod.enc cItem) l) (Int.toNat (N.ix (N.isId id) (List.map (RCod.dec cItem) (List.map (RCod.enc cItem) l)) (0 : Int))) []) (0 : Nat) V.undef)), V.str (V.toStr (List.getD (List.getD (List.map (RCod.enc cItem) l) (Int.toNat (N.ix (N.isId id) (List.map (RCod.dec cItem) (List.map (RCod.enc cItem) l)) (0 : Int))) []) (1 : Nat) V.undef)), V.str (V.toStr (List.getD (List.getD (List.map (RCod.enc cItem) l) (Int.toNat (N.ix (N.isId id) (List.map (RCod.dec cItem) (List.map (RCod.enc cItem) l)) (0 : Int))) []) (2 : Nat) V.undef)), V.slc [Sh.str, Sh.int IntKind.u8, Sh.int IntKind.i64, Sh.str] (List.map (fun p => [V.str (HPair.key p), V.int IntKind.u8 (HPair.kind p), V.int IntKind.i64 (HPair.num p), V.str (HPair.text p)]) (List.map (fun r => { key := V.toStr (List.getD r (0 : Nat) V.undef), kind := V.toInt (List.getD r (1 : Nat) V.undef), num := V.toInt (List.getD r (2 : Nat) V.undef), text := V.toStr (List.getD r (3 : Nat) V.undef) : HPair }) (V.toRows (List.getD (List.getD (List.map (RCod.enc cItem) l) (Int.toNat (N.ix (N.isId id) (List.map (RCod.dec cItem) (List.map (RCod.enc cItem) l)) (0 : Int))) []) (3 : Nat) V.undef)))), V.str (V.toStr (List.getD (List.getD (List.map (RCod.enc cItem) l) (Int.toNat (N.ix (N.isId id) (List.map (RCod.dec cItem) (List.map (RCod.enc cItem) l)) (0 : Int))) []) (4 : Nat) V.undef)), V.int IntKind.u64 (V.toInt (List.getD (List.getD (List.map (RCod.enc cItem) l) (Int.toNat (N.ix (N.isId id) (List.map (RCod.dec cItem) (List.map (RCod.enc cItem) l)) (0 : Int))) []) (5 : Nat) V.undef)), V.int IntKind.u8 (V.toInt (List.getD (List.getD (List.map (RCod.enc cItem) l) (Int.toNat (N.ix (N.isId id) (List.map (RCod.dec cItem) (List.map (RCod.enc cItem) l)) (0 : Int))) []) (6 : Nat) V.undef)), V.bool (V.toBool (List.getD (List.getD (List.map (RCod.enc cItem) l) (Int.toNat (N.ix (N.isId id) (List.map (RCod.dec cItem) (List.map (RCod.enc cItem) l)) (0 : Int))) []) (7 : Nat) V.undef)), V.bool (V.toBool (List.getD (List.getD (List.map (RCod.enc cItem) l) (Int.toNat (N.ix (N.isId id) (List.map (RCod.dec cItem) (List.map (RCod.enc cItem) l)) (0 : Int))) []) (8 : Nat) V.undef))], V.int IntKind.i64 (0 : Int)], bx := [] : DRes }) (none)) (none)) (none)) (none)) (none))) (none) := by kernel_rfl
noncomputable def eLTold : Env := env Tryz.prog [(107, dMailCopy)] [] []
theorem q_lTold (l : List HItem) (k : Int) : evFn eLTold 55 ((aCons (vAgg cLine) (aOne (vInt .i64))).enc (l, k)) ([]) some =
 cond (ilt k (0 : Int)) (some { v := V.tup [V.agg [V.int IntKind.u64 (0 : Int), V.str [], V.str [], V.slc [Sh.str, Sh.int IntKind.u8, Sh.int IntKind.i64, Sh.str] [], V.str [], V.int IntKind.u64 (0 : Int), V.int IntKind.u8 (0 : Int)], V.bool false], bx := [] : DRes }) (cond (decide ((0 : Int) ≤ k ∧ k < (↑(List.length (List.map (RCod.enc cItem) l)) : Int))) (cond (smallM { id := V.toInt (List.getD (List.getD (List.map (RCod.enc cItem) l) (Int.toNat k) []) (0 : Nat) V.undef), shop := V.toStr (List.getD (List.getD (List.map (RCod.enc cItem) l) (Int.toNat k) []) (1 : Nat) V.undef), key := V.toStr (List.getD (List.getD (List.map (RCod.enc cItem) l) (Int.toNat k) []) (2 : Nat) V.undef), head := List.map (fun r => { key := V.toStr (List.getD r (0 : Nat) V.undef), kind := V.toInt (List.getD r (1 : Nat) V.undef), num := V.toInt (List.getD r (2 : Nat) V.undef), text := V.toStr (List.getD r (3 : Nat) V.undef) : HPair }) (V.toRows (List.getD (List.getD (List.map (RCod.enc cItem) l) (Int.toNat k) []) (3 : Nat) V.undef)), body := V.toStr (List.getD (List.getD (List.map (RCod.enc cItem) l) (Int.toNat k) []) (4 : Nat) V.undef), due := V.toInt (List.getD (List.getD (List.map (RCod.enc cItem) l) (Int.toNat k) []) (5 : Nat) V.undef), hops := V.toInt (List.getD (List.getD (List.map (RCod.enc cItem) l) (Int.toNat k) []) (6 : Nat) V.undef) : HMail }) (some { v := V.tup [V.agg [V.int IntKind.u64 (V.toInt (List.getD (List.getD (List.map (RCod.enc cItem) l) (Int.toNat k) []) (0 : Nat) V.undef)), V.str (V.toStr (List.getD (List.getD (List.map (RCod.enc cItem) l) (Int.toNat k) []) (1 : Nat) V.undef)), V.str (V.toStr (List.getD (List.getD (List.map (RCod.enc cItem) l) (Int.toNat k) []) (2 : Nat) V.undef)), V.slc [Sh.str, Sh.int IntKind.u8, Sh.int IntKind.i64, Sh.str] (List.map (fun p => [V.str (HPair.key p), V.int IntKind.u8 (HPair.kind p), V.int IntKind.i64 (HPair.num p), V.str (HPair.text p)]) (List.map (fun r => { key := V.toStr (List.getD r (0 : Nat) V.undef), kind := V.toInt (List.getD r (1 : Nat) V.undef), num := V.toInt (List.getD r (2 : Nat) V.undef), text := V.toStr (List.getD r (3 : Nat) V.undef) : HPair }) (V.toRows (List.getD (List.getD (List.map (RCod.enc cItem) l) (Int.toNat k) []) (3 : Nat) V.undef)))), V.str (V.toStr (List.getD (List.getD (List.map (RCod.enc cItem) l) (Int.toNat k) []) (4 : Nat) V.undef)), V.int IntKind.u64 (V.toInt (List.getD (List.getD (List.map (RCod.enc cItem) l) (Int.toNat k) []) (5 : Nat) V.undef)), V.int IntKind.u8 (V.toInt (List.getD (List.getD (List.map (RCod.enc cItem) l) (Int.toNat k) []) (6 : Nat) V.undef))], V.bool true], bx := [] : DRes }) (none)) (none)) := by kernel_rfl
noncomputable def eLFirst : Env := env Tryz.prog [(56, dReadyL 57), (55, dLTold)] [] []
theorem q_lFirst (l : List HItem) : evFn eLFirst 18 ((aOne (vAgg cLine)).enc l) ([]) some =
 cond (Nat.ble (List.length (List.map (RCod.dec cItem) (List.map (RCod.enc cItem) l))) (1000 : Nat)) (cond (goodTold (List.map (RCod.dec cItem) (List.map (RCod.enc cItem) l)) (N.ix N.isReady (List.map (RCod.dec cItem) (List.map (RCod.enc cItem) l)) (0 : Int))) (some { v := V.tup [V.agg [V.int IntKind.u64 (HMail.id (Prod.fst (N.lTold (List.map (RCod.dec cItem) (List.map (RCod.enc cItem) l)) (N.ix N.isReady (List.map (RCod.dec cItem) (List.map (RCod.enc cItem) l)) (0 : Int))))), V.str (HMail.shop (Prod.fst (N.lTold (List.map (RCod.dec cItem) (List.map (RCod.enc cItem) l)) (N.ix N.isReady (List.map (RCod.dec cItem) (List.map (RCod.enc cItem) l)) (0 : Int))))), V.str (HMail.key (Prod.fst (N.lTold (List.map (RCod.dec cItem) (List.map (RCod.enc cItem) l)) (N.ix N.isReady (List.map (RCod.dec cItem) (List.map (RCod.enc cItem) l)) (0 : Int))))), V.slc [Sh.str, Sh.int IntKind.u8, Sh.int IntKind.i64, Sh.str] (List.map (fun p => [V.str (HPair.key p), V.int IntKind.u8 (HPair.kind p), V.int IntKind.i64 (HPair.num p), V.str (HPair.text p)]) (HMail.head (Prod.fst (N.lTold (List.map (RCod.dec cItem) (List.map (RCod.enc cItem) l)) (N.ix N.isReady (List.map (RCod.dec cItem) (List.map (RCod.enc cItem) l)) (0 : Int)))))), V.str (HMail.body (Prod.fst (N.lTold (List.map (RCod.dec cItem) (List.map (RCod.enc cItem) l)) (N.ix N.isReady (List.map (RCod.dec cItem) (List.map (RCod.enc cItem) l)) (0 : Int))))), V.int IntKind.u64 (HMail.due (Prod.fst (N.lTold (List.map (RCod.dec cItem) (List.map (RCod.enc cItem) l)) (N.ix N.isReady (List.map (RCod.dec cItem) (List.map (RCod.enc cItem) l)) (0 : Int))))), V.int IntKind.u8 (HMail.hops (Prod.fst (N.lTold (List.map (RCod.dec cItem) (List.map (RCod.enc cItem) l)) (N.ix N.isReady (List.map (RCod.dec cItem) (List.map (RCod.enc cItem) l)) (0 : Int)))))], V.bool (Prod.snd (N.lTold (List.map (RCod.dec cItem) (List.map (RCod.enc cItem) l)) (N.ix N.isReady (List.map (RCod.dec cItem) (List.map (RCod.enc cItem) l)) (0 : Int))))], bx := [] : DRes }) (none)) (none) := by kernel_rfl
theorem q_lLen (l : List HItem) : evFn eNone 13 ((aOne (vAgg cLine)).enc l) ([]) some =
 some { v := V.int IntKind.i64 (↑(List.length (List.map (RCod.enc cItem) l)) : Int), bx := [] : DRes } := by kernel_rfl
theorem fold_itemR (r : List V) : [V.int .u64 (V.toInt (List.getD r 0 .undef)), V.str (V.toStr (List.getD r 1 .undef)), V.str (V.toStr (List.getD r 2 .undef)), V.slc [.str, .int .u8, .int .i64, .str] (((V.toRows (List.getD r 3 .undef)).map fun r => ({ key := V.toStr (List.getD r 0 .undef), kind := V.toInt (List.getD r 1 .undef), num := V.toInt (List.getD r 2 .undef), text := V.toStr (List.getD r 3 .undef) } : HPair)).map fun p => [V.str p.key, V.int .u8 p.kind, V.int .i64 p.num, V.str p.text]),
    V.str (V.toStr (List.getD r 4 .undef)), V.int .u64 (V.toInt (List.getD r 5 .undef)), V.int .u8 (V.toInt (List.getD r 6 .undef)), V.bool (V.toBool (List.getD r 7 .undef)), V.bool (V.toBool (List.getD r 8 .undef))] = cItem.enc (cItem.dec r) := rfl
theorem smallL_of {l : List HItem} (h : smallL l = true) : l.length ≤ 1000 ∧ Nat.ble l.length 1000 = true ∧ l.all smallI = true := by
  obtain ⟨h1, h2⟩ := bcond h
  exact ⟨ble_of h1, h1, h2⟩
theorem setAt_get (f : HItem → HItem) {l : List HItem} {k : Nat} (h : k < l.length) : (N.setAt f l k).getD k item0 = f (l.getD k item0) := by
  unfold N.setAt
  rw [List.getD_eq_getElem?_getD, List.getElem?_set_self h]; rfl
theorem small_at {l : List HItem} (h : l.all smallI = true) {k : Nat} (hk : k < l.length) : smallI (l.getD k item0) = true := all_getD h k item0 hk
theorem ok_readyL : FnOk Tryz.prog 56 (dReadyL 57) := by
  refine den_okF (env_ok ((TOk.nil _).cons ok_IxR)) (E := eReadyL) Tryz.func56 [] (by kernel_rfl) none0 fun a _ h => ?_
  obtain ⟨l, ⟨⟩⟩ := a
  have h : Nat.ble l.length 1000 = true := h
  refine (q_readyL l).trans ?_
  simp only [dec_encs, h, cond_true]
  rfl
theorem ok_ofL : FnOk Tryz.prog 101 dOfL := by
  refine den_okF (env_ok ((TOk.nil _).cons ok_IxO)) (E := eOfL) Tryz.func101 [] (by kernel_rfl) none0 fun a _ h => ?_
  obtain ⟨l, id⟩ := a
  have h : Nat.ble l.length 1000 = true := h
  refine (q_ofL l id).trans ?_
  simp only [dec_encs, h, cond_true]
  rfl
theorem ok_lLend : FnOk Tryz.prog 28 dLLend := by
  refine den_okF (env_ok ((((TOk.nil _).cons ok_iClone).cons ok_withL).cons ok_readyL)) (E := eLLend) Tryz.func28 [] (by kernel_rfl) none0 fun l _ h => ?_
  obtain ⟨h1, h2, h3⟩ := smallL_of h
  refine (q_lLend l).trans ?_
  show _ = some (⟨.tup [.agg (cLine.enc (N.lLend l).1), .agg (cItem.enc (N.lLend l).2.1), .bool (N.lLend l).2.2], [], []⟩ : DRes)
  unfold N.lLend
  simp only [dec_encs]
  rcases ix_spec N.isReady l 0 (Int.le_refl _) with ⟨e, _⟩ | ⟨k, e, hk, _⟩
  · rw [e]
    simp (disch := omega) only [evs, h2]
    rfl
  · rw [Int.zero_add] at e
    have hg := getD_enc cItem (N.setAt N.lendI l k) k item0 (by rw [setAt_len]; exact hk)
    rw [setAt_get N.lendI hk] at hg
    have hs : smallI (N.lendI (l.getD k item0)) = true := small_at h3 hk
    have ga : goodAt l k = true := by unfold goodAt; rw [ile_t (by omega), ilt_t (by omega), h2]; rfl
    rw [e]
    simp (disch := omega) only [evs, h2, ga, Int.toNat_natCast, setAt_len, hg, fold_item, cItem.de, hs, fold_itemE, fold_itemR]
    rfl
theorem ok_lBack : FnOk Tryz.prog 45 dLBack := by
  refine den_okF (env_ok (((TOk.nil _).cons ok_withB).cons ok_ofL)) (E := eLBack) Tryz.func45 [] (by kernel_rfl) none0 fun a _ h => ?_
  obtain ⟨l, id⟩ := a
  obtain ⟨h1, h2, h3⟩ := smallL_of (l := l) h
  refine (q_lBack l id).trans ?_
  show _ = some (⟨.tup [.agg (cLine.enc (N.lBack l id).1), .int .i64 (N.lBack l id).2], [], []⟩ : DRes)
  unfold N.lBack
  simp only [dec_encs]
  rcases ix_spec (N.isId id) l 0 (Int.le_refl _) with ⟨e, _⟩ | ⟨k, e, hk, _⟩
  · rw [e]
    simp (disch := omega) only [evs, h2]
    rfl
  · rw [Int.zero_add] at e
    have hg := getD_enc cItem l k item0 hk
    have ga : goodAt l k = true := by unfold goodAt; rw [ile_t (by omega), ilt_t (by omega), h2]; rfl
    rw [e]
    simp (disch := omega) only [evs, h2, ga, Int.toNat_natCast, hg]
    show cond (!(l.getD k item0).lent) _ _ = _
    cases (l.getD k item0).lent <;> rfl
theorem ok_lRemove : FnOk Tryz.prog 50 dLRemove := by
  refine den_okF (env_ok ((((TOk.nil _).cons ok_concatI).cons ok_iClone).cons ok_ofL)) (E := eLRemove) Tryz.func50 [] (by kernel_rfl) none0 fun a _ h => ?_
  obtain ⟨l, id⟩ := a
  obtain ⟨h1, h2, h3⟩ := smallL_of (l := l) h
  refine (q_lRemove l id).trans ?_
  show _ = some (⟨.tup [.agg (cLine.enc (N.lRemove l id).1), .agg (cItem.enc (N.lRemove l id).2.1), .int .i64 (N.lRemove l id).2.2], [], []⟩ : DRes)
  unfold N.lRemove
  simp only [dec_encs]
  rcases ix_spec (N.isId id) l 0 (Int.le_refl _) with ⟨e, _⟩ | ⟨k, e, hk, _⟩
  · rw [e]
    simp (disch := omega) only [evs, h2]
    rfl
  · rw [Int.zero_add] at e
    have hg := getD_enc cItem l k item0 hk
    have hs : smallI (l.getD k item0) = true := small_at h3 hk
    rw [e]
    have w : IntKind.wrap .i64 ((k : Int) + 1) = (k : Int) + 1 := wr_i64 (by omega) (by omega)
    have e1 : ((k : Int) + 1).toNat = k + 1 := by omega
    have t1 : (l.map cItem.enc).take l.length = l.map cItem.enc := List.take_of_length_le (by rw [List.length_map]; exact Nat.le_refl _)
    have hl : (l.take k).length + ((l.drop (k + 1)).length + 0) ≤ 100000 := by simp; omega
    have hb : Nat.ble ((l.take k).length + ((l.drop (k + 1)).length + 0)) 100000 = true := ble_t hl
    simp (disch := omega) only [evs, h2, Int.toNat_natCast, hg, fold_item, cItem.de, hs, fold_itemE, fold_itemR, w, e1, t1, List.drop_zero, ← List.map_take, ← List.map_drop, dec_encs, flat_two, hb]
    rfl
theorem ok_lTold : FnOk Tryz.prog 55 dLTold := by
  refine den_okF (env_ok ((TOk.nil _).cons ok_mailCopy)) (E := eLTold) Tryz.func55 [] (by kernel_rfl) none0 fun a _ h => ?_
  obtain ⟨l, k⟩ := a
  obtain ⟨h, h4⟩ := bcond h
  obtain ⟨h1, h2, h3⟩ := smallL_of (l := l) h
  have h4 : cond (ilt k 0) true (ilt k l.length) = true := h4
  refine (q_lTold l k).trans ?_
  show _ = some (⟨.tup [.agg (cMail.enc (N.lTold l k).1), .bool (N.lTold l k).2], [], []⟩ : DRes)
  unfold N.lTold
  cases hk : ilt k 0 with
  | true => rfl
  | false =>
    rw [hk] at h4
    have h4 : k < l.length := ilt_of h4
    have hk := ilt_nof hk
    have hg := getD_enc cItem l k.toNat item0 (by omega)
    have hs : smallM (l.getD k.toNat item0).mail = true := small_at h3 (by omega)
    simp (disch := omega) only [evs, hg, fold_mail, fold_re, item_mail, cItem.de, hs]
theorem ok_lFirst : FnOk Tryz.prog 18 dLFirst := by
  refine den_okF (env_ok (((TOk.nil _).cons ok_lTold).cons ok_readyL)) (E := eLFirst) Tryz.func18 [] (by kernel_rfl) none0 fun l _ h => ?_
  have h : smallL l = true := h
  obtain ⟨h1, h2, h3⟩ := smallL_of h
  refine (q_lFirst l).trans ?_
  show _ = some (⟨.tup [.agg (cMail.enc (N.lFirst l).1), .bool (N.lFirst l).2], [], []⟩ : DRes)
  have hg : goodTold l (N.ix N.isReady l 0) = true := by
    unfold goodTold
    rw [h]
    rcases ix_spec N.isReady l 0 (Int.le_refl _) with ⟨e, _⟩ | ⟨k, e, hk, _⟩
    · rw [e]; rfl
    · rw [e, ilt_f (by omega), ilt_t (by omega)]; rfl
  unfold N.lFirst
  simp (disch := omega) only [evs, dec_encs, h2, hg, fold_de, pairs_enc, fold_enc]
theorem ok_lLen : FnOk Tryz.prog 13 dLLen := by
  refine den_okF (env_ok (TOk.nil _)) (E := eNone) Tryz.func13 [] (by kernel_rfl) none0 fun l _ _ => ?_
  refine (q_lLen l).trans ?_
  rw [List.length_map]; rfl
theorem ok_lAdd : FnOk Tryz.prog 44 dLAdd := by
  refine den_okF (env_ok ((TOk.nil _).cons ok_lPut)) (E := eLAdd) Tryz.func44 [] (by kernel_rfl) none0 fun a _ h => ?_
  obtain ⟨l, m⟩ := a
  obtain ⟨h1, h2⟩ := bcond h
  have h1 : Nat.ble l.length 1000 = true := h1
  have h2 : smallI ⟨m, false, false⟩ = true := h2
  refine (q_lAdd l m).trans ?_
  simp only [dec_encs, fold_de, h1, h2, cond_true]
  rfl
end Go.Ev

/- Counting, giving, waking and making lines; sameness: lemmas. -/
namespace Go.Ev
open Go Go.Proofs
set_option maxRecDepth 100000
-- FOLD

theorem all_rowI {p : HItem → Bool} {r : List (List V)} (h : (r.map cItem.dec).all p = true) {i : Nat} (hi : i < r.length) : p (cItem.dec (r.getD i [])) = true := by
  refine List.all_eq_true.1 h _ (List.mem_map_of_mem ?_)
  rw [List.getD_eq_getElem?_getD, List.getElem?_eq_getElem hi]
  exact List.getElem_mem hi
theorem take_rowsI {r : List (List V)} {i : Nat} (h : i < r.length) : ((r.take (i + 1)).map cItem.dec).map cItem.enc = ((r.take i).map cItem.dec).map cItem.enc ++ [cItem.enc (cItem.dec (r.getD i []))] := by
  rw [List.take_add_one, List.getD_eq_getElem?_getD, List.getElem?_eq_getElem h]
  simp only [Option.toList_some, List.map_append, List.map_cons, List.map_nil, Option.getD_some]
def schLReady : SSch := { fr := [(3, .int .i64), (7, .slc [.int .u64, .str, .str, .slc [.str, .int .u8, .int .i64, .str], .str, .int .u64, .int .u8, .bool, .bool]), (8, .int .i64), (9, .int .i64)], tab := [] }
def gLReady : List Leaf → (Ex → St → Option R) → Option R
  | [.i a, .r r, .i n, .i i], K => cond (n == r.length) (cond (i == 0) (cond (a == 0) (cond (Nat.ble r.length 1000) (K (.exit 0) { fr := [(3, .int .i64 (N.lReady (r.map cItem.dec)))], tab := [] }) none) none) none) none
  | _, _ => none
noncomputable def eLReady : Env := env Tryz.prog [] [(3, loopF schLReady gLReady)] [(3, [(0, [3, 7, 8, 9]), (1, [3]), (1000, [2])])]
theorem q_lReadyN (l : List HItem) : evFn eLReady 16 ((aOne (vAgg cLine)).enc l) ([]) some =
 cond ((↑(List.length (List.map (RCod.enc cItem) l)) : Int) == (↑(List.length (List.map (RCod.enc cItem) l)) : Int)) (cond (Nat.ble (List.length (List.map (RCod.enc cItem) l)) (1000 : Nat)) (some { v := V.int IntKind.i64 (N.lReady (List.map (RCod.dec cItem) (List.map (RCod.enc cItem) l))), bx := [] : DRes }) (none)) (none) := by kernel_rfl
theorem q_lReadyNR (a : Int) (r : List (List V)) (n i : Int) (K : Ex → St → Option R) : evRound eLReady 16 3 { fr := [(3, .int .i64 a), (7, .slc [.int .u64, .str, .str, .slc [.str, .int .u8, .int .i64, .str], .str, .int .u64, .int .u8, .bool, .bool] r), (8, .int .i64 n), (9, .int .i64 i)], tab := [] } K =
 cond (ilt i n) (cond (decide ((0 : Int) ≤ i ∧ i < (↑(List.length r) : Int))) (cond (!V.toBool (List.getD (List.getD r (Int.toNat i) []) (7 : Nat) V.undef)) (K Ex.normal { fr := [((3 : Nat), V.int IntKind.i64 (IntKind.wrap IntKind.i64 (a + (1 : Int)))), ((7 : Nat), V.slc [Sh.int IntKind.u64, Sh.str, Sh.str, Sh.slc [Sh.str, Sh.int IntKind.u8, Sh.int IntKind.i64, Sh.str], Sh.str, Sh.int IntKind.u64, Sh.int IntKind.u8, Sh.bool, Sh.bool] r), ((8 : Nat), V.int IntKind.i64 n), ((9 : Nat), V.int IntKind.i64 (IntKind.wrap IntKind.i64 (i + (1 : Int))))], tab := [] : St }) (K Ex.normal { fr := [((3 : Nat), V.int IntKind.i64 a), ((7 : Nat), V.slc [Sh.int IntKind.u64, Sh.str, Sh.str, Sh.slc [Sh.str, Sh.int IntKind.u8, Sh.int IntKind.i64, Sh.str], Sh.str, Sh.int IntKind.u64, Sh.int IntKind.u8, Sh.bool, Sh.bool] r), ((8 : Nat), V.int IntKind.i64 n), ((9 : Nat), V.int IntKind.i64 (IntKind.wrap IntKind.i64 (i + (1 : Int))))], tab := [] : St })) (none)) (K (Ex.exit (0 : Nat)) { fr := [((3 : Nat), V.int IntKind.i64 a)], tab := [] : St }) := by kernel_rfl
theorem ok_lReadyN : FnOk Tryz.prog 16 dLReadyN := by
  refine den_okF (env_ok (TOk.nil _)) (E := eLReady) Tryz.func16 [3] (by kernel_rfl) (one1 (rounds_of rfl fun l K q h => ?_)) fun l _ hp => ?_
  · unfold gLReady at h
    split at h
    · rename_i a r n i
      have h1 := (cond_none h).1; replace h := (cond_none h).2; have h2 := (cond_none h).1; replace h := (cond_none h).2; have h3 := (cond_none h).1; replace h := (cond_none h).2; have h4 := (cond_none h).1; replace h := (cond_none h).2
      have e1 := ieq_of h1
      have e2 := ieq_of h2
      have e3 := ieq_of h3
      subst e1 e2 e3
      have h4 : r.length ≤ 1000 := ble_of h4
      have main := range_ind (E := eLReady) (f := 16) (id := 3) (A := Int) r (fun a i => { fr := [(3, .int .i64 a), (7, .slc [.int .u64, .str, .str, .slc [.str, .int .u8, .int .i64, .str], .str, .int .u64, .int .u8, .bool, .bool] r), (8, .int .i64 r.length), (9, .int .i64 i)], tab := [] }) (fun a i => 0 ≤ a ∧ a ≤ i)
        (fun a rows K => K (.exit 0) { fr := [(3, .int .i64 (a + N.lReady (rows.map cItem.dec)))], tab := [] }) (fun a i ha hi => ?_) (fun a _ => ?_) 0 0 (Int.le_refl _) (by omega) ⟨Int.le_refl _, Int.le_refl _⟩ K q (by rw [Int.zero_add]; exact h)
      · exact main
      · have e : N.lReady ((r.getD i [] :: r.drop (i + 1)).map cItem.dec) = cond (cItem.dec (r.getD i [])).lent (N.lReady ((r.drop (i + 1)).map cItem.dec)) (1 + N.lReady ((r.drop (i + 1)).map cItem.dec)) := rfl
        rw [e]
        cases hc : (cItem.dec (r.getD i [])).lent with
        | true =>
          refine .inl ⟨a, ⟨ha.1, by omega⟩, fun K => ?_, fun K => rfl⟩
          rw [q_lReadyNR]
          have hc : V.toBool (List.getD (List.getD r i []) 7 V.undef) = true := hc
          simp (disch := omega) only [evs, Int.toNat_natCast, hc, Bool.not_true]
        | false =>
          refine .inl ⟨a + 1, ⟨by omega, by omega⟩, fun K => ?_, fun K => by rw [Int.add_assoc]; rfl⟩
          rw [q_lReadyNR]
          have hc : V.toBool (List.getD (List.getD r i []) 7 V.undef) = false := hc
          simp (disch := omega) only [evs, Int.toNat_natCast, hc, Bool.not_false]
      · refine ⟨.exit 0, { fr := [(3, .int .i64 (a + 0))], tab := [] }, by simp, fun K => ?_, fun K => rfl⟩
        rw [q_lReadyNR, Int.add_zero]
        simp (disch := omega) only [evs]
    · cases h
  · have hp : Nat.ble l.length 1000 = true := hp
    refine (q_lReadyN l).trans ?_
    simp only [List.length_map, dec_encs, hp, beq_self_eq_true, cond_true]
    rfl
def schLAll : SSch := { fr := [(3, .own 10000), (7, .slc [.int .u64, .str, .str, .slc [.str, .int .u8, .int .i64, .str], .str, .int .u64, .int .u8, .bool, .bool]), (8, .int .i64), (9, .int .i64)], tab := [(10000, .sl [.int .u64, .str, .str, .slc [.str, .int .u8, .int .i64, .str], .str, .int .u64, .int .u8, .bool, .bool])] }
def gLAll : List Leaf → (Ex → St → Option R) → Option R
  | [.r r7, .i i8, .i i9, .r rx0], K => cond (i8 == r7.length) (cond (i9 == 0) (cond (Nat.beq rx0.length 0) (cond (Nat.ble r7.length 1000) (cond ((r7.map cItem.dec).all smallI)
      (K (.exit 0) { fr := [(3, .own 10000 0)], tab := [(10000, .sl [.int .u64, .str, .str, .slc [.str, .int .u8, .int .i64, .str], .str, .int .u64, .int .u8, .bool, .bool] ((r7.map cItem.dec).map cItem.enc) 0)] }) none) none) none) none) none
  | _, _ => none
noncomputable def eLAll : Env := env Tryz.prog [(54, dIClone)] [(3, loopF schLAll gLAll)] [(3, [(0, [3, 7, 8, 9]), (1, [3]), (1000, [2])])]
theorem q_lAll (l : List HItem) : evFn eLAll 15 ((aOne (vAgg cLine)).enc l) ([]) some =
 cond ((↑(List.length (List.map (RCod.enc cItem) l)) : Int) == (↑(List.length (List.map (RCod.enc cItem) l)) : Int)) (cond (Nat.ble (List.length (List.map (RCod.enc cItem) l)) (1000 : Nat)) (cond (List.all (List.map (RCod.dec cItem) (List.map (RCod.enc cItem) l)) smallI) (some { v := V.slc [Sh.int IntKind.u64, Sh.str, Sh.str, Sh.slc [Sh.str, Sh.int IntKind.u8, Sh.int IntKind.i64, Sh.str], Sh.str, Sh.int IntKind.u64, Sh.int IntKind.u8, Sh.bool, Sh.bool] (List.map (RCod.enc cItem) (List.map (RCod.dec cItem) (List.map (RCod.enc cItem) l))), bx := [] : DRes }) (none)) (none)) (none) := by kernel_rfl
theorem q_lAllR (r7 : List (List V)) (i8 : Int) (i9 : Int) (rx0 : List (List V)) (K : Ex → St → Option R) : evRound eLAll 15 3 { fr := [(3, .own 10000 0), (7, .slc [.int .u64, .str, .str, .slc [.str, .int .u8, .int .i64, .str], .str, .int .u64, .int .u8, .bool, .bool] r7), (8, .int .i64 i8), (9, .int .i64 i9)], tab := [(10000, .sl [.int .u64, .str, .str, .slc [.str, .int .u8, .int .i64, .str], .str, .int .u64, .int .u8, .bool, .bool] rx0 0)] } K =
 cond (ilt i9 i8) (cond (decide ((0 : Int) ≤ i9 ∧ i9 < (↑(List.length r7) : Int))) (cond (smallI { mail := { id := V.toInt (List.getD (List.getD r7 (Int.toNat i9) []) (0 : Nat) V.undef), shop := V.toStr (List.getD (List.getD r7 (Int.toNat i9) []) (1 : Nat) V.undef), key := V.toStr (List.getD (List.getD r7 (Int.toNat i9) []) (2 : Nat) V.undef), head := List.map (fun r => { key := V.toStr (List.getD r (0 : Nat) V.undef), kind := V.toInt (List.getD r (1 : Nat) V.undef), num := V.toInt (List.getD r (2 : Nat) V.undef), text := V.toStr (List.getD r (3 : Nat) V.undef) : HPair }) (V.toRows (List.getD (List.getD r7 (Int.toNat i9) []) (3 : Nat) V.undef)), body := V.toStr (List.getD (List.getD r7 (Int.toNat i9) []) (4 : Nat) V.undef), due := V.toInt (List.getD (List.getD r7 (Int.toNat i9) []) (5 : Nat) V.undef), hops := V.toInt (List.getD (List.getD r7 (Int.toNat i9) []) (6 : Nat) V.undef) : HMail }, lent := V.toBool (List.getD (List.getD r7 (Int.toNat i9) []) (7 : Nat) V.undef), again := V.toBool (List.getD (List.getD r7 (Int.toNat i9) []) (8 : Nat) V.undef) : HItem }) (cond (decide ((List.length rx0 + (1 : Nat)) * (104 : Nat) ≤ (140737488355328 : Nat))) (K Ex.normal { fr := [((3 : Nat), V.own (10000 : Nat) (0 : Nat)), ((7 : Nat), V.slc [Sh.int IntKind.u64, Sh.str, Sh.str, Sh.slc [Sh.str, Sh.int IntKind.u8, Sh.int IntKind.i64, Sh.str], Sh.str, Sh.int IntKind.u64, Sh.int IntKind.u8, Sh.bool, Sh.bool] r7), ((8 : Nat), V.int IntKind.i64 i8), ((9 : Nat), V.int IntKind.i64 (IntKind.wrap IntKind.i64 (i9 + (1 : Int))))], tab := [((10000 : Nat), Box.sl [Sh.int IntKind.u64, Sh.str, Sh.str, Sh.slc [Sh.str, Sh.int IntKind.u8, Sh.int IntKind.i64, Sh.str], Sh.str, Sh.int IntKind.u64, Sh.int IntKind.u8, Sh.bool, Sh.bool] (rx0 ++ [[V.int IntKind.u64 (V.toInt (List.getD (List.getD r7 (Int.toNat i9) []) (0 : Nat) V.undef)), V.str (V.toStr (List.getD (List.getD r7 (Int.toNat i9) []) (1 : Nat) V.undef)), V.str (V.toStr (List.getD (List.getD r7 (Int.toNat i9) []) (2 : Nat) V.undef)), V.slc [Sh.str, Sh.int IntKind.u8, Sh.int IntKind.i64, Sh.str] (List.map (fun p => [V.str (HPair.key p), V.int IntKind.u8 (HPair.kind p), V.int IntKind.i64 (HPair.num p), V.str (HPair.text p)]) (List.map (fun r => { key := V.toStr (List.getD r (0 : Nat) V.undef), kind := V.toInt (List.getD r (1 : Nat) V.undef), num := V.toInt (List.getD r (2 : Nat) V.undef), text := V.toStr (List.getD r (3 : Nat) V.undef) : HPair }) (V.toRows (List.getD (List.getD r7 (Int.toNat i9) []) (3 : Nat) V.undef)))), V.str (V.toStr (List.getD (List.getD r7 (Int.toNat i9) []) (4 : Nat) V.undef)), V.int IntKind.u64 (V.toInt (List.getD (List.getD r7 (Int.toNat i9) []) (5 : Nat) V.undef)), V.int IntKind.u8 (V.toInt (List.getD (List.getD r7 (Int.toNat i9) []) (6 : Nat) V.undef)), V.bool (V.toBool (List.getD (List.getD r7 (Int.toNat i9) []) (7 : Nat) V.undef)), V.bool (V.toBool (List.getD (List.getD r7 (Int.toNat i9) []) (8 : Nat) V.undef))]]) (0 : Nat))] : St }) (none)) (none)) (none)) (K (Ex.exit (0 : Nat)) { fr := [((3 : Nat), V.own (10000 : Nat) (0 : Nat))], tab := [((10000 : Nat), Box.sl [Sh.int IntKind.u64, Sh.str, Sh.str, Sh.slc [Sh.str, Sh.int IntKind.u8, Sh.int IntKind.i64, Sh.str], Sh.str, Sh.int IntKind.u64, Sh.int IntKind.u8, Sh.bool, Sh.bool] rx0 (0 : Nat))] : St }) := by kernel_rfl
theorem ok_lAll : FnOk Tryz.prog 15 dLAll := by
  refine den_okF (env_ok ((TOk.nil _).cons ok_iClone)) (E := eLAll) Tryz.func15 [3] (by kernel_rfl) (one1 (rounds_of rfl fun l K q h => ?_)) fun l _ hp => ?_
  · unfold gLAll at h
    split at h
    · rename_i r n i o
      have h1 := (cond_none h).1; replace h := (cond_none h).2; have h2 := (cond_none h).1; replace h := (cond_none h).2; have h3 := (cond_none h).1; replace h := (cond_none h).2; have h4 := (cond_none h).1; replace h := (cond_none h).2; have h5 := (cond_none h).1; replace h := (cond_none h).2
      have e1 := ieq_of h1
      have e2 := ieq_of h2
      have e3 := List.eq_nil_of_length_eq_zero (nbeq_of h3)
      subst e1 e2 e3
      have h4 : r.length ≤ 1000 := ble_of h4
      have main := range_ind (E := eLAll) (f := 15) (id := 3) (A := Unit) r (fun _ i => { fr := [(3, .own 10000 0), (7, .slc [.int .u64, .str, .str, .slc [.str, .int .u8, .int .i64, .str], .str, .int .u64, .int .u8, .bool, .bool] r), (8, .int .i64 r.length), (9, .int .i64 i)], tab := [(10000, .sl [.int .u64, .str, .str, .slc [.str, .int .u8, .int .i64, .str], .str, .int .u64, .int .u8, .bool, .bool] (((r.take i.toNat).map cItem.dec).map cItem.enc) 0)] }) (fun _ _ => True)
        (fun _ _ K => K (.exit 0) { fr := [(3, .own 10000 0)], tab := [(10000, .sl [.int .u64, .str, .str, .slc [.str, .int .u8, .int .i64, .str], .str, .int .u64, .int .u8, .bool, .bool] ((r.map cItem.dec).map cItem.enc) 0)] }) (fun _ i _ hi => ?_) (fun _ _ => ?_) () 0 (Int.le_refl _) (by omega) trivial K q (by assumption)
      · exact main
      · refine .inl ⟨(), trivial, fun K => ?_, fun K => rfl⟩
        rw [q_lAllR]
        have hl : (((r.take i).map cItem.dec).map cItem.enc).length = i := by simp; omega
        have ht := take_rowsI hi
        have hs := all_rowI h5 hi
        simp (disch := omega) only [evs, Int.toNat_natCast, fold_item, fold_itemR, hs, hl]
        rw [← ht]
        rfl
      · refine ⟨.exit 0, _, by simp, fun K => ?_, fun K => rfl⟩
        rw [q_lAllR]
        simp (disch := omega) only [evs, Int.toNat_natCast, List.take_length]
    · cases h
  · refine (q_lAll l).trans ?_
    have hp : smallL l = true := hp
    obtain ⟨_, h1, h2⟩ := smallL_of hp
    show _ = some (⟨.slc [.int .u64, .str, .str, .slc [.str, .int .u8, .int .i64, .str], .str, .int .u64, .int .u8, .bool, .bool] (l.map cItem.enc), [], []⟩ : DRes)
    simp only [List.length_map, dec_encs, beq_self_eq_true, cond_true, h1, h2]
namespace N
def wakes : List HItem → Nat → List HItem → List HItem
  | [], _, l => l
  | x :: r, k, l => wakes r (k + 1) (cond x.lent (setAt backI l k) l)
end N
theorem wakes_eq : ∀ (r pre : List HItem), N.wakes r pre.length (pre ++ r) = pre ++ N.lWake r
  | [], pre => rfl
  | x :: r, pre => by
    unfold N.wakes
    have hg : (pre ++ x :: r).getD pre.length item0 = x := by
      rw [List.getD_eq_getElem?_getD, List.getElem?_append_right (Nat.le_refl _)]
      simp
    have e : cond x.lent (N.setAt N.backI (pre ++ x :: r) pre.length) (pre ++ x :: r) = (pre ++ [N.wakeI x]) ++ r := by
      unfold N.wakeI
      cases x.lent with
      | true =>
        show N.setAt N.backI (pre ++ x :: r) pre.length = _
        unfold N.setAt
        rw [hg]
        simp [List.set_append]
      | false => simp
    have := wakes_eq r (pre ++ [N.wakeI x])
    rw [List.length_append] at this
    rw [e]
    rw [show pre.length + 1 = pre.length + [N.wakeI x].length from rfl, this, List.append_assoc]
    rfl
def schLWake : SSch := { fr := [(1, .ptr 10000 0 0), (2, .ptr 10001 0 0), (6, .slc [.int .u64, .str, .str, .slc [.str, .int .u8, .int .i64, .str], .str, .int .u64, .int .u8, .bool, .bool]), (7, .int .i64), (8, .int .i64)], tab := [(10000, .var [.slc [.int .u64, .str, .str, .slc [.str, .int .u8, .int .i64, .str], .str, .int .u64, .int .u8, .bool, .bool]]), (10001, .var [.slc [.int .u64, .str, .str, .slc [.str, .int .u8, .int .i64, .str], .str, .int .u64, .int .u8, .bool, .bool]])] }
def gLWake : List Leaf → (Ex → St → Option R) → Option R
  | [.r r, .i n, .i i, .r a, .r b], K => cond (n == r.length) (cond (i == 0) (cond (Nat.beq a.length r.length) (cond (Nat.ble r.length 1000)
      (K (.exit 0) { fr := [(1, .ptr 10000 0 0 0), (2, .ptr 10001 0 0 0)], tab := [(10000, .var [.slc [.int .u64, .str, .str, .slc [.str, .int .u8, .int .i64, .str], .str, .int .u64, .int .u8, .bool, .bool] (cond ((r.map cItem.dec).any fun x => x.lent) ((N.wakes (r.map cItem.dec) 0 (a.map cItem.dec)).map cItem.enc) a)]), (10001, .var [.slc [.int .u64, .str, .str, .slc [.str, .int .u8, .int .i64, .str], .str, .int .u64, .int .u8, .bool, .bool] b])] }) none) none) none) none
  | _, _ => none
noncomputable def eLWake : Env := { env Tryz.prog [(65, dWith 66 N.backI)] [(2, loopF schLWake gLWake)] [(2, [(0, [1, 2, 6, 7, 8]), (1, [1, 2]), (1000, [2])])] with fz := true }
theorem q_lWake (l : List HItem) : evFn eLWake 27 ((aOne (vAgg cLine)).enc l) ([]) some =
 cond ((↑(List.length (List.map (RCod.enc cItem) l)) : Int) == (↑(List.length (List.map (RCod.enc cItem) l)) : Int)) (cond (Nat.beq (List.length (List.map (RCod.enc cItem) l)) (List.length (List.map (RCod.enc cItem) l))) (cond (Nat.ble (List.length (List.map (RCod.enc cItem) l)) (1000 : Nat)) (some { v := V.agg [V.slc [Sh.int IntKind.u64, Sh.str, Sh.str, Sh.slc [Sh.str, Sh.int IntKind.u8, Sh.int IntKind.i64, Sh.str], Sh.str, Sh.int IntKind.u64, Sh.int IntKind.u8, Sh.bool, Sh.bool] (bif List.any (List.map (RCod.dec cItem) (List.map (RCod.enc cItem) l)) fun x => HItem.lent x then List.map (RCod.enc cItem) (N.wakes (List.map (RCod.dec cItem) (List.map (RCod.enc cItem) l)) (0 : Nat) (List.map (RCod.dec cItem) (List.map (RCod.enc cItem) l))) else List.map (RCod.enc cItem) l)], bx := [] : DRes }) (none)) (none)) (none) := by kernel_rfl
theorem q_lWakeR (r : List (List V)) (n i : Int) (a b : List (List V)) (K : Ex → St → Option R) : evRound eLWake 27 2 { fr := [(1, .ptr 10000 0 0 0), (2, .ptr 10001 0 0 0), (6, .slc [.int .u64, .str, .str, .slc [.str, .int .u8, .int .i64, .str], .str, .int .u64, .int .u8, .bool, .bool] r), (7, .int .i64 n), (8, .int .i64 i)], tab := [(10000, .var [.slc [.int .u64, .str, .str, .slc [.str, .int .u8, .int .i64, .str], .str, .int .u64, .int .u8, .bool, .bool] a]), (10001, .var [.slc [.int .u64, .str, .str, .slc [.str, .int .u8, .int .i64, .str], .str, .int .u64, .int .u8, .bool, .bool] b])] } K =
 cond (ilt i n) (cond (decide ((0 : Int) ≤ i ∧ i < (↑(List.length r) : Int))) (cond (V.toBool (List.getD (List.getD r (Int.toNat i) []) (7 : Nat) V.undef)) (cond (goodAt (List.map (RCod.dec cItem) a) i) (K Ex.normal { fr := [((1 : Nat), V.ptr (10000 : Nat) (0 : Nat) (0 : Nat) (0 : Nat)), ((2 : Nat), V.ptr (10001 : Nat) (0 : Nat) (0 : Nat) (0 : Nat)), ((6 : Nat), V.slc [Sh.int IntKind.u64, Sh.str, Sh.str, Sh.slc [Sh.str, Sh.int IntKind.u8, Sh.int IntKind.i64, Sh.str], Sh.str, Sh.int IntKind.u64, Sh.int IntKind.u8, Sh.bool, Sh.bool] r), ((7 : Nat), V.int IntKind.i64 n), ((8 : Nat), V.int IntKind.i64 (IntKind.wrap IntKind.i64 (i + (1 : Int))))], tab := [((10000 : Nat), Box.var [V.slc [Sh.int IntKind.u64, Sh.str, Sh.str, Sh.slc [Sh.str, Sh.int IntKind.u8, Sh.int IntKind.i64, Sh.str], Sh.str, Sh.int IntKind.u64, Sh.int IntKind.u8, Sh.bool, Sh.bool] (List.map (RCod.enc cItem) (N.setAt N.backI (List.map (RCod.dec cItem) a) (Int.toNat i)))]), ((10001 : Nat), Box.var [V.slc [Sh.int IntKind.u64, Sh.str, Sh.str, Sh.slc [Sh.str, Sh.int IntKind.u8, Sh.int IntKind.i64, Sh.str], Sh.str, Sh.int IntKind.u64, Sh.int IntKind.u8, Sh.bool, Sh.bool] b])] : St }) (none)) (K Ex.normal { fr := [((1 : Nat), V.ptr (10000 : Nat) (0 : Nat) (0 : Nat) (0 : Nat)), ((2 : Nat), V.ptr (10001 : Nat) (0 : Nat) (0 : Nat) (0 : Nat)), ((6 : Nat), V.slc [Sh.int IntKind.u64, Sh.str, Sh.str, Sh.slc [Sh.str, Sh.int IntKind.u8, Sh.int IntKind.i64, Sh.str], Sh.str, Sh.int IntKind.u64, Sh.int IntKind.u8, Sh.bool, Sh.bool] r), ((7 : Nat), V.int IntKind.i64 n), ((8 : Nat), V.int IntKind.i64 (IntKind.wrap IntKind.i64 (i + (1 : Int))))], tab := [((10000 : Nat), Box.var [V.slc [Sh.int IntKind.u64, Sh.str, Sh.str, Sh.slc [Sh.str, Sh.int IntKind.u8, Sh.int IntKind.i64, Sh.str], Sh.str, Sh.int IntKind.u64, Sh.int IntKind.u8, Sh.bool, Sh.bool] a]), ((10001 : Nat), Box.var [V.slc [Sh.int IntKind.u64, Sh.str, Sh.str, Sh.slc [Sh.str, Sh.int IntKind.u8, Sh.int IntKind.i64, Sh.str], Sh.str, Sh.int IntKind.u64, Sh.int IntKind.u8, Sh.bool, Sh.bool] b])] : St })) (none)) (K (Ex.exit (0 : Nat)) { fr := [((1 : Nat), V.ptr (10000 : Nat) (0 : Nat) (0 : Nat) (0 : Nat)), ((2 : Nat), V.ptr (10001 : Nat) (0 : Nat) (0 : Nat) (0 : Nat))], tab := [((10000 : Nat), Box.var [V.slc [Sh.int IntKind.u64, Sh.str, Sh.str, Sh.slc [Sh.str, Sh.int IntKind.u8, Sh.int IntKind.i64, Sh.str], Sh.str, Sh.int IntKind.u64, Sh.int IntKind.u8, Sh.bool, Sh.bool] a]), ((10001 : Nat), Box.var [V.slc [Sh.int IntKind.u64, Sh.str, Sh.str, Sh.slc [Sh.str, Sh.int IntKind.u8, Sh.int IntKind.i64, Sh.str], Sh.str, Sh.int IntKind.u64, Sh.int IntKind.u8, Sh.bool, Sh.bool] b])] : St }) := by kernel_rfl
theorem wakes_none : ∀ (r : List HItem) (k : Nat) (l : List HItem), (r.any fun x => x.lent) = false → N.wakes r k l = l
  | [], _, _, _ => rfl
  | x :: r, k, l, h => by
    rw [List.any_cons, Bool.or_eq_false_iff] at h
    unfold N.wakes
    rw [h.1]
    exact wakes_none r (k + 1) l h.2
theorem ok_lWake2 : RoundsOk eLWake 27 2 := by
  refine rounds_of rfl fun l K q h => ?_
  unfold gLWake at h
  split at h
  · rename_i r n i a b
    have h1 := (cond_none h).1; replace h := (cond_none h).2; have h2 := (cond_none h).1; replace h := (cond_none h).2; have h3 := (cond_none h).1; replace h := (cond_none h).2; have h4 := (cond_none h).1; replace h := (cond_none h).2
    have e1 := ieq_of h1
    have e2 := ieq_of h2
    have e3 := nbeq_of h3
    subst e1 e2
    have h4 : r.length ≤ 1000 := ble_of h4
    have main := loop_ind (E := eLWake) (f := 27) (id := 2) (σ := Nat × List (List V)) (fun s => { fr := [(1, .ptr 10000 0 0 0), (2, .ptr 10001 0 0 0), (6, .slc [.int .u64, .str, .str, .slc [.str, .int .u8, .int .i64, .str], .str, .int .u64, .int .u8, .bool, .bool] r), (7, .int .i64 r.length), (8, .int .i64 (s.1 : Int))], tab := [(10000, .var [.slc [.int .u64, .str, .str, .slc [.str, .int .u8, .int .i64, .str], .str, .int .u64, .int .u8, .bool, .bool] s.2]), (10001, .var [.slc [.int .u64, .str, .str, .slc [.str, .int .u8, .int .i64, .str], .str, .int .u64, .int .u8, .bool, .bool] b])] })
      (fun s => s.1 ≤ r.length ∧ s.2.length = r.length) (fun s => r.length - s.1)
      (fun s K => K (.exit 0) { fr := [(1, .ptr 10000 0 0 0), (2, .ptr 10001 0 0 0)], tab := [(10000, .var [.slc [.int .u64, .str, .str, .slc [.str, .int .u8, .int .i64, .str], .str, .int .u64, .int .u8, .bool, .bool] (cond (((r.drop s.1).map cItem.dec).any fun x => x.lent) ((N.wakes ((r.drop s.1).map cItem.dec) s.1 (s.2.map cItem.dec)).map cItem.enc) s.2)]), (10001, .var [.slc [.int .u64, .str, .str, .slc [.str, .int .u8, .int .i64, .str], .str, .int .u64, .int .u8, .bool, .bool] b])] })
      (fun s hs => ?_) (0, a) ⟨Nat.zero_le _, e3⟩ K q (by assumption)
    · exact main
    · obtain ⟨i, a⟩ := s
      obtain ⟨k1, k2⟩ := hs
      simp only at k1 k2 ⊢
      by_cases hl : i < r.length
      · rw [drop_decI hl, List.any_cons]
        cases hc : (cItem.dec (r.getD i [])).lent with
        | true =>
          have hc' : V.toBool (List.getD (List.getD r i []) 7 V.undef) = true := hc
          have ga : goodAt (a.map cItem.dec) i = true := by
            unfold goodAt
            rw [List.length_map, ile_t (by omega), ilt_t (by omega), ble_t (by omega)]; rfl
          refine .inl ⟨(i + 1, (N.setAt N.backI (a.map cItem.dec) i).map cItem.enc), ⟨hl, by simp only [List.length_map, setAt_len]; exact k2⟩, by simp only; omega, fun K => ?_, fun K => ?_⟩
          · rw [q_lWakeR]
            simp (disch := omega) only [evs, Int.toNat_natCast, hc', ga]
            rfl
          · have e : N.wakes (cItem.dec (r.getD i []) :: (r.drop (i + 1)).map cItem.dec) i (a.map cItem.dec) = N.wakes ((r.drop (i + 1)).map cItem.dec) (i + 1) (N.setAt N.backI (a.map cItem.dec) i) := by
              show N.wakes _ _ (cond (cItem.dec (r.getD i [])).lent _ _) = _
              rw [hc]; rfl
            rw [e, Bool.true_or, cond_true]
            simp only [dec_encs]
            cases hn : ((r.drop (i + 1)).map cItem.dec).any fun x => x.lent with
            | true => rfl
            | false => rw [wakes_none _ _ _ hn]; rfl
        | false =>
          have hc' : V.toBool (List.getD (List.getD r i []) 7 V.undef) = false := hc
          refine .inl ⟨(i + 1, a), ⟨hl, k2⟩, by simp only; omega, fun K => ?_, fun K => ?_⟩
          · rw [q_lWakeR]
            simp (disch := omega) only [evs, Int.toNat_natCast, hc']
            rfl
          · have e : N.wakes (cItem.dec (r.getD i []) :: (r.drop (i + 1)).map cItem.dec) i (a.map cItem.dec) = N.wakes ((r.drop (i + 1)).map cItem.dec) (i + 1) (a.map cItem.dec) := by
              show N.wakes _ _ (cond (cItem.dec (r.getD i [])).lent _ _) = _
              rw [hc]; rfl
            rw [e, Bool.false_or]
      · have ei : i = r.length := by omega
        subst ei
        refine .inr ⟨.exit 0, { fr := [(1, .ptr 10000 0 0 0), (2, .ptr 10001 0 0 0)], tab := [(10000, .var [.slc [.int .u64, .str, .str, .slc [.str, .int .u8, .int .i64, .str], .str, .int .u64, .int .u8, .bool, .bool] a]), (10001, .var [.slc [.int .u64, .str, .str, .slc [.str, .int .u8, .int .i64, .str], .str, .int .u64, .int .u8, .bool, .bool] b])] }, by simp, fun K => ?_, fun K => ?_⟩
        · rw [q_lWakeR]
          simp (disch := omega) only [evs]
        · rw [List.drop_eq_nil_of_le (Nat.le_refl _)]; rfl
  · cases h
theorem ok_lWake : FnOk Tryz.prog 27 dLWake := by
  refine den_okF (show TOk Tryz.prog _ from (TOk.nil _).cons ok_withW) (E := eLWake) Tryz.func27 [2] (by kernel_rfl) (one1 ok_lWake2) fun l _ hp => ?_
  have hp : Nat.ble l.length 1000 = true := hp
  refine (q_lWake l).trans ?_
  simp only [List.length_map, dec_encs, hp, beq_self_eq_true, cond_true, Nat.beq_refl]
  have e := wakes_eq l []
  show _ = some (⟨.agg [.slc [.int .u64, .str, .str, .slc [.str, .int .u8, .int .i64, .str], .str, .int .u64, .int .u8, .bool, .bool] ((N.lWake l).map cItem.enc)], [], []⟩ : DRes)
  have e : N.wakes l 0 l = N.lWake l := e
  rw [e]
  cases hn : l.any fun x => x.lent with
  | true => rfl
  | false =>
    have := wakes_none l 0 l hn
    rw [e] at this
    rw [this]; rfl
end Go.Ev

/- The document's lines: putting, making, sameness: lemmas. -/
namespace Go.Ev
open Go Go.Proofs
set_option maxRecDepth 100000
-- FOLD

def N.geE (id : Int) (l : List HItem) (e : Int) : Int := cond (cond (e == 0) (l.any fun y => ile id y.mail.id) false) 13 e
def dRPut : Den := den (aCons (vSl cItem) (aOne (vAgg cItem))) bNil (oTup (aCons (vSl cItem) (aOne (vInt .i64)))) (fun a _ => Nat.ble a.1.length 1000) fun a _ => (N.rPut a.1 a.2, ())
def schRPut : SSch := { fr := [(0, .slc [.int .u64, .str, .str, .slc [.str, .int .u8, .int .i64, .str], .str, .int .u64, .int .u8, .bool, .bool]), (3, .ptr 10000 0 0), (6, .int .i64), (13, .slc [.int .u64, .str, .str, .slc [.str, .int .u8, .int .i64, .str], .str, .int .u64, .int .u8, .bool, .bool]), (14, .int .i64), (15, .int .i64)], tab := [(10000, .var [.int .u64, .str, .str, .slc [.str, .int .u8, .int .i64, .str], .str, .int .u64, .int .u8, .bool, .bool])] }
def gRPut : List Leaf → (Ex → St → Option R) → Option R
  | [.r l0, .i e, .r r, .i n, .i i, .i id, .s s1, .s s2, .r hd, .s s3, .i due, .i hops, .b b1, .b b2], K => cond (n == r.length) (cond (i == 0) (cond (Nat.ble r.length 1000)
      (K (.exit 0) { fr := [(0, .slc [.int .u64, .str, .str, .slc [.str, .int .u8, .int .i64, .str], .str, .int .u64, .int .u8, .bool, .bool] l0), (3, .ptr 10000 0 0 0), (6, .int .i64 (N.geE id (r.map cItem.dec) e))], tab := [(10000, .var [.int .u64 id, .str s1, .str s2, .slc [.str, .int .u8, .int .i64, .str] hd, .str s3, .int .u64 due, .int .u8 hops, .bool b1, .bool b2])] }) none) none) none
  | _, _ => none
noncomputable def eRPut : Env := env Tryz.prog [(111, dMailCheck)] [(3, loopF schRPut gRPut)] [(3, [(0, [0, 3, 6, 13, 14, 15]), (1, [0, 3, 6]), (1000, [4, 5])])]
theorem q_rPut (l : List HItem) (x : HItem) : evFn eRPut 61 ((aCons (vSl cItem) (aOne (vAgg cItem))).enc (l, x)) ([]) some =
 cond ((↑(List.length (List.map (RCod.enc cItem) l)) : Int) == (↑(List.length (List.map (RCod.enc cItem) l)) : Int)) (cond (Nat.ble (List.length (List.map (RCod.enc cItem) l)) (1000 : Nat)) (cond (N.geE (HMail.id (HItem.mail x)) (List.map (RCod.dec cItem) (List.map (RCod.enc cItem) l)) (N.mailCheck { id := HMail.id (HItem.mail x), shop := HMail.shop (HItem.mail x), key := HMail.key (HItem.mail x), head := List.map (fun r => { key := V.toStr (List.getD r (0 : Nat) V.undef), kind := V.toInt (List.getD r (1 : Nat) V.undef), num := V.toInt (List.getD r (2 : Nat) V.undef), text := V.toStr (List.getD r (3 : Nat) V.undef) : HPair }) (List.map (fun p => [V.str (HPair.key p), V.int IntKind.u8 (HPair.kind p), V.int IntKind.i64 (HPair.num p), V.str (HPair.text p)]) (HMail.head (HItem.mail x))), body := HMail.body (HItem.mail x), due := HMail.due (HItem.mail x), hops := HMail.hops (HItem.mail x) : HMail }) == (0 : Int)) (cond (ile (64 : Int) (↑(List.length (List.map (RCod.enc cItem) l)) : Int)) (some { v := V.tup [V.slc [Sh.int IntKind.u64, Sh.str, Sh.str, Sh.slc [Sh.str, Sh.int IntKind.u8, Sh.int IntKind.i64, Sh.str], Sh.str, Sh.int IntKind.u64, Sh.int IntKind.u8, Sh.bool, Sh.bool] (List.map (RCod.enc cItem) l), V.int IntKind.i64 (12 : Int)], bx := [] : DRes }) (cond (N.geE (HMail.id (HItem.mail x)) (List.map (RCod.dec cItem) (List.map (RCod.enc cItem) l)) (N.mailCheck { id := HMail.id (HItem.mail x), shop := HMail.shop (HItem.mail x), key := HMail.key (HItem.mail x), head := List.map (fun r => { key := V.toStr (List.getD r (0 : Nat) V.undef), kind := V.toInt (List.getD r (1 : Nat) V.undef), num := V.toInt (List.getD r (2 : Nat) V.undef), text := V.toStr (List.getD r (3 : Nat) V.undef) : HPair }) (List.map (fun p => [V.str (HPair.key p), V.int IntKind.u8 (HPair.kind p), V.int IntKind.i64 (HPair.num p), V.str (HPair.text p)]) (HMail.head (HItem.mail x))), body := HMail.body (HItem.mail x), due := HMail.due (HItem.mail x), hops := HMail.hops (HItem.mail x) : HMail }) != (0 : Int)) (some { v := V.tup [V.slc [Sh.int IntKind.u64, Sh.str, Sh.str, Sh.slc [Sh.str, Sh.int IntKind.u8, Sh.int IntKind.i64, Sh.str], Sh.str, Sh.int IntKind.u64, Sh.int IntKind.u8, Sh.bool, Sh.bool] (List.map (RCod.enc cItem) l), V.int IntKind.i64 (N.geE (HMail.id (HItem.mail x)) (List.map (RCod.dec cItem) (List.map (RCod.enc cItem) l)) (N.mailCheck { id := HMail.id (HItem.mail x), shop := HMail.shop (HItem.mail x), key := HMail.key (HItem.mail x), head := List.map (fun r => { key := V.toStr (List.getD r (0 : Nat) V.undef), kind := V.toInt (List.getD r (1 : Nat) V.undef), num := V.toInt (List.getD r (2 : Nat) V.undef), text := V.toStr (List.getD r (3 : Nat) V.undef) : HPair }) (List.map (fun p => [V.str (HPair.key p), V.int IntKind.u8 (HPair.kind p), V.int IntKind.i64 (HPair.num p), V.str (HPair.text p)]) (HMail.head (HItem.mail x))), body := HMail.body (HItem.mail x), due := HMail.due (HItem.mail x), hops := HMail.hops (HItem.mail x) : HMail }))], bx := [] : DRes }) (cond (decide (List.length (List.map (RCod.enc cItem) l) * (104 : Nat) ≤ (140737488355328 : Nat))) (cond (decide ((List.length (List.map (RCod.enc cItem) l) + (1 : Nat)) * (104 : Nat) ≤ (140737488355328 : Nat))) (some { v := V.tup [V.slc [Sh.int IntKind.u64, Sh.str, Sh.str, Sh.slc [Sh.str, Sh.int IntKind.u8, Sh.int IntKind.i64, Sh.str], Sh.str, Sh.int IntKind.u64, Sh.int IntKind.u8, Sh.bool, Sh.bool] (List.map (RCod.enc cItem) l ++ [[V.int IntKind.u64 (HMail.id (HItem.mail x)), V.str (HMail.shop (HItem.mail x)), V.str (HMail.key (HItem.mail x)), V.slc [Sh.str, Sh.int IntKind.u8, Sh.int IntKind.i64, Sh.str] (List.map (fun p => [V.str (HPair.key p), V.int IntKind.u8 (HPair.kind p), V.int IntKind.i64 (HPair.num p), V.str (HPair.text p)]) (HMail.head (HItem.mail x))), V.str (HMail.body (HItem.mail x)), V.int IntKind.u64 (HMail.due (HItem.mail x)), V.int IntKind.u8 (HMail.hops (HItem.mail x)), V.bool (HItem.lent x), V.bool (HItem.again x)]]), V.int IntKind.i64 (0 : Int)], bx := [] : DRes }) (none)) (none)))) (cond (N.geE (HMail.id (HItem.mail x)) (List.map (RCod.dec cItem) (List.map (RCod.enc cItem) l)) (N.mailCheck { id := HMail.id (HItem.mail x), shop := HMail.shop (HItem.mail x), key := HMail.key (HItem.mail x), head := List.map (fun r => { key := V.toStr (List.getD r (0 : Nat) V.undef), kind := V.toInt (List.getD r (1 : Nat) V.undef), num := V.toInt (List.getD r (2 : Nat) V.undef), text := V.toStr (List.getD r (3 : Nat) V.undef) : HPair }) (List.map (fun p => [V.str (HPair.key p), V.int IntKind.u8 (HPair.kind p), V.int IntKind.i64 (HPair.num p), V.str (HPair.text p)]) (HMail.head (HItem.mail x))), body := HMail.body (HItem.mail x), due := HMail.due (HItem.mail x), hops := HMail.hops (HItem.mail x) : HMail }) != (0 : Int)) (some { v := V.tup [V.slc [Sh.int IntKind.u64, Sh.str, Sh.str, Sh.slc [Sh.str, Sh.int IntKind.u8, Sh.int IntKind.i64, Sh.str], Sh.str, Sh.int IntKind.u64, Sh.int IntKind.u8, Sh.bool, Sh.bool] (List.map (RCod.enc cItem) l), V.int IntKind.i64 (N.geE (HMail.id (HItem.mail x)) (List.map (RCod.dec cItem) (List.map (RCod.enc cItem) l)) (N.mailCheck { id := HMail.id (HItem.mail x), shop := HMail.shop (HItem.mail x), key := HMail.key (HItem.mail x), head := List.map (fun r => { key := V.toStr (List.getD r (0 : Nat) V.undef), kind := V.toInt (List.getD r (1 : Nat) V.undef), num := V.toInt (List.getD r (2 : Nat) V.undef), text := V.toStr (List.getD r (3 : Nat) V.undef) : HPair }) (List.map (fun p => [V.str (HPair.key p), V.int IntKind.u8 (HPair.kind p), V.int IntKind.i64 (HPair.num p), V.str (HPair.text p)]) (HMail.head (HItem.mail x))), body := HMail.body (HItem.mail x), due := HMail.due (HItem.mail x), hops := HMail.hops (HItem.mail x) : HMail }))], bx := [] : DRes }) (cond (decide (List.length (List.map (RCod.enc cItem) l) * (104 : Nat) ≤ (140737488355328 : Nat))) (cond (decide ((List.length (List.map (RCod.enc cItem) l) + (1 : Nat)) * (104 : Nat) ≤ (140737488355328 : Nat))) (some { v := V.tup [V.slc [Sh.int IntKind.u64, Sh.str, Sh.str, Sh.slc [Sh.str, Sh.int IntKind.u8, Sh.int IntKind.i64, Sh.str], Sh.str, Sh.int IntKind.u64, Sh.int IntKind.u8, Sh.bool, Sh.bool] (List.map (RCod.enc cItem) l ++ [[V.int IntKind.u64 (HMail.id (HItem.mail x)), V.str (HMail.shop (HItem.mail x)), V.str (HMail.key (HItem.mail x)), V.slc [Sh.str, Sh.int IntKind.u8, Sh.int IntKind.i64, Sh.str] (List.map (fun p => [V.str (HPair.key p), V.int IntKind.u8 (HPair.kind p), V.int IntKind.i64 (HPair.num p), V.str (HPair.text p)]) (HMail.head (HItem.mail x))), V.str (HMail.body (HItem.mail x)), V.int IntKind.u64 (HMail.due (HItem.mail x)), V.int IntKind.u8 (HMail.hops (HItem.mail x)), V.bool (HItem.lent x), V.bool (HItem.again x)]]), V.int IntKind.i64 (0 : Int)], bx := [] : DRes }) (none)) (none)))) (none)) (none) := by kernel_rfl
theorem q_rPutR (l0 : List (List V)) (e : Int) (r : List (List V)) (n i id : Int) (s1 s2 : Bytes) (hd : List (List V)) (s3 : Bytes) (due hops : Int) (b1 b2 : Bool) (K : Ex → St → Option R) : evRound eRPut 61 3 { fr := [(0, .slc [.int .u64, .str, .str, .slc [.str, .int .u8, .int .i64, .str], .str, .int .u64, .int .u8, .bool, .bool] l0), (3, .ptr 10000 0 0 0), (6, .int .i64 e), (13, .slc [.int .u64, .str, .str, .slc [.str, .int .u8, .int .i64, .str], .str, .int .u64, .int .u8, .bool, .bool] r), (14, .int .i64 n), (15, .int .i64 i)], tab := [(10000, .var [.int .u64 id, .str s1, .str s2, .slc [.str, .int .u8, .int .i64, .str] hd, .str s3, .int .u64 due, .int .u8 hops, .bool b1, .bool b2])] } K =
 cond (ilt i n) (cond (decide ((0 : Int) ≤ i ∧ i < (↑(List.length r) : Int))) (cond (e == (0 : Int)) (cond (ile id (V.toInt (List.getD (List.getD r (Int.toNat i) []) (0 : Nat) V.undef))) (K Ex.normal { fr := [((0 : Nat), V.slc [Sh.int IntKind.u64, Sh.str, Sh.str, Sh.slc [Sh.str, Sh.int IntKind.u8, Sh.int IntKind.i64, Sh.str], Sh.str, Sh.int IntKind.u64, Sh.int IntKind.u8, Sh.bool, Sh.bool] l0), ((3 : Nat), V.ptr (10000 : Nat) (0 : Nat) (0 : Nat) (0 : Nat)), ((6 : Nat), V.int IntKind.i64 (13 : Int)), ((13 : Nat), V.slc [Sh.int IntKind.u64, Sh.str, Sh.str, Sh.slc [Sh.str, Sh.int IntKind.u8, Sh.int IntKind.i64, Sh.str], Sh.str, Sh.int IntKind.u64, Sh.int IntKind.u8, Sh.bool, Sh.bool] r), ((14 : Nat), V.int IntKind.i64 n), ((15 : Nat), V.int IntKind.i64 (IntKind.wrap IntKind.i64 (i + (1 : Int))))], tab := [((10000 : Nat), Box.var [V.int IntKind.u64 id, V.str s1, V.str s2, V.slc [Sh.str, Sh.int IntKind.u8, Sh.int IntKind.i64, Sh.str] hd, V.str s3, V.int IntKind.u64 due, V.int IntKind.u8 hops, V.bool b1, V.bool b2])] : St }) (K Ex.normal { fr := [((0 : Nat), V.slc [Sh.int IntKind.u64, Sh.str, Sh.str, Sh.slc [Sh.str, Sh.int IntKind.u8, Sh.int IntKind.i64, Sh.str], Sh.str, Sh.int IntKind.u64, Sh.int IntKind.u8, Sh.bool, Sh.bool] l0), ((3 : Nat), V.ptr (10000 : Nat) (0 : Nat) (0 : Nat) (0 : Nat)), ((6 : Nat), V.int IntKind.i64 e), ((13 : Nat), V.slc [Sh.int IntKind.u64, Sh.str, Sh.str, Sh.slc [Sh.str, Sh.int IntKind.u8, Sh.int IntKind.i64, Sh.str], Sh.str, Sh.int IntKind.u64, Sh.int IntKind.u8, Sh.bool, Sh.bool] r), ((14 : Nat), V.int IntKind.i64 n), ((15 : Nat), V.int IntKind.i64 (IntKind.wrap IntKind.i64 (i + (1 : Int))))], tab := [((10000 : Nat), Box.var [V.int IntKind.u64 id, V.str s1, V.str s2, V.slc [Sh.str, Sh.int IntKind.u8, Sh.int IntKind.i64, Sh.str] hd, V.str s3, V.int IntKind.u64 due, V.int IntKind.u8 hops, V.bool b1, V.bool b2])] : St })) (K Ex.normal { fr := [((0 : Nat), V.slc [Sh.int IntKind.u64, Sh.str, Sh.str, Sh.slc [Sh.str, Sh.int IntKind.u8, Sh.int IntKind.i64, Sh.str], Sh.str, Sh.int IntKind.u64, Sh.int IntKind.u8, Sh.bool, Sh.bool] l0), ((3 : Nat), V.ptr (10000 : Nat) (0 : Nat) (0 : Nat) (0 : Nat)), ((6 : Nat), V.int IntKind.i64 e), ((13 : Nat), V.slc [Sh.int IntKind.u64, Sh.str, Sh.str, Sh.slc [Sh.str, Sh.int IntKind.u8, Sh.int IntKind.i64, Sh.str], Sh.str, Sh.int IntKind.u64, Sh.int IntKind.u8, Sh.bool, Sh.bool] r), ((14 : Nat), V.int IntKind.i64 n), ((15 : Nat), V.int IntKind.i64 (IntKind.wrap IntKind.i64 (i + (1 : Int))))], tab := [((10000 : Nat), Box.var [V.int IntKind.u64 id, V.str s1, V.str s2, V.slc [Sh.str, Sh.int IntKind.u8, Sh.int IntKind.i64, Sh.str] hd, V.str s3, V.int IntKind.u64 due, V.int IntKind.u8 hops, V.bool b1, V.bool b2])] : St })) (none)) (K (Ex.exit (0 : Nat)) { fr := [((0 : Nat), V.slc [Sh.int IntKind.u64, Sh.str, Sh.str, Sh.slc [Sh.str, Sh.int IntKind.u8, Sh.int IntKind.i64, Sh.str], Sh.str, Sh.int IntKind.u64, Sh.int IntKind.u8, Sh.bool, Sh.bool] l0), ((3 : Nat), V.ptr (10000 : Nat) (0 : Nat) (0 : Nat) (0 : Nat)), ((6 : Nat), V.int IntKind.i64 e)], tab := [((10000 : Nat), Box.var [V.int IntKind.u64 id, V.str s1, V.str s2, V.slc [Sh.str, Sh.int IntKind.u8, Sh.int IntKind.i64, Sh.str] hd, V.str s3, V.int IntKind.u64 due, V.int IntKind.u8 hops, V.bool b1, V.bool b2])] : St }) := by kernel_rfl
theorem ok_rPut3 : RoundsOk eRPut 61 3 := by
  refine rounds_of rfl fun l K q h => ?_
  unfold gRPut at h
  split at h
  · rename_i l0 e r n i id s1 s2 hd s3 due hops b1 b2
    have h1 := (cond_none h).1; replace h := (cond_none h).2; have h2 := (cond_none h).1; replace h := (cond_none h).2; have h3 := (cond_none h).1; replace h := (cond_none h).2
    have e1 := ieq_of h1
    have e2 := ieq_of h2
    subst e1 e2
    have h3 : r.length ≤ 1000 := ble_of h3
    have main := range_ind (E := eRPut) (f := 61) (id := 3) (A := Int) r (fun e i => { fr := [(0, .slc [.int .u64, .str, .str, .slc [.str, .int .u8, .int .i64, .str], .str, .int .u64, .int .u8, .bool, .bool] l0), (3, .ptr 10000 0 0 0), (6, .int .i64 e), (13, .slc [.int .u64, .str, .str, .slc [.str, .int .u8, .int .i64, .str], .str, .int .u64, .int .u8, .bool, .bool] r), (14, .int .i64 r.length), (15, .int .i64 i)], tab := [(10000, .var [.int .u64 id, .str s1, .str s2, .slc [.str, .int .u8, .int .i64, .str] hd, .str s3, .int .u64 due, .int .u8 hops, .bool b1, .bool b2])] }) (fun _ _ => True)
      (fun e rows K => K (.exit 0) { fr := [(0, .slc [.int .u64, .str, .str, .slc [.str, .int .u8, .int .i64, .str], .str, .int .u64, .int .u8, .bool, .bool] l0), (3, .ptr 10000 0 0 0), (6, .int .i64 (N.geE id (rows.map cItem.dec) e))], tab := [(10000, .var [.int .u64 id, .str s1, .str s2, .slc [.str, .int .u8, .int .i64, .str] hd, .str s3, .int .u64 due, .int .u8 hops, .bool b1, .bool b2])] }) (fun e i _ hi => ?_) (fun e _ => ?_) e 0 (Int.le_refl _) (by omega) trivial K q (by assumption)
    · exact main
    · refine .inl ⟨cond (cond (e == 0) (ile id (cItem.dec (r.getD i [])).mail.id) false) 13 e, trivial, fun K => ?_, fun K => ?_⟩
      · rw [q_rPutR]
        have hm : V.toInt (List.getD (List.getD r i []) 0 V.undef) = (cItem.dec (r.getD i [])).mail.id := rfl
        simp (disch := omega) only [evs, Int.toNat_natCast, hm]
        cases e == 0 with
        | false => rfl
        | true => cases ile id (cItem.dec (r.getD i [])).mail.id <;> rfl
      · have he : N.geE id ((r.getD i [] :: r.drop (i + 1)).map cItem.dec) e = N.geE id ((r.drop (i + 1)).map cItem.dec) (cond (cond (e == 0) (ile id (cItem.dec (r.getD i [])).mail.id) false) 13 e) := by
          unfold N.geE
          rw [List.map_cons, List.any_cons]
          cases hz : e == 0 with
          | false => simp only [cond_false, hz]
          | true =>
            cases ile id (cItem.dec (r.getD i [])).mail.id with
            | true => rfl
            | false => simp only [cond_true, cond_false, hz, Bool.false_or]
        rw [he]
    · have he : N.geE id (([] : List (List V)).map cItem.dec) e = e := by
        unfold N.geE
        cases e == 0 <;> rfl
      refine ⟨.exit 0, { fr := [(0, .slc [.int .u64, .str, .str, .slc [.str, .int .u8, .int .i64, .str], .str, .int .u64, .int .u8, .bool, .bool] l0), (3, .ptr 10000 0 0 0), (6, .int .i64 (e))], tab := [(10000, .var [.int .u64 id, .str s1, .str s2, .slc [.str, .int .u8, .int .i64, .str] hd, .str s3, .int .u64 due, .int .u8 hops, .bool b1, .bool b2])] }, by simp, fun K => ?_, fun K => by rw [he]⟩
      rw [q_rPutR]
      simp (disch := omega) only [evs]
  · cases h
noncomputable def eRSameI : Env := env Tryz.prog [(20, dMailSame)] [] []
theorem q_rSameI (a b : HItem) : evFn eRSameI 48 ((aCons (vAgg cItem) (aOne (vAgg cItem))).enc (a, b)) ([]) some =
 cond (smallM { id := HMail.id (HItem.mail a), shop := HMail.shop (HItem.mail a), key := HMail.key (HItem.mail a), head := List.map (fun r => { key := V.toStr (List.getD r (0 : Nat) V.undef), kind := V.toInt (List.getD r (1 : Nat) V.undef), num := V.toInt (List.getD r (2 : Nat) V.undef), text := V.toStr (List.getD r (3 : Nat) V.undef) : HPair }) (List.map (fun p => [V.str (HPair.key p), V.int IntKind.u8 (HPair.kind p), V.int IntKind.i64 (HPair.num p), V.str (HPair.text p)]) (HMail.head (HItem.mail a))), body := HMail.body (HItem.mail a), due := HMail.due (HItem.mail a), hops := HMail.hops (HItem.mail a) : HMail }) (cond (N.mailSame { id := HMail.id (HItem.mail a), shop := HMail.shop (HItem.mail a), key := HMail.key (HItem.mail a), head := List.map (fun r => { key := V.toStr (List.getD r (0 : Nat) V.undef), kind := V.toInt (List.getD r (1 : Nat) V.undef), num := V.toInt (List.getD r (2 : Nat) V.undef), text := V.toStr (List.getD r (3 : Nat) V.undef) : HPair }) (List.map (fun p => [V.str (HPair.key p), V.int IntKind.u8 (HPair.kind p), V.int IntKind.i64 (HPair.num p), V.str (HPair.text p)]) (HMail.head (HItem.mail a))), body := HMail.body (HItem.mail a), due := HMail.due (HItem.mail a), hops := HMail.hops (HItem.mail a) : HMail } { id := HMail.id (HItem.mail b), shop := HMail.shop (HItem.mail b), key := HMail.key (HItem.mail b), head := List.map (fun r => { key := V.toStr (List.getD r (0 : Nat) V.undef), kind := V.toInt (List.getD r (1 : Nat) V.undef), num := V.toInt (List.getD r (2 : Nat) V.undef), text := V.toStr (List.getD r (3 : Nat) V.undef) : HPair }) (List.map (fun p => [V.str (HPair.key p), V.int IntKind.u8 (HPair.kind p), V.int IntKind.i64 (HPair.num p), V.str (HPair.text p)]) (HMail.head (HItem.mail b))), body := HMail.body (HItem.mail b), due := HMail.due (HItem.mail b), hops := HMail.hops (HItem.mail b) : HMail }) (cond (HItem.lent a == HItem.lent b) (some { v := V.bool (HItem.again a == HItem.again b), bx := [] : DRes }) (some { v := V.bool false, bx := [] : DRes })) (some { v := V.bool false, bx := [] : DRes })) (none) := by kernel_rfl
theorem ok_rSameI : FnOk Tryz.prog 48 dSameI := by
  refine den_okF (env_ok ((TOk.nil _).cons ok_refMailSame)) (E := eRSameI) Tryz.func48 [] (by kernel_rfl) none0 fun a _ h => ?_
  obtain ⟨a, b⟩ := a
  have h : smallM a.mail = true := h
  refine (q_rSameI a b).trans ?_
  show _ = some (⟨.bool (N.sameI a b), [], []⟩ : DRes)
  unfold N.sameI
  simp only [fold_de, h, cond_true]
  cases N.mailSame a.mail b.mail <;> cases a.lent == b.lent <;> rfl
theorem ok_rPut : FnOk Tryz.prog 61 dRPut := by
  refine den_okF (env_ok ((TOk.nil _).cons ok_refMailCheck)) (E := eRPut) Tryz.func61 [3] (by kernel_rfl) (one1 ok_rPut3) fun a _ h => ?_
  obtain ⟨l, x⟩ := a
  have h1 : Nat.ble l.length 1000 = true := h
  have h2 : l.length ≤ 1000 := ble_of h1
  refine (q_rPut l x).trans ?_
  show _ = some (⟨.tup [.slc [.int .u64, .str, .str, .slc [.str, .int .u8, .int .i64, .str], .str, .int .u64, .int .u8, .bool, .bool] ((N.rPut l x).1.map cItem.enc), .int .i64 (N.rPut l x).2], [], []⟩ : DRes)
  simp only [fold_de, dec_encs, List.length_map, h1, beq_self_eq_true, cond_true]
  unfold N.rPut N.rRc N.geE
  cases hc : N.mailCheck x.mail != 0 with
  | true =>
    have hz : (N.mailCheck x.mail == 0) = false := by rw [bne] at hc; simpa using hc
    simp (disch := omega) only [evs, hz, hc]
  | false =>
    have hz : N.mailCheck x.mail = 0 := by simpa using hc
    rw [hz]
    cases ha : l.any fun y => ile x.mail.id y.mail.id with
    | true => simp (disch := omega) only [evs, ha]
    | false =>
      by_cases h64 : 64 ≤ l.length
      · simp (disch := omega) only [evs, ha]
      · simp (disch := omega) only [evs, ha, pairs_enc, fold_itemE]
        rw [show List.map cItem.enc l ++ [cItem.enc x] = List.map cItem.enc (l ++ [x]) by simp]
end Go.Ev

/- What the statements on lines share: the example, a line as the document's; the statement on how a line is made: lemmas; the function that writes numbers is a premise. -/
namespace Go.Ev
open Go Go.Proofs
set_option maxRecDepth 100000
-- FOLD

noncomputable def eAw18 : Env := env Tryz.prog [(44, dLAdd), (28, dLLend), (45, dLBack), (18, dLFirst), (46, dTrue)] [] []
theorem q_aw18  : evFn eAw18 11 [] [] some =
 some { v := V.bool true, bx := [] : DRes } := by kernel_rfl
theorem ok_aw18 (hN : FnOk Tryz.prog 158 dOutNum) : FnOk Tryz.prog 11 dTrue :=
  den_okF (env_ok ((((((TOk.nil _).cons (ok_aw13' hN)).cons ok_lFirst).cons ok_lBack).cons ok_lLend).cons ok_lAdd)) (E := eAw18) Tryz.func11 [] (by kernel_rfl) none0 fun _ _ _ => q_aw18
/-- An item's row, read again. -/
def reRowI (r : List V) : List V := [V.int .u64 (V.toInt (List.getD r 0 .undef)), V.str (V.toStr (List.getD r 1 .undef)), V.str (V.toStr (List.getD r 2 .undef)), V.slc [.str, .int .u8, .int .i64, .str] (V.toRows (List.getD r 3 .undef)), V.str (V.toStr (List.getD r 4 .undef)), V.int .u64 (V.toInt (List.getD r 5 .undef)), V.int .u8 (V.toInt (List.getD r 6 .undef)), V.bool (V.toBool (List.getD r 7 .undef)), V.bool (V.toBool (List.getD r 8 .undef))]
theorem fold_reRowI (r : List V) : [V.int .u64 (V.toInt (List.getD r 0 .undef)), V.str (V.toStr (List.getD r 1 .undef)), V.str (V.toStr (List.getD r 2 .undef)), V.slc [.str, .int .u8, .int .i64, .str] (V.toRows (List.getD r 3 .undef)), V.str (V.toStr (List.getD r 4 .undef)), V.int .u64 (V.toInt (List.getD r 5 .undef)), V.int .u8 (V.toInt (List.getD r 6 .undef)), V.bool (V.toBool (List.getD r 7 .undef)), V.bool (V.toBool (List.getD r 8 .undef))] = reRowI r := rfl
theorem LInv.smallL {l : List HItem} (h : LInv l) : Go.Ev.smallL l = true := by
  unfold Go.Ev.smallL
  rw [ble_t (Nat.le_trans h.few (by decide)), h.small]; rfl
end Go.Ev

/- What acts do to a line, in plain terms: lemmas, no condition. -/
namespace Go.Ev
open Go
set_option maxRecDepth 100000

structure HAct where
  op : Int
  mail : HMail
namespace N
def act (l : List HItem) (a : HAct) : List HItem :=
  cond (Int.tmod a.op 6 == 2) (lLend l).1 (cond (Int.tmod a.op 6 == 3) (lBack l a.mail.id).1 (cond (Int.tmod a.op 6 == 4) (lRemove l a.mail.id).1 (cond (Int.tmod a.op 6 == 5) (lWake l) (lPut l ⟨a.mail, false, false⟩).1)))
def acts : List HItem → List HAct → List HItem
  | l, [] => l
  | l, a :: r => acts (act l a) r
/-- IDs rise, behind a last one, or from the first on. -/
def rises : List HItem → Bool → Int → Bool
  | [], _, _ => true
  | x :: r, first, last => cond (cond first false (ile x.mail.id last)) false (rises r false x.mail.id)
end N
theorem act_linv {l : List HItem} (h : LInv l) {a : HAct} (hs : smallM a.mail = true) : LInv (N.act l a) := by
  unfold N.act
  cases Int.tmod a.op 6 == 2 with
  | true => exact lend_linv h
  | false =>
    cases Int.tmod a.op 6 == 3 with
    | true => exact back_linv h _
    | false =>
      cases Int.tmod a.op 6 == 4 with
      | true => exact remove_linv h _
      | false =>
        cases Int.tmod a.op 6 == 5 with
        | true => exact wake_linv h
        | false => exact put_linv h hs
theorem split_at {l : List HItem} {k : Nat} (h : k < l.length) : l = l.take k ++ l.getD k item0 :: l.drop (k + 1) := by
  have := List.take_append_drop k l
  rw [getD_drop item0 h] at this
  exact this.symm
theorem cut_has {l : List HItem} (hs : Sorted l) {k : Nat} (hk : k < l.length) {id : Int} (h : N.isId id (l.getD k item0) = true) : (N.cutAt l k).any (N.isId id) = false := by
  have hid : (l.getD k item0).mail.id = id := ieq_of h
  have e := split_at hk
  unfold Sorted at hs
  rw [e] at hs
  have hp := List.pairwise_append.1 hs
  have h1 := hp.2.2
  have h2 := (List.pairwise_cons.1 hp.2.1).1
  rw [Bool.eq_false_iff]
  intro ha
  obtain ⟨x, hx, hxi⟩ := List.any_eq_true.1 ha
  have hxi : x.mail.id = id := ieq_of hxi
  unfold N.cutAt at hx
  rcases List.mem_append.1 hx with hx | hx
  · have := h1 x hx _ List.mem_cons_self
    omega
  · have := h2 x hx
    omega
theorem rises_sorted : ∀ (l : List HItem) (last : Int), Sorted l → (∀ x ∈ l, last < x.mail.id) → N.rises l false last = true
  | [], _, _, _ => rfl
  | x :: r, last, hs, h => by
    have hp := List.pairwise_cons.1 hs
    unfold N.rises
    rw [ile_f (h x List.mem_cons_self)]
    exact rises_sorted r _ hp.2 hp.1
theorem rises_first {l : List HItem} (hs : Sorted l) (last : Int) : N.rises l true last = true := by
  cases l with
  | nil => rfl
  | cons x r =>
    have hp := List.pairwise_cons.1 hs
    unfold N.rises
    exact rises_sorted r _ hp.2 hp.1
theorem cut_len {l : List HItem} {k : Nat} (h : k < l.length) : (N.cutAt l k).length + 1 = l.length := by
  unfold N.cutAt
  rw [List.length_append, List.length_take, List.length_drop]; omega
/-- Lending, as its law says. -/
theorem lend_says {l : List HItem} : (cond (ilt 0 (N.lReady l)) (N.lReady (N.lLend l).1 != N.lReady l - 1) false = false) ∧ (N.lLend l).1.length = l.length := by
  unfold N.lLend
  rcases ix_spec N.isReady l 0 (Int.le_refl _) with ⟨h1, h2⟩ | ⟨k, h1, hk, h3, _⟩
  · rw [h1, ready_none h2]
    exact ⟨rfl, rfl⟩
  · rw [h1, show ilt (0 + (k : Int)) 0 = false from ilt_f (by omega)]
    have e : (0 + (k : Int)).toNat = k := by omega
    rw [e]
    have hl : (l.getD k item0).lent = false := by
      unfold N.isReady at h3
      cases hx : (l.getD k item0).lent with
      | true => rw [hx] at h3; cases h3
      | false => rfl
    refine ⟨?_, setAt_len _ _ _⟩
    show cond _ (N.lReady (N.setAt N.lendI l k) != N.lReady l - 1) false = false
    rw [ready_set l k hk hl, ine_f rfl]
    cases ilt 0 (N.lReady l) <;> rfl
/-- Removing, as its law says. -/
theorem remove_says {l : List HItem} (hs : Sorted l) (id : Int) : (N.lRemove l id).1.length = l.length ∨ ((N.lRemove l id).1.length + 1 = l.length ∧ (N.lRemove l id).1.any (N.isId id) = false) := by
  unfold N.lRemove
  rcases ix_spec (N.isId id) l 0 (Int.le_refl _) with ⟨h1, _⟩ | ⟨k, h1, hk, h3, _⟩
  · rw [h1]; exact .inl rfl
  · rw [h1, ilt_f (by omega)]
    have e : (0 + (k : Int)).toNat = k := by omega
    rw [e]
    exact .inr ⟨cut_len hk, cut_has hs hk h3⟩
theorem back_len (l : List HItem) (id : Int) : (N.lBack l id).1.length = l.length := by
  unfold N.lBack
  cases ilt (N.ix (N.isId id) l 0) 0 with
  | true => rfl
  | false =>
    simp only [cond_false]
    cases (l.getD (N.ix (N.isId id) l 0).toNat item0).lent with
    | true => exact setAt_len _ _ _
    | false => rfl
theorem wake_len (l : List HItem) : (N.lWake l).length = l.length := List.length_map ..
theorem put_len (l : List HItem) (x : HItem) : l.length ≤ (N.lPut l x).1.length := by
  unfold N.lPut
  cases N.lCheck l x.mail != 0 <;> simp
end Go.Ev

/- The document's lines: finding, lending, giving back, removing, waking: lemmas. -/
namespace Go.Ev
open Go Go.Proofs
set_option maxRecDepth 100000
-- FOLD

def dRFind : Den := den (aCons (vSl cItem) (aOne (vInt .u64))) bNil (oV (vInt .i64)) (fun a _ => Nat.ble a.1.length 1000) fun a _ => (N.ix (N.isId a.2) a.1 0, ())
def dRTurned : Den := den (aCons (vSl cItem) (aCons (vInt .i64) (aOne (vAgg cItem)))) bNil (oV (vSl cItem)) (fun a _ => goodAt a.1 a.2.1) fun a _ => (a.1.set a.2.1.toNat a.2.2, ())
def dRLend : Den := den (aOne (vSl cItem)) bNil (oTup (aCons (vSl cItem) (aCons (vAgg cItem) (aOne vBool)))) (fun l _ => Nat.ble l.length 1000) fun l _ => (N.lLend l, ())
def dRBack : Den := den (aCons (vSl cItem) (aOne (vInt .u64))) bNil (oTup (aCons (vSl cItem) (aOne (vInt .i64)))) (fun a _ => Nat.ble a.1.length 1000) fun a _ => (N.lBack a.1 a.2, ())
def dRRemove : Den := den (aCons (vSl cItem) (aOne (vInt .u64))) bNil (oTup (aCons (vSl cItem) (aCons (vAgg cItem) (aOne (vInt .i64))))) (fun a _ => Nat.ble a.1.length 1000) fun a _ => (N.lRemove a.1 a.2, ())
def dRWake : Den := den (aOne (vSl cItem)) bNil (oV (vSl cItem)) (fun l _ => Nat.ble l.length 1000) fun l _ => (N.lWake l, ())
def dRAdd : Den := den (aCons (vSl cItem) (aOne (vAgg cMail))) bNil (oTup (aCons (vSl cItem) (aOne (vInt .i64)))) (fun a _ => Nat.ble a.1.length 1000) fun a _ => (N.rPut a.1 ⟨a.2, false, false⟩, ())
def schRFind : SSch := { fr := [(1, .int .u64), (7, .slc [.int .u64, .str, .str, .slc [.str, .int .u8, .int .i64, .str], .str, .int .u64, .int .u8, .bool, .bool]), (8, .int .i64), (9, .int .i64)], tab := [] }
def gRFind : List Leaf → (Ex → St → Option R) → Option R
  | [.i id, .r r, .i n, .i i], K => cond (n == r.length) (cond (i == 0) (cond (Nat.ble r.length 1000) (cond (ile 0 (N.ix (N.isId id) (r.map cItem.dec) 0)) (K .ret { fr := [(4, .int .i64 (N.ix (N.isId id) (r.map cItem.dec) 0))], tab := [] }) (K (.exit 0) { fr := [], tab := [] })) none) none) none
  | _, _ => none
noncomputable def eRFind : Env := env Tryz.prog [] [(2, loopF schRFind gRFind)] [(2, [(0, [1, 7, 8, 9]), (1, []), (1000, [4])])]
theorem q_rFind (l : List HItem) (id : Int) : evFn eRFind 105 ((aCons (vSl cItem) (aOne (vInt .u64))).enc (l, id)) ([]) some =
 cond ((↑(List.length (List.map (RCod.enc cItem) l)) : Int) == (↑(List.length (List.map (RCod.enc cItem) l)) : Int)) (cond (Nat.ble (List.length (List.map (RCod.enc cItem) l)) (1000 : Nat)) (cond (ile (0 : Int) (N.ix (N.isId id) (List.map (RCod.dec cItem) (List.map (RCod.enc cItem) l)) (0 : Int))) (some { v := V.int IntKind.i64 (N.ix (N.isId id) (List.map (RCod.dec cItem) (List.map (RCod.enc cItem) l)) (0 : Int)), bx := [] : DRes }) (some { v := V.int IntKind.i64 (-1 : Int), bx := [] : DRes })) (none)) (none) := by kernel_rfl
theorem q_rFindR (id : Int) (r : List (List V)) (n i : Int) (K : Ex → St → Option R) : evRound eRFind 105 2 { fr := [(1, .int .u64 id), (7, .slc [.int .u64, .str, .str, .slc [.str, .int .u8, .int .i64, .str], .str, .int .u64, .int .u8, .bool, .bool] r), (8, .int .i64 n), (9, .int .i64 i)], tab := [] } K =
 cond (ilt i n) (cond (decide ((0 : Int) ≤ i ∧ i < (↑(List.length r) : Int))) (cond (V.toInt (List.getD (List.getD r (Int.toNat i) []) (0 : Nat) V.undef) == id) (K Ex.ret { fr := [((4 : Nat), V.int IntKind.i64 i)], tab := [] : St }) (K Ex.normal { fr := [((1 : Nat), V.int IntKind.u64 id), ((7 : Nat), V.slc [Sh.int IntKind.u64, Sh.str, Sh.str, Sh.slc [Sh.str, Sh.int IntKind.u8, Sh.int IntKind.i64, Sh.str], Sh.str, Sh.int IntKind.u64, Sh.int IntKind.u8, Sh.bool, Sh.bool] r), ((8 : Nat), V.int IntKind.i64 n), ((9 : Nat), V.int IntKind.i64 (IntKind.wrap IntKind.i64 (i + (1 : Int))))], tab := [] : St })) (none)) (K (Ex.exit (0 : Nat)) { fr := [], tab := [] : St }) := by kernel_rfl
theorem ok_rFind : FnOk Tryz.prog 105 dRFind := by
  refine den_okF (env_ok (TOk.nil _)) (E := eRFind) Tryz.func105 [2] (by kernel_rfl) (one1 (rounds_of rfl fun l K q h => ?_)) fun a _ hp => ?_
  · unfold gRFind at h
    split at h
    · rename_i id r n i
      have h1 := (cond_none h).1; replace h := (cond_none h).2; have h2 := (cond_none h).1; replace h := (cond_none h).2; have h3 := (cond_none h).1; replace h := (cond_none h).2
      have e1 := ieq_of h1
      have e2 := ieq_of h2
      subst e1 e2
      have h3 : r.length ≤ 1000 := ble_of h3
      have main := loop_ind (E := eRFind) (f := 105) (id := 2) (σ := Nat) (fun i => { fr := [(1, .int .u64 id), (7, .slc [.int .u64, .str, .str, .slc [.str, .int .u8, .int .i64, .str], .str, .int .u64, .int .u8, .bool, .bool] r), (8, .int .i64 r.length), (9, .int .i64 (i : Int))], tab := [] }) (fun i => i ≤ r.length) (fun i => r.length - i)
        (fun i K => cond (ile 0 (N.ix (N.isId id) ((r.drop i).map cItem.dec) i)) (K .ret { fr := [(4, .int .i64 (N.ix (N.isId id) ((r.drop i).map cItem.dec) i))], tab := [] }) (K (.exit 0) { fr := [], tab := [] })) (fun i hi => ?_) 0 (Nat.zero_le _) K q (by assumption)
      · exact main
      · by_cases hl : i < r.length
        · rw [drop_decI hl, ix_cons]
          have hm : V.toInt (List.getD (List.getD r i []) 0 V.undef) = (cItem.dec (r.getD i [])).mail.id := rfl
          cases hc : N.isId id (cItem.dec (r.getD i [])) with
          | true =>
            have hc' : ((cItem.dec (r.getD i [])).mail.id == id) = true := hc
            refine .inr ⟨.ret, { fr := [(4, .int .i64 (i : Int))], tab := [] }, by simp, fun K => ?_, fun K => ?_⟩
            · rw [q_rFindR]
              simp (disch := omega) only [evs, Int.toNat_natCast, hm, hc']
            · simp only [cond_true]
              rw [ile_t (by omega)]; rfl
          | false =>
            have hc' : ((cItem.dec (r.getD i [])).mail.id == id) = false := hc
            refine .inl ⟨i + 1, hl, by omega, fun K => ?_, fun K => rfl⟩
            rw [q_rFindR]
            simp (disch := omega) only [evs, Int.toNat_natCast, hm, hc']
            rfl
        · refine .inr ⟨.exit 0, { fr := [], tab := [] }, by simp, fun K => ?_, fun K => ?_⟩
          · rw [q_rFindR]
            simp (disch := omega) only [evs]
          · rw [List.drop_eq_nil_of_le (by omega)]; rfl
    · cases h
  · obtain ⟨l, id⟩ := a
    have hp : Nat.ble l.length 1000 = true := hp
    refine (q_rFind l id).trans ?_
    simp only [List.length_map, dec_encs, hp, beq_self_eq_true, cond_true]
    show _ = some (⟨.int .i64 (N.ix (N.isId id) l 0), [], []⟩ : DRes)
    cases hc : ile 0 (N.ix (N.isId id) l 0) with
    | true => rfl
    | false => rw [ix_end hc]; rfl
/-- The rows, one of them another. -/
def N.turnRows (k : Int) (x : List V) : List (List V) → Int → List (List V)
  | [], _ => []
  | r :: rs, i => cond (i == k) x (reRowI r) :: N.turnRows k x rs (i + 1)
theorem turnRows_enc (k : Nat) (x : HItem) : ∀ (l : List HItem) (i : Nat), N.turnRows (((i + k : Nat) : Int)) (cItem.enc x) (l.map cItem.enc) i = (l.set k x).map cItem.enc
  | [], _ => rfl
  | y :: r, i => by
    show cond ((i : Int) == ((i + k : Nat) : Int)) (cItem.enc x) (reRowI (cItem.enc y)) :: N.turnRows (((i + k : Nat) : Int)) (cItem.enc x) (r.map cItem.enc) ((i : Int) + 1) = _
    cases k with
    | zero =>
      have hne : ∀ (l : List HItem) (j : Nat), i < j → N.turnRows (((i + 0 : Nat) : Int)) (cItem.enc x) (l.map cItem.enc) j = l.map cItem.enc := fun l => by
        induction l with
        | nil => intro j _; rfl
        | cons z r ih =>
          intro j hj
          show cond ((j : Int) == ((i + 0 : Nat) : Int)) (cItem.enc x) (reRowI (cItem.enc z)) :: N.turnRows _ _ (r.map cItem.enc) ((j : Int) + 1) = _
          rw [ieq_f (by omega)]
          have := ih (j + 1) (by omega)
          rw [show ((j : Int) + 1) = ((j + 1 : Nat) : Int) from rfl, this]
          rfl
      rw [show ((i : Int) == ((i + 0 : Nat) : Int)) = true from ieq_t (by omega)]
      rw [show ((i : Int) + 1) = ((i + 1 : Nat) : Int) from rfl, hne r (i + 1) (by omega)]
      rfl
    | succ k =>
      rw [ieq_f (show (i : Int) ≠ ((i + (k + 1) : Nat) : Int) by omega)]
      have ih := turnRows_enc k x r (i + 1)
      rw [show i + 1 + k = i + (k + 1) by omega] at ih
      rw [show ((i : Int) + 1) = ((i + 1 : Nat) : Int) from rfl, ih]
      rfl
theorem turnRows_len (k : Int) (x : List V) : ∀ (r : List (List V)) (i : Int), (N.turnRows k x r i).length = r.length
  | [], _ => rfl
  | _ :: rs, i => by
    show (N.turnRows k x rs (i + 1)).length + 1 = rs.length + 1
    rw [turnRows_len k x rs]
def schRTurned : SSch := { fr := [(1, .int .i64), (5, .ptr 10000 0 0), (7, .own 10001), (10, .slc [.int .u64, .str, .str, .slc [.str, .int .u8, .int .i64, .str], .str, .int .u64, .int .u8, .bool, .bool]), (11, .int .i64), (12, .int .i64)], tab := [(10000, .var [.int .u64, .str, .str, .slc [.str, .int .u8, .int .i64, .str], .str, .int .u64, .int .u8, .bool, .bool]), (10001, .sl [.int .u64, .str, .str, .slc [.str, .int .u8, .int .i64, .str], .str, .int .u64, .int .u8, .bool, .bool])] }
def gRTurned : List Leaf → (Ex → St → Option R) → Option R
  | [.i k, .r r, .i n, .i i, .i id, .s s1, .s s2, .r hd, .s s3, .i due, .i hops, .b b1, .b b2, .r a], K => cond (n == r.length) (cond (i == 0) (cond (Nat.beq a.length 0) (cond (Nat.ble r.length 1000)
      (K (.exit 0) { fr := [(7, .own 10000 0)], tab := [(10000, .sl [.int .u64, .str, .str, .slc [.str, .int .u8, .int .i64, .str], .str, .int .u64, .int .u8, .bool, .bool] (N.turnRows k [V.int .u64 id, .str s1, .str s2, .slc [.str, .int .u8, .int .i64, .str] hd, .str s3, .int .u64 due, .int .u8 hops, .bool b1, .bool b2] r 0) 0)] }) none) none) none) none
  | _, _ => none
noncomputable def eRTurned : Env := env Tryz.prog [] [(3, loopF schRTurned gRTurned)] [(3, [(0, [1, 5, 7, 10, 11, 12]), (1, [7]), (1000, [6])])]
theorem q_rTurned (l : List HItem) (k : Int) (x : HItem) : evFn eRTurned 104 ((aCons (vSl cItem) (aCons (vInt .i64) (aOne (vAgg cItem)))).enc (l, k, x)) ([]) some =
 cond ((↑(List.length (List.map (RCod.enc cItem) l)) : Int) == (↑(List.length (List.map (RCod.enc cItem) l)) : Int)) (cond (Nat.ble (List.length (List.map (RCod.enc cItem) l)) (1000 : Nat)) (some { v := V.slc [Sh.int IntKind.u64, Sh.str, Sh.str, Sh.slc [Sh.str, Sh.int IntKind.u8, Sh.int IntKind.i64, Sh.str], Sh.str, Sh.int IntKind.u64, Sh.int IntKind.u8, Sh.bool, Sh.bool] (N.turnRows k [V.int IntKind.u64 (HMail.id (HItem.mail x)), V.str (HMail.shop (HItem.mail x)), V.str (HMail.key (HItem.mail x)), V.slc [Sh.str, Sh.int IntKind.u8, Sh.int IntKind.i64, Sh.str] (List.map (fun p => [V.str (HPair.key p), V.int IntKind.u8 (HPair.kind p), V.int IntKind.i64 (HPair.num p), V.str (HPair.text p)]) (HMail.head (HItem.mail x))), V.str (HMail.body (HItem.mail x)), V.int IntKind.u64 (HMail.due (HItem.mail x)), V.int IntKind.u8 (HMail.hops (HItem.mail x)), V.bool (HItem.lent x), V.bool (HItem.again x)] (List.map (RCod.enc cItem) l) (0 : Int)), bx := [] : DRes }) (none)) (none) := by kernel_rfl
theorem q_rTurnedR (k : Int) (r : List (List V)) (n i : Int) (id : Int) (s1 s2 : Bytes) (hd : List (List V)) (s3 : Bytes) (due hops : Int) (b1 b2 : Bool) (a : List (List V)) (K : Ex → St → Option R) : evRound eRTurned 104 3 { fr := [(1, .int .i64 k), (5, .ptr 10000 0 0 0), (7, .own 10001 0), (10, .slc [.int .u64, .str, .str, .slc [.str, .int .u8, .int .i64, .str], .str, .int .u64, .int .u8, .bool, .bool] r), (11, .int .i64 n), (12, .int .i64 i)], tab := [(10000, .var [.int .u64 id, .str s1, .str s2, .slc [.str, .int .u8, .int .i64, .str] hd, .str s3, .int .u64 due, .int .u8 hops, .bool b1, .bool b2]), (10001, .sl [.int .u64, .str, .str, .slc [.str, .int .u8, .int .i64, .str], .str, .int .u64, .int .u8, .bool, .bool] a 0)] } K =
 cond (ilt i n) (cond (decide ((0 : Int) ≤ i ∧ i < (↑(List.length r) : Int))) (cond (i == k) (cond (decide ((List.length a + (1 : Nat)) * (104 : Nat) ≤ (140737488355328 : Nat))) (K Ex.normal { fr := [((1 : Nat), V.int IntKind.i64 k), ((5 : Nat), V.ptr (10000 : Nat) (0 : Nat) (0 : Nat) (0 : Nat)), ((7 : Nat), V.own (10001 : Nat) (0 : Nat)), ((10 : Nat), V.slc [Sh.int IntKind.u64, Sh.str, Sh.str, Sh.slc [Sh.str, Sh.int IntKind.u8, Sh.int IntKind.i64, Sh.str], Sh.str, Sh.int IntKind.u64, Sh.int IntKind.u8, Sh.bool, Sh.bool] r), ((11 : Nat), V.int IntKind.i64 n), ((12 : Nat), V.int IntKind.i64 (IntKind.wrap IntKind.i64 (i + (1 : Int))))], tab := [((10000 : Nat), Box.var [V.int IntKind.u64 id, V.str s1, V.str s2, V.slc [Sh.str, Sh.int IntKind.u8, Sh.int IntKind.i64, Sh.str] hd, V.str s3, V.int IntKind.u64 due, V.int IntKind.u8 hops, V.bool b1, V.bool b2]), ((10001 : Nat), Box.sl [Sh.int IntKind.u64, Sh.str, Sh.str, Sh.slc [Sh.str, Sh.int IntKind.u8, Sh.int IntKind.i64, Sh.str], Sh.str, Sh.int IntKind.u64, Sh.int IntKind.u8, Sh.bool, Sh.bool] (a ++ [[V.int IntKind.u64 id, V.str s1, V.str s2, V.slc [Sh.str, Sh.int IntKind.u8, Sh.int IntKind.i64, Sh.str] hd, V.str s3, V.int IntKind.u64 due, V.int IntKind.u8 hops, V.bool b1, V.bool b2]]) (0 : Nat))] : St }) (none)) (cond (decide ((List.length a + (1 : Nat)) * (104 : Nat) ≤ (140737488355328 : Nat))) (K Ex.normal { fr := [((1 : Nat), V.int IntKind.i64 k), ((5 : Nat), V.ptr (10000 : Nat) (0 : Nat) (0 : Nat) (0 : Nat)), ((7 : Nat), V.own (10001 : Nat) (0 : Nat)), ((10 : Nat), V.slc [Sh.int IntKind.u64, Sh.str, Sh.str, Sh.slc [Sh.str, Sh.int IntKind.u8, Sh.int IntKind.i64, Sh.str], Sh.str, Sh.int IntKind.u64, Sh.int IntKind.u8, Sh.bool, Sh.bool] r), ((11 : Nat), V.int IntKind.i64 n), ((12 : Nat), V.int IntKind.i64 (IntKind.wrap IntKind.i64 (i + (1 : Int))))], tab := [((10000 : Nat), Box.var [V.int IntKind.u64 id, V.str s1, V.str s2, V.slc [Sh.str, Sh.int IntKind.u8, Sh.int IntKind.i64, Sh.str] hd, V.str s3, V.int IntKind.u64 due, V.int IntKind.u8 hops, V.bool b1, V.bool b2]), ((10001 : Nat), Box.sl [Sh.int IntKind.u64, Sh.str, Sh.str, Sh.slc [Sh.str, Sh.int IntKind.u8, Sh.int IntKind.i64, Sh.str], Sh.str, Sh.int IntKind.u64, Sh.int IntKind.u8, Sh.bool, Sh.bool] (a ++ [[V.int IntKind.u64 (V.toInt (List.getD (List.getD r (Int.toNat i) []) (0 : Nat) V.undef)), V.str (V.toStr (List.getD (List.getD r (Int.toNat i) []) (1 : Nat) V.undef)), V.str (V.toStr (List.getD (List.getD r (Int.toNat i) []) (2 : Nat) V.undef)), V.slc [Sh.str, Sh.int IntKind.u8, Sh.int IntKind.i64, Sh.str] (V.toRows (List.getD (List.getD r (Int.toNat i) []) (3 : Nat) V.undef)), V.str (V.toStr (List.getD (List.getD r (Int.toNat i) []) (4 : Nat) V.undef)), V.int IntKind.u64 (V.toInt (List.getD (List.getD r (Int.toNat i) []) (5 : Nat) V.undef)), V.int IntKind.u8 (V.toInt (List.getD (List.getD r (Int.toNat i) []) (6 : Nat) V.undef)), V.bool (V.toBool (List.getD (List.getD r (Int.toNat i) []) (7 : Nat) V.undef)), V.bool (V.toBool (List.getD (List.getD r (Int.toNat i) []) (8 : Nat) V.undef))]]) (0 : Nat))] : St }) (none))) (none)) (K (Ex.exit (0 : Nat)) { fr := [((7 : Nat), V.own (10000 : Nat) (0 : Nat))], tab := [((10000 : Nat), Box.sl [Sh.int IntKind.u64, Sh.str, Sh.str, Sh.slc [Sh.str, Sh.int IntKind.u8, Sh.int IntKind.i64, Sh.str], Sh.str, Sh.int IntKind.u64, Sh.int IntKind.u8, Sh.bool, Sh.bool] a (0 : Nat))] : St }) := by kernel_rfl
/-- The rows, each woken. -/
def wakeRow (r : List V) : List V := [V.int .u64 (V.toInt (List.getD r 0 .undef)), V.str (V.toStr (List.getD r 1 .undef)), V.str (V.toStr (List.getD r 2 .undef)), V.slc [.str, .int .u8, .int .i64, .str] (V.toRows (List.getD r 3 .undef)), V.str (V.toStr (List.getD r 4 .undef)), V.int .u64 (V.toInt (List.getD r 5 .undef)), V.int .u8 (V.toInt (List.getD r 6 .undef)), V.bool false, V.bool (cond (V.toBool (List.getD r 8 .undef)) true (V.toBool (List.getD r 7 .undef)))]
def N.wakeRows (r : List (List V)) : List (List V) := r.map wakeRow
theorem wakeRows_enc (l : List HItem) : N.wakeRows (l.map cItem.enc) = (N.lWake l).map cItem.enc := by
  unfold N.wakeRows N.lWake
  rw [List.map_map, List.map_map]
  refine List.map_congr_left fun x _ => ?_
  show wakeRow (cItem.enc x) = cItem.enc (N.wakeI x)
  obtain ⟨m, a, b⟩ := x
  cases a <;> cases b <;> rfl
theorem wakeRows_succ {r : List (List V)} {i : Nat} (h : i < r.length) : N.wakeRows (r.take (i + 1)) = N.wakeRows (r.take i) ++ [wakeRow (r.getD i [])] := by
  unfold N.wakeRows
  rw [List.take_add_one, List.getD_eq_getElem?_getD, List.getElem?_eq_getElem h]
  simp only [Option.toList_some, List.map_append, List.map_cons, List.map_nil, Option.getD_some]
def schRWake : SSch := { fr := [(3, .own 10000), (6, .slc [.int .u64, .str, .str, .slc [.str, .int .u8, .int .i64, .str], .str, .int .u64, .int .u8, .bool, .bool]), (7, .int .i64), (8, .int .i64)], tab := [(10000, .sl [.int .u64, .str, .str, .slc [.str, .int .u8, .int .i64, .str], .str, .int .u64, .int .u8, .bool, .bool])] }
def gRWake : List Leaf → (Ex → St → Option R) → Option R
  | [.r r, .i n, .i i, .r a], K => cond (n == r.length) (cond (i == 0) (cond (Nat.beq a.length 0) (cond (Nat.ble r.length 1000)
      (K (.exit 0) { fr := [(3, .own 10000 0)], tab := [(10000, .sl [.int .u64, .str, .str, .slc [.str, .int .u8, .int .i64, .str], .str, .int .u64, .int .u8, .bool, .bool] (N.wakeRows r) 0)] }) none) none) none) none
  | _, _ => none
noncomputable def eRWake : Env := env Tryz.prog [] [(3, loopF schRWake gRWake)] [(3, [(0, [3, 6, 7, 8]), (1, [3]), (1000, [2])])]
theorem q_rWake (l : List HItem) : evFn eRWake 52 ((aOne (vSl cItem)).enc l) ([]) some =
 cond ((↑(List.length (List.map (RCod.enc cItem) l)) : Int) == (↑(List.length (List.map (RCod.enc cItem) l)) : Int)) (cond (Nat.ble (List.length (List.map (RCod.enc cItem) l)) (1000 : Nat)) (some { v := V.slc [Sh.int IntKind.u64, Sh.str, Sh.str, Sh.slc [Sh.str, Sh.int IntKind.u8, Sh.int IntKind.i64, Sh.str], Sh.str, Sh.int IntKind.u64, Sh.int IntKind.u8, Sh.bool, Sh.bool] (N.wakeRows (List.map (RCod.enc cItem) l)), bx := [] : DRes }) (none)) (none) := by kernel_rfl
theorem q_rWakeR (r : List (List V)) (n i : Int) (a : List (List V)) (K : Ex → St → Option R) : evRound eRWake 52 3 { fr := [(3, .own 10000 0), (6, .slc [.int .u64, .str, .str, .slc [.str, .int .u8, .int .i64, .str], .str, .int .u64, .int .u8, .bool, .bool] r), (7, .int .i64 n), (8, .int .i64 i)], tab := [(10000, .sl [.int .u64, .str, .str, .slc [.str, .int .u8, .int .i64, .str], .str, .int .u64, .int .u8, .bool, .bool] a 0)] } K =
 cond (ilt i n) (cond (decide ((0 : Int) ≤ i ∧ i < (↑(List.length r) : Int))) (cond (V.toBool (List.getD (List.getD r (Int.toNat i) []) (8 : Nat) V.undef)) (cond (decide ((List.length a + (1 : Nat)) * (104 : Nat) ≤ (140737488355328 : Nat))) (K Ex.normal { fr := [((3 : Nat), V.own (10000 : Nat) (0 : Nat)), ((6 : Nat), V.slc [Sh.int IntKind.u64, Sh.str, Sh.str, Sh.slc [Sh.str, Sh.int IntKind.u8, Sh.int IntKind.i64, Sh.str], Sh.str, Sh.int IntKind.u64, Sh.int IntKind.u8, Sh.bool, Sh.bool] r), ((7 : Nat), V.int IntKind.i64 n), ((8 : Nat), V.int IntKind.i64 (IntKind.wrap IntKind.i64 (i + (1 : Int))))], tab := [((10000 : Nat), Box.sl [Sh.int IntKind.u64, Sh.str, Sh.str, Sh.slc [Sh.str, Sh.int IntKind.u8, Sh.int IntKind.i64, Sh.str], Sh.str, Sh.int IntKind.u64, Sh.int IntKind.u8, Sh.bool, Sh.bool] (a ++ [[V.int IntKind.u64 (V.toInt (List.getD (List.getD r (Int.toNat i) []) (0 : Nat) V.undef)), V.str (V.toStr (List.getD (List.getD r (Int.toNat i) []) (1 : Nat) V.undef)), V.str (V.toStr (List.getD (List.getD r (Int.toNat i) []) (2 : Nat) V.undef)), V.slc [Sh.str, Sh.int IntKind.u8, Sh.int IntKind.i64, Sh.str] (V.toRows (List.getD (List.getD r (Int.toNat i) []) (3 : Nat) V.undef)), V.str (V.toStr (List.getD (List.getD r (Int.toNat i) []) (4 : Nat) V.undef)), V.int IntKind.u64 (V.toInt (List.getD (List.getD r (Int.toNat i) []) (5 : Nat) V.undef)), V.int IntKind.u8 (V.toInt (List.getD (List.getD r (Int.toNat i) []) (6 : Nat) V.undef)), V.bool false, V.bool true]]) (0 : Nat))] : St }) (none)) (cond (decide ((List.length a + (1 : Nat)) * (104 : Nat) ≤ (140737488355328 : Nat))) (K Ex.normal { fr := [((3 : Nat), V.own (10000 : Nat) (0 : Nat)), ((6 : Nat), V.slc [Sh.int IntKind.u64, Sh.str, Sh.str, Sh.slc [Sh.str, Sh.int IntKind.u8, Sh.int IntKind.i64, Sh.str], Sh.str, Sh.int IntKind.u64, Sh.int IntKind.u8, Sh.bool, Sh.bool] r), ((7 : Nat), V.int IntKind.i64 n), ((8 : Nat), V.int IntKind.i64 (IntKind.wrap IntKind.i64 (i + (1 : Int))))], tab := [((10000 : Nat), Box.sl [Sh.int IntKind.u64, Sh.str, Sh.str, Sh.slc [Sh.str, Sh.int IntKind.u8, Sh.int IntKind.i64, Sh.str], Sh.str, Sh.int IntKind.u64, Sh.int IntKind.u8, Sh.bool, Sh.bool] (a ++ [[V.int IntKind.u64 (V.toInt (List.getD (List.getD r (Int.toNat i) []) (0 : Nat) V.undef)), V.str (V.toStr (List.getD (List.getD r (Int.toNat i) []) (1 : Nat) V.undef)), V.str (V.toStr (List.getD (List.getD r (Int.toNat i) []) (2 : Nat) V.undef)), V.slc [Sh.str, Sh.int IntKind.u8, Sh.int IntKind.i64, Sh.str] (V.toRows (List.getD (List.getD r (Int.toNat i) []) (3 : Nat) V.undef)), V.str (V.toStr (List.getD (List.getD r (Int.toNat i) []) (4 : Nat) V.undef)), V.int IntKind.u64 (V.toInt (List.getD (List.getD r (Int.toNat i) []) (5 : Nat) V.undef)), V.int IntKind.u8 (V.toInt (List.getD (List.getD r (Int.toNat i) []) (6 : Nat) V.undef)), V.bool false, V.bool (V.toBool (List.getD (List.getD r (Int.toNat i) []) (7 : Nat) V.undef))]]) (0 : Nat))] : St }) (none))) (none)) (K (Ex.exit (0 : Nat)) { fr := [((3 : Nat), V.own (10000 : Nat) (0 : Nat))], tab := [((10000 : Nat), Box.sl [Sh.int IntKind.u64, Sh.str, Sh.str, Sh.slc [Sh.str, Sh.int IntKind.u8, Sh.int IntKind.i64, Sh.str], Sh.str, Sh.int IntKind.u64, Sh.int IntKind.u8, Sh.bool, Sh.bool] a (0 : Nat))] : St }) := by kernel_rfl
noncomputable def eRAdd : Env := env Tryz.prog [(61, dRPut)] [] []
theorem q_rAdd (l : List HItem) (m : HMail) : evFn eRAdd 53 ((aCons (vSl cItem) (aOne (vAgg cMail))).enc (l, m)) ([]) some =
 cond (Nat.ble (List.length (List.map (RCod.dec cItem) (List.map (RCod.enc cItem) l))) (1000 : Nat)) (some { v := V.tup [V.slc [Sh.int IntKind.u64, Sh.str, Sh.str, Sh.slc [Sh.str, Sh.int IntKind.u8, Sh.int IntKind.i64, Sh.str], Sh.str, Sh.int IntKind.u64, Sh.int IntKind.u8, Sh.bool, Sh.bool] (List.map (RCod.enc cItem) (Prod.fst (N.rPut (List.map (RCod.dec cItem) (List.map (RCod.enc cItem) l)) { mail := { id := HMail.id m, shop := HMail.shop m, key := HMail.key m, head := List.map (fun r => { key := V.toStr (List.getD r (0 : Nat) V.undef), kind := V.toInt (List.getD r (1 : Nat) V.undef), num := V.toInt (List.getD r (2 : Nat) V.undef), text := V.toStr (List.getD r (3 : Nat) V.undef) : HPair }) (List.map (fun p => [V.str (HPair.key p), V.int IntKind.u8 (HPair.kind p), V.int IntKind.i64 (HPair.num p), V.str (HPair.text p)]) (HMail.head m)), body := HMail.body m, due := HMail.due m, hops := HMail.hops m : HMail }, lent := false, again := false : HItem }))), V.int IntKind.i64 (Prod.snd (N.rPut (List.map (RCod.dec cItem) (List.map (RCod.enc cItem) l)) { mail := { id := HMail.id m, shop := HMail.shop m, key := HMail.key m, head := List.map (fun r => { key := V.toStr (List.getD r (0 : Nat) V.undef), kind := V.toInt (List.getD r (1 : Nat) V.undef), num := V.toInt (List.getD r (2 : Nat) V.undef), text := V.toStr (List.getD r (3 : Nat) V.undef) : HPair }) (List.map (fun p => [V.str (HPair.key p), V.int IntKind.u8 (HPair.kind p), V.int IntKind.i64 (HPair.num p), V.str (HPair.text p)]) (HMail.head m)), body := HMail.body m, due := HMail.due m, hops := HMail.hops m : HMail }, lent := false, again := false : HItem }))], bx := [] : DRes }) (none) := by kernel_rfl
noncomputable def eRBack : Env := env Tryz.prog [(105, dRFind), (104, dRTurned)] [] []
theorem q_rBack (l : List HItem) (id : Int) : evFn eRBack 49 ((aCons (vSl cItem) (aOne (vInt .u64))).enc (l, id)) ([]) some =
 cond (Nat.ble (List.length (List.map (RCod.dec cItem) (List.map (RCod.enc cItem) l))) (1000 : Nat)) (cond (ilt (N.ix (N.isId id) (List.map (RCod.dec cItem) (List.map (RCod.enc cItem) l)) (0 : Int)) (0 : Int)) (some { v := V.tup [V.slc [Sh.int IntKind.u64, Sh.str, Sh.str, Sh.slc [Sh.str, Sh.int IntKind.u8, Sh.int IntKind.i64, Sh.str], Sh.str, Sh.int IntKind.u64, Sh.int IntKind.u8, Sh.bool, Sh.bool] (List.map (RCod.enc cItem) l), V.int IntKind.i64 (10 : Int)], bx := [] : DRes }) (cond (decide ((0 : Int) ≤ N.ix (N.isId id) (List.map (RCod.dec cItem) (List.map (RCod.enc cItem) l)) (0 : Int) ∧ N.ix (N.isId id) (List.map (RCod.dec cItem) (List.map (RCod.enc cItem) l)) (0 : Int) < (↑(List.length (List.map (RCod.enc cItem) l)) : Int))) (cond (!V.toBool (List.getD (List.getD (List.map (RCod.enc cItem) l) (Int.toNat (N.ix (N.isId id) (List.map (RCod.dec cItem) (List.map (RCod.enc cItem) l)) (0 : Int))) []) (7 : Nat) V.undef)) (some { v := V.tup [V.slc [Sh.int IntKind.u64, Sh.str, Sh.str, Sh.slc [Sh.str, Sh.int IntKind.u8, Sh.int IntKind.i64, Sh.str], Sh.str, Sh.int IntKind.u64, Sh.int IntKind.u8, Sh.bool, Sh.bool] (List.map (RCod.enc cItem) l), V.int IntKind.i64 (13 : Int)], bx := [] : DRes }) (cond (decide ((0 : Int) ≤ N.ix (N.isId id) (List.map (RCod.dec cItem) (List.map (RCod.enc cItem) l)) (0 : Int) ∧ N.ix (N.isId id) (List.map (RCod.dec cItem) (List.map (RCod.enc cItem) l)) (0 : Int) < (↑(List.length (List.map (RCod.enc cItem) l)) : Int))) (cond (goodAt (List.map (RCod.dec cItem) (List.map (RCod.enc cItem) l)) (N.ix (N.isId id) (List.map (RCod.dec cItem) (List.map (RCod.enc cItem) l)) (0 : Int))) (some { v := V.tup [V.slc [Sh.int IntKind.u64, Sh.str, Sh.str, Sh.slc [Sh.str, Sh.int IntKind.u8, Sh.int IntKind.i64, Sh.str], Sh.str, Sh.int IntKind.u64, Sh.int IntKind.u8, Sh.bool, Sh.bool] (List.map (RCod.enc cItem) (List.set (List.map (RCod.dec cItem) (List.map (RCod.enc cItem) l)) (Int.toNat (N.ix (N.isId id) (List.map (RCod.dec cItem) (List.map (RCod.enc cItem) l)) (0 : Int))) { mail := { id := V.toInt (List.getD (List.getD (List.map (RCod.enc cItem) l) (Int.toNat (N.ix (N.isId id) (List.map (RCod.dec cItem) (List.map (RCod.enc cItem) l)) (0 : Int))) []) (0 : Nat) V.undef), shop := V.toStr (List.getD (List.getD (List.map (RCod.enc cItem) l) (Int.toNat (N.ix (N.isId id) (List.map (RCod.dec cItem) (List.map (RCod.enc cItem) l)) (0 : Int))) []) (1 : Nat) V.undef), key := V.toStr (List.getD (List.getD (List.map (RCod.enc cItem) l) (Int.toNat (N.ix (N.isId id) (List.map (RCod.dec cItem) (List.map (RCod.enc cItem) l)) (0 : Int))) []) (2 : Nat) V.undef), head := List.map (fun r => { key := V.toStr (List.getD r (0 : Nat) V.undef), kind := V.toInt (List.getD r (1 : Nat) V.undef), num := V.toInt (List.getD r (2 : Nat) V.undef), text := V.toStr (List.getD r (3 : Nat) V.undef) : HPair }) (V.toRows (List.getD (List.getD (List.map (RCod.enc cItem) l) (Int.toNat (N.ix (N.isId id) (List.map (RCod.dec cItem) (List.map (RCod.enc cItem) l)) (0 : Int))) []) (3 : Nat) V.undef)), body := V.toStr (List.getD (List.getD (List.map (RCod.enc cItem) l) (Int.toNat (N.ix (N.isId id) (List.map (RCod.dec cItem) (List.map (RCod.enc cItem) l)) (0 : Int))) []) (4 : Nat) V.undef), due := V.toInt (List.getD (List.getD (List.map (RCod.enc cItem) l) (Int.toNat (N.ix (N.isId id) (List.map (RCod.dec cItem) (List.map (RCod.enc cItem) l)) (0 : Int))) []) (5 : Nat) V.undef), hops := V.toInt (List.getD (List.getD (List.map (RCod.enc cItem) l) (Int.toNat (N.ix (N.isId id) (List.map (RCod.dec cItem) (List.map (RCod.enc cItem) l)) (0 : Int))) []) (6 : Nat) V.undef) : HMail }, lent := false, again := true : HItem })), V.int IntKind.i64 (0 : Int)], bx := [] : DRes }) (none)) (none))) (none))) (none) := by kernel_rfl
/-- An item's row, lent. -/
def lendRow (r : List V) : List V := [V.int .u64 (V.toInt (List.getD r 0 .undef)), V.str (V.toStr (List.getD r 1 .undef)), V.str (V.toStr (List.getD r 2 .undef)), V.slc [.str, .int .u8, .int .i64, .str] (V.toRows (List.getD r 3 .undef)), V.str (V.toStr (List.getD r 4 .undef)), V.int .u64 (V.toInt (List.getD r 5 .undef)), V.int .u8 (V.toInt (List.getD r 6 .undef)), V.bool true, V.bool (V.toBool (List.getD r 8 .undef))]
def schRLend : SSch := { fr := [(0, .slc [.int .u64, .str, .str, .slc [.str, .int .u8, .int .i64, .str], .str, .int .u64, .int .u8, .bool, .bool]), (3, .ptr 10000 0 0), (7, .slc [.int .u64, .str, .str, .slc [.str, .int .u8, .int .i64, .str], .str, .int .u64, .int .u8, .bool, .bool]), (8, .int .i64), (9, .int .i64)], tab := [(10000, .var [.int .u64, .str, .str, .slc [.str, .int .u8, .int .i64, .str], .str, .int .u64, .int .u8, .bool, .bool])] }
def gRLend : List Leaf → (Ex → St → Option R) → Option R
  | [.r l0, .r r, .i n, .i i, .i id, .s s1, .s s2, .r hd, .s s3, .i due, .i hops, .b b1, .b b2], K => cond (n == r.length) (cond (i == 0) (cond (Nat.beq l0.length r.length) (cond (Nat.ble r.length 1000)
      (cond (ile 0 (N.ix N.isReady (r.map cItem.dec) 0)) (K .ret { fr := [(2, .slc [.int .u64, .str, .str, .slc [.str, .int .u8, .int .i64, .str], .str, .int .u64, .int .u8, .bool, .bool] (((l0.map cItem.dec).set (N.ix N.isReady (r.map cItem.dec) 0).toNat (N.lendI (cItem.dec (r.getD (N.ix N.isReady (r.map cItem.dec) 0).toNat [])))).map cItem.enc)), (3, .ptr 10000 0 0 0), (4, .bool true)], tab := [(10000, .var (Go.Ev.lendRow (r.getD (N.ix N.isReady (r.map cItem.dec) 0).toNat [])))] })
        (K (.exit 0) { fr := [(0, .slc [.int .u64, .str, .str, .slc [.str, .int .u8, .int .i64, .str], .str, .int .u64, .int .u8, .bool, .bool] l0), (3, .ptr 10000 0 0 0)], tab := [(10000, .var [.int .u64 id, .str s1, .str s2, .slc [.str, .int .u8, .int .i64, .str] hd, .str s3, .int .u64 due, .int .u8 hops, .bool b1, .bool b2])] })) none) none) none) none
  | _, _ => none
noncomputable def eRLend : Env := { env Tryz.prog [(104, dRTurned)] [(2, loopF schRLend gRLend)] [(2, [(0, [0, 3, 7, 8, 9]), (1, [0, 3]), (1000, [2, 3, 4])])] with fz := true }
theorem q_rLend (l : List HItem) : evFn eRLend 47 ((aOne (vSl cItem)).enc l) ([]) some =
 cond ((↑(List.length (List.map (RCod.enc cItem) l)) : Int) == (↑(List.length (List.map (RCod.enc cItem) l)) : Int)) (cond (Nat.beq (List.length (List.map (RCod.enc cItem) l)) (List.length (List.map (RCod.enc cItem) l))) (cond (Nat.ble (List.length (List.map (RCod.enc cItem) l)) (1000 : Nat)) (cond (ile (0 : Int) (N.ix N.isReady (List.map (RCod.dec cItem) (List.map (RCod.enc cItem) l)) (0 : Int))) (some { v := V.tup [V.slc [Sh.int IntKind.u64, Sh.str, Sh.str, Sh.slc [Sh.str, Sh.int IntKind.u8, Sh.int IntKind.i64, Sh.str], Sh.str, Sh.int IntKind.u64, Sh.int IntKind.u8, Sh.bool, Sh.bool] (List.map (RCod.enc cItem) (List.set (List.map (RCod.dec cItem) (List.map (RCod.enc cItem) l)) (Int.toNat (N.ix N.isReady (List.map (RCod.dec cItem) (List.map (RCod.enc cItem) l)) (0 : Int))) (N.lendI { mail := { id := V.toInt (List.getD (List.getD (List.map (RCod.enc cItem) l) (Int.toNat (N.ix N.isReady (List.map (RCod.dec cItem) (List.map (RCod.enc cItem) l)) (0 : Int))) []) (0 : Nat) V.undef), shop := V.toStr (List.getD (List.getD (List.map (RCod.enc cItem) l) (Int.toNat (N.ix N.isReady (List.map (RCod.dec cItem) (List.map (RCod.enc cItem) l)) (0 : Int))) []) (1 : Nat) V.undef), key := V.toStr (List.getD (List.getD (List.map (RCod.enc cItem) l) (Int.toNat (N.ix N.isReady (List.map (RCod.dec cItem) (List.map (RCod.enc cItem) l)) (0 : Int))) []) (2 : Nat) V.undef), head := List.map (fun r => { key := V.toStr (List.getD r (0 : Nat) V.undef), kind := V.toInt (List.getD r (1 : Nat) V.undef), num := V.toInt (List.getD r (2 : Nat) V.undef), text := V.toStr (List.getD r (3 : Nat) V.undef) : HPair }) (V.toRows (List.getD (List.getD (List.map (RCod.enc cItem) l) (Int.toNat (N.ix N.isReady (List.map (RCod.dec cItem) (List.map (RCod.enc cItem) l)) (0 : Int))) []) (3 : Nat) V.undef)), body := V.toStr (List.getD (List.getD (List.map (RCod.enc cItem) l) (Int.toNat (N.ix N.isReady (List.map (RCod.dec cItem) (List.map (RCod.enc cItem) l)) (0 : Int))) []) (4 : Nat) V.undef), due := V.toInt (List.getD (List.getD (List.map (RCod.enc cItem) l) (Int.toNat (N.ix N.isReady (List.map (RCod.dec cItem) (List.map (RCod.enc cItem) l)) (0 : Int))) []) (5 : Nat) V.undef), hops := V.toInt (List.getD (List.getD (List.map (RCod.enc cItem) l) (Int.toNat (N.ix N.isReady (List.map (RCod.dec cItem) (List.map (RCod.enc cItem) l)) (0 : Int))) []) (6 : Nat) V.undef) : HMail }, lent := V.toBool (List.getD (List.getD (List.map (RCod.enc cItem) l) (Int.toNat (N.ix N.isReady (List.map (RCod.dec cItem) (List.map (RCod.enc cItem) l)) (0 : Int))) []) (7 : Nat) V.undef), again := V.toBool (List.getD (List.getD (List.map (RCod.enc cItem) l) (Int.toNat (N.ix N.isReady (List.map (RCod.dec cItem) (List.map (RCod.enc cItem) l)) (0 : Int))) []) (8 : Nat) V.undef) : HItem }))), V.agg [V.int IntKind.u64 (V.toInt (List.getD (List.getD (List.map (RCod.enc cItem) l) (Int.toNat (N.ix N.isReady (List.map (RCod.dec cItem) (List.map (RCod.enc cItem) l)) (0 : Int))) []) (0 : Nat) V.undef)), V.str (V.toStr (List.getD (List.getD (List.map (RCod.enc cItem) l) (Int.toNat (N.ix N.isReady (List.map (RCod.dec cItem) (List.map (RCod.enc cItem) l)) (0 : Int))) []) (1 : Nat) V.undef)), V.str (V.toStr (List.getD (List.getD (List.map (RCod.enc cItem) l) (Int.toNat (N.ix N.isReady (List.map (RCod.dec cItem) (List.map (RCod.enc cItem) l)) (0 : Int))) []) (2 : Nat) V.undef)), V.slc [Sh.str, Sh.int IntKind.u8, Sh.int IntKind.i64, Sh.str] (V.toRows (List.getD (List.getD (List.map (RCod.enc cItem) l) (Int.toNat (N.ix N.isReady (List.map (RCod.dec cItem) (List.map (RCod.enc cItem) l)) (0 : Int))) []) (3 : Nat) V.undef)), V.str (V.toStr (List.getD (List.getD (List.map (RCod.enc cItem) l) (Int.toNat (N.ix N.isReady (List.map (RCod.dec cItem) (List.map (RCod.enc cItem) l)) (0 : Int))) []) (4 : Nat) V.undef)), V.int IntKind.u64 (V.toInt (List.getD (List.getD (List.map (RCod.enc cItem) l) (Int.toNat (N.ix N.isReady (List.map (RCod.dec cItem) (List.map (RCod.enc cItem) l)) (0 : Int))) []) (5 : Nat) V.undef)), V.int IntKind.u8 (V.toInt (List.getD (List.getD (List.map (RCod.enc cItem) l) (Int.toNat (N.ix N.isReady (List.map (RCod.dec cItem) (List.map (RCod.enc cItem) l)) (0 : Int))) []) (6 : Nat) V.undef)), V.bool true, V.bool (V.toBool (List.getD (List.getD (List.map (RCod.enc cItem) l) (Int.toNat (N.ix N.isReady (List.map (RCod.dec cItem) (List.map (RCod.enc cItem) l)) (0 : Int))) []) (8 : Nat) V.undef))], V.bool true], bx := [] : DRes }) (some { v := V.tup [V.slc [Sh.int IntKind.u64, Sh.str, Sh.str, Sh.slc [Sh.str, Sh.int IntKind.u8, Sh.int IntKind.i64, Sh.str], Sh.str, Sh.int IntKind.u64, Sh.int IntKind.u8, Sh.bool, Sh.bool] (List.map (RCod.enc cItem) l), V.agg [V.int IntKind.u64 (0 : Int), V.str [], V.str [], V.slc [Sh.str, Sh.int IntKind.u8, Sh.int IntKind.i64, Sh.str] [], V.str [], V.int IntKind.u64 (0 : Int), V.int IntKind.u8 (0 : Int), V.bool false, V.bool false], V.bool false], bx := [] : DRes })) (none)) (none)) (none) := by kernel_rfl
theorem q_rLendR (l0 r : List (List V)) (n i : Int) (id : Int) (s1 s2 : Bytes) (hd : List (List V)) (s3 : Bytes) (due hops : Int) (b1 b2 : Bool) (K : Ex → St → Option R) : evRound eRLend 47 2 { fr := [(0, .slc [.int .u64, .str, .str, .slc [.str, .int .u8, .int .i64, .str], .str, .int .u64, .int .u8, .bool, .bool] l0), (3, .ptr 10000 0 0 0), (7, .slc [.int .u64, .str, .str, .slc [.str, .int .u8, .int .i64, .str], .str, .int .u64, .int .u8, .bool, .bool] r), (8, .int .i64 n), (9, .int .i64 i)], tab := [(10000, .var [.int .u64 id, .str s1, .str s2, .slc [.str, .int .u8, .int .i64, .str] hd, .str s3, .int .u64 due, .int .u8 hops, .bool b1, .bool b2])] } K =
 cond (ilt i n) (cond (decide ((0 : Int) ≤ i ∧ i < (↑(List.length r) : Int))) (cond (!V.toBool (List.getD (List.getD r (Int.toNat i) []) (7 : Nat) V.undef)) (cond (goodAt (List.map (RCod.dec cItem) l0) i) (K Ex.ret { fr := [((2 : Nat), V.slc [Sh.int IntKind.u64, Sh.str, Sh.str, Sh.slc [Sh.str, Sh.int IntKind.u8, Sh.int IntKind.i64, Sh.str], Sh.str, Sh.int IntKind.u64, Sh.int IntKind.u8, Sh.bool, Sh.bool] (List.map (RCod.enc cItem) (List.set (List.map (RCod.dec cItem) l0) (Int.toNat i) { mail := { id := V.toInt (List.getD (List.getD r (Int.toNat i) []) (0 : Nat) V.undef), shop := V.toStr (List.getD (List.getD r (Int.toNat i) []) (1 : Nat) V.undef), key := V.toStr (List.getD (List.getD r (Int.toNat i) []) (2 : Nat) V.undef), head := List.map (fun r => { key := V.toStr (List.getD r (0 : Nat) V.undef), kind := V.toInt (List.getD r (1 : Nat) V.undef), num := V.toInt (List.getD r (2 : Nat) V.undef), text := V.toStr (List.getD r (3 : Nat) V.undef) : HPair }) (V.toRows (List.getD (List.getD r (Int.toNat i) []) (3 : Nat) V.undef)), body := V.toStr (List.getD (List.getD r (Int.toNat i) []) (4 : Nat) V.undef), due := V.toInt (List.getD (List.getD r (Int.toNat i) []) (5 : Nat) V.undef), hops := V.toInt (List.getD (List.getD r (Int.toNat i) []) (6 : Nat) V.undef) : HMail }, lent := true, again := V.toBool (List.getD (List.getD r (Int.toNat i) []) (8 : Nat) V.undef) : HItem }))), ((3 : Nat), V.ptr (10000 : Nat) (0 : Nat) (0 : Nat) (0 : Nat)), ((4 : Nat), V.bool true)], tab := [((10000 : Nat), Box.var [V.int IntKind.u64 (V.toInt (List.getD (List.getD r (Int.toNat i) []) (0 : Nat) V.undef)), V.str (V.toStr (List.getD (List.getD r (Int.toNat i) []) (1 : Nat) V.undef)), V.str (V.toStr (List.getD (List.getD r (Int.toNat i) []) (2 : Nat) V.undef)), V.slc [Sh.str, Sh.int IntKind.u8, Sh.int IntKind.i64, Sh.str] (V.toRows (List.getD (List.getD r (Int.toNat i) []) (3 : Nat) V.undef)), V.str (V.toStr (List.getD (List.getD r (Int.toNat i) []) (4 : Nat) V.undef)), V.int IntKind.u64 (V.toInt (List.getD (List.getD r (Int.toNat i) []) (5 : Nat) V.undef)), V.int IntKind.u8 (V.toInt (List.getD (List.getD r (Int.toNat i) []) (6 : Nat) V.undef)), V.bool true, V.bool (V.toBool (List.getD (List.getD r (Int.toNat i) []) (8 : Nat) V.undef))])] : St }) (none)) (K Ex.normal { fr := [((0 : Nat), V.slc [Sh.int IntKind.u64, Sh.str, Sh.str, Sh.slc [Sh.str, Sh.int IntKind.u8, Sh.int IntKind.i64, Sh.str], Sh.str, Sh.int IntKind.u64, Sh.int IntKind.u8, Sh.bool, Sh.bool] l0), ((3 : Nat), V.ptr (10000 : Nat) (0 : Nat) (0 : Nat) (0 : Nat)), ((7 : Nat), V.slc [Sh.int IntKind.u64, Sh.str, Sh.str, Sh.slc [Sh.str, Sh.int IntKind.u8, Sh.int IntKind.i64, Sh.str], Sh.str, Sh.int IntKind.u64, Sh.int IntKind.u8, Sh.bool, Sh.bool] r), ((8 : Nat), V.int IntKind.i64 n), ((9 : Nat), V.int IntKind.i64 (IntKind.wrap IntKind.i64 (i + (1 : Int))))], tab := [((10000 : Nat), Box.var [V.int IntKind.u64 id, V.str s1, V.str s2, V.slc [Sh.str, Sh.int IntKind.u8, Sh.int IntKind.i64, Sh.str] hd, V.str s3, V.int IntKind.u64 due, V.int IntKind.u8 hops, V.bool b1, V.bool b2])] : St })) (none)) (K (Ex.exit (0 : Nat)) { fr := [((0 : Nat), V.slc [Sh.int IntKind.u64, Sh.str, Sh.str, Sh.slc [Sh.str, Sh.int IntKind.u8, Sh.int IntKind.i64, Sh.str], Sh.str, Sh.int IntKind.u64, Sh.int IntKind.u8, Sh.bool, Sh.bool] l0), ((3 : Nat), V.ptr (10000 : Nat) (0 : Nat) (0 : Nat) (0 : Nat))], tab := [((10000 : Nat), Box.var [V.int IntKind.u64 id, V.str s1, V.str s2, V.slc [Sh.str, Sh.int IntKind.u8, Sh.int IntKind.i64, Sh.str] hd, V.str s3, V.int IntKind.u64 due, V.int IntKind.u8 hops, V.bool b1, V.bool b2])] : St }) := by kernel_rfl
/-- The rows, one of them left out. -/
def N.cutRows (k : Int) : List (List V) → Int → List (List V)
  | [], _ => []
  | r :: rs, i => cond (i == k) (N.cutRows k rs (i + 1)) (reRowI r :: N.cutRows k rs (i + 1))
def schRRemove : SSch := { fr := [(0, .slc [.int .u64, .str, .str, .slc [.str, .int .u8, .int .i64, .str], .str, .int .u64, .int .u8, .bool, .bool]), (5, .ptr 10000 0 0), (7, .int .i64), (8, .own 10001), (18, .slc [.int .u64, .str, .str, .slc [.str, .int .u8, .int .i64, .str], .str, .int .u64, .int .u8, .bool, .bool]), (19, .int .i64), (20, .int .i64)], tab := [(10000, .var [.int .u64, .str, .str, .slc [.str, .int .u8, .int .i64, .str], .str, .int .u64, .int .u8, .bool, .bool]), (10001, .sl [.int .u64, .str, .str, .slc [.str, .int .u8, .int .i64, .str], .str, .int .u64, .int .u8, .bool, .bool])] }
def gRRemove : List Leaf → (Ex → St → Option R) → Option R
  | [.r l0, .i k, .r r, .i n, .i i, .i id, .s s1, .s s2, .r hd, .s s3, .i due, .i hops, .b b1, .b b2, .r a], K => cond (n == r.length) (cond (i == 0) (cond (Nat.beq a.length 0) (cond (Nat.ble r.length 1000)
      (K (.exit 0) { fr := [(0, .slc [.int .u64, .str, .str, .slc [.str, .int .u8, .int .i64, .str], .str, .int .u64, .int .u8, .bool, .bool] l0), (5, .ptr 10000 0 0 0), (7, .int .i64 k), (8, .own 10001 0)], tab := [(10000, .var [.int .u64 id, .str s1, .str s2, .slc [.str, .int .u8, .int .i64, .str] hd, .str s3, .int .u64 due, .int .u8 hops, .bool b1, .bool b2]), (10001, .sl [.int .u64, .str, .str, .slc [.str, .int .u8, .int .i64, .str], .str, .int .u64, .int .u8, .bool, .bool] (N.cutRows k r 0) 0)] }) none) none) none) none
  | _, _ => none
noncomputable def eRRemove : Env := { env Tryz.prog [(105, dRFind)] [(6, loopF schRRemove gRRemove)] [(6, [(0, [0, 5, 7, 8, 18, 19, 20]), (1, [0, 5, 7, 8]), (1000, [4, 5, 6])])] with fz := true }
theorem q_rRemove (l : List HItem) (id : Int) : evFn eRRemove 51 ((aCons (vSl cItem) (aOne (vInt .u64))).enc (l, id)) ([]) some =
 cond (Nat.ble (List.length (List.map (RCod.dec cItem) (List.map (RCod.enc cItem) l))) (1000 : Nat)) (cond (ilt (N.ix (N.isId id) (List.map (RCod.dec cItem) (List.map (RCod.enc cItem) l)) (0 : Int)) (0 : Int)) (some { v := V.tup [V.slc [Sh.int IntKind.u64, Sh.str, Sh.str, Sh.slc [Sh.str, Sh.int IntKind.u8, Sh.int IntKind.i64, Sh.str], Sh.str, Sh.int IntKind.u64, Sh.int IntKind.u8, Sh.bool, Sh.bool] (List.map (RCod.enc cItem) l), V.agg [V.int IntKind.u64 (0 : Int), V.str [], V.str [], V.slc [Sh.str, Sh.int IntKind.u8, Sh.int IntKind.i64, Sh.str] [], V.str [], V.int IntKind.u64 (0 : Int), V.int IntKind.u8 (0 : Int), V.bool false, V.bool false], V.int IntKind.i64 (10 : Int)], bx := [] : DRes }) (cond ((↑(List.length (List.map (RCod.enc cItem) l)) : Int) == (↑(List.length (List.map (RCod.enc cItem) l)) : Int)) (cond (Nat.ble (List.length (List.map (RCod.enc cItem) l)) (1000 : Nat)) (cond (decide ((0 : Int) ≤ N.ix (N.isId id) (List.map (RCod.dec cItem) (List.map (RCod.enc cItem) l)) (0 : Int) ∧ N.ix (N.isId id) (List.map (RCod.dec cItem) (List.map (RCod.enc cItem) l)) (0 : Int) < (↑(List.length (List.map (RCod.enc cItem) l)) : Int))) (some { v := V.tup [V.slc [Sh.int IntKind.u64, Sh.str, Sh.str, Sh.slc [Sh.str, Sh.int IntKind.u8, Sh.int IntKind.i64, Sh.str], Sh.str, Sh.int IntKind.u64, Sh.int IntKind.u8, Sh.bool, Sh.bool] (N.cutRows (N.ix (N.isId id) (List.map (RCod.dec cItem) (List.map (RCod.enc cItem) l)) (0 : Int)) (List.map (RCod.enc cItem) l) (0 : Int)), V.agg [V.int IntKind.u64 (V.toInt (List.getD (List.getD (List.map (RCod.enc cItem) l) (Int.toNat (N.ix (N.isId id) (List.map (RCod.dec cItem) (List.map (RCod.enc cItem) l)) (0 : Int))) []) (0 : Nat) V.undef)), V.str (V.toStr (List.getD (List.getD (List.map (RCod.enc cItem) l) (Int.toNat (N.ix (N.isId id) (List.map (RCod.dec cItem) (List.map (RCod.enc cItem) l)) (0 : Int))) []) (1 : Nat) V.undef)), V.str (V.toStr (List.getD (List.getD (List.map (RCod.enc cItem) l) (Int.toNat (N.ix (N.isId id) (List.map (RCod.dec cItem) (List.map (RCod.enc cItem) l)) (0 : Int))) []) (2 : Nat) V.undef)), V.slc [Sh.str, Sh.int IntKind.u8, Sh.int IntKind.i64, Sh.str] (V.toRows (List.getD (List.getD (List.map (RCod.enc cItem) l) (Int.toNat (N.ix (N.isId id) (List.map (RCod.dec cItem) (List.map (RCod.enc cItem) l)) (0 : Int))) []) (3 : Nat) V.undef)), V.str (V.toStr (List.getD (List.getD (List.map (RCod.enc cItem) l) (Int.toNat (N.ix (N.isId id) (List.map (RCod.dec cItem) (List.map (RCod.enc cItem) l)) (0 : Int))) []) (4 : Nat) V.undef)), V.int IntKind.u64 (V.toInt (List.getD (List.getD (List.map (RCod.enc cItem) l) (Int.toNat (N.ix (N.isId id) (List.map (RCod.dec cItem) (List.map (RCod.enc cItem) l)) (0 : Int))) []) (5 : Nat) V.undef)), V.int IntKind.u8 (V.toInt (List.getD (List.getD (List.map (RCod.enc cItem) l) (Int.toNat (N.ix (N.isId id) (List.map (RCod.dec cItem) (List.map (RCod.enc cItem) l)) (0 : Int))) []) (6 : Nat) V.undef)), V.bool (V.toBool (List.getD (List.getD (List.map (RCod.enc cItem) l) (Int.toNat (N.ix (N.isId id) (List.map (RCod.dec cItem) (List.map (RCod.enc cItem) l)) (0 : Int))) []) (7 : Nat) V.undef)), V.bool (V.toBool (List.getD (List.getD (List.map (RCod.enc cItem) l) (Int.toNat (N.ix (N.isId id) (List.map (RCod.dec cItem) (List.map (RCod.enc cItem) l)) (0 : Int))) []) (8 : Nat) V.undef))], V.int IntKind.i64 (0 : Int)], bx := [] : DRes }) (none)) (none)) (none))) (none) := by kernel_rfl
theorem q_rRemoveR (l0 : List (List V)) (k : Int) (r : List (List V)) (n i : Int) (id : Int) (s1 s2 : Bytes) (hd : List (List V)) (s3 : Bytes) (due hops : Int) (b1 b2 : Bool) (a : List (List V)) (K : Ex → St → Option R) : evRound eRRemove 51 6 { fr := [(0, .slc [.int .u64, .str, .str, .slc [.str, .int .u8, .int .i64, .str], .str, .int .u64, .int .u8, .bool, .bool] l0), (5, .ptr 10000 0 0 0), (7, .int .i64 k), (8, .own 10001 0), (18, .slc [.int .u64, .str, .str, .slc [.str, .int .u8, .int .i64, .str], .str, .int .u64, .int .u8, .bool, .bool] r), (19, .int .i64 n), (20, .int .i64 i)], tab := [(10000, .var [.int .u64 id, .str s1, .str s2, .slc [.str, .int .u8, .int .i64, .str] hd, .str s3, .int .u64 due, .int .u8 hops, .bool b1, .bool b2]), (10001, .sl [.int .u64, .str, .str, .slc [.str, .int .u8, .int .i64, .str], .str, .int .u64, .int .u8, .bool, .bool] a 0)] } K =
 cond (ilt i n) (cond (decide ((0 : Int) ≤ i ∧ i < (↑(List.length r) : Int))) (cond (i != k) (cond (decide ((List.length a + (1 : Nat)) * (104 : Nat) ≤ (140737488355328 : Nat))) (K Ex.normal { fr := [((0 : Nat), V.slc [Sh.int IntKind.u64, Sh.str, Sh.str, Sh.slc [Sh.str, Sh.int IntKind.u8, Sh.int IntKind.i64, Sh.str], Sh.str, Sh.int IntKind.u64, Sh.int IntKind.u8, Sh.bool, Sh.bool] l0), ((5 : Nat), V.ptr (10000 : Nat) (0 : Nat) (0 : Nat) (0 : Nat)), ((7 : Nat), V.int IntKind.i64 k), ((8 : Nat), V.own (10001 : Nat) (0 : Nat)), ((18 : Nat), V.slc [Sh.int IntKind.u64, Sh.str, Sh.str, Sh.slc [Sh.str, Sh.int IntKind.u8, Sh.int IntKind.i64, Sh.str], Sh.str, Sh.int IntKind.u64, Sh.int IntKind.u8, Sh.bool, Sh.bool] r), ((19 : Nat), V.int IntKind.i64 n), ((20 : Nat), V.int IntKind.i64 (IntKind.wrap IntKind.i64 (i + (1 : Int))))], tab := [((10000 : Nat), Box.var [V.int IntKind.u64 id, V.str s1, V.str s2, V.slc [Sh.str, Sh.int IntKind.u8, Sh.int IntKind.i64, Sh.str] hd, V.str s3, V.int IntKind.u64 due, V.int IntKind.u8 hops, V.bool b1, V.bool b2]), ((10001 : Nat), Box.sl [Sh.int IntKind.u64, Sh.str, Sh.str, Sh.slc [Sh.str, Sh.int IntKind.u8, Sh.int IntKind.i64, Sh.str], Sh.str, Sh.int IntKind.u64, Sh.int IntKind.u8, Sh.bool, Sh.bool] (a ++ [[V.int IntKind.u64 (V.toInt (List.getD (List.getD r (Int.toNat i) []) (0 : Nat) V.undef)), V.str (V.toStr (List.getD (List.getD r (Int.toNat i) []) (1 : Nat) V.undef)), V.str (V.toStr (List.getD (List.getD r (Int.toNat i) []) (2 : Nat) V.undef)), V.slc [Sh.str, Sh.int IntKind.u8, Sh.int IntKind.i64, Sh.str] (V.toRows (List.getD (List.getD r (Int.toNat i) []) (3 : Nat) V.undef)), V.str (V.toStr (List.getD (List.getD r (Int.toNat i) []) (4 : Nat) V.undef)), V.int IntKind.u64 (V.toInt (List.getD (List.getD r (Int.toNat i) []) (5 : Nat) V.undef)), V.int IntKind.u8 (V.toInt (List.getD (List.getD r (Int.toNat i) []) (6 : Nat) V.undef)), V.bool (V.toBool (List.getD (List.getD r (Int.toNat i) []) (7 : Nat) V.undef)), V.bool (V.toBool (List.getD (List.getD r (Int.toNat i) []) (8 : Nat) V.undef))]]) (0 : Nat))] : St }) (none)) (K Ex.normal { fr := [((0 : Nat), V.slc [Sh.int IntKind.u64, Sh.str, Sh.str, Sh.slc [Sh.str, Sh.int IntKind.u8, Sh.int IntKind.i64, Sh.str], Sh.str, Sh.int IntKind.u64, Sh.int IntKind.u8, Sh.bool, Sh.bool] l0), ((5 : Nat), V.ptr (10000 : Nat) (0 : Nat) (0 : Nat) (0 : Nat)), ((7 : Nat), V.int IntKind.i64 k), ((8 : Nat), V.own (10001 : Nat) (0 : Nat)), ((18 : Nat), V.slc [Sh.int IntKind.u64, Sh.str, Sh.str, Sh.slc [Sh.str, Sh.int IntKind.u8, Sh.int IntKind.i64, Sh.str], Sh.str, Sh.int IntKind.u64, Sh.int IntKind.u8, Sh.bool, Sh.bool] r), ((19 : Nat), V.int IntKind.i64 n), ((20 : Nat), V.int IntKind.i64 (IntKind.wrap IntKind.i64 (i + (1 : Int))))], tab := [((10000 : Nat), Box.var [V.int IntKind.u64 id, V.str s1, V.str s2, V.slc [Sh.str, Sh.int IntKind.u8, Sh.int IntKind.i64, Sh.str] hd, V.str s3, V.int IntKind.u64 due, V.int IntKind.u8 hops, V.bool b1, V.bool b2]), ((10001 : Nat), Box.sl [Sh.int IntKind.u64, Sh.str, Sh.str, Sh.slc [Sh.str, Sh.int IntKind.u8, Sh.int IntKind.i64, Sh.str], Sh.str, Sh.int IntKind.u64, Sh.int IntKind.u8, Sh.bool, Sh.bool] a (0 : Nat))] : St })) (none)) (K (Ex.exit (0 : Nat)) { fr := [((0 : Nat), V.slc [Sh.int IntKind.u64, Sh.str, Sh.str, Sh.slc [Sh.str, Sh.int IntKind.u8, Sh.int IntKind.i64, Sh.str], Sh.str, Sh.int IntKind.u64, Sh.int IntKind.u8, Sh.bool, Sh.bool] l0), ((5 : Nat), V.ptr (10000 : Nat) (0 : Nat) (0 : Nat) (0 : Nat)), ((7 : Nat), V.int IntKind.i64 k), ((8 : Nat), V.own (10001 : Nat) (0 : Nat))], tab := [((10000 : Nat), Box.var [V.int IntKind.u64 id, V.str s1, V.str s2, V.slc [Sh.str, Sh.int IntKind.u8, Sh.int IntKind.i64, Sh.str] hd, V.str s3, V.int IntKind.u64 due, V.int IntKind.u8 hops, V.bool b1, V.bool b2]), ((10001 : Nat), Box.sl [Sh.int IntKind.u64, Sh.str, Sh.str, Sh.slc [Sh.str, Sh.int IntKind.u8, Sh.int IntKind.i64, Sh.str], Sh.str, Sh.int IntKind.u64, Sh.int IntKind.u8, Sh.bool, Sh.bool] a (0 : Nat))] : St }) := by kernel_rfl
theorem turnRows_app (k : Int) (x : List V) : ∀ (a b : List (List V)) (i : Int), N.turnRows k x (a ++ b) i = N.turnRows k x a i ++ N.turnRows k x b (i + a.length)
  | [], b, i => by
    show N.turnRows k x b i = N.turnRows k x b (i + ((0 : Nat) : Int))
    rw [show i + ((0 : Nat) : Int) = i by omega]
  | r :: a, b, i => by
    show cond (i == k) x (reRowI r) :: N.turnRows k x (a ++ b) (i + 1) = cond (i == k) x (reRowI r) :: (N.turnRows k x a (i + 1) ++ N.turnRows k x b (i + ((a.length + 1 : Nat) : Int)))
    rw [turnRows_app k x a b (i + 1), show i + 1 + (a.length : Int) = i + ((a.length + 1 : Nat) : Int) by omega]
theorem take_succ {r : List (List V)} {i : Nat} (h : i < r.length) : r.take (i + 1) = r.take i ++ [r.getD i []] := by
  rw [List.take_add_one, List.getD_eq_getElem?_getD, List.getElem?_eq_getElem h]; rfl
theorem turnRows_succ (k : Int) (x : List V) {r : List (List V)} {i : Nat} (h : i < r.length) : N.turnRows k x (r.take (i + 1)) 0 = N.turnRows k x (r.take i) 0 ++ [cond ((i : Int) == k) x (reRowI (r.getD i []))] := by
  rw [take_succ h, turnRows_app, List.length_take, show (0 : Int) + ((min i r.length : Nat) : Int) = i by omega]
  rfl
theorem ok_rTurned : FnOk Tryz.prog 104 dRTurned := by
  refine den_okF (env_ok (TOk.nil _)) (E := eRTurned) Tryz.func104 [3] (by kernel_rfl) (one1 (rounds_of rfl fun l K q h => ?_)) fun a _ hp => ?_
  · unfold gRTurned at h
    split at h
    · rename_i k r n i id s1 s2 hd s3 due hops b1 b2 a
      have h1 := (cond_none h).1; replace h := (cond_none h).2; have h2 := (cond_none h).1; replace h := (cond_none h).2; have h3 := (cond_none h).1; replace h := (cond_none h).2; have h4 := (cond_none h).1; replace h := (cond_none h).2
      have e1 := ieq_of h1
      have e2 := ieq_of h2
      have e3 := List.eq_nil_of_length_eq_zero (nbeq_of h3)
      subst e1 e2 e3
      have h4 : r.length ≤ 1000 := ble_of h4
      have main := loop_ind (E := eRTurned) (f := 104) (id := 3) (σ := Nat) (fun i => { fr := [(1, .int .i64 k), (5, .ptr 10000 0 0 0), (7, .own 10001 0), (10, .slc [.int .u64, .str, .str, .slc [.str, .int .u8, .int .i64, .str], .str, .int .u64, .int .u8, .bool, .bool] r), (11, .int .i64 r.length), (12, .int .i64 (i : Int))], tab := [(10000, .var [.int .u64 id, .str s1, .str s2, .slc [.str, .int .u8, .int .i64, .str] hd, .str s3, .int .u64 due, .int .u8 hops, .bool b1, .bool b2]), (10001, .sl [.int .u64, .str, .str, .slc [.str, .int .u8, .int .i64, .str], .str, .int .u64, .int .u8, .bool, .bool] (N.turnRows k [V.int .u64 id, .str s1, .str s2, .slc [.str, .int .u8, .int .i64, .str] hd, .str s3, .int .u64 due, .int .u8 hops, .bool b1, .bool b2] (r.take i) 0) 0)] }) (fun i => i ≤ r.length) (fun i => r.length - i)
        (fun _ K => K (.exit 0) { fr := [(7, .own 10000 0)], tab := [(10000, .sl [.int .u64, .str, .str, .slc [.str, .int .u8, .int .i64, .str], .str, .int .u64, .int .u8, .bool, .bool] (N.turnRows k [V.int .u64 id, .str s1, .str s2, .slc [.str, .int .u8, .int .i64, .str] hd, .str s3, .int .u64 due, .int .u8 hops, .bool b1, .bool b2] r 0) 0)] }) (fun i hi => ?_) 0 (Nat.zero_le _) K q (by assumption)
      · exact main
      · by_cases hl : i < r.length
        · have hln : (N.turnRows k [V.int .u64 id, .str s1, .str s2, .slc [.str, .int .u8, .int .i64, .str] hd, .str s3, .int .u64 due, .int .u8 hops, .bool b1, .bool b2] (r.take i) 0).length = i := by rw [turnRows_len, List.length_take]; omega
          have ht := turnRows_succ k [V.int .u64 id, .str s1, .str s2, .slc [.str, .int .u8, .int .i64, .str] hd, .str s3, .int .u64 due, .int .u8 hops, .bool b1, .bool b2] hl
          refine .inl ⟨i + 1, hl, by omega, fun K => ?_, fun K => rfl⟩
          rw [q_rTurnedR]
          cases hc : (i : Int) == k with
          | true =>
            rw [hc] at ht
            simp (disch := omega) only [evs, Int.toNat_natCast, hc, hln]
            rw [ht]
            rfl
          | false =>
            rw [hc] at ht
            simp (disch := omega) only [evs, Int.toNat_natCast, hc, hln, fold_reRowI]
            rw [ht]
            rfl
        · have ei : i = r.length := by omega
          subst ei
          refine .inr ⟨.exit 0, { fr := [(7, .own 10000 0)], tab := [(10000, .sl [.int .u64, .str, .str, .slc [.str, .int .u8, .int .i64, .str], .str, .int .u64, .int .u8, .bool, .bool] (N.turnRows k [V.int .u64 id, .str s1, .str s2, .slc [.str, .int .u8, .int .i64, .str] hd, .str s3, .int .u64 due, .int .u8 hops, .bool b1, .bool b2] r 0) 0)] }, by simp, fun K => ?_, fun K => rfl⟩
          rw [q_rTurnedR]
          simp (disch := omega) only [evs, List.take_length]
    · cases h
  · obtain ⟨l, k, x⟩ := a
    obtain ⟨h1, h2⟩ := bcond hp
    obtain ⟨h2, h3⟩ := bcond h2
    have h1 : 0 ≤ k := ile_of h1
    have h2 : k < l.length := ilt_of h2
    have h3 : Nat.ble l.length 1000 = true := h3
    refine (q_rTurned l k x).trans ?_
    have e := turnRows_enc k.toNat x l 0
    rw [show ((0 + k.toNat : Nat) : Int) = k by omega] at e
    simp only [List.length_map, h3, beq_self_eq_true, cond_true, fold_itemE]
    show _ = some (⟨.slc [.int .u64, .str, .str, .slc [.str, .int .u8, .int .i64, .str], .str, .int .u64, .int .u8, .bool, .bool] ((l.set k.toNat x).map cItem.enc), [], []⟩ : DRes)
    rw [← e]
    rfl
theorem ok_rWake : FnOk Tryz.prog 52 dRWake := by
  refine den_okF (env_ok (TOk.nil _)) (E := eRWake) Tryz.func52 [3] (by kernel_rfl) (one1 (rounds_of rfl fun l K q h => ?_)) fun l _ hp => ?_
  · unfold gRWake at h
    split at h
    · rename_i r n i o
      have h1 := (cond_none h).1; replace h := (cond_none h).2; have h2 := (cond_none h).1; replace h := (cond_none h).2; have h3 := (cond_none h).1; replace h := (cond_none h).2; have h4 := (cond_none h).1; replace h := (cond_none h).2
      have e1 := ieq_of h1
      have e2 := ieq_of h2
      have e3 := List.eq_nil_of_length_eq_zero (nbeq_of h3)
      subst e1 e2 e3
      have h4 : r.length ≤ 1000 := ble_of h4
      have main := range_ind (E := eRWake) (f := 52) (id := 3) (A := Unit) r (fun _ i => { fr := [(3, .own 10000 0), (6, .slc [.int .u64, .str, .str, .slc [.str, .int .u8, .int .i64, .str], .str, .int .u64, .int .u8, .bool, .bool] r), (7, .int .i64 r.length), (8, .int .i64 i)], tab := [(10000, .sl [.int .u64, .str, .str, .slc [.str, .int .u8, .int .i64, .str], .str, .int .u64, .int .u8, .bool, .bool] (N.wakeRows (r.take i.toNat)) 0)] }) (fun _ _ => True)
        (fun _ _ K => K (.exit 0) { fr := [(3, .own 10000 0)], tab := [(10000, .sl [.int .u64, .str, .str, .slc [.str, .int .u8, .int .i64, .str], .str, .int .u64, .int .u8, .bool, .bool] (N.wakeRows r) 0)] }) (fun _ i _ hi => ?_) (fun _ _ => ?_) () 0 (Int.le_refl _) (by omega) trivial K q (by assumption)
      · exact main
      · refine .inl ⟨(), trivial, fun K => ?_, fun K => rfl⟩
        rw [q_rWakeR]
        have hl : (N.wakeRows (r.take i)).length = i := by unfold N.wakeRows; simp; omega
        have ht := wakeRows_succ hi
        unfold wakeRow at ht
        cases hc : V.toBool (List.getD (List.getD r i []) 8 V.undef) with
        | true =>
          rw [hc] at ht
          simp (disch := omega) only [evs, Int.toNat_natCast, hl, hc]
          show K .normal { fr := _, tab := [(10000, .sl [.int .u64, .str, .str, .slc [.str, .int .u8, .int .i64, .str], .str, .int .u64, .int .u8, .bool, .bool] _ 0)] } = K .normal { fr := _, tab := [(10000, .sl [.int .u64, .str, .str, .slc [.str, .int .u8, .int .i64, .str], .str, .int .u64, .int .u8, .bool, .bool] (N.wakeRows (r.take (i + 1))) 0)] }
          rw [ht]
          rfl
        | false =>
          rw [hc] at ht
          simp (disch := omega) only [evs, Int.toNat_natCast, hl, hc]
          show K .normal { fr := _, tab := [(10000, .sl [.int .u64, .str, .str, .slc [.str, .int .u8, .int .i64, .str], .str, .int .u64, .int .u8, .bool, .bool] _ 0)] } = K .normal { fr := _, tab := [(10000, .sl [.int .u64, .str, .str, .slc [.str, .int .u8, .int .i64, .str], .str, .int .u64, .int .u8, .bool, .bool] (N.wakeRows (r.take (i + 1))) 0)] }
          rw [ht]
          rfl
      · refine ⟨.exit 0, _, by simp, fun K => ?_, fun K => rfl⟩
        rw [q_rWakeR]
        simp (disch := omega) only [evs, Int.toNat_natCast, List.take_length]
    · cases h
  · refine (q_rWake l).trans ?_
    have hp : Nat.ble l.length 1000 = true := hp
    simp only [List.length_map, beq_self_eq_true, cond_true, hp, wakeRows_enc]
    rfl
theorem ok_rAdd : FnOk Tryz.prog 53 dRAdd := by
  refine den_okF (env_ok ((TOk.nil _).cons ok_rPut)) (E := eRAdd) Tryz.func53 [] (by kernel_rfl) none0 fun a _ h => ?_
  obtain ⟨l, m⟩ := a
  have h1 : Nat.ble l.length 1000 = true := h
  refine (q_rAdd l m).trans ?_
  simp only [dec_encs, fold_de, h1, cond_true]
  rfl
theorem ok_rBack : FnOk Tryz.prog 49 dRBack := by
  refine den_okF (env_ok (((TOk.nil _).cons ok_rTurned).cons ok_rFind)) (E := eRBack) Tryz.func49 [] (by kernel_rfl) none0 fun a _ h => ?_
  obtain ⟨l, id⟩ := a
  have h2 : Nat.ble l.length 1000 = true := h
  have h1 : l.length ≤ 1000 := ble_of h2
  refine (q_rBack l id).trans ?_
  show _ = some (⟨.tup [.slc [.int .u64, .str, .str, .slc [.str, .int .u8, .int .i64, .str], .str, .int .u64, .int .u8, .bool, .bool] ((N.lBack l id).1.map cItem.enc), .int .i64 (N.lBack l id).2], [], []⟩ : DRes)
  unfold N.lBack
  simp only [dec_encs]
  rcases ix_spec (N.isId id) l 0 (Int.le_refl _) with ⟨e, _⟩ | ⟨k, e, hk, _⟩
  · rw [e]
    simp (disch := omega) only [evs, h2]
  · rw [Int.zero_add] at e
    have hg := getD_enc cItem l k item0 hk
    have ga : goodAt l k = true := by unfold goodAt; rw [ile_t (by omega), ilt_t (by omega), h2]; rfl
    rw [e]
    simp (disch := omega) only [evs, h2, ga, Int.toNat_natCast, hg, fold_mail, item_mail, cItem.de]
    show cond (!(l.getD k item0).lent) _ _ = _
    cases (l.getD k item0).lent <;> rfl
theorem cutRows_app (k : Int) : ∀ (a b : List (List V)) (i : Int), N.cutRows k (a ++ b) i = N.cutRows k a i ++ N.cutRows k b (i + a.length)
  | [], b, i => by
    show N.cutRows k b i = N.cutRows k b (i + ((0 : Nat) : Int))
    rw [show i + ((0 : Nat) : Int) = i by omega]
  | r :: a, b, i => by
    show cond (i == k) (N.cutRows k (a ++ b) (i + 1)) (reRowI r :: N.cutRows k (a ++ b) (i + 1)) = cond (i == k) (N.cutRows k a (i + 1)) (reRowI r :: N.cutRows k a (i + 1)) ++ N.cutRows k b (i + ((a.length + 1 : Nat) : Int))
    rw [cutRows_app k a b (i + 1), show i + 1 + (a.length : Int) = i + ((a.length + 1 : Nat) : Int) by omega]
    cases i == k <;> rfl
theorem cutRows_succ (k : Int) {r : List (List V)} {i : Nat} (h : i < r.length) : N.cutRows k (r.take (i + 1)) 0 = N.cutRows k (r.take i) 0 ++ cond ((i : Int) == k) [] [reRowI (r.getD i [])] := by
  rw [take_succ h, cutRows_app, List.length_take, show (0 : Int) + ((min i r.length : Nat) : Int) = i by omega]
  rfl
theorem cutRows_len (k : Int) : ∀ (r : List (List V)) (i : Int), (N.cutRows k r i).length ≤ r.length
  | [], _ => Nat.le_refl _
  | r :: rs, i => by
    have ih := cutRows_len k rs (i + 1)
    show (cond (i == k) (N.cutRows k rs (i + 1)) (reRowI r :: N.cutRows k rs (i + 1))).length ≤ rs.length + 1
    cases i == k with
    | true => exact Nat.le_succ_of_le ih
    | false => exact Nat.succ_le_succ ih
theorem cutRows_far (k : Int) : ∀ (l : List HItem) (i : Int), (k < i ∨ i + l.length ≤ k) → N.cutRows k (l.map cItem.enc) i = l.map cItem.enc
  | [], _, _ => rfl
  | x :: r, i, h => by
    rw [List.length_cons] at h
    show cond (i == k) _ (reRowI (cItem.enc x) :: N.cutRows k (r.map cItem.enc) (i + 1)) = _
    rw [ieq_f (by omega), cutRows_far k r (i + 1) (by omega)]
    rfl
theorem cutRows_enc {l : List HItem} {k : Nat} (h : k < l.length) : N.cutRows k (l.map cItem.enc) 0 = (N.cutAt l k).map cItem.enc := by
  have e := split_at h
  have hl : (l.take k).length = k := by rw [List.length_take]; omega
  have e2 : l.map cItem.enc = (l.take k).map cItem.enc ++ (l.getD k item0 :: l.drop (k + 1)).map cItem.enc := by rw [← List.map_append, ← e]
  rw [e2, cutRows_app, List.length_map, hl, cutRows_far k (l.take k) 0 (by rw [hl]; omega)]
  have e3 : N.cutRows k ((l.getD k item0 :: l.drop (k + 1)).map cItem.enc) (0 + (k : Int)) = (l.drop (k + 1)).map cItem.enc := by
    show cond ((0 + (k : Int)) == (k : Int)) (N.cutRows k ((l.drop (k + 1)).map cItem.enc) (0 + (k : Int) + 1)) _ = _
    rw [ieq_t (by omega), cond_true, cutRows_far k _ _ (by omega)]
  rw [e3]
  unfold N.cutAt
  rw [List.map_append]
theorem ok_rRemove : FnOk Tryz.prog 51 dRRemove := by
  refine den_okF (show TOk Tryz.prog _ from (TOk.nil _).cons ok_rFind) (E := eRRemove) Tryz.func51 [6] (by kernel_rfl) (one1 (rounds_of rfl fun l K q h => ?_)) fun a _ hp => ?_
  · unfold gRRemove at h
    split at h
    · rename_i l0 k r n i id s1 s2 hd s3 due hops b1 b2 a
      have h1 := (cond_none h).1; replace h := (cond_none h).2; have h2 := (cond_none h).1; replace h := (cond_none h).2; have h3 := (cond_none h).1; replace h := (cond_none h).2; have h4 := (cond_none h).1; replace h := (cond_none h).2
      have e1 := ieq_of h1
      have e2 := ieq_of h2
      have e3 := List.eq_nil_of_length_eq_zero (nbeq_of h3)
      subst e1 e2 e3
      have h4 : r.length ≤ 1000 := ble_of h4
      have main := loop_ind (E := eRRemove) (f := 51) (id := 6) (σ := Nat) (fun i => { fr := [(0, .slc [.int .u64, .str, .str, .slc [.str, .int .u8, .int .i64, .str], .str, .int .u64, .int .u8, .bool, .bool] l0), (5, .ptr 10000 0 0 0), (7, .int .i64 k), (8, .own 10001 0), (18, .slc [.int .u64, .str, .str, .slc [.str, .int .u8, .int .i64, .str], .str, .int .u64, .int .u8, .bool, .bool] r), (19, .int .i64 r.length), (20, .int .i64 (i : Int))], tab := [(10000, .var [.int .u64 id, .str s1, .str s2, .slc [.str, .int .u8, .int .i64, .str] hd, .str s3, .int .u64 due, .int .u8 hops, .bool b1, .bool b2]), (10001, .sl [.int .u64, .str, .str, .slc [.str, .int .u8, .int .i64, .str], .str, .int .u64, .int .u8, .bool, .bool] (N.cutRows k (r.take i) 0) 0)] }) (fun i => i ≤ r.length) (fun i => r.length - i)
        (fun _ K => K (.exit 0) { fr := [(0, .slc [.int .u64, .str, .str, .slc [.str, .int .u8, .int .i64, .str], .str, .int .u64, .int .u8, .bool, .bool] l0), (5, .ptr 10000 0 0 0), (7, .int .i64 k), (8, .own 10001 0)], tab := [(10000, .var [.int .u64 id, .str s1, .str s2, .slc [.str, .int .u8, .int .i64, .str] hd, .str s3, .int .u64 due, .int .u8 hops, .bool b1, .bool b2]), (10001, .sl [.int .u64, .str, .str, .slc [.str, .int .u8, .int .i64, .str], .str, .int .u64, .int .u8, .bool, .bool] (N.cutRows k r 0) 0)] }) (fun i hi => ?_) 0 (Nat.zero_le _) K q (by assumption)
      · exact main
      · by_cases hl : i < r.length
        · have hln : (N.cutRows k (r.take i) 0).length ≤ i := by have := cutRows_len k (r.take i) 0; rw [List.length_take] at this; omega
          have ht := cutRows_succ k hl
          refine .inl ⟨i + 1, hl, by omega, fun K => ?_, fun K => rfl⟩
          rw [q_rRemoveR]
          by_cases hc : (i : Int) = k
          · rw [ieq_t hc, cond_true, List.append_nil] at ht
            simp (disch := omega) only [evs, Int.toNat_natCast]
            rw [ht]
            rfl
          · rw [ieq_f hc, cond_false] at ht
            simp (disch := omega) only [evs, Int.toNat_natCast, fold_reRowI]
            rw [ht]
            rfl
        · have ei : i = r.length := by omega
          subst ei
          refine .inr ⟨.exit 0, { fr := [(0, .slc [.int .u64, .str, .str, .slc [.str, .int .u8, .int .i64, .str], .str, .int .u64, .int .u8, .bool, .bool] l0), (5, .ptr 10000 0 0 0), (7, .int .i64 k), (8, .own 10001 0)], tab := [(10000, .var [.int .u64 id, .str s1, .str s2, .slc [.str, .int .u8, .int .i64, .str] hd, .str s3, .int .u64 due, .int .u8 hops, .bool b1, .bool b2]), (10001, .sl [.int .u64, .str, .str, .slc [.str, .int .u8, .int .i64, .str], .str, .int .u64, .int .u8, .bool, .bool] (N.cutRows k r 0) 0)] }, by simp, fun K => ?_, fun K => rfl⟩
          rw [q_rRemoveR]
          simp (disch := omega) only [evs, List.take_length]
    · cases h
  · obtain ⟨l, id⟩ := a
    have h2 : Nat.ble l.length 1000 = true := hp
    have h1 : l.length ≤ 1000 := ble_of h2
    refine (q_rRemove l id).trans ?_
    show _ = some (⟨.tup [.slc [.int .u64, .str, .str, .slc [.str, .int .u8, .int .i64, .str], .str, .int .u64, .int .u8, .bool, .bool] ((N.lRemove l id).1.map cItem.enc), .agg (cItem.enc (N.lRemove l id).2.1), .int .i64 (N.lRemove l id).2.2], [], []⟩ : DRes)
    unfold N.lRemove
    simp only [dec_encs]
    rcases ix_spec (N.isId id) l 0 (Int.le_refl _) with ⟨e, _⟩ | ⟨k, e, hk, _⟩
    · rw [e]
      simp (disch := omega) only [evs, h2]
      rfl
    · rw [Int.zero_add] at e
      have hg := getD_enc cItem l k item0 hk
      have hcut := cutRows_enc hk
      rw [e]
      simp (disch := omega) only [evs, h2, Int.toNat_natCast, hg, hcut, fold_reRowI]
      rfl
theorem ok_rLend : FnOk Tryz.prog 47 dRLend := by
  refine den_okF (show TOk Tryz.prog _ from (TOk.nil _).cons ok_rTurned) (E := eRLend) Tryz.func47 [2] (by kernel_rfl) (one1 (rounds_of rfl fun l K q h => ?_)) fun l _ hp => ?_
  · unfold gRLend at h
    split at h
    · rename_i l0 r n i id s1 s2 hd s3 due hops b1 b2
      have h1 := (cond_none h).1; replace h := (cond_none h).2; have h2 := (cond_none h).1; replace h := (cond_none h).2; have h3 := (cond_none h).1; replace h := (cond_none h).2; have h4 := (cond_none h).1; replace h := (cond_none h).2
      have e1 := ieq_of h1
      have e2 := ieq_of h2
      have e3 := nbeq_of h3
      subst e1 e2
      have h4 : r.length ≤ 1000 := ble_of h4
      have main := loop_ind (E := eRLend) (f := 47) (id := 2) (σ := Nat) (fun i => { fr := [(0, .slc [.int .u64, .str, .str, .slc [.str, .int .u8, .int .i64, .str], .str, .int .u64, .int .u8, .bool, .bool] l0), (3, .ptr 10000 0 0 0), (7, .slc [.int .u64, .str, .str, .slc [.str, .int .u8, .int .i64, .str], .str, .int .u64, .int .u8, .bool, .bool] r), (8, .int .i64 r.length), (9, .int .i64 (i : Int))], tab := [(10000, .var [.int .u64 id, .str s1, .str s2, .slc [.str, .int .u8, .int .i64, .str] hd, .str s3, .int .u64 due, .int .u8 hops, .bool b1, .bool b2])] }) (fun i => i ≤ r.length) (fun i => r.length - i)
        (fun i K => cond (ile 0 (N.ix N.isReady ((r.drop i).map cItem.dec) i)) (K .ret { fr := [(2, .slc [.int .u64, .str, .str, .slc [.str, .int .u8, .int .i64, .str], .str, .int .u64, .int .u8, .bool, .bool] (((l0.map cItem.dec).set (N.ix N.isReady ((r.drop i).map cItem.dec) i).toNat (N.lendI (cItem.dec (r.getD (N.ix N.isReady ((r.drop i).map cItem.dec) i).toNat [])))).map cItem.enc)), (3, .ptr 10000 0 0 0), (4, .bool true)], tab := [(10000, .var (lendRow (r.getD (N.ix N.isReady ((r.drop i).map cItem.dec) i).toNat [])))] })
          (K (.exit 0) { fr := [(0, .slc [.int .u64, .str, .str, .slc [.str, .int .u8, .int .i64, .str], .str, .int .u64, .int .u8, .bool, .bool] l0), (3, .ptr 10000 0 0 0)], tab := [(10000, .var [.int .u64 id, .str s1, .str s2, .slc [.str, .int .u8, .int .i64, .str] hd, .str s3, .int .u64 due, .int .u8 hops, .bool b1, .bool b2])] })) (fun i hi => ?_) 0 (Nat.zero_le _) K q (by assumption)
      · exact main
      · by_cases hl : i < r.length
        · rw [drop_decI hl, ix_cons]
          have hm : V.toBool (List.getD (List.getD r i []) 7 V.undef) = (cItem.dec (r.getD i [])).lent := rfl
          have ga : goodAt (l0.map cItem.dec) i = true := by
            unfold goodAt
            rw [List.length_map, ile_t (by omega), ilt_t (by omega), ble_t (by omega)]; rfl
          cases hc : (cItem.dec (r.getD i [])).lent with
          | false =>
            have hr : N.isReady (cItem.dec (r.getD i [])) = true := by unfold N.isReady; rw [hc]; rfl
            refine .inr ⟨.ret, { fr := [(2, .slc [.int .u64, .str, .str, .slc [.str, .int .u8, .int .i64, .str], .str, .int .u64, .int .u8, .bool, .bool] (((l0.map cItem.dec).set i (N.lendI (cItem.dec (r.getD i [])))).map cItem.enc)), (3, .ptr 10000 0 0 0), (4, .bool true)], tab := [(10000, .var (lendRow (r.getD i [])))] }, by simp, fun K => ?_, fun K => ?_⟩
            · rw [q_rLendR]
              simp (disch := omega) only [evs, Int.toNat_natCast, hm, hc, Bool.not_false, ga, fold_mail]
              rfl
            · rw [hr]
              simp only [cond_true]
              rw [ile_t (by omega), Int.toNat_natCast]; rfl
          | true =>
            have hr : N.isReady (cItem.dec (r.getD i [])) = false := by unfold N.isReady; rw [hc]; rfl
            refine .inl ⟨i + 1, hl, by omega, fun K => ?_, fun K => by rw [hr]; rfl⟩
            rw [q_rLendR]
            simp (disch := omega) only [evs, Int.toNat_natCast, hm, hc, Bool.not_true]
            rfl
        · refine .inr ⟨.exit 0, { fr := [(0, .slc [.int .u64, .str, .str, .slc [.str, .int .u8, .int .i64, .str], .str, .int .u64, .int .u8, .bool, .bool] l0), (3, .ptr 10000 0 0 0)], tab := [(10000, .var [.int .u64 id, .str s1, .str s2, .slc [.str, .int .u8, .int .i64, .str] hd, .str s3, .int .u64 due, .int .u8 hops, .bool b1, .bool b2])] }, by simp, fun K => ?_, fun K => ?_⟩
          · rw [q_rLendR]
            simp (disch := omega) only [evs]
          · rw [List.drop_eq_nil_of_le (by omega)]; rfl
    · cases h
  · have h2 : Nat.ble l.length 1000 = true := hp
    refine (q_rLend l).trans ?_
    show _ = some (⟨.tup [.slc [.int .u64, .str, .str, .slc [.str, .int .u8, .int .i64, .str], .str, .int .u64, .int .u8, .bool, .bool] ((N.lLend l).1.map cItem.enc), .agg (cItem.enc (N.lLend l).2.1), .bool (N.lLend l).2.2], [], []⟩ : DRes)
    unfold N.lLend
    simp only [dec_encs, List.length_map, h2, beq_self_eq_true, Nat.beq_refl, cond_true]
    rcases ix_spec N.isReady l 0 (Int.le_refl _) with ⟨e, _⟩ | ⟨k, e, hk, _⟩
    · rw [e]; rfl
    · rw [Int.zero_add] at e
      have hg := getD_enc cItem l k item0 hk
      rw [e]
      simp (disch := omega) only [evs, Int.toNat_natCast, hg, fold_item, cItem.de]
      rfl
end Go.Ev

/- Acts on lines, done to both: lemmas; the function that writes numbers is a premise. -/
namespace Go.Ev
open Go Go.Proofs
set_option maxRecDepth 100000
-- FOLD

def rowAct (r : List V) : HAct := ⟨(r.getD 0 .undef).toInt, ⟨(r.getD 1 .undef).toInt, (r.getD 2 .undef).toStr, (r.getD 3 .undef).toStr, rowsP (r.getD 4 .undef).toRows, (r.getD 5 .undef).toStr, (r.getD 6 .undef).toInt, (r.getD 7 .undef).toInt⟩⟩
def cAct : RCod HAct := (((rInt .u8).and cMail).iso (fun p => (⟨p.1, p.2⟩ : HAct)) (fun o => (o.op, o.mail)) (fun _ => rfl) fun _ => rfl).spelt
  [.int .u8, .int .u64, .str, .str, .slc [.str, .int .u8, .int .i64, .str], .str, .int .u64, .int .u8]
  (fun a => [.int .u8 a.op, .int .u64 a.mail.id, .str a.mail.shop, .str a.mail.key, .slc [.str, .int .u8, .int .i64, .str] (a.mail.head.map fun p => [V.str p.key, V.int .u8 p.kind, V.int .i64 p.num, V.str p.text]), .str a.mail.body, .int .u64 a.mail.due, .int .u8 a.mail.hops])
  rowAct rfl (fun _ => rfl) fun r => by
    show (⟨((r.take 1).getD 0 .undef).toInt, rowM (r.drop 1)⟩ : HAct) = rowAct r
    unfold rowM
    simp only [getD_take_one, getD_drop_one]; rfl
theorem fold_actM (r : List V) : ({ id := V.toInt (List.getD r 1 .undef), shop := V.toStr (List.getD r 2 .undef), key := V.toStr (List.getD r 3 .undef), head := (V.toRows (List.getD r 4 .undef)).map fun r => ({ key := V.toStr (List.getD r 0 .undef), kind := V.toInt (List.getD r 1 .undef), num := V.toInt (List.getD r 2 .undef), text := V.toStr (List.getD r 3 .undef) } : HPair), body := V.toStr (List.getD r 5 .undef), due := V.toInt (List.getD r 6 .undef), hops := V.toInt (List.getD r 7 .undef) } : HMail) = (cAct.dec r).mail := rfl
namespace N
def lightActs : List HAct → Bool
  | [] => true | a :: r => cond (lightM a.mail) (lightActs r) false
def done18 (l q : List HItem) (a : HAct) : List HItem × List HItem × Bool :=
  cond (Int.tmod a.op 6 == 2) ((lLend l).1, (lLend q).1, cond ((lLend l).2.2 == (lLend q).2.2) (sameI (lLend l).2.1 (lLend q).2.1) false)
    (cond (Int.tmod a.op 6 == 3) ((lBack l a.mail.id).1, (lBack q a.mail.id).1, (lBack l a.mail.id).2 == (lBack q a.mail.id).2)
    (cond (Int.tmod a.op 6 == 4) ((lRemove l a.mail.id).1, (lRemove q a.mail.id).1, cond ((lRemove l a.mail.id).2.2 == (lRemove q a.mail.id).2.2) (sameI (lRemove l a.mail.id).2.1 (lRemove q a.mail.id).2.1) false)
    (cond (Int.tmod a.op 6 == 5) (lWake l, lWake q, true) ((lPut l ⟨a.mail, false, false⟩).1, (rPut q ⟨a.mail, false, false⟩).1, (lPut l ⟨a.mail, false, false⟩).2 == (rPut q ⟨a.mail, false, false⟩).2))))
end N
def dLight18 : Den := den (aOne (vSl cAct)) bNil (oV vBool) (fun l _ => Nat.ble l.length 9223372036854775807) fun l _ => (cond (N.lightActs l) (ile l.length 100) false, ())
def dDone18 : Den := den (aCons (vAgg cLine) (aCons (vSl cItem) (aOne (vAgg cAct)))) bNil (oTup (aCons (vAgg cLine) (aCons (vSl cItem) (aOne vBool)))) (fun a _ => cond (smallL a.1) (cond (Nat.ble a.2.1.length 1000) (smallM a.2.2.mail) false) false) fun a _ => (N.done18 a.1 a.2.1 a.2.2, ())
def schLight18 : SSch := { fr := [(0, .slc [.int .u8, .int .u64, .str, .str, .slc [.str, .int .u8, .int .i64, .str], .str, .int .u64, .int .u8]), (5, .slc [.int .u8, .int .u64, .str, .str, .slc [.str, .int .u8, .int .i64, .str], .str, .int .u64, .int .u8]), (6, .int .i64), (7, .int .i64)], tab := [] }
def gLight18 : List Leaf → (Ex → St → Option R) → Option R
  | [.r r0, .r r, .i n, .i i], K => cond (n == r.length) (cond (i == 0) (cond (Nat.ble r.length 9223372036854775807) (cond (N.lightActs (r.map cAct.dec)) (K (.exit 0) { fr := [(0, .slc [.int .u8, .int .u64, .str, .str, .slc [.str, .int .u8, .int .i64, .str], .str, .int .u64, .int .u8] r0)], tab := [] }) (K .ret { fr := [(2, .bool false)], tab := [] })) none) none) none
  | _, _ => none
noncomputable def eLight18 : Env := env Tryz.prog [(21, dLightM)] [(2, loopF schLight18 gLight18)] [(2, [(0, [0, 5, 6, 7]), (1, [0]), (1000, [2])])]
theorem q_light18 (l : List HAct) : evFn eLight18 12 ((aOne (vSl cAct)).enc l) ([]) some =
 cond ((↑(List.length (List.map (RCod.enc cAct) l)) : Int) == (↑(List.length (List.map (RCod.enc cAct) l)) : Int)) (cond (Nat.ble (List.length (List.map (RCod.enc cAct) l)) (9223372036854775807 : Nat)) (cond (N.lightActs (List.map (RCod.dec cAct) (List.map (RCod.enc cAct) l))) (some { v := V.bool (ile (↑(List.length (List.map (RCod.enc cAct) l)) : Int) (100 : Int)), bx := [] : DRes }) (some { v := V.bool false, bx := [] : DRes })) (none)) (none) := by kernel_rfl
theorem q_light18R (r0 r : List (List V)) (n i : Int) (K : Ex → St → Option R) : evRound eLight18 12 2 { fr := [(0, .slc [.int .u8, .int .u64, .str, .str, .slc [.str, .int .u8, .int .i64, .str], .str, .int .u64, .int .u8] r0), (5, .slc [.int .u8, .int .u64, .str, .str, .slc [.str, .int .u8, .int .i64, .str], .str, .int .u64, .int .u8] r), (6, .int .i64 n), (7, .int .i64 i)], tab := [] } K =
 cond (ilt i n) (cond (decide ((0 : Int) ≤ i ∧ i < (↑(List.length r) : Int))) (cond (!N.lightM { id := V.toInt (List.getD (List.getD r (Int.toNat i) []) (1 : Nat) V.undef), shop := V.toStr (List.getD (List.getD r (Int.toNat i) []) (2 : Nat) V.undef), key := V.toStr (List.getD (List.getD r (Int.toNat i) []) (3 : Nat) V.undef), head := List.map (fun r => { key := V.toStr (List.getD r (0 : Nat) V.undef), kind := V.toInt (List.getD r (1 : Nat) V.undef), num := V.toInt (List.getD r (2 : Nat) V.undef), text := V.toStr (List.getD r (3 : Nat) V.undef) : HPair }) (V.toRows (List.getD (List.getD r (Int.toNat i) []) (4 : Nat) V.undef)), body := V.toStr (List.getD (List.getD r (Int.toNat i) []) (5 : Nat) V.undef), due := V.toInt (List.getD (List.getD r (Int.toNat i) []) (6 : Nat) V.undef), hops := V.toInt (List.getD (List.getD r (Int.toNat i) []) (7 : Nat) V.undef) : HMail }) (K Ex.ret { fr := [((2 : Nat), V.bool false)], tab := [] : St }) (K Ex.normal { fr := [((0 : Nat), V.slc [Sh.int IntKind.u8, Sh.int IntKind.u64, Sh.str, Sh.str, Sh.slc [Sh.str, Sh.int IntKind.u8, Sh.int IntKind.i64, Sh.str], Sh.str, Sh.int IntKind.u64, Sh.int IntKind.u8] r0), ((5 : Nat), V.slc [Sh.int IntKind.u8, Sh.int IntKind.u64, Sh.str, Sh.str, Sh.slc [Sh.str, Sh.int IntKind.u8, Sh.int IntKind.i64, Sh.str], Sh.str, Sh.int IntKind.u64, Sh.int IntKind.u8] r), ((6 : Nat), V.int IntKind.i64 n), ((7 : Nat), V.int IntKind.i64 (IntKind.wrap IntKind.i64 (i + (1 : Int))))], tab := [] : St })) (none)) (K (Ex.exit (0 : Nat)) { fr := [((0 : Nat), V.slc [Sh.int IntKind.u8, Sh.int IntKind.u64, Sh.str, Sh.str, Sh.slc [Sh.str, Sh.int IntKind.u8, Sh.int IntKind.i64, Sh.str], Sh.str, Sh.int IntKind.u64, Sh.int IntKind.u8] r0)], tab := [] : St }) := by kernel_rfl
theorem ok_light18 : FnOk Tryz.prog 12 dLight18 := by
  refine den_okF (env_ok ((TOk.nil _).cons ok_lightM)) (E := eLight18) Tryz.func12 [2] (by kernel_rfl) (one1 (rounds_of rfl fun l K q h => ?_)) fun l _ hp => ?_
  · unfold gLight18 at h
    split at h
    · rename_i r0 r n i
      have h1 := (cond_none h).1; replace h := (cond_none h).2; have h2 := (cond_none h).1; replace h := (cond_none h).2; have h3 := (cond_none h).1; replace h := (cond_none h).2
      have e1 := ieq_of h1
      have e2 := ieq_of h2
      subst e1 e2
      have h3 : r.length ≤ 9223372036854775807 := ble_of h3
      have main := range_ind (E := eLight18) (f := 12) (id := 2) (A := Unit) r (fun _ i => { fr := [(0, .slc [.int .u8, .int .u64, .str, .str, .slc [.str, .int .u8, .int .i64, .str], .str, .int .u64, .int .u8] r0), (5, .slc [.int .u8, .int .u64, .str, .str, .slc [.str, .int .u8, .int .i64, .str], .str, .int .u64, .int .u8] r), (6, .int .i64 r.length), (7, .int .i64 i)], tab := [] }) (fun _ _ => True)
        (fun _ rows K => cond (N.lightActs (rows.map cAct.dec)) (K (.exit 0) { fr := [(0, .slc [.int .u8, .int .u64, .str, .str, .slc [.str, .int .u8, .int .i64, .str], .str, .int .u64, .int .u8] r0)], tab := [] }) (K .ret { fr := [(2, .bool false)], tab := [] })) (fun _ i _ hi => ?_) (fun _ _ => ?_) () 0 (Int.le_refl _) (by omega) trivial K q (by assumption)
      · exact main
      · rw [List.map_cons]
        cases hc : N.lightM (cAct.dec (r.getD i [])).mail with
        | true =>
          refine .inl ⟨(), trivial, fun K => ?_, fun K => ?_⟩
          · rw [q_light18R]
            simp (disch := omega) only [evs, Int.toNat_natCast, fold_actM, hc, Bool.not_true]
          · show cond (cond (N.lightM (cAct.dec (r.getD i [])).mail) _ false) _ _ = _
            rw [hc]; rfl
        | false =>
          refine .inr ⟨.ret, { fr := [(2, .bool false)], tab := [] }, by simp, fun K => ?_, fun K => ?_⟩
          · rw [q_light18R]
            simp (disch := omega) only [evs, Int.toNat_natCast, fold_actM, hc, Bool.not_false]
          · show cond (cond (N.lightM (cAct.dec (r.getD i [])).mail) _ false) _ _ = _
            rw [hc]; rfl
      · refine ⟨.exit 0, { fr := [(0, .slc [.int .u8, .int .u64, .str, .str, .slc [.str, .int .u8, .int .i64, .str], .str, .int .u64, .int .u8] r0)], tab := [] }, by simp, fun K => ?_, fun K => rfl⟩
        rw [q_light18R]
        simp (disch := omega) only [evs]
    · cases h
  · refine (q_light18 l).trans ?_
    have hp : Nat.ble l.length 9223372036854775807 = true := hp
    show _ = some (⟨.bool (cond (N.lightActs l) (ile l.length 100) false), [], []⟩ : DRes)
    simp only [List.length_map, dec_encs, hp, beq_self_eq_true, cond_true]
    cases N.lightActs l <;> rfl
noncomputable def eDone18 : Env := env Tryz.prog [(28, dLLend), (47, dRLend), (48, dSameI), (45, dLBack), (49, dRBack), (50, dLRemove), (51, dRRemove), (27, dLWake), (52, dRWake), (44, dLAdd), (53, dRAdd)] [] []
theorem q_done18 (l q : List HItem) (a : HAct) : evFn eDone18 14 ((aCons (vAgg cLine) (aCons (vSl cItem) (aOne (vAgg cAct)))).enc (l, q, a)) ([]) some =
 cond (Int.tmod (HAct.op a) (6 : Int) == (2 : Int)) (cond (smallL (List.map (RCod.dec cItem) (List.map (RCod.enc cItem) l))) (cond (Nat.ble (List.length (List.map (RCod.dec cItem) (List.map (RCod.enc cItem) q))) (1000 : Nat)) (cond (Prod.snd (Prod.snd (N.lLend (List.map (RCod.dec cItem) (List.map (RCod.enc cItem) l)))) == Prod.snd (Prod.snd (N.lLend (List.map (RCod.dec cItem) (List.map (RCod.enc cItem) q))))) (cond (smallI { mail := { id := HMail.id (HItem.mail (Prod.fst (Prod.snd (N.lLend (List.map (RCod.dec cItem) (List.map (RCod.enc cItem) l)))))), shop := HMail.shop (HItem.mail (Prod.fst (Prod.snd (N.lLend (List.map (RCod.dec cItem) (List.map (RCod.enc cItem) l)))))), key := HMail.key (HItem.mail (Prod.fst (Prod.snd (N.lLend (List.map (RCod.dec cItem) (List.map (RCod.enc cItem) l)))))), head := List.map (fun r => { key := V.toStr (List.getD r (0 : Nat) V.undef), kind := V.toInt (List.getD r (1 : Nat) V.undef), num := V.toInt (List.getD r (2 : Nat) V.undef), text := V.toStr (List.getD r (3 : Nat) V.undef) : HPair }) (List.map (fun p => [V.str (HPair.key p), V.int IntKind.u8 (HPair.kind p), V.int IntKind.i64 (HPair.num p), V.str (HPair.text p)]) (HMail.head (HItem.mail (Prod.fst (Prod.snd (N.lLend (List.map (RCod.dec cItem) (List.map (RCod.enc cItem) l)))))))), body := HMail.body (HItem.mail (Prod.fst (Prod.snd (N.lLend (List.map (RCod.dec cItem) (List.map (RCod.enc cItem) l)))))), due := HMail.due (HItem.mail (Prod.fst (Prod.snd (N.lLend (List.map (RCod.dec cItem) (List.map (RCod.enc cItem) l)))))), hops := HMail.hops (HItem.mail (Prod.fst (Prod.snd (N.lLend (List.map (RCod.dec cItem) (List.map (RCod.enc cItem) l)))))) : HMail }, lent := HItem.lent (Prod.fst (Prod.snd (N.lLend (List.map (RCod.dec cItem) (List.map (RCod.enc cItem) l))))), again := HItem.again (Prod.fst (Prod.snd (N.lLend (List.map (RCod.dec cItem) (List.map (RCod.enc cItem) l))))) : HItem }) (some { v := V.tup [V.agg [V.slc [Sh.int IntKind.u64, Sh.str, Sh.str, Sh.slc [Sh.str, Sh.int IntKind.u8, Sh.int IntKind.i64, Sh.str], Sh.str, Sh.int IntKind.u64, Sh.int IntKind.u8, Sh.bool, Sh.bool] (List.map (RCod.enc cItem) (Prod.fst (N.lLend (List.map (RCod.dec cItem) (List.map (RCod.enc cItem) l)))))], V.slc [Sh.int IntKind.u64, Sh.str, Sh.str, Sh.slc [Sh.str, Sh.int IntKind.u8, Sh.int IntKind.i64, Sh.str], Sh.str, Sh.int IntKind.u64, Sh.int IntKind.u8, Sh.bool, Sh.bool] (List.map (RCod.enc cItem) (Prod.fst (N.lLend (List.map (RCod.dec cItem) (List.map (RCod.enc cItem) q))))), V.bool (N.sameI { mail := { id := HMail.id (HItem.mail (Prod.fst (Prod.snd (N.lLend (List.map (RCod.dec cItem) (List.map (RCod.enc cItem) l)))))), shop := HMail.shop (HItem.mail (Prod.fst (Prod.snd (N.lLend (List.map (RCod.dec cItem) (List.map (RCod.enc cItem) l)))))), key := HMail.key (HItem.mail (Prod.fst (Prod.snd (N.lLend (List.map (RCod.dec cItem) (List.map (RCod.enc cItem) l)))))), head := List.map (fun r => { key := V.toStr (List.getD r (0 : Nat) V.undef), kind := V.toInt (List.getD r (1 : Nat) V.undef), num := V.toInt (List.getD r (2 : Nat) V.undef), text := V.toStr (List.getD r (3 : Nat) V.undef) : HPair }) (List.map (fun p => [V.str (HPair.key p), V.int IntKind.u8 (HPair.kind p), V.int IntKind.i64 (HPair.num p), V.str (HPair.text p)]) (HMail.head (HItem.mail (Prod.fst (Prod.snd (N.lLend (List.map (RCod.dec cItem) (List.map (RCod.enc cItem) l)))))))), body := HMail.body (HItem.mail (Prod.fst (Prod.snd (N.lLend (List.map (RCod.dec cItem) (List.map (RCod.enc cItem) l)))))), due := HMail.due (HItem.mail (Prod.fst (Prod.snd (N.lLend (List.map (RCod.dec cItem) (List.map (RCod.enc cItem) l)))))), hops := HMail.hops (HItem.mail (Prod.fst (Prod.snd (N.lLend (List.map (RCod.dec cItem) (List.map (RCod.enc cItem) l)))))) : HMail }, lent := HItem.lent (Prod.fst (Prod.snd (N.lLend (List.map (RCod.dec cItem) (List.map (RCod.enc cItem) l))))), again := HItem.again (Prod.fst (Prod.snd (N.lLend (List.map (RCod.dec cItem) (List.map (RCod.enc cItem) l))))) : HItem } { mail := { id := HMail.id (HItem.mail (Prod.fst (Prod.snd (N.lLend (List.map (RCod.dec cItem) (List.map (RCod.enc cItem) q)))))), shop := HMail.shop (HItem.mail (Prod.fst (Prod.snd (N.lLend (List.map (RCod.dec cItem) (List.map (RCod.enc cItem) q)))))), key := HMail.key (HItem.mail (Prod.fst (Prod.snd (N.lLend (List.map (RCod.dec cItem) (List.map (RCod.enc cItem) q)))))), head := List.map (fun r => { key := V.toStr (List.getD r (0 : Nat) V.undef), kind := V.toInt (List.getD r (1 : Nat) V.undef), num := V.toInt (List.getD r (2 : Nat) V.undef), text := V.toStr (List.getD r (3 : Nat) V.undef) : HPair }) (List.map (fun p => [V.str (HPair.key p), V.int IntKind.u8 (HPair.kind p), V.int IntKind.i64 (HPair.num p), V.str (HPair.text p)]) (HMail.head (HItem.mail (Prod.fst (Prod.snd (N.lLend (List.map (RCod.dec cItem) (List.map (RCod.enc cItem) q)))))))), body := HMail.body (HItem.mail (Prod.fst (Prod.snd (N.lLend (List.map (RCod.dec cItem) (List.map (RCod.enc cItem) q)))))), due := HMail.due (HItem.mail (Prod.fst (Prod.snd (N.lLend (List.map (RCod.dec cItem) (List.map (RCod.enc cItem) q)))))), hops := HMail.hops (HItem.mail (Prod.fst (Prod.snd (N.lLend (List.map (RCod.dec cItem) (List.map (RCod.enc cItem) q)))))) : HMail }, lent := HItem.lent (Prod.fst (Prod.snd (N.lLend (List.map (RCod.dec cItem) (List.map (RCod.enc cItem) q))))), again := HItem.again (Prod.fst (Prod.snd (N.lLend (List.map (RCod.dec cItem) (List.map (RCod.enc cItem) q))))) : HItem })], bx := [] : DRes }) (none)) (some { v := V.tup [V.agg [V.slc [Sh.int IntKind.u64, Sh.str, Sh.str, Sh.slc [Sh.str, Sh.int IntKind.u8, Sh.int IntKind.i64, Sh.str], Sh.str, Sh.int IntKind.u64, Sh.int IntKind.u8, Sh.bool, Sh.bool] (List.map (RCod.enc cItem) (Prod.fst (N.lLend (List.map (RCod.dec cItem) (List.map (RCod.enc cItem) l)))))], V.slc [Sh.int IntKind.u64, Sh.str, Sh.str, Sh.slc [Sh.str, Sh.int IntKind.u8, Sh.int IntKind.i64, Sh.str], Sh.str, Sh.int IntKind.u64, Sh.int IntKind.u8, Sh.bool, Sh.bool] (List.map (RCod.enc cItem) (Prod.fst (N.lLend (List.map (RCod.dec cItem) (List.map (RCod.enc cItem) q))))), V.bool false], bx := [] : DRes })) (none)) (none)) (cond (Int.tmod (HAct.op a) (6 : Int) == (3 : Int)) (cond (smallL (List.map (RCod.dec cItem) (List.map (RCod.enc cItem) l))) (cond (Nat.ble (List.length (List.map (RCod.dec cItem) (List.map (RCod.enc cItem) q))) (1000 : Nat)) (some { v := V.tup [V.agg [V.slc [Sh.int IntKind.u64, Sh.str, Sh.str, Sh.slc [Sh.str, Sh.int IntKind.u8, Sh.int IntKind.i64, Sh.str], Sh.str, Sh.int IntKind.u64, Sh.int IntKind.u8, Sh.bool, Sh.bool] (List.map (RCod.enc cItem) (Prod.fst (N.lBack (List.map (RCod.dec cItem) (List.map (RCod.enc cItem) l)) (HMail.id (HAct.mail a)))))], V.slc [Sh.int IntKind.u64, Sh.str, Sh.str, Sh.slc [Sh.str, Sh.int IntKind.u8, Sh.int IntKind.i64, Sh.str], Sh.str, Sh.int IntKind.u64, Sh.int IntKind.u8, Sh.bool, Sh.bool] (List.map (RCod.enc cItem) (Prod.fst (N.lBack (List.map (RCod.dec cItem) (List.map (RCod.enc cItem) q)) (HMail.id (HAct.mail a))))), V.bool (Prod.snd (N.lBack (List.map (RCod.dec cItem) (List.map (RCod.enc cItem) l)) (HMail.id (HAct.mail a))) == Prod.snd (N.lBack (List.map (RCod.dec cItem) (List.map (RCod.enc cItem) q)) (HMail.id (HAct.mail a))))], bx := [] : DRes }) (none)) (none)) (cond (Int.tmod (HAct.op a) (6 : Int) == (4 : Int)) (cond (smallL (List.map (RCod.dec cItem) (List.map (RCod.enc cItem) l))) (cond (Nat.ble (List.length (List.map (RCod.dec cItem) (List.map (RCod.enc cItem) q))) (1000 : Nat)) (cond (Prod.snd (Prod.snd (N.lRemove (List.map (RCod.dec cItem) (List.map (RCod.enc cItem) l)) (HMail.id (HAct.mail a)))) == Prod.snd (Prod.snd (N.lRemove (List.map (RCod.dec cItem) (List.map (RCod.enc cItem) q)) (HMail.id (HAct.mail a))))) (cond (smallI { mail := { id := HMail.id (HItem.mail (Prod.fst (Prod.snd (N.lRemove (List.map (RCod.dec cItem) (List.map (RCod.enc cItem) l)) (HMail.id (HAct.mail a)))))), shop := HMail.shop (HItem.mail (Prod.fst (Prod.snd (N.lRemove (List.map (RCod.dec cItem) (List.map (RCod.enc cItem) l)) (HMail.id (HAct.mail a)))))), key := HMail.key (HItem.mail (Prod.fst (Prod.snd (N.lRemove (List.map (RCod.dec cItem) (List.map (RCod.enc cItem) l)) (HMail.id (HAct.mail a)))))), head := List.map (fun r => { key := V.toStr (List.getD r (0 : Nat) V.undef), kind := V.toInt (List.getD r (1 : Nat) V.undef), num := V.toInt (List.getD r (2 : Nat) V.undef), text := V.toStr (List.getD r (3 : Nat) V.undef) : HPair }) (List.map (fun p => [V.str (HPair.key p), V.int IntKind.u8 (HPair.kind p), V.int IntKind.i64 (HPair.num p), V.str (HPair.text p)]) (HMail.head (HItem.mail (Prod.fst (Prod.snd (N.lRemove (List.map (RCod.dec cItem) (List.map (RCod.enc cItem) l)) (HMail.id (HAct.mail a)))))))), body := HMail.body (HItem.mail (Prod.fst (Prod.snd (N.lRemove (List.map (RCod.dec cItem) (List.map (RCod.enc cItem) l)) (HMail.id (HAct.mail a)))))), due := HMail.due (HItem.mail (Prod.fst (Prod.snd (N.lRemove (List.map (RCod.dec cItem) (List.map (RCod.enc cItem) l)) (HMail.id (HAct.mail a)))))), hops := HMail.hops (HItem.mail (Prod.fst (Prod.snd (N.lRemove (List.map (RCod.dec cItem) (List.map (RCod.enc cItem) l)) (HMail.id (HAct.mail a)))))) : HMail }, lent := HItem.lent (Prod.fst (Prod.snd (N.lRemove (List.map (RCod.dec cItem) (List.map (RCod.enc cItem) l)) (HMail.id (HAct.mail a))))), again := HItem.again (Prod.fst (Prod.snd (N.lRemove (List.map (RCod.dec cItem) (List.map (RCod.enc cItem) l)) (HMail.id (HAct.mail a))))) : HItem }) (some { v := V.tup [V.agg [V.slc [Sh.int IntKind.u64, Sh.str, Sh.str, Sh.slc [Sh.str, Sh.int IntKind.u8, Sh.int IntKind.i64, Sh.str], Sh.str, Sh.int IntKind.u64, Sh.int IntKind.u8, Sh.bool, Sh.bool] (List.map (RCod.enc cItem) (Prod.fst (N.lRemove (List.map (RCod.dec cItem) (List.map (RCod.enc cItem) l)) (HMail.id (HAct.mail a)))))], V.slc [Sh.int IntKind.u64, Sh.str, Sh.str, Sh.slc [Sh.str, Sh.int IntKind.u8, Sh.int IntKind.i64, Sh.str], Sh.str, Sh.int IntKind.u64, Sh.int IntKind.u8, Sh.bool, Sh.bool] (List.map (RCod.enc cItem) (Prod.fst (N.lRemove (List.map (RCod.dec cItem) (List.map (RCod.enc cItem) q)) (HMail.id (HAct.mail a))))), V.bool (N.sameI { mail := { id := HMail.id (HItem.mail (Prod.fst (Prod.snd (N.lRemove (List.map (RCod.dec cItem) (List.map (RCod.enc cItem) l)) (HMail.id (HAct.mail a)))))), shop := HMail.shop (HItem.mail (Prod.fst (Prod.snd (N.lRemove (List.map (RCod.dec cItem) (List.map (RCod.enc cItem) l)) (HMail.id (HAct.mail a)))))), key := HMail.key (HItem.mail (Prod.fst (Prod.snd (N.lRemove (List.map (RCod.dec cItem) (List.map (RCod.enc cItem) l)) (HMail.id (HAct.mail a)))))), head := List.map (fun r => { key := V.toStr (List.getD r (0 : Nat) V.undef), kind := V.toInt (List.getD r (1 : Nat) V.undef), num := V.toInt (List.getD r (2 : Nat) V.undef), text := V.toStr (List.getD r (3 : Nat) V.undef) : HPair }) (List.map (fun p => [V.str (HPair.key p), V.int IntKind.u8 (HPair.kind p), V.int IntKind.i64 (HPair.num p), V.str (HPair.text p)]) (HMail.head (HItem.mail (Prod.fst (Prod.snd (N.lRemove (List.map (RCod.dec cItem) (List.map (RCod.enc cItem) l)) (HMail.id (HAct.mail a)))))))), body := HMail.body (HItem.mail (Prod.fst (Prod.snd (N.lRemove (List.map (RCod.dec cItem) (List.map (RCod.enc cItem) l)) (HMail.id (HAct.mail a)))))), due := HMail.due (HItem.mail (Prod.fst (Prod.snd (N.lRemove (List.map (RCod.dec cItem) (List.map (RCod.enc cItem) l)) (HMail.id (HAct.mail a)))))), hops := HMail.hops (HItem.mail (Prod.fst (Prod.snd (N.lRemove (List.map (RCod.dec cItem) (List.map (RCod.enc cItem) l)) (HMail.id (HAct.mail a)))))) : HMail }, lent := HItem.lent (Prod.fst (Prod.snd (N.lRemove (List.map (RCod.dec cItem) (List.map (RCod.enc cItem) l)) (HMail.id (HAct.mail a))))), again := HItem.again (Prod.fst (Prod.snd (N.lRemove (List.map (RCod.dec cItem) (List.map (RCod.enc cItem) l)) (HMail.id (HAct.mail a))))) : HItem } { mail := { id := HMail.id (HItem.mail (Prod.fst (Prod.snd (N.lRemove (List.map (RCod.dec cItem) (List.map (RCod.enc cItem) q)) (HMail.id (HAct.mail a)))))), shop := HMail.shop (HItem.mail (Prod.fst (Prod.snd (N.lRemove (List.map (RCod.dec cItem) (List.map (RCod.enc cItem) q)) (HMail.id (HAct.mail a)))))), key := HMail.key (HItem.mail (Prod.fst (Prod.snd (N.lRemove (List.map (RCod.dec cItem) (List.map (RCod.enc cItem) q)) (HMail.id (HAct.mail a)))))), head := List.map (fun r => { key := V.toStr (List.getD r (0 : Nat) V.undef), kind := V.toInt (List.getD r (1 : Nat) V.undef), num := V.toInt (List.getD r (2 : Nat) V.undef), text := V.toStr (List.getD r (3 : Nat) V.undef) : HPair }) (List.map (fun p => [V.str (HPair.key p), V.int IntKind.u8 (HPair.kind p), V.int IntKind.i64 (HPair.num p), V.str (HPair.text p)]) (HMail.head (HItem.mail (Prod.fst (Prod.snd (N.lRemove (List.map (RCod.dec cItem) (List.map (RCod.enc cItem) q)) (HMail.id (HAct.mail a)))))))), body := HMail.body (HItem.mail (Prod.fst (Prod.snd (N.lRemove (List.map (RCod.dec cItem) (List.map (RCod.enc cItem) q)) (HMail.id (HAct.mail a)))))), due := HMail.due (HItem.mail (Prod.fst (Prod.snd (N.lRemove (List.map (RCod.dec cItem) (List.map (RCod.enc cItem) q)) (HMail.id (HAct.mail a)))))), hops := HMail.hops (HItem.mail (Prod.fst (Prod.snd (N.lRemove (List.map (RCod.dec cItem) (List.map (RCod.enc cItem) q)) (HMail.id (HAct.mail a)))))) : HMail }, lent := HItem.lent (Prod.fst (Prod.snd (N.lRemove (List.map (RCod.dec cItem) (List.map (RCod.enc cItem) q)) (HMail.id (HAct.mail a))))), again := HItem.again (Prod.fst (Prod.snd (N.lRemove (List.map (RCod.dec cItem) (List.map (RCod.enc cItem) q)) (HMail.id (HAct.mail a))))) : HItem })], bx := [] : DRes }) (none)) (some { v := V.tup [V.agg [V.slc [Sh.int IntKind.u64, Sh.str, Sh.str, Sh.slc [Sh.str, Sh.int IntKind.u8, Sh.int IntKind.i64, Sh.str], Sh.str, Sh.int IntKind.u64, Sh.int IntKind.u8, Sh.bool, Sh.bool] (List.map (RCod.enc cItem) (Prod.fst (N.lRemove (List.map (RCod.dec cItem) (List.map (RCod.enc cItem) l)) (HMail.id (HAct.mail a)))))], V.slc [Sh.int IntKind.u64, Sh.str, Sh.str, Sh.slc [Sh.str, Sh.int IntKind.u8, Sh.int IntKind.i64, Sh.str], Sh.str, Sh.int IntKind.u64, Sh.int IntKind.u8, Sh.bool, Sh.bool] (List.map (RCod.enc cItem) (Prod.fst (N.lRemove (List.map (RCod.dec cItem) (List.map (RCod.enc cItem) q)) (HMail.id (HAct.mail a))))), V.bool false], bx := [] : DRes })) (none)) (none)) (cond (Int.tmod (HAct.op a) (6 : Int) == (5 : Int)) (cond (Nat.ble (List.length (List.map (RCod.dec cItem) (List.map (RCod.enc cItem) l))) (1000 : Nat)) (cond (Nat.ble (List.length (List.map (RCod.dec cItem) (List.map (RCod.enc cItem) q))) (1000 : Nat)) (some { v := V.tup [V.agg [V.slc [Sh.int IntKind.u64, Sh.str, Sh.str, Sh.slc [Sh.str, Sh.int IntKind.u8, Sh.int IntKind.i64, Sh.str], Sh.str, Sh.int IntKind.u64, Sh.int IntKind.u8, Sh.bool, Sh.bool] (List.map (RCod.enc cItem) (N.lWake (List.map (RCod.dec cItem) (List.map (RCod.enc cItem) l))))], V.slc [Sh.int IntKind.u64, Sh.str, Sh.str, Sh.slc [Sh.str, Sh.int IntKind.u8, Sh.int IntKind.i64, Sh.str], Sh.str, Sh.int IntKind.u64, Sh.int IntKind.u8, Sh.bool, Sh.bool] (List.map (RCod.enc cItem) (N.lWake (List.map (RCod.dec cItem) (List.map (RCod.enc cItem) q)))), V.bool true], bx := [] : DRes }) (none)) (none)) (cond (bif Nat.ble (List.length (List.map (RCod.dec cItem) (List.map (RCod.enc cItem) l))) (1000 : Nat) then smallM { id := HMail.id (HAct.mail a), shop := HMail.shop (HAct.mail a), key := HMail.key (HAct.mail a), head := List.map (fun r => { key := V.toStr (List.getD r (0 : Nat) V.undef), kind := V.toInt (List.getD r (1 : Nat) V.undef), num := V.toInt (List.getD r (2 : Nat) V.undef), text := V.toStr (List.getD r (3 : Nat) V.undef) : HPair }) (List.map (fun p => [V.str (HPair.key p), V.int IntKind.u8 (HPair.kind p), V.int IntKind.i64 (HPair.num p), V.str (HPair.text p)]) (HMail.head (HAct.mail a))), body := HMail.body (HAct.mail a), due := HMail.due (HAct.mail a), hops := HMail.hops (HAct.mail a) : HMail } else false) (cond (Nat.ble (List.length (List.map (RCod.dec cItem) (List.map (RCod.enc cItem) q))) (1000 : Nat)) (some { v := V.tup [V.agg [V.slc [Sh.int IntKind.u64, Sh.str, Sh.str, Sh.slc [Sh.str, Sh.int IntKind.u8, Sh.int IntKind.i64, Sh.str], Sh.str, Sh.int IntKind.u64, Sh.int IntKind.u8, Sh.bool, Sh.bool] (List.map (RCod.enc cItem) (Prod.fst (N.lPut (List.map (RCod.dec cItem) (List.map (RCod.enc cItem) l)) { mail := { id := HMail.id (HAct.mail a), shop := HMail.shop (HAct.mail a), key := HMail.key (HAct.mail a), head := List.map (fun r => { key := V.toStr (List.getD r (0 : Nat) V.undef), kind := V.toInt (List.getD r (1 : Nat) V.undef), num := V.toInt (List.getD r (2 : Nat) V.undef), text := V.toStr (List.getD r (3 : Nat) V.undef) : HPair }) (List.map (fun p => [V.str (HPair.key p), V.int IntKind.u8 (HPair.kind p), V.int IntKind.i64 (HPair.num p), V.str (HPair.text p)]) (HMail.head (HAct.mail a))), body := HMail.body (HAct.mail a), due := HMail.due (HAct.mail a), hops := HMail.hops (HAct.mail a) : HMail }, lent := false, again := false : HItem })))], V.slc [Sh.int IntKind.u64, Sh.str, Sh.str, Sh.slc [Sh.str, Sh.int IntKind.u8, Sh.int IntKind.i64, Sh.str], Sh.str, Sh.int IntKind.u64, Sh.int IntKind.u8, Sh.bool, Sh.bool] (List.map (RCod.enc cItem) (Prod.fst (N.rPut (List.map (RCod.dec cItem) (List.map (RCod.enc cItem) q)) { mail := { id := HMail.id (HAct.mail a), shop := HMail.shop (HAct.mail a), key := HMail.key (HAct.mail a), head := List.map (fun r => { key := V.toStr (List.getD r (0 : Nat) V.undef), kind := V.toInt (List.getD r (1 : Nat) V.undef), num := V.toInt (List.getD r (2 : Nat) V.undef), text := V.toStr (List.getD r (3 : Nat) V.undef) : HPair }) (List.map (fun p => [V.str (HPair.key p), V.int IntKind.u8 (HPair.kind p), V.int IntKind.i64 (HPair.num p), V.str (HPair.text p)]) (HMail.head (HAct.mail a))), body := HMail.body (HAct.mail a), due := HMail.due (HAct.mail a), hops := HMail.hops (HAct.mail a) : HMail }, lent := false, again := false : HItem }))), V.bool (Prod.snd (N.lPut (List.map (RCod.dec cItem) (List.map (RCod.enc cItem) l)) { mail := { id := HMail.id (HAct.mail a), shop := HMail.shop (HAct.mail a), key := HMail.key (HAct.mail a), head := List.map (fun r => { key := V.toStr (List.getD r (0 : Nat) V.undef), kind := V.toInt (List.getD r (1 : Nat) V.undef), num := V.toInt (List.getD r (2 : Nat) V.undef), text := V.toStr (List.getD r (3 : Nat) V.undef) : HPair }) (List.map (fun p => [V.str (HPair.key p), V.int IntKind.u8 (HPair.kind p), V.int IntKind.i64 (HPair.num p), V.str (HPair.text p)]) (HMail.head (HAct.mail a))), body := HMail.body (HAct.mail a), due := HMail.due (HAct.mail a), hops := HMail.hops (HAct.mail a) : HMail }, lent := false, again := false : HItem }) == Prod.snd (N.rPut (List.map (RCod.dec cItem) (List.map (RCod.enc cItem) q)) { mail := { id := HMail.id (HAct.mail a), shop := HMail.shop (HAct.mail a), key := HMail.key (HAct.mail a), head := List.map (fun r => { key := V.toStr (List.getD r (0 : Nat) V.undef), kind := V.toInt (List.getD r (1 : Nat) V.undef), num := V.toInt (List.getD r (2 : Nat) V.undef), text := V.toStr (List.getD r (3 : Nat) V.undef) : HPair }) (List.map (fun p => [V.str (HPair.key p), V.int IntKind.u8 (HPair.kind p), V.int IntKind.i64 (HPair.num p), V.str (HPair.text p)]) (HMail.head (HAct.mail a))), body := HMail.body (HAct.mail a), due := HMail.due (HAct.mail a), hops := HMail.hops (HAct.mail a) : HMail }, lent := false, again := false : HItem }))], bx := [] : DRes }) (none)) (none))))) := by kernel_rfl
theorem lend_small {l : List HItem} (h : l.all smallI = true) : smallI (N.lLend l).2.1 = true := by
  unfold N.lLend
  rcases ix_spec N.isReady l 0 (Int.le_refl _) with ⟨e, _⟩ | ⟨k, e, hk, _⟩
  · rw [e]; rfl
  · rw [e, ilt_f (by omega)]
    have e1 : (0 + (k : Int)).toNat = k := by omega
    rw [e1]
    exact small_at h hk
theorem remove_small {l : List HItem} (h : l.all smallI = true) (id : Int) : smallI (N.lRemove l id).2.1 = true := by
  unfold N.lRemove
  rcases ix_spec (N.isId id) l 0 (Int.le_refl _) with ⟨e, _⟩ | ⟨k, e, hk, _⟩
  · rw [e]; rfl
  · rw [e, ilt_f (by omega)]
    have e1 : (0 + (k : Int)).toNat = k := by omega
    rw [e1]
    exact small_at h hk
theorem ok_done18 : FnOk Tryz.prog 14 dDone18 := by
  refine den_okF (env_ok ((((((((((((TOk.nil _).cons ok_rAdd).cons ok_lAdd).cons ok_rWake).cons ok_lWake).cons ok_rRemove).cons ok_lRemove).cons ok_rBack).cons ok_lBack).cons ok_rSameI).cons ok_rLend).cons ok_lLend)) (E := eDone18) Tryz.func14 [] (by kernel_rfl) none0 fun a _ h => ?_
  obtain ⟨l, q, a⟩ := a
  obtain ⟨h1, h2⟩ := bcond h
  obtain ⟨h2, h3⟩ := bcond h2
  have h1 : smallL l = true := h1
  have h2 : Nat.ble q.length 1000 = true := h2
  have h3 : smallM a.mail = true := h3
  obtain ⟨_, hb, hs⟩ := smallL_of h1
  have s1 := lend_small hs
  have s2 := remove_small hs a.mail.id
  refine (q_done18 l q a).trans ?_
  show _ = some (⟨.tup [.agg (cLine.enc (N.done18 l q a).1), .slc [.int .u64, .str, .str, .slc [.str, .int .u8, .int .i64, .str], .str, .int .u64, .int .u8, .bool, .bool] ((N.done18 l q a).2.1.map cItem.enc), .bool (N.done18 l q a).2.2], [], []⟩ : DRes)
  simp only [fold_de, fold_itemD, dec_encs, h1, h2, h3, hb, s1, s2, cond_true]
  unfold N.done18
  cases Int.tmod a.op 6 == 2 with
  | true => cases (N.lLend l).2.2 <;> cases (N.lLend q).2.2 <;> rfl
  | false =>
    cases Int.tmod a.op 6 == 3 with
    | true => rfl
    | false =>
      cases Int.tmod a.op 6 == 4 with
      | true => cases (N.lRemove l a.mail.id).2.2 == (N.lRemove q a.mail.id).2.2 <;> rfl
      | false => cases Int.tmod a.op 6 == 5 <;> rfl
end Go.Ev

/- What the statement on waking reckons: it is true; lemmas; the function that writes numbers is a premise. -/
namespace Go.Ev
open Go Go.Proofs
set_option maxRecDepth 100000
-- FOLD

def smallA (a : HAct) : Bool := smallM a.mail
theorem done_act (l q : List HItem) (a : HAct) : (N.done18 l q a).1 = N.act l a := by
  unfold N.done18 N.act
  cases Int.tmod a.op 6 == 2 <;> cases Int.tmod a.op 6 == 3 <;> cases Int.tmod a.op 6 == 4 <;> cases Int.tmod a.op 6 == 5 <;> rfl
theorem all_rowA {p : HAct → Bool} {r : List (List V)} (h : (r.map cAct.dec).all p = true) {i : Nat} (hi : i < r.length) : p (cAct.dec (r.getD i [])) = true := by
  refine List.all_eq_true.1 h _ (List.mem_map_of_mem ?_)
  rw [List.getD_eq_getElem?_getD, List.getElem?_eq_getElem hi]
  exact List.getElem_mem hi
theorem acts_small {l : List HAct} (h : N.lightActs l = true) : l.all smallA = true := by
  induction l with
  | nil => rfl
  | cons a r ih =>
    obtain ⟨h1, h2⟩ := bcond h
    rw [List.all_cons, ih h2, Bool.and_true]
    obtain ⟨_, h1⟩ := bcond h1
    obtain ⟨_, h1⟩ := bcond h1
    obtain ⟨h1, _⟩ := bcond h1
    exact ble_t (Nat.le_trans (light_small h1) (by decide))
end Go.Ev
