/- What the statement on waking reckons: it is true; lemmas; the function that writes numbers is a premise. -/
import Derived.Test.YtpdaepodhfdplaaGreatDoorGe
import Derived.Test.YtpdaepodhfdplaaGreatDoorGc
import Derived.Test.YtpdaepodhfdplaaGreatDoorProg
import Derived.KernelRfl
import Derived.Shelf.Strings.Builder1
import Derived.RegionTactic
import Derived.Deep.RegionWith
namespace Go.Ev
open Go Go.Proofs
set_option maxRecDepth 100000
-- FOLD

def smallA (a : HAct) : Bool := smallM a.mail
def schLW7 : SSch := { fr := [(3, .ptr 10000 0 0), (20, .slc [.int .u8, .int .u64, .str, .str, .slc [.str, .int .u8, .int .i64, .str], .str, .int .u64, .int .u8]), (21, .int .i64), (22, .int .i64)], tab := [(10000, .var [.slc [.int .u64, .str, .str, .slc [.str, .int .u8, .int .i64, .str], .str, .int .u64, .int .u8, .bool, .bool]])] }
def gLW7 : List Leaf → (Ex → St → Option R) → Option R
  | [.r r, .i n, .i i, .r a], K => cond (n == r.length) (cond (i == 0) (cond (Nat.beq a.length 0) (cond (Nat.ble r.length 100) (cond ((r.map cAct.dec).all smallA)
      (K (.exit 0) { fr := [(3, .ptr 10000 0 0 0)], tab := [(10000, .var [.slc [.int .u64, .str, .str, .slc [.str, .int .u8, .int .i64, .str], .str, .int .u64, .int .u8, .bool, .bool] ((N.acts [] (r.map cAct.dec)).map cItem.enc)])] }) none) none) none) none) none
  | _, _ => none
def schLW14 : SSch := { fr := [(3, .ptr 10000 0 0), (6, .ptr 10001 0 0), (7, .slc [.int .u64, .str, .str, .slc [.str, .int .u8, .int .i64, .str], .str, .int .u64, .int .u8, .bool, .bool]), (39, .int .i64), (40, .int .i64)], tab := [(10000, .var [.slc [.int .u64, .str, .str, .slc [.str, .int .u8, .int .i64, .str], .str, .int .u64, .int .u8, .bool, .bool]]), (10001, .var [.slc [.int .u64, .str, .str, .slc [.str, .int .u8, .int .i64, .str], .str, .int .u64, .int .u8, .bool, .bool]])] }
def gLW14 : List Leaf → (Ex → St → Option R) → Option R
  | [.r w, .i n, .i i, .r x, .r y], K => cond (n == w.length) (cond (i == 0) (cond (Nat.ble w.length 1000) (cond (smallL (y.map cItem.dec)) (cond (N.wakesOk (y.map cItem.dec) (w.map cItem.dec))
      (K (.exit 2) { fr := [(3, .ptr 10000 0 0 0), (6, .ptr 10001 0 0 0), (7, .slc [.int .u64, .str, .str, .slc [.str, .int .u8, .int .i64, .str], .str, .int .u64, .int .u8, .bool, .bool] w)], tab := [(10000, .var [.slc [.int .u64, .str, .str, .slc [.str, .int .u8, .int .i64, .str], .str, .int .u64, .int .u8, .bool, .bool] x]), (10001, .var [.slc [.int .u64, .str, .str, .slc [.str, .int .u8, .int .i64, .str], .str, .int .u64, .int .u8, .bool, .bool] (cond (Nat.beq w.length 0) y ((N.lends (y.map cItem.dec) (w.map cItem.dec)).map cItem.enc))])] }) none) none) none) none) none
  | _, _ => none
noncomputable def eLW : Env := { env Tryz.prog [(11, dTrue), (12, dLight18), (14, dDone18), (27, dLWake), (15, dLAll), (28, dLLend), (20, dMailSame), (13, dLLen), (26, dSameL)] [(14, loopF schLW14 gLW14), (7, loopF schLW7 gLW7)] [(7, [(0, [3, 20, 21, 22]), (1, [3]), (1000, [2])]), (14, [(0, [3, 6, 7, 39, 40]), (3, [3, 6, 7]), (1000, [2])])] with fz := true }
theorem q_lw (l : List HAct) : evFn eLW 6 ((aOne (vSl cAct)).enc l) ([]) some =
 cond (Nat.ble (List.length (List.map (RCod.dec cAct) (List.map (RCod.enc cAct) l))) (9223372036854775807 : Nat)) (cond (!bif N.lightActs (List.map (RCod.dec cAct) (List.map (RCod.enc cAct) l)) then ile (↑(List.length (List.map (RCod.dec cAct) (List.map (RCod.enc cAct) l))) : Int) (100 : Int) else false) (some { v := V.bool true, bx := [] : DRes }) (cond ((↑(List.length (List.map (RCod.enc cAct) l)) : Int) == (↑(List.length (List.map (RCod.enc cAct) l)) : Int)) (cond (Nat.ble (List.length (List.map (RCod.enc cAct) l)) (100 : Nat)) (cond (List.all (List.map (RCod.dec cAct) (List.map (RCod.enc cAct) l)) smallA) (cond (Nat.ble (List.length (List.map (RCod.dec cItem) (List.map (RCod.enc cItem) (N.acts [] (List.map (RCod.dec cAct) (List.map (RCod.enc cAct) l)))))) (1000 : Nat)) (cond (smallL (List.map (RCod.dec cItem) (List.map (RCod.enc cItem) (N.acts [] (List.map (RCod.dec cAct) (List.map (RCod.enc cAct) l)))))) (cond ((↑(List.length (List.map (RCod.enc cItem) (List.map (RCod.dec cItem) (List.map (RCod.enc cItem) (N.acts [] (List.map (RCod.dec cAct) (List.map (RCod.enc cAct) l))))))) : Int) == (↑(List.length (List.map (RCod.enc cItem) (List.map (RCod.dec cItem) (List.map (RCod.enc cItem) (N.acts [] (List.map (RCod.dec cAct) (List.map (RCod.enc cAct) l))))))) : Int)) (cond (Nat.ble (List.length (List.map (RCod.enc cItem) (List.map (RCod.dec cItem) (List.map (RCod.enc cItem) (N.acts [] (List.map (RCod.dec cAct) (List.map (RCod.enc cAct) l))))))) (1000 : Nat)) (cond (smallL (List.map (RCod.dec cItem) (List.map (RCod.enc cItem) (N.lWake (List.map (RCod.dec cItem) (List.map (RCod.enc cItem) (N.acts [] (List.map (RCod.dec cAct) (List.map (RCod.enc cAct) l))))))))) (cond (N.wakesOk (List.map (RCod.dec cItem) (List.map (RCod.enc cItem) (N.lWake (List.map (RCod.dec cItem) (List.map (RCod.enc cItem) (N.acts [] (List.map (RCod.dec cAct) (List.map (RCod.enc cAct) l)))))))) (List.map (RCod.dec cItem) (List.map (RCod.enc cItem) (List.map (RCod.dec cItem) (List.map (RCod.enc cItem) (N.acts [] (List.map (RCod.dec cAct) (List.map (RCod.enc cAct) l)))))))) (cond (smallL (List.map (RCod.dec cItem) (bif Nat.beq (List.length (List.map (RCod.enc cItem) (List.map (RCod.dec cItem) (List.map (RCod.enc cItem) (N.acts [] (List.map (RCod.dec cAct) (List.map (RCod.enc cAct) l))))))) (0 : Nat) then List.map (RCod.enc cItem) (N.lWake (List.map (RCod.dec cItem) (List.map (RCod.enc cItem) (N.acts [] (List.map (RCod.dec cAct) (List.map (RCod.enc cAct) l)))))) else List.map (RCod.enc cItem) (N.lends (List.map (RCod.dec cItem) (List.map (RCod.enc cItem) (N.lWake (List.map (RCod.dec cItem) (List.map (RCod.enc cItem) (N.acts [] (List.map (RCod.dec cAct) (List.map (RCod.enc cAct) l)))))))) (List.map (RCod.dec cItem) (List.map (RCod.enc cItem) (List.map (RCod.dec cItem) (List.map (RCod.enc cItem) (N.acts [] (List.map (RCod.dec cAct) (List.map (RCod.enc cAct) l))))))))))) (cond (!Prod.snd (Prod.snd (N.lLend (List.map (RCod.dec cItem) (bif Nat.beq (List.length (List.map (RCod.enc cItem) (List.map (RCod.dec cItem) (List.map (RCod.enc cItem) (N.acts [] (List.map (RCod.dec cAct) (List.map (RCod.enc cAct) l))))))) (0 : Nat) then List.map (RCod.enc cItem) (N.lWake (List.map (RCod.dec cItem) (List.map (RCod.enc cItem) (N.acts [] (List.map (RCod.dec cAct) (List.map (RCod.enc cAct) l)))))) else List.map (RCod.enc cItem) (N.lends (List.map (RCod.dec cItem) (List.map (RCod.enc cItem) (N.lWake (List.map (RCod.dec cItem) (List.map (RCod.enc cItem) (N.acts [] (List.map (RCod.dec cAct) (List.map (RCod.enc cAct) l)))))))) (List.map (RCod.dec cItem) (List.map (RCod.enc cItem) (List.map (RCod.dec cItem) (List.map (RCod.enc cItem) (N.acts [] (List.map (RCod.dec cAct) (List.map (RCod.enc cAct) l))))))))))))) (cond ((↑(List.length (List.map (RCod.dec cItem) (bif Nat.beq (List.length (List.map (RCod.enc cItem) (List.map (RCod.dec cItem) (List.map (RCod.enc cItem) (N.acts [] (List.map (RCod.dec cAct) (List.map (RCod.enc cAct) l))))))) (0 : Nat) then List.map (RCod.enc cItem) (N.lWake (List.map (RCod.dec cItem) (List.map (RCod.enc cItem) (N.acts [] (List.map (RCod.dec cAct) (List.map (RCod.enc cAct) l)))))) else List.map (RCod.enc cItem) (N.lends (List.map (RCod.dec cItem) (List.map (RCod.enc cItem) (N.lWake (List.map (RCod.dec cItem) (List.map (RCod.enc cItem) (N.acts [] (List.map (RCod.dec cAct) (List.map (RCod.enc cAct) l)))))))) (List.map (RCod.dec cItem) (List.map (RCod.enc cItem) (List.map (RCod.dec cItem) (List.map (RCod.enc cItem) (N.acts [] (List.map (RCod.dec cAct) (List.map (RCod.enc cAct) l))))))))))) : Int) == (↑(List.length (List.map (RCod.enc cItem) (List.map (RCod.dec cItem) (List.map (RCod.enc cItem) (N.acts [] (List.map (RCod.dec cAct) (List.map (RCod.enc cAct) l))))))) : Int)) (cond (Nat.ble (List.length (List.map (RCod.dec cItem) (List.map (RCod.enc cItem) (N.acts [] (List.map (RCod.dec cAct) (List.map (RCod.enc cAct) l)))))) (1000 : Nat)) (cond (Nat.ble (List.length (List.map (RCod.dec cItem) (List.map (RCod.enc cItem) (N.acts [] (List.map (RCod.dec cAct) (List.map (RCod.enc cAct) l)))))) (1000 : Nat)) (cond (Nat.ble (List.length (List.map (RCod.dec cItem) (List.map (RCod.enc cItem) (N.lWake (List.map (RCod.dec cItem) (List.map (RCod.enc cItem) (N.acts [] (List.map (RCod.dec cAct) (List.map (RCod.enc cAct) l))))))))) (1000 : Nat)) (cond (smallL (List.map (RCod.dec cItem) (List.map (RCod.enc cItem) (N.lWake (List.map (RCod.dec cItem) (List.map (RCod.enc cItem) (N.acts [] (List.map (RCod.dec cAct) (List.map (RCod.enc cAct) l))))))))) (some { v := V.bool (N.sameL (List.map (RCod.dec cItem) (List.map (RCod.enc cItem) (N.lWake (List.map (RCod.dec cItem) (List.map (RCod.enc cItem) (N.acts [] (List.map (RCod.dec cAct) (List.map (RCod.enc cAct) l)))))))) (List.map (RCod.dec cItem) (List.map (RCod.enc cItem) (N.lWake (List.map (RCod.dec cItem) (List.map (RCod.enc cItem) (N.lWake (List.map (RCod.dec cItem) (List.map (RCod.enc cItem) (N.acts [] (List.map (RCod.dec cAct) (List.map (RCod.enc cAct) l)))))))))))), bx := [] : DRes }) (none)) (none)) (none)) (none)) (some { v := V.bool false, bx := [] : DRes })) (some { v := V.bool false, bx := [] : DRes })) (none)) (none)) (none)) (none)) (none)) (none)) (none)) (none)) (none)) (none))) (none) := by kernel_rfl
theorem q_lwR7 (r : List (List V)) (n i : Int) (a : List (List V)) (K : Ex → St → Option R) : evRound eLW 6 7 { fr := [(3, .ptr 10000 0 0 0), (20, .slc [.int .u8, .int .u64, .str, .str, .slc [.str, .int .u8, .int .i64, .str], .str, .int .u64, .int .u8] r), (21, .int .i64 n), (22, .int .i64 i)], tab := [(10000, .var [.slc [.int .u64, .str, .str, .slc [.str, .int .u8, .int .i64, .str], .str, .int .u64, .int .u8, .bool, .bool] a])] } K =
 cond (ilt i n) (cond (decide ((0 : Int) ≤ i ∧ i < (↑(List.length r) : Int))) (cond (bif smallL (List.map (RCod.dec cItem) a) then smallM { id := V.toInt (List.getD (List.getD r (Int.toNat i) []) (1 : Nat) V.undef), shop := V.toStr (List.getD (List.getD r (Int.toNat i) []) (2 : Nat) V.undef), key := V.toStr (List.getD (List.getD r (Int.toNat i) []) (3 : Nat) V.undef), head := List.map (fun r => { key := V.toStr (List.getD r (0 : Nat) V.undef), kind := V.toInt (List.getD r (1 : Nat) V.undef), num := V.toInt (List.getD r (2 : Nat) V.undef), text := V.toStr (List.getD r (3 : Nat) V.undef) : HPair }) (V.toRows (List.getD (List.getD r (Int.toNat i) []) (4 : Nat) V.undef)), body := V.toStr (List.getD (List.getD r (Int.toNat i) []) (5 : Nat) V.undef), due := V.toInt (List.getD (List.getD r (Int.toNat i) []) (6 : Nat) V.undef), hops := V.toInt (List.getD (List.getD r (Int.toNat i) []) (7 : Nat) V.undef) : HMail } else false) (K Ex.normal { fr := [((3 : Nat), V.ptr (10000 : Nat) (0 : Nat) (0 : Nat) (0 : Nat)), ((20 : Nat), V.slc [Sh.int IntKind.u8, Sh.int IntKind.u64, Sh.str, Sh.str, Sh.slc [Sh.str, Sh.int IntKind.u8, Sh.int IntKind.i64, Sh.str], Sh.str, Sh.int IntKind.u64, Sh.int IntKind.u8] r), ((21 : Nat), V.int IntKind.i64 n), ((22 : Nat), V.int IntKind.i64 (IntKind.wrap IntKind.i64 (i + (1 : Int))))], tab := [((10000 : Nat), Box.var [V.slc [Sh.int IntKind.u64, Sh.str, Sh.str, Sh.slc [Sh.str, Sh.int IntKind.u8, Sh.int IntKind.i64, Sh.str], Sh.str, Sh.int IntKind.u64, Sh.int IntKind.u8, Sh.bool, Sh.bool] (List.map (RCod.enc cItem) (Prod.fst (N.done18 (List.map (RCod.dec cItem) a) (List.map (RCod.dec cItem) []) { op := V.toInt (List.getD (List.getD r (Int.toNat i) []) (0 : Nat) V.undef), mail := { id := V.toInt (List.getD (List.getD r (Int.toNat i) []) (1 : Nat) V.undef), shop := V.toStr (List.getD (List.getD r (Int.toNat i) []) (2 : Nat) V.undef), key := V.toStr (List.getD (List.getD r (Int.toNat i) []) (3 : Nat) V.undef), head := List.map (fun r => { key := V.toStr (List.getD r (0 : Nat) V.undef), kind := V.toInt (List.getD r (1 : Nat) V.undef), num := V.toInt (List.getD r (2 : Nat) V.undef), text := V.toStr (List.getD r (3 : Nat) V.undef) : HPair }) (V.toRows (List.getD (List.getD r (Int.toNat i) []) (4 : Nat) V.undef)), body := V.toStr (List.getD (List.getD r (Int.toNat i) []) (5 : Nat) V.undef), due := V.toInt (List.getD (List.getD r (Int.toNat i) []) (6 : Nat) V.undef), hops := V.toInt (List.getD (List.getD r (Int.toNat i) []) (7 : Nat) V.undef) : HMail } : HAct })))])] : St }) (none)) (none)) (K (Ex.exit (0 : Nat)) { fr := [((3 : Nat), V.ptr (10000 : Nat) (0 : Nat) (0 : Nat) (0 : Nat))], tab := [((10000 : Nat), Box.var [V.slc [Sh.int IntKind.u64, Sh.str, Sh.str, Sh.slc [Sh.str, Sh.int IntKind.u8, Sh.int IntKind.i64, Sh.str], Sh.str, Sh.int IntKind.u64, Sh.int IntKind.u8, Sh.bool, Sh.bool] a])] : St }) := by kernel_rfl
theorem q_lwR14 (w : List (List V)) (n i : Int) (x y : List (List V)) (K : Ex → St → Option R) : evRound eLW 6 14 { fr := [(3, .ptr 10000 0 0 0), (6, .ptr 10001 0 0 0), (7, .slc [.int .u64, .str, .str, .slc [.str, .int .u8, .int .i64, .str], .str, .int .u64, .int .u8, .bool, .bool] w), (39, .int .i64 n), (40, .int .i64 i)], tab := [(10000, .var [.slc [.int .u64, .str, .str, .slc [.str, .int .u8, .int .i64, .str], .str, .int .u64, .int .u8, .bool, .bool] x]), (10001, .var [.slc [.int .u64, .str, .str, .slc [.str, .int .u8, .int .i64, .str], .str, .int .u64, .int .u8, .bool, .bool] y])] } K =
 cond (ilt i n) (cond (smallL (List.map (RCod.dec cItem) y)) (cond (!Prod.snd (Prod.snd (N.lLend (List.map (RCod.dec cItem) y)))) (K Ex.ret { fr := [((2 : Nat), V.bool false)], tab := [] : St }) (cond (decide ((0 : Int) ≤ i ∧ i < (↑(List.length w) : Int))) (cond (smallM { id := HMail.id (HItem.mail (Prod.fst (Prod.snd (N.lLend (List.map (RCod.dec cItem) y))))), shop := HMail.shop (HItem.mail (Prod.fst (Prod.snd (N.lLend (List.map (RCod.dec cItem) y))))), key := HMail.key (HItem.mail (Prod.fst (Prod.snd (N.lLend (List.map (RCod.dec cItem) y))))), head := List.map (fun r => { key := V.toStr (List.getD r (0 : Nat) V.undef), kind := V.toInt (List.getD r (1 : Nat) V.undef), num := V.toInt (List.getD r (2 : Nat) V.undef), text := V.toStr (List.getD r (3 : Nat) V.undef) : HPair }) (List.map (fun p => [V.str (HPair.key p), V.int IntKind.u8 (HPair.kind p), V.int IntKind.i64 (HPair.num p), V.str (HPair.text p)]) (HMail.head (HItem.mail (Prod.fst (Prod.snd (N.lLend (List.map (RCod.dec cItem) y))))))), body := HMail.body (HItem.mail (Prod.fst (Prod.snd (N.lLend (List.map (RCod.dec cItem) y))))), due := HMail.due (HItem.mail (Prod.fst (Prod.snd (N.lLend (List.map (RCod.dec cItem) y))))), hops := HMail.hops (HItem.mail (Prod.fst (Prod.snd (N.lLend (List.map (RCod.dec cItem) y))))) : HMail }) (cond (!N.mailSame { id := HMail.id (HItem.mail (Prod.fst (Prod.snd (N.lLend (List.map (RCod.dec cItem) y))))), shop := HMail.shop (HItem.mail (Prod.fst (Prod.snd (N.lLend (List.map (RCod.dec cItem) y))))), key := HMail.key (HItem.mail (Prod.fst (Prod.snd (N.lLend (List.map (RCod.dec cItem) y))))), head := List.map (fun r => { key := V.toStr (List.getD r (0 : Nat) V.undef), kind := V.toInt (List.getD r (1 : Nat) V.undef), num := V.toInt (List.getD r (2 : Nat) V.undef), text := V.toStr (List.getD r (3 : Nat) V.undef) : HPair }) (List.map (fun p => [V.str (HPair.key p), V.int IntKind.u8 (HPair.kind p), V.int IntKind.i64 (HPair.num p), V.str (HPair.text p)]) (HMail.head (HItem.mail (Prod.fst (Prod.snd (N.lLend (List.map (RCod.dec cItem) y))))))), body := HMail.body (HItem.mail (Prod.fst (Prod.snd (N.lLend (List.map (RCod.dec cItem) y))))), due := HMail.due (HItem.mail (Prod.fst (Prod.snd (N.lLend (List.map (RCod.dec cItem) y))))), hops := HMail.hops (HItem.mail (Prod.fst (Prod.snd (N.lLend (List.map (RCod.dec cItem) y))))) : HMail } { id := V.toInt (List.getD (List.getD w (Int.toNat i) []) (0 : Nat) V.undef), shop := V.toStr (List.getD (List.getD w (Int.toNat i) []) (1 : Nat) V.undef), key := V.toStr (List.getD (List.getD w (Int.toNat i) []) (2 : Nat) V.undef), head := List.map (fun r => { key := V.toStr (List.getD r (0 : Nat) V.undef), kind := V.toInt (List.getD r (1 : Nat) V.undef), num := V.toInt (List.getD r (2 : Nat) V.undef), text := V.toStr (List.getD r (3 : Nat) V.undef) : HPair }) (V.toRows (List.getD (List.getD w (Int.toNat i) []) (3 : Nat) V.undef)), body := V.toStr (List.getD (List.getD w (Int.toNat i) []) (4 : Nat) V.undef), due := V.toInt (List.getD (List.getD w (Int.toNat i) []) (5 : Nat) V.undef), hops := V.toInt (List.getD (List.getD w (Int.toNat i) []) (6 : Nat) V.undef) : HMail }) (K Ex.ret { fr := [((2 : Nat), V.bool false)], tab := [] : St }) (cond (decide ((0 : Int) ≤ i ∧ i < (↑(List.length w) : Int))) (cond (V.toBool (List.getD (List.getD w (Int.toNat i) []) (8 : Nat) V.undef)) (cond (!HItem.again (Prod.fst (Prod.snd (N.lLend (List.map (RCod.dec cItem) y)))) == true) (K Ex.ret { fr := [((2 : Nat), V.bool false)], tab := [] : St }) (K Ex.normal { fr := [((3 : Nat), V.ptr (10000 : Nat) (0 : Nat) (0 : Nat) (0 : Nat)), ((6 : Nat), V.ptr (10001 : Nat) (0 : Nat) (0 : Nat) (0 : Nat)), ((7 : Nat), V.slc [Sh.int IntKind.u64, Sh.str, Sh.str, Sh.slc [Sh.str, Sh.int IntKind.u8, Sh.int IntKind.i64, Sh.str], Sh.str, Sh.int IntKind.u64, Sh.int IntKind.u8, Sh.bool, Sh.bool] w), ((39 : Nat), V.int IntKind.i64 n), ((40 : Nat), V.int IntKind.i64 (IntKind.wrap IntKind.i64 (i + (1 : Int))))], tab := [((10000 : Nat), Box.var [V.slc [Sh.int IntKind.u64, Sh.str, Sh.str, Sh.slc [Sh.str, Sh.int IntKind.u8, Sh.int IntKind.i64, Sh.str], Sh.str, Sh.int IntKind.u64, Sh.int IntKind.u8, Sh.bool, Sh.bool] x]), ((10001 : Nat), Box.var [V.slc [Sh.int IntKind.u64, Sh.str, Sh.str, Sh.slc [Sh.str, Sh.int IntKind.u8, Sh.int IntKind.i64, Sh.str], Sh.str, Sh.int IntKind.u64, Sh.int IntKind.u8, Sh.bool, Sh.bool] (List.map (RCod.enc cItem) (Prod.fst (N.lLend (List.map (RCod.dec cItem) y))))])] : St })) (cond (decide ((0 : Int) ≤ i ∧ i < (↑(List.length w) : Int))) (cond (!HItem.again (Prod.fst (Prod.snd (N.lLend (List.map (RCod.dec cItem) y)))) == V.toBool (List.getD (List.getD w (Int.toNat i) []) (7 : Nat) V.undef)) (K Ex.ret { fr := [((2 : Nat), V.bool false)], tab := [] : St }) (K Ex.normal { fr := [((3 : Nat), V.ptr (10000 : Nat) (0 : Nat) (0 : Nat) (0 : Nat)), ((6 : Nat), V.ptr (10001 : Nat) (0 : Nat) (0 : Nat) (0 : Nat)), ((7 : Nat), V.slc [Sh.int IntKind.u64, Sh.str, Sh.str, Sh.slc [Sh.str, Sh.int IntKind.u8, Sh.int IntKind.i64, Sh.str], Sh.str, Sh.int IntKind.u64, Sh.int IntKind.u8, Sh.bool, Sh.bool] w), ((39 : Nat), V.int IntKind.i64 n), ((40 : Nat), V.int IntKind.i64 (IntKind.wrap IntKind.i64 (i + (1 : Int))))], tab := [((10000 : Nat), Box.var [V.slc [Sh.int IntKind.u64, Sh.str, Sh.str, Sh.slc [Sh.str, Sh.int IntKind.u8, Sh.int IntKind.i64, Sh.str], Sh.str, Sh.int IntKind.u64, Sh.int IntKind.u8, Sh.bool, Sh.bool] x]), ((10001 : Nat), Box.var [V.slc [Sh.int IntKind.u64, Sh.str, Sh.str, Sh.slc [Sh.str, Sh.int IntKind.u8, Sh.int IntKind.i64, Sh.str], Sh.str, Sh.int IntKind.u64, Sh.int IntKind.u8, Sh.bool, Sh.bool] (List.map (RCod.enc cItem) (Prod.fst (N.lLend (List.map (RCod.dec cItem) y))))])] : St })) (none))) (none))) (none)) (none))) (none)) (K (Ex.exit (2 : Nat)) { fr := [((3 : Nat), V.ptr (10000 : Nat) (0 : Nat) (0 : Nat) (0 : Nat)), ((6 : Nat), V.ptr (10001 : Nat) (0 : Nat) (0 : Nat) (0 : Nat)), ((7 : Nat), V.slc [Sh.int IntKind.u64, Sh.str, Sh.str, Sh.slc [Sh.str, Sh.int IntKind.u8, Sh.int IntKind.i64, Sh.str], Sh.str, Sh.int IntKind.u64, Sh.int IntKind.u8, Sh.bool, Sh.bool] w)], tab := [((10000 : Nat), Box.var [V.slc [Sh.int IntKind.u64, Sh.str, Sh.str, Sh.slc [Sh.str, Sh.int IntKind.u8, Sh.int IntKind.i64, Sh.str], Sh.str, Sh.int IntKind.u64, Sh.int IntKind.u8, Sh.bool, Sh.bool] x]), ((10001 : Nat), Box.var [V.slc [Sh.int IntKind.u64, Sh.str, Sh.str, Sh.slc [Sh.str, Sh.int IntKind.u8, Sh.int IntKind.i64, Sh.str], Sh.str, Sh.int IntKind.u64, Sh.int IntKind.u8, Sh.bool, Sh.bool] y])] : St }) := by kernel_rfl
theorem done_act (l q : List HItem) (a : HAct) : (N.done18 l q a).1 = N.act l a := by
  unfold N.done18 N.act
  cases Int.tmod a.op 6 == 2 <;> cases Int.tmod a.op 6 == 3 <;> cases Int.tmod a.op 6 == 4 <;> cases Int.tmod a.op 6 == 5 <;> rfl
theorem all_rowA {p : HAct → Bool} {r : List (List V)} (h : (r.map cAct.dec).all p = true) {i : Nat} (hi : i < r.length) : p (cAct.dec (r.getD i [])) = true := by
  refine List.all_eq_true.1 h _ (List.mem_map_of_mem ?_)
  rw [List.getD_eq_getElem?_getD, List.getElem?_eq_getElem hi]
  exact List.getElem_mem hi
theorem ok_lw7 : RoundsOk eLW 6 7 := by
  refine rounds_of rfl fun l K q h => ?_
  unfold gLW7 at h
  split at h
  · rename_i r n i a
    have h1 := (cond_none h).1; replace h := (cond_none h).2; have h2 := (cond_none h).1; replace h := (cond_none h).2; have h3 := (cond_none h).1; replace h := (cond_none h).2; have h4 := (cond_none h).1; replace h := (cond_none h).2; have h5 := (cond_none h).1; replace h := (cond_none h).2
    have e1 := ieq_of h1
    have e2 := ieq_of h2
    have e3 := List.eq_nil_of_length_eq_zero (nbeq_of h3)
    subst e1 e2 e3
    have h4 : r.length ≤ 100 := ble_of h4
    have main := range_ind (E := eLW) (f := 6) (id := 7) (A := List HItem) r (fun l i => { fr := [(3, .ptr 10000 0 0 0), (20, .slc [.int .u8, .int .u64, .str, .str, .slc [.str, .int .u8, .int .i64, .str], .str, .int .u64, .int .u8] r), (21, .int .i64 r.length), (22, .int .i64 i)], tab := [(10000, .var [.slc [.int .u64, .str, .str, .slc [.str, .int .u8, .int .i64, .str], .str, .int .u64, .int .u8, .bool, .bool] (l.map cItem.enc)])] })
      (fun l _ => LInv l)
      (fun l rows K => K (.exit 0) { fr := [(3, .ptr 10000 0 0 0)], tab := [(10000, .var [.slc [.int .u64, .str, .str, .slc [.str, .int .u8, .int .i64, .str], .str, .int .u64, .int .u8, .bool, .bool] ((N.acts l (rows.map cAct.dec)).map cItem.enc)])] }) (fun l i hx hi => ?_) (fun l _ => ?_) [] 0 (Int.le_refl _) (by omega) linv0 K q (by assumption)
    · exact main
    · have hs : smallM (cAct.dec (r.getD i [])).mail = true := all_rowA h5 hi
      have hn : N.acts l ((r.getD i [] :: r.drop (i + 1)).map cAct.dec) = N.acts (N.act l (cAct.dec (r.getD i []))) ((r.drop (i + 1)).map cAct.dec) := rfl
      refine .inl ⟨N.act l (cAct.dec (r.getD i [])), act_linv hx hs, fun K => ?_, fun K => by rw [hn]⟩
      rw [q_lwR7]
      simp (disch := omega) only [evs, Int.toNat_natCast, fold_act, fold_actM, dec_encs, hx.smallL, hs, List.length_nil, done_act]
      rfl
    · refine ⟨.exit 0, _, by simp, fun K => ?_, fun K => rfl⟩
      rw [q_lwR7]
      simp (disch := omega) only [evs]
      rfl
  · cases h
theorem lend_all {l : List HItem} (h : l.all smallI = true) : (N.lLend l).1.all smallI = true := by
  unfold N.lLend
  rcases ix_spec N.isReady l 0 (Int.le_refl _) with ⟨h1, _⟩ | ⟨k, h1, hk, _⟩
  · rw [h1]; exact h
  · rw [h1, show ilt (0 + (k : Int)) 0 = false from ilt_f (by omega)]
    have e : (0 + (k : Int)).toNat = k := by omega
    rw [e]
    exact small_of_mails (set_ids (f := N.lendI) (fun _ => rfl) l k hk) h
theorem lend_smallL {l : List HItem} (h : smallL l = true) : smallL (N.lLend l).1 = true := by
  obtain ⟨h1, _, h3⟩ := smallL_of h
  unfold smallL
  rw [lend_all h3, ble_t (by rw [lend_says.2]; exact h1)]; rfl
theorem ok_lw14 : RoundsOk eLW 6 14 := by
  refine rounds_of rfl fun l K q h => ?_
  unfold gLW14 at h
  split at h
  · rename_i w n i x y
    have h1 := (cond_none h).1; replace h := (cond_none h).2; have h2 := (cond_none h).1; replace h := (cond_none h).2; have h3 := (cond_none h).1; replace h := (cond_none h).2; have h4 := (cond_none h).1; replace h := (cond_none h).2; have h5 := (cond_none h).1; replace h := (cond_none h).2
    have e1 := ieq_of h1
    have e2 := ieq_of h2
    subst e1 e2
    have h3 : w.length ≤ 1000 := ble_of h3
    have main := loop_ind (E := eLW) (f := 6) (id := 14) (σ := Nat × List (List V)) (fun s => { fr := [(3, .ptr 10000 0 0 0), (6, .ptr 10001 0 0 0), (7, .slc [.int .u64, .str, .str, .slc [.str, .int .u8, .int .i64, .str], .str, .int .u64, .int .u8, .bool, .bool] w), (39, .int .i64 w.length), (40, .int .i64 (s.1 : Int))], tab := [(10000, .var [.slc [.int .u64, .str, .str, .slc [.str, .int .u8, .int .i64, .str], .str, .int .u64, .int .u8, .bool, .bool] x]), (10001, .var [.slc [.int .u64, .str, .str, .slc [.str, .int .u8, .int .i64, .str], .str, .int .u64, .int .u8, .bool, .bool] s.2])] })
      (fun s => s.1 ≤ w.length ∧ smallL (s.2.map cItem.dec) = true ∧ N.wakesOk (s.2.map cItem.dec) ((w.drop s.1).map cItem.dec) = true) (fun s => w.length - s.1)
      (fun s K => K (.exit 2) { fr := [(3, .ptr 10000 0 0 0), (6, .ptr 10001 0 0 0), (7, .slc [.int .u64, .str, .str, .slc [.str, .int .u8, .int .i64, .str], .str, .int .u64, .int .u8, .bool, .bool] w)], tab := [(10000, .var [.slc [.int .u64, .str, .str, .slc [.str, .int .u8, .int .i64, .str], .str, .int .u64, .int .u8, .bool, .bool] x]), (10001, .var [.slc [.int .u64, .str, .str, .slc [.str, .int .u8, .int .i64, .str], .str, .int .u64, .int .u8, .bool, .bool] (cond (Nat.beq (w.length - s.1) 0) s.2 ((N.lends (s.2.map cItem.dec) ((w.drop s.1).map cItem.dec)).map cItem.enc))])] })
      (fun s hs => ?_) (0, y) ⟨Nat.zero_le _, h4, h5⟩ K q (by assumption)
    · exact main
    · obtain ⟨i, y⟩ := s
      obtain ⟨k1, k2, k3⟩ := hs
      simp only at k1 k2 k3 ⊢
      by_cases hl : i < w.length
      · rw [drop_decI hl] at k3
        obtain ⟨g1, k3⟩ := bcond k3
        obtain ⟨g2, k3⟩ := bcond k3
        obtain ⟨g3, g4⟩ := bcond k3
        have hsm : smallI (N.lLend (y.map cItem.dec)).2.1 = true := lend_small (smallL_of k2).2.2
        have hsm : smallM (N.lLend (y.map cItem.dec)).2.1.mail = true := hsm
        have hm : cMail.dec (w.getD i []) = (cItem.dec (w.getD i [])).mail := rfl
        refine .inl ⟨(i + 1, (N.lLend (y.map cItem.dec)).1.map cItem.enc), ⟨hl, by simp only [dec_encs]; exact lend_smallL k2, by simp only [dec_encs]; exact g4⟩, by simp only; omega, fun K => ?_, fun K => ?_⟩
        · rw [q_lwR14]
          have g3' : (N.lLend (y.map cItem.dec)).2.1.again = cond (V.toBool (List.getD (List.getD w i []) 8 V.undef)) true (V.toBool (List.getD (List.getD w i []) 7 V.undef)) := by
            have := beq_iff_eq.1 g3
            exact this
          simp (disch := omega) only [evs, Int.toNat_natCast, k2, g1, g2, fold_de, fold_mail, hm, hsm, Bool.not_true]
          rw [g3']
          cases V.toBool (List.getD (List.getD w i []) 8 V.undef) <;> cases V.toBool (List.getD (List.getD w i []) 7 V.undef) <;> rfl
        · rw [drop_decI hl]
          have e : N.lends (y.map cItem.dec) (cItem.dec (w.getD i []) :: (w.drop (i + 1)).map cItem.dec) = N.lends (N.lLend (y.map cItem.dec)).1 ((w.drop (i + 1)).map cItem.dec) := rfl
          have hb : Nat.beq (w.length - i) 0 = false := by
            rw [Bool.eq_false_iff]; intro hh; have := nbeq_of hh; omega
          rw [e, hb, cond_false]
          simp only [dec_encs]
          cases hc : Nat.beq (w.length - (i + 1)) 0 with
          | false => rfl
          | true =>
            have := nbeq_of hc
            rw [List.drop_eq_nil_of_le (by omega)]; rfl
      · have ei : i = w.length := by omega
        subst ei
        refine .inr ⟨.exit 2, { fr := [(3, .ptr 10000 0 0 0), (6, .ptr 10001 0 0 0), (7, .slc [.int .u64, .str, .str, .slc [.str, .int .u8, .int .i64, .str], .str, .int .u64, .int .u8, .bool, .bool] w)], tab := [(10000, .var [.slc [.int .u64, .str, .str, .slc [.str, .int .u8, .int .i64, .str], .str, .int .u64, .int .u8, .bool, .bool] x]), (10001, .var [.slc [.int .u64, .str, .str, .slc [.str, .int .u8, .int .i64, .str], .str, .int .u64, .int .u8, .bool, .bool] y])] }, by simp, fun K => ?_, fun K => ?_⟩
        · rw [q_lwR14]
          simp (disch := omega) only [evs]
        · rw [Nat.sub_self]; rfl
  · cases h
theorem acts_small {l : List HAct} (h : N.lightActs l = true) : l.all smallA = true := by
  induction l with
  | nil => rfl
  | cons a r ih =>
    obtain ⟨h1, h2⟩ := bcond h
    rw [List.all_cons, ih h2, Bool.and_true]
    obtain ⟨_, h1⟩ := bcond h1
    obtain ⟨_, h1⟩ := bcond h1
    obtain ⟨h1, _⟩ := bcond h1
    exact ble_t (Nat.le_trans (light_small h1) (by decide))
theorem ok_lawLW (hN : FnOk Tryz.prog 158 dOutNum) : FnOk Tryz.prog 6 (den (aOne (vSl cAct)) bNil (oV vBool) (fun l _ => Nat.ble l.length 9223372036854775807) fun _ _ => (true, ())) := by
  refine den_okF (show TOk Tryz.prog _ from (((((((((TOk.nil _).cons ok_sameL).cons ok_lLen).cons ok_refMailSame).cons ok_lLend).cons ok_lAll).cons ok_lWake).cons ok_done18).cons ok_light18).cons (ok_aw18 hN)) (E := eLW) Tryz.func6 [7, 14] (by kernel_rfl) (two2 ok_lw7 ok_lw14) fun l _ hp => ?_
  refine (q_lw l).trans ?_
  have hp : Nat.ble l.length 9223372036854775807 = true := hp
  show _ = some (⟨.bool true, [], []⟩ : DRes)
  simp only [dec_encs, List.length_map, hp, cond_true]
  cases hl : N.lightActs l with
  | false => rfl
  | true =>
    by_cases h100 : l.length ≤ 100
    · have hs := acts_small hl
      have hX : LInv (N.acts [] l) := acts_linv l [] linv0 hs
      generalize N.acts [] l = X at *
      have hW := wake_linv hX
      have hw := wakes_true X [] (fun y hy => by cases hy)
      rw [List.nil_append, List.nil_append] at hw
      have hy : (bif Nat.beq X.length 0 then (N.lWake X).map cItem.enc else (N.lends (N.lWake X) X).map cItem.enc) = ((N.lWake X).map N.lendI).map cItem.enc := by
        cases hb : Nat.beq X.length 0 with
        | true =>
          have := List.eq_nil_of_length_eq_zero (nbeq_of hb)
          subst this; rfl
        | false => rw [hw.2]; rfl
      have hYl : ((N.lWake X).map N.lendI).length = X.length := by rw [List.length_map, wake_len]
      have hYs : smallL ((N.lWake X).map N.lendI) = true := by
        unfold smallL
        rw [hYl, ble_t (Nat.le_trans hX.few (by decide)), List.all_map]
        exact hW.small
      have hYn := lent_none (l := (N.lWake X).map N.lendI) fun y hy => by
        obtain ⟨x, _, rfl⟩ := List.mem_map.1 hy
        rfl
      have b1 : Nat.ble X.length 1000 = true := ble_t (Nat.le_trans hX.few (by decide))
      have b2 : Nat.ble (N.lWake X).length 1000 = true := by rw [wake_len]; exact b1
      simp (disch := omega) only [evs, hs, hX.smallL, hW.smallL, hw.1, hy, dec_encs, hYs, hYn, hYl, b1, b2, wake_wake, sameL_refl, beq_self_eq_true, Bool.not_false, Bool.not_true]
    · simp (disch := omega) only [evs, Bool.not_false]
end Go.Ev

/- The library's text builder in this program, and the function that writes a number's bytes with it: lemmas, no condition but the text's length. -/
namespace Go.Ev
open Go Go.Proofs Go.RowKit Go.Shelf

theorem bSize : (Tryz.prog.info? 216).map (·.size) = some 2 := by kernel_rfl
theorem bLies : liesAt Tryz.prog Tryz.prog.depth 216 (2 / Tryz.prog.cellsOf 216) 0 216 1 = true := by kernel_rfl
theorem bByte : (Tryz.prog.info? 5).map (fun i => (i.zero, i.size, i.bytes)) = some (some (.int .u8 0), 1, 1) := by kernel_rfl

set_option maxHeartbeats 1000000 in
set_option maxRecDepth 100000 in
theorem cc_used (b : Nat) (w : World) (h0 : w.cell? ⟨b, 0, none⟩ = some (.pointer (some ⟨b, 0, none⟩))) :
    Calls Tryz.prog 175 #[.pointer (some ⟨b, 0, none⟩)] w fun e w' => e = .returned (.tuple #[]) ∧ w' = w := by
  obtain ⟨j, hj, _⟩ := Option.map_eq_some_iff.1 bSize
  go_enter Tryz.func175, Tryz.ntmps175
  go_wp2
  rw [Lib.run_neq_ptr_same w _ Tryz.underlying213 hj]
  go_wp2
  go_end0
  exact ⟨rfl, rfl⟩
set_option maxHeartbeats 1000000 in
set_option maxRecDepth 100000 in
theorem cc_fresh (b : Nat) (w : World) (h0 : w.cell? ⟨b, 0, none⟩ = some (.pointer none)) (hsh : w.shape? b = some (216, 2)) (hfz : w.frozen? ⟨b, 0, none⟩ = false) :
    Calls Tryz.prog 175 #[.pointer (some ⟨b, 0, none⟩)] w fun e w' => e = .returned (.tuple #[]) ∧ w' = w.setCell ⟨b, 0, none⟩ (.pointer (some ⟨b, 0, none⟩)) := by
  obtain ⟨j, hj, hjs⟩ := Option.map_eq_some_iff.1 bSize
  go_enter Tryz.func175, Tryz.ntmps175
  go_wp2
  rw [Lib.run_to_unsafe w ⟨b, 0, none⟩ Tryz.underlying213 Tryz.underlying224 hj (by rw [hjs]; decide) hsh (Nat.zero_lt_succ 1)]
  simp only [Result.andThen]
  rw [Oper.upon_value]
  go_wp2
  rw [run_callFunc_extern Tryz.func180 (by kernel_rfl) (by kernel_rfl) (by kernel_rfl) (e := Extern.AbiNoEscape.same) (by kernel_rfl)]
  rw [Lib.run_noEscape]
  simp only [Result.andThen]
  rw [Oper.upon_value]
  go_wp2
  rw [Lib.run_from_unsafe w ⟨b, 0, none⟩ Tryz.underlying224 Tryz.underlying213 hj hsh bLies]
  simp only [Result.andThen]
  rw [Oper.upon_value]
  go_wp2
  go_end0
  exact ⟨rfl, rfl⟩
theorem cc (B b : Nat) (bs : List Value) (w : World) (h : Lib.IsBuilder 216 5 B b bs w) :
    Calls Tryz.prog 175 #[.pointer (some ⟨b, 0, none⟩)] w fun e w' => e = .returned (.tuple #[]) ∧ (Lib.BuilderAt 216 5 B b (.pointer (some ⟨b, 0, none⟩)) bs w' ∧ Below B w w') := by
  rcases h with h | h
  · refine (cc_fresh b w h.cell0 h.shape h.frozen0).mono ?_
    rintro e w' ⟨rfl, rfl⟩
    exact ⟨rfl, h.used _, (Below.refl B w).setCell (p := ⟨b, 0, none⟩) h.1 _⟩
  · refine (cc_used b w h.cell0).mono ?_
    rintro e w' ⟨rfl, rfl⟩
    exact ⟨rfl, h, Below.refl B _⟩
set_option maxHeartbeats 2000000 in
set_option maxRecDepth 100000 in
theorem writeByte (B b : Nat) (bs : List Value) (c : Int) (w : World) (h : Lib.IsBuilder 216 5 B b bs w) (hlen : bs.length + 1 ≤ 140737488355328) (hBw : B ≤ w.heap.size) :
    Calls Tryz.prog 171 #[.pointer (some ⟨b, 0, none⟩), .int .u8 c] w fun e w' => e = .returned .nilIface ∧ (Lib.BuilderAt 216 5 B b (.pointer (some ⟨b, 0, none⟩)) (bs ++ [.int .u8 c]) w' ∧ Below B w w') := by
  obtain ⟨i0, hi, hz0, hz1, hz2⟩ := info_parts bByte
  go_enter Tryz.func171, Tryz.ntmps171
  go_wp2_with (go_at_call 175; refine (cc B b bs _ h).mono ?_)
  rintro e w1 ⟨rfl, h1, hb1⟩
  obtain ⟨hB, v, hbk, hown, hne⟩ := h1
  have c0 : w1.cell? ⟨b, 0, none⟩ = some (.pointer (some ⟨b, 0, none⟩)) := by rw [Lib.cell_of_heap hbk]; rfl
  have c1 : w1.cell? ⟨b, 1, none⟩ = some v := by rw [Lib.cell_of_heap hbk]; rfl
  go_wp2_with (at_builtin; refine wpList_append_own _ rfl _ _ 214 rfl B 5 i0 (.int .u8 0) 1 1 Tryz.underlying214 hi hz0 hz1 hz2 rfl (by decide) _ _ _ rfl (hown.alloc _) ⟨w1.heap.size, 0, none⟩ 1 1 [.int .u8 c] rfl rfl ?c1 ?c2 ?c3 ?c4 ?c5 ?_)
  case c1 =>
    intro j u hj
    match j, hj with
    | 0, hj => simp at hj; subst hj; simp [Addr.add]
  case c2 => intro u hu; simp at hu; subst hu; rfl
  case c3 => unfold maxLen; omega
  case c4 => omega
  case c5 => have := hb1.size; simp; omega
  intro v' w2 hown' hgrow _
  have hlt : b < w1.heap.size := by
    rcases Nat.lt_or_ge b w1.heap.size with h' | h'
    · exact h'
    · simp [Array.getElem?_eq_none h'] at hbk
  have hb2 : w2.heap[b]? = some (.cells #[.pointer (some ⟨b, 0, none⟩), v] 216 (0, 0)) := by
    rw [hgrow.block b (by simp; omega) (fun e => hne e.symm), Lib.alloc_old w1 _ b hlt]
    exact hbk
  have d0 : w2.cell? ⟨b, 0, none⟩ = some (.pointer (some ⟨b, 0, none⟩)) := by rw [Lib.cell_of_heap hb2]; rfl
  have d1 : w2.cell? ⟨b, 1, none⟩ = some v := by rw [Lib.cell_of_heap hb2]; rfl
  have f1 : w2.frozen? ⟨b, 1, none⟩ = false := Lib.frozen_of_heap hb2 1
  obtain ⟨g, cap, rfl⟩ : ∃ g cap, v' = .slice (some ⟨g, 0, none⟩) (bs.length + 1) cap := by
    rcases hown'.2 with ⟨_, h0⟩ | ⟨g, cap, cur, hv, _⟩
    · omega
    · exact ⟨g, cap, hv⟩
  go_wp2
  go_ret
  refine ⟨rfl, ?_, ?_⟩
  · exact Lib.BuilderAt.put (T := 216) (e := 5) hB hb2 (bs' := bs ++ [.int .u8 c]) (by simpa using hown') (by decide)
  · exact ((hb1.alloc (by have := hb1.size; omega) _).grown hgrow (by have := hb1.size; simp; omega) (fun k hk => (hown.lt k hk).1)).setCell (p := ⟨b, 1, none⟩) hB _
/-! ### The text of a builder: the library's contract at this program -/
def lays169_ren : Go.Shelf.Ren := ⟨fun | 169 => 172 | n => n, fun | 70 => 213 | 9 => 9 | 0 => 0 | 72 => 216 | 37 => 214 | 127 => 221 | 3 => 3 | 5 => 5 | n => n, fun | n => n⟩
theorem lays169 : Go.Proofs.Lays.n169 Tryz.prog lays169_ren := {
  mixed := by kernel_rfl
  f169 := Tryz.func172.trans (congrArg some (by kernel_rfl))
  t0 := Tryz.underlying0
  a0 := Tryz.isAgg0
  z0 := Tryz.sizeOf0
  v0 := Tryz.zeroValue0
  t3 := Tryz.underlying3
  a3 := Tryz.isAgg3
  z3 := Tryz.sizeOf3
  v3 := Tryz.zeroValue3
  t9 := Tryz.underlying9
  a9 := Tryz.isAgg9
  z9 := Tryz.sizeOf9
  v9 := Tryz.zeroValue9
  t37 := Tryz.underlying214
  a37 := Tryz.isAgg214
  z37 := Tryz.sizeOf214
  v37 := Tryz.zeroValue214
  t70 := Tryz.underlying213
  a70 := Tryz.isAgg213
  z70 := Tryz.sizeOf213
  v70 := Tryz.zeroValue213
  t72 := Tryz.underlying216
  a72 := Tryz.isAgg216
  z72 := Tryz.sizeOf216
  v72 := Tryz.zeroValue216
  t127 := Tryz.underlying221
  a127 := Tryz.isAgg221
  z127 := Tryz.sizeOf221
  v127 := Tryz.zeroValue221 }
theorem extra169 : Builder.Extra Tryz.prog lays169_ren := {
  sizeBuilder := by kernel_rfl
  liesBuilder := by kernel_rfl
  t5 := Tryz.underlying5
  a5 := Tryz.isAgg5
  z5 := Tryz.sizeOf5
  v5 := Tryz.zeroValue5
  infoByte := by kernel_rfl
  cellsByte := by kernel_rfl
  sizeByte := by kernel_rfl
  neB5 := by decide }
theorem bString (B b : Nat) (l : List UInt8) (w : World) (h : Lib.IsBuilder 216 5 B b (Lib.byteCells l) w) (hBw : B ≤ w.heap.size) :
    Calls Tryz.prog 172 #[.pointer (some ⟨b, 0, none⟩)] w fun e w' => e = .returned (.string ⟨l.toArray⟩) ∧ Below B w w' := Any.Builder_String_any lays169 extra169 B b l w h hBw
end Go.Ev

/- The function that writes a number's bytes: its walk. -/
namespace Go.Ev
open Go Go.Proofs Go.RowKit Go.Shelf

theorem clamp_eq {bytes : Int} : min (max bytes 0) 8 = (N.clamp bytes : Int) ∧ N.clamp bytes ≤ 8 := by
  unfold N.clamp
  rw [ilt_eq, ilt_eq]
  by_cases h1 : 0 < bytes
  · by_cases h2 : 8 < bytes
    · simp [h1, h2]; omega
    · simp [h1, h2]; omega
  · simp [h1]; omega

theorem two_blocks {w wr : World} {o1 o2 : Obj} (h : Below (w.heap.size + 1 + 1) ((w.alloc o1).alloc o2) wr) : wr.heap[w.heap.size]? = some o1 ∧ wr.heap[w.heap.size + 1]? = some o2 := by
  have e : (w.alloc o1).heap.size = w.heap.size + 1 := by simp
  refine ⟨?_, ?_⟩
  · rw [h.block _ (by omega), Below.heap_alloc _ _ _ (by omega)]; exact Go.heap_alloc_new w o1
  · rw [h.block _ (by omega), ← e]; exact Go.heap_alloc_new _ o2

set_option maxHeartbeats 4000000 in
set_option maxRecDepth 1000000 in
theorem outNum_walk (s : ByteArray) (er n bytes : Int) (w : World) (hs : (s.size : Int) ≤ 9223372036854775799) :
    Calls Tryz.prog 158 #[.agg #[.string s, .int .i64 er], .int .u64 n, .int .i64 bytes] w fun e w' =>
      e = .returned (.agg #[.string ⟨(s.data.toList ++ N.numB n (N.clamp bytes)).toArray⟩, .int .i64 er]) ∧ Below w.heap.size w w' := by
  go_enter Tryz.func158, Tryz.ntmps158
  go_wp2
  go_loopw [8] (fun i wr => ∃ (k : Int) (acc : List UInt8), i = .int .i64 k ∧ Lib.IsBuilder 216 5 (w.heap.size + 1 + 1) (w.heap.size + 1 + 1) (Lib.byteCells acc) wr ∧
      Below (w.heap.size + 1 + 1) ((w.alloc (Obj.cells #[Value.string s, Value.int IntKind.i64 er] 201)).alloc (Obj.cells #[Value.string { data := #[] }, Value.int IntKind.i64 0] 201)) wr ∧
      -1 ≤ k ∧ acc ++ N.numB n (k + 1).toNat = N.numB n (N.clamp bytes) ∧ acc.length + (k + 1).toNat ≤ 8) (fun i _ => (intOf i + 1).toNat)
  case atStart =>
    obtain ⟨hcl, hc8⟩ := clamp_eq (bytes := bytes)
    have hf := Lib.fresh_isBuilder 216 5 ((w.alloc (Obj.cells #[Value.string s, Value.int IntKind.i64 er] 201)).alloc (Obj.cells #[Value.string { data := #[] }, Value.int IntKind.i64 0] 201))
    have e0 : ((w.alloc (Obj.cells #[Value.string s, Value.int IntKind.i64 er] 201)).alloc (Obj.cells #[Value.string { data := #[] }, Value.int IntKind.i64 0] 201)).heap.size = w.heap.size + 1 + 1 := by simp
    rw [e0] at hf
    refine ⟨(N.clamp bytes : Int) - 1, [], by rw [hcl], hf, (Below.refl _ _).alloc (by simp) _, by omega, ?_, ?_⟩
    · rw [show ((N.clamp bytes : Int) - 1 + 1).toNat = N.clamp bytes by omega]; rfl
    · simp only [List.length_nil]; omega
  case round =>
    obtain ⟨k, acc, rfl, hI, hB, hk, hacc, hal⟩ := hrel
    by_cases hk0 : 0 ≤ k
    · go_wp2_with (go_at_call 171; refine (writeByte (w.heap.size + 1 + 1) (w.heap.size + 1 + 1) _ _ _ hI (by rw [Lib.byteCells_length]; omega) (by have := hB.size; simp at this; omega)).mono ?_)
      rintro e w1 ⟨rfl, h1, b1⟩
      go_wp2
      go_roundw
      case rel =>
        have e1 : N.numB n (k + 1).toNat = UInt8.ofNat ((n / 2 ^ (8 * k.toNat)) % 256).toNat :: N.numB n k.toNat := by
          rw [show (k + 1).toNat = k.toNat + 1 by omega]; rfl
        have e2 : ((UInt8.ofNat ((n / 2 ^ (8 * k.toNat)) % 256).toNat).toNat : Int) = n / 2 ^ (8 * k).toNat % 256 := by
          rw [show (8 * k).toNat = 8 * k.toNat by omega]
          have h0 : 0 ≤ (n / 2 ^ (8 * k.toNat)) % 256 := Int.emod_nonneg _ (by decide)
          have h1 : (n / 2 ^ (8 * k.toNat)) % 256 < 256 := Int.emod_lt_of_pos _ (by decide)
          have h2 : (UInt8.ofNat ((n / 2 ^ (8 * k.toNat)) % 256).toNat).toNat = ((n / 2 ^ (8 * k.toNat)) % 256).toNat := UInt8.toNat_ofNat_of_lt' (by
            show ((n / 2 ^ (8 * k.toNat)) % 256).toNat < 256
            omega)
          rw [h2]; omega
        refine ⟨k - 1, acc ++ [UInt8.ofNat ((n / 2 ^ (8 * k.toNat)) % 256).toNat], rfl, ?_, hB.trans b1, by omega, ?_, ?_⟩
        · rw [Lib.byteCells_append]
          have e3 : Lib.byteCells [UInt8.ofNat ((n / 2 ^ (8 * k.toNat)) % 256).toNat] = [Value.int .u8 (n / 2 ^ (8 * k).toNat % 256)] := by
            rw [← e2]; rfl
          rw [e3]; exact Or.inr h1
        · rw [e1] at hacc
          rw [← hacc, show (k - 1 + 1).toNat = k.toNat by omega, List.append_assoc]; rfl
        · rw [List.length_append]; simp only [List.length_cons, List.length_nil]; omega
      case measure => simp [intOf]; omega
    · have hk1 : k = -1 := by omega
      subst hk1
      have hfin : N.numB n (N.clamp bytes) = acc := by rw [← hacc]; show acc ++ [] = acc; simp
      have hal : acc.length ≤ 8 := by omega
      clear hacc
      rw [hfin]
      obtain ⟨hb0, hb1⟩ := two_blocks hB
      have c0 : wr.cell? ⟨w.heap.size, 0, none⟩ = some (.string s) := by rw [Lib.cell_of_heap hb0]; rfl
      have c1 : wr.cell? ⟨w.heap.size, 1, none⟩ = some (.int .i64 er) := by rw [Lib.cell_of_heap hb0]; rfl
      have c2 : wr.cell? ⟨w.heap.size + 1, 0, none⟩ = some (.string ⟨#[]⟩) := by rw [Lib.cell_of_heap hb1]; rfl
      have c3 : wr.cell? ⟨w.heap.size + 1, 1, none⟩ = some (.int .i64 0) := by rw [Lib.cell_of_heap hb1]; rfl
      have f0 : wr.frozen? ⟨w.heap.size, 0, none⟩ = false := Lib.frozen_of_heap hb0 0
      have f1 : wr.frozen? ⟨w.heap.size, 1, none⟩ = false := Lib.frozen_of_heap hb0 1
      have f2 : wr.frozen? ⟨w.heap.size + 1, 0, none⟩ = false := Lib.frozen_of_heap hb1 0
      have f3 : wr.frozen? ⟨w.heap.size + 1, 1, none⟩ = false := Lib.frozen_of_heap hb1 1
      have hBw : w.heap.size + 1 + 1 ≤ wr.heap.size := by have := hB.size; simp at this; omega
      have hadd : ¬ 9223372036854775807 < s.size + acc.length := by omega
      have hadd2 : ¬ 9223372036854775807 < s.size + (⟨acc.toArray⟩ : ByteArray).size := by
        show ¬ 9223372036854775807 < s.size + acc.toArray.size
        rw [List.size_toArray]; exact hadd
      have hadd3 : ¬ (s.size + (⟨acc.toArray⟩ : ByteArray).size > 9223372036854775807) := hadd2
      have hadd4 : s.size + (⟨acc.toArray⟩ : ByteArray).size ≤ 9223372036854775807 := Nat.not_lt.1 hadd2
      have hadd5 : s.size + acc.length ≤ 9223372036854775807 := Nat.not_lt.1 hadd
      go_wp2
      go_region_with (go_at_call 172; refine (bString (w.heap.size + 1 + 1) (w.heap.size + 1 + 1) acc _ (by exact hI) (by exact hBw)).mono ?_; rintro e w2 ⟨rfl, b2⟩
                      have d0 : w2.cell? ⟨w.heap.size, 0, none⟩ = some (.string s) := by rw [b2.cell (by show w.heap.size < w.heap.size + 1 + 1; omega)]; exact c0
                      have d1 : w2.cell? ⟨w.heap.size, 1, none⟩ = some (.int .i64 er) := by rw [b2.cell (by show w.heap.size < w.heap.size + 1 + 1; omega)]; exact c1
                      have d2 : w2.cell? ⟨w.heap.size + 1, 0, none⟩ = some (.string ⟨#[]⟩) := by rw [b2.cell (by show w.heap.size + 1 < w.heap.size + 1 + 1; omega)]; exact c2
                      have d3 : w2.cell? ⟨w.heap.size + 1, 1, none⟩ = some (.int .i64 0) := by rw [b2.cell (by show w.heap.size + 1 < w.heap.size + 1 + 1; omega)]; exact c3
                      have e0 : w2.frozen? ⟨w.heap.size, 0, none⟩ = false := by rw [b2.frozen (by show w.heap.size < w.heap.size + 1 + 1; omega)]; exact f0
                      have e1 : w2.frozen? ⟨w.heap.size, 1, none⟩ = false := by rw [b2.frozen (by show w.heap.size < w.heap.size + 1 + 1; omega)]; exact f1
                      have e2 : w2.frozen? ⟨w.heap.size + 1, 0, none⟩ = false := by rw [b2.frozen (by show w.heap.size + 1 < w.heap.size + 1 + 1; omega)]; exact f2
                      have e3 : w2.frozen? ⟨w.heap.size + 1, 1, none⟩ = false := by rw [b2.frozen (by show w.heap.size + 1 < w.heap.size + 1 + 1; omega)]; exact f3)
      all_goals go_wp2
      all_goals
        refine ⟨rfl, .agg #[.string (s ++ ⟨acc.toArray⟩), .int .i64 er], ?_, ?_, ?_⟩
        · simp [results, Tryz.results158, go_sem, d2, d3]
        · rw [hfin, ← bytes_append]
        · have b0 : Below w.heap.size w wr := (((Below.refl _ w).alloc (Nat.le_refl _) _).alloc (by simp) _).trans (hB.mono (by omega))
          exact (((b0.drew.trans (b2.mono (by omega))).setCell (p := ⟨w.heap.size, 0, none⟩) (Nat.le_refl _) _).setCell (p := ⟨w.heap.size + 1, 0, none⟩) (Nat.le_succ _) _).setCell (p := ⟨w.heap.size + 1, 1, none⟩) (Nat.le_succ _) _

/-- What leaves the memory at hand as it is keeps it. -/
theorem keeps_below {w w' : World} (X : Nat → Nat → Prop) (h : Below w.heap.size w w') : Keeps X w w' :=
  ⟨h.os, h.tape, h.output, h.size, fun b hb => ObjOk.same (h.block b hb)⟩
theorem outNum_ok : FnOk Tryz.prog 158 dOutNum := by
  refine den_of fun a b hp => ?_
  obtain ⟨o, n, bytes⟩ := a
  intro x y hxy w J locs xs hlen hJ hx _ _ _
  have hxy : x = (aCons (vAgg cOut) (aCons (vInt .u64) (aOne (vInt .i64)))).enc (o, n, bytes) ∧ y = bNil.enc b := by simpa using hxy
  obtain ⟨rfl, rfl⟩ := hxy
  have hlen : locs = [] := List.eq_nil_of_length_eq_zero hlen
  subst hlen
  obtain ⟨hp1, hp⟩ := bcond hp
  obtain ⟨hp2, hp3⟩ := bcond hp
  have hp3 : o.s.length ≤ 9223372036854775799 := Nat.le_of_ble_eq_true hp3
  obtain ⟨x0, xs1, rfl, hx0, hx⟩ := hx.uncons
  obtain ⟨x1, xs2, rfl, hx1, hx⟩ := hx.uncons
  obtain ⟨x2, rfl, hx2⟩ := hx.one
  obtain ⟨cs, rfl, hc1, hc2⟩ := Rv.agg_inv (show Rv w J _ (.agg [.str o.s, .int .i64 o.err]) x0 from hx0)
  have hx1 := Rv.int_inv (show Rv w J _ (.int .u64 n) x1 from hx1)
  have hx2 := Rv.int_inv (show Rv w J _ (.int .i64 bytes) x2 from hx2)
  subst hx1 hx2
  match cs, hc1, hc2 with
  | [c0, c1], _, hc2 =>
    have h0 := Rv.str_inv (show Rv w J _ (.str o.s) c0 from hc2 0 (by simp))
    have h1 := Rv.int_inv (show Rv w J _ (.int .i64 o.err) c1 from hc2 1 (by simp))
    subst h0 h1
    refine .inl ⟨?_, ?_⟩
    · have hnm : ¬ (Tryz.f158).name = "runtime.NumGoroutine" := by
        intro e
        have : ((Tryz.f158).name == "runtime.NumGoroutine") = false := by kernel_rfl
        rw [e] at this; cases this
      obtain ⟨c, hc⟩ := Option.isSome_iff_exists.1 (show (Tryz.f158).body.isSome = true by kernel_rfl)
      simp [callFunc, Tryz.func158, hnm, hc]
    · refine (outNum_walk ⟨o.s.toArray⟩ o.err n bytes w (by rw [bytes_size]; omega)).mono fun e w' ⟨he, hb⟩ => ⟨_, he, J, ?_⟩
      refine ⟨keeps_below _ hb, fun _ _ h => h, fun b o' h => Nat.lt_of_lt_of_le (hJ b o' h) hb.size, fun _ _ h _ => h, rfl, (fun j cs cs' p hj => by cases hj), .inl ⟨rfl, ?_⟩⟩
      refine .agg [.str (N.outNum o n bytes).s, .int .i64 (N.outNum o n bytes).err] [.string ⟨(o.s ++ N.numB n (N.clamp bytes)).toArray⟩, .int .i64 o.err] rfl fun i hi => ?_
      match i, hi with
      | 0, _ => exact .dat (.str _)
      | 1, _ => exact .dat (.int _ _)
end Go.Ev
