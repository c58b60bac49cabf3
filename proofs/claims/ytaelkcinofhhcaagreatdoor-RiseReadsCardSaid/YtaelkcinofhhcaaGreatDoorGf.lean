/- Rises read of bytes: the program's and the document's: lemmas. -/
import Derived.Test.YtaelkcinofhhcaaGreatDoorGe
import Derived.Test.YtaelkcinofhhcaaGreatDoorGc
import Derived.Test.YtaelkcinofhhcaaGreatDoorProg
import Derived.KernelRfl
import Derived.Shelf.Strings.Builder1
import Derived.RegionTactic
import Derived.Deep.RegionWith
namespace Go.Ev
open Go Go.Proofs
set_option maxRecDepth 100000
-- FOLD

def schRRead : SSch := { fr := [(0, .ptr 0 0 0), (2, .ptr 10000 0 0), (3, .ptr 10002 0 0), (4, .int .u64), (5, .int .u64)], tab := [(0, .var [.str, .int .i64]), (10001, .sl [.int .u64, .str, .str, .slc [.str, .int .u8, .int .i64, .str], .str, .int .u64, .int .u8]), (10000, .var [.int .u64, .own 10001]), (10003, .sl [.int .u64, .str, .str, .slc [.str, .int .u8, .int .i64, .str], .str, .int .u64, .int .u8]), (10002, .var [.int .u64, .own 10003])] }
def gRRead : List Leaf → (Ex → St → Option R) → Option R
  | [.i n, .i k, .s s, .i e, .r r1, .i t1, .r r3, .i t], K => cond (k == 0) (cond (ile n 255) (cond (Nat.beq r3.length 0)
      (K (.exit 1) { fr := [(0, .ptr 0 0 0 0), (2, .ptr 10000 0 0 0), (3, .ptr 10002 0 0 0)], tab := [(0, .var [.str (N.readMs n.toNat ⟨s, e⟩ []).2.s, .int .i64 (N.readMs n.toNat ⟨s, e⟩ []).2.err]), (10001, .sl [.int .u64, .str, .str, .slc [.str, .int .u8, .int .i64, .str], .str, .int .u64, .int .u8] r1 0), (10000, .var [.int .u64 t1, .own 10001 0]), (10003, .sl [.int .u64, .str, .str, .slc [.str, .int .u8, .int .i64, .str], .str, .int .u64, .int .u8] ((N.readMs n.toNat ⟨s, e⟩ []).1.map cMail.enc) 0), (10002, .var [.int .u64 t, .own 10003 0])] }) none) none) none
  | _, _ => none
noncomputable def eRRead : Env := env Tryz.prog [(26, dNum), (27, dFail), (10, dInErr), (28, dMailRead)] [(9, loopF schRRead gRRead)] [(9, [(0, [0, 2, 3, 4, 5]), (2, [0, 2, 3]), (1000, [2])])]
theorem q_rRead (i : InS) : evFn eRRead 8 ((aOne (vPtr 0)).enc ()) ((bOne cIn).enc i) some =
 cond (InS.err (Prod.snd (N.inNum (Prod.snd (N.inNum i (8 : Int))) (1 : Int))) != (0 : Int)) (cond (ile (Prod.fst (N.inNum (Prod.snd (N.inNum i (8 : Int))) (1 : Int))) (255 : Int)) (cond (InS.err (Prod.snd (N.readMs (Int.toNat (Prod.fst (N.inNum (Prod.snd (N.inNum i (8 : Int))) (1 : Int)))) (Prod.snd (N.inNum (Prod.snd (N.inNum i (8 : Int))) (1 : Int))) [])) != (0 : Int)) (some { v := V.agg [V.int IntKind.u64 (0 : Int), V.slc [Sh.int IntKind.u64, Sh.str, Sh.str, Sh.slc [Sh.str, Sh.int IntKind.u8, Sh.int IntKind.i64, Sh.str], Sh.str, Sh.int IntKind.u64, Sh.int IntKind.u8] []], bx := [[V.str (InS.s (Prod.snd (N.readMs (Int.toNat (Prod.fst (N.inNum (Prod.snd (N.inNum i (8 : Int))) (1 : Int)))) (Prod.snd (N.inNum (Prod.snd (N.inNum i (8 : Int))) (1 : Int))) []))), V.int IntKind.i64 (InS.err (Prod.snd (N.readMs (Int.toNat (Prod.fst (N.inNum (Prod.snd (N.inNum i (8 : Int))) (1 : Int)))) (Prod.snd (N.inNum (Prod.snd (N.inNum i (8 : Int))) (1 : Int))) [])))]] : DRes }) (some { v := V.agg [V.int IntKind.u64 (Prod.fst (N.inNum i (8 : Int))), V.slc [Sh.int IntKind.u64, Sh.str, Sh.str, Sh.slc [Sh.str, Sh.int IntKind.u8, Sh.int IntKind.i64, Sh.str], Sh.str, Sh.int IntKind.u64, Sh.int IntKind.u8] (List.map (RCod.enc cMail) (Prod.fst (N.readMs (Int.toNat (Prod.fst (N.inNum (Prod.snd (N.inNum i (8 : Int))) (1 : Int)))) (Prod.snd (N.inNum (Prod.snd (N.inNum i (8 : Int))) (1 : Int))) [])))], bx := [[V.str (InS.s (Prod.snd (N.readMs (Int.toNat (Prod.fst (N.inNum (Prod.snd (N.inNum i (8 : Int))) (1 : Int)))) (Prod.snd (N.inNum (Prod.snd (N.inNum i (8 : Int))) (1 : Int))) []))), V.int IntKind.i64 (InS.err (Prod.snd (N.readMs (Int.toNat (Prod.fst (N.inNum (Prod.snd (N.inNum i (8 : Int))) (1 : Int)))) (Prod.snd (N.inNum (Prod.snd (N.inNum i (8 : Int))) (1 : Int))) [])))]] : DRes })) (none)) (cond (ilt (16 : Int) (Prod.fst (N.inNum (Prod.snd (N.inNum i (8 : Int))) (1 : Int)))) (cond (ile (Prod.fst (N.inNum (Prod.snd (N.inNum i (8 : Int))) (1 : Int))) (255 : Int)) (cond (InS.err (Prod.snd (N.readMs (Int.toNat (Prod.fst (N.inNum (Prod.snd (N.inNum i (8 : Int))) (1 : Int)))) (N.inFail (Prod.snd (N.inNum (Prod.snd (N.inNum i (8 : Int))) (1 : Int))) (6 : Int)) [])) != (0 : Int)) (some { v := V.agg [V.int IntKind.u64 (0 : Int), V.slc [Sh.int IntKind.u64, Sh.str, Sh.str, Sh.slc [Sh.str, Sh.int IntKind.u8, Sh.int IntKind.i64, Sh.str], Sh.str, Sh.int IntKind.u64, Sh.int IntKind.u8] []], bx := [[V.str (InS.s (Prod.snd (N.readMs (Int.toNat (Prod.fst (N.inNum (Prod.snd (N.inNum i (8 : Int))) (1 : Int)))) (N.inFail (Prod.snd (N.inNum (Prod.snd (N.inNum i (8 : Int))) (1 : Int))) (6 : Int)) []))), V.int IntKind.i64 (InS.err (Prod.snd (N.readMs (Int.toNat (Prod.fst (N.inNum (Prod.snd (N.inNum i (8 : Int))) (1 : Int)))) (N.inFail (Prod.snd (N.inNum (Prod.snd (N.inNum i (8 : Int))) (1 : Int))) (6 : Int)) [])))]] : DRes }) (some { v := V.agg [V.int IntKind.u64 (Prod.fst (N.inNum i (8 : Int))), V.slc [Sh.int IntKind.u64, Sh.str, Sh.str, Sh.slc [Sh.str, Sh.int IntKind.u8, Sh.int IntKind.i64, Sh.str], Sh.str, Sh.int IntKind.u64, Sh.int IntKind.u8] (List.map (RCod.enc cMail) (Prod.fst (N.readMs (Int.toNat (Prod.fst (N.inNum (Prod.snd (N.inNum i (8 : Int))) (1 : Int)))) (N.inFail (Prod.snd (N.inNum (Prod.snd (N.inNum i (8 : Int))) (1 : Int))) (6 : Int)) [])))], bx := [[V.str (InS.s (Prod.snd (N.readMs (Int.toNat (Prod.fst (N.inNum (Prod.snd (N.inNum i (8 : Int))) (1 : Int)))) (N.inFail (Prod.snd (N.inNum (Prod.snd (N.inNum i (8 : Int))) (1 : Int))) (6 : Int)) []))), V.int IntKind.i64 (InS.err (Prod.snd (N.readMs (Int.toNat (Prod.fst (N.inNum (Prod.snd (N.inNum i (8 : Int))) (1 : Int)))) (N.inFail (Prod.snd (N.inNum (Prod.snd (N.inNum i (8 : Int))) (1 : Int))) (6 : Int)) [])))]] : DRes })) (none)) (cond (Prod.fst (N.inNum (Prod.snd (N.inNum i (8 : Int))) (1 : Int)) != bif ilt (16 : Int) (Prod.fst (N.inNum i (8 : Int))) then (16 : Int) else Prod.fst (N.inNum i (8 : Int))) (cond (ile (Prod.fst (N.inNum (Prod.snd (N.inNum i (8 : Int))) (1 : Int))) (255 : Int)) (cond (InS.err (Prod.snd (N.readMs (Int.toNat (Prod.fst (N.inNum (Prod.snd (N.inNum i (8 : Int))) (1 : Int)))) (N.inFail (Prod.snd (N.inNum (Prod.snd (N.inNum i (8 : Int))) (1 : Int))) (7 : Int)) [])) != (0 : Int)) (some { v := V.agg [V.int IntKind.u64 (0 : Int), V.slc [Sh.int IntKind.u64, Sh.str, Sh.str, Sh.slc [Sh.str, Sh.int IntKind.u8, Sh.int IntKind.i64, Sh.str], Sh.str, Sh.int IntKind.u64, Sh.int IntKind.u8] []], bx := [[V.str (InS.s (Prod.snd (N.readMs (Int.toNat (Prod.fst (N.inNum (Prod.snd (N.inNum i (8 : Int))) (1 : Int)))) (N.inFail (Prod.snd (N.inNum (Prod.snd (N.inNum i (8 : Int))) (1 : Int))) (7 : Int)) []))), V.int IntKind.i64 (InS.err (Prod.snd (N.readMs (Int.toNat (Prod.fst (N.inNum (Prod.snd (N.inNum i (8 : Int))) (1 : Int)))) (N.inFail (Prod.snd (N.inNum (Prod.snd (N.inNum i (8 : Int))) (1 : Int))) (7 : Int)) [])))]] : DRes }) (some { v := V.agg [V.int IntKind.u64 (Prod.fst (N.inNum i (8 : Int))), V.slc [Sh.int IntKind.u64, Sh.str, Sh.str, Sh.slc [Sh.str, Sh.int IntKind.u8, Sh.int IntKind.i64, Sh.str], Sh.str, Sh.int IntKind.u64, Sh.int IntKind.u8] (List.map (RCod.enc cMail) (Prod.fst (N.readMs (Int.toNat (Prod.fst (N.inNum (Prod.snd (N.inNum i (8 : Int))) (1 : Int)))) (N.inFail (Prod.snd (N.inNum (Prod.snd (N.inNum i (8 : Int))) (1 : Int))) (7 : Int)) [])))], bx := [[V.str (InS.s (Prod.snd (N.readMs (Int.toNat (Prod.fst (N.inNum (Prod.snd (N.inNum i (8 : Int))) (1 : Int)))) (N.inFail (Prod.snd (N.inNum (Prod.snd (N.inNum i (8 : Int))) (1 : Int))) (7 : Int)) []))), V.int IntKind.i64 (InS.err (Prod.snd (N.readMs (Int.toNat (Prod.fst (N.inNum (Prod.snd (N.inNum i (8 : Int))) (1 : Int)))) (N.inFail (Prod.snd (N.inNum (Prod.snd (N.inNum i (8 : Int))) (1 : Int))) (7 : Int)) [])))]] : DRes })) (none)) (cond (ile (Prod.fst (N.inNum (Prod.snd (N.inNum i (8 : Int))) (1 : Int))) (255 : Int)) (cond (InS.err (Prod.snd (N.readMs (Int.toNat (Prod.fst (N.inNum (Prod.snd (N.inNum i (8 : Int))) (1 : Int)))) (Prod.snd (N.inNum (Prod.snd (N.inNum i (8 : Int))) (1 : Int))) [])) != (0 : Int)) (some { v := V.agg [V.int IntKind.u64 (0 : Int), V.slc [Sh.int IntKind.u64, Sh.str, Sh.str, Sh.slc [Sh.str, Sh.int IntKind.u8, Sh.int IntKind.i64, Sh.str], Sh.str, Sh.int IntKind.u64, Sh.int IntKind.u8] []], bx := [[V.str (InS.s (Prod.snd (N.readMs (Int.toNat (Prod.fst (N.inNum (Prod.snd (N.inNum i (8 : Int))) (1 : Int)))) (Prod.snd (N.inNum (Prod.snd (N.inNum i (8 : Int))) (1 : Int))) []))), V.int IntKind.i64 (InS.err (Prod.snd (N.readMs (Int.toNat (Prod.fst (N.inNum (Prod.snd (N.inNum i (8 : Int))) (1 : Int)))) (Prod.snd (N.inNum (Prod.snd (N.inNum i (8 : Int))) (1 : Int))) [])))]] : DRes }) (some { v := V.agg [V.int IntKind.u64 (Prod.fst (N.inNum i (8 : Int))), V.slc [Sh.int IntKind.u64, Sh.str, Sh.str, Sh.slc [Sh.str, Sh.int IntKind.u8, Sh.int IntKind.i64, Sh.str], Sh.str, Sh.int IntKind.u64, Sh.int IntKind.u8] (List.map (RCod.enc cMail) (Prod.fst (N.readMs (Int.toNat (Prod.fst (N.inNum (Prod.snd (N.inNum i (8 : Int))) (1 : Int)))) (Prod.snd (N.inNum (Prod.snd (N.inNum i (8 : Int))) (1 : Int))) [])))], bx := [[V.str (InS.s (Prod.snd (N.readMs (Int.toNat (Prod.fst (N.inNum (Prod.snd (N.inNum i (8 : Int))) (1 : Int)))) (Prod.snd (N.inNum (Prod.snd (N.inNum i (8 : Int))) (1 : Int))) []))), V.int IntKind.i64 (InS.err (Prod.snd (N.readMs (Int.toNat (Prod.fst (N.inNum (Prod.snd (N.inNum i (8 : Int))) (1 : Int)))) (Prod.snd (N.inNum (Prod.snd (N.inNum i (8 : Int))) (1 : Int))) [])))]] : DRes })) (none)))) := by kernel_rfl
theorem q_rReadR (n k : Int) (s : Bytes) (e : Int) (r1 : List (List V)) (t1 : Int) (r3 : List (List V)) (t : Int) (K : Ex → St → Option R) : evRound eRRead 8 9 { fr := [(0, .ptr 0 0 0 0), (2, .ptr 10000 0 0 0), (3, .ptr 10002 0 0 0), (4, .int .u64 n), (5, .int .u64 k)], tab := [(0, .var [.str s, .int .i64 e]), (10001, .sl [.int .u64, .str, .str, .slc [.str, .int .u8, .int .i64, .str], .str, .int .u64, .int .u8] r1 0), (10000, .var [.int .u64 t1, .own 10001 0]), (10003, .sl [.int .u64, .str, .str, .slc [.str, .int .u8, .int .i64, .str], .str, .int .u64, .int .u8] r3 0), (10002, .var [.int .u64 t, .own 10003 0])] } K =
 cond (ilt k n) (cond (e == (0 : Int)) (cond (decide ((List.length r3 + (1 : Nat)) * (96 : Nat) ≤ (140737488355328 : Nat))) (K Ex.normal { fr := [((0 : Nat), V.ptr (0 : Nat) (0 : Nat) (0 : Nat) (0 : Nat)), ((2 : Nat), V.ptr (10000 : Nat) (0 : Nat) (0 : Nat) (0 : Nat)), ((3 : Nat), V.ptr (10002 : Nat) (0 : Nat) (0 : Nat) (0 : Nat)), ((4 : Nat), V.int IntKind.u64 n), ((5 : Nat), V.int IntKind.u64 (IntKind.wrap IntKind.u64 (k + (1 : Int))))], tab := [((0 : Nat), Box.var [V.str (InS.s (Prod.snd (N.mailRead { s := s, err := e : InS }))), V.int IntKind.i64 (InS.err (Prod.snd (N.mailRead { s := s, err := e : InS })))]), ((10001 : Nat), Box.sl [Sh.int IntKind.u64, Sh.str, Sh.str, Sh.slc [Sh.str, Sh.int IntKind.u8, Sh.int IntKind.i64, Sh.str], Sh.str, Sh.int IntKind.u64, Sh.int IntKind.u8] r1 (0 : Nat)), ((10000 : Nat), Box.var [V.int IntKind.u64 t1, V.own (10001 : Nat) (0 : Nat)]), ((10003 : Nat), Box.sl [Sh.int IntKind.u64, Sh.str, Sh.str, Sh.slc [Sh.str, Sh.int IntKind.u8, Sh.int IntKind.i64, Sh.str], Sh.str, Sh.int IntKind.u64, Sh.int IntKind.u8] (r3 ++ [[V.int IntKind.u64 (HMail.id (Prod.fst (N.mailRead { s := s, err := e : InS }))), V.str (HMail.shop (Prod.fst (N.mailRead { s := s, err := e : InS }))), V.str (HMail.key (Prod.fst (N.mailRead { s := s, err := e : InS }))), V.slc [Sh.str, Sh.int IntKind.u8, Sh.int IntKind.i64, Sh.str] (List.map (fun p => [V.str (HPair.key p), V.int IntKind.u8 (HPair.kind p), V.int IntKind.i64 (HPair.num p), V.str (HPair.text p)]) (HMail.head (Prod.fst (N.mailRead { s := s, err := e : InS })))), V.str (HMail.body (Prod.fst (N.mailRead { s := s, err := e : InS }))), V.int IntKind.u64 (HMail.due (Prod.fst (N.mailRead { s := s, err := e : InS }))), V.int IntKind.u8 (HMail.hops (Prod.fst (N.mailRead { s := s, err := e : InS })))]]) (0 : Nat)), ((10002 : Nat), Box.var [V.int IntKind.u64 t, V.own (10003 : Nat) (0 : Nat)])] : St }) (none)) (K (Ex.exit (1 : Nat)) { fr := [((0 : Nat), V.ptr (0 : Nat) (0 : Nat) (0 : Nat) (0 : Nat)), ((2 : Nat), V.ptr (10000 : Nat) (0 : Nat) (0 : Nat) (0 : Nat)), ((3 : Nat), V.ptr (10002 : Nat) (0 : Nat) (0 : Nat) (0 : Nat))], tab := [((0 : Nat), Box.var [V.str s, V.int IntKind.i64 e]), ((10001 : Nat), Box.sl [Sh.int IntKind.u64, Sh.str, Sh.str, Sh.slc [Sh.str, Sh.int IntKind.u8, Sh.int IntKind.i64, Sh.str], Sh.str, Sh.int IntKind.u64, Sh.int IntKind.u8] r1 (0 : Nat)), ((10000 : Nat), Box.var [V.int IntKind.u64 t1, V.own (10001 : Nat) (0 : Nat)]), ((10003 : Nat), Box.sl [Sh.int IntKind.u64, Sh.str, Sh.str, Sh.slc [Sh.str, Sh.int IntKind.u8, Sh.int IntKind.i64, Sh.str], Sh.str, Sh.int IntKind.u64, Sh.int IntKind.u8] r3 (0 : Nat)), ((10002 : Nat), Box.var [V.int IntKind.u64 t, V.own (10003 : Nat) (0 : Nat)])] : St })) (K (Ex.exit (1 : Nat)) { fr := [((0 : Nat), V.ptr (0 : Nat) (0 : Nat) (0 : Nat) (0 : Nat)), ((2 : Nat), V.ptr (10000 : Nat) (0 : Nat) (0 : Nat) (0 : Nat)), ((3 : Nat), V.ptr (10002 : Nat) (0 : Nat) (0 : Nat) (0 : Nat))], tab := [((0 : Nat), Box.var [V.str s, V.int IntKind.i64 e]), ((10001 : Nat), Box.sl [Sh.int IntKind.u64, Sh.str, Sh.str, Sh.slc [Sh.str, Sh.int IntKind.u8, Sh.int IntKind.i64, Sh.str], Sh.str, Sh.int IntKind.u64, Sh.int IntKind.u8] r1 (0 : Nat)), ((10000 : Nat), Box.var [V.int IntKind.u64 t1, V.own (10001 : Nat) (0 : Nat)]), ((10003 : Nat), Box.sl [Sh.int IntKind.u64, Sh.str, Sh.str, Sh.slc [Sh.str, Sh.int IntKind.u8, Sh.int IntKind.i64, Sh.str], Sh.str, Sh.int IntKind.u64, Sh.int IntKind.u8] r3 (0 : Nat)), ((10002 : Nat), Box.var [V.int IntKind.u64 t, V.own (10003 : Nat) (0 : Nat)])] : St }) := by kernel_rfl
def schRefRRead : SSch := { fr := [(0, .ptr 0 0 0), (2, .ptr 10000 0 0), (3, .ptr 10002 0 0), (4, .int .i64), (5, .int .i64)], tab := [(0, .var [.str, .int .i64, .int .i64]), (10001, .sl [.int .u64, .str, .str, .slc [.str, .int .u8, .int .i64, .str], .str, .int .u64, .int .u8]), (10000, .var [.int .u64, .own 10001]), (10003, .sl [.int .u64, .str, .str, .slc [.str, .int .u8, .int .i64, .str], .str, .int .u64, .int .u8]), (10002, .var [.int .u64, .own 10003])] }
def gRefRRead : List Leaf → (Ex → St → Option R) → Option R
  | [.i n, .i k, .s s, .i at', .i c, .r r1, .i t1, .r r3, .i t], K => cond (k == 0) (cond (ile n 255) (cond (Nat.beq r3.length 0) (cond (N.goodR ⟨s, at', c⟩)
      (K (.exit 0) { fr := [(0, .ptr 0 0 0 0), (2, .ptr 10000 0 0 0), (3, .ptr 10002 0 0 0)], tab := [(0, .var [.str (N.rMs n.toNat ⟨s, at', c⟩ []).2.s, .int .i64 (N.rMs n.toNat ⟨s, at', c⟩ []).2.at', .int .i64 (N.rMs n.toNat ⟨s, at', c⟩ []).2.code]), (10001, .sl [.int .u64, .str, .str, .slc [.str, .int .u8, .int .i64, .str], .str, .int .u64, .int .u8] r1 0), (10000, .var [.int .u64 t1, .own 10001 0]), (10003, .sl [.int .u64, .str, .str, .slc [.str, .int .u8, .int .i64, .str], .str, .int .u64, .int .u8] ((N.rMs n.toNat ⟨s, at', c⟩ []).1.map cMail.enc) 0), (10002, .var [.int .u64 t, .own 10003 0])] }) none) none) none) none
  | _, _ => none
noncomputable def eRefRRead : Env := env Tryz.prog [(29, dRNum), (30, dRFail), (31, dRMail)] [(8, loopF schRefRRead gRefRRead)] [(8, [(0, [0, 2, 3, 4, 5]), (1, [0, 2, 3]), (1000, [2])])]
theorem q_refRRead (q : RIn) : evFn eRefRRead 9 ((aOne (vPtr 0)).enc ()) ((bOne cRIn).enc q) some =
 cond (N.goodR q) (cond (N.goodR (Prod.snd (N.rNum q (8 : Int)))) (cond (ilt (16 : Int) (IntKind.wrap IntKind.i64 (Prod.fst (N.rNum (Prod.snd (N.rNum q (8 : Int))) (1 : Int))))) (cond (IntKind.wrap IntKind.u64 (IntKind.wrap IntKind.i64 (Prod.fst (N.rNum (Prod.snd (N.rNum q (8 : Int))) (1 : Int)))) != Prod.fst (N.rNum q (8 : Int))) (cond (IntKind.wrap IntKind.i64 (Prod.fst (N.rNum (Prod.snd (N.rNum q (8 : Int))) (1 : Int))) == (16 : Int)) (cond (!ilt (16 : Int) (Prod.fst (N.rNum q (8 : Int)))) (cond (ile (IntKind.wrap IntKind.i64 (Prod.fst (N.rNum (Prod.snd (N.rNum q (8 : Int))) (1 : Int)))) (255 : Int)) (cond (N.goodR (N.rFail (N.rFail (Prod.snd (N.rNum (Prod.snd (N.rNum q (8 : Int))) (1 : Int))) (6 : Int)) (7 : Int))) (cond (RIn.code (Prod.snd (N.rMs (Int.toNat (IntKind.wrap IntKind.i64 (Prod.fst (N.rNum (Prod.snd (N.rNum q (8 : Int))) (1 : Int))))) (N.rFail (N.rFail (Prod.snd (N.rNum (Prod.snd (N.rNum q (8 : Int))) (1 : Int))) (6 : Int)) (7 : Int)) [])) != (0 : Int)) (some { v := V.agg [V.int IntKind.u64 (0 : Int), V.slc [Sh.int IntKind.u64, Sh.str, Sh.str, Sh.slc [Sh.str, Sh.int IntKind.u8, Sh.int IntKind.i64, Sh.str], Sh.str, Sh.int IntKind.u64, Sh.int IntKind.u8] []], bx := [[V.str (RIn.s (Prod.snd (N.rMs (Int.toNat (IntKind.wrap IntKind.i64 (Prod.fst (N.rNum (Prod.snd (N.rNum q (8 : Int))) (1 : Int))))) (N.rFail (N.rFail (Prod.snd (N.rNum (Prod.snd (N.rNum q (8 : Int))) (1 : Int))) (6 : Int)) (7 : Int)) []))), V.int IntKind.i64 (RIn.at' (Prod.snd (N.rMs (Int.toNat (IntKind.wrap IntKind.i64 (Prod.fst (N.rNum (Prod.snd (N.rNum q (8 : Int))) (1 : Int))))) (N.rFail (N.rFail (Prod.snd (N.rNum (Prod.snd (N.rNum q (8 : Int))) (1 : Int))) (6 : Int)) (7 : Int)) []))), V.int IntKind.i64 (RIn.code (Prod.snd (N.rMs (Int.toNat (IntKind.wrap IntKind.i64 (Prod.fst (N.rNum (Prod.snd (N.rNum q (8 : Int))) (1 : Int))))) (N.rFail (N.rFail (Prod.snd (N.rNum (Prod.snd (N.rNum q (8 : Int))) (1 : Int))) (6 : Int)) (7 : Int)) [])))]] : DRes }) (some { v := V.agg [V.int IntKind.u64 (Prod.fst (N.rNum q (8 : Int))), V.slc [Sh.int IntKind.u64, Sh.str, Sh.str, Sh.slc [Sh.str, Sh.int IntKind.u8, Sh.int IntKind.i64, Sh.str], Sh.str, Sh.int IntKind.u64, Sh.int IntKind.u8] (List.map (RCod.enc cMail) (Prod.fst (N.rMs (Int.toNat (IntKind.wrap IntKind.i64 (Prod.fst (N.rNum (Prod.snd (N.rNum q (8 : Int))) (1 : Int))))) (N.rFail (N.rFail (Prod.snd (N.rNum (Prod.snd (N.rNum q (8 : Int))) (1 : Int))) (6 : Int)) (7 : Int)) [])))], bx := [[V.str (RIn.s (Prod.snd (N.rMs (Int.toNat (IntKind.wrap IntKind.i64 (Prod.fst (N.rNum (Prod.snd (N.rNum q (8 : Int))) (1 : Int))))) (N.rFail (N.rFail (Prod.snd (N.rNum (Prod.snd (N.rNum q (8 : Int))) (1 : Int))) (6 : Int)) (7 : Int)) []))), V.int IntKind.i64 (RIn.at' (Prod.snd (N.rMs (Int.toNat (IntKind.wrap IntKind.i64 (Prod.fst (N.rNum (Prod.snd (N.rNum q (8 : Int))) (1 : Int))))) (N.rFail (N.rFail (Prod.snd (N.rNum (Prod.snd (N.rNum q (8 : Int))) (1 : Int))) (6 : Int)) (7 : Int)) []))), V.int IntKind.i64 (RIn.code (Prod.snd (N.rMs (Int.toNat (IntKind.wrap IntKind.i64 (Prod.fst (N.rNum (Prod.snd (N.rNum q (8 : Int))) (1 : Int))))) (N.rFail (N.rFail (Prod.snd (N.rNum (Prod.snd (N.rNum q (8 : Int))) (1 : Int))) (6 : Int)) (7 : Int)) [])))]] : DRes })) (none)) (none)) (cond (ile (IntKind.wrap IntKind.i64 (Prod.fst (N.rNum (Prod.snd (N.rNum q (8 : Int))) (1 : Int)))) (255 : Int)) (cond (N.goodR (N.rFail (Prod.snd (N.rNum (Prod.snd (N.rNum q (8 : Int))) (1 : Int))) (6 : Int))) (cond (RIn.code (Prod.snd (N.rMs (Int.toNat (IntKind.wrap IntKind.i64 (Prod.fst (N.rNum (Prod.snd (N.rNum q (8 : Int))) (1 : Int))))) (N.rFail (Prod.snd (N.rNum (Prod.snd (N.rNum q (8 : Int))) (1 : Int))) (6 : Int)) [])) != (0 : Int)) (some { v := V.agg [V.int IntKind.u64 (0 : Int), V.slc [Sh.int IntKind.u64, Sh.str, Sh.str, Sh.slc [Sh.str, Sh.int IntKind.u8, Sh.int IntKind.i64, Sh.str], Sh.str, Sh.int IntKind.u64, Sh.int IntKind.u8] []], bx := [[V.str (RIn.s (Prod.snd (N.rMs (Int.toNat (IntKind.wrap IntKind.i64 (Prod.fst (N.rNum (Prod.snd (N.rNum q (8 : Int))) (1 : Int))))) (N.rFail (Prod.snd (N.rNum (Prod.snd (N.rNum q (8 : Int))) (1 : Int))) (6 : Int)) []))), V.int IntKind.i64 (RIn.at' (Prod.snd (N.rMs (Int.toNat (IntKind.wrap IntKind.i64 (Prod.fst (N.rNum (Prod.snd (N.rNum q (8 : Int))) (1 : Int))))) (N.rFail (Prod.snd (N.rNum (Prod.snd (N.rNum q (8 : Int))) (1 : Int))) (6 : Int)) []))), V.int IntKind.i64 (RIn.code (Prod.snd (N.rMs (Int.toNat (IntKind.wrap IntKind.i64 (Prod.fst (N.rNum (Prod.snd (N.rNum q (8 : Int))) (1 : Int))))) (N.rFail (Prod.snd (N.rNum (Prod.snd (N.rNum q (8 : Int))) (1 : Int))) (6 : Int)) [])))]] : DRes }) (some { v := V.agg [V.int IntKind.u64 (Prod.fst (N.rNum q (8 : Int))), V.slc [Sh.int IntKind.u64, Sh.str, Sh.str, Sh.slc [Sh.str, Sh.int IntKind.u8, Sh.int IntKind.i64, Sh.str], Sh.str, Sh.int IntKind.u64, Sh.int IntKind.u8] (List.map (RCod.enc cMail) (Prod.fst (N.rMs (Int.toNat (IntKind.wrap IntKind.i64 (Prod.fst (N.rNum (Prod.snd (N.rNum q (8 : Int))) (1 : Int))))) (N.rFail (Prod.snd (N.rNum (Prod.snd (N.rNum q (8 : Int))) (1 : Int))) (6 : Int)) [])))], bx := [[V.str (RIn.s (Prod.snd (N.rMs (Int.toNat (IntKind.wrap IntKind.i64 (Prod.fst (N.rNum (Prod.snd (N.rNum q (8 : Int))) (1 : Int))))) (N.rFail (Prod.snd (N.rNum (Prod.snd (N.rNum q (8 : Int))) (1 : Int))) (6 : Int)) []))), V.int IntKind.i64 (RIn.at' (Prod.snd (N.rMs (Int.toNat (IntKind.wrap IntKind.i64 (Prod.fst (N.rNum (Prod.snd (N.rNum q (8 : Int))) (1 : Int))))) (N.rFail (Prod.snd (N.rNum (Prod.snd (N.rNum q (8 : Int))) (1 : Int))) (6 : Int)) []))), V.int IntKind.i64 (RIn.code (Prod.snd (N.rMs (Int.toNat (IntKind.wrap IntKind.i64 (Prod.fst (N.rNum (Prod.snd (N.rNum q (8 : Int))) (1 : Int))))) (N.rFail (Prod.snd (N.rNum (Prod.snd (N.rNum q (8 : Int))) (1 : Int))) (6 : Int)) [])))]] : DRes })) (none)) (none))) (cond (ile (IntKind.wrap IntKind.i64 (Prod.fst (N.rNum (Prod.snd (N.rNum q (8 : Int))) (1 : Int)))) (255 : Int)) (cond (N.goodR (N.rFail (N.rFail (Prod.snd (N.rNum (Prod.snd (N.rNum q (8 : Int))) (1 : Int))) (6 : Int)) (7 : Int))) (cond (RIn.code (Prod.snd (N.rMs (Int.toNat (IntKind.wrap IntKind.i64 (Prod.fst (N.rNum (Prod.snd (N.rNum q (8 : Int))) (1 : Int))))) (N.rFail (N.rFail (Prod.snd (N.rNum (Prod.snd (N.rNum q (8 : Int))) (1 : Int))) (6 : Int)) (7 : Int)) [])) != (0 : Int)) (some { v := V.agg [V.int IntKind.u64 (0 : Int), V.slc [Sh.int IntKind.u64, Sh.str, Sh.str, Sh.slc [Sh.str, Sh.int IntKind.u8, Sh.int IntKind.i64, Sh.str], Sh.str, Sh.int IntKind.u64, Sh.int IntKind.u8] []], bx := [[V.str (RIn.s (Prod.snd (N.rMs (Int.toNat (IntKind.wrap IntKind.i64 (Prod.fst (N.rNum (Prod.snd (N.rNum q (8 : Int))) (1 : Int))))) (N.rFail (N.rFail (Prod.snd (N.rNum (Prod.snd (N.rNum q (8 : Int))) (1 : Int))) (6 : Int)) (7 : Int)) []))), V.int IntKind.i64 (RIn.at' (Prod.snd (N.rMs (Int.toNat (IntKind.wrap IntKind.i64 (Prod.fst (N.rNum (Prod.snd (N.rNum q (8 : Int))) (1 : Int))))) (N.rFail (N.rFail (Prod.snd (N.rNum (Prod.snd (N.rNum q (8 : Int))) (1 : Int))) (6 : Int)) (7 : Int)) []))), V.int IntKind.i64 (RIn.code (Prod.snd (N.rMs (Int.toNat (IntKind.wrap IntKind.i64 (Prod.fst (N.rNum (Prod.snd (N.rNum q (8 : Int))) (1 : Int))))) (N.rFail (N.rFail (Prod.snd (N.rNum (Prod.snd (N.rNum q (8 : Int))) (1 : Int))) (6 : Int)) (7 : Int)) [])))]] : DRes }) (some { v := V.agg [V.int IntKind.u64 (Prod.fst (N.rNum q (8 : Int))), V.slc [Sh.int IntKind.u64, Sh.str, Sh.str, Sh.slc [Sh.str, Sh.int IntKind.u8, Sh.int IntKind.i64, Sh.str], Sh.str, Sh.int IntKind.u64, Sh.int IntKind.u8] (List.map (RCod.enc cMail) (Prod.fst (N.rMs (Int.toNat (IntKind.wrap IntKind.i64 (Prod.fst (N.rNum (Prod.snd (N.rNum q (8 : Int))) (1 : Int))))) (N.rFail (N.rFail (Prod.snd (N.rNum (Prod.snd (N.rNum q (8 : Int))) (1 : Int))) (6 : Int)) (7 : Int)) [])))], bx := [[V.str (RIn.s (Prod.snd (N.rMs (Int.toNat (IntKind.wrap IntKind.i64 (Prod.fst (N.rNum (Prod.snd (N.rNum q (8 : Int))) (1 : Int))))) (N.rFail (N.rFail (Prod.snd (N.rNum (Prod.snd (N.rNum q (8 : Int))) (1 : Int))) (6 : Int)) (7 : Int)) []))), V.int IntKind.i64 (RIn.at' (Prod.snd (N.rMs (Int.toNat (IntKind.wrap IntKind.i64 (Prod.fst (N.rNum (Prod.snd (N.rNum q (8 : Int))) (1 : Int))))) (N.rFail (N.rFail (Prod.snd (N.rNum (Prod.snd (N.rNum q (8 : Int))) (1 : Int))) (6 : Int)) (7 : Int)) []))), V.int IntKind.i64 (RIn.code (Prod.snd (N.rMs (Int.toNat (IntKind.wrap IntKind.i64 (Prod.fst (N.rNum (Prod.snd (N.rNum q (8 : Int))) (1 : Int))))) (N.rFail (N.rFail (Prod.snd (N.rNum (Prod.snd (N.rNum q (8 : Int))) (1 : Int))) (6 : Int)) (7 : Int)) [])))]] : DRes })) (none)) (none))) (cond (ile (IntKind.wrap IntKind.i64 (Prod.fst (N.rNum (Prod.snd (N.rNum q (8 : Int))) (1 : Int)))) (255 : Int)) (cond (N.goodR (N.rFail (Prod.snd (N.rNum (Prod.snd (N.rNum q (8 : Int))) (1 : Int))) (6 : Int))) (cond (RIn.code (Prod.snd (N.rMs (Int.toNat (IntKind.wrap IntKind.i64 (Prod.fst (N.rNum (Prod.snd (N.rNum q (8 : Int))) (1 : Int))))) (N.rFail (Prod.snd (N.rNum (Prod.snd (N.rNum q (8 : Int))) (1 : Int))) (6 : Int)) [])) != (0 : Int)) (some { v := V.agg [V.int IntKind.u64 (0 : Int), V.slc [Sh.int IntKind.u64, Sh.str, Sh.str, Sh.slc [Sh.str, Sh.int IntKind.u8, Sh.int IntKind.i64, Sh.str], Sh.str, Sh.int IntKind.u64, Sh.int IntKind.u8] []], bx := [[V.str (RIn.s (Prod.snd (N.rMs (Int.toNat (IntKind.wrap IntKind.i64 (Prod.fst (N.rNum (Prod.snd (N.rNum q (8 : Int))) (1 : Int))))) (N.rFail (Prod.snd (N.rNum (Prod.snd (N.rNum q (8 : Int))) (1 : Int))) (6 : Int)) []))), V.int IntKind.i64 (RIn.at' (Prod.snd (N.rMs (Int.toNat (IntKind.wrap IntKind.i64 (Prod.fst (N.rNum (Prod.snd (N.rNum q (8 : Int))) (1 : Int))))) (N.rFail (Prod.snd (N.rNum (Prod.snd (N.rNum q (8 : Int))) (1 : Int))) (6 : Int)) []))), V.int IntKind.i64 (RIn.code (Prod.snd (N.rMs (Int.toNat (IntKind.wrap IntKind.i64 (Prod.fst (N.rNum (Prod.snd (N.rNum q (8 : Int))) (1 : Int))))) (N.rFail (Prod.snd (N.rNum (Prod.snd (N.rNum q (8 : Int))) (1 : Int))) (6 : Int)) [])))]] : DRes }) (some { v := V.agg [V.int IntKind.u64 (Prod.fst (N.rNum q (8 : Int))), V.slc [Sh.int IntKind.u64, Sh.str, Sh.str, Sh.slc [Sh.str, Sh.int IntKind.u8, Sh.int IntKind.i64, Sh.str], Sh.str, Sh.int IntKind.u64, Sh.int IntKind.u8] (List.map (RCod.enc cMail) (Prod.fst (N.rMs (Int.toNat (IntKind.wrap IntKind.i64 (Prod.fst (N.rNum (Prod.snd (N.rNum q (8 : Int))) (1 : Int))))) (N.rFail (Prod.snd (N.rNum (Prod.snd (N.rNum q (8 : Int))) (1 : Int))) (6 : Int)) [])))], bx := [[V.str (RIn.s (Prod.snd (N.rMs (Int.toNat (IntKind.wrap IntKind.i64 (Prod.fst (N.rNum (Prod.snd (N.rNum q (8 : Int))) (1 : Int))))) (N.rFail (Prod.snd (N.rNum (Prod.snd (N.rNum q (8 : Int))) (1 : Int))) (6 : Int)) []))), V.int IntKind.i64 (RIn.at' (Prod.snd (N.rMs (Int.toNat (IntKind.wrap IntKind.i64 (Prod.fst (N.rNum (Prod.snd (N.rNum q (8 : Int))) (1 : Int))))) (N.rFail (Prod.snd (N.rNum (Prod.snd (N.rNum q (8 : Int))) (1 : Int))) (6 : Int)) []))), V.int IntKind.i64 (RIn.code (Prod.snd (N.rMs (Int.toNat (IntKind.wrap IntKind.i64 (Prod.fst (N.rNum (Prod.snd (N.rNum q (8 : Int))) (1 : Int))))) (N.rFail (Prod.snd (N.rNum (Prod.snd (N.rNum q (8 : Int))) (1 : Int))) (6 : Int)) [])))]] : DRes })) (none)) (none))) (cond (IntKind.wrap IntKind.u64 (IntKind.wrap IntKind.i64 (Prod.fst (N.rNum (Prod.snd (N.rNum q (8 : Int))) (1 : Int)))) != Prod.fst (N.rNum q (8 : Int))) (cond (IntKind.wrap IntKind.i64 (Prod.fst (N.rNum (Prod.snd (N.rNum q (8 : Int))) (1 : Int))) == (16 : Int)) (cond (!ilt (16 : Int) (Prod.fst (N.rNum q (8 : Int)))) (cond (ile (IntKind.wrap IntKind.i64 (Prod.fst (N.rNum (Prod.snd (N.rNum q (8 : Int))) (1 : Int)))) (255 : Int)) (cond (N.goodR (N.rFail (Prod.snd (N.rNum (Prod.snd (N.rNum q (8 : Int))) (1 : Int))) (7 : Int))) (cond (RIn.code (Prod.snd (N.rMs (Int.toNat (IntKind.wrap IntKind.i64 (Prod.fst (N.rNum (Prod.snd (N.rNum q (8 : Int))) (1 : Int))))) (N.rFail (Prod.snd (N.rNum (Prod.snd (N.rNum q (8 : Int))) (1 : Int))) (7 : Int)) [])) != (0 : Int)) (some { v := V.agg [V.int IntKind.u64 (0 : Int), V.slc [Sh.int IntKind.u64, Sh.str, Sh.str, Sh.slc [Sh.str, Sh.int IntKind.u8, Sh.int IntKind.i64, Sh.str], Sh.str, Sh.int IntKind.u64, Sh.int IntKind.u8] []], bx := [[V.str (RIn.s (Prod.snd (N.rMs (Int.toNat (IntKind.wrap IntKind.i64 (Prod.fst (N.rNum (Prod.snd (N.rNum q (8 : Int))) (1 : Int))))) (N.rFail (Prod.snd (N.rNum (Prod.snd (N.rNum q (8 : Int))) (1 : Int))) (7 : Int)) []))), V.int IntKind.i64 (RIn.at' (Prod.snd (N.rMs (Int.toNat (IntKind.wrap IntKind.i64 (Prod.fst (N.rNum (Prod.snd (N.rNum q (8 : Int))) (1 : Int))))) (N.rFail (Prod.snd (N.rNum (Prod.snd (N.rNum q (8 : Int))) (1 : Int))) (7 : Int)) []))), V.int IntKind.i64 (RIn.code (Prod.snd (N.rMs (Int.toNat (IntKind.wrap IntKind.i64 (Prod.fst (N.rNum (Prod.snd (N.rNum q (8 : Int))) (1 : Int))))) (N.rFail (Prod.snd (N.rNum (Prod.snd (N.rNum q (8 : Int))) (1 : Int))) (7 : Int)) [])))]] : DRes }) (some { v := V.agg [V.int IntKind.u64 (Prod.fst (N.rNum q (8 : Int))), V.slc [Sh.int IntKind.u64, Sh.str, Sh.str, Sh.slc [Sh.str, Sh.int IntKind.u8, Sh.int IntKind.i64, Sh.str], Sh.str, Sh.int IntKind.u64, Sh.int IntKind.u8] (List.map (RCod.enc cMail) (Prod.fst (N.rMs (Int.toNat (IntKind.wrap IntKind.i64 (Prod.fst (N.rNum (Prod.snd (N.rNum q (8 : Int))) (1 : Int))))) (N.rFail (Prod.snd (N.rNum (Prod.snd (N.rNum q (8 : Int))) (1 : Int))) (7 : Int)) [])))], bx := [[V.str (RIn.s (Prod.snd (N.rMs (Int.toNat (IntKind.wrap IntKind.i64 (Prod.fst (N.rNum (Prod.snd (N.rNum q (8 : Int))) (1 : Int))))) (N.rFail (Prod.snd (N.rNum (Prod.snd (N.rNum q (8 : Int))) (1 : Int))) (7 : Int)) []))), V.int IntKind.i64 (RIn.at' (Prod.snd (N.rMs (Int.toNat (IntKind.wrap IntKind.i64 (Prod.fst (N.rNum (Prod.snd (N.rNum q (8 : Int))) (1 : Int))))) (N.rFail (Prod.snd (N.rNum (Prod.snd (N.rNum q (8 : Int))) (1 : Int))) (7 : Int)) []))), V.int IntKind.i64 (RIn.code (Prod.snd (N.rMs (Int.toNat (IntKind.wrap IntKind.i64 (Prod.fst (N.rNum (Prod.snd (N.rNum q (8 : Int))) (1 : Int))))) (N.rFail (Prod.snd (N.rNum (Prod.snd (N.rNum q (8 : Int))) (1 : Int))) (7 : Int)) [])))]] : DRes })) (none)) (none)) (cond (ile (IntKind.wrap IntKind.i64 (Prod.fst (N.rNum (Prod.snd (N.rNum q (8 : Int))) (1 : Int)))) (255 : Int)) (cond (N.goodR (Prod.snd (N.rNum (Prod.snd (N.rNum q (8 : Int))) (1 : Int)))) (cond (RIn.code (Prod.snd (N.rMs (Int.toNat (IntKind.wrap IntKind.i64 (Prod.fst (N.rNum (Prod.snd (N.rNum q (8 : Int))) (1 : Int))))) (Prod.snd (N.rNum (Prod.snd (N.rNum q (8 : Int))) (1 : Int))) [])) != (0 : Int)) (some { v := V.agg [V.int IntKind.u64 (0 : Int), V.slc [Sh.int IntKind.u64, Sh.str, Sh.str, Sh.slc [Sh.str, Sh.int IntKind.u8, Sh.int IntKind.i64, Sh.str], Sh.str, Sh.int IntKind.u64, Sh.int IntKind.u8] []], bx := [[V.str (RIn.s (Prod.snd (N.rMs (Int.toNat (IntKind.wrap IntKind.i64 (Prod.fst (N.rNum (Prod.snd (N.rNum q (8 : Int))) (1 : Int))))) (Prod.snd (N.rNum (Prod.snd (N.rNum q (8 : Int))) (1 : Int))) []))), V.int IntKind.i64 (RIn.at' (Prod.snd (N.rMs (Int.toNat (IntKind.wrap IntKind.i64 (Prod.fst (N.rNum (Prod.snd (N.rNum q (8 : Int))) (1 : Int))))) (Prod.snd (N.rNum (Prod.snd (N.rNum q (8 : Int))) (1 : Int))) []))), V.int IntKind.i64 (RIn.code (Prod.snd (N.rMs (Int.toNat (IntKind.wrap IntKind.i64 (Prod.fst (N.rNum (Prod.snd (N.rNum q (8 : Int))) (1 : Int))))) (Prod.snd (N.rNum (Prod.snd (N.rNum q (8 : Int))) (1 : Int))) [])))]] : DRes }) (some { v := V.agg [V.int IntKind.u64 (Prod.fst (N.rNum q (8 : Int))), V.slc [Sh.int IntKind.u64, Sh.str, Sh.str, Sh.slc [Sh.str, Sh.int IntKind.u8, Sh.int IntKind.i64, Sh.str], Sh.str, Sh.int IntKind.u64, Sh.int IntKind.u8] (List.map (RCod.enc cMail) (Prod.fst (N.rMs (Int.toNat (IntKind.wrap IntKind.i64 (Prod.fst (N.rNum (Prod.snd (N.rNum q (8 : Int))) (1 : Int))))) (Prod.snd (N.rNum (Prod.snd (N.rNum q (8 : Int))) (1 : Int))) [])))], bx := [[V.str (RIn.s (Prod.snd (N.rMs (Int.toNat (IntKind.wrap IntKind.i64 (Prod.fst (N.rNum (Prod.snd (N.rNum q (8 : Int))) (1 : Int))))) (Prod.snd (N.rNum (Prod.snd (N.rNum q (8 : Int))) (1 : Int))) []))), V.int IntKind.i64 (RIn.at' (Prod.snd (N.rMs (Int.toNat (IntKind.wrap IntKind.i64 (Prod.fst (N.rNum (Prod.snd (N.rNum q (8 : Int))) (1 : Int))))) (Prod.snd (N.rNum (Prod.snd (N.rNum q (8 : Int))) (1 : Int))) []))), V.int IntKind.i64 (RIn.code (Prod.snd (N.rMs (Int.toNat (IntKind.wrap IntKind.i64 (Prod.fst (N.rNum (Prod.snd (N.rNum q (8 : Int))) (1 : Int))))) (Prod.snd (N.rNum (Prod.snd (N.rNum q (8 : Int))) (1 : Int))) [])))]] : DRes })) (none)) (none))) (cond (ile (IntKind.wrap IntKind.i64 (Prod.fst (N.rNum (Prod.snd (N.rNum q (8 : Int))) (1 : Int)))) (255 : Int)) (cond (N.goodR (N.rFail (Prod.snd (N.rNum (Prod.snd (N.rNum q (8 : Int))) (1 : Int))) (7 : Int))) (cond (RIn.code (Prod.snd (N.rMs (Int.toNat (IntKind.wrap IntKind.i64 (Prod.fst (N.rNum (Prod.snd (N.rNum q (8 : Int))) (1 : Int))))) (N.rFail (Prod.snd (N.rNum (Prod.snd (N.rNum q (8 : Int))) (1 : Int))) (7 : Int)) [])) != (0 : Int)) (some { v := V.agg [V.int IntKind.u64 (0 : Int), V.slc [Sh.int IntKind.u64, Sh.str, Sh.str, Sh.slc [Sh.str, Sh.int IntKind.u8, Sh.int IntKind.i64, Sh.str], Sh.str, Sh.int IntKind.u64, Sh.int IntKind.u8] []], bx := [[V.str (RIn.s (Prod.snd (N.rMs (Int.toNat (IntKind.wrap IntKind.i64 (Prod.fst (N.rNum (Prod.snd (N.rNum q (8 : Int))) (1 : Int))))) (N.rFail (Prod.snd (N.rNum (Prod.snd (N.rNum q (8 : Int))) (1 : Int))) (7 : Int)) []))), V.int IntKind.i64 (RIn.at' (Prod.snd (N.rMs (Int.toNat (IntKind.wrap IntKind.i64 (Prod.fst (N.rNum (Prod.snd (N.rNum q (8 : Int))) (1 : Int))))) (N.rFail (Prod.snd (N.rNum (Prod.snd (N.rNum q (8 : Int))) (1 : Int))) (7 : Int)) []))), V.int IntKind.i64 (RIn.code (Prod.snd (N.rMs (Int.toNat (IntKind.wrap IntKind.i64 (Prod.fst (N.rNum (Prod.snd (N.rNum q (8 : Int))) (1 : Int))))) (N.rFail (Prod.snd (N.rNum (Prod.snd (N.rNum q (8 : Int))) (1 : Int))) (7 : Int)) [])))]] : DRes }) (some { v := V.agg [V.int IntKind.u64 (Prod.fst (N.rNum q (8 : Int))), V.slc [Sh.int IntKind.u64, Sh.str, Sh.str, Sh.slc [Sh.str, Sh.int IntKind.u8, Sh.int IntKind.i64, Sh.str], Sh.str, Sh.int IntKind.u64, Sh.int IntKind.u8] (List.map (RCod.enc cMail) (Prod.fst (N.rMs (Int.toNat (IntKind.wrap IntKind.i64 (Prod.fst (N.rNum (Prod.snd (N.rNum q (8 : Int))) (1 : Int))))) (N.rFail (Prod.snd (N.rNum (Prod.snd (N.rNum q (8 : Int))) (1 : Int))) (7 : Int)) [])))], bx := [[V.str (RIn.s (Prod.snd (N.rMs (Int.toNat (IntKind.wrap IntKind.i64 (Prod.fst (N.rNum (Prod.snd (N.rNum q (8 : Int))) (1 : Int))))) (N.rFail (Prod.snd (N.rNum (Prod.snd (N.rNum q (8 : Int))) (1 : Int))) (7 : Int)) []))), V.int IntKind.i64 (RIn.at' (Prod.snd (N.rMs (Int.toNat (IntKind.wrap IntKind.i64 (Prod.fst (N.rNum (Prod.snd (N.rNum q (8 : Int))) (1 : Int))))) (N.rFail (Prod.snd (N.rNum (Prod.snd (N.rNum q (8 : Int))) (1 : Int))) (7 : Int)) []))), V.int IntKind.i64 (RIn.code (Prod.snd (N.rMs (Int.toNat (IntKind.wrap IntKind.i64 (Prod.fst (N.rNum (Prod.snd (N.rNum q (8 : Int))) (1 : Int))))) (N.rFail (Prod.snd (N.rNum (Prod.snd (N.rNum q (8 : Int))) (1 : Int))) (7 : Int)) [])))]] : DRes })) (none)) (none))) (cond (ile (IntKind.wrap IntKind.i64 (Prod.fst (N.rNum (Prod.snd (N.rNum q (8 : Int))) (1 : Int)))) (255 : Int)) (cond (N.goodR (Prod.snd (N.rNum (Prod.snd (N.rNum q (8 : Int))) (1 : Int)))) (cond (RIn.code (Prod.snd (N.rMs (Int.toNat (IntKind.wrap IntKind.i64 (Prod.fst (N.rNum (Prod.snd (N.rNum q (8 : Int))) (1 : Int))))) (Prod.snd (N.rNum (Prod.snd (N.rNum q (8 : Int))) (1 : Int))) [])) != (0 : Int)) (some { v := V.agg [V.int IntKind.u64 (0 : Int), V.slc [Sh.int IntKind.u64, Sh.str, Sh.str, Sh.slc [Sh.str, Sh.int IntKind.u8, Sh.int IntKind.i64, Sh.str], Sh.str, Sh.int IntKind.u64, Sh.int IntKind.u8] []], bx := [[V.str (RIn.s (Prod.snd (N.rMs (Int.toNat (IntKind.wrap IntKind.i64 (Prod.fst (N.rNum (Prod.snd (N.rNum q (8 : Int))) (1 : Int))))) (Prod.snd (N.rNum (Prod.snd (N.rNum q (8 : Int))) (1 : Int))) []))), V.int IntKind.i64 (RIn.at' (Prod.snd (N.rMs (Int.toNat (IntKind.wrap IntKind.i64 (Prod.fst (N.rNum (Prod.snd (N.rNum q (8 : Int))) (1 : Int))))) (Prod.snd (N.rNum (Prod.snd (N.rNum q (8 : Int))) (1 : Int))) []))), V.int IntKind.i64 (RIn.code (Prod.snd (N.rMs (Int.toNat (IntKind.wrap IntKind.i64 (Prod.fst (N.rNum (Prod.snd (N.rNum q (8 : Int))) (1 : Int))))) (Prod.snd (N.rNum (Prod.snd (N.rNum q (8 : Int))) (1 : Int))) [])))]] : DRes }) (some { v := V.agg [V.int IntKind.u64 (Prod.fst (N.rNum q (8 : Int))), V.slc [Sh.int IntKind.u64, Sh.str, Sh.str, Sh.slc [Sh.str, Sh.int IntKind.u8, Sh.int IntKind.i64, Sh.str], Sh.str, Sh.int IntKind.u64, Sh.int IntKind.u8] (List.map (RCod.enc cMail) (Prod.fst (N.rMs (Int.toNat (IntKind.wrap IntKind.i64 (Prod.fst (N.rNum (Prod.snd (N.rNum q (8 : Int))) (1 : Int))))) (Prod.snd (N.rNum (Prod.snd (N.rNum q (8 : Int))) (1 : Int))) [])))], bx := [[V.str (RIn.s (Prod.snd (N.rMs (Int.toNat (IntKind.wrap IntKind.i64 (Prod.fst (N.rNum (Prod.snd (N.rNum q (8 : Int))) (1 : Int))))) (Prod.snd (N.rNum (Prod.snd (N.rNum q (8 : Int))) (1 : Int))) []))), V.int IntKind.i64 (RIn.at' (Prod.snd (N.rMs (Int.toNat (IntKind.wrap IntKind.i64 (Prod.fst (N.rNum (Prod.snd (N.rNum q (8 : Int))) (1 : Int))))) (Prod.snd (N.rNum (Prod.snd (N.rNum q (8 : Int))) (1 : Int))) []))), V.int IntKind.i64 (RIn.code (Prod.snd (N.rMs (Int.toNat (IntKind.wrap IntKind.i64 (Prod.fst (N.rNum (Prod.snd (N.rNum q (8 : Int))) (1 : Int))))) (Prod.snd (N.rNum (Prod.snd (N.rNum q (8 : Int))) (1 : Int))) [])))]] : DRes })) (none)) (none)))) (none)) (none) := by kernel_rfl
theorem q_refRReadR (n k : Int) (s : Bytes) (a c : Int) (r1 : List (List V)) (t1 : Int) (r3 : List (List V)) (t : Int) (K : Ex → St → Option R) : evRound eRefRRead 9 8 { fr := [(0, .ptr 0 0 0 0), (2, .ptr 10000 0 0 0), (3, .ptr 10002 0 0 0), (4, .int .i64 n), (5, .int .i64 k)], tab := [(0, .var [.str s, .int .i64 a, .int .i64 c]), (10001, .sl [.int .u64, .str, .str, .slc [.str, .int .u8, .int .i64, .str], .str, .int .u64, .int .u8] r1 0), (10000, .var [.int .u64 t1, .own 10001 0]), (10003, .sl [.int .u64, .str, .str, .slc [.str, .int .u8, .int .i64, .str], .str, .int .u64, .int .u8] r3 0), (10002, .var [.int .u64 t, .own 10003 0])] } K =
 cond (ilt k n) (cond (c == (0 : Int)) (cond (N.goodR { s := s, at' := a, code := c : RIn }) (cond (decide ((List.length r3 + (1 : Nat)) * (96 : Nat) ≤ (140737488355328 : Nat))) (K Ex.normal { fr := [((0 : Nat), V.ptr (0 : Nat) (0 : Nat) (0 : Nat) (0 : Nat)), ((2 : Nat), V.ptr (10000 : Nat) (0 : Nat) (0 : Nat) (0 : Nat)), ((3 : Nat), V.ptr (10002 : Nat) (0 : Nat) (0 : Nat) (0 : Nat)), ((4 : Nat), V.int IntKind.i64 n), ((5 : Nat), V.int IntKind.i64 (IntKind.wrap IntKind.i64 (k + (1 : Int))))], tab := [((0 : Nat), Box.var [V.str (RIn.s (Prod.snd (N.rMail { s := s, at' := a, code := c : RIn }))), V.int IntKind.i64 (RIn.at' (Prod.snd (N.rMail { s := s, at' := a, code := c : RIn }))), V.int IntKind.i64 (RIn.code (Prod.snd (N.rMail { s := s, at' := a, code := c : RIn })))]), ((10001 : Nat), Box.sl [Sh.int IntKind.u64, Sh.str, Sh.str, Sh.slc [Sh.str, Sh.int IntKind.u8, Sh.int IntKind.i64, Sh.str], Sh.str, Sh.int IntKind.u64, Sh.int IntKind.u8] r1 (0 : Nat)), ((10000 : Nat), Box.var [V.int IntKind.u64 t1, V.own (10001 : Nat) (0 : Nat)]), ((10003 : Nat), Box.sl [Sh.int IntKind.u64, Sh.str, Sh.str, Sh.slc [Sh.str, Sh.int IntKind.u8, Sh.int IntKind.i64, Sh.str], Sh.str, Sh.int IntKind.u64, Sh.int IntKind.u8] (r3 ++ [[V.int IntKind.u64 (HMail.id (Prod.fst (N.rMail { s := s, at' := a, code := c : RIn }))), V.str (HMail.shop (Prod.fst (N.rMail { s := s, at' := a, code := c : RIn }))), V.str (HMail.key (Prod.fst (N.rMail { s := s, at' := a, code := c : RIn }))), V.slc [Sh.str, Sh.int IntKind.u8, Sh.int IntKind.i64, Sh.str] (List.map (fun p => [V.str (HPair.key p), V.int IntKind.u8 (HPair.kind p), V.int IntKind.i64 (HPair.num p), V.str (HPair.text p)]) (HMail.head (Prod.fst (N.rMail { s := s, at' := a, code := c : RIn })))), V.str (HMail.body (Prod.fst (N.rMail { s := s, at' := a, code := c : RIn }))), V.int IntKind.u64 (HMail.due (Prod.fst (N.rMail { s := s, at' := a, code := c : RIn }))), V.int IntKind.u8 (HMail.hops (Prod.fst (N.rMail { s := s, at' := a, code := c : RIn })))]]) (0 : Nat)), ((10002 : Nat), Box.var [V.int IntKind.u64 t, V.own (10003 : Nat) (0 : Nat)])] : St }) (none)) (none)) (K (Ex.exit (0 : Nat)) { fr := [((0 : Nat), V.ptr (0 : Nat) (0 : Nat) (0 : Nat) (0 : Nat)), ((2 : Nat), V.ptr (10000 : Nat) (0 : Nat) (0 : Nat) (0 : Nat)), ((3 : Nat), V.ptr (10002 : Nat) (0 : Nat) (0 : Nat) (0 : Nat))], tab := [((0 : Nat), Box.var [V.str s, V.int IntKind.i64 a, V.int IntKind.i64 c]), ((10001 : Nat), Box.sl [Sh.int IntKind.u64, Sh.str, Sh.str, Sh.slc [Sh.str, Sh.int IntKind.u8, Sh.int IntKind.i64, Sh.str], Sh.str, Sh.int IntKind.u64, Sh.int IntKind.u8] r1 (0 : Nat)), ((10000 : Nat), Box.var [V.int IntKind.u64 t1, V.own (10001 : Nat) (0 : Nat)]), ((10003 : Nat), Box.sl [Sh.int IntKind.u64, Sh.str, Sh.str, Sh.slc [Sh.str, Sh.int IntKind.u8, Sh.int IntKind.i64, Sh.str], Sh.str, Sh.int IntKind.u64, Sh.int IntKind.u8] r3 (0 : Nat)), ((10002 : Nat), Box.var [V.int IntKind.u64 t, V.own (10003 : Nat) (0 : Nat)])] : St })) (K (Ex.exit (0 : Nat)) { fr := [((0 : Nat), V.ptr (0 : Nat) (0 : Nat) (0 : Nat) (0 : Nat)), ((2 : Nat), V.ptr (10000 : Nat) (0 : Nat) (0 : Nat) (0 : Nat)), ((3 : Nat), V.ptr (10002 : Nat) (0 : Nat) (0 : Nat) (0 : Nat))], tab := [((0 : Nat), Box.var [V.str s, V.int IntKind.i64 a, V.int IntKind.i64 c]), ((10001 : Nat), Box.sl [Sh.int IntKind.u64, Sh.str, Sh.str, Sh.slc [Sh.str, Sh.int IntKind.u8, Sh.int IntKind.i64, Sh.str], Sh.str, Sh.int IntKind.u64, Sh.int IntKind.u8] r1 (0 : Nat)), ((10000 : Nat), Box.var [V.int IntKind.u64 t1, V.own (10001 : Nat) (0 : Nat)]), ((10003 : Nat), Box.sl [Sh.int IntKind.u64, Sh.str, Sh.str, Sh.slc [Sh.str, Sh.int IntKind.u8, Sh.int IntKind.i64, Sh.str], Sh.str, Sh.int IntKind.u64, Sh.int IntKind.u8] r3 (0 : Nat)), ((10002 : Nat), Box.var [V.int IntKind.u64 t, V.own (10003 : Nat) (0 : Nat)])] : St }) := by kernel_rfl
namespace N
def rrN (i : InS) : Int × InS := inNum (inNum i 8).2 1
def rrI (i : InS) : InS := cond ((rrN i).2.err != 0) (rrN i).2 (cond (ilt 16 (rrN i).1) (inFail (rrN i).2 6) (cond ((rrN i).1 != cond (ilt 16 (inNum i 8).1) 16 (inNum i 8).1) (inFail (rrN i).2 7) (rrN i).2))
def rrE (t : Int) (w : List HMail × InS) : HRise × InS := cond (w.2.err != 0) (rise0, w.2) (⟨t, w.1⟩, w.2)
def riseRead (i : InS) : HRise × InS := rrE (inNum i 8).1 (readMs (rrN i).1.toNat (rrI i) [])
def rqN (q : RIn) : Int × RIn := rNum (rNum q 8).2 1
def rqI (q : RIn) : RIn := cond ((rqN q).1 != (rNum q 8).1) (cond ((rqN q).1 == 16) (cond (!ilt 16 (rNum q 8).1) (rFail (cond (ilt 16 (rqN q).1) (rFail (rqN q).2 6) (rqN q).2) 7) (cond (ilt 16 (rqN q).1) (rFail (rqN q).2 6) (rqN q).2)) (rFail (cond (ilt 16 (rqN q).1) (rFail (rqN q).2 6) (rqN q).2) 7)) (cond (ilt 16 (rqN q).1) (rFail (rqN q).2 6) (rqN q).2)
def rqE (t : Int) (w : List HMail × RIn) : HRise × RIn := cond (w.2.code != 0) (rise0, w.2) (⟨t, w.1⟩, w.2)
def rRise (q : RIn) : HRise × RIn := rqE (rNum q 8).1 (rMs (rqN q).1.toNat (rqI q) [])
end N
def dRiseRead : Den := den (aOne (vPtr 0)) (bOne cIn) (oV (vAgg cRise)) (fun _ _ => true) fun _ i => N.riseRead i
def dRRise : Den := den (aOne (vPtr 0)) (bOne cRIn) (oV (vAgg cRise)) (fun _ q => N.goodR q) fun _ q => N.rRise q
theorem rl_ms {s : Bytes} : ∀ (k : Nat) {i : InS} {q : RIn} (acc : List HMail), Rl s i q → (N.readMs k i acc).1 = (N.rMs k q acc).1 ∧ Rl s (N.readMs k i acc).2 (N.rMs k q acc).2
  | 0, _, _, _, h => ⟨rfl, h⟩
  | k + 1, i, q, acc, h => by
    unfold N.readMs N.rMs
    have he : i.err = q.code := h.2.2.2.1
    have hm := rl_mail h
    rw [he]
    cases q.code == 0 with
    | true =>
      simp only [cond_true]
      rw [hm.1]
      exact rl_ms k _ hm.2
    | false => exact ⟨rfl, h⟩
theorem good_mail {q : RIn} (h : N.goodR q = true) : N.goodR (N.rMail q).2 = true := rl_good (rl_mail (good_rl h).1).2 (good_rl h).2
theorem ok_rRead9 : RoundsOk eRRead 8 9 := by
  refine rounds_of rfl fun l K q h => ?_
  unfold gRRead at h
  split at h
  · rename_i n k s e r1 t1 r3 t
    have h1 := (cond_none h).1; replace h := (cond_none h).2; have h2 := (cond_none h).1; replace h := (cond_none h).2; have h3 := (cond_none h).1; replace h := (cond_none h).2
    have e1 := ieq_of h1
    have e3 := List.eq_nil_of_length_eq_zero (nbeq_of h3)
    subst e1 e3
    have h2 := ile_of h2
    have main := loop_ind (E := eRRead) (f := 8) (id := 9) (σ := Nat × InS × List HMail) (fun x => { fr := [(0, .ptr 0 0 0 0), (2, .ptr 10000 0 0 0), (3, .ptr 10002 0 0 0), (4, .int .u64 n), (5, .int .u64 (x.1 : Int))], tab := [(0, .var [.str x.2.1.s, .int .i64 x.2.1.err]), (10001, .sl [.int .u64, .str, .str, .slc [.str, .int .u8, .int .i64, .str], .str, .int .u64, .int .u8] r1 0), (10000, .var [.int .u64 t1, .own 10001 0]), (10003, .sl [.int .u64, .str, .str, .slc [.str, .int .u8, .int .i64, .str], .str, .int .u64, .int .u8] (x.2.2.map cMail.enc) 0), (10002, .var [.int .u64 t, .own 10003 0])] })
      (fun x => x.2.2.length ≤ 256 ∧ (x.1 : Int) ≤ 256 ∧ x.2.2.length = x.1) (fun x => (n - x.1).toNat)
      (fun x K => K (.exit 1) { fr := [(0, .ptr 0 0 0 0), (2, .ptr 10000 0 0 0), (3, .ptr 10002 0 0 0)], tab := [(0, .var [.str (N.readMs (n - x.1).toNat x.2.1 x.2.2).2.s, .int .i64 (N.readMs (n - x.1).toNat x.2.1 x.2.2).2.err]), (10001, .sl [.int .u64, .str, .str, .slc [.str, .int .u8, .int .i64, .str], .str, .int .u64, .int .u8] r1 0), (10000, .var [.int .u64 t1, .own 10001 0]), (10003, .sl [.int .u64, .str, .str, .slc [.str, .int .u8, .int .i64, .str], .str, .int .u64, .int .u8] ((N.readMs (n - x.1).toNat x.2.1 x.2.2).1.map cMail.enc) 0), (10002, .var [.int .u64 t, .own 10003 0])] })
      (fun x hx => ?_) (0, ⟨s, e⟩, []) ⟨Nat.zero_le _, by show ((0 : Nat) : Int) ≤ 256; omega, rfl⟩ K q (by simpa using h)
    · exact main
    · obtain ⟨k, i, acc⟩ := x
      obtain ⟨k1, k2, k3⟩ := hx
      simp only at k1 k2 k3 ⊢
      by_cases hl : (k : Int) < n
      · have ef : (n - (k : Int)).toNat = (n - ((k + 1 : Nat) : Int)).toNat + 1 := by omega
        have w : IntKind.wrap .u64 ((k : Int) + 1) = (k : Int) + 1 := wr_u64 (by omega) (by omega)
        rw [ef]
        cases he : i.err == 0 with
        | true =>
          refine .inl ⟨(k + 1, (N.mailRead i).2, acc ++ [(N.mailRead i).1]), ⟨by simp only [List.length_append, List.length_cons, List.length_nil]; omega, by simp only; omega, by simp only [List.length_append, List.length_cons, List.length_nil]; omega⟩, by simp only; omega, fun K => ?_, fun K => ?_⟩
          · rw [q_rReadR]
            have ei : ({ s := i.s, err := i.err } : InS) = i := rfl
            simp (disch := omega) only [evs, he, w, ei, fold_enc]
            rw [List.map_append]
            rfl
          · show K _ { fr := _, tab := [(0, .var [.str (cond (i.err == 0) (N.readMs (n - ((k + 1 : Nat) : Int)).toNat (N.mailRead i).2 (acc ++ [(N.mailRead i).1])) (acc, i)).2.s, .int .i64 (cond (i.err == 0) (N.readMs (n - ((k + 1 : Nat) : Int)).toNat (N.mailRead i).2 (acc ++ [(N.mailRead i).1])) (acc, i)).2.err]), _, _, (10003, .sl [.int .u64, .str, .str, .slc [.str, .int .u8, .int .i64, .str], .str, .int .u64, .int .u8] ((cond (i.err == 0) (N.readMs (n - ((k + 1 : Nat) : Int)).toNat (N.mailRead i).2 (acc ++ [(N.mailRead i).1])) (acc, i)).1.map cMail.enc) 0), _] } = _
            rw [he]
            rfl
        | false =>
          refine .inr ⟨.exit 1, { fr := [(0, .ptr 0 0 0 0), (2, .ptr 10000 0 0 0), (3, .ptr 10002 0 0 0)], tab := [(0, .var [.str i.s, .int .i64 i.err]), (10001, .sl [.int .u64, .str, .str, .slc [.str, .int .u8, .int .i64, .str], .str, .int .u64, .int .u8] r1 0), (10000, .var [.int .u64 t1, .own 10001 0]), (10003, .sl [.int .u64, .str, .str, .slc [.str, .int .u8, .int .i64, .str], .str, .int .u64, .int .u8] (acc.map cMail.enc) 0), (10002, .var [.int .u64 t, .own 10003 0])] }, by simp, fun K => ?_, fun K => ?_⟩
          · rw [q_rReadR]
            simp (disch := omega) only [evs, he]
          · have e0 : N.readMs ((n - ((k + 1 : Nat) : Int)).toNat + 1) i acc = (acc, i) := by
              unfold N.readMs
              rw [he]; rfl
            rw [e0]
      · have ef : (n - (k : Int)).toNat = 0 := by omega
        rw [ef]
        refine .inr ⟨.exit 1, { fr := [(0, .ptr 0 0 0 0), (2, .ptr 10000 0 0 0), (3, .ptr 10002 0 0 0)], tab := [(0, .var [.str i.s, .int .i64 i.err]), (10001, .sl [.int .u64, .str, .str, .slc [.str, .int .u8, .int .i64, .str], .str, .int .u64, .int .u8] r1 0), (10000, .var [.int .u64 t1, .own 10001 0]), (10003, .sl [.int .u64, .str, .str, .slc [.str, .int .u8, .int .i64, .str], .str, .int .u64, .int .u8] (acc.map cMail.enc) 0), (10002, .var [.int .u64 t, .own 10003 0])] }, by simp, fun K => ?_, fun K => rfl⟩
        rw [q_rReadR]
        simp (disch := omega) only [evs]
  · cases h
theorem ok_riseRead : FnOk Tryz.prog 8 dRiseRead := by
  refine den_okF (env_ok (((((TOk.nil _).cons ok_mailRead).cons ok_inErr).cons ok_fail).cons ok_num)) (E := eRRead) Tryz.func8 [9] (by kernel_rfl) (one1 ok_rRead9) fun _ i _ => ?_
  refine (q_rRead i).trans ?_
  have hn := inNum1 (N.inNum i 8).2
  show _ = some (⟨.agg (cRise.enc (N.riseRead i).1), [cIn.enc (N.riseRead i).2], []⟩ : DRes)
  have er : N.riseRead i = N.rrE (N.inNum i 8).1 (N.readMs (N.rrN i).1.toNat (N.rrI i) []) := rfl
  rw [er]
  have en : N.rrN i = N.inNum (N.inNum i 8).2 1 := rfl
  unfold N.rrI
  rw [en]
  generalize N.inNum (N.inNum i 8).2 1 = b at *
  generalize (N.inNum i 8).1 = t at *
  have hb : ile b.1 255 = true := ile_t (by omega)
  simp only [hb, cond_true]
  have fin : ∀ z : InS, cond ((N.readMs b.1.toNat z []).2.err != 0) (some (⟨.agg [.int .u64 0, .slc [.int .u64, .str, .str, .slc [.str, .int .u8, .int .i64, .str], .str, .int .u64, .int .u8] []], [[.str (N.readMs b.1.toNat z []).2.s, .int .i64 (N.readMs b.1.toNat z []).2.err]], []⟩ : DRes))
      (some (⟨.agg [.int .u64 t, .slc [.int .u64, .str, .str, .slc [.str, .int .u8, .int .i64, .str], .str, .int .u64, .int .u8] ((N.readMs b.1.toNat z []).1.map cMail.enc)], [[.str (N.readMs b.1.toNat z []).2.s, .int .i64 (N.readMs b.1.toNat z []).2.err]], []⟩ : DRes)) = some (⟨.agg (cRise.enc (N.rrE t (N.readMs b.1.toNat z [])).1), [cIn.enc (N.rrE t (N.readMs b.1.toNat z [])).2], []⟩ : DRes) := fun z => by
    unfold N.rrE
    cases (N.readMs b.1.toNat z []).2.err != 0 <;> rfl
  cases b.2.err != 0 with
  | true => exact fin b.2
  | false =>
    cases ilt 16 b.1 with
    | true => exact fin (N.inFail b.2 6)
    | false =>
      cases b.1 != cond (ilt 16 t) 16 t with
      | true => exact fin (N.inFail b.2 7)
      | false => exact fin b.2
theorem ok_refRRead8 : RoundsOk eRefRRead 9 8 := by
  refine rounds_of rfl fun l K q h => ?_
  unfold gRefRRead at h
  split at h
  · rename_i n k s at' e r1 t1 r3 t
    have h1 := (cond_none h).1; replace h := (cond_none h).2; have h2 := (cond_none h).1; replace h := (cond_none h).2; have h3 := (cond_none h).1; replace h := (cond_none h).2; have h4 := (cond_none h).1; replace h := (cond_none h).2
    have e1 := ieq_of h1
    have e3 := List.eq_nil_of_length_eq_zero (nbeq_of h3)
    subst e1 e3
    have h2 := ile_of h2
    have main := loop_ind (E := eRefRRead) (f := 9) (id := 8) (σ := Nat × RIn × List HMail) (fun x => { fr := [(0, .ptr 0 0 0 0), (2, .ptr 10000 0 0 0), (3, .ptr 10002 0 0 0), (4, .int .i64 n), (5, .int .i64 (x.1 : Int))], tab := [(0, .var [.str x.2.1.s, .int .i64 x.2.1.at', .int .i64 x.2.1.code]), (10001, .sl [.int .u64, .str, .str, .slc [.str, .int .u8, .int .i64, .str], .str, .int .u64, .int .u8] r1 0), (10000, .var [.int .u64 t1, .own 10001 0]), (10003, .sl [.int .u64, .str, .str, .slc [.str, .int .u8, .int .i64, .str], .str, .int .u64, .int .u8] (x.2.2.map cMail.enc) 0), (10002, .var [.int .u64 t, .own 10003 0])] })
      (fun x => x.2.2.length ≤ 256 ∧ (x.1 : Int) ≤ 256 ∧ x.2.2.length = x.1 ∧ N.goodR x.2.1 = true) (fun x => (n - x.1).toNat)
      (fun x K => K (.exit 0) { fr := [(0, .ptr 0 0 0 0), (2, .ptr 10000 0 0 0), (3, .ptr 10002 0 0 0)], tab := [(0, .var [.str (N.rMs (n - x.1).toNat x.2.1 x.2.2).2.s, .int .i64 (N.rMs (n - x.1).toNat x.2.1 x.2.2).2.at', .int .i64 (N.rMs (n - x.1).toNat x.2.1 x.2.2).2.code]), (10001, .sl [.int .u64, .str, .str, .slc [.str, .int .u8, .int .i64, .str], .str, .int .u64, .int .u8] r1 0), (10000, .var [.int .u64 t1, .own 10001 0]), (10003, .sl [.int .u64, .str, .str, .slc [.str, .int .u8, .int .i64, .str], .str, .int .u64, .int .u8] ((N.rMs (n - x.1).toNat x.2.1 x.2.2).1.map cMail.enc) 0), (10002, .var [.int .u64 t, .own 10003 0])] })
      (fun x hx => ?_) (0, ⟨s, at', e⟩, []) ⟨Nat.zero_le _, by show ((0 : Nat) : Int) ≤ 256; omega, rfl, h4⟩ K q (by simpa using h)
    · exact main
    · obtain ⟨k, i, acc⟩ := x
      obtain ⟨k1, k2, k3, k4⟩ := hx
      simp only at k1 k2 k3 k4 ⊢
      by_cases hl : (k : Int) < n
      · have ef : (n - (k : Int)).toNat = (n - ((k + 1 : Nat) : Int)).toNat + 1 := by omega
        have w : IntKind.wrap .i64 ((k : Int) + 1) = (k : Int) + 1 := wr_i64 (by omega) (by omega)
        rw [ef]
        cases he : i.code == 0 with
        | true =>
          refine .inl ⟨(k + 1, (N.rMail i).2, acc ++ [(N.rMail i).1]), ⟨by simp only [List.length_append, List.length_cons, List.length_nil]; omega, by simp only; omega, by simp only [List.length_append, List.length_cons, List.length_nil]; omega, good_mail k4⟩, by simp only; omega, fun K => ?_, fun K => ?_⟩
          · rw [q_refRReadR]
            have ei : ({ s := i.s, at' := i.at', code := i.code } : RIn) = i := rfl
            simp (disch := omega) only [evs, he, w, ei, fold_enc, k4]
            rw [List.map_append]
            rfl
          · show K _ { fr := _, tab := [(0, .var [.str (cond (i.code == 0) (N.rMs (n - ((k + 1 : Nat) : Int)).toNat (N.rMail i).2 (acc ++ [(N.rMail i).1])) (acc, i)).2.s, .int .i64 (cond (i.code == 0) (N.rMs (n - ((k + 1 : Nat) : Int)).toNat (N.rMail i).2 (acc ++ [(N.rMail i).1])) (acc, i)).2.at', .int .i64 (cond (i.code == 0) (N.rMs (n - ((k + 1 : Nat) : Int)).toNat (N.rMail i).2 (acc ++ [(N.rMail i).1])) (acc, i)).2.code]), _, _, (10003, .sl [.int .u64, .str, .str, .slc [.str, .int .u8, .int .i64, .str], .str, .int .u64, .int .u8] ((cond (i.code == 0) (N.rMs (n - ((k + 1 : Nat) : Int)).toNat (N.rMail i).2 (acc ++ [(N.rMail i).1])) (acc, i)).1.map cMail.enc) 0), _] } = _
            rw [he]
            rfl
        | false =>
          refine .inr ⟨.exit 0, { fr := [(0, .ptr 0 0 0 0), (2, .ptr 10000 0 0 0), (3, .ptr 10002 0 0 0)], tab := [(0, .var [.str i.s, .int .i64 i.at', .int .i64 i.code]), (10001, .sl [.int .u64, .str, .str, .slc [.str, .int .u8, .int .i64, .str], .str, .int .u64, .int .u8] r1 0), (10000, .var [.int .u64 t1, .own 10001 0]), (10003, .sl [.int .u64, .str, .str, .slc [.str, .int .u8, .int .i64, .str], .str, .int .u64, .int .u8] (acc.map cMail.enc) 0), (10002, .var [.int .u64 t, .own 10003 0])] }, by simp, fun K => ?_, fun K => ?_⟩
          · rw [q_refRReadR]
            simp (disch := omega) only [evs, he]
          · have e0 : N.rMs ((n - ((k + 1 : Nat) : Int)).toNat + 1) i acc = (acc, i) := by
              unfold N.rMs
              rw [he]; rfl
            rw [e0]
      · have ef : (n - (k : Int)).toNat = 0 := by omega
        rw [ef]
        refine .inr ⟨.exit 0, { fr := [(0, .ptr 0 0 0 0), (2, .ptr 10000 0 0 0), (3, .ptr 10002 0 0 0)], tab := [(0, .var [.str i.s, .int .i64 i.at', .int .i64 i.code]), (10001, .sl [.int .u64, .str, .str, .slc [.str, .int .u8, .int .i64, .str], .str, .int .u64, .int .u8] r1 0), (10000, .var [.int .u64 t1, .own 10001 0]), (10003, .sl [.int .u64, .str, .str, .slc [.str, .int .u8, .int .i64, .str], .str, .int .u64, .int .u8] (acc.map cMail.enc) 0), (10002, .var [.int .u64 t, .own 10003 0])] }, by simp, fun K => ?_, fun K => rfl⟩
        rw [q_refRReadR]
        simp (disch := omega) only [evs]
  · cases h
theorem ok_rRise : FnOk Tryz.prog 9 dRRise := by
  refine den_okF (env_ok ((((TOk.nil _).cons ok_rMail).cons ok_rFail).cons ok_rNum)) (E := eRefRRead) Tryz.func9 [8] (by kernel_rfl) (one1 ok_refRRead8) fun _ q h => ?_
  have h : N.goodR q = true := h
  refine (q_refRRead q).trans ?_
  have g1 := good_num h 8
  have g2 := good_num g1 1
  have hr := rl_num (good_rl g1).1 1
  have hn := inNum1 (ofR (N.rNum q 8).2)
  rw [hr.1] at hn
  show _ = some (⟨.agg (cRise.enc (N.rRise q).1), [cRIn.enc (N.rRise q).2], []⟩ : DRes)
  have er : N.rRise q = N.rqE (N.rNum q 8).1 (N.rMs (N.rqN q).1.toNat (N.rqI q) []) := rfl
  rw [er]
  have en : N.rqN q = N.rNum (N.rNum q 8).2 1 := rfl
  unfold N.rqI
  rw [en]
  simp only [h, g1, cond_true]
  generalize N.rNum (N.rNum q 8).2 1 = b at *
  generalize (N.rNum q 8).1 = t at *
  have w1 : IntKind.wrap .i64 b.1 = b.1 := wr_i64 (by omega) (by omega)
  have w2 : IntKind.wrap .u64 b.1 = b.1 := wr_u64 (by omega) (by omega)
  have hb : ile b.1 255 = true := ile_t (by omega)
  simp only [w1, w2, hb, cond_true]
  have fin : ∀ z : RIn, N.goodR z = true → cond (N.goodR z) (cond ((N.rMs b.1.toNat z []).2.code != 0) (some (⟨.agg [.int .u64 0, .slc [.int .u64, .str, .str, .slc [.str, .int .u8, .int .i64, .str], .str, .int .u64, .int .u8] []], [[.str (N.rMs b.1.toNat z []).2.s, .int .i64 (N.rMs b.1.toNat z []).2.at', .int .i64 (N.rMs b.1.toNat z []).2.code]], []⟩ : DRes))
      (some (⟨.agg [.int .u64 t, .slc [.int .u64, .str, .str, .slc [.str, .int .u8, .int .i64, .str], .str, .int .u64, .int .u8] ((N.rMs b.1.toNat z []).1.map cMail.enc)], [[.str (N.rMs b.1.toNat z []).2.s, .int .i64 (N.rMs b.1.toNat z []).2.at', .int .i64 (N.rMs b.1.toNat z []).2.code]], []⟩ : DRes))) none = some (⟨.agg (cRise.enc (N.rqE t (N.rMs b.1.toNat z [])).1), [cRIn.enc (N.rqE t (N.rMs b.1.toNat z [])).2], []⟩ : DRes) := fun z hz => by
    rw [hz]
    unfold N.rqE
    cases (N.rMs b.1.toNat z []).2.code != 0 <;> rfl
  have g6 := good_fail g2 6
  have g7 := good_fail g2 7
  have g67 := good_fail g6 7
  cases ilt 16 b.1 with
  | true =>
    cases b.1 != t with
    | true =>
      cases b.1 == 16 with
      | true =>
        cases ilt 16 t with
        | true => exact fin _ g6
        | false => exact fin _ g67
      | false => exact fin _ g67
    | false => exact fin _ g6
  | false =>
    cases b.1 != t with
    | true =>
      cases b.1 == 16 with
      | true =>
        cases ilt 16 t with
        | true => exact fin _ g2
        | false => exact fin _ g7
      | false => exact fin _ g7
    | false => exact fin _ g2
theorem rl_rise {s : Bytes} {i : InS} {q : RIn} (h : Rl s i q) : (N.riseRead i).1 = (N.rRise q).1 ∧ Rl s (N.riseRead i).2 (N.rRise q).2 := by
  have t1 := rl_num h 8
  have t2 := rl_num t1.2 1
  have er : N.riseRead i = N.rrE (N.inNum i 8).1 (N.readMs (N.rrN i).1.toNat (N.rrI i) []) := rfl
  have eq : N.rRise q = N.rqE (N.rNum q 8).1 (N.rMs (N.rqN q).1.toNat (N.rqI q) []) := rfl
  have e1 : N.rrN i = N.inNum (N.inNum i 8).2 1 := rfl
  have e2 : N.rqN q = N.rNum (N.rNum q 8).2 1 := rfl
  have hs : Rl s (N.rrI i) (N.rqI q) := by
    unfold N.rrI N.rqI
    rw [e1, e2, t1.1, t2.1]
    generalize (N.rNum q 8).1 = t at *
    generalize (N.rNum (N.rNum q 8).2 1).1 = n at *
    have t2 := t2.2
    generalize (N.inNum (N.inNum i 8).2 1).2 = i' at *
    generalize (N.rNum (N.rNum q 8).2 1).2 = q' at *
    have he : i'.err = q'.code := t2.2.2.2.1
    have f6 := rl_fail t2 6
    have f7 := rl_fail t2 7
    cases hc : q'.code != 0 with
    | true =>
      have hz : ∀ c, N.rFail q' c = q' := fun c => by
        unfold N.rFail
        have : (q'.code == 0) = false := by rw [bne] at hc; simpa using hc
        rw [this]; rfl
      rw [he, hc]
      have hx : ∀ a b c d e : Bool, Rl s i' (cond a (cond b (cond c q' q') q') (cond d q' q')) := fun a b c d e => by cases a <;> cases b <;> cases c <;> cases d <;> exact t2
      simp only [hz, cond_true]
      cases n != t <;> cases n == 16 <;> cases ilt 16 n <;> cases ilt 16 t <;> simp only [cond_true, cond_false, hz, Bool.not_true, Bool.not_false] <;> exact t2
    | false =>
      rw [he, hc]
      simp only [cond_false]
      have hz : q'.code = 0 := by simpa using hc
      have f67 : N.rFail (N.rFail q' 6) 7 = N.rFail q' 6 := by
        unfold N.rFail
        rw [hz]; rfl
      by_cases hn : 16 < n
      · rw [ilt_t hn]
        simp only [cond_true, f67]
        cases n != t <;> cases n == 16 <;> cases ilt 16 t <;> exact f6
      · rw [ilt_f (by omega)]
        simp only [cond_false]
        by_cases ht : 16 < t
        · rw [ilt_t ht]
          have e3 : (n != t) = true := ine_t (by omega)
          simp only [cond_true, e3, Bool.not_true, cond_false]
          cases hd : n == 16 with
          | true =>
            rw [ieq_of hd]
            exact t2
          | false =>
            rw [show (n != 16) = true by rw [bne, hd]; rfl]
            exact f7
        · rw [ilt_f (by omega)]
          simp only [cond_false, Bool.not_false, cond_true]
          cases n != t with
          | true => cases n == 16 <;> exact f7
          | false => exact t2
  have hm := rl_ms (N.rrN i).1.toNat [] hs
  rw [er, eq, e2, ← t2.1, ← e1]
  have he : (N.readMs (N.rrN i).1.toNat (N.rrI i) []).2.err = (N.rMs (N.rrN i).1.toNat (N.rqI q) []).2.code := hm.2.2.2.2.1
  unfold N.rrE N.rqE
  rw [he, hm.1, t1.1]
  cases (N.rMs (N.rrN i).1.toNat (N.rqI q) []).2.code != 0 with
  | true => exact ⟨rfl, hm.2⟩
  | false => exact ⟨rfl, hm.2⟩
end Go.Ev

/- What the statements that play and read rises reckon: each is true; lemmas; the functions that write numbers are premises. -/
namespace Go.Ev
open Go Go.Proofs
set_option maxRecDepth 100000
-- FOLD

noncomputable def eRRd : Env := env Tryz.prog [(5, dTrue), (6, dLightM), (14, dRisePut), (15, dRisePut), (13, dTold), (7, dNew), (8, dRiseRead), (9, dRRise), (10, dInErr), (11, dInLeft), (12, dRLeft)] [] []
theorem q_rRd (s : Bytes) (m : HMail) (n : Int) : evFn eRRd 3 ((aCons vStr (aCons (vAgg cMail) (aOne (vInt .u64)))).enc (s, m, n)) ([]) some =
 cond (ilt (2000 : Int) (↑(List.length s) : Int)) (some { v := V.bool true, bx := [] : DRes }) (cond (!N.lightM { id := HMail.id m, shop := HMail.shop m, key := HMail.key m, head := List.map (fun r => { key := V.toStr (List.getD r (0 : Nat) V.undef), kind := V.toInt (List.getD r (1 : Nat) V.undef), num := V.toInt (List.getD r (2 : Nat) V.undef), text := V.toStr (List.getD r (3 : Nat) V.undef) : HPair }) (List.map (fun p => [V.str (HPair.key p), V.int IntKind.u8 (HPair.kind p), V.int IntKind.i64 (HPair.num p), V.str (HPair.text p)]) (HMail.head m)), body := HMail.body m, due := HMail.due m, hops := HMail.hops m : HMail }) (some { v := V.bool true, bx := [] : DRes }) (cond (N.goodR { s := s, at' := (0 : Int), code := (0 : Int) : RIn }) (cond (InS.err (Prod.snd (N.riseRead { s := s, err := (0 : Int) : InS })) != RIn.code (Prod.snd (N.rRise { s := s, at' := (0 : Int), code := (0 : Int) : RIn }))) (some { v := V.bool false, bx := [] : DRes }) (cond (N.goodR (Prod.snd (N.rRise { s := s, at' := (0 : Int), code := (0 : Int) : RIn }))) (cond (N.inLeft (Prod.snd (N.riseRead { s := s, err := (0 : Int) : InS })) != N.rLeft (Prod.snd (N.rRise { s := s, at' := (0 : Int), code := (0 : Int) : RIn }))) (some { v := V.bool false, bx := [] : DRes }) (cond (bif fullFine { total := HRise.total (Prod.fst (N.riseRead { s := s, err := (0 : Int) : InS })), kept := List.map (RCod.dec cMail) (List.map (RCod.enc cMail) (HRise.kept (Prod.fst (N.riseRead { s := s, err := (0 : Int) : InS })))) : HRise } then bif fullFine { total := HRise.total (Prod.fst (N.rRise { s := s, at' := (0 : Int), code := (0 : Int) : RIn })), kept := List.map (RCod.dec cMail) (List.map (RCod.enc cMail) (HRise.kept (Prod.fst (N.rRise { s := s, at' := (0 : Int), code := (0 : Int) : RIn })))) : HRise } then bif ile (0 : Int) n then ile n (18446744073709551615 : Int) else false else false else false) (cond (!N.toldR { total := HRise.total (Prod.fst (N.riseRead { s := s, err := (0 : Int) : InS })), kept := List.map (RCod.dec cMail) (List.map (RCod.enc cMail) (HRise.kept (Prod.fst (N.riseRead { s := s, err := (0 : Int) : InS })))) : HRise } { total := HRise.total (Prod.fst (N.rRise { s := s, at' := (0 : Int), code := (0 : Int) : RIn })), kept := List.map (RCod.dec cMail) (List.map (RCod.enc cMail) (HRise.kept (Prod.fst (N.rRise { s := s, at' := (0 : Int), code := (0 : Int) : RIn })))) : HRise } n) (some { v := V.bool false, bx := [] : DRes }) (cond (bif goodRise { total := HRise.total (Prod.fst (N.riseRead { s := s, err := (0 : Int) : InS })), kept := List.map (RCod.dec cMail) (List.map (RCod.enc cMail) (HRise.kept (Prod.fst (N.riseRead { s := s, err := (0 : Int) : InS })))) : HRise } then smallM { id := HMail.id m, shop := HMail.shop m, key := HMail.key m, head := List.map (fun r => { key := V.toStr (List.getD r (0 : Nat) V.undef), kind := V.toInt (List.getD r (1 : Nat) V.undef), num := V.toInt (List.getD r (2 : Nat) V.undef), text := V.toStr (List.getD r (3 : Nat) V.undef) : HPair }) (List.map (fun p => [V.str (HPair.key p), V.int IntKind.u8 (HPair.kind p), V.int IntKind.i64 (HPair.num p), V.str (HPair.text p)]) (HMail.head m)), body := HMail.body m, due := HMail.due m, hops := HMail.hops m : HMail } else false) (cond (bif goodRise { total := HRise.total (Prod.fst (N.rRise { s := s, at' := (0 : Int), code := (0 : Int) : RIn })), kept := List.map (RCod.dec cMail) (List.map (RCod.enc cMail) (HRise.kept (Prod.fst (N.rRise { s := s, at' := (0 : Int), code := (0 : Int) : RIn })))) : HRise } then smallM { id := HMail.id m, shop := HMail.shop m, key := HMail.key m, head := List.map (fun r => { key := V.toStr (List.getD r (0 : Nat) V.undef), kind := V.toInt (List.getD r (1 : Nat) V.undef), num := V.toInt (List.getD r (2 : Nat) V.undef), text := V.toStr (List.getD r (3 : Nat) V.undef) : HPair }) (List.map (fun p => [V.str (HPair.key p), V.int IntKind.u8 (HPair.kind p), V.int IntKind.i64 (HPair.num p), V.str (HPair.text p)]) (HMail.head m)), body := HMail.body m, due := HMail.due m, hops := HMail.hops m : HMail } else false) (cond (Prod.snd (N.risePut { total := HRise.total (Prod.fst (N.riseRead { s := s, err := (0 : Int) : InS })), kept := List.map (RCod.dec cMail) (List.map (RCod.enc cMail) (HRise.kept (Prod.fst (N.riseRead { s := s, err := (0 : Int) : InS })))) : HRise } { id := HMail.id m, shop := HMail.shop m, key := HMail.key m, head := List.map (fun r => { key := V.toStr (List.getD r (0 : Nat) V.undef), kind := V.toInt (List.getD r (1 : Nat) V.undef), num := V.toInt (List.getD r (2 : Nat) V.undef), text := V.toStr (List.getD r (3 : Nat) V.undef) : HPair }) (List.map (fun p => [V.str (HPair.key p), V.int IntKind.u8 (HPair.kind p), V.int IntKind.i64 (HPair.num p), V.str (HPair.text p)]) (HMail.head m)), body := HMail.body m, due := HMail.due m, hops := HMail.hops m : HMail }) == Prod.snd (N.risePut { total := HRise.total (Prod.fst (N.rRise { s := s, at' := (0 : Int), code := (0 : Int) : RIn })), kept := List.map (RCod.dec cMail) (List.map (RCod.enc cMail) (HRise.kept (Prod.fst (N.rRise { s := s, at' := (0 : Int), code := (0 : Int) : RIn })))) : HRise } { id := HMail.id m, shop := HMail.shop m, key := HMail.key m, head := List.map (fun r => { key := V.toStr (List.getD r (0 : Nat) V.undef), kind := V.toInt (List.getD r (1 : Nat) V.undef), num := V.toInt (List.getD r (2 : Nat) V.undef), text := V.toStr (List.getD r (3 : Nat) V.undef) : HPair }) (List.map (fun p => [V.str (HPair.key p), V.int IntKind.u8 (HPair.kind p), V.int IntKind.i64 (HPair.num p), V.str (HPair.text p)]) (HMail.head m)), body := HMail.body m, due := HMail.due m, hops := HMail.hops m : HMail })) (cond (bif fullFine { total := HRise.total (Prod.fst (N.risePut { total := HRise.total (Prod.fst (N.riseRead { s := s, err := (0 : Int) : InS })), kept := List.map (RCod.dec cMail) (List.map (RCod.enc cMail) (HRise.kept (Prod.fst (N.riseRead { s := s, err := (0 : Int) : InS })))) : HRise } { id := HMail.id m, shop := HMail.shop m, key := HMail.key m, head := List.map (fun r => { key := V.toStr (List.getD r (0 : Nat) V.undef), kind := V.toInt (List.getD r (1 : Nat) V.undef), num := V.toInt (List.getD r (2 : Nat) V.undef), text := V.toStr (List.getD r (3 : Nat) V.undef) : HPair }) (List.map (fun p => [V.str (HPair.key p), V.int IntKind.u8 (HPair.kind p), V.int IntKind.i64 (HPair.num p), V.str (HPair.text p)]) (HMail.head m)), body := HMail.body m, due := HMail.due m, hops := HMail.hops m : HMail })), kept := List.map (RCod.dec cMail) (List.map (RCod.enc cMail) (HRise.kept (Prod.fst (N.risePut { total := HRise.total (Prod.fst (N.riseRead { s := s, err := (0 : Int) : InS })), kept := List.map (RCod.dec cMail) (List.map (RCod.enc cMail) (HRise.kept (Prod.fst (N.riseRead { s := s, err := (0 : Int) : InS })))) : HRise } { id := HMail.id m, shop := HMail.shop m, key := HMail.key m, head := List.map (fun r => { key := V.toStr (List.getD r (0 : Nat) V.undef), kind := V.toInt (List.getD r (1 : Nat) V.undef), num := V.toInt (List.getD r (2 : Nat) V.undef), text := V.toStr (List.getD r (3 : Nat) V.undef) : HPair }) (List.map (fun p => [V.str (HPair.key p), V.int IntKind.u8 (HPair.kind p), V.int IntKind.i64 (HPair.num p), V.str (HPair.text p)]) (HMail.head m)), body := HMail.body m, due := HMail.due m, hops := HMail.hops m : HMail })))) : HRise } then bif fullFine { total := HRise.total (Prod.fst (N.risePut { total := HRise.total (Prod.fst (N.rRise { s := s, at' := (0 : Int), code := (0 : Int) : RIn })), kept := List.map (RCod.dec cMail) (List.map (RCod.enc cMail) (HRise.kept (Prod.fst (N.rRise { s := s, at' := (0 : Int), code := (0 : Int) : RIn })))) : HRise } { id := HMail.id m, shop := HMail.shop m, key := HMail.key m, head := List.map (fun r => { key := V.toStr (List.getD r (0 : Nat) V.undef), kind := V.toInt (List.getD r (1 : Nat) V.undef), num := V.toInt (List.getD r (2 : Nat) V.undef), text := V.toStr (List.getD r (3 : Nat) V.undef) : HPair }) (List.map (fun p => [V.str (HPair.key p), V.int IntKind.u8 (HPair.kind p), V.int IntKind.i64 (HPair.num p), V.str (HPair.text p)]) (HMail.head m)), body := HMail.body m, due := HMail.due m, hops := HMail.hops m : HMail })), kept := List.map (RCod.dec cMail) (List.map (RCod.enc cMail) (HRise.kept (Prod.fst (N.risePut { total := HRise.total (Prod.fst (N.rRise { s := s, at' := (0 : Int), code := (0 : Int) : RIn })), kept := List.map (RCod.dec cMail) (List.map (RCod.enc cMail) (HRise.kept (Prod.fst (N.rRise { s := s, at' := (0 : Int), code := (0 : Int) : RIn })))) : HRise } { id := HMail.id m, shop := HMail.shop m, key := HMail.key m, head := List.map (fun r => { key := V.toStr (List.getD r (0 : Nat) V.undef), kind := V.toInt (List.getD r (1 : Nat) V.undef), num := V.toInt (List.getD r (2 : Nat) V.undef), text := V.toStr (List.getD r (3 : Nat) V.undef) : HPair }) (List.map (fun p => [V.str (HPair.key p), V.int IntKind.u8 (HPair.kind p), V.int IntKind.i64 (HPair.num p), V.str (HPair.text p)]) (HMail.head m)), body := HMail.body m, due := HMail.due m, hops := HMail.hops m : HMail })))) : HRise } then bif ile (0 : Int) n then ile n (18446744073709551615 : Int) else false else false else false) (some { v := V.bool (N.toldR { total := HRise.total (Prod.fst (N.risePut { total := HRise.total (Prod.fst (N.riseRead { s := s, err := (0 : Int) : InS })), kept := List.map (RCod.dec cMail) (List.map (RCod.enc cMail) (HRise.kept (Prod.fst (N.riseRead { s := s, err := (0 : Int) : InS })))) : HRise } { id := HMail.id m, shop := HMail.shop m, key := HMail.key m, head := List.map (fun r => { key := V.toStr (List.getD r (0 : Nat) V.undef), kind := V.toInt (List.getD r (1 : Nat) V.undef), num := V.toInt (List.getD r (2 : Nat) V.undef), text := V.toStr (List.getD r (3 : Nat) V.undef) : HPair }) (List.map (fun p => [V.str (HPair.key p), V.int IntKind.u8 (HPair.kind p), V.int IntKind.i64 (HPair.num p), V.str (HPair.text p)]) (HMail.head m)), body := HMail.body m, due := HMail.due m, hops := HMail.hops m : HMail })), kept := List.map (RCod.dec cMail) (List.map (RCod.enc cMail) (HRise.kept (Prod.fst (N.risePut { total := HRise.total (Prod.fst (N.riseRead { s := s, err := (0 : Int) : InS })), kept := List.map (RCod.dec cMail) (List.map (RCod.enc cMail) (HRise.kept (Prod.fst (N.riseRead { s := s, err := (0 : Int) : InS })))) : HRise } { id := HMail.id m, shop := HMail.shop m, key := HMail.key m, head := List.map (fun r => { key := V.toStr (List.getD r (0 : Nat) V.undef), kind := V.toInt (List.getD r (1 : Nat) V.undef), num := V.toInt (List.getD r (2 : Nat) V.undef), text := V.toStr (List.getD r (3 : Nat) V.undef) : HPair }) (List.map (fun p => [V.str (HPair.key p), V.int IntKind.u8 (HPair.kind p), V.int IntKind.i64 (HPair.num p), V.str (HPair.text p)]) (HMail.head m)), body := HMail.body m, due := HMail.due m, hops := HMail.hops m : HMail })))) : HRise } { total := HRise.total (Prod.fst (N.risePut { total := HRise.total (Prod.fst (N.rRise { s := s, at' := (0 : Int), code := (0 : Int) : RIn })), kept := List.map (RCod.dec cMail) (List.map (RCod.enc cMail) (HRise.kept (Prod.fst (N.rRise { s := s, at' := (0 : Int), code := (0 : Int) : RIn })))) : HRise } { id := HMail.id m, shop := HMail.shop m, key := HMail.key m, head := List.map (fun r => { key := V.toStr (List.getD r (0 : Nat) V.undef), kind := V.toInt (List.getD r (1 : Nat) V.undef), num := V.toInt (List.getD r (2 : Nat) V.undef), text := V.toStr (List.getD r (3 : Nat) V.undef) : HPair }) (List.map (fun p => [V.str (HPair.key p), V.int IntKind.u8 (HPair.kind p), V.int IntKind.i64 (HPair.num p), V.str (HPair.text p)]) (HMail.head m)), body := HMail.body m, due := HMail.due m, hops := HMail.hops m : HMail })), kept := List.map (RCod.dec cMail) (List.map (RCod.enc cMail) (HRise.kept (Prod.fst (N.risePut { total := HRise.total (Prod.fst (N.rRise { s := s, at' := (0 : Int), code := (0 : Int) : RIn })), kept := List.map (RCod.dec cMail) (List.map (RCod.enc cMail) (HRise.kept (Prod.fst (N.rRise { s := s, at' := (0 : Int), code := (0 : Int) : RIn })))) : HRise } { id := HMail.id m, shop := HMail.shop m, key := HMail.key m, head := List.map (fun r => { key := V.toStr (List.getD r (0 : Nat) V.undef), kind := V.toInt (List.getD r (1 : Nat) V.undef), num := V.toInt (List.getD r (2 : Nat) V.undef), text := V.toStr (List.getD r (3 : Nat) V.undef) : HPair }) (List.map (fun p => [V.str (HPair.key p), V.int IntKind.u8 (HPair.kind p), V.int IntKind.i64 (HPair.num p), V.str (HPair.text p)]) (HMail.head m)), body := HMail.body m, due := HMail.due m, hops := HMail.hops m : HMail })))) : HRise } n), bx := [] : DRes }) (none)) (some { v := V.bool false, bx := [] : DRes })) (none)) (none))) (none))) (none))) (none))) := by kernel_rfl
theorem be_lt : ∀ (l : Bytes) (n : Int), 0 ≤ n → 0 ≤ N.be l n ∧ N.be l n < (n + 1) * ((256 ^ l.length : Nat) : Int)
  | [], n, h => by
    show 0 ≤ n ∧ n < (n + 1) * ((1 : Nat) : Int)
    omega
  | c :: r, n, h => by
    have hc := c.toNat_lt
    have ih := be_lt r (n * 256 + c.toNat) (by omega)
    refine ⟨ih.1, ?_⟩
    show N.be r (n * 256 + c.toNat) < (n + 1) * ((256 ^ (r.length + 1) : Nat) : Int)
    refine Int.lt_of_lt_of_le ih.2 ?_
    have e : ((256 ^ (r.length + 1) : Nat) : Int) = 256 * ((256 ^ r.length : Nat) : Int) := by rw [Nat.pow_succ]; omega
    rw [e, ← Int.mul_assoc]
    exact Int.mul_le_mul_of_nonneg_right (by omega) (Int.natCast_nonneg _)
theorem inNum8 (i : InS) : 0 ≤ (N.inNum i 8).1 ∧ (N.inNum i 8).1 < 18446744073709551616 := by
  have h := N.inRaw_len i (bif ilt 8 8 then (8 : Int) else 8) 8 (Int.le_refl 8)
  unfold N.inNum
  have hb := be_lt (N.inRaw i (bif ilt 8 8 then (8 : Int) else 8)).1 0 (Int.le_refl 0)
  refine ⟨hb.1, Int.lt_of_lt_of_le hb.2 ?_⟩
  have : 256 ^ (N.inRaw i (bif ilt 8 8 then (8 : Int) else 8)).1.length ≤ 256 ^ 8 := Nat.pow_le_pow_right (by decide) h
  have e : (256 : Nat) ^ 8 = 18446744073709551616 := by decide
  omega
theorem wrap_u8_in (n : Int) : 0 ≤ IntKind.wrap .u8 n ∧ IntKind.wrap .u8 n < 256 := by
  simp only [IntKind.wrap, IntKind.signed, IntKind.bits]
  simp
  omega
theorem wrap_i64_in (n : Int) : -9223372036854775808 ≤ IntKind.wrap .i64 n ∧ IntKind.wrap .i64 n ≤ 9223372036854775807 := by
  simp only [IntKind.wrap, IntKind.signed, IntKind.bits]
  simp
  omega
theorem okP'_in {p : HPair} (h1 : 0 ≤ p.kind ∧ p.kind < 256) (h2 : -9223372036854775808 ≤ p.num ∧ p.num ≤ 9223372036854775807) : N.okP' p = true := by
  unfold N.okP'
  rw [ile_t h1.1, ilt_t h1.2, ile_t h2.1, ile_t h2.2]; rfl
theorem one_okP (i : InS) : N.okP' (N.one i).1 = true := by
  unfold N.one N.oneOf
  have hk := wrap_u8_in (N.inNum (N.inText i 16).2 1).1
  generalize IntKind.wrap .u8 (N.inNum (N.inText i 16).2 1).1 = k at *
  cases k == 0 with
  | true => exact okP'_in hk (wrap_i64_in _)
  | false =>
    cases k == 1 with
    | true => exact okP'_in hk ⟨by show (-9223372036854775808 : Int) ≤ 0; omega, by show (0 : Int) ≤ 9223372036854775807; omega⟩
    | false =>
      cases k == 2 with
      | true => exact okP'_in hk (wrap_i64_in _)
      | false => exact okP'_in hk ⟨by show (-9223372036854775808 : Int) ≤ 0; omega, by show (0 : Int) ≤ 9223372036854775807; omega⟩
theorem from_okP : ∀ (k : Nat) (i : InS) (acc : List HPair), acc.all N.okP' = true → (N.readFrom k i acc).1.all N.okP' = true
  | 0, _, _, h => h
  | k + 1, i, acc, h => by
    unfold N.readFrom
    cases (N.bad (N.one i).1 acc (N.one i).2).err != 0 with
    | true => rfl
    | false => exact from_okP k _ _ (by rw [List.all_append, h, List.all_cons, one_okP]; rfl)
theorem mailRead_fine (i : InS) : N.fineM (N.mailRead i).1 = true := by
  unfold N.mailRead
  dsimp only
  have h1 := inNum8 i
  have h2 := from_okP (IntKind.wrap .i64 (N.inNum (N.inText (N.inText (N.inNum i 8).2 16).2 64).2 1).1).toNat (cond (ilt 8 (IntKind.wrap .i64 (N.inNum (N.inText (N.inText (N.inNum i 8).2 16).2 64).2 1).1)) (N.inFail (N.inNum (N.inText (N.inText (N.inNum i 8).2 16).2 64).2 1).2 6) (N.inNum (N.inText (N.inText (N.inNum i 8).2 16).2 64).2 1).2) [] rfl
  have h2 : (N.headRead (N.inText (N.inText (N.inNum i 8).2 16).2 64).2).1.all N.okP' = true := h2
  generalize N.headRead (N.inText (N.inText (N.inNum i 8).2 16).2 64).2 = d at *
  have h3 := inNum8 (N.inText d.2 256).2
  have h4 := wrap_u8_in (N.inNum (N.inNum (N.inText d.2 256).2 8).2 1).1
  unfold N.mailEnd
  generalize (cond _ _ _ : InS) = z
  cases z.err != 0 with
  | true => rfl
  | false =>
    unfold N.fineM N.okM
    simp only [cond_false]
    rw [ile_t h1.1, ilt_t h1.2, ile_t h3.1, ilt_t h3.2, ile_t h4.1, ilt_t h4.2, h2]; rfl
theorem mailRead_small (i : InS) : smallM (N.mailRead i).1 = true := ble_t (Nat.le_trans (mailRead_head i) (by decide))
theorem fine_okM {l : List HMail} (h : l.all N.fineM = true) : l.all N.okM = true := by
  rw [List.all_eq_true] at h ⊢
  exact fun m hm => (bcond (h m hm)).1
theorem fullFine_t {x : HRise} (h1 : fullRise x = true) (h2 : x.kept.all N.fineM = true) : fullFine x = true := by
  unfold fullFine
  rw [h1, h2, fine_okM h2]; rfl
theorem put_all {p : HMail → Bool} {x : HRise} (h : x.kept.all p = true) {m : HMail} (hm : N.mailCheck m = 0 → p m = true) : (N.risePut x m).1.kept.all p = true := by
  unfold N.risePut
  cases hc : N.mailCheck m != 0 with
  | true => exact h
  | false =>
    have hz : N.mailCheck m = 0 := by simpa using hc
    cases x.total == 18446744073709551615 with
    | true => exact h
    | false =>
      show ((x.kept ++ [m]).drop (x.kept.length + 1 - 16)).all p = true
      rw [List.all_eq_true]
      intro a ha
      rcases List.mem_append.1 (List.mem_of_mem_drop ha) with ha | ha
      · exact List.all_eq_true.1 h a ha
      · rw [List.mem_singleton.1 ha]; exact hm hz
theorem put_full {x : HRise} (h : fullRise x = true) {m : HMail} (hs : smallM m = true) : fullRise (N.risePut x m).1 = true := by
  obtain ⟨h1, h2⟩ := bcond h
  obtain ⟨h2, h3⟩ := bcond h2
  obtain ⟨h4, h5⟩ := bcond h1
  obtain ⟨h4, h6⟩ := bcond h4
  obtain ⟨h5, h7⟩ := bcond h5
  have h2 := ile_of h2
  have h4 := ile_of h4
  have h6 := ile_of h6
  have h5 := ble_of h5
  have ha := put_all (p := smallM) (x := x) (m := m) h7 (fun _ => hs)
  revert ha
  unfold N.risePut
  cases N.mailCheck m != 0 with
  | true => exact fun _ => h
  | false =>
    cases hc : x.total == 18446744073709551615 with
    | true => exact fun _ => h
    | false =>
      intro ha
      have ht : x.total ≠ 18446744073709551615 := fun e => by rw [e] at hc; cases hc
      have ha : ((x.kept ++ [m]).drop (x.kept.length + 1 - 16)).all smallM = true := ha
      have hl : ((x.kept ++ [m]).drop (x.kept.length + 1 - 16)).length = x.kept.length + 1 - (x.kept.length + 1 - 16) := by simp
      have hn : Nat.beq ((x.kept ++ [m]).drop (x.kept.length + 1 - 16)).length 0 = false := by
        rw [Bool.eq_false_iff]
        intro e
        have := Nat.eq_of_beq_eq_true e
        omega
      show fullRise ⟨x.total + 1, (x.kept ++ [m]).drop (x.kept.length + 1 - 16)⟩ = true
      unfold fullRise goodRise
      simp only
      rw [ha, hn, ile_t (show 0 ≤ x.total + 1 by omega), ile_t (show x.total + 1 ≤ 18446744073709551615 by omega), ble_t (by omega), ile_t (by omega)]
      rfl
theorem sameR_refl (x : HRise) : N.sameR x x = true := by
  unfold N.sameR
  rw [beq_self_eq_true, sameMs_refl]; rfl
theorem toldR_refl (x : HRise) (n : Int) : N.toldR x x n = true := by
  unfold N.toldR
  simp only [sameR_refl, mailSame_refl, beq_self_eq_true, cond_true]
theorem ms_err : ∀ (k : Nat) (i : InS) (acc : List HMail), i.err ≠ 0 → (N.readMs k i acc).2.err ≠ 0
  | 0, _, _, h => h
  | k + 1, i, acc, h => by
    unfold N.readMs
    rw [ieq_f h]; exact h
theorem ms_len : ∀ (k : Nat) (i : InS) (acc : List HMail), (N.readMs k i acc).2.err = 0 → (N.readMs k i acc).1.length = acc.length + k
  | 0, _, _, _ => rfl
  | k + 1, i, acc, h => by
    by_cases he : i.err = 0
    · have e : N.readMs (k + 1) i acc = N.readMs k (N.mailRead i).2 (acc ++ [(N.mailRead i).1]) := by
        show cond (i.err == 0) _ _ = _
        rw [he]; rfl
      rw [e] at h ⊢
      rw [ms_len k _ _ h]
      simp; omega
    · exact absurd h (ms_err (k + 1) i acc he)
theorem ms_all {p : HMail → Bool} (hp : ∀ i, p (N.mailRead i).1 = true) : ∀ (k : Nat) (i : InS) (acc : List HMail), acc.all p = true → (N.readMs k i acc).1.all p = true
  | 0, _, _, h => h
  | k + 1, i, acc, h => by
    unfold N.readMs
    cases i.err == 0 with
    | true => exact ms_all hp k _ _ (by rw [List.all_append, h, List.all_cons, hp]; rfl)
    | false => exact h
theorem riseRead_fine (i : InS) : fullFine (N.riseRead i).1 = true := by
  have hN := inNum1 (N.inNum i 8).2
  have hT := inNum8 i
  have hN : 0 ≤ (N.rrN i).1 ∧ (N.rrN i).1 < 256 := hN
  have hf := ms_all mailRead_fine (N.rrN i).1.toNat (N.rrI i) [] rfl
  have hs := ms_all mailRead_small (N.rrN i).1.toNat (N.rrI i) [] rfl
  have hl := ms_len (N.rrN i).1.toNat (N.rrI i) []
  have he := ms_err (N.rrN i).1.toNat (N.rrI i) []
  show fullFine (N.rrE (N.inNum i 8).1 (N.readMs (N.rrN i).1.toNat (N.rrI i) [])).1 = true
  unfold N.rrE
  cases hc : (N.readMs (N.rrN i).1.toNat (N.rrI i) []).2.err != 0 with
  | true => rfl
  | false =>
    have hz : (N.readMs (N.rrN i).1.toNat (N.rrI i) []).2.err = 0 := by simpa using hc
    have hl := hl hz
    have hi : (N.rrI i).err = 0 := Classical.byContradiction fun e => he e hz
    have hlen : (N.rrN i).1 ≤ 16 ∧ (N.rrN i).1 = cond (ilt 16 (N.inNum i 8).1) 16 (N.inNum i 8).1 := by
      revert hi
      unfold N.rrI
      cases h0 : (N.rrN i).2.err != 0 with
      | true =>
        intro hi
        rw [show (N.rrN i).2.err = 0 from hi] at h0
        cases h0
      | false =>
        have h0 : (N.rrN i).2.err = 0 := by simpa using h0
        have hfl : ∀ c : Int, c ≠ 0 → (N.inFail (N.rrN i).2 c).err = c := fun c hc => by
          unfold N.inFail
          rw [h0, ine_t hc]; rfl
        cases h1 : ilt 16 (N.rrN i).1 with
        | true => intro hi; exact absurd ((hfl 6 (by decide)).symm.trans hi) (by decide)
        | false =>
          have h1 := ilt_nof h1
          cases h2 : (N.rrN i).1 != cond (ilt 16 (N.inNum i 8).1) 16 (N.inNum i 8).1 with
          | true => intro hi; exact absurd ((hfl 7 (by decide)).symm.trans hi) (by decide)
          | false => exact fun _ => ⟨h1, by simpa using h2⟩
    have hmin : (N.rrN i).1 ≤ (N.inNum i 8).1 ∧ ((N.rrN i).1 = 0 → (N.inNum i 8).1 = 0) := by
      have h2 := hlen.2
      by_cases h16 : 16 < (N.inNum i 8).1
      · rw [ilt_t h16, cond_true] at h2; omega
      · rw [ilt_f (by omega), cond_false] at h2; omega
    simp only [List.length_nil, Nat.zero_add] at hl
    refine fullFine_t ?_ hf
    show fullRise ⟨(N.inNum i 8).1, (N.readMs (N.rrN i).1.toNat (N.rrI i) []).1⟩ = true
    unfold fullRise goodRise
    simp only
    rw [hs, ile_t (show 0 ≤ (N.inNum i 8).1 by omega), ile_t (show (N.inNum i 8).1 ≤ 18446744073709551615 by omega), ble_t (by omega), ile_t (by omega)]
    cases hb : Nat.beq (N.readMs (N.rrN i).1.toNat (N.rrI i) []).1.length 0 with
    | false => rfl
    | true =>
      have := nbeq_of hb
      show ((N.inNum i 8).1 == 0) = true
      exact ieq_t (hmin.2 (by omega))
theorem ok_lawRRd (hN : FnOk Tryz.prog 44 dOutNum) : FnOk Tryz.prog 3 (den (aCons vStr (aCons (vAgg cMail) (aOne (vInt .u64)))) bNil (oV vBool) (fun a _ => cond (N.fineM a.2.1) (cond (ile 0 a.2.2) (ile a.2.2 18446744073709551615) false) false) fun _ _ => (true, ())) := by
  refine den_okF (env_ok ((((((((((((TOk.nil _).cons ok_rLeft).cons ok_inLeft).cons ok_inErr).cons ok_rRise).cons ok_riseRead).cons ok_new).cons (ok_told20 hN)).cons ok_refRisePut).cons ok_risePut).cons ok_lightM).cons (ok_aw20 hN))) (E := eRRd) Tryz.func3 [] (by kernel_rfl) none0 fun a _ hp => ?_
  obtain ⟨s, m, n⟩ := a
  obtain ⟨h1, h2⟩ := bcond hp
  obtain ⟨h2, h3⟩ := bcond h2
  have h1 : N.fineM m = true := h1
  have h2 : ile 0 n = true := h2
  have h3 : ile n 18446744073709551615 = true := h3
  refine (q_rRd s m n).trans ?_
  show _ = some (⟨.bool true, [], []⟩ : DRes)
  simp only [fold_de, dec_encs, fold_rise]
  by_cases hs : 2000 < s.length
  · simp (disch := omega) only [evs]
  · cases hl : N.lightM m with
    | false => simp (disch := omega) only [evs, Bool.not_false]
    | true =>
      have hsm : smallM m = true := by
        obtain ⟨_, h⟩ := bcond hl
        obtain ⟨_, h⟩ := bcond h
        obtain ⟨h, _⟩ := bcond h
        exact ble_t (Nat.le_trans (light_small h) (by decide))
      have hr := rl_rise (rl_new s)
      have hg0 : N.goodR ⟨s, 0, 0⟩ = true := rl_good (rl_new s) (by show s.length ≤ 1000000; omega)
      have hg := rl_good hr.2 (by show s.length ≤ 1000000; omega)
      have hle := rl_left hr.2
      have her := rl_len hr.2
      have hx := riseRead_fine ⟨s, 0⟩
      rw [hr.1] at hx
      have hx2 := fullFine_of hx
      have hy : fullFine (N.risePut (N.rRise ⟨s, 0, 0⟩).1 m).1 = true := fullFine_t (put_full hx2.1 hsm) (put_all (bcond (bcond hx).2).1 fun _ => h1)
      simp (disch := omega) only [evs, hg0, hg, hle, her, hr.1, hx, hx2.2.1, h2, h3, hsm, hy, toldR_refl, Bool.not_true, bne_self_eq_false, beq_self_eq_true]
theorem u64_wf {n : Int} (h : wfL ((rInt .u64).enc n) = true) : cond (ile 0 n) (ile n 18446744073709551615) false = true := by
  have h : cond (wfV (.int .u64 n)) true false = true := h
  obtain ⟨a, b⟩ := int_wf (bcond h).1
  have e1 : IntKind.u64.min = 0 := rfl
  have e2 : IntKind.u64.max = 18446744073709551615 := rfl
  rw [ile_t (by omega), ile_t (by omega)]; rfl
theorem rRd_wf {m : HMail} {n : Int} (h1 : wfL (cMail.enc m) = true) (h2 : wfL ((rInt .u64).enc n) = true) : cond (N.fineM m) (cond (ile 0 n) (ile n 18446744073709551615) false) false = true := by
  rw [show N.fineM m = true from mail_wf h1, u64_wf h2]; rfl
end Go.Ev

/- The library's text builder in this program, and the function that writes a number's bytes with it: lemmas, no condition but the text's length. -/
namespace Go.Ev
open Go Go.Proofs Go.RowKit Go.Shelf

theorem bSize : (Tryz.prog.info? 101).map (·.size) = some 2 := by kernel_rfl
theorem bLies : liesAt Tryz.prog Tryz.prog.depth 101 (2 / Tryz.prog.cellsOf 101) 0 101 1 = true := by kernel_rfl
theorem bByte : (Tryz.prog.info? 5).map (fun i => (i.zero, i.size, i.bytes)) = some (some (.int .u8 0), 1, 1) := by kernel_rfl

set_option maxHeartbeats 1000000 in
set_option maxRecDepth 100000 in
theorem cc_used (b : Nat) (w : World) (h0 : w.cell? ⟨b, 0, none⟩ = some (.pointer (some ⟨b, 0, none⟩))) :
    Calls Tryz.prog 84 #[.pointer (some ⟨b, 0, none⟩)] w fun e w' => e = .returned (.tuple #[]) ∧ w' = w := by
  obtain ⟨j, hj, _⟩ := Option.map_eq_some_iff.1 bSize
  go_enter Tryz.func84, Tryz.ntmps84
  go_wp2
  rw [Lib.run_neq_ptr_same w _ Tryz.underlying99 hj]
  go_wp2
  go_end0
  exact ⟨rfl, rfl⟩
set_option maxHeartbeats 1000000 in
set_option maxRecDepth 100000 in
theorem cc_fresh (b : Nat) (w : World) (h0 : w.cell? ⟨b, 0, none⟩ = some (.pointer none)) (hsh : w.shape? b = some (101, 2)) (hfz : w.frozen? ⟨b, 0, none⟩ = false) :
    Calls Tryz.prog 84 #[.pointer (some ⟨b, 0, none⟩)] w fun e w' => e = .returned (.tuple #[]) ∧ w' = w.setCell ⟨b, 0, none⟩ (.pointer (some ⟨b, 0, none⟩)) := by
  obtain ⟨j, hj, hjs⟩ := Option.map_eq_some_iff.1 bSize
  go_enter Tryz.func84, Tryz.ntmps84
  go_wp2
  rw [Lib.run_to_unsafe w ⟨b, 0, none⟩ Tryz.underlying99 Tryz.underlying119 hj (by rw [hjs]; decide) hsh (Nat.zero_lt_succ 1)]
  simp only [Result.andThen]
  rw [Oper.upon_value]
  go_wp2
  rw [run_callFunc_extern Tryz.func88 (by kernel_rfl) (by kernel_rfl) (by kernel_rfl) (e := Extern.AbiNoEscape.same) (by kernel_rfl)]
  rw [Lib.run_noEscape]
  simp only [Result.andThen]
  rw [Oper.upon_value]
  go_wp2
  rw [Lib.run_from_unsafe w ⟨b, 0, none⟩ Tryz.underlying119 Tryz.underlying99 hj hsh bLies]
  simp only [Result.andThen]
  rw [Oper.upon_value]
  go_wp2
  go_end0
  exact ⟨rfl, rfl⟩
theorem cc (B b : Nat) (bs : List Value) (w : World) (h : Lib.IsBuilder 101 5 B b bs w) :
    Calls Tryz.prog 84 #[.pointer (some ⟨b, 0, none⟩)] w fun e w' => e = .returned (.tuple #[]) ∧ (Lib.BuilderAt 101 5 B b (.pointer (some ⟨b, 0, none⟩)) bs w' ∧ Below B w w') := by
  rcases h with h | h
  · refine (cc_fresh b w h.cell0 h.shape h.frozen0).mono ?_
    rintro e w' ⟨rfl, rfl⟩
    exact ⟨rfl, h.used _, (Below.refl B w).setCell (p := ⟨b, 0, none⟩) h.1 _⟩
  · refine (cc_used b w h.cell0).mono ?_
    rintro e w' ⟨rfl, rfl⟩
    exact ⟨rfl, h, Below.refl B _⟩
set_option maxHeartbeats 2000000 in
set_option maxRecDepth 100000 in
theorem writeByte (B b : Nat) (bs : List Value) (c : Int) (w : World) (h : Lib.IsBuilder 101 5 B b bs w) (hlen : bs.length + 1 ≤ 140737488355328) (hBw : B ≤ w.heap.size) :
    Calls Tryz.prog 69 #[.pointer (some ⟨b, 0, none⟩), .int .u8 c] w fun e w' => e = .returned .nilIface ∧ (Lib.BuilderAt 101 5 B b (.pointer (some ⟨b, 0, none⟩)) (bs ++ [.int .u8 c]) w' ∧ Below B w w') := by
  obtain ⟨i0, hi, hz0, hz1, hz2⟩ := info_parts bByte
  go_enter Tryz.func69, Tryz.ntmps69
  go_wp2_with (go_at_call 84; refine (cc B b bs _ h).mono ?_)
  rintro e w1 ⟨rfl, h1, hb1⟩
  obtain ⟨hB, v, hbk, hown, hne⟩ := h1
  have c0 : w1.cell? ⟨b, 0, none⟩ = some (.pointer (some ⟨b, 0, none⟩)) := by rw [Lib.cell_of_heap hbk]; rfl
  have c1 : w1.cell? ⟨b, 1, none⟩ = some v := by rw [Lib.cell_of_heap hbk]; rfl
  go_wp2_with (at_builtin; refine wpList_append_own _ rfl _ _ 85 rfl B 5 i0 (.int .u8 0) 1 1 Tryz.underlying85 hi hz0 hz1 hz2 rfl (by decide) _ _ _ rfl (hown.alloc _) ⟨w1.heap.size, 0, none⟩ 1 1 [.int .u8 c] rfl rfl ?c1 ?c2 ?c3 ?c4 ?c5 ?_)
  case c1 =>
    intro j u hj
    match j, hj with
    | 0, hj => simp at hj; subst hj; simp [Addr.add]
  case c2 => intro u hu; simp at hu; subst hu; rfl
  case c3 => unfold maxLen; omega
  case c4 => omega
  case c5 => have := hb1.size; simp; omega
  intro v' w2 hown' hgrow _
  have hlt : b < w1.heap.size := by
    rcases Nat.lt_or_ge b w1.heap.size with h' | h'
    · exact h'
    · simp [Array.getElem?_eq_none h'] at hbk
  have hb2 : w2.heap[b]? = some (.cells #[.pointer (some ⟨b, 0, none⟩), v] 101 (0, 0)) := by
    rw [hgrow.block b (by simp; omega) (fun e => hne e.symm), Lib.alloc_old w1 _ b hlt]
    exact hbk
  have d0 : w2.cell? ⟨b, 0, none⟩ = some (.pointer (some ⟨b, 0, none⟩)) := by rw [Lib.cell_of_heap hb2]; rfl
  have d1 : w2.cell? ⟨b, 1, none⟩ = some v := by rw [Lib.cell_of_heap hb2]; rfl
  have f1 : w2.frozen? ⟨b, 1, none⟩ = false := Lib.frozen_of_heap hb2 1
  obtain ⟨g, cap, rfl⟩ : ∃ g cap, v' = .slice (some ⟨g, 0, none⟩) (bs.length + 1) cap := by
    rcases hown'.2 with ⟨_, h0⟩ | ⟨g, cap, cur, hv, _⟩
    · omega
    · exact ⟨g, cap, hv⟩
  go_wp2
  go_ret
  refine ⟨rfl, ?_, ?_⟩
  · exact Lib.BuilderAt.put (T := 101) (e := 5) hB hb2 (bs' := bs ++ [.int .u8 c]) (by simpa using hown') (by decide)
  · exact ((hb1.alloc (by have := hb1.size; omega) _).grown hgrow (by have := hb1.size; simp; omega) (fun k hk => (hown.lt k hk).1)).setCell (p := ⟨b, 1, none⟩) hB _
/-! ### The text of a builder: the library's contract at this program -/
def lays169_ren : Go.Shelf.Ren := ⟨fun | 169 => 70 | n => n, fun | 70 => 99 | 9 => 9 | 0 => 0 | 72 => 101 | 37 => 85 | 127 => 116 | 3 => 3 | 5 => 5 | n => n, fun | n => n⟩
theorem lays169 : Go.Proofs.Lays.n169 Tryz.prog lays169_ren := {
  mixed := by kernel_rfl
  f169 := Tryz.func70.trans (congrArg some (by kernel_rfl))
  t0 := Tryz.underlying0
  a0 := Tryz.isAgg0
  z0 := Tryz.sizeOf0
  v0 := Tryz.zeroValue0
  t3 := Tryz.underlying3
  a3 := Tryz.isAgg3
  z3 := Tryz.sizeOf3
  v3 := Tryz.zeroValue3
  t9 := Tryz.underlying9
  a9 := Tryz.isAgg9
  z9 := Tryz.sizeOf9
  v9 := Tryz.zeroValue9
  t37 := Tryz.underlying85
  a37 := Tryz.isAgg85
  z37 := Tryz.sizeOf85
  v37 := Tryz.zeroValue85
  t70 := Tryz.underlying99
  a70 := Tryz.isAgg99
  z70 := Tryz.sizeOf99
  v70 := Tryz.zeroValue99
  t72 := Tryz.underlying101
  a72 := Tryz.isAgg101
  z72 := Tryz.sizeOf101
  v72 := Tryz.zeroValue101
  t127 := Tryz.underlying116
  a127 := Tryz.isAgg116
  z127 := Tryz.sizeOf116
  v127 := Tryz.zeroValue116 }
theorem extra169 : Builder.Extra Tryz.prog lays169_ren := {
  sizeBuilder := by kernel_rfl
  liesBuilder := by kernel_rfl
  t5 := Tryz.underlying5
  a5 := Tryz.isAgg5
  z5 := Tryz.sizeOf5
  v5 := Tryz.zeroValue5
  infoByte := by kernel_rfl
  cellsByte := by kernel_rfl
  sizeByte := by kernel_rfl
  neB5 := by decide }
theorem bString (B b : Nat) (l : List UInt8) (w : World) (h : Lib.IsBuilder 101 5 B b (Lib.byteCells l) w) (hBw : B ≤ w.heap.size) :
    Calls Tryz.prog 70 #[.pointer (some ⟨b, 0, none⟩)] w fun e w' => e = .returned (.string ⟨l.toArray⟩) ∧ Below B w w' := Any.Builder_String_any lays169 extra169 B b l w h hBw
end Go.Ev

/- The function that writes a number's bytes: its walk. -/
namespace Go.Ev
open Go Go.Proofs Go.RowKit Go.Shelf

theorem clamp_eq {bytes : Int} : min (max bytes 0) 8 = (N.clamp bytes : Int) ∧ N.clamp bytes ≤ 8 := by
  unfold N.clamp
  rw [ilt_eq, ilt_eq]
  by_cases h1 : 0 < bytes
  · by_cases h2 : 8 < bytes
    · simp [h1, h2]; omega
    · simp [h1, h2]; omega
  · simp [h1]; omega

theorem two_blocks {w wr : World} {o1 o2 : Obj} (h : Below (w.heap.size + 1 + 1) ((w.alloc o1).alloc o2) wr) : wr.heap[w.heap.size]? = some o1 ∧ wr.heap[w.heap.size + 1]? = some o2 := by
  have e : (w.alloc o1).heap.size = w.heap.size + 1 := by simp
  refine ⟨?_, ?_⟩
  · rw [h.block _ (by omega), Below.heap_alloc _ _ _ (by omega)]; exact Go.heap_alloc_new w o1
  · rw [h.block _ (by omega), ← e]; exact Go.heap_alloc_new _ o2

set_option maxHeartbeats 4000000 in
set_option maxRecDepth 1000000 in
theorem outNum_walk (s : ByteArray) (er n bytes : Int) (w : World) (hs : (s.size : Int) ≤ 9223372036854775799) :
    Calls Tryz.prog 44 #[.agg #[.string s, .int .i64 er], .int .u64 n, .int .i64 bytes] w fun e w' =>
      e = .returned (.agg #[.string ⟨(s.data.toList ++ N.numB n (N.clamp bytes)).toArray⟩, .int .i64 er]) ∧ Below w.heap.size w w' := by
  go_enter Tryz.func44, Tryz.ntmps44
  go_wp2
  go_loopw [8] (fun i wr => ∃ (k : Int) (acc : List UInt8), i = .int .i64 k ∧ Lib.IsBuilder 101 5 (w.heap.size + 1 + 1) (w.heap.size + 1 + 1) (Lib.byteCells acc) wr ∧
      Below (w.heap.size + 1 + 1) ((w.alloc (Obj.cells #[Value.string s, Value.int IntKind.i64 er] 76)).alloc (Obj.cells #[Value.string { data := #[] }, Value.int IntKind.i64 0] 76)) wr ∧
      -1 ≤ k ∧ acc ++ N.numB n (k + 1).toNat = N.numB n (N.clamp bytes) ∧ acc.length + (k + 1).toNat ≤ 8) (fun i _ => (intOf i + 1).toNat)
  case atStart =>
    obtain ⟨hcl, hc8⟩ := clamp_eq (bytes := bytes)
    have hf := Lib.fresh_isBuilder 101 5 ((w.alloc (Obj.cells #[Value.string s, Value.int IntKind.i64 er] 76)).alloc (Obj.cells #[Value.string { data := #[] }, Value.int IntKind.i64 0] 76))
    have e0 : ((w.alloc (Obj.cells #[Value.string s, Value.int IntKind.i64 er] 76)).alloc (Obj.cells #[Value.string { data := #[] }, Value.int IntKind.i64 0] 76)).heap.size = w.heap.size + 1 + 1 := by simp
    rw [e0] at hf
    refine ⟨(N.clamp bytes : Int) - 1, [], by rw [hcl], hf, (Below.refl _ _).alloc (by simp) _, by omega, ?_, ?_⟩
    · rw [show ((N.clamp bytes : Int) - 1 + 1).toNat = N.clamp bytes by omega]; rfl
    · simp only [List.length_nil]; omega
  case round =>
    obtain ⟨k, acc, rfl, hI, hB, hk, hacc, hal⟩ := hrel
    by_cases hk0 : 0 ≤ k
    · go_wp2_with (go_at_call 69; refine (writeByte (w.heap.size + 1 + 1) (w.heap.size + 1 + 1) _ _ _ hI (by rw [Lib.byteCells_length]; omega) (by have := hB.size; simp at this; omega)).mono ?_)
      rintro e w1 ⟨rfl, h1, b1⟩
      go_wp2
      go_roundw
      case rel =>
        have e1 : N.numB n (k + 1).toNat = UInt8.ofNat ((n / 2 ^ (8 * k.toNat)) % 256).toNat :: N.numB n k.toNat := by
          rw [show (k + 1).toNat = k.toNat + 1 by omega]; rfl
        have e2 : ((UInt8.ofNat ((n / 2 ^ (8 * k.toNat)) % 256).toNat).toNat : Int) = n / 2 ^ (8 * k).toNat % 256 := by
          rw [show (8 * k).toNat = 8 * k.toNat by omega]
          have h0 : 0 ≤ (n / 2 ^ (8 * k.toNat)) % 256 := Int.emod_nonneg _ (by decide)
          have h1 : (n / 2 ^ (8 * k.toNat)) % 256 < 256 := Int.emod_lt_of_pos _ (by decide)
          have h2 : (UInt8.ofNat ((n / 2 ^ (8 * k.toNat)) % 256).toNat).toNat = ((n / 2 ^ (8 * k.toNat)) % 256).toNat := UInt8.toNat_ofNat_of_lt' (by
            show ((n / 2 ^ (8 * k.toNat)) % 256).toNat < 256
            omega)
          rw [h2]; omega
        refine ⟨k - 1, acc ++ [UInt8.ofNat ((n / 2 ^ (8 * k.toNat)) % 256).toNat], rfl, ?_, hB.trans b1, by omega, ?_, ?_⟩
        · rw [Lib.byteCells_append]
          have e3 : Lib.byteCells [UInt8.ofNat ((n / 2 ^ (8 * k.toNat)) % 256).toNat] = [Value.int .u8 (n / 2 ^ (8 * k).toNat % 256)] := by
            rw [← e2]; rfl
          rw [e3]; exact Or.inr h1
        · rw [e1] at hacc
          rw [← hacc, show (k - 1 + 1).toNat = k.toNat by omega, List.append_assoc]; rfl
        · rw [List.length_append]; simp only [List.length_cons, List.length_nil]; omega
      case measure => simp [intOf]; omega
    · have hk1 : k = -1 := by omega
      subst hk1
      have hfin : N.numB n (N.clamp bytes) = acc := by rw [← hacc]; show acc ++ [] = acc; simp
      have hal : acc.length ≤ 8 := by omega
      clear hacc
      rw [hfin]
      obtain ⟨hb0, hb1⟩ := two_blocks hB
      have c0 : wr.cell? ⟨w.heap.size, 0, none⟩ = some (.string s) := by rw [Lib.cell_of_heap hb0]; rfl
      have c1 : wr.cell? ⟨w.heap.size, 1, none⟩ = some (.int .i64 er) := by rw [Lib.cell_of_heap hb0]; rfl
      have c2 : wr.cell? ⟨w.heap.size + 1, 0, none⟩ = some (.string ⟨#[]⟩) := by rw [Lib.cell_of_heap hb1]; rfl
      have c3 : wr.cell? ⟨w.heap.size + 1, 1, none⟩ = some (.int .i64 0) := by rw [Lib.cell_of_heap hb1]; rfl
      have f0 : wr.frozen? ⟨w.heap.size, 0, none⟩ = false := Lib.frozen_of_heap hb0 0
      have f1 : wr.frozen? ⟨w.heap.size, 1, none⟩ = false := Lib.frozen_of_heap hb0 1
      have f2 : wr.frozen? ⟨w.heap.size + 1, 0, none⟩ = false := Lib.frozen_of_heap hb1 0
      have f3 : wr.frozen? ⟨w.heap.size + 1, 1, none⟩ = false := Lib.frozen_of_heap hb1 1
      have hBw : w.heap.size + 1 + 1 ≤ wr.heap.size := by have := hB.size; simp at this; omega
      have hadd : ¬ 9223372036854775807 < s.size + acc.length := by omega
      have hadd2 : ¬ 9223372036854775807 < s.size + (⟨acc.toArray⟩ : ByteArray).size := by
        show ¬ 9223372036854775807 < s.size + acc.toArray.size
        rw [List.size_toArray]; exact hadd
      have hadd3 : ¬ (s.size + (⟨acc.toArray⟩ : ByteArray).size > 9223372036854775807) := hadd2
      have hadd4 : s.size + (⟨acc.toArray⟩ : ByteArray).size ≤ 9223372036854775807 := Nat.not_lt.1 hadd2
      have hadd5 : s.size + acc.length ≤ 9223372036854775807 := Nat.not_lt.1 hadd
      go_wp2
      go_region_with (go_at_call 70; refine (bString (w.heap.size + 1 + 1) (w.heap.size + 1 + 1) acc _ (by exact hI) (by exact hBw)).mono ?_; rintro e w2 ⟨rfl, b2⟩
                      have d0 : w2.cell? ⟨w.heap.size, 0, none⟩ = some (.string s) := by rw [b2.cell (by show w.heap.size < w.heap.size + 1 + 1; omega)]; exact c0
                      have d1 : w2.cell? ⟨w.heap.size, 1, none⟩ = some (.int .i64 er) := by rw [b2.cell (by show w.heap.size < w.heap.size + 1 + 1; omega)]; exact c1
                      have d2 : w2.cell? ⟨w.heap.size + 1, 0, none⟩ = some (.string ⟨#[]⟩) := by rw [b2.cell (by show w.heap.size + 1 < w.heap.size + 1 + 1; omega)]; exact c2
                      have d3 : w2.cell? ⟨w.heap.size + 1, 1, none⟩ = some (.int .i64 0) := by rw [b2.cell (by show w.heap.size + 1 < w.heap.size + 1 + 1; omega)]; exact c3
                      have e0 : w2.frozen? ⟨w.heap.size, 0, none⟩ = false := by rw [b2.frozen (by show w.heap.size < w.heap.size + 1 + 1; omega)]; exact f0
                      have e1 : w2.frozen? ⟨w.heap.size, 1, none⟩ = false := by rw [b2.frozen (by show w.heap.size < w.heap.size + 1 + 1; omega)]; exact f1
                      have e2 : w2.frozen? ⟨w.heap.size + 1, 0, none⟩ = false := by rw [b2.frozen (by show w.heap.size + 1 < w.heap.size + 1 + 1; omega)]; exact f2
                      have e3 : w2.frozen? ⟨w.heap.size + 1, 1, none⟩ = false := by rw [b2.frozen (by show w.heap.size + 1 < w.heap.size + 1 + 1; omega)]; exact f3)
      all_goals go_wp2
      all_goals
        refine ⟨rfl, .agg #[.string (s ++ ⟨acc.toArray⟩), .int .i64 er], ?_, ?_, ?_⟩
        · simp [results, Tryz.results44, go_sem, d2, d3]
        · rw [hfin, ← bytes_append]
        · have b0 : Below w.heap.size w wr := (((Below.refl _ w).alloc (Nat.le_refl _) _).alloc (by simp) _).trans (hB.mono (by omega))
          exact (((b0.drew.trans (b2.mono (by omega))).setCell (p := ⟨w.heap.size, 0, none⟩) (Nat.le_refl _) _).setCell (p := ⟨w.heap.size + 1, 0, none⟩) (Nat.le_succ _) _).setCell (p := ⟨w.heap.size + 1, 1, none⟩) (Nat.le_succ _) _

/-- What leaves the memory at hand as it is keeps it. -/
theorem keeps_below {w w' : World} (X : Nat → Nat → Prop) (h : Below w.heap.size w w') : Keeps X w w' :=
  ⟨h.os, h.tape, h.output, h.size, fun b hb => ObjOk.same (h.block b hb)⟩
theorem outNum_ok : FnOk Tryz.prog 44 dOutNum := by
  refine den_of fun a b hp => ?_
  obtain ⟨o, n, bytes⟩ := a
  intro x y hxy w J locs xs hlen hJ hx _ _ _
  have hxy : x = (aCons (vAgg cOut) (aCons (vInt .u64) (aOne (vInt .i64)))).enc (o, n, bytes) ∧ y = bNil.enc b := by simpa using hxy
  obtain ⟨rfl, rfl⟩ := hxy
  have hlen : locs = [] := List.eq_nil_of_length_eq_zero hlen
  subst hlen
  obtain ⟨hp1, hp⟩ := bcond hp
  obtain ⟨hp2, hp3⟩ := bcond hp
  have hp3 : o.s.length ≤ 9223372036854775799 := Nat.le_of_ble_eq_true hp3
  obtain ⟨x0, xs1, rfl, hx0, hx⟩ := hx.uncons
  obtain ⟨x1, xs2, rfl, hx1, hx⟩ := hx.uncons
  obtain ⟨x2, rfl, hx2⟩ := hx.one
  obtain ⟨cs, rfl, hc1, hc2⟩ := Rv.agg_inv (show Rv w J _ (.agg [.str o.s, .int .i64 o.err]) x0 from hx0)
  have hx1 := Rv.int_inv (show Rv w J _ (.int .u64 n) x1 from hx1)
  have hx2 := Rv.int_inv (show Rv w J _ (.int .i64 bytes) x2 from hx2)
  subst hx1 hx2
  match cs, hc1, hc2 with
  | [c0, c1], _, hc2 =>
    have h0 := Rv.str_inv (show Rv w J _ (.str o.s) c0 from hc2 0 (by simp))
    have h1 := Rv.int_inv (show Rv w J _ (.int .i64 o.err) c1 from hc2 1 (by simp))
    subst h0 h1
    refine .inl ⟨?_, ?_⟩
    · have hnm : ¬ (Tryz.f44).name = "runtime.NumGoroutine" := by
        intro e
        have : ((Tryz.f44).name == "runtime.NumGoroutine") = false := by kernel_rfl
        rw [e] at this; cases this
      obtain ⟨c, hc⟩ := Option.isSome_iff_exists.1 (show (Tryz.f44).body.isSome = true by kernel_rfl)
      simp [callFunc, Tryz.func44, hnm, hc]
    · refine (outNum_walk ⟨o.s.toArray⟩ o.err n bytes w (by rw [bytes_size]; omega)).mono fun e w' ⟨he, hb⟩ => ⟨_, he, J, ?_⟩
      refine ⟨keeps_below _ hb, fun _ _ h => h, fun b o' h => Nat.lt_of_lt_of_le (hJ b o' h) hb.size, fun _ _ h _ => h, rfl, (fun j cs cs' p hj => by cases hj), .inl ⟨rfl, ?_⟩⟩
      refine .agg [.str (N.outNum o n bytes).s, .int .i64 (N.outNum o n bytes).err] [.string ⟨(o.s ++ N.numB n (N.clamp bytes)).toArray⟩, .int .i64 o.err] rfl fun i hi => ?_
      match i, hi with
      | 0, _ => exact .dat (.str _)
      | 1, _ => exact .dat (.int _ _)
end Go.Ev
