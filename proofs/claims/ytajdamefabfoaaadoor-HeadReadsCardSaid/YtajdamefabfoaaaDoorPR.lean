/- Heads, read: the plain functions and their codecs: definitions, no condition. -/
import Derived.Test.YtajdamefabfoaaaDoorPH
namespace Go.Ev
open Go

structure RIn where
  s : Bytes
  at' : Int
  code : Int
def rowRI (r : List V) : RIn := ⟨(r.getD 0 .undef).toStr, (r.getD 1 .undef).toInt, (r.getD 2 .undef).toInt⟩
def cRIn : RCod RIn := ((rStr.and ((rInt .i64).and (rInt .i64))).iso (fun p => (⟨p.1, p.2.1, p.2.2⟩ : RIn)) (fun o => (o.s, o.at', o.code)) (fun _ => rfl) fun _ => rfl).spelt
  [.str, .int .i64, .int .i64] (fun p => [.str p.s, .int .i64 p.at', .int .i64 p.code]) rowRI rfl (fun _ => rfl) fun r => by
    show (⟨((r.take 1).getD 0 .undef).toStr, (((r.drop 1).take 1).getD 0 .undef).toInt, ((r.drop 1).drop 1 |>.getD 0 .undef).toInt⟩ : RIn) = rowRI r
    simp only [getD_take_one, getD_drop_one]; rfl
namespace N
def inText (i : InS) (n : Int) : Bytes × InS :=
  inRaw (cond (ilt n (IntKind.wrap .i64 (inNum i 2).1)) (inFail (inNum i 2).2 5) (inNum i 2).2) (IntKind.wrap .i64 (inNum i 2).1)
def inLeft (i : InS) : Int := i.s.length
/-- A pair that bytes begin with. -/
def oneOf (key : Bytes) (kind : Int) (i : InS) : HPair × InS :=
  cond (kind == 0) (⟨key, kind, IntKind.wrap .i64 (inNum i 8).1, []⟩, (inNum i 8).2) (cond (kind == 1) (⟨key, kind, 0, (inText i 64).1⟩, (inText i 64).2)
    (cond (kind == 2) (⟨key, kind, IntKind.wrap .i64 (inNum i 1).1, []⟩, (inNum i 1).2) (⟨key, kind, 0, []⟩, inFail i 8)))
def one (i : InS) : HPair × InS := oneOf (inText i 16).1 (IntKind.wrap .u8 (inNum (inText i 16).2 1).1) (inNum (inText i 16).2 1).2
def bad (p : HPair) (acc : List HPair) (i : InS) : InS := cond (i.err == 0) (inFail i (pairE p acc)) i
def readFrom : Nat → InS → List HPair → List HPair × InS
  | 0, i, acc => (acc, i)
  | k + 1, i, acc => cond ((bad (one i).1 acc (one i).2).err != 0) ([], bad (one i).1 acc (one i).2) (readFrom k (bad (one i).1 acc (one i).2) (acc ++ [(one i).1]))
def headRead (i : InS) : List HPair × InS :=
  readFrom (IntKind.wrap .i64 (inNum i 1).1).toNat (cond (ilt 8 (IntKind.wrap .i64 (inNum i 1).1)) (inFail (inNum i 1).2 6) (inNum i 1).2) []
def rFail (q : RIn) (c : Int) : RIn := cond (q.code == 0) ⟨q.s, q.at', c⟩ q
def rRaw (q : RIn) (n : Int) : Bytes × RIn :=
  cond (q.code != 0) ([], q) (cond (ile n 0) ([], q) (cond (ilt (q.s.length - q.at') n) ([], rFail q 3) ((q.s.drop q.at'.toNat).take n.toNat, ⟨q.s, q.at' + n, q.code⟩)))
def rNum (q : RIn) (n : Int) : Int × RIn := (be (rRaw q (cond (ilt 8 n) 8 n)).1 0, (rRaw q (cond (ilt 8 n) 8 n)).2)
def rText (q : RIn) (n : Int) : Bytes × RIn :=
  rRaw (cond (ilt n (IntKind.wrap .i64 (rNum q 2).1)) (rFail (rNum q 2).2 5) (rNum q 2).2) (IntKind.wrap .i64 (rNum q 2).1)
def rLeft (q : RIn) : Int := cond (q.code != 0) 0 (q.s.length - q.at')
def rOneOf (key : Bytes) (kind : Int) (q : RIn) : HPair × RIn :=
  cond (kind == 0) (⟨key, kind, IntKind.wrap .i64 (rNum q 8).1, []⟩, (rNum q 8).2) (cond (kind == 1) (⟨key, kind, 0, (rText q 64).1⟩, (rText q 64).2)
    (cond (kind == 2) (⟨key, kind, IntKind.wrap .i64 (rNum q 1).1, []⟩, (rNum q 1).2) (⟨key, kind, 0, []⟩, rFail q 8)))
def rOne (q : RIn) : HPair × RIn := rOneOf (rText q 16).1 (IntKind.wrap .u8 (rNum (rText q 16).2 1).1) (rNum (rText q 16).2 1).2
def rBad (p : HPair) (acc : List HPair) (q : RIn) : RIn := cond (q.code == 0) (rFail q (pairE p acc)) q
def rReadFrom : Nat → RIn → List HPair → List HPair × RIn
  | 0, q, acc => (acc, q)
  | k + 1, q, acc => cond (q.code == 0) (rReadFrom k (rBad (rOne q).1 acc (rOne q).2) (acc ++ [(rOne q).1])) (acc, q)
def rRead (q : RIn) : List HPair × RIn :=
  rReadFrom (IntKind.wrap .i64 (rNum q 1).1).toNat (cond (ilt 8 (IntKind.wrap .i64 (rNum q 1).1)) (rFail (rNum q 1).2 6) (rNum q 1).2) []
def rHead (q : RIn) : List HPair × RIn := cond ((rRead q).2.code != 0) ([], (rRead q).2) (rRead q)
end N
/-- A reader stands within its bytes. -/
def N.goodR (q : RIn) : Bool := cond (ile 0 q.at') (cond (ile q.at' q.s.length) (Nat.ble q.s.length LIM) false) false
def dInText : Den := den (aCons (vPtr 0) (aOne (vInt .i64))) (bOne cIn) (oV vStr) (fun _ _ => true) fun a i => N.inText i a.2
def dInErr : Den := den (aOne (vPtr 0)) (bOne cIn) (oV (vInt .i64)) (fun _ _ => true) fun _ i => (i.err, i)
def dInLeft : Den := den (aOne (vPtr 0)) (bOne cIn) (oV (vInt .i64)) (fun _ _ => true) fun _ i => (N.inLeft i, i)
def dInEnd : Den := den (aOne (vPtr 0)) (bOne cIn) (oV (vInt .i64)) (fun _ _ => true) fun _ i => (cond (i.err == 0) (cond (ilt 0 i.s.length) 4 0) i.err, i)
def dOne : Den := den (aOne (vPtr 0)) (bOne cIn) (oV (vAgg cPair)) (fun _ _ => true) fun _ i => N.one i
def dHeadRead : Den := den (aOne (vPtr 0)) (bOne cIn) (oV (vSl cPair)) (fun _ _ => true) fun _ i => N.headRead i
def dRFail : Den := den (aCons (vPtr 0) (aOne (vInt .i64))) (bOne cRIn) (oTup aNil) (fun _ _ => true) fun a q => ((), N.rFail q a.2)
def dRRaw : Den := den (aCons (vPtr 0) (aOne (vInt .i64))) (bOne cRIn) (oV vStr) (fun _ q => N.goodR q) fun a q => N.rRaw q a.2
def dRNum : Den := den (aCons (vPtr 0) (aOne (vInt .i64))) (bOne cRIn) (oV (vInt .u64)) (fun _ q => N.goodR q) fun a q => N.rNum q a.2
def dRText : Den := den (aCons (vPtr 0) (aOne (vInt .i64))) (bOne cRIn) (oV vStr) (fun _ q => N.goodR q) fun a q => N.rText q a.2
def dRLeft : Den := den (aOne (vPtr 0)) (bOne cRIn) (oV (vInt .i64)) (fun _ q => N.goodR q) fun _ q => (N.rLeft q, q)
def dRHead : Den := den (aOne (vPtr 0)) (bOne cRIn) (oV (vSl cPair)) (fun _ q => N.goodR q) fun _ q => N.rHead q
end Go.Ev
