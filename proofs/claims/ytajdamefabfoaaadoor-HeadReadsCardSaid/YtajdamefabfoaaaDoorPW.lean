/- Words and patterns: the plain functions: definitions, no condition. -/
import Derived.Test.YtajdamefabfoaaaDoorP1
namespace Go.Ev
open Go
namespace N
/-- A text's parts between points. -/
def splitDot : Bytes → List Bytes
  | [] => [[]]
  | c :: r => cond (c == 46) ([] :: splitDot r) (match splitDot r with | [] => [[c]] | w :: ws => (c :: w) :: ws)
def words (s : Bytes) : List Bytes := cond s.isEmpty [] (splitDot s)
def letterI (c : Int) : Bool := cond (cond (ile 97 c) (ile c 122) false) true (cond (cond (ile 48 c) (ile c 57) false) true (cond (c == 45) true (c == 95)))
def letter (c : UInt8) : Bool := letterI c.toNat
def plain (s : Bytes) : Bool := s.all letter
/-- One row of the document's answer. -/
def refVal (w : Bytes) (k : List Bytes) (may nxt : List Bool) (j : Nat) : Bool :=
  cond (w == [35]) (cond (may.getD j false) true (cond (Nat.blt 0 j) (nxt.getD (j - 1) false) false))
    (cond (Nat.blt 0 j) (cond (may.getD (j - 1) false) (cond (w == [42]) true (w == k.getD (j - 1) [])) false) (nxt.getD j false))
def refRow (w : Bytes) (k : List Bytes) (may : List Bool) : Nat → Nat → List Bool → List Bool
  | 0, _, nxt => nxt
  | f + 1, j, nxt => refRow w k may f (j + 1) (nxt.set j (refVal w k may nxt j))
def refRows (k : List Bytes) : List Bytes → List Bool → List Bool
  | [], may => may
  | w :: p, may => refRows k p (refRow w k may (k.length + 1) 0 (List.replicate (k.length + 1) false))
def refMatches (p k : List Bytes) : Bool := (refRows k p ((List.replicate (k.length + 1) false).set 0 true)).getD k.length false
/-- How the program goes on: the pattern's place where the key ends. -/
def goOn (p k : List Bytes) : Nat → Int → Int → Int → Int → Option Int
  | 0, _, _, _, _ => none
  | f + 1, i, j, b, fr => cond (ilt j k.length)
      (cond (cond (ilt i p.length) (p.getD i.toNat [] == [35]) false) (goOn p k f (i + 1) j (i + 1) j)
        (cond (cond (ilt i p.length) (cond (p.getD i.toNat [] == [42]) true (p.getD i.toNat [] == k.getD j.toNat [])) false) (goOn p k f (i + 1) (j + 1) b fr)
          (cond (ile 0 b) (goOn p k f b (fr + 1) b (fr + 1)) none)))
      (some i)
def hashes (p : List Bytes) : Nat → Int → Int
  | 0, i => i
  | f + 1, i => cond (cond (ilt i p.length) (p.getD i.toNat [] == [35]) false) (hashes p f (i + 1)) i
def goFuel (p k : List Bytes) : Nat := (k.length + 1) * (p.length + 1) + p.length + 2
def matchW (p k : List Bytes) : Bool := match goOn p k (goFuel p k) 0 0 (-1) 0 with
  | some i => hashes p (p.length + 1) i == p.length
  | none => false
def keyL (besides : List Bytes) : List Bytes → Int
  | [] => 0
  | w :: r => cond (besides.any (w == ·)) (keyL besides r) (cond (cond (w == []) true (!plain w)) 4 (keyL besides r))
def key (s : Bytes) (besides : List Bytes) : Int := cond (ilt 64 s.length) 5 (keyL besides (words s))
def name (s : Bytes) : Int := cond (s == []) 15 (cond (ilt 16 s.length) 5 (cond (!plain s) 4 0))
def refKeyL (pattern : Bool) : List Bytes → Int
  | [] => 0
  | w :: r => cond (cond (cond ((w.length : Int) == 0) true (!plain w)) (!cond pattern (cond (w == [42]) true (w == [35])) false) false) 4 (refKeyL pattern r)
def refKey (s : Bytes) (pattern : Bool) : Int := cond (ilt 64 s.length) 5 (refKeyL pattern (words s))
/-- The first point's place. -/
def dot : Bytes → Int
  | [] => -1
  | c :: r => cond (c == 46) 0 (cond (dot r == -1) (-1) (dot r + 1))
def dots (s : Bytes) : Int := s.count 46
end N
def LIM : Nat := 1000000
def BIG : Nat := 1000000000000
def dLetter : Den := den (aOne (vInt .u8)) bNil (oV vBool) (fun _ _ => true) fun c _ => (N.letterI c, ())
def dPlain : Den := den (aOne vStr) bNil (oV vBool) (fun s _ => Nat.ble s.length LIM) fun s _ => (N.plain s, ())
def dWords : Den := den (aOne vStr) bNil (oV (vSl rStr)) (fun s _ => Nat.ble s.length LIM) fun s _ => (N.words s, ())
def dDot1 : Den := den (aCons vStr (aOne (vInt .u8))) bNil (oV (vInt .i64)) (fun a _ => a.2 == 46) fun a _ => (N.dot a.1, ())
def dDot : Den := den (aCons vStr (aOne vStr)) bNil (oV (vInt .i64)) (fun a _ => a.2 == [46]) fun a _ => (N.dot a.1, ())
def dDots1 : Den := den (aCons vStr (aOne (vInt .u8))) bNil (oV (vInt .i64)) (fun a _ => a.2 == 46) fun a _ => (N.dots a.1, ())
def dDots : Den := den (aCons vStr (aOne vStr)) bNil (oV (vInt .i64)) (fun a _ => a.2 == [46]) fun a _ => (N.dots a.1, ())
def dSplit : Den := den (aCons vStr (aOne vStr)) bNil (oV (vSl rStr)) (fun a _ => cond (a.2 == [46]) (Nat.ble a.1.length LIM) false) fun a _ => (N.splitDot a.1, ())
def dGenSplit : Den := den (aCons vStr (aCons vStr (aCons (vInt .i64) (aOne (vInt .i64))))) bNil (oV (vSl rStr)) (fun a _ => cond (a.2.1 == [46]) (cond (a.2.2.1 == 0) (cond (a.2.2.2 == -1) (Nat.ble a.1.length LIM) false) false) false) fun a _ => (N.splitDot a.1, ())
def small (l : List Bytes) : Bool := Nat.ble l.length LIM
def dMatches : Den := den (aCons vStr (aOne vStr)) bNil (oV vBool) (fun a _ => cond (Nat.ble a.1.length LIM) (Nat.ble a.2.length LIM) false) fun a _ => (N.matchW (N.words a.1) (N.words a.2), ())
def dRefMatches : Den := den (aCons (vSl rStr) (aOne (vSl rStr))) bNil (oV vBool) (fun a _ => cond (small a.1) (small a.2) false) fun a _ => (N.refMatches a.1 a.2, ())
def dRefKey : Den := den (aCons vStr (aOne vBool)) bNil (oV (vInt .i64)) (fun _ _ => true) fun a _ => (N.refKey a.1 a.2, ())
def dKeyB : Den := den (aCons vStr (aOne (vSl rStr))) bNil (oV (vInt .i64)) (fun a _ => small a.2) fun a _ => (N.key a.1 a.2, ())
def dKey : Den := den (aOne vStr) bNil (oV (vInt .i64)) (fun _ _ => true) fun s _ => (N.key s [], ())
def dPattern : Den := den (aOne vStr) bNil (oV (vInt .i64)) (fun _ _ => true) fun s _ => (N.key s [[42], [35]], ())
def dName : Den := den (aOne vStr) bNil (oV (vInt .i64)) (fun _ _ => true) fun s _ => (N.name s, ())
end Go.Ev
