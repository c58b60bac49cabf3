/- Bytes, written and read: the plain functions and their codecs: definitions, no condition. -/
import Derived.Test.YtajdamefabfoaaaDoorLoop
namespace Go.Ev
open Go

abbrev Bytes := List UInt8
structure OutS where
  s : Bytes
  err : Int
structure InS where
  s : Bytes
  err : Int
def cOut : RCod OutS := (rStr.and (rInt .i64)).iso (fun p => ⟨p.1, p.2⟩) (fun o => (o.s, o.err)) (fun _ => rfl) fun _ => rfl
def cIn : RCod InS := (rStr.and (rInt .i64)).iso (fun p => ⟨p.1, p.2⟩) (fun o => (o.s, o.err)) (fun _ => rfl) fun _ => rfl

def maxStr : Int := 9223372036854775807
namespace N
def inFail (i : InS) (code : Int) : InS := bif i.err == 0 then (bif code != 0 then ⟨[], code⟩ else i) else i
def inRaw (i : InS) (n : Int) : Bytes × InS :=
  bif i.err != 0 then ([], i) else bif ile n 0 then ([], i) else bif ilt i.s.length n then ([], inFail i 3) else (i.s.take n.toNat, ⟨i.s.drop n.toNat, i.err⟩)
/-- The number that bytes are. -/
def be : Bytes → Int → Int
  | [], n => n
  | c :: r, n => be r (n * 256 + c.toNat)
/-- The number of a slice's bytes, as the program reckons it. -/
def beR : List (List V) → Int → Int
  | [], n => n
  | r :: rs, n => beR rs (ibits .or .u64 (shl .u64 n 8) (IntKind.wrap .u64 (V.toInt (r.getD 0 .undef))))
def inNum (i : InS) (n : Int) : Int × InS := (be (inRaw i (bif ilt 8 n then 8 else n)).1 0, (inRaw i (bif ilt 8 n then 8 else n)).2)
/-- A number's last bytes. -/
def numB (n : Int) : Nat → Bytes
  | 0 => []
  | k + 1 => UInt8.ofNat ((n / 2 ^ (8 * k)) % 256).toNat :: numB n k
def clamp (bytes : Int) : Nat := (bif ilt 0 bytes then (bif ilt 8 bytes then 8 else bytes) else 0).toNat
def outNum (o : OutS) (n bytes : Int) : OutS := ⟨o.s ++ numB n (clamp bytes), o.err⟩
def outRaw (o : OutS) (s : Bytes) : OutS := ⟨o.s ++ s, o.err⟩
def outText (o : OutS) (s : Bytes) : OutS := bif ilt 65535 s.length then ⟨o.s, bif o.err == 0 then 5 else o.err⟩ else outRaw (outNum o s.length 2) s
end N
/-- The program's reckoning is the plain one, as long as nothing runs over. -/
theorem shl_or (n : Int) (b : Nat) (hn : 0 ≤ n) (h : n < 72057594037927936) (hb : b < 256) : ibits .or .u64 (shl .u64 n 8) (IntKind.wrap .u64 (b : Int)) = n * 256 + b := by
  obtain ⟨m, rfl⟩ := Int.eq_ofNat_of_zero_le hn
  have hm : m < 72057594037927936 := by omega
  have w : ∀ x : Nat, x < 18446744073709551616 → IntKind.wrap .u64 (x : Int) = x := fun x hx => by
    simp only [IntKind.wrap, IntKind.signed, IntKind.bits]
    simp
    omega
  have e1 : shl .u64 (m : Int) 8 = ((m * 256 : Nat) : Int) := by
    have := w (m * 256) (by omega)
    unfold shl
    rw [show (m : Int) * 2 ^ (min (Int.toNat 8) (IntKind.bits .u64)) = ((m * 256 : Nat) : Int) by simp [IntKind.bits]]
    exact this
  rw [e1, w b (by omega)]
  have e2 : ∀ x : Nat, x < 18446744073709551616 → (BitVec.ofInt 64 (x : Int)).toNat = x := fun x hx => by
    simp [BitVec.toNat_ofInt]; omega
  show IntKind.wrap .u64 (((BitVec.ofInt 64 ((m * 256 : Nat) : Int) ||| BitVec.ofInt 64 (b : Int) : BitVec 64).toNat : Nat) : Int) = _
  rw [BitVec.toNat_or, e2 _ (by omega), e2 _ (by omega)]
  have e3 : m * 256 ||| b = m * 256 + b := by
    have := Nat.shiftLeft_add_eq_or_of_lt (i := 8) (b := b) (by omega) m
    rw [Nat.shiftLeft_eq, show (2 : Nat) ^ 8 = 256 by decide] at this
    exact this.symm
  rw [e3, w _ (by omega)]
  rw [Int.natCast_add, Int.natCast_mul]; rfl
theorem beR_bytes : ∀ (l : Bytes) (n : Int) (k : Nat), 0 ≤ n → l.length ≤ k → k ≤ 8 → n < ((256 ^ (8 - k) : Nat) : Int) → N.beR (bytesOfStr l) n = N.be l n
  | [], n, k, _, _, _, _ => rfl
  | c :: r, n, k, hn, hl, hk, h => by
    have hc : c.toNat < 256 := c.toNat_lt
    have hl' : r.length + 1 ≤ k := hl
    have hk1 : 1 ≤ k := by omega
    have h7 : n < 72057594037927936 := by
      have h1 : 256 ^ (8 - k) ≤ 256 ^ 7 := Nat.pow_le_pow_right (by decide) (by omega)
      have e : (256 : Nat) ^ 7 = 72057594037927936 := by decide
      rw [e] at h1
      omega
    show N.beR (bytesOfStr r) (ibits .or .u64 (shl .u64 n 8) (IntKind.wrap .u64 ((c.toNat : Nat) : Int))) = N.be r (n * 256 + c.toNat)
    rw [shl_or n c.toNat hn h7 hc]
    refine beR_bytes r _ (k - 1) (by omega) (by omega) (by omega) ?_
    have : (256 : Nat) ^ (8 - (k - 1)) = 256 ^ (8 - k) * 256 := by
      rw [show 8 - (k - 1) = (8 - k) + 1 by omega, Nat.pow_succ]
    rw [this]; omega

theorem N.inRaw_len (i : InS) (n : Int) (m : Nat) (h : n ≤ m) : (N.inRaw i n).1.length ≤ m := by
  unfold N.inRaw
  cases i.err != 0 <;> cases ile n 0 <;> cases ilt (i.s.length : Int) n <;> simp <;> omega
theorem N.numB_length (n : Int) : ∀ k, (N.numB n k).length = k
  | 0 => rfl
  | k + 1 => by simp [N.numB, N.numB_length n k]

def dFail : Den := den (aCons (vPtr 0) (aOne (vInt .i64))) (bOne cIn) (oTup aNil) (fun _ _ => true) fun a i => ((), N.inFail i a.2)
def dRaw : Den := den (aCons (vPtr 0) (aOne (vInt .i64))) (bOne cIn) (oV vStr) (fun _ _ => true) fun a i => N.inRaw i a.2
def dNum : Den := den (aCons (vPtr 0) (aOne (vInt .i64))) (bOne cIn) (oV (vInt .u64)) (fun _ _ => true) fun a i => N.inNum i a.2
def dNew : Den := den (aOne vStr) bNil (oNew cIn) (fun _ _ => true) fun s _ => (⟨s, 0⟩, ())
def dOutNum : Den := den (aCons (vAgg cOut) (aCons (vInt .u64) (aOne (vInt .i64)))) bNil (oV (vAgg cOut)) (fun a _ => cond (ile 0 a.2.1) (cond (ilt a.2.1 18446744073709551616) (Nat.ble a.1.s.length 9223372036854775799) false) false) fun a _ => (N.outNum a.1 a.2.1 a.2.2, ())
def dOutRaw : Den := den (aCons (vAgg cOut) (aOne vStr)) bNil (oV (vAgg cOut)) (fun a _ => Nat.ble (a.1.s.length + a.2.length) 9223372036854775807) fun a _ => (N.outRaw a.1 a.2, ())
def dOutText : Den := den (aCons (vAgg cOut) (aOne vStr)) bNil (oV (vAgg cOut)) (fun a _ => Nat.ble (a.1.s.length + a.2.length) 9223372036854775790) fun a _ => (N.outText a.1 a.2, ())
def dOutString : Den := den (aOne (vAgg cOut)) bNil (oV vStr) (fun _ _ => true) fun o _ => (o.s, ())
end Go.Ev
