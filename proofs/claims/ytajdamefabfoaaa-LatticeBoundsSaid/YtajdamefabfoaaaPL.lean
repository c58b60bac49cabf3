/- Labels: the plain functions and their codecs: definitions, no condition. -/
import Derived.Test.YtajdamefabfoaaaP1
namespace Go.Ev
open Go

structure Label where
  level : Int
  set : Int
def cLabel : RCod Label := ((rInt .u8).and (rInt .u32)).iso (fun p => ⟨p.1, p.2⟩) (fun o => (o.level, o.set)) (fun _ => rfl) fun _ => rfl
namespace N
def under (a b : Label) : Bool := bif ile a.level b.level then ibits .andNot .u32 a.set b.set == 0 else false
def right (a : Label) : Bool := ile a.level 15
def join (a b : Label) : Label := ⟨bif ilt a.level b.level then b.level else a.level, ibits .or .u32 a.set b.set⟩
def meet (a b : Label) : Label := ⟨bif ilt b.level a.level then b.level else a.level, ibits .and .u32 a.set b.set⟩
def isDigit (c : UInt8) : Bool := bif ilt c.toNat 48 then false else !(ilt 57 c.toNat)
def numLoop (most : Int) : Bytes → Int → Int → Int × Int
  | [], k, n => (k, n)
  | c :: r, k, n => cond (isDigit c) (numLoop most r (k + 1) (cond (ile n most) (10 * n + (c.toNat - 48)) n)) (k, n)
def number (s : Bytes) (most : Int) : Int × Bytes × Int :=
  cond ((numLoop most s 0 0).1 == 0) (0, [], cond ((s.length : Int) == 0) 3 4)
    (cond (cond (ilt 1 (numLoop most s 0 0).1) ((s.getD 0 0).toNat == (48 : Int)) false) (0, [], 4)
      (cond (ilt most (numLoop most s 0 0).2) (0, [], 7) ((numLoop most s 0 0).2, s.drop (numLoop most s 0 0).1.toNat, 0)))
def parseLoop : Nat → Bytes → Label → Int → Label × Int
  | 0, _, a, _ => (a, 0)
  | _ + 1, [], a, _ => (a, 0)
  | f + 1, c :: r, a, last => cond ((c.toNat : Int) != 58) (⟨0, 0⟩, 4) (cond ((number r 31).2.2 != 0) (⟨0, 0⟩, (number r 31).2.2)
      (cond (ile (number r 31).1 last) (⟨0, 0⟩, 4) (parseLoop f (number r 31).2.1 ⟨a.level, ibits .or .u32 a.set (shl .u32 1 (number r 31).1)⟩ (number r 31).1)))
def parse (s : Bytes) : Label × Int :=
  cond ((number s 15).2.2 != 0) (⟨0, 0⟩, (number s 15).2.2) (parseLoop (number s 15).2.1.length (number s 15).2.1 ⟨(number s 15).1, 0⟩ (-1))
def refHas (a : Label) (i : Int) : Bool := Int.tmod (shr .u32 a.set i) 2 == 1
def refLoop (a b : Label) : Nat → Int → Bool
  | 0, _ => true
  | f + 1, i => cond (refHas a i) (cond (!refHas b i) false (refLoop a b f (i + 1))) (refLoop a b f (i + 1))
def refUnder (a b : Label) : Bool := cond (ilt b.level a.level) false (refLoop a b 32 0)
end N
theorem N.numLoop_bounds (most : Int) : ∀ (l : Bytes) (k n : Int), k ≤ (N.numLoop most l k n).1 ∧ (N.numLoop most l k n).1 ≤ k + l.length
  | [], k, n => ⟨Int.le_refl _, by simp [N.numLoop]⟩
  | c :: r, k, n => by
    unfold N.numLoop
    have h := fun n => N.numLoop_bounds most r (k + 1) n
    cases N.isDigit c with
    | true => simp only [cond_true, List.length_cons]; have := h (cond (ile n most) (10 * n + (c.toNat - 48)) n); omega
    | false => simp only [cond_false, List.length_cons]; omega
theorem N.isDigit_iff (c : UInt8) : N.isDigit c = true ↔ (48 : Int) ≤ c.toNat ∧ (c.toNat : Int) ≤ 57 := by
  unfold N.isDigit
  rw [ilt_eq, ilt_eq]
  by_cases h1 : (c.toNat : Int) < 48
  · simp [h1] <;> omega
  · by_cases h2 : (57 : Int) < c.toNat
    · simp [h1, h2] <;> omega
    · simp [h1, h2] <;> omega
theorem N.numLoop_nonneg (most : Int) : ∀ (l : Bytes) (k n : Int), 0 ≤ n → 0 ≤ (N.numLoop most l k n).2
  | [], k, n, h => h
  | c :: r, k, n, h => by
    unfold N.numLoop
    cases hd : N.isDigit c with
    | true =>
      simp only [cond_true]
      have := (N.isDigit_iff c).1 hd
      refine N.numLoop_nonneg most r (k + 1) _ ?_
      cases ile n most <;> simp only [cond_true, cond_false] <;> omega
    | false => exact h
theorem N.number_spec (s : Bytes) (most : Int) : 0 ≤ (N.number s most).1 ∧ ((N.number s most).2.2 = 0 → (N.number s most).1 ≤ most ∧ (N.number s most).2.1.length < s.length) := by
  have hb := N.numLoop_bounds most s 0 0
  have hn := N.numLoop_nonneg most s 0 0 (by decide)
  unfold N.number
  cases h1 : (N.numLoop most s 0 0).1 == 0 with
  | true => refine ⟨by simp, fun h => ?_⟩; exfalso; cases h2 : (s.length : Int) == 0 <;> rw [h2] at h <;> simp at h
  | false =>
    simp only [cond_false]
    cases (bif ilt 1 (N.numLoop most s 0 0).1 then ((s.getD 0 0).toNat == (48 : Int)) else false) with
    | true => exact ⟨by simp, fun h => by simp at h⟩
    | false =>
      simp only [cond_false]
      cases h3 : ilt most (N.numLoop most s 0 0).2 with
      | true => exact ⟨by simp, fun h => by simp at h⟩
      | false =>
        rw [ilt_eq] at h3
        have h3 := of_decide_eq_false h3
        simp only [cond_false]
        refine ⟨hn, fun _ => ⟨by omega, ?_⟩⟩
        have h1 : (N.numLoop most s 0 0).1 ≠ 0 := by simpa using h1
        simp only [List.length_drop]; omega

def dNumber : Den := den (aCons vStr (aOne (vInt .i64))) bNil (oTup (aCons (vInt .i64) (aCons vStr (aOne (vInt .i64))))) (fun a _ => cond (ile 0 a.2) (cond (ile a.2 1000000) (Nat.ble a.1.length 9223372036854775806) false) false) fun a _ => (N.number a.1 a.2, ())
def dParse : Den := den (aOne vStr) bNil (oTup (aCons (vAgg cLabel) (aOne (vInt .i64)))) (fun s _ => Nat.ble s.length 9223372036854775806) fun s _ => (N.parse s, ())
def dUnder : Den := den (aCons (vAgg cLabel) (aOne (vAgg cLabel))) bNil (oV vBool) (fun _ _ => true) fun a _ => (N.under a.1 a.2, ())
def dRight : Den := den (aOne (vAgg cLabel)) bNil (oV vBool) (fun _ _ => true) fun a _ => (N.right a, ())
def dJoin : Den := den (aCons (vAgg cLabel) (aOne (vAgg cLabel))) bNil (oV (vAgg cLabel)) (fun _ _ => true) fun a _ => (N.join a.1 a.2, ())
def dMeet : Den := den (aCons (vAgg cLabel) (aOne (vAgg cLabel))) bNil (oV (vAgg cLabel)) (fun _ _ => true) fun a _ => (N.meet a.1 a.2, ())
end Go.Ev
