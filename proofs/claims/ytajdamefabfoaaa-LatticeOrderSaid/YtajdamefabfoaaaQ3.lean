/- Labels are an order, by their bits: plain lemmas, no condition. -/
import Derived.Test.YtajdamefabfoaaaPL
namespace Go.Ev
open Go

def fits8 (n : Int) : Prop := 0 ≤ n ∧ n < 256
def fits32 (n : Int) : Prop := 0 ≤ n ∧ n < 4294967296
theorem wrap_u32 {n : Int} (h1 : 0 ≤ n) (h2 : n < 4294967296) : IntKind.wrap .u32 n = n := by
  simp only [IntKind.wrap, IntKind.signed, IntKind.bits]
  simp
  omega
abbrev bv (n : Int) : BitVec 32 := BitVec.ofInt 32 n
theorem bv_toNat {n : Int} (h : fits32 n) : ((bv n).toNat : Int) = n := by
  obtain ⟨m, rfl⟩ := Int.eq_ofNat_of_zero_le h.1
  have : m < 4294967296 := by have := h.2; omega
  show (((BitVec.ofInt 32 (m : Int)).toNat : Nat) : Int) = m
  rw [BitVec.ofInt_natCast, BitVec.toNat_ofNat]
  have : m % 2 ^ 32 = m := Nat.mod_eq_of_lt (by omega)
  rw [this]
theorem bv_inj {x y : Int} (hx : fits32 x) (hy : fits32 y) (h : bv x = bv y) : x = y := by
  rw [← bv_toNat hx, ← bv_toNat hy, h]
theorem wrap_bv (b : BitVec 32) : IntKind.wrap .u32 (b.toNat : Int) = b.toNat := wrap_u32 (by omega) (by have := b.isLt; omega)
theorem andNot_bv (x y : Int) : ibits .andNot .u32 x y = ((bv x &&& ~~~ bv y).toNat : Int) := wrap_bv _
theorem and_bv (x y : Int) : ibits .and .u32 x y = ((bv x &&& bv y).toNat : Int) := wrap_bv _
theorem or_bv (x y : Int) : ibits .or .u32 x y = ((bv x ||| bv y).toNat : Int) := wrap_bv _
/-- One set in another. -/
def sub (x y : Int) : Prop := ∀ i : Nat, i < 32 → (bv x).getLsbD i = true → (bv y).getLsbD i = true
theorem andNot_zero (x y : Int) : (ibits .andNot .u32 x y == 0) = true ↔ sub x y := by
  rw [andNot_bv, beq_iff_eq]
  constructor
  · intro h i hi hx
    have h0 : bv x &&& ~~~ bv y = 0#32 := BitVec.eq_of_toNat_eq (by
      have : (bv x &&& ~~~ bv y).toNat = 0 := by omega
      rw [this]; rfl)
    have := congrArg (fun b => BitVec.getLsbD b i) h0
    simp only [BitVec.getLsbD_and, BitVec.getLsbD_not, hx, hi, decide_true, Bool.true_and, BitVec.getLsbD_zero] at this
    simpa using this
  · intro h
    have h0 : bv x &&& ~~~ bv y = 0#32 := by
      apply BitVec.eq_of_getLsbD_eq
      intro i hi
      simp only [BitVec.getLsbD_and, BitVec.getLsbD_not, hi, decide_true, Bool.true_and, BitVec.getLsbD_zero]
      cases hx : (bv x).getLsbD i with
      | false => rfl
      | true => rw [h i hi hx]; rfl
    rw [h0]; rfl
theorem sub_refl (x : Int) : sub x x := fun _ _ h => h
theorem sub_trans {x y z : Int} (h : sub x y) (k : sub y z) : sub x z := fun i hi hx => k i hi (h i hi hx)
theorem sub_antisymm {x y : Int} (hx : fits32 x) (hy : fits32 y) (h : sub x y) (k : sub y x) : x = y := bv_inj hx hy (by
  apply BitVec.eq_of_getLsbD_eq
  intro i hi
  cases h1 : (bv x).getLsbD i with
  | true => exact (h i hi h1).symm
  | false =>
    cases h2 : (bv y).getLsbD i with
    | false => rfl
    | true => rw [k i hi h2] at h1; cases h1)
/-- Under, said plainly. -/
theorem under_iff (a b : Label) : N.under a b = true ↔ a.level ≤ b.level ∧ sub a.set b.set := by
  unfold N.under
  rw [ile_eq]
  by_cases h : a.level ≤ b.level
  · simp only [h, decide_true, cond_true, true_and]; exact andNot_zero _ _
  · simp [h]
def Label.ok (a : Label) : Prop := fits8 a.level ∧ fits32 a.set
theorem under_refl (a : Label) : N.under a a = true := (under_iff a a).2 ⟨Int.le_refl _, sub_refl _⟩
theorem under_trans {a b c : Label} (h : N.under a b = true) (k : N.under b c = true) : N.under a c = true := by
  rw [under_iff] at *
  exact ⟨Int.le_trans h.1 k.1, sub_trans h.2 k.2⟩
theorem under_antisymm {a b : Label} (ha : a.ok) (hb : b.ok) (h : N.under a b = true) (k : N.under b a = true) : a = b := by
  rw [under_iff] at *
  have h1 : a.level = b.level := Int.le_antisymm h.1 k.1
  have h2 := sub_antisymm ha.2 hb.2 h.2 k.2
  cases a; cases b; simp only at h1 h2; rw [h1, h2]
theorem label_wf {a : Label} (h : wfL (cLabel.enc a) = true) : a.ok := by
  have h : cond ((Lit.int .u8 a.level).wf) (cond ((Lit.int .u32 a.set).wf) true false) false = true := h
  obtain ⟨h1, h2⟩ := bcond h
  obtain ⟨h2, _⟩ := bcond h2
  simp only [Lit.wf, IntKind.min, IntKind.max, IntKind.signed, IntKind.bits, Bool.and_eq_true, decide_eq_true_eq] at h1 h2
  simp at h1 h2
  exact ⟨⟨h1.1, by omega⟩, ⟨h2.1, by omega⟩⟩

namespace N
def eqL (a b : Label) : Bool := a.level == b.level && (a.set == b.set && true)
def orderL (a b c : Label) : Bool :=
  cond (!under a a) false (cond (cond (under a b) (!under b a == eqL a b) (!false == eqL a b)) false (cond (!under a b) true (cond (!under b c) true (under a c))))
end N
theorem eqL_iff (a b : Label) : N.eqL a b = true ↔ a = b := by
  unfold N.eqL
  cases a; cases b; simp
theorem order_true (a b c : Label) (ha : a.ok) (hb : b.ok) : N.orderL a b c = true := by
  unfold N.orderL
  rw [under_refl]
  have key : (cond (N.under a b) (!N.under b a == N.eqL a b) (!false == N.eqL a b)) = false := by
    cases h1 : N.under a b with
    | true =>
      cases h2 : N.under b a with
      | true => rw [(eqL_iff a b).2 (under_antisymm ha hb h1 h2)]; rfl
      | false =>
        have : N.eqL a b = false := by
          rw [Bool.eq_false_iff]; intro e; rw [(eqL_iff a b).1 e, under_refl] at h2; cases h2
        rw [this]; rfl
    | false =>
      have : N.eqL a b = false := by
        rw [Bool.eq_false_iff]; intro e; rw [(eqL_iff a b).1 e, under_refl] at h1; cases h1
      rw [this]; rfl
  rw [key]
  cases h1 : N.under a b with
  | false => rfl
  | true =>
    cases h2 : N.under b c with
    | false => rfl
    | true => rw [under_trans h1 h2]; rfl
end Go.Ev
