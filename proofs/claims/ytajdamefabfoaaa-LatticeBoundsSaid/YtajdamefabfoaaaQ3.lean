/- Labels are an order, by their bits: plain lemmas, no condition. -/
import Derived.Test.YtajdamefabfoaaaPL
namespace Go.Ev
open Go

def fits8 (n : Int) : Prop := 0 ≤ n ∧ n < 256
def fits32 (n : Int) : Prop := 0 ≤ n ∧ n < 4294967296
theorem wrap_u32 {n : Int} (h1 : 0 ≤ n) (h2 : n < 4294967296) : IntKind.wrap .u32 n = n := by
  simp only [IntKind.wrap, IntKind.signed, IntKind.bits]
  simp
  omega
abbrev bv (n : Int) : BitVec 32 := BitVec.ofInt 32 n
theorem bv_toNat {n : Int} (h : fits32 n) : ((bv n).toNat : Int) = n := by
  obtain ⟨m, rfl⟩ := Int.eq_ofNat_of_zero_le h.1
  have : m < 4294967296 := by have := h.2; omega
  show (((BitVec.ofInt 32 (m : Int)).toNat : Nat) : Int) = m
  rw [BitVec.ofInt_natCast, BitVec.toNat_ofNat]
  have : m % 2 ^ 32 = m := Nat.mod_eq_of_lt (by omega)
  rw [this]
theorem bv_inj {x y : Int} (hx : fits32 x) (hy : fits32 y) (h : bv x = bv y) : x = y := by
  rw [← bv_toNat hx, ← bv_toNat hy, h]
theorem wrap_bv (b : BitVec 32) : IntKind.wrap .u32 (b.toNat : Int) = b.toNat := wrap_u32 (by omega) (by have := b.isLt; omega)
theorem andNot_bv (x y : Int) : ibits .andNot .u32 x y = ((bv x &&& ~~~ bv y).toNat : Int) := wrap_bv _
theorem and_bv (x y : Int) : ibits .and .u32 x y = ((bv x &&& bv y).toNat : Int) := wrap_bv _
theorem or_bv (x y : Int) : ibits .or .u32 x y = ((bv x ||| bv y).toNat : Int) := wrap_bv _
/-- One set in another. -/
def sub (x y : Int) : Prop := ∀ i : Nat, i < 32 → (bv x).getLsbD i = true → (bv y).getLsbD i = true
theorem andNot_zero (x y : Int) : (ibits .andNot .u32 x y == 0) = true ↔ sub x y := by
  rw [andNot_bv, beq_iff_eq]
  constructor
  · intro h i hi hx
    have h0 : bv x &&& ~~~ bv y = 0#32 := BitVec.eq_of_toNat_eq (by
      have : (bv x &&& ~~~ bv y).toNat = 0 := by omega
      rw [this]; rfl)
    have := congrArg (fun b => BitVec.getLsbD b i) h0
    simp only [BitVec.getLsbD_and, BitVec.getLsbD_not, hx, hi, decide_true, Bool.true_and, BitVec.getLsbD_zero] at this
    simpa using this
  · intro h
    have h0 : bv x &&& ~~~ bv y = 0#32 := by
      apply BitVec.eq_of_getLsbD_eq
      intro i hi
      simp only [BitVec.getLsbD_and, BitVec.getLsbD_not, hi, decide_true, Bool.true_and, BitVec.getLsbD_zero]
      cases hx : (bv x).getLsbD i with
      | false => rfl
      | true => rw [h i hi hx]; rfl
    rw [h0]; rfl
theorem sub_refl (x : Int) : sub x x := fun _ _ h => h
theorem sub_trans {x y z : Int} (h : sub x y) (k : sub y z) : sub x z := fun i hi hx => k i hi (h i hi hx)
theorem sub_antisymm {x y : Int} (hx : fits32 x) (hy : fits32 y) (h : sub x y) (k : sub y x) : x = y := bv_inj hx hy (by
  apply BitVec.eq_of_getLsbD_eq
  intro i hi
  cases h1 : (bv x).getLsbD i with
  | true => exact (h i hi h1).symm
  | false =>
    cases h2 : (bv y).getLsbD i with
    | false => rfl
    | true => rw [k i hi h2] at h1; cases h1)
/-- Under, said plainly. -/
theorem under_iff (a b : Label) : N.under a b = true ↔ a.level ≤ b.level ∧ sub a.set b.set := by
  unfold N.under
  rw [ile_eq]
  by_cases h : a.level ≤ b.level
  · simp only [h, decide_true, cond_true, true_and]; exact andNot_zero _ _
  · simp [h]
def Label.ok (a : Label) : Prop := fits8 a.level ∧ fits32 a.set
theorem under_refl (a : Label) : N.under a a = true := (under_iff a a).2 ⟨Int.le_refl _, sub_refl _⟩
theorem under_trans {a b c : Label} (h : N.under a b = true) (k : N.under b c = true) : N.under a c = true := by
  rw [under_iff] at *
  exact ⟨Int.le_trans h.1 k.1, sub_trans h.2 k.2⟩
theorem under_antisymm {a b : Label} (ha : a.ok) (hb : b.ok) (h : N.under a b = true) (k : N.under b a = true) : a = b := by
  rw [under_iff] at *
  have h1 : a.level = b.level := Int.le_antisymm h.1 k.1
  have h2 := sub_antisymm ha.2 hb.2 h.2 k.2
  cases a; cases b; simp only at h1 h2; rw [h1, h2]
theorem label_wf {a : Label} (h : wfL (cLabel.enc a) = true) : a.ok := by
  have h : cond ((Lit.int .u8 a.level).wf) (cond ((Lit.int .u32 a.set).wf) true false) false = true := h
  obtain ⟨h1, h2⟩ := bcond h
  obtain ⟨h2, _⟩ := bcond h2
  simp only [Lit.wf, IntKind.min, IntKind.max, IntKind.signed, IntKind.bits, Bool.and_eq_true] at h1 h2
  simp at h1 h2
  exact ⟨⟨h1.1, by omega⟩, ⟨h2.1, by omega⟩⟩

namespace N
def eqL (a b : Label) : Bool := a.level == b.level && (a.set == b.set && true)
def orderL (a b c : Label) : Bool :=
  cond (!under a a) false (cond (cond (under a b) (!under b a == eqL a b) (!false == eqL a b)) false (cond (!under a b) true (cond (!under b c) true (under a c))))
end N
theorem eqL_iff (a b : Label) : N.eqL a b = true ↔ a = b := by
  unfold N.eqL
  cases a; cases b; simp
theorem order_true (a b c : Label) (ha : a.ok) (hb : b.ok) : N.orderL a b c = true := by
  unfold N.orderL
  rw [under_refl]
  have key : (cond (N.under a b) (!N.under b a == N.eqL a b) (!false == N.eqL a b)) = false := by
    cases h1 : N.under a b with
    | true =>
      cases h2 : N.under b a with
      | true => rw [(eqL_iff a b).2 (under_antisymm ha hb h1 h2)]; rfl
      | false =>
        have : N.eqL a b = false := by
          rw [Bool.eq_false_iff]; intro e; rw [(eqL_iff a b).1 e, under_refl] at h2; cases h2
        rw [this]; rfl
    | false =>
      have : N.eqL a b = false := by
        rw [Bool.eq_false_iff]; intro e; rw [(eqL_iff a b).1 e, under_refl] at h1; cases h1
      rw [this]; rfl
  rw [key]
  cases h1 : N.under a b with
  | false => rfl
  | true =>
    cases h2 : N.under b c with
    | false => rfl
    | true => rw [under_trans h1 h2]; rfl
/-! ### The document's answer -/
theorem refHas_bv {a : Label} (ha : a.ok) {i : Int} (h0 : 0 ≤ i) (h1 : i < 32) : N.refHas a i = (bv a.set).getLsbD i.toNat := by
  have ht := bv_toNat ha.2
  obtain ⟨k, rfl⟩ := Int.eq_ofNat_of_zero_le h0
  generalize bv a.set = b at *
  have hset : a.set = (b.toNat : Int) := ht.symm
  unfold N.refHas shr
  rw [hset]
  have hk : min ((k : Int).toNat) (IntKind.bits .u32) = k := by simp [IntKind.bits]; omega
  rw [hk]
  have e1 : ((b.toNat : Int).fdiv (2 ^ k)) = ((b.toNat / 2 ^ k : Nat) : Int) := by
    rw [Int.fdiv_eq_ediv_of_nonneg _ (Int.le_of_lt (Int.pow_pos (by decide)))]
    rw [Int.natCast_ediv]
    congr 1
  rw [e1]
  have e2 : Int.tmod ((b.toNat / 2 ^ k : Nat) : Int) 2 = ((b.toNat / 2 ^ k % 2 : Nat) : Int) := by
    rw [Int.tmod_eq_emod_of_nonneg (Int.natCast_nonneg _)]; omega
  rw [e2]
  show (((b.toNat / 2 ^ k % 2 : Nat) : Int) == 1) = b.getLsbD k
  rw [BitVec.getLsbD, Nat.testBit_eq_decide_div_mod_eq]
  by_cases h : b.toNat / 2 ^ k % 2 = 1
  · rw [h]; rfl
  · rw [decide_eq_false h, beq_eq_false_iff_ne]; omega
theorem refLoop_iff {a b : Label} (ha : a.ok) (hb : b.ok) : ∀ (d : Nat) (i : Int), 0 ≤ i → i + d = 32 → (N.refLoop a b d i = true ↔ ∀ j : Nat, i.toNat ≤ j → j < 32 → (bv a.set).getLsbD j = true → (bv b.set).getLsbD j = true)
  | 0, i, h0, h1 => ⟨fun _ j h2 h3 => by omega, fun _ => rfl⟩
  | d + 1, i, h0, h1 => by
    have ih := refLoop_iff ha hb d (i + 1) (by omega) (by omega)
    have e : (i + 1).toNat = i.toNat + 1 := by omega
    have split : (∀ j : Nat, i.toNat ≤ j → j < 32 → (bv a.set).getLsbD j = true → (bv b.set).getLsbD j = true) ↔ ((bv a.set).getLsbD i.toNat = true → (bv b.set).getLsbD i.toNat = true) ∧ ∀ j : Nat, (i + 1).toNat ≤ j → j < 32 → (bv a.set).getLsbD j = true → (bv b.set).getLsbD j = true := by
      constructor
      · exact fun h => ⟨h _ (Nat.le_refl _) (by omega), fun j h2 h3 => h j (by omega) h3⟩
      · rintro ⟨h, k⟩ j h2 h3
        by_cases hj : j = i.toNat
        · rw [hj]; exact h
        · exact k j (by omega) h3
    rw [split]
    unfold N.refLoop
    rw [refHas_bv ha h0 (by omega), refHas_bv hb h0 (by omega)]
    cases (bv a.set).getLsbD i.toNat <;> cases (bv b.set).getLsbD i.toNat <;> simp [ih]
theorem refUnder_eq {a b : Label} (ha : a.ok) (hb : b.ok) : N.refUnder a b = N.under a b := by
  have h1 := under_iff a b
  have h2 := refLoop_iff ha hb 32 0 (by decide) (by decide)
  unfold N.refUnder
  rw [ilt_eq]
  by_cases h : b.level < a.level
  · rw [decide_eq_true h, cond_true]
    symm; rw [Bool.eq_false_iff]
    intro e
    have := (h1.1 e).1
    omega
  · rw [decide_eq_false h, cond_false, Bool.eq_iff_iff, h1, h2]
    constructor
    · exact fun k => ⟨by omega, fun i hi hx => k i (Nat.zero_le _) hi hx⟩
    · exact fun k j _ hj hx => k.2 j hj hx
end Go.Ev
