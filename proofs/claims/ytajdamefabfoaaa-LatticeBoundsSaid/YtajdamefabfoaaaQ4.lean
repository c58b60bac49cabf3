/- Lowest and highest labels, by their bits: plain lemmas, no condition. -/
import Derived.Test.YtajdamefabfoaaaQ3
namespace Go.Ev
open Go

theorem bv_nat (b : BitVec 32) : bv (b.toNat : Int) = b := by
  show BitVec.ofInt 32 (b.toNat : Int) = b
  rw [BitVec.ofInt_natCast]; simp
theorem fits_nat (b : BitVec 32) : fits32 (b.toNat : Int) := ⟨by omega, by have := b.isLt; omega⟩
theorem join_ok {a b : Label} (ha : a.ok) (hb : b.ok) : (N.join a b).ok := by
  refine ⟨?_, ?_⟩
  · show fits8 (bif ilt a.level b.level then b.level else a.level)
    cases ilt a.level b.level
    · exact ha.1
    · exact hb.1
  · show fits32 (ibits .or .u32 a.set b.set)
    rw [or_bv]; exact fits_nat _
theorem meet_ok {a b : Label} (ha : a.ok) (hb : b.ok) : (N.meet a b).ok := by
  refine ⟨?_, ?_⟩
  · show fits8 (bif ilt b.level a.level then b.level else a.level)
    cases ilt b.level a.level
    · exact ha.1
    · exact hb.1
  · show fits32 (ibits .and .u32 a.set b.set)
    rw [and_bv]; exact fits_nat _
theorem join_level (a b : Label) (n : Int) : (N.join a b).level ≤ n ↔ a.level ≤ n ∧ b.level ≤ n := by
  show (bif ilt a.level b.level then b.level else a.level) ≤ n ↔ _
  rw [ilt_eq]
  by_cases h : a.level < b.level
  · rw [decide_eq_true h]; simp only [cond_true]; omega
  · rw [decide_eq_false h]; simp only [cond_false]; omega
theorem meet_level (a b : Label) (n : Int) : n ≤ (N.meet a b).level ↔ n ≤ a.level ∧ n ≤ b.level := by
  show n ≤ (bif ilt b.level a.level then b.level else a.level) ↔ _
  rw [ilt_eq]
  by_cases h : b.level < a.level
  · rw [decide_eq_true h]; simp only [cond_true]; omega
  · rw [decide_eq_false h]; simp only [cond_false]; omega
theorem join_sub (a b : Label) (n : Int) : sub (N.join a b).set n ↔ sub a.set n ∧ sub b.set n := by
  have e : bv (N.join a b).set = bv a.set ||| bv b.set := by
    show bv (ibits .or .u32 a.set b.set) = _
    rw [or_bv, bv_nat]
  unfold sub
  rw [e]
  constructor
  · intro h
    refine ⟨fun i hi hx => h i hi ?_, fun i hi hx => h i hi ?_⟩
    · rw [BitVec.getLsbD_or, hx]; rfl
    · rw [BitVec.getLsbD_or, hx]; simp
  · rintro ⟨h1, h2⟩ i hi hx
    rw [BitVec.getLsbD_or, Bool.or_eq_true] at hx
    exact hx.elim (h1 i hi) (h2 i hi)
theorem meet_sub (a b : Label) (n : Int) : sub n (N.meet a b).set ↔ sub n a.set ∧ sub n b.set := by
  have e : bv (N.meet a b).set = bv a.set &&& bv b.set := by
    show bv (ibits .and .u32 a.set b.set) = _
    rw [and_bv, bv_nat]
  unfold sub
  rw [e]
  constructor
  · intro h
    refine ⟨fun i hi hx => ?_, fun i hi hx => ?_⟩
    · have := h i hi hx; rw [BitVec.getLsbD_and, Bool.and_eq_true] at this; exact this.1
    · have := h i hi hx; rw [BitVec.getLsbD_and, Bool.and_eq_true] at this; exact this.2
  · rintro ⟨h1, h2⟩ i hi hx
    rw [BitVec.getLsbD_and, h1 i hi hx, h2 i hi hx]; rfl
theorem under_join (a b c : Label) : N.under (N.join a b) c = cond (N.under a c) (N.under b c) false := by
  rw [Bool.eq_iff_iff, under_iff, join_level, join_sub]
  have h1 := under_iff a c
  have h2 := under_iff b c
  cases e1 : N.under a c <;> cases e2 : N.under b c <;> rw [e1] at h1 <;> rw [e2] at h2 <;> simp only [cond_true, cond_false] <;> simp at h1 h2 ⊢ <;> simp_all
theorem under_meet (a b c : Label) : N.under c (N.meet a b) = cond (N.under c a) (N.under c b) false := by
  rw [Bool.eq_iff_iff, under_iff, meet_level, meet_sub]
  have h1 := under_iff c a
  have h2 := under_iff c b
  cases e1 : N.under c a <;> cases e2 : N.under c b <;> rw [e1] at h1 <;> rw [e2] at h2 <;> simp only [cond_true, cond_false] <;> simp at h1 h2 ⊢ <;> simp_all
theorem under_eq {a b : Label} (ha : a.ok) (hb : b.ok) (h : ∀ c, N.under a c = N.under b c) : a = b :=
  under_antisymm ha hb ((h b).trans (under_refl b)) ((h a).symm.trans (under_refl a))
theorem under_eq' {a b : Label} (ha : a.ok) (hb : b.ok) (h : ∀ c, N.under c a = N.under c b) : a = b :=
  under_antisymm ha hb ((h a).symm.trans (under_refl a)) ((h b).trans (under_refl b))
theorem join_comm {a b : Label} (ha : a.ok) (hb : b.ok) : N.join a b = N.join b a :=
  under_eq (join_ok ha hb) (join_ok hb ha) fun c => by rw [under_join, under_join]; cases N.under a c <;> cases N.under b c <;> rfl
theorem meet_comm {a b : Label} (ha : a.ok) (hb : b.ok) : N.meet a b = N.meet b a :=
  under_eq' (meet_ok ha hb) (meet_ok hb ha) fun c => by rw [under_meet, under_meet]; cases N.under c a <;> cases N.under c b <;> rfl
theorem join_up (a b : Label) : N.under a (N.join a b) = true := by
  have := under_join a b (N.join a b)
  rw [under_refl] at this
  cases h : N.under a (N.join a b) with
  | true => rfl
  | false => rw [h] at this; cases this
theorem meet_down (a b : Label) : N.under (N.meet a b) a = true := by
  have := under_meet a b (N.meet a b)
  rw [under_refl] at this
  cases h : N.under (N.meet a b) a with
  | true => rfl
  | false => rw [h] at this; cases this
theorem join_meet {a b : Label} (ha : a.ok) (hb : b.ok) : N.join a (N.meet a b) = a :=
  under_antisymm (join_ok ha (meet_ok ha hb)) ha (by rw [under_join, under_refl, meet_down]; rfl) (join_up _ _)
theorem meet_join {a b : Label} (ha : a.ok) (hb : b.ok) : N.meet a (N.join a b) = a :=
  under_antisymm (meet_ok ha (join_ok ha hb)) ha (meet_down _ _) (by rw [under_meet, under_refl, join_up]; rfl)
namespace N
def boundsL (a b c : Label) : Bool :=
  cond (cond (under a c) (!under (join a b) c == under b c) (!under (join a b) c == false)) false
    (cond (cond (under c a) (!under c (meet a b) == under c b) (!under c (meet a b) == false)) false
      (cond (under a (join a b)) (cond (under (meet a b) a) (cond (eqL (join a b) (join b a)) (cond (eqL (meet a b) (meet b a)) (cond (eqL (join a (meet a b)) a) (eqL (meet a (join a b)) a) false) false) false) false) false))
end N
theorem bounds_true (a b c : Label) (ha : a.ok) (hb : b.ok) : N.boundsL a b c = true := by
  unfold N.boundsL
  rw [under_join, under_meet, join_up, meet_down, (eqL_iff _ _).2 (join_comm ha hb), (eqL_iff _ _).2 (meet_comm ha hb), (eqL_iff _ _).2 (join_meet ha hb), (eqL_iff _ _).2 (meet_join ha hb)]
  cases N.under a c <;> cases N.under b c <;> cases N.under c a <;> cases N.under c b <;> rfl
end Go.Ev
