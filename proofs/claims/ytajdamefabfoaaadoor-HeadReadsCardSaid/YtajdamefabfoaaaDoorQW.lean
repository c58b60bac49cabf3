/- How a key matches a pattern: what the program reckons is what the document says: plain lemmas, no condition. -/
import Derived.Test.YtajdamefabfoaaaDoorPW
namespace Go.Ev
open Go
abbrev hash : Bytes := [35]
abbrev star : Bytes := [42]
/-- A pattern's words stand for a key's. -/
inductive M : List Bytes → List Bytes → Prop
  | nil : M [] []
  | skip {p k : List Bytes} : M p k → M (hash :: p) k
  | eat {p k : List Bytes} {x : Bytes} : M (hash :: p) k → M (hash :: p) (x :: k)
  | one {w x : Bytes} {p k : List Bytes} : w ≠ hash → (w = star ∨ w = x) → M p k → M (w :: p) (x :: k)
theorem M_nil {k : List Bytes} : M [] k ↔ k = [] := ⟨fun h => by cases h; rfl, fun h => by subst h; exact .nil⟩
theorem M_one {w : Bytes} {p k : List Bytes} (hw : w ≠ hash) : M (w :: p) k ↔ ∃ x k', k = x :: k' ∧ (w = star ∨ w = x) ∧ M p k' := by
  constructor
  · intro h
    cases h with
    | skip => exact absurd rfl hw
    | eat => exact absurd rfl hw
    | one _ h1 h2 => exact ⟨_, _, rfl, h1, h2⟩
  · rintro ⟨x, k', rfl, h1, h2⟩; exact .one hw h1 h2
theorem M_hash {p k : List Bytes} : M (hash :: p) k ↔ M p k ∨ ∃ x k', k = x :: k' ∧ M (hash :: p) k' := by
  constructor
  · intro h
    cases h with
    | skip h => exact .inl h
    | eat h => exact .inr ⟨_, _, rfl, h⟩
    | one h => exact absurd rfl h
  · rintro (h | ⟨x, k', rfl, h⟩)
    · exact .skip h
    · exact .eat h
theorem M_hash_drop {p : List Bytes} : ∀ {k : List Bytes}, M (hash :: p) k ↔ ∃ n, n ≤ k.length ∧ M p (k.drop n)
  | [] => by
    rw [M_hash]
    constructor
    · rintro (h | ⟨_, _, h, _⟩)
      · exact ⟨0, Nat.le_refl _, h⟩
      · cases h
    · rintro ⟨n, _, h⟩; exact .inl (by simpa using h)
  | x :: k => by
    rw [M_hash]
    constructor
    · rintro (h | ⟨y, k', e, h⟩)
      · exact ⟨0, Nat.zero_le _, h⟩
      · cases e
        obtain ⟨n, h1, h2⟩ := M_hash_drop.1 h
        exact ⟨n + 1, by simpa using h1, h2⟩
    · rintro ⟨n, h1, h2⟩
      cases n with
      | zero => exact .inl h2
      | succ n => exact .inr ⟨x, k, rfl, M_hash_drop.2 ⟨n, by simpa using h1, h2⟩⟩
theorem M_append {p' : List Bytes} : ∀ {p k : List Bytes}, M (p ++ p') k ↔ ∃ n, n ≤ k.length ∧ M p (k.take n) ∧ M p' (k.drop n)
  | [], k => by
    constructor
    · intro h; exact ⟨0, Nat.zero_le _, .nil, h⟩
    · rintro ⟨n, h1, h2, h3⟩
      have h2 := M_nil.1 h2
      have : (k.take n).length = 0 := by rw [h2]; rfl
      have : n = 0 := by rw [List.length_take] at this; omega
      subst this; exact h3
  | w :: p, k => by
    by_cases hw : w = hash
    · subst hw
      rw [List.cons_append, M_hash_drop]
      constructor
      · rintro ⟨n, h1, h2⟩
        obtain ⟨m, g1, g2, g3⟩ := M_append.1 h2
        refine ⟨n + m, ?_, M_hash_drop.2 ⟨n, ?_, ?_⟩, ?_⟩
        · rw [List.length_drop] at g1; omega
        · rw [List.length_take]; rw [List.length_drop] at g1; omega
        · rw [List.drop_take, show n + m - n = m by omega]; exact g2
        · rw [← List.drop_drop]; exact g3
      · rintro ⟨n, h1, h2, h3⟩
        obtain ⟨m, g1, g2⟩ := M_hash_drop.1 h2
        rw [List.length_take] at g1
        refine ⟨m, by omega, M_append.2 ⟨n - m, by rw [List.length_drop]; omega, ?_, ?_⟩⟩
        · rw [List.drop_take] at g2; exact g2
        · rw [List.drop_drop, show m + (n - m) = n by omega]; exact h3
    · rw [List.cons_append, M_one hw]
      constructor
      · rintro ⟨x, k', rfl, h1, h2⟩
        obtain ⟨m, g1, g2, g3⟩ := M_append.1 h2
        exact ⟨m + 1, by simpa using g1, .one hw h1 g2, g3⟩
      · rintro ⟨n, h1, h2, h3⟩
        obtain ⟨x, k', e, g1, g2⟩ := (M_one hw).1 h2
        cases k with
        | nil => simp at e
        | cons y k =>
          cases n with
          | zero => cases e
          | succ n =>
            rw [List.take_succ_cons] at e
            cases e
            exact ⟨_, _, rfl, g1, M_append.2 ⟨n, by simpa using h1, g2, h3⟩⟩

/-! ### The document's answer -/
def want (w : Bytes) (k : List Bytes) (may : List Bool) (j : Nat) : Prop :=
  if w = hash then ∃ i, i ≤ j ∧ may.getD i false = true else 0 < j ∧ may.getD (j - 1) false = true ∧ (w = star ∨ w = k.getD (j - 1) [])
theorem refRow_ok (w : Bytes) (k : List Bytes) (may : List Bool) : ∀ (f j : Nat) (nxt : List Bool), nxt.length = j + f → (∀ i, i < j → (nxt.getD i false = true ↔ want w k may i)) → (∀ i, j ≤ i → nxt.getD i false = false) →
    (N.refRow w k may f j nxt).length = j + f ∧ ∀ i, i < j + f → ((N.refRow w k may f j nxt).getD i false = true ↔ want w k may i)
  | 0, j, nxt, hl, h, _ => ⟨hl, h⟩
  | f + 1, j, nxt, hl, h, hz => by
    have hset : ∀ i, (nxt.set j (N.refVal w k may nxt j)).getD i false = if i = j then N.refVal w k may nxt j else nxt.getD i false := fun i => by
      simp only [List.getD_eq_getElem?_getD, List.getElem?_set]
      by_cases e : j = i
      · subst e; rw [if_pos rfl, if_pos rfl, if_pos (by omega)]; rfl
      · rw [if_neg e, if_neg (Ne.symm e)]
    have hv : N.refVal w k may nxt j = true ↔ want w k may j := by
      unfold N.refVal want
      by_cases hw : w = hash
      · rw [if_pos hw, show (w == [35]) = true from beq_iff_eq.2 hw]
        simp only [cond_true]
        cases hm : may.getD j false with
        | true => simp only [cond_true, true_iff]; exact ⟨j, Nat.le_refl _, hm⟩
        | false =>
          simp only [cond_false]
          cases j with
          | zero =>
            simp only [Nat.blt, Nat.ble, cond_false, reduceCtorEq, false_iff]
            rintro ⟨i, h1, h2⟩
            have : i = 0 := by omega
            subst this; rw [hm] at h2; cases h2
          | succ j =>
            rw [show Nat.blt 0 (j + 1) = true from rfl, cond_true, Nat.add_sub_cancel, h j (by omega)]
            unfold want
            rw [if_pos hw]
            constructor
            · rintro ⟨i, h1, h2⟩; exact ⟨i, by omega, h2⟩
            · rintro ⟨i, h1, h2⟩
              by_cases e : i = j + 1
              · subst e; rw [hm] at h2; cases h2
              · exact ⟨i, by omega, h2⟩
      · rw [if_neg hw, show (w == [35]) = false from by rw [beq_eq_false_iff_ne]; exact hw]
        simp only [cond_false]
        cases j with
        | zero =>
          rw [show Nat.blt 0 0 = false from rfl, cond_false, hz 0 (Nat.le_refl _)]
          simp
        | succ j =>
          rw [show Nat.blt 0 (j + 1) = true from rfl, cond_true, Nat.add_sub_cancel]
          cases hm : may.getD j false with
          | false => simp
          | true =>
            simp only [cond_true, Nat.zero_lt_succ, true_and]
            by_cases hs : w = star
            · rw [show (w == [42]) = true from beq_iff_eq.2 hs]; simp [hs]
            · rw [show (w == [42]) = false from by rw [beq_eq_false_iff_ne]; exact hs]
              simp [hs]
    obtain ⟨g1, g2⟩ := refRow_ok w k may f (j + 1) (nxt.set j (N.refVal w k may nxt j)) (by rw [List.length_set]; omega) (fun i hi => by
      rw [hset]
      by_cases e : i = j
      · subst e; rw [if_pos rfl]; exact hv
      · rw [if_neg e]; exact h i (by omega)) (fun i hi => by rw [hset, if_neg (by omega)]; exact hz i (by omega))
    refine ⟨?_, fun i hi => ?_⟩
    · show (N.refRow w k may f (j + 1) (nxt.set j (N.refVal w k may nxt j))).length = _
      omega
    · exact g2 i (by omega)
def RowM (p k : List Bytes) (may : List Bool) : Prop := may.length = k.length + 1 ∧ ∀ j, j ≤ k.length → (may.getD j false = true ↔ M p (k.take j))
theorem rowOk_next {p k : List Bytes} {may : List Bool} (h : RowM p k may) (w : Bytes) : RowM (p ++ [w]) k (N.refRow w k may (k.length + 1) 0 (List.replicate (k.length + 1) false)) := by
  obtain ⟨g1, g2⟩ := refRow_ok w k may (k.length + 1) 0 (List.replicate (k.length + 1) false) (by simp) (fun i hi => by omega) (fun i _ => by
    simp only [List.getD_eq_getElem?_getD, List.getElem?_replicate]; split <;> rfl)
  refine ⟨by omega, fun j hj => ?_⟩
  rw [g2 j (by omega), M_append]
  unfold want
  by_cases hw : w = hash
  · subst hw
    rw [if_pos rfl]
    constructor
    · rintro ⟨i, h1, h2⟩
      refine ⟨i, by rw [List.length_take]; omega, ?_, M_hash_drop.2 ⟨((k.take j).drop i).length, Nat.le_refl _, by rw [List.drop_length]; exact .nil⟩⟩
      rw [List.take_take, Nat.min_eq_left h1]; exact (h.2 i (by omega)).1 h2
    · rintro ⟨n, h1, h2, _⟩
      rw [List.length_take] at h1
      refine ⟨n, by omega, (h.2 n (by omega)).2 ?_⟩
      rw [List.take_take, Nat.min_eq_left (by omega)] at h2; exact h2
  · rw [if_neg hw]
    constructor
    · rintro ⟨h1, h2, h3⟩
      have hlt : j - 1 < k.length := by omega
      refine ⟨j - 1, by rw [List.length_take]; omega, ?_, (M_one hw).2 ⟨k.getD (j - 1) [], [], ?_, h3, .nil⟩⟩
      · rw [List.take_take, Nat.min_eq_left (by omega)]; exact (h.2 (j - 1) (by omega)).1 h2
      · rw [List.drop_take, show j - (j - 1) = 1 by omega, List.drop_eq_getElem_cons hlt, List.take_succ_cons, List.take_zero, List.getD_eq_getElem?_getD, List.getElem?_eq_getElem hlt]; rfl
    · rintro ⟨n, h1, h2, h3⟩
      rw [List.length_take] at h1
      obtain ⟨x, k', e, g3, g4⟩ := (M_one hw).1 h3
      have := M_nil.1 g4
      subst this
      have hl := congrArg List.length e
      rw [List.length_drop, List.length_take] at hl
      simp only [List.length_cons, List.length_nil] at hl
      have hn : n = j - 1 := by omega
      subst hn
      have hlt : j - 1 < k.length := by omega
      rw [List.drop_take, show j - (j - 1) = 1 by omega, List.drop_eq_getElem_cons hlt, List.take_succ_cons, List.take_zero] at e
      cases e
      refine ⟨by omega, (h.2 (j - 1) (by omega)).2 ?_, ?_⟩
      · rw [List.take_take, Nat.min_eq_left (by omega)] at h2; exact h2
      · rw [List.getD_eq_getElem?_getD, List.getElem?_eq_getElem hlt]; exact g3
theorem refRows_ok (k : List Bytes) : ∀ (p q : List Bytes) (may : List Bool), RowM q k may → RowM (q ++ p) k (N.refRows k p may)
  | [], q, may, h => by rw [List.append_nil]; exact h
  | w :: p, q, may, h => by
    have := refRows_ok k p (q ++ [w]) _ (rowOk_next h w)
    rw [List.append_assoc] at this
    exact this
theorem refMatches_iff (p k : List Bytes) : N.refMatches p k = true ↔ M p k := by
  have h0 : RowM [] k ((List.replicate (k.length + 1) false).set 0 true) := by
    refine ⟨by simp, fun j hj => ?_⟩
    rw [M_nil]
    cases j with
    | zero => simp [List.replicate_succ]
    | succ j =>
      have hk : k.take (j + 1) ≠ [] := fun e => by
        have := congrArg List.length e
        rw [List.length_take, List.length_nil] at this; omega
      simp only [hk, iff_false]
      rw [List.replicate_succ, List.set_cons_zero, List.getD_cons_succ, List.getD_eq_getElem?_getD, List.getElem?_replicate]
      split <;> simp
  have := (refRows_ok k p [] _ h0).2 k.length (Nat.le_refl _)
  rw [List.take_length] at this
  exact this

/-! ### The program's way -/
section
variable {p k : List Bytes}
/-- From places on. -/
def Mx (p k : List Bytes) (i j : Nat) : Prop := M (p.drop i) (k.drop j)
theorem getD_at {l : List Bytes} {i : Nat} (h : i < l.length) : l.drop i = l.getD i [] :: l.drop (i + 1) := by
  rw [List.drop_eq_getElem_cons h, List.getD_eq_getElem?_getD, List.getElem?_eq_getElem h]; rfl
theorem Mx_hash {i j : Nat} (hi : i < p.length) (hh : p.getD i [] = hash) (hj : j ≤ k.length) : Mx p k i j ↔ ∃ t, j ≤ t ∧ t ≤ k.length ∧ Mx p k (i + 1) t := by
  unfold Mx
  rw [getD_at hi, hh, M_hash_drop]
  constructor
  · rintro ⟨n, h1, h2⟩
    rw [List.length_drop] at h1
    rw [List.drop_drop] at h2
    exact ⟨j + n, by omega, by omega, h2⟩
  · rintro ⟨t, h1, h2, h3⟩
    refine ⟨t - j, by rw [List.length_drop]; omega, ?_⟩
    rw [List.drop_drop, show j + (t - j) = t by omega]; exact h3
theorem Mx_one {i j : Nat} (hi : i < p.length) (hh : p.getD i [] ≠ hash) : Mx p k i j ↔ j < k.length ∧ (p.getD i [] = star ∨ p.getD i [] = k.getD j []) ∧ Mx p k (i + 1) (j + 1) := by
  unfold Mx
  rw [getD_at hi, M_one hh]
  constructor
  · rintro ⟨x, k', e, h1, h2⟩
    have hj : j < k.length := by
      have := congrArg List.length e
      rw [List.length_drop] at this; simp at this; omega
    rw [getD_at hj] at e
    cases e
    exact ⟨hj, h1, h2⟩
  · rintro ⟨hj, h1, h2⟩
    exact ⟨_, _, getD_at hj, h1, h2⟩
theorem Mx_end {j : Nat} (hj : j ≤ k.length) : Mx p k p.length j ↔ j = k.length := by
  unfold Mx
  rw [List.drop_length, M_nil, List.drop_eq_nil_iff]; omega
theorem Mx_mono {i j j' : Nat} (hi : i < p.length) (hh : p.getD i [] = hash) (h1 : j ≤ j') (h2 : j' ≤ k.length) (h : Mx p k i j') : Mx p k i j := by
  rw [Mx_hash hi hh (by omega)] at *
  obtain ⟨t, g1, g2, g3⟩ := h
  exact ⟨t, by omega, g2, g3⟩
theorem Mx_far : ∀ (d b t : Nat), b + d ≤ p.length → (∀ x, b ≤ x → x < b + d → p.getD x [] ≠ hash) → t ≤ k.length → Mx p k b t → t + d ≤ k.length ∧ Mx p k (b + d) (t + d)
  | 0, b, t, _, _, ht, h => ⟨ht, h⟩
  | d + 1, b, t, hb, hn, ht, h => by
    obtain ⟨h1, _, h3⟩ := (Mx_one (by omega) (hn b (Nat.le_refl _) (by omega))).1 h
    obtain ⟨g1, g2⟩ := Mx_far d (b + 1) (t + 1) (by omega) (fun x hx hx2 => hn x (by omega) (by omega)) (by omega) h3
    exact ⟨by omega, by rw [show b + (d + 1) = b + 1 + d by omega, show t + (d + 1) = t + 1 + d by omega]; exact g2⟩

/-- What stands in the program's loop. -/
structure GoInv (p k : List Bytes) (i j b fr : Int) : Prop where
  i0 : 0 ≤ i
  i1 : i ≤ p.length
  j0 : 0 ≤ j
  j1 : j ≤ k.length
  bk : b = -1 ∧ fr = 0 ∨ 0 ≤ b ∧ b ≤ i ∧ 0 ≤ fr ∧ i - b = j - fr ∧ ∀ x : Nat, b ≤ x → (x : Int) < i → p.getD x [] ≠ hash
def goMeas (p k : List Bytes) (i fr : Int) : Nat := (k.length + 1 - fr.toNat) * (p.length + 1) + (p.length - i.toNat)
def Said (p k : List Bytes) (i j b fr : Int) : Prop := Mx p k i.toNat j.toNat ∨ (0 ≤ b ∧ ∃ t, fr.toNat < t ∧ t ≤ k.length ∧ Mx p k b.toNat t)
theorem goOn_step (f : Nat) {i j b fr : Int} (h : GoInv p k i j b fr) (hj : ilt j k.length = true) :
    (cond (ilt i p.length) (p.getD i.toNat [] == [35]) false = true → GoInv p k (i + 1) j (i + 1) j ∧ goMeas p k (i + 1) j < goMeas p k i fr ∧ (Said p k (i + 1) j (i + 1) j ↔ Said p k i j b fr)) ∧
    (cond (ilt i p.length) (p.getD i.toNat [] == [35]) false = false → cond (ilt i p.length) (cond (p.getD i.toNat [] == [42]) true (p.getD i.toNat [] == k.getD j.toNat [])) false = true →
      GoInv p k (i + 1) (j + 1) b fr ∧ goMeas p k (i + 1) fr < goMeas p k i fr ∧ (Said p k (i + 1) (j + 1) b fr ↔ Said p k i j b fr)) ∧
    (cond (ilt i p.length) (p.getD i.toNat [] == [35]) false = false → cond (ilt i p.length) (cond (p.getD i.toNat [] == [42]) true (p.getD i.toNat [] == k.getD j.toNat [])) false = false →
      (ile 0 b = true → GoInv p k b (fr + 1) b (fr + 1) ∧ goMeas p k b (fr + 1) < goMeas p k i fr ∧ (Said p k b (fr + 1) b (fr + 1) ↔ Said p k i j b fr)) ∧ (ile 0 b = false → ¬ Said p k i j b fr)) := by
  obtain ⟨i0, i1, j0, j1, bk⟩ := h
  rw [ilt_eq] at hj
  have hj := of_decide_eq_true hj
  have hfr : 0 ≤ fr ∧ fr ≤ j := by omega
  refine ⟨fun hc => ?_, fun hc hm => ?_, fun hc hm => ?_⟩
  · have hi : i < p.length := by
      rw [ilt_eq] at hc
      by_cases e : i < p.length
      · exact e
      · rw [decide_eq_false e] at hc; cases hc
    rw [ilt_eq, decide_eq_true hi, cond_true] at hc
    have hh : p.getD i.toNat [] = hash := by simpa using hc
    refine ⟨⟨by omega, by omega, j0, j1, .inr ⟨by omega, by omega, j0, by omega, fun x h1 h2 => by omega⟩⟩, ?_, ?_⟩
    · unfold goMeas
      have : (k.length + 1 - j.toNat) * (p.length + 1) ≤ (k.length + 1 - fr.toNat) * (p.length + 1) := Nat.mul_le_mul_right _ (by omega)
      omega
    · have e1 : (i + 1).toNat = i.toNat + 1 := by omega
      have hi' : i.toNat < p.length := by omega
      have hj' : j.toNat ≤ k.length := by omega
      unfold Said
      rw [e1]
      constructor
      · intro h
        refine .inl ((Mx_hash hi' hh hj').2 ?_)
        rcases h with h | ⟨_, t, h1, h2, h3⟩
        · exact ⟨j.toNat, Nat.le_refl _, by omega, h⟩
        · exact ⟨t, by omega, h2, h3⟩
      · intro h
        have : Mx p k i.toNat j.toNat := by
          rcases h with h | ⟨hb, t, h1, h2, h3⟩
          · exact h
          · rcases bk with ⟨e, _⟩ | ⟨c0, c1, c2, c3, c4⟩
            · omega
            · obtain ⟨g1, g2⟩ := Mx_far (i.toNat - b.toNat) b.toNat t (by omega) (fun x hx hx2 => c4 x (by omega) (by omega)) h2 h3
              rw [show b.toNat + (i.toNat - b.toNat) = i.toNat by omega] at g2
              exact Mx_mono (by omega) hh (by omega) g1 g2
        obtain ⟨t, g1, g2, g3⟩ := (Mx_hash hi' hh hj').1 this
        by_cases e : t = j.toNat
        · subst e; exact .inl g3
        · exact .inr ⟨by omega, t, by omega, g2, g3⟩
  · have hi : i < p.length := by
      rw [ilt_eq] at hm
      by_cases e : i < p.length
      · exact e
      · rw [decide_eq_false e] at hm; cases hm
    rw [ilt_eq, decide_eq_true hi, cond_true] at hc hm
    have hh : p.getD i.toNat [] ≠ hash := by simpa using hc
    have hw : p.getD i.toNat [] = star ∨ p.getD i.toNat [] = k.getD j.toNat [] := by
      cases e : (p.getD i.toNat [] == [42]) with
      | true => exact .inl (by simpa using e)
      | false => rw [e, cond_false] at hm; exact .inr (by simpa using hm)
    refine ⟨⟨by omega, by omega, by omega, by omega, ?_⟩, ?_, ?_⟩
    · rcases bk with h | ⟨c0, c1, c2, c3, c4⟩
      · exact .inl h
      · refine .inr ⟨c0, by omega, c2, by omega, fun x h1 h2 => ?_⟩
        by_cases e : (x : Int) = i
        · rw [show x = i.toNat by omega]; exact hh
        · exact c4 x h1 (by omega)
    · unfold goMeas; omega
    · unfold Said
      rw [show (i + 1).toNat = i.toNat + 1 by omega, show (j + 1).toNat = j.toNat + 1 by omega]
      rw [Mx_one (i := i.toNat) (j := j.toNat) (by omega) hh]
      have : j.toNat < k.length := by omega
      simp only [this, hw, true_and]
  · have hno : ¬ Mx p k i.toNat j.toNat := by
      by_cases hi : i < p.length
      · rw [ilt_eq, decide_eq_true hi, cond_true] at hc hm
        have hh : p.getD i.toNat [] ≠ hash := by simpa using hc
        rw [Mx_one (by omega) hh]
        rintro ⟨_, h, _⟩
        rcases h with h | h
        · rw [h] at hm; cases hm
        · have : (p.getD i.toNat [] == k.getD j.toNat []) = true := by simpa using h
          rw [this] at hm
          cases e : (p.getD i.toNat [] == [42]) <;> rw [e] at hm <;> cases hm
      · rw [show i.toNat = p.length by omega, Mx_end (by omega)]; omega
    refine ⟨fun hb => ?_, fun hb => ?_⟩
    · rw [ile_eq] at hb
      have hb := of_decide_eq_true hb
      rcases bk with ⟨e, _⟩ | ⟨c0, c1, c2, c3, c4⟩
      · omega
      · refine ⟨⟨c0, by omega, by omega, by omega, .inr ⟨c0, Int.le_refl _, by omega, by omega, fun x h1 h2 => by omega⟩⟩, ?_, ?_⟩
        · unfold goMeas
          have e : k.length + 1 - fr.toNat = (k.length + 1 - (fr + 1).toNat) + 1 := by omega
          rw [e, Nat.add_mul]
          omega
        · unfold Said
          rw [show (fr + 1).toNat = fr.toNat + 1 by omega]
          constructor
          · rintro (h | ⟨_, t, h1, h2, h3⟩)
            · exact .inr ⟨hb, fr.toNat + 1, by omega, by omega, h⟩
            · exact .inr ⟨hb, t, by omega, h2, h3⟩
          · rintro (h | ⟨_, t, h1, h2, h3⟩)
            · exact absurd h hno
            · by_cases e : t = fr.toNat + 1
              · subst e; exact .inl h3
              · exact .inr ⟨hb, t, by omega, h2, h3⟩
    · rw [ile_eq] at hb
      have hb := of_decide_eq_false hb
      rintro (h | ⟨h, _⟩)
      · exact hno h
      · exact hb h
theorem goOn_ok : ∀ (f : Nat) {i j b fr : Int}, GoInv p k i j b fr → goMeas p k i fr < f → ((∃ i', N.goOn p k f i j b fr = some i' ∧ 0 ≤ i' ∧ i' ≤ p.length ∧ Mx p k i'.toNat k.length) ↔ Said p k i j b fr)
  | 0, i, j, b, fr, _, hf => by omega
  | f + 1, i, j, b, fr, h, hf => by
    unfold N.goOn
    cases hj : ilt j k.length with
    | false =>
      have hj' := hj
      rw [ilt_eq] at hj'
      have hj' := of_decide_eq_false hj'
      have e : j.toNat = k.length := by have := h.j1; have := h.j0; omega
      simp only [cond_false, Option.some.injEq]
      unfold Said
      rw [e]
      constructor
      · rintro ⟨i', rfl, _, _, h3⟩; exact .inl h3
      · rintro (h3 | ⟨hb, t, h1, h2, h3⟩)
        · exact ⟨i, rfl, h.i0, h.i1, h3⟩
        · rcases h.bk with ⟨e, _⟩ | ⟨c0, c1, c2, c3, c4⟩
          · omega
          · have := h.i1
            obtain ⟨g1, g2⟩ := Mx_far (i.toNat - b.toNat) b.toNat t (by omega) (fun x hx hx2 => c4 x (by omega) (by omega)) h2 h3
            omega
    | true =>
      obtain ⟨s1, s2, s3⟩ := goOn_step f h hj
      simp only [cond_true]
      cases hc : cond (ilt i p.length) (p.getD i.toNat [] == [35]) false with
      | true =>
        obtain ⟨g1, g2, g3⟩ := s1 hc
        simp only [cond_true]
        exact (goOn_ok f g1 (by omega)).trans g3
      | false =>
        simp only [cond_false]
        cases hm : cond (ilt i p.length) (cond (p.getD i.toNat [] == [42]) true (p.getD i.toNat [] == k.getD j.toNat [])) false with
        | true =>
          obtain ⟨g1, g2, g3⟩ := s2 hc hm
          simp only [cond_true]
          exact (goOn_ok f g1 (by omega)).trans g3
        | false =>
          simp only [cond_false]
          obtain ⟨t1, t2⟩ := s3 hc hm
          cases hb : ile 0 b with
          | true =>
            obtain ⟨g1, g2, g3⟩ := t1 hb
            simp only [cond_true]
            exact (goOn_ok f g1 (by omega)).trans g3
          | false => simp only [cond_false, reduceCtorEq, false_and, exists_false, false_iff]; exact t2 hb
theorem goOn_bd : ∀ (f : Nat) {i j b fr i' : Int}, GoInv p k i j b fr → N.goOn p k f i j b fr = some i' → 0 ≤ i' ∧ i' ≤ p.length
  | 0, i, j, b, fr, i', _, h => by cases h
  | f + 1, i, j, b, fr, i', h, he => by
    unfold N.goOn at he
    cases hj : ilt j k.length with
    | false =>
      rw [hj, cond_false, Option.some.injEq] at he
      subst he; exact ⟨h.i0, h.i1⟩
    | true =>
      obtain ⟨s1, s2, s3⟩ := goOn_step f h hj
      rw [hj, cond_true] at he
      cases hc : cond (ilt i p.length) (p.getD i.toNat [] == [35]) false with
      | true => rw [hc, cond_true] at he; exact goOn_bd f (s1 hc).1 he
      | false =>
        rw [hc, cond_false] at he
        cases hm : cond (ilt i p.length) (cond (p.getD i.toNat [] == [42]) true (p.getD i.toNat [] == k.getD j.toNat [])) false with
        | true => rw [hm, cond_true] at he; exact goOn_bd f (s2 hc hm).1 he
        | false =>
          rw [hm, cond_false] at he
          cases hb : ile 0 b with
          | true => rw [hb, cond_true] at he; exact goOn_bd f ((s3 hc hm).1 hb).1 he
          | false => rw [hb] at he; cases he
theorem hashes_ok : ∀ (f : Nat) (i : Int), 0 ≤ i → i ≤ p.length → p.length - i.toNat < f → ((N.hashes p f i == (p.length : Int)) = true ↔ Mx p k i.toNat k.length)
  | 0, i, _, _, h => by omega
  | f + 1, i, h0, h1, h => by
    unfold N.hashes
    by_cases hi : i < p.length
    · rw [ilt_eq, decide_eq_true hi, cond_true]
      by_cases hh : p.getD i.toNat [] = hash
      · rw [show (p.getD i.toNat [] == [35]) = true by simpa using hh, cond_true, hashes_ok f (i + 1) (by omega) (by omega) (by omega), show (i + 1).toNat = i.toNat + 1 by omega, Mx_hash (by omega) hh (Nat.le_refl _)]
        constructor
        · exact fun h => ⟨_, Nat.le_refl _, Nat.le_refl _, h⟩
        · rintro ⟨t, h1, h2, h3⟩
          rwa [show t = k.length by omega] at h3
      · rw [show (p.getD i.toNat [] == [35]) = false by simpa using hh, cond_false, Mx_one (by omega) hh]
        simp; omega
    · rw [ilt_eq, decide_eq_false hi, cond_false, cond_false, show i.toNat = p.length by omega, Mx_end (Nat.le_refl _)]
      simp; omega
end
theorem matchW_iff (p k : List Bytes) : N.matchW p k = true ↔ M p k := by
  have hv : GoInv p k 0 0 (-1) 0 := ⟨by omega, by omega, by omega, by omega, .inl ⟨rfl, rfl⟩⟩
  have h := goOn_ok (N.goFuel p k) hv (by unfold goMeas N.goFuel; simp only [Int.toNat_zero, Nat.sub_zero]; omega)
  have e : Said p k 0 0 (-1) 0 ↔ M p k := by
    unfold Said Mx
    simp
  rw [e] at h
  rw [← h]
  unfold N.matchW
  cases hg : N.goOn p k (N.goFuel p k) 0 0 (-1) 0 with
  | none => simp
  | some i =>
    obtain ⟨g1, g2⟩ := goOn_bd _ hv hg
    rw [hashes_ok (p.length + 1) i g1 g2 (by omega)]
    constructor
    · exact fun h => ⟨i, rfl, g1, g2, h⟩
    · rintro ⟨i', e, _, _, h⟩
      cases e; exact h
theorem matchW_eq (p k : List Bytes) : N.matchW p k = N.refMatches p k := by
  rw [Bool.eq_iff_iff, matchW_iff, refMatches_iff]
end Go.Ev
